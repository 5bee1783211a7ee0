/-
  The statement EnvLast holds of the given program: at every two names and two graphs it answers true and never panics.
  Conditions: those of the given row EnvLastUptoCardSaid alone (what is handed in reads as at most 1048576 values and letters).
-/
import Derived.Test.YtapnoohglfhgeaaGreatDoorP07
import Derived.Test.YtapnoohglfhgeaaGreatDoorP08
import Derived.Test.YtapnoohglfhgeaaGreatDoorP22
import Derived.Test.YtapnoohglfhgeaaGreatDoorP24
import Derived.Test.YtapnoohglfhgeaaGreatDoorP25
import Derived.Deep.Slices
import Derived.Deep.Strs
import Derived.Test.YtapnoohglfhgeaaGreatDoorTie
import Derived.Test.YtapnoohglfhgeaaGreatDoorCards
import Derived.Lib.LaidU8
import Derived.Lay
import Derived.Deep.DeepWitnessRowRef
import Derived.ProofKit
import Derived.OpenShut
import Derived.LaidHandle
import Derived.JoinedCond
import Derived.SevenTiedAt
set_option linter.all false
section
/-
  Arguments laid out: graphs that a call is handed, as abstract memory that nobody turns.
-/
namespace Go.Ab
open Go.RowKit (Below)

section
variable {H : Type} {enc : TypeId × Value → H} {P : Program} {W : World} {G : GM} {h : AHeap}

theorem addG_lt {G : GM} {k : Nat} {gi : GI} {i : Nat} (hi : i ≠ k) : (fun j => if j = k then some gi else G j) i = G i := by simp [hi]
/-- A row that nobody turns, told of anew. -/
theorem Rel.addRo (R : Rel P W.heap.size W G h W) (hw : WF h) {b off size : Nat} {e : TypeId} {c : Array Value} {t : TypeId} {fr : Nat × Nat} {vs : List AVal} (hb : W.heap[b]? = some (.cells c t fr)) (hs : off + size ≤ c.size) (hl : vs.length ≤ size) (hv : VsR P G vs ((c.toList.drop off).take vs.length)) :
    ∃ G', Rel P W.heap.size W G' (newA h (.cells true e vs)) W ∧ GLe G G' ∧ Grow h (newA h (.cells true e vs)) ∧ G' h.next = some ⟨b, size, e, off⟩ ∧ (newA h (.cells true e vs)).objs.get h.next = some (h.next, .cells true e vs) := by
  have hbN : b < W.heap.size := lt_of_heap hb
  let G' : GM := fun j => if j = h.next then some ⟨b, size, e, off⟩ else G j
  have hold : ∀ i, i ≠ h.next → G' i = G i := fun i hi => addG_lt hi
  have hnew : G' h.next = some ⟨b, size, e, off⟩ := if_pos rfl
  have hle : GLe G G' := fun i gi hi => by
    by_cases hk : i = h.next
    · subst hk; rw [R.fresh _ (Nat.le_refl _)] at hi; cases hi
    · rw [hold i hk]; exact hi
  have hcase : ∀ id x, (newA h (.cells true e vs)).objs.get id = some x → (id ≠ h.next ∧ h.objs.get id = some x) ∨ (id = h.next ∧ x = (h.next, .cells true e vs)) := by
    intro id x hx
    rw [new_get] at hx
    split at hx
    · rename_i hk; simp only [Option.some.injEq] at hx; exact .inr ⟨hk, hx.symm⟩
    · rename_i hk; exact .inl ⟨hk, hx⟩
  refine ⟨G', ⟨?_, ?_, ?_, ?_, ?_, ?_, ?_, R.below, R.size, ?_⟩, hle, (Grow.refl hw).new _, hnew, new_get_same _ _⟩
  · intro id ver o hx
    rcases hcase id _ hx with ⟨hk, h1⟩ | ⟨rfl, h1⟩
    · obtain ⟨gi, k1, ob, k2, k3⟩ := R.obj id ver o h1
      exact ⟨gi, by rw [hold id hk]; exact k1, ob, k2, k3.mono hle⟩
    · simp only [Prod.mk.injEq] at h1
      obtain ⟨rfl, rfl⟩ := h1
      exact ⟨_, hnew, _, hb, c, t, fr, rfl, (fun hh => by cases hh), hs, rfl, hl, hv.mono hle⟩
  · intro id id' x x' gi gi' hx hx' hf hg hg' hbb
    rcases hcase id _ hx with ⟨hk, h1⟩ | ⟨rfl, h1⟩
    · rw [hold id hk] at hg
      rcases hcase id' _ hx' with ⟨hk', h1'⟩ | ⟨rfl, h1'⟩
      · rw [hold id' hk'] at hg'
        exact R.inj id id' x x' gi gi' h1 h1' hf hg hg' hbb
      · rw [hnew] at hg'; cases hg'
        have := R.own id x.1 x.2 gi h1 hg hf
        have hbb : gi.blk = b := hbb
        omega
    · rw [h1] at hf; cases hf
  · intro id ver o gi hx hg hf
    rcases hcase id _ hx with ⟨hk, h1⟩ | ⟨rfl, h1⟩
    · rw [hold id hk] at hg; exact R.own id ver o gi h1 hg hf
    · simp only [Prod.mk.injEq] at h1; rw [h1.2] at hf; cases hf
  · intro id hid
    rw [new_next] at hid
    rw [hold id (by omega)]; exact R.fresh id (by omega)
  · intro id ver o hx
    rw [new_next]
    rcases hcase id _ hx with ⟨_, h1⟩ | ⟨_, h1⟩
    · have := R.vers id ver o h1; omega
    · simp only [Prod.mk.injEq] at h1; omega
  · intro g hg
    have := R.low
    rw [hold g (by omega)]; exact R.glob g hg
  · rw [new_next]; have := R.low; omega
  · intro id ver o gi hx hg hr
    rcases hcase id _ hx with ⟨hk, h1⟩ | ⟨rfl, h1⟩
    · rw [hold id hk] at hg; exact R.rolow id ver o gi h1 hg hr
    · rw [hnew] at hg; cases hg; exact hbN

theorem cell_at {w : World} {a : Addr} {v : Value} (h : w.cell? a = some v) : ∃ c t fr, w.heap[a.block]? = some (.cells c t fr) ∧ a.spot = none ∧ c[a.off]? = some v := by
  simp only [World.cell?] at h
  split at h
  · rename_i c t fr hc
    cases hs : a.spot with
    | none => rw [hs] at h; exact ⟨c, t, fr, hc, rfl, by simpa using h⟩
    | some s => rw [hs] at h; simp at h
  · cases h
theorem add_off (a : Addr) (n : Nat) : (a.add n).block = a.block ∧ (a.add n).off = a.off + n := by
  unfold Addr.add; split
  · rename_i hn; subst hn; exact ⟨rfl, rfl⟩
  · exact ⟨rfl, rfl⟩
/-- All cells of a row at once. -/
theorem row_cells {w : World} {a : Addr} {m : Nat} (hm : 0 < m) {V : Nat → Value} (h : ∀ i, i < m → w.cell? (a.add i) = some (V i)) : ∃ c t fr, w.heap[a.block]? = some (.cells c t fr) ∧ a = ⟨a.block, a.off, none⟩ ∧ a.off + m ≤ c.size ∧ ∀ i, i < m → c[a.off + i]? = some (V i) := by
  obtain ⟨c, t, fr, hc, hs, _⟩ := cell_at (h 0 hm)
  have hs : a.spot = none := by
    have : a.add 0 = a := by simp [Addr.add]
    rwa [this] at hs
  rw [(add_off a 0).1] at hc
  have hall : ∀ i, i < m → c[a.off + i]? = some (V i) := fun i hi => by
    obtain ⟨c', t', fr', hc', _, hv⟩ := cell_at (h i hi)
    rw [(add_off a i).1, hc] at hc'
    cases hc'
    rwa [(add_off a i).2] at hv
  refine ⟨c, t, fr, hc, by cases a; simp_all, ?_, hall⟩
  have := hall (m - 1) (by omega)
  have := (Array.getElem?_eq_some_iff.1 this).1
  omega
theorem VsR_of {G : GM} : ∀ {xs : List AVal} {vs : List Value}, vs.length = xs.length → (∀ (i : Nat) x v, xs[i]? = some x → vs[i]? = some v → VR P G x v) → VsR P G xs vs
  | [], [], _, _ => rfl
  | [], _ :: _, h, _ => by simp at h
  | _ :: _, [], h, _ => by simp at h
  | x :: xs, v :: vs, h, hh => ⟨v, vs, rfl, hh 0 x v rfl rfl, VsR_of (by simpa using h) fun i x v hx hv => hh (i + 1) x v (by simpa using hx) (by simpa using hv)⟩
theorem VsR_row {G : GM} {c : Array Value} {off : Nat} {vs : List AVal} (hs : off + vs.length ≤ c.size) (hh : ∀ (i : Nat) x v, vs[i]? = some x → c[off + i]? = some v → VR P G x v) : VsR P G vs ((c.toList.drop off).take vs.length) := by
  refine VsR_of (by simp; omega) fun i x v hx hv => ?_
  have hi := (List.getElem?_eq_some_iff.1 hx).1
  rw [List.getElem?_take, if_pos hi, List.getElem?_drop, Array.getElem?_toList] at hv
  exact hh i x v hx hv
/-- How great a reading is. -/
structure Meas (μ : DataW H → Nat) : Prop where
  agg : ∀ l, (l.map μ).sum + 1 ≤ μ (.agg l)
  slice : ∀ l r, (l.map μ).sum + 1 ≤ μ (.slice l r)
  str : ∀ s, s.length + 1 ≤ μ (.lit (.string s))
  lit : ∀ x, 1 ≤ μ (.lit x)
theorem sum_range_le {f : Nat → Nat} {n : Nat} {l : List Nat} (hl : l.length = n) (h : ∀ i, i < n → l.getD i 0 ≤ f i) : l.sum ≤ ((List.range n).map f).sum := by
  subst hl
  induction l generalizing f with
  | nil => simp
  | cons a l ih =>
    rw [List.length_cons, List.range_succ_eq_map, List.map_cons, List.sum_cons, List.sum_cons, List.map_map]
    have h0 := h 0 (by simp)
    have := ih (f := f ∘ Nat.succ) fun i hi => by simpa using h (i + 1) (by simpa using hi)
    simp only [List.getD_cons_zero] at h0
    omega
theorem sum_ones : ∀ l : List Nat, (l.map fun _ => 1).sum = l.length
  | [] => rfl
  | _ :: l => by simp only [List.map_cons, List.sum_cons, sum_ones l, List.length_cons]; omega
/-- What is known of the memory, and what a value is. -/
def Laid (P : Program) (W : World) (G : GM) (h : AHeap) (Q : GM → AHeap → Prop) : Prop := ∃ G' h', Rel P W.heap.size W G' h' W ∧ GLe G G' ∧ Grow h h' ∧ Q G' h'

theorem lay_ints {μ : DataW H → Nat} (hμ : Meas μ) {t e : TypeId} {fuel : Nat} {v : Value} {x : DataW H × List MemPlace} (ht : P.underlying t = some (.slice e)) (he : P.underlying e = some (.int .i64)) (hc : P.cellsOf e = 1)
    (hx : DataW.trod enc P W 0 (fun _ => true) true fuel t [v] = some x) (R : Rel P W.heap.size W G h W) (hw : WF h) : Laid P W G h fun G' h' => ∃ av l, VR P G' av v ∧ IntsAt h' av l ∧ l.length ≤ μ x.1 := by
  rcases Go.Deep.open_slice1 ht hc hx with ⟨h1, rfl⟩ | ⟨a, len, capx, cap, n, V, D, Pl, h1, hb, hl, hm, hmm, rfl, hx'⟩
  · simp only [List.cons.injEq, and_true] at h1
    subst h1
    exact ⟨G, h, R, GLe.refl G, Grow.refl hw, .slice none 0, [], ⟨rfl, rfl⟩, ⟨rfl, fun i x hx => by simp at hx⟩, by simp⟩
  · simp only [List.cons.injEq, and_true] at h1
    subst h1
    simp only [if_true] at hmm
    subst hmm
    rcases Nat.eq_zero_or_pos cap with h0 | h0
    · subst h0
      obtain rfl : len = 0 := by omega
      exact ⟨G, h, R, GLe.refl G, Grow.refl hw, .slice0, [], ⟨a, rfl⟩, ⟨rfl, fun i x hx => by simp at hx⟩, by simp⟩
    obtain ⟨c, ty, fr, hc1, ha, hsz, hall⟩ := row_cells h0 fun i hi => (hx' i hi).1
    have each : ∀ i, i < cap → ∃ k : Int, V i = .int .i64 k := fun i hi => by
      obtain ⟨k, h1, _⟩ := DataW.trod_int he (hx' i hi).2
      exact ⟨k, by simpa using h1⟩
    obtain ⟨K, hK⟩ := Go.Deep.choose_lt each
    have hlen : ((List.range len).map fun i => AVal.int .i64 (K i)).length = len := by simp
    obtain ⟨G', R', g1, g2, g3, g4⟩ := R.addRo hw (e := e) (off := a.off) (size := cap) (vs := (List.range len).map fun i => AVal.int .i64 (K i)) hc1 hsz (by rw [hlen]; exact hl) (VsR_row (by rw [hlen]; omega) fun i x v hx hv => by
      have hi := (List.getElem?_eq_some_iff.1 hx).1
      rw [hlen] at hi
      rw [hall i (by omega), Option.some.injEq] at hv
      rw [List.getElem?_map, List.getElem?_range hi] at hx
      simp only [Option.map_some, Option.some.injEq] at hx
      rw [← hx, ← hv, hK i (by omega)]; rfl)
    refine ⟨G', _, R', g1, g2, .slice (some (h.next, 0)) len, (List.range len).map K, ⟨_, cap, g3, ?_, hl, ?_⟩, ⟨by simp [lenO], fun i x hx => ?_⟩, ?_⟩
    · rw [ha]; rfl
    · rw [hc]; simp
    · simp only [List.map_map, List.getElem?_map] at hx
      obtain ⟨j, hj, rfl⟩ := Option.map_eq_some_iff.1 hx
      obtain ⟨hij, rfl⟩ := List.getElem?_eq_some_iff.1 hj
      simp only [List.length_range] at hij
      simp only [List.getElem_range]
      refine ⟨rfl, h.next, i, h.next, true, e, _, by simp [slA, hij], g4, ?_⟩
      apply List.ext_getElem?
      intro k
      cases k with
      | zero => simp [List.getElem?_take, List.getElem?_drop, hij, intC]
      | succ k => simp [List.getElem?_take, intC]
    · refine Nat.le_trans ?_ (Nat.le_trans (Nat.le_succ _) (hμ.slice ((List.range len).map D) _))
      have h2 : ((List.range len).map K).length = ((List.range len).map fun _ => 1).sum := by rw [sum_ones]; simp
      have h3 := sum_range_le (f := fun i => μ (D i)) (n := len) (l := (List.range len).map fun _ => 1) (by simp) fun i hi => by
        obtain ⟨k, h1, h2, _⟩ := DataW.trod_int he (hx' i (by omega)).2
        simp only [Prod.mk.injEq] at h2
        simp only [List.getD, List.getElem?_map, List.getElem?_range hi, Option.map_some, Option.getD_some, h2.1]
        exact hμ.lit _
      rw [List.map_map]
      have h4 : ((List.range len).map (μ ∘ D)).sum = ((List.range len).map fun i => μ (D i)).sum := rfl
      omega

theorem lay_strs {μ : DataW H → Nat} (hμ : Meas μ) {t e : TypeId} {fuel : Nat} {v : Value} {x : DataW H × List MemPlace} (ht : P.underlying t = some (.slice e)) (he : P.underlying e = some .string) (hc : P.cellsOf e = 1)
    (hx : DataW.trod enc P W 0 (fun _ => true) true fuel t [v] = some x) (R : Rel P W.heap.size W G h W) (hw : WF h) : Laid P W G h fun G' h' => ∃ av l, VR P G' av v ∧ StrsAt h' av l ∧ (l.map fun s => s.length + 1).sum ≤ μ x.1 := by
  rcases Go.Deep.open_strs ht he hc hx with ⟨h1, rfl⟩ | ⟨a, len, capx, cap, Sx, h1, hb, hl, hm, hmm, rfl, hx'⟩
  · simp only [List.cons.injEq, and_true] at h1
    subst h1
    exact ⟨G, h, R, GLe.refl G, Grow.refl hw, .slice none 0, [], ⟨rfl, rfl⟩, ⟨rfl, fun i x hx => by simp at hx⟩, by simp⟩
  · simp only [List.cons.injEq, and_true] at h1
    subst h1
    simp only [if_true] at hmm
    subst hmm
    rcases Nat.eq_zero_or_pos cap with h0 | h0
    · subst h0
      obtain rfl : len = 0 := by omega
      exact ⟨G, h, R, GLe.refl G, Grow.refl hw, .slice0, [], ⟨a, rfl⟩, ⟨rfl, fun i x hx => by simp at hx⟩, by simp⟩
    obtain ⟨c, ty, fr, hc1, ha, hsz, hall⟩ := row_cells h0 fun i hi => (hx' i hi).1
    let K : Nat → List Nat := fun i => (Sx i).data.toList.map UInt8.toNat
    have hlen : ((List.range len).map fun i => AVal.str (K i)).length = len := by simp
    obtain ⟨G', R', g1, g2, g3, g4⟩ := R.addRo hw (e := e) (off := a.off) (size := cap) (vs := (List.range len).map fun i => AVal.str (K i)) hc1 hsz (by rw [hlen]; exact hl) (VsR_row (by rw [hlen]; omega) fun i x v hx hv => by
      have hi := (List.getElem?_eq_some_iff.1 hx).1
      rw [hlen] at hi
      rw [hall i (by omega), Option.some.injEq] at hv
      rw [List.getElem?_map, List.getElem?_range hi] at hx
      simp only [Option.map_some, Option.some.injEq] at hx
      rw [← hx, ← hv]
      exact ⟨Sx i, rfl, rfl⟩)
    refine ⟨G', _, R', g1, g2, .slice (some (h.next, 0)) len, (List.range len).map K, ⟨_, cap, g3, ?_, hl, ?_⟩, ⟨by simp [lenO], fun i x hx => ?_⟩, ?_⟩
    · rw [ha]; rfl
    · rw [hc]; simp
    · simp only [List.map_map, List.getElem?_map] at hx
      obtain ⟨j, hj, rfl⟩ := Option.map_eq_some_iff.1 hx
      obtain ⟨hij, rfl⟩ := List.getElem?_eq_some_iff.1 hj
      simp only [List.length_range] at hij
      simp only [List.getElem_range]
      refine ⟨rfl, h.next, i, h.next, true, e, _, by simp [slA, hij], g4, ?_⟩
      apply List.ext_getElem?
      intro k
      cases k with
      | zero => simp [List.getElem?_take, List.getElem?_drop, hij, strC]
      | succ k => simp [List.getElem?_take, strC]
    · refine Nat.le_trans ?_ (Nat.le_trans (Nat.le_succ _) (hμ.slice ((List.range len).map fun i => DataW.lit (.string (Sx i).data.toList)) _))
      rw [List.map_map, List.map_map]
      have h3 := sum_range_le (f := fun i => μ (DataW.lit (.string (Sx i).data.toList))) (n := len) (l := (List.range len).map ((fun s => s.length + 1) ∘ K)) (by simp) fun i hi => by
        simp only [List.getD, List.getElem?_map, List.getElem?_range hi, Option.map_some, Option.getD_some]
        have := hμ.str (Sx i).data.toList
        simpa [K] using this
      have h4 : ((List.range len).map (μ ∘ fun i => DataW.lit (.string (Sx i).data.toList))).sum = ((List.range len).map fun i => μ (DataW.lit (.string (Sx i).data.toList))).sum := rfl
      omega

/-- Of what sort the types are that graphs are made of. -/
structure GTypes (P : Program) (tG tNs tN tI tS tB tIs tSs : TypeId) : Prop where
  int : P.underlying tI = some (.int .i64)
  str : P.underlying tS = some .string
  bool : P.underlying tB = some .bool
  ints : P.underlying tIs = some (.slice tI)
  strs : P.underlying tSs = some (.slice tS)
  nodes : P.underlying tNs = some (.slice tN)
  node : ∃ f0 f1 f2 f3 f4, P.underlying tN = some (.struct #[f0, f1, f2, f3, f4]) ∧ (f0.type = tI ∧ f0.offset = 0) ∧ (f1.type = tS ∧ f1.offset = 1) ∧ (f2.type = tIs ∧ f2.offset = 2) ∧ (f3.type = tSs ∧ f3.offset = 3) ∧ (f4.type = tB ∧ f4.offset = 4)
  graph : ∃ f0 f1, P.underlying tG = some (.struct #[f0, f1]) ∧ (f0.type = tNs ∧ f0.offset = 0) ∧ (f1.type = tI ∧ f1.offset = 1)
  cI : P.cellsOf tI = 1
  cS : P.cellsOf tS = 1
  cB : P.cellsOf tB = 1
  cIs : P.cellsOf tIs = 1
  cSs : P.cellsOf tSs = 1
  cNs : P.cellsOf tNs = 1
  cN : P.cellsOf tN = 5
  cG : P.cellsOf tG = 2
def nodeSize (n : Node) : Nat := 1 + n.args.length + (n.labels.map fun s => s.length + 1).sum
def gsize (g : Graph) : Nat := (g.nodes.map nodeSize).sum
theorem cut1 {cs : List Value} {o : Nat} {v : Value} (h : (cs.drop o).take 1 = [v]) : cs[o]? = some v := by
  have := congrArg (fun l => l[0]?) h
  simpa using this
theorem five {cs : List Value} (h : cs.length = 5) {a b c d e : Value} (h0 : cs[0]? = some a) (h1 : cs[1]? = some b) (h2 : cs[2]? = some c) (h3 : cs[3]? = some d) (h4 : cs[4]? = some e) : cs = [a, b, c, d, e] := by
  match cs, h with
  | [a', b', c', d', e'], _ => simp at h0 h1 h2 h3 h4; subst h0; subst h1; subst h2; subst h3; subst h4; rfl
theorem drop_one {cs : List Value} {o : Nat} (h : o < cs.length) : (cs.drop o).take 1 = [cs[o]] := by
  rw [List.drop_eq_getElem_cons h]; rfl
/-- A node's cells. -/
theorem lay_node {tG tNs tN tI tS tB tIs tSs : TypeId} (T : GTypes P tG tNs tN tI tS tB tIs tSs) {μ : DataW H → Nat} (hμ : Meas μ) {fuel : Nat} {cs : List Value} {x : DataW H × List MemPlace} (hx : DataW.trod enc P W 0 (fun _ => true) true fuel tN cs = some x) (R : Rel P W.heap.size W G h W) (hw : WF h) :
    Laid P W G h fun G' h' => ∃ (n : Node) (c : List AVal), VsR P G' c cs ∧ c.length = 5 ∧ NodeAt h' c n ∧ nodeSize n ≤ μ x.1 := by
  obtain ⟨f0, f1, f2, f3, f4, hs, ⟨t0, o0⟩, ⟨t1, o1⟩, ⟨t2, o2⟩, ⟨t3, o3⟩, ⟨t4, o4⟩⟩ := T.node
  obtain ⟨xs, n, _, rfl, hl, hxs, hf⟩ := DataW.trod_struct hs hx
  rw [T.cN] at hl
  have k0 := hf 0 f0 rfl
  have k1 := hf 1 f1 rfl
  have k2 := hf 2 f2 rfl
  have k3 := hf 3 f3 rfl
  have k4 := hf 4 f4 rfl
  rw [t0, o0, T.cI, drop_one (by omega)] at k0
  rw [t1, o1, T.cS, drop_one (by omega)] at k1
  rw [t2, o2, T.cIs, drop_one (by omega)] at k2
  rw [t3, o3, T.cSs, drop_one (by omega)] at k3
  rw [t4, o4, T.cB, drop_one (by omega)] at k4
  match xs, hxs with
  | [y0, y1, y2, y3, y4], _ =>
    simp only [List.getElem?_cons_zero, List.getElem?_cons_succ] at k0 k1 k2 k3 k4
    obtain ⟨kd, q0, r0, _⟩ := DataW.trod_int T.int k0
    obtain ⟨nm, q1, r1, _⟩ := DataW.trod_string T.str k1
    obtain ⟨op, q4, r4⟩ := DataW.trod_bool T.bool k4
    simp only [List.cons.injEq, and_true] at q0 q1 q4
    obtain ⟨G1, h1, R1, g1, w1, av, l, hav, hl1, hs1⟩ := lay_ints hμ T.ints T.int T.cI k2 R hw
    obtain ⟨G2, h2, R2, g2, w2, lv, ls, hlv, hl2, hs2⟩ := lay_strs hμ T.strs T.str T.cS k3 R1 w1.wf
    refine ⟨G2, h2, R2, g1.trans g2, w1.trans w2, ⟨kd, nm.data.toList.map UInt8.toNat, l, ls, op⟩, [.int .i64 kd, .str (nm.data.toList.map UInt8.toNat), av, lv, .bool op], ?_, rfl, ⟨av, lv, rfl, hl1.mono w2, hl2⟩, ?_⟩
    · have hcs := five hl (List.getElem?_eq_getElem (by omega)) (List.getElem?_eq_getElem (by omega)) (List.getElem?_eq_getElem (by omega)) (List.getElem?_eq_getElem (by omega)) (List.getElem?_eq_getElem (by omega))
      rw [hcs, q0, q1, q4]
      exact ⟨_, _, rfl, rfl, _, _, rfl, ⟨nm, rfl, rfl⟩, _, _, rfl, hav.mono g2, _, _, rfl, hlv, _, _, rfl, rfl, rfl⟩
    · have := hμ.agg [y0.1, y1.1, y2.1, y3.1, y4.1]
      have e0 : 1 ≤ μ y0.1 := by rw [r0]; exact hμ.lit _
      simp only [List.map_cons, List.map_nil, List.sum_cons, List.sum_nil] at this ⊢
      simp only [nodeSize]
      omega
theorem cells_len {w : World} {base : Nat} {a : Addr} {n : Nat} {cs : List Value} (h : w.cells? base a n = some cs) : cs.length = n ∧ ∀ j, j < n → w.cell? (a.add j) = cs[j]? := by
  simp only [World.cells?] at h
  split at h
  · exact ⟨by simpa using mapM_some_length h, fun j hj => by simpa using mapM_some_get h j j (by simp [hj])⟩
  · cases h
theorem add_add (a : Addr) (n m : Nat) (hs : a.spot = none) : (a.add n).add m = a.add (n + m) := by
  obtain ⟨b, o, s⟩ := a
  simp only at hs
  subst hs
  unfold Addr.add
  by_cases hn : n = 0
  · subst hn; simp
  · by_cases hm : m = 0
    · subst hm; simp
    · simp [hn, hm, Nat.add_assoc]
/-- Rows of nodes, one by one. -/
theorem lay_rows {tG tNs tN tI tS tB tIs tSs : TypeId} (T : GTypes P tG tNs tN tI tS tB tIs tSs) {μ : DataW H → Nat} (hμ : Meas μ) {fuel : Nat} {C : Nat → List Value} {D : Nat → DataW H} {Pl : Nat → List MemPlace} : ∀ (len : Nat), (∀ i, i < len → DataW.trod enc P W 0 (fun _ => true) true fuel tN (C i) = some (D i, Pl i)) → Rel P W.heap.size W G h W → WF h →
    Laid P W G h fun G' h' => ∃ (ns : List Node) (cs : List (List AVal)), ns.length = len ∧ cs.length = len ∧ (∀ i c, cs[i]? = some c → c.length = 5 ∧ VsR P G' c (C i)) ∧ (∀ (i : Nat) n c, ns[i]? = some n → cs[i]? = some c → NodeAt h' c n) ∧ (ns.map nodeSize).sum ≤ ((List.range len).map fun i => μ (D i)).sum
  | 0, _, R, hw => ⟨G, h, R, GLe.refl G, Grow.refl hw, [], [], rfl, rfl, fun i c hc => by simp at hc, fun i n c hn => by simp at hn, by simp⟩
  | len + 1, hx, R, hw => by
    obtain ⟨G1, h1, R1, g1, w1, ns, cs, hn, hc, hv, ha, hs⟩ := lay_rows T hμ len (fun i hi => hx i (by omega)) R hw
    obtain ⟨G2, h2, R2, g2, w2, n, c, hcv, hcl, hna, hsz⟩ := lay_node T hμ (hx len (by omega)) R1 w1.wf
    refine ⟨G2, h2, R2, g1.trans g2, w1.trans w2, ns ++ [n], cs ++ [c], by simp [hn], by simp [hc], fun i d hd => ?_, fun i m d hm hd => ?_, ?_⟩
    · rcases Nat.lt_or_ge i len with hi | hi
      · rw [List.getElem?_append_left (by omega)] at hd
        obtain ⟨q1, q2⟩ := hv i d hd
        exact ⟨q1, q2.mono g2⟩
      · rw [List.getElem?_append_right (by omega), hc] at hd
        obtain rfl : i = len := by
          have := (List.getElem?_eq_some_iff.1 hd).1
          simp at this; omega
        rw [Nat.sub_self, List.getElem?_cons_zero, Option.some.injEq] at hd
        subst hd
        exact ⟨hcl, hcv⟩
    · rcases Nat.lt_or_ge i len with hi | hi
      · rw [List.getElem?_append_left (by omega)] at hd hm
        exact (ha i m d hm hd).mono w2
      · rw [List.getElem?_append_right (by omega), hc] at hd
        rw [List.getElem?_append_right (by omega), hn] at hm
        obtain rfl : i = len := by
          have := (List.getElem?_eq_some_iff.1 hd).1
          simp at this; omega
        rw [Nat.sub_self, List.getElem?_cons_zero, Option.some.injEq] at hd hm
        subst hd; subst hm
        exact hna
    · rw [List.map_append, List.sum_append, List.range_succ, List.map_append, List.sum_append]
      simp only [List.map_cons, List.map_nil, List.sum_cons, List.sum_nil]
      simp only at hsz
      omega

theorem flat_cut {sz : Nat} : ∀ (ys : List (List AVal)), (∀ c ∈ ys, c.length = sz) → ∀ (j : Nat) (hj : j < ys.length), (ys.flatten.drop (j * sz)).take sz = ys[j]
  | [], _, j, hj => by simp at hj
  | y :: ys, hall, 0, _ => by simp [← hall y (by simp)]
  | y :: ys, hall, j + 1, hj => by
    have hy : y.length = sz := hall y (by simp)
    have e1 : (j + 1) * sz - y.length = j * sz := by rw [hy, Nat.succ_mul]; omega
    have e2 : y.drop ((j + 1) * sz) = [] := List.drop_eq_nil_of_le (by rw [hy, Nat.succ_mul]; omega)
    rw [List.flatten_cons, List.drop_append, e1, e2, List.nil_append, List.getElem_cons_succ]
    exact flat_cut ys (fun c hc => hall c (by simp [hc])) j (by simpa using hj)
theorem flat_len {sz : Nat} : ∀ (ys : List (List AVal)), (∀ c ∈ ys, c.length = sz) → ys.flatten.length = ys.length * sz
  | [], _ => by simp
  | y :: ys, h => by
    rw [List.flatten_cons, List.length_append, flat_len ys fun c hc => h c (by simp [hc]), h y (by simp), List.length_cons, Nat.succ_mul]; omega
theorem flat_get {ys : List (List AVal)} (hall : ∀ c ∈ ys, c.length = 5) {k : Nat} {x : AVal} (hk : ys.flatten[k]? = some x) : ∃ c, ys[k / 5]? = some c ∧ c[k % 5]? = some x := by
  have hlt := (List.getElem?_eq_some_iff.1 hk).1
  rw [flat_len ys hall] at hlt
  have hj : k / 5 < ys.length := by omega
  refine ⟨ys[k / 5], List.getElem?_eq_getElem hj, ?_⟩
  rw [← flat_cut ys hall (k / 5) hj, List.getElem?_take, if_pos (by omega), List.getElem?_drop, show k / 5 * 5 + k % 5 = k by omega]
  exact hk
theorem lay_nodes {tG tNs tN tI tS tB tIs tSs : TypeId} (T : GTypes P tG tNs tN tI tS tB tIs tSs) {μ : DataW H → Nat} (hμ : Meas μ) {fuel : Nat} {v : Value} {x : DataW H × List MemPlace} (hx : DataW.trod enc P W 0 (fun _ => true) true fuel tNs [v] = some x) (R : Rel P W.heap.size W G h W) (hw : WF h) :
    Laid P W G h fun G' h' => ∃ (nv : AVal) (ns : List Node), VR P G' nv v ∧ NodesAt h' nv ns ∧ (ns.map nodeSize).sum ≤ μ x.1 := by
  rcases Go.Deep.open_slice T.nodes hx with ⟨h1, rfl⟩ | ⟨a, len, capx, cap, n, D, Pl, h1, hb, hl, hm, hmm, rfl, hx'⟩
  · simp only [List.cons.injEq, and_true] at h1
    subst h1
    exact ⟨G, h, R, GLe.refl G, Grow.refl hw, .slice none 0, [], ⟨rfl, rfl⟩, ⟨[], ⟨rfl, fun i x hx => by simp at hx⟩, rfl, fun i n c hn => by simp at hn⟩, by simp⟩
  · simp only [List.cons.injEq, and_true] at h1
    subst h1
    simp only [if_true] at hmm
    subst hmm
    rcases Nat.eq_zero_or_pos cap with h0 | h0
    · subst h0
      obtain rfl : len = 0 := by omega
      exact ⟨G, h, R, GLe.refl G, Grow.refl hw, .slice0, [], ⟨a, rfl⟩, ⟨[], ⟨rfl, fun i x hx => by simp at hx⟩, rfl, fun i n c hn => by simp at hn⟩, by simp⟩
    rw [T.cN] at hx'
    obtain ⟨C, hC⟩ := Go.Deep.choose_lt hx'
    have hC5 : ∀ i, i < cap → (C i).length = 5 ∧ ∀ j, j < 5 → W.cell? ((a.add (i * 5)).add j) = (C i)[j]? := fun i hi => cells_len (hC i hi).1
    have hspot : a.spot = none := by
      obtain ⟨q1, q2⟩ := hC5 0 h0
      have := q2 0 (by omega)
      rw [Nat.zero_mul, show a.add 0 = a by simp [Addr.add], show a.add 0 = a by simp [Addr.add], List.getElem?_eq_getElem (by omega)] at this
      obtain ⟨_, _, _, _, hs, _⟩ := cell_at this
      exact hs
    obtain ⟨c, ty, fr, hc1, ha, hsz, hall⟩ := row_cells (w := W) (a := a) (m := cap * 5) (by omega) (V := fun k => (C (k / 5)).getD (k % 5) default) fun k hk => by
      obtain ⟨q1, q2⟩ := hC5 (k / 5) (by omega)
      have := q2 (k % 5) (by omega)
      rw [add_add _ _ _ hspot, show k / 5 * 5 + k % 5 = k by omega] at this
      rw [this, List.getElem?_eq_getElem (by omega), List.getD, List.getElem?_eq_getElem (by omega)]; rfl
    obtain ⟨G1, h1, R1, g1, w1, ns, cs, hn, hc, hv, hna, hs⟩ := lay_rows T hμ len (fun i hi => (hC i (by omega)).2) R hw
    have hcs5 : ∀ d ∈ cs, d.length = 5 := fun d hd => by
      obtain ⟨i, hi, rfl⟩ := List.mem_iff_getElem.1 hd
      exact (hv i _ (List.getElem?_eq_getElem hi)).1
    have hfl := flat_len cs hcs5
    obtain ⟨G', R', g2, w2, g3, g4⟩ := R1.addRo w1.wf (e := tN) (off := a.off) (size := cap * 5) (vs := cs.flatten) hc1 hsz (by rw [hfl, hc]; omega) (VsR_row (by rw [hfl, hc]; omega) fun k x v hx hv' => by
      have hk := (List.getElem?_eq_some_iff.1 hx).1
      rw [hfl, hc] at hk
      rw [hall k (by omega), Option.some.injEq] at hv'
      obtain ⟨d, hd1, hd2⟩ := flat_get hcs5 hx
      obtain ⟨_, hd3⟩ := hv _ _ hd1
      obtain ⟨u, hu1, hu2⟩ := hd3.get hd2
      rw [← hv', List.getD, hu1]
      exact hu2)
    refine ⟨G', _, R', g1.trans g2, w1.trans w2, .slice (some (h1.next, 0)) len, ns, ⟨_, cap, g3, ?_, hl, ?_⟩, ⟨cs, ⟨by simp [lenO, hc], fun i d hd => ?_⟩, by omega, fun i n d hn' hd => (hna i n d hn' hd).mono w2⟩, ?_⟩
    · rw [ha]; rfl
    · rw [T.cN]; simp
    · have hi := (List.getElem?_eq_some_iff.1 hd).1
      have hd' := (List.getElem?_eq_some_iff.1 hd).2
      refine ⟨hcs5 d (List.mem_of_getElem? hd), h1.next, i * 5, h1.next, true, tN, _, by simp [slA]; omega, g4, ?_⟩
      rw [flat_cut cs hcs5 i hi, hd']
    · refine Nat.le_trans hs ?_
      refine Nat.le_trans ?_ (Nat.le_trans (Nat.le_succ _) (hμ.slice ((List.range len).map D) _))
      rw [List.map_map]
      exact Nat.le_refl _
/-- **A graph that a call is handed.** -/
theorem lay_graph {tG tNs tN tI tS tB tIs tSs : TypeId} (T : GTypes P tG tNs tN tI tS tB tIs tSs) {μ : DataW H → Nat} (hμ : Meas μ) {cs : Array Value} {d : DataW H} {ps : List MemPlace} (hx : DataW.Trod enc P W 0 (fun _ => true) true tG (.agg cs) d ps) (R : Rel P W.heap.size W G h W) (hw : WF h) :
    Laid P W G h fun G' h' => ∃ (v : AVal) (g : Graph), VR P G' v (.agg cs) ∧ GraphAt h' v g ∧ gsize g ≤ μ d := by
  obtain ⟨fuel, hx⟩ := hx
  obtain ⟨f0, f1, hs, ⟨t0, o0⟩, ⟨t1, o1⟩⟩ := T.graph
  obtain ⟨xs, n, _, hx1, hl, hxs, hf⟩ := DataW.trod_struct hs hx
  rw [T.cG] at hl
  have hl : cs.toList.length = 2 := hl
  have k0 := hf 0 f0 rfl
  have k1 := hf 1 f1 rfl
  have hcs : (Value.agg cs).cells.toList = cs.toList := rfl
  rw [hcs] at k0 k1
  rw [t0, o0, T.cNs, drop_one (by omega)] at k0
  rw [t1, o1, T.cI, drop_one (by omega)] at k1
  match xs, hxs with
  | [y0, y1], _ =>
    simp only [List.getElem?_cons_zero, List.getElem?_cons_succ] at k0 k1
    obtain ⟨rt, q1, r1, _⟩ := DataW.trod_int T.int k1
    simp only [List.cons.injEq, and_true] at q1
    obtain ⟨G1, h1, R1, g1, w1, nv, ns, hv, hN, hsz⟩ := lay_nodes T hμ k0 R hw
    refine ⟨G1, h1, R1, g1, w1, .agg [nv, .int .i64 rt], ⟨ns, rt⟩, ⟨cs, rfl, ?_⟩, ⟨nv, rfl, hN⟩, ?_⟩
    · match hh : cs.toList, hl with
      | [u0, u1], _ =>
        simp only [hh, List.getElem_cons_zero, List.getElem_cons_succ] at hv q1
        exact ⟨_, _, rfl, hv, _, _, rfl, q1, rfl⟩
    · simp only [Prod.mk.injEq] at hx1
      rw [hx1.1]
      have := hμ.agg ([y0, y1].map (·.1))
      simp only [List.map_cons, List.map_nil, List.sum_cons, List.sum_nil] at this ⊢
      simp only [gsize]
      omega
end
end Go.Ab
end
section
/-
  What a row's facts give the walk; the world that the row's condition is met in.
-/
namespace Go.Proofs
open Go Go.Ab Go.Ab.S
open Go.RowKit (Below)
def asciiZ : List Int := (List.range 256).map fun i => if i == 32 || (9 ≤ i && i ≤ 13) then 1 else 0
theorem ascii_eq : (YtapnoohglfhgeaaGreatDoor.Rows.laid_strings_asciiSpace : DataW Unit) = Lib.tabData .u8 asciiZ := by kernel_rfl
theorem pow_eq : (YtapnoohglfhgeaaGreatDoor.Rows.laid_internal_strconv_uint64pow10 : DataW Unit) = Lib.tabData .u64 Lib.pow10Tab := by kernel_rfl
theorem g1 : Tryz.prog.globalNamed "strings.asciiSpace" = some 1 := by kernel_rfl
theorem g8 : Tryz.prog.globalNamed "internal/strconv.uint64pow10" = some 8 := by kernel_rfl
theorem g1t : (Tryz.prog.globals[1]?).map (·.type) = some 272 := by kernel_rfl
theorem g8t : (Tryz.prog.globals[8]?).map (·.type) = some 327 := by kernel_rfl
theorem tab_var {P : Program} {W : World} {name : String} {k : IntKind} {zs : List Int} {g : Nat} {t e : TypeId} {n : Nat}
    (hg : P.globalNamed name = some g) (hty : (P.globals[g]?).map (·.type) = some t) (ht : P.underlying t = some (.array n e)) (he : P.underlying e = some (.int k)) (hce : P.cellsOf e = 1) (hct : P.cellsOf t = n)
    (h : Lib.VarReads P W name (Lib.tabData k zs)) : Lib.TabIs P W name k zs := by
  obtain ⟨g', t', cs, fuel, p, hg', ht', hvar, hd⟩ := h
  obtain rfl := Option.some.inj (hg.symm.trans hg')
  obtain rfl := Option.some.inj (hty.symm.trans ht')
  unfold Lib.TabIs
  rw [hvar, ← Lib.cells_of_tab ht he hce hct hd]
theorem TabIs.below {P : Program} {W w : World} {N : Nat} {name : String} {k : IntKind} {zs : List Int} {g : Nat} (hg : P.globalNamed name = some g) (hN : g < N) (h : Lib.TabIs P W name k zs) (b : Below N W w) : Lib.TabIs P w name k zs := by
  unfold Lib.TabIs World.var? at h ⊢
  rw [hg] at h ⊢
  simp only [Option.bind_some] at h ⊢
  rw [b.block g hN]; exact h
theorem TabIs.block {P : Program} {W : World} {name : String} {k : IntKind} {zs : List Int} {g : Nat} (hg : P.globalNamed name = some g) (h : Lib.TabIs P W name k zs) : ∃ e fr, W.heap[g]? = some (.cells (zs.map fun z => Value.int k z).toArray e fr) := by
  unfold Lib.TabIs World.var? at h
  rw [hg] at h
  simp only [Option.bind_some] at h
  split at h
  · rename_i cs e fr hh
    simp only [Option.some.injEq] at h
    exact ⟨e, fr, by rw [hh, h]⟩
  · cases h
theorem VsR_ints {P : Program} {G : GM} {k : IntKind} : ∀ zs : List Int, VsR P G (zs.map fun z => AVal.int k z) (zs.map fun z => Value.int k z)
  | [] => rfl
  | z :: zs => ⟨_, _, rfl, rfl, VsR_ints zs⟩
theorem tab_asc : tabA = asciiZ.map fun z => AVal.int .u8 z := by
  unfold tabA asciiZ
  rw [List.map_map]
  refine List.map_congr_left fun i _ => ?_
  show AVal.int .u8 (if _ then 1 else 0) = AVal.int .u8 (if _ then 1 else 0)
  rfl
theorem wok {W : World} (hL : laidMetH Tryz.prog laids W) (hS : W.ShapedOpen Tryz.prog) (hN : Tryz.prog.globals.size ≤ W.heap.size) : WOK W := by
  have hp := (laidMetH_iff.1 hL).1
  have a1 : Lib.TabIs Tryz.prog W "strings.asciiSpace" .u8 asciiZ := by
    refine tab_var (e := 5) (n := 256) g1 g1t (by kernel_rfl) (by kernel_rfl) (by kernel_rfl) (by kernel_rfl) ?_
    rw [← ascii_eq]
    exact Lib.laidMet.reads hp (List.mem_filter.2 ⟨List.mem_of_getElem? (i := 8) rfl, by kernel_rfl⟩)
  have a8 : Lib.TabIs Tryz.prog W "internal/strconv.uint64pow10" .u64 Lib.pow10Tab := by
    refine tab_var (e := 172) (n := 20) g8 g8t (by kernel_rfl) (by kernel_rfl) (by kernel_rfl) (by kernel_rfl) ?_
    rw [← pow_eq]
    exact Lib.laidMet.reads hp (List.mem_filter.2 ⟨List.mem_of_getElem? (i := 2) rfl, by kernel_rfl⟩)
  refine ⟨cell_of_shapedOpen_int (zero := #[.int .i64 0]) (t := 3) hS (of_decide_eq_true (by kernel_rfl)) (by kernel_rfl) rfl (by kernel_rfl) (by kernel_rfl) Tryz.underlying3, ?_, ?_, hN⟩
  · obtain ⟨e, fr, hb⟩ := TabIs.block g1 a1
    refine ⟨by rw [globs12]; decide, by rw [globs12]; decide, hN, by decide, _, e, fr, hb, ?_, ?_⟩
    · rw [tab_asc]; simp
    rw [tab_asc, List.length_map]
    show VsR _ _ _ (List.take _ (asciiZ.map _))
    rw [List.take_of_length_le (by simp)]
    exact VsR_ints _
  · exact fun w hb => TabIs.below g8 (by have := globs12; omega) a8 hb
end Go.Proofs
end
section
/-
  A call begins: what is handed is laid out; and ends: what was handed reads as it did.
-/
namespace Go.Proofs
open Go Go.Ab Go.Ab.S
open Go.RowKit (Below)
open Go.ChangeShapes Go.WideShapes Go.ChangeAt
theorem bigT_le (s : List Nat) : bigT s ≤ 1000 := by unfold bigT; split <;> omega
theorem sum_big : ∀ l : List (List Nat), l.length ≤ (l.map fun s => s.length + 1).sum ∧ sumL bigT l ≤ 1000 * (l.map fun s => s.length + 1).sum ∧ ∀ s ∈ l, s.length ≤ (l.map fun s => s.length + 1).sum
  | [] => ⟨by simp, by simp [sumL], fun s hs => by cases hs⟩
  | s :: l => by
    obtain ⟨h1, h2, h3⟩ := sum_big l
    have := bigT_le s
    refine ⟨by simp only [List.map_cons, List.sum_cons, List.length_cons]; omega, by simp only [List.map_cons, List.sum_cons, sumL]; omega, fun t ht => ?_⟩
    simp only [List.map_cons, List.sum_cons]
    rcases List.mem_cons.1 ht with rfl | ht
    · omega
    · have := h3 t ht; omega
theorem greatN_le (n : Ab.Node) : greatN n ≤ 3000 * nodeSize n := by
  have := sum_big n.labels
  have := bigT_le n.name
  simp only [greatN, nodeSize]; omega
theorem great_le : ∀ ns : List Ab.Node, ns.length ≤ (ns.map nodeSize).sum ∧ sumL greatN ns ≤ 3000 * (ns.map nodeSize).sum ∧ ∀ n ∈ ns, nodeSize n ≤ (ns.map nodeSize).sum
  | [] => ⟨by simp, by simp [sumL], fun s hs => by cases hs⟩
  | n :: l => by
    obtain ⟨h1, h2, h3⟩ := great_le l
    have h4 := greatN_le n
    have h5 : 1 ≤ nodeSize n := by simp only [nodeSize]; omega
    refine ⟨by simp only [List.map_cons, List.sum_cons, List.length_cons]; omega, by simp only [List.map_cons, List.sum_cons, sumL]; omega, fun t ht => ?_⟩
    simp only [List.map_cons, List.sum_cons]
    rcases List.mem_cons.1 ht with rfl | ht
    · omega
    · have := h3 t ht; omega
theorem sane_of {g : Graph} (h : gsize g ≤ 1048576) : Sane g := by
  have e60 : (2 : Nat) ^ 60 = 1152921504606846976 := by decide
  have h' : (g.nodes.map nodeSize).sum ≤ 1048576 := h
  obtain ⟨h1, h2, h3⟩ := great_le g.nodes
  refine ⟨by simp only [greatF]; omega, ⟨by omega, fun n hn => ?_⟩⟩
  have k := h3 n hn
  obtain ⟨j1, j2, j3⟩ := sum_big n.labels
  simp only [nodeSize] at k
  exact ⟨by omega, by omega, fun s hs => by have := j3 s hs; omega⟩
theorem gtypes : GTypes Tryz.prog 24 22 60 3 9 4 58 38 where
  int := Tryz.underlying3
  str := Tryz.underlying9
  bool := Tryz.underlying4
  ints := Tryz.underlying58
  strs := Tryz.underlying38
  nodes := Tryz.underlying22
  node := ⟨_, _, _, _, _, Tryz.underlying60, ⟨rfl, rfl⟩, ⟨rfl, rfl⟩, ⟨rfl, rfl⟩, ⟨rfl, rfl⟩, rfl, rfl⟩
  graph := ⟨_, _, Tryz.underlying24, ⟨rfl, rfl⟩, rfl, rfl⟩
  cI := by kernel_rfl
  cS := by kernel_rfl
  cB := by kernel_rfl
  cIs := by kernel_rfl
  cSs := by kernel_rfl
  cNs := by kernel_rfl
  cN := by kernel_rfl
  cG := by kernel_rfl
open YtapnoohglfhgeaaGreatDoor.Rows in
theorem bulkAll_sum {H : Type} : ∀ l : List (DataW H), uptoBulkAll l = (l.map uptoBulk).sum
  | [] => rfl
  | d :: l => by rw [uptoBulkAll, bulkAll_sum l]; rfl
open YtapnoohglfhgeaaGreatDoor.Rows in
theorem meas (H : Type) : Meas (uptoBulk (H := H)) where
  agg := fun l => by rw [uptoBulk, bulkAll_sum]; exact Nat.le_refl _
  slice := fun l r => by rw [uptoBulk, bulkAll_sum]; omega
  str := fun s => by rw [uptoBulk]; exact Nat.le_refl _
  lit := fun x => by unfold uptoBulk; split <;> omega
def hZero : AHeap := { objs := .leaf, next := 12 }
def gZero : GM := fun g => if g < 12 then some ⟨g, 0, 0, 0⟩ else none
theorem wf_zero : WF hZero := fun b _ => T.get_leaf b
theorem rel_zero {W : World} (hN : Tryz.prog.globals.size ≤ W.heap.size) : Rel Tryz.prog W.heap.size W gZero hZero W where
  obj := fun id ver o hx => by simp [hZero, T.get_leaf] at hx
  inj := fun id id' x x' gi gi' hx => by simp [hZero, T.get_leaf] at hx
  own := fun id ver o gi hx => by simp [hZero, T.get_leaf] at hx
  fresh := fun id hi => by
    have : ¬ id < 12 := by simp only [hZero] at hi; omega
    simp [gZero, this]
  vers := fun id ver o hx => by simp [hZero, T.get_leaf] at hx
  glob := fun g hg => by rw [globs12] at hg; exact ⟨_, if_pos hg, rfl, rfl⟩
  low := by rw [globs12]; exact Nat.le_refl _
  below := Below.refl _ _
  size := Nat.le_refl _
  rolow := fun id ver o gi hx => by simp [hZero, T.get_leaf] at hx
theorem globs_le {W : World} (hS : W.ShapedOpen Tryz.prog) : Tryz.prog.globals.size ≤ W.heap.size := by
  have h1 : (((begin Tryz.prog (fun _ _ => 0) default).world.heap[11]?).bind Obj.row?).isSome = true := by kernel_rfl
  obtain ⟨⟨z, t⟩, hz⟩ := Option.isSome_iff_exists.1 h1
  obtain ⟨cs, hh, _⟩ := hS.1 11 z t (by rw [globs12]; decide) hz
  have := (Array.getElem?_eq_some_iff.1 hh).1
  rw [globs12]; omega
/-- What is told of a call that answers true and turns nothing that was there. -/
def Tells (W : World) : Ending → World → Prop := fun e w' => e = .returned (.bool true) ∧ Below W.heap.size W w'
theorem tells_of {W : World} {f : FuncId} {args : List AVal} {argsV : Array Value} {G : GM} {h : AHeap} (K : WOK W) (R : Rel Tryz.prog W.heap.size W G h W) (hv : VsR Tryz.prog G args argsV.toList) (k : Cl tab summ1 f args h fun r _ => r = .bool true) : Calls Tryz.prog f argsV W (Tells W) := by
  obtain ⟨n, hn⟩ := k
  refine (calls_of_run mixed tab_ok (summ1_ok K) R hv (hn n (Nat.le_refl _))).mono fun e w' hp => ?_
  obtain ⟨v, h', G', cv, rfl, hv, R', _, hr⟩ := hp
  have hv : v = .bool true := hv
  subst hv
  have hr : cv = .bool true := hr
  exact ⟨by rw [hr], R'.below⟩
/-- 'post' for such a call: what lies below is as it was. -/
theorem post_of_tells {H : Type} {enc : TypeId × Value → H} {P : Program} {f : Func} {s : ChangeSpec} {apart fresh handsOn again : Bool} {W W' : World} {args : Array Value} {v : Value} {ds gs : List (DataW H)} {before pa pv : List MemPlace}
    (hW : DataW.Whole enc P f.params.toList s.vars apart W args.toList ds gs before)
    (hres : ∀ (b : Nat) (sp : Nat → Bool) (hd : Bool), DataW.TrodAll enc P W' b sp hd f.resultTypes.toList (v.resultList f.resultTypes.size) (s.fn H (ds ++ gs)).results [])
    (hargs : ∀ sp : Nat → Bool, (∀ p ∈ before, sp p.block = true) → DataW.TrodAll enc P W' 0 sp true f.params.toList args.toList (s.fn H (ds ++ gs)).args pa)
    (hvars : ∀ sp : Nat → Bool, (∀ p ∈ before, sp p.block = true) → DataW.TrodVars enc P W' sp s.vars (s.fn H (ds ++ gs)).vars pv)
    (hps : before = pa ++ pv) (hb : Below W.heap.size W W')
    (hok : ∀ (j : Nat) (t : TypeId) (r : Value), f.resultTypes[j]? = some t → (v.resultList f.resultTypes.size)[j]? = some r → Value.okWide P W' .any 0 t r) :
    s.post enc P f apart fresh handsOn again W args v W' := by
  have hlt := hW.lt
  have hold : ∀ p ∈ before, (fun b => decide (b < W.heap.size)) p.block = true := fun p hp => by simpa using hlt p hp
  refine ⟨ds, gs, before, [], pa, pv, hW, hres _ _ _, hargs _ hold, hvars _ hold, World.keptBut_mono (fun p hp => ⟨hp, ?_⟩) (hb.frame _), fun _ => ?_⟩
  · rw [hps, List.mem_append] at hp
    exact Or.inr hp
  · obtain ⟨_, _, _, _, _, hz, hn⟩ := hW
    refine ⟨hok, _, _, ([] ++ pa) ++ pv, ⟨[] ++ pa, pv, trodAll_append (hargs _ (fun _ _ => rfl)) (hres _ _ _), hvars _ (fun _ _ => rfl), rfl, ?_, ?_⟩, ?_⟩
    · intro b off hp
      have hp' : MemPlace.cell b off ∈ before := by rw [hps]; simpa using hp
      have hbl : (⟨b, off, none⟩ : Addr).block < W.heap.size := hlt _ hp'
      rw [hb.frozen hbl]
      exact hz b off hp'
    · intro ha
      have := hn ha
      rw [hps] at this
      simpa using this
    · intro p hp _
      rw [hps]
      simpa using hp
end Go.Proofs
end
section
/-
  Four graphs that a call is handed in one struct, laid out.
-/
namespace Go.Ab
open Go.RowKit (Below)
section
variable {H : Type} {enc : TypeId × Value → H} {P : Program} {W : World} {G : GM} {h : AHeap}
theorem lay_part {tG tNs tN tI tS tB tIs tSs : TypeId} (T : GTypes P tG tNs tN tI tS tB tIs tSs) {μ : DataW H → Nat} (hμ : Meas μ) {fuel : Nat} {u0 u1 : Value} {y : DataW H × List MemPlace} (k : DataW.trod enc P W 0 (fun _ => true) true fuel tG [u0, u1] = some y) (R : Rel P W.heap.size W G h W) (hw : WF h) :
    Laid P W G h fun G' h' => ∃ (nv : AVal) (g : Graph), VR P G' nv u0 ∧ u1 = .int .i64 g.root ∧ NodesAt h' nv g.nodes ∧ gsize g ≤ μ y.1 := by
  have hx : DataW.Trod enc P W 0 (fun _ => true) true tG (.agg #[u0, u1]) y.1 y.2 := ⟨fuel, k⟩
  obtain ⟨G1, h1, R1, g1, w1, v, g, hv, ⟨nv, rfl, hN⟩, hz⟩ := lay_graph T hμ hx R hw
  obtain ⟨cs, hcs, x0, xs, e0, v0, x1, xs1, e1, v1, e2⟩ := hv
  simp only [Value.agg.injEq] at hcs
  subst hcs
  simp only [List.cons.injEq] at e0
  obtain ⟨rfl, rfl⟩ := e0
  simp only [List.cons.injEq] at e1
  obtain ⟨rfl, rfl⟩ := e1
  exact ⟨G1, h1, R1, g1, w1, nv, g, v0, v1, hN, hz⟩
theorem lay_four {tF tG tNs tN tI tS tB tIs tSs : TypeId} (T : GTypes P tG tNs tN tI tS tB tIs tSs) (hF : ∃ f0 f1 f2 f3, P.underlying tF = some (.struct #[f0, f1, f2, f3]) ∧ (f0.type = tG ∧ f0.offset = 0) ∧ (f1.type = tG ∧ f1.offset = 2) ∧ (f2.type = tG ∧ f2.offset = 4) ∧ (f3.type = tG ∧ f3.offset = 6)) (cF : P.cellsOf tF = 8)
    {μ : DataW H → Nat} (hμ : Meas μ) {cs : Array Value} {d : DataW H} {ps : List MemPlace} (hx : DataW.Trod enc P W 0 (fun _ => true) true tF (.agg cs) d ps) (R : Rel P W.heap.size W G h W) (hw : WF h) :
    Laid P W G h fun G' h' => ∃ (nv mv av bv : AVal) (g k a b : Graph), VR P G' (.agg [nv, .int .i64 g.root, mv, .int .i64 k.root, av, .int .i64 a.root, bv, .int .i64 b.root]) (.agg cs) ∧ NodesAt h' nv g.nodes ∧ NodesAt h' mv k.nodes ∧ NodesAt h' av a.nodes ∧ NodesAt h' bv b.nodes ∧ gsize g ≤ μ d ∧ gsize k ≤ μ d ∧ gsize a ≤ μ d ∧ gsize b ≤ μ d := by
  obtain ⟨fuel, hx⟩ := hx
  obtain ⟨f0, f1, f2, f3, hs, ⟨t0, o0⟩, ⟨t1, o1⟩, ⟨t2, o2⟩, ⟨t3, o3⟩⟩ := hF
  obtain ⟨xs, n, _, hx1, hl, hxs, hf⟩ := DataW.trod_struct hs hx
  rw [cF] at hl
  have hl : cs.toList.length = 8 := hl
  have k0 := hf 0 f0 rfl
  have k1 := hf 1 f1 rfl
  have k2 := hf 2 f2 rfl
  have k3 := hf 3 f3 rfl
  have hcs : (Value.agg cs).cells.toList = cs.toList := rfl
  rw [hcs] at k0 k1 k2 k3
  rw [t0, o0, T.cG] at k0
  rw [t1, o1, T.cG] at k1
  rw [t2, o2, T.cG] at k2
  rw [t3, o3, T.cG] at k3
  match xs, hxs with
  | [y0, y1, y2, y3], _ =>
    simp only [List.getElem?_cons_zero, List.getElem?_cons_succ] at k0 k1 k2 k3
    match hh : cs.toList, hl with
    | [u0, u1, u2, u3, u4, u5, u6, u7], _ =>
      rw [hh] at k0 k1 k2 k3
      obtain ⟨G1, h1, R1, g1, w1, nv, g, v0, r0, N0, z0⟩ := lay_part (u0 := u0) (u1 := u1) T hμ k0 R hw
      obtain ⟨G2, h2, R2, g2, w2, mv, k, v1, r1, N1, z1⟩ := lay_part (u0 := u2) (u1 := u3) T hμ k1 R1 w1.wf
      obtain ⟨G3, h3, R3, g3, w3, av, a, v2, r2, N2, z2⟩ := lay_part (u0 := u4) (u1 := u5) T hμ k2 R2 w2.wf
      obtain ⟨G4, h4, R4, g4, w4, bv, b, v3, r3, N3, z3⟩ := lay_part (u0 := u6) (u1 := u7) T hμ k3 R3 w3.wf
      refine ⟨G4, h4, R4, ((g1.trans g2).trans g3).trans g4, ((w1.trans w2).trans w3).trans w4, nv, mv, av, bv, g, k, a, b, ⟨cs, rfl, ?_⟩, N0.mono ((w2.trans w3).trans w4), N1.mono (w3.trans w4), N2.mono w4, N3, ?_⟩
      · rw [hh]
        exact ⟨_, _, rfl, v0.mono ((g2.trans g3).trans g4), _, _, rfl, r0, _, _, rfl, v1.mono (g3.trans g4), _, _, rfl, r1, _, _, rfl, v2.mono g4, _, _, rfl, r2, _, _, rfl, v3, _, _, rfl, r3, rfl⟩
      · simp only [Prod.mk.injEq] at hx1
        rw [hx1.1]
        have := hμ.agg ([y0, y1, y2, y3].map (·.1))
        simp only [List.map_cons, List.map_nil, List.sum_cons, List.sum_nil] at this ⊢
        omega
end
end Go.Ab
end
section
/-
  Two texts and two graphs that a call is handed in one struct, laid out.
-/
namespace Go.Ab
open Go.RowKit (Below)
section
variable {H : Type} {enc : TypeId × Value → H} {P : Program} {W : World} {G : GM} {h : AHeap}
theorem lay_last {tF tG tNs tN tI tS tB tIs tSs : TypeId} (T : GTypes P tG tNs tN tI tS tB tIs tSs) (hF : ∃ f0 f1 f2 f3, P.underlying tF = some (.struct #[f0, f1, f2, f3]) ∧ (f0.type = tS ∧ f0.offset = 0) ∧ (f1.type = tS ∧ f1.offset = 1) ∧ (f2.type = tG ∧ f2.offset = 2) ∧ (f3.type = tG ∧ f3.offset = 4)) (cF : P.cellsOf tF = 6)
    {μ : DataW H → Nat} (hμ : Meas μ) {cs : Array Value} {d : DataW H} {ps : List MemPlace} (hx : DataW.Trod enc P W 0 (fun _ => true) true tF (.agg cs) d ps) (R : Rel P W.heap.size W G h W) (hw : WF h) :
    Laid P W G h fun G' h' => ∃ (a b : List Nat) (nv mv : AVal) (g k : Graph), VR P G' (.agg [.str a, .str b, nv, .int .i64 g.root, mv, .int .i64 k.root]) (.agg cs) ∧ NodesAt h' nv g.nodes ∧ NodesAt h' mv k.nodes ∧ gsize g ≤ μ d ∧ gsize k ≤ μ d ∧ a.length ≤ μ d ∧ b.length ≤ μ d := by
  obtain ⟨fuel, hx⟩ := hx
  obtain ⟨f0, f1, f2, f3, hs, ⟨t0, o0⟩, ⟨t1, o1⟩, ⟨t2, o2⟩, ⟨t3, o3⟩⟩ := hF
  obtain ⟨xs, n, _, hx1, hl, hxs, hf⟩ := DataW.trod_struct hs hx
  rw [cF] at hl
  have hl : cs.toList.length = 6 := hl
  have k0 := hf 0 f0 rfl
  have k1 := hf 1 f1 rfl
  have k2 := hf 2 f2 rfl
  have k3 := hf 3 f3 rfl
  have hcs : (Value.agg cs).cells.toList = cs.toList := rfl
  rw [hcs] at k0 k1 k2 k3
  rw [t0, o0, T.cS] at k0
  rw [t1, o1, T.cS] at k1
  rw [t2, o2, T.cG] at k2
  rw [t3, o3, T.cG] at k3
  match xs, hxs with
  | [y0, y1, y2, y3], _ =>
    simp only [List.getElem?_cons_zero, List.getElem?_cons_succ] at k0 k1 k2 k3
    match hh : cs.toList, hl with
    | [u0, u1, u2, u3, u4, u5], _ =>
      rw [hh] at k0 k1 k2 k3
      obtain ⟨na, q0, r0, _⟩ := DataW.trod_string T.str k0
      obtain ⟨nb, q1, r1, _⟩ := DataW.trod_string T.str k1
      obtain rfl : u0 = Value.string na := (List.cons.inj (show [u0] = [Value.string na] from q0)).1
      obtain rfl : u1 = Value.string nb := (List.cons.inj (show [u1] = [Value.string nb] from q1)).1
      obtain ⟨G1, h1, R1, g1, w1, nv, g, v0, e0, N0, z0⟩ := lay_part (u0 := u2) (u1 := u3) T hμ k2 R hw
      obtain ⟨G2, h2, R2, g2, w2, mv, k, v1, e1, N1, z1⟩ := lay_part (u0 := u4) (u1 := u5) T hμ k3 R1 w1.wf
      refine ⟨G2, h2, R2, g1.trans g2, w1.trans w2, na.data.toList.map UInt8.toNat, nb.data.toList.map UInt8.toNat, nv, mv, g, k, ⟨cs, rfl, ?_⟩, N0.mono w2, N1, ?_⟩
      · rw [hh]
        exact ⟨_, _, rfl, ⟨na, rfl, rfl⟩, _, _, rfl, ⟨nb, rfl, rfl⟩, _, _, rfl, v0.mono g2, _, _, rfl, e0, _, _, rfl, v1, _, _, rfl, e1, rfl⟩
      · simp only [Prod.mk.injEq] at hx1
        rw [hx1.1]
        have := hμ.agg ([y0, y1, y2, y3].map (·.1))
        simp only [List.map_cons, List.map_nil, List.sum_cons, List.sum_nil] at this ⊢
        have s0 := hμ.str na.data.toList
        have s1 := hμ.str nb.data.toList
        have e0' : y0.1 = .lit (.string na.data.toList) := by rw [r0]
        have e1' : y1.1 = .lit (.string nb.data.toList) := by rw [r1]
        rw [← e0'] at s0; rw [← e1'] at s1
        simp only [List.length_map]
        omega
end
end Go.Ab
end
section
/-
  EnvLast: the contract.
-/
namespace Go.Proofs.YtapnoohglfhgeaaGreatDoor
open Go Go.Ab Go.Ab.S
open Go.ChangeShapes Go.WideShapes Go.ChangeAt Go.RowKit
theorem laidOut : laidOutB Tryz.prog = true := by kernel_rfl
theorem stays {H : Type} {enc : TypeId × Value → H} {W W' : World} {v : Value} {d : DataW H} {ps : List MemPlace} (h : DataW.Trod enc Tryz.prog W 0 (fun _ => true) true 26 v d ps) (hb : Below W.heap.size W W') (hlt : ∀ x ∈ ps, x.block < W.heap.size) (sp : Nat → Bool) (hs : ∀ p ∈ ps, sp p.block = true) : DataW.Trod enc Tryz.prog W' 0 sp true 26 v d ps :=
  WideElems.Trod_stays laidOut (by kernel_rfl) (of_decide_eq_true (by kernel_rfl)) h (fun x hx => hb.same (hlt x hx)) hs
set_option maxRecDepth 100000 in
/-- A struct is an aggregate. -/
theorem agg_of {W : World} {base : Nat} {v : Value} (h : Value.okWide Tryz.prog W .any base 26 v) : ∃ cs, v = .agg cs := by
  obtain ⟨cs, h, _⟩ := okWide_struct Tryz.underlying26 h
  exact ⟨cs, h⟩
set_option maxRecDepth 100000 in
theorem contract (H : Type) (enc : TypeId × Value → H) (W : World) (base : Nat) (args : Array Value) (ds gs : List (DataW H)) (before : List MemPlace)
    (hval : ∀ (j : Nat) t v, Tryz.f3.params[j]? = some t → args[j]? = some v → Value.okWide Tryz.prog W .any base t v)
    (hW : DataW.Whole enc Tryz.prog Tryz.f3.params.toList Rows.envLastSpec.vars false W args.toList ds gs before) (hk : Rows.uptoSmall H (ds ++ gs) = true) (hL : laidMetH Tryz.prog laids W) (hS : W.ShapedOpen Tryz.prog) :
    Calls Tryz.prog 3 args W fun e W' => ∃ v, e = .returned v ∧ Rows.envLastSpec.post enc Tryz.prog Tryz.f3 false true false false W args v W' := by
  have hW' := hW
  have hlt := hW.lt
  obtain ⟨p, q, hA0, hV, rfl, _, _⟩ := hW
  have hA : DataW.TrodAll enc Tryz.prog W 0 (fun _ => true) true Tryz.f3.params.toList args.toList ds p := hA0
  have hval' := hval
  rw [Tryz.params3] at hA hval'
  obtain ⟨v, d, rfl, rfl, h0⟩ := trodAll_one hA
  obtain ⟨rfl, rfl⟩ := trodVars_none hV
  obtain ⟨c0, rfl⟩ := agg_of (hval' 0 26 v rfl rfl)
  have hk := of_decide_eq_true hk
  simp only [List.append_nil, Rows.uptoBulkAll] at hk
  have hN := globs_le hS
  obtain ⟨G1, k1, R1, g1, w1, a, b, nv, mv, x0, x1, b0, e0, e1, s0, s1, s2, s3⟩ := lay_last gtypes ⟨_, _, _, _, Tryz.underlying26, ⟨rfl, rfl⟩, ⟨rfl, rfl⟩, ⟨rfl, rfl⟩, rfl, rfl⟩ (by kernel_rfl) (meas H) h0 (rel_zero hN) wf_zero
  have e60 : (2 : Nat) ^ 60 = 1152921504606846976 := by decide
  have walk : Calls Tryz.prog 3 #[.agg c0] W (Tells W) := by
    refine tells_of (args := [.agg [.str a, .str b, nv, .int .i64 x0.root, mv, .int .i64 x1.root]]) (wok hL hS hN) R1 ⟨_, _, rfl, b0, rfl⟩ ?_
    exact (EnvLast_ok hasTab hasSort hasRead a b (by omega) (by omega) x0 x1 (sane_of (by omega)) (sane_of (by omega)) nv mv k1 w1.wf e0 e1).mono fun _ _ h => h.1
  refine walk.mono fun e W' ⟨he, hb⟩ => ?_
  subst he
  refine ⟨_, rfl, post_of_tells (pa := p) (pv := []) hW' (fun _ _ _ => trodAll_cons_mk (shut_bool Tryz.underlying4 _) trodAll_mk0) (fun sp hs => ?_) (fun _ _ => rfl) (by simp) hb (RowKit.ok_one (by kernel_rfl) rfl (okWide_bool_mk Tryz.underlying4 _))⟩
  exact trodAll_mk1 (stays h0 hb (fun x hx => hlt x (by simp [hx])) sp fun x hx => hs x (by simp [hx]))
end Go.Proofs.YtapnoohglfhgeaaGreatDoor
end
section
/-
  EnvLast: the card.
-/
namespace Go.Proofs.YtapnoohglfhgeaaGreatDoor
open Go
/-- The card. -/
theorem cardUpto : Rows.EnvLastUptoCardSaid := cardOf contract
#print axioms cardUpto
end Go.Proofs.YtapnoohglfhgeaaGreatDoor
end
