import Derived.Test.YtpmndmiohaaokaaGreatDoorP06
import Derived.Test.YtpmndmiohaaokaaGreatDoorP07
import Derived.Deep.Slices
import Derived.Deep.Strs
/-
  Part 25 of the proof.
-/
set_option linter.all false
namespace Go.Ab
open Go.RowKit (Below)

section
variable {H : Type} {enc : TypeId × Value -> H} {P : Program} {W : World} {G : GM} {h : AHeap}

theorem addG_lt {G : GM} {k : Nat} {gi : GI} {i : Nat} (hi : i ≠ k) : (fun j => if j = k then some gi else G j) i = G i := by simp [hi]
theorem Rel.addRo (R : Rel P W.heap.size W G h W) (hw : WF h) {b off size : Nat} {e : TypeId} {c : Array Value} {t : TypeId} {fr : Nat × Nat} {vs : List AVal} (hb : W.heap[b]? = some (.cells c t fr)) (hs : off + size <= c.size) (hl : vs.length <= size) (hv : VsR P G vs ((c.toList.drop off).take vs.length)) :
  ∃ G', Rel P W.heap.size W G' (newA h (.cells true e vs)) W /\ GLe G G' /\ Grow h (newA h (.cells true e vs)) /\ G' h.next = some ⟨b, size, e, off⟩ /\ (newA h (.cells true e vs)).objs.get h.next = some (h.next, .cells true e vs) := by
 have hbN : b < W.heap.size := zAs hb
 let G' : GM := fun j => if j = h.next then some ⟨b, size, e, off⟩ else G j
 have hold : ∀ i, i ≠ h.next -> G' i = G i := fun i hi => addG_lt hi
 have hnew : G' h.next = some ⟨b, size, e, off⟩ := if_pos rfl
 have hle : GLe G G' := fun i gi hi => by
  by_cases hk : i = h.next
  ·subst hk; rw [R.fresh _ (Nat.le_refl _)] at hi; cases hi
  ·rw [hold i hk]; exact hi
 have hcase : ∀ id x, (newA h (.cells true e vs)).objs.get id = some x -> (id ≠ h.next /\ h.objs.get id = some x) \/ (id = h.next /\ x = (h.next, .cells true e vs)) := by
  intro id x hx
  rw [zHv] at hx
  split at hx
  ·rename_i hk; simp only [oI] at hx; exact .inr ⟨hk, hx.symm⟩
  ·rename_i hk; exact .inl ⟨hk, hx⟩
 refine ⟨G', ⟨?_, ?_, ?_, ?_, ?_, ?_, ?_, R.below, R.size, ?_⟩, hle, (Grow.refl hw).new _, hnew, zAV _ _⟩
 ·intro id ver o hx
  rcases hcase id _ hx with ⟨hk, h1⟩ | ⟨rfl, h1⟩
  ·obtain ⟨gi, k1, ob, k2, k3⟩ := R.obj id ver o h1
   exact ⟨gi, by rw [hold id hk]; exact k1, ob, k2, k3.mono hle⟩
  ·simp only [Prod.mk.injEq] at h1
   obtain ⟨rfl, rfl⟩ := h1
   exact ⟨_, hnew, _, hb, c, t, fr, rfl, (fun hh => by cases hh), hs, rfl, hl, hv.mono hle⟩
 ·intro id id' x x' gi gi' hx hx' hf hg hg' hbb
  rcases hcase id _ hx with ⟨hk, h1⟩ | ⟨rfl, h1⟩
  ·rw [hold id hk] at hg
   rcases hcase id' _ hx' with ⟨hk', h1'⟩ | ⟨rfl, h1'⟩
   ·rw [hold id' hk'] at hg'
    exact R.inj id id' x x' gi gi' h1 h1' hf hg hg' hbb
   ·rw [hnew] at hg'; cases hg'
    have := R.own id x.1 x.2 gi h1 hg hf
    have hbb : gi.blk = b := hbb
    omega
  ·rw [h1] at hf; cases hf
 ·intro id ver o gi hx hg hf
  rcases hcase id _ hx with ⟨hk, h1⟩ | ⟨rfl, h1⟩
  ·rw [hold id hk] at hg; exact R.own id ver o gi h1 hg hf
  ·simp only [Prod.mk.injEq] at h1; rw [h1.2] at hf; cases hf
 ·intro id hid
  rw [zBK] at hid
  rw [hold id (by omega)]; exact R.fresh id (by omega)
 ·intro id ver o hx
  rw [zBK]
  rcases hcase id _ hx with ⟨_, h1⟩ | ⟨_, h1⟩
  ·have := R.vers id ver o h1; omega
  ·simp only [Prod.mk.injEq] at h1; omega
 ·intro g hg
  have := R.low
  rw [hold g (by omega)]; exact R.glob g hg
 ·rw [zBK]; have := R.low; omega
 ·intro id ver o gi hx hg hr
  rcases hcase id _ hx with ⟨hk, h1⟩ | ⟨rfl, h1⟩
  ·rw [hold id hk] at hg; exact R.rolow id ver o gi h1 hg hr
  ·rw [hnew] at hg; cases hg; exact hbN

theorem zLD {w : World} {a : Addr} {v : Value} (h : w.cell? a = some v) : ∃ c t fr, w.heap[a.block]? = some (.cells c t fr) /\ a.spot = none /\ c[a.off]? = some v := by
 simp only [World.cell?] at h
 split at h
 ·rename_i c t fr hc
  cases hs : a.spot with
  | none => rw [hs] at h; exact ⟨c, t, fr, hc, rfl, by simpa using h⟩
  | some s => rw [hs] at h; simp at h
 ·cases h
theorem zLA (a : Addr) (n : Nat) : (a.add n).block = a.block /\ (a.add n).off = a.off + n := by
 unfold Addr.add; split
 ·rename_i hn; subst hn; exact ⟨rfl, rfl⟩
 ·exact ⟨rfl, rfl⟩
theorem zIJ {w : World} {a : Addr} {m : Nat} (hm : 0 < m) {V : Nat -> Value} (h : ∀ i, i < m -> w.cell? (a.add i) = some (V i)) : ∃ c t fr, w.heap[a.block]? = some (.cells c t fr) /\ a = ⟨a.block, a.off, none⟩ /\ a.off + m <= c.size /\ ∀ i, i < m -> c[a.off + i]? = some (V i) := by
 obtain ⟨c, t, fr, hc, hs, _⟩ := zLD (h 0 hm)
 have hs : a.spot = none := by
  have : a.add 0 = a := by simp [Addr.add]
  rwa [this] at hs
 rw [(zLA a 0).1] at hc
 have hall : ∀ i, i < m -> c[a.off + i]? = some (V i) := fun i hi => by
  obtain ⟨c', t', fr', hc', _, hv⟩ := zLD (h i hi)
  rw [(zLA a i).1, hc] at hc'
  cases hc'
  rwa [(zLA a i).2] at hv
 refine ⟨c, t, fr, hc, by cases a; simp_all, ?_, hall⟩
 have := hall (m - 1) (by omega)
 have := (Array.getElem?_eq_some_iff.1 this).1
 omega
theorem VsR_of {G : GM} : ∀ {xs : List AVal} {vs : List Value}, vs.length = xs.length -> (∀ (i : Nat) x v, xs[i]? = some x -> vs[i]? = some v -> VR P G x v) -> VsR P G xs vs
 | [], [], _, _ => rfl
 | [], _ :: _, h, _ => by simp at h
 | _ :: _, [], h, _ => by simp at h
 | x :: xs, v :: vs, h, hh => ⟨v, vs, rfl, hh 0 x v rfl rfl, VsR_of (by simpa using h) fun i x v hx hv => hh (i + 1) x v (by simpa using hx) (by simpa using hv)⟩
theorem VsR_row {G : GM} {c : Array Value} {off : Nat} {vs : List AVal} (hs : off + vs.length <= c.size) (hh : ∀ (i : Nat) x v, vs[i]? = some x -> c[off + i]? = some v -> VR P G x v) : VsR P G vs ((c.toList.drop off).take vs.length) := by
 refine VsR_of (by simp; omega) fun i x v hx hv => ?_
 have hi := (List.getElem?_eq_some_iff.1 hx).1
 rw [List.getElem?_take, if_pos hi, List.getElem?_drop, Array.getElem?_toList] at hv
 exact hh i x v hx hv
structure Meas (μ : DataW H -> Nat) : Prop where
 agg : ∀ l, (l.map μ).sum + 1 <= μ (.agg l)
 slice : ∀ l r, (l.map μ).sum + 1 <= μ (.slice l r)
 str : ∀ s, s.length + 1 <= μ (.lit (.string s))
 lit : ∀ x, 1 <= μ (.lit x)
theorem zHH {f : Nat -> Nat} {n : Nat} {l : List Nat} (hl : l.length = n) (h : ∀ i, i < n -> l.getD i 0 <= f i) : l.sum <= ((List.range n).map f).sum := by
 subst hl
 induction l generalizing f with
 | nil => simp
 | cons a l ih =>
  rw [zlC, List.range_succ_eq_map, List.map_cons, List.sum_cons, List.sum_cons, List.map_map]
  have h0 := h 0 (by simp)
  have := ih (f := f ∘ Nat.succ) fun i hi => by simpa using h (i + 1) (by simpa using hi)
  simp only [List.getD_cons_zero] at h0
  omega
theorem zMV : ∀ l : List Nat, (l.map fun _ => 1).sum = l.length
 | [] => rfl
 | _ :: l => by simp only [List.map_cons, List.sum_cons, zMV l, zlC]; omega
def Laid (P : Program) (W : World) (G : GM) (h : AHeap) (Q : GM -> AHeap -> Prop) : Prop := ∃ G' h', Rel P W.heap.size W G' h' W /\ GLe G G' /\ Grow h h' /\ Q G' h'

theorem lay_ints {μ : DataW H -> Nat} (hμ : Meas μ) {t e : TypeId} {fuel : Nat} {v : Value} {x : DataW H × List MemPlace} (ht : P.underlying t = some (.slice e)) (he : P.underlying e = some (.int .i64)) (hc : P.cellsOf e = 1)
  (hx : DataW.trod enc P W 0 (fun _ => true) true fuel t [v] = some x) (R : Rel P W.heap.size W G h W) (hw : WF h) : Laid P W G h fun G' h' => ∃ av l, VR P G' av v /\ IntsAt h' av l /\ l.length <= μ x.1 := by
 rcases Go.Deep.open_slice1 ht hc hx with ⟨h1, rfl⟩ | ⟨a, len, capx, cap, n, V, D, Pl, h1, hb, hl, hm, hmm, rfl, hx'⟩
 ·simp only [List.cons.injEq, and_true] at h1
  subst h1
  exact ⟨G, h, R, GLe.refl G, Grow.refl hw, .slice none 0, [], ⟨rfl, rfl⟩, ⟨rfl, fun i x hx => by simp at hx⟩, by simp⟩
 ·simp only [List.cons.injEq, and_true] at h1
  subst h1
  simp only [if_true] at hmm
  subst hmm
  rcases Nat.eq_zero_or_pos cap with h0 | h0
  ·subst h0
   obtain rfl : len = 0 := by omega
   exact ⟨G, h, R, GLe.refl G, Grow.refl hw, .slice0, [], ⟨a, rfl⟩, ⟨rfl, fun i x hx => by simp at hx⟩, by simp⟩
  obtain ⟨c, ty, fr, hc1, ha, hsz, hall⟩ := zIJ h0 fun i hi => (hx' i hi).1
  have each : ∀ i, i < cap -> ∃ k : Int, V i = .int .i64 k := fun i hi => by
   obtain ⟨k, h1, _⟩ := DataW.trod_int he (hx' i hi).2
   exact ⟨k, by simpa using h1⟩
  obtain ⟨K, hK⟩ := Go.Deep.choose_lt each
  have hlen : ((List.range len).map fun i => AVal.int .i64 (K i)).length = len := by simp
  obtain ⟨G', R', g1, g2, g3, g4⟩ := R.addRo hw (e := e) (off := a.off) (size := cap) (vs := (List.range len).map fun i => AVal.int .i64 (K i)) hc1 hsz (by rw [hlen]; exact hl) (VsR_row (by rw [hlen]; omega) fun i x v hx hv => by
   have hi := (List.getElem?_eq_some_iff.1 hx).1
   rw [hlen] at hi
   rw [hall i (by omega), oI] at hv
   rw [List.getElem?_map, List.getElem?_range hi] at hx
   simp only [Option.map_some, oI] at hx
   rw [<- hx, <- hv, hK i (by omega)]; rfl)
  refine ⟨G', _, R', g1, g2, .slice (some (h.next, 0)) len, (List.range len).map K, ⟨_, cap, g3, ?_, hl, ?_⟩, ⟨by simp [lenO], fun i x hx => ?_⟩, ?_⟩
  ·rw [ha]; rfl
  ·rw [hc]; simp
  ·simp only [List.map_map, List.getElem?_map] at hx
   obtain ⟨j, hj, rfl⟩ := Option.map_eq_some_iff.1 hx
   obtain ⟨hij, rfl⟩ := List.getElem?_eq_some_iff.1 hj
   simp only [List.length_range] at hij
   simp only [List.getElem_range]
   refine ⟨rfl, h.next, i, h.next, true, e, _, by simp [slA, hij], g4, ?_⟩
   apply List.ext_getElem?
   intro k
   cases k with
   | zero => simp [List.getElem?_take, List.getElem?_drop, hij, intC]
   | succ k => simp [List.getElem?_take, intC]
  ·refine Nat.le_trans ?_ (Nat.le_trans (Nat.le_succ _) (hμ.slice ((List.range len).map D) _))
   have h2 : ((List.range len).map K).length = ((List.range len).map fun _ => 1).sum := by rw [zMV]; simp
   have h3 := zHH (f := fun i => μ (D i)) (n := len) (l := (List.range len).map fun _ => 1) (by simp) fun i hi => by
    obtain ⟨k, h1, h2, _⟩ := DataW.trod_int he (hx' i (by omega)).2
    simp only [Prod.mk.injEq] at h2
    simp only [List.getD, List.getElem?_map, List.getElem?_range hi, Option.map_some, Option.getD_some, h2.1]
    exact hμ.lit _
   rw [List.map_map]
   have h4 : ((List.range len).map (μ ∘ D)).sum = ((List.range len).map fun i => μ (D i)).sum := rfl
   omega

theorem lay_strs {μ : DataW H -> Nat} (hμ : Meas μ) {t e : TypeId} {fuel : Nat} {v : Value} {x : DataW H × List MemPlace} (ht : P.underlying t = some (.slice e)) (he : P.underlying e = some .string) (hc : P.cellsOf e = 1)
  (hx : DataW.trod enc P W 0 (fun _ => true) true fuel t [v] = some x) (R : Rel P W.heap.size W G h W) (hw : WF h) : Laid P W G h fun G' h' => ∃ av l, VR P G' av v /\ StrsAt h' av l /\ (l.map fun s => s.length + 1).sum <= μ x.1 := by
 rcases Go.Deep.open_strs ht he hc hx with ⟨h1, rfl⟩ | ⟨a, len, capx, cap, Sx, h1, hb, hl, hm, hmm, rfl, hx'⟩
 ·simp only [List.cons.injEq, and_true] at h1
  subst h1
  exact ⟨G, h, R, GLe.refl G, Grow.refl hw, .slice none 0, [], ⟨rfl, rfl⟩, ⟨rfl, fun i x hx => by simp at hx⟩, by simp⟩
 ·simp only [List.cons.injEq, and_true] at h1
  subst h1
  simp only [if_true] at hmm
  subst hmm
  rcases Nat.eq_zero_or_pos cap with h0 | h0
  ·subst h0
   obtain rfl : len = 0 := by omega
   exact ⟨G, h, R, GLe.refl G, Grow.refl hw, .slice0, [], ⟨a, rfl⟩, ⟨rfl, fun i x hx => by simp at hx⟩, by simp⟩
  obtain ⟨c, ty, fr, hc1, ha, hsz, hall⟩ := zIJ h0 fun i hi => (hx' i hi).1
  let K : Nat -> List Nat := fun i => (Sx i).data.toList.map UInt8.toNat
  have hlen : ((List.range len).map fun i => AVal.str (K i)).length = len := by simp
  obtain ⟨G', R', g1, g2, g3, g4⟩ := R.addRo hw (e := e) (off := a.off) (size := cap) (vs := (List.range len).map fun i => AVal.str (K i)) hc1 hsz (by rw [hlen]; exact hl) (VsR_row (by rw [hlen]; omega) fun i x v hx hv => by
   have hi := (List.getElem?_eq_some_iff.1 hx).1
   rw [hlen] at hi
   rw [hall i (by omega), oI] at hv
   rw [List.getElem?_map, List.getElem?_range hi] at hx
   simp only [Option.map_some, oI] at hx
   rw [<- hx, <- hv]
   exact ⟨Sx i, rfl, rfl⟩)
  refine ⟨G', _, R', g1, g2, .slice (some (h.next, 0)) len, (List.range len).map K, ⟨_, cap, g3, ?_, hl, ?_⟩, ⟨by simp [lenO], fun i x hx => ?_⟩, ?_⟩
  ·rw [ha]; rfl
  ·rw [hc]; simp
  ·simp only [List.map_map, List.getElem?_map] at hx
   obtain ⟨j, hj, rfl⟩ := Option.map_eq_some_iff.1 hx
   obtain ⟨hij, rfl⟩ := List.getElem?_eq_some_iff.1 hj
   simp only [List.length_range] at hij
   simp only [List.getElem_range]
   refine ⟨rfl, h.next, i, h.next, true, e, _, by simp [slA, hij], g4, ?_⟩
   apply List.ext_getElem?
   intro k
   cases k with
   | zero => simp [List.getElem?_take, List.getElem?_drop, hij, strC]
   | succ k => simp [List.getElem?_take, strC]
  ·refine Nat.le_trans ?_ (Nat.le_trans (Nat.le_succ _) (hμ.slice ((List.range len).map fun i => DataW.lit (.string (Sx i).data.toList)) _))
   rw [List.map_map, List.map_map]
   have h3 := zHH (f := fun i => μ (DataW.lit (.string (Sx i).data.toList))) (n := len) (l := (List.range len).map ((fun s => s.length + 1) ∘ K)) (by simp) fun i hi => by
    simp only [List.getD, List.getElem?_map, List.getElem?_range hi, Option.map_some, Option.getD_some]
    have := hμ.str (Sx i).data.toList
    simpa [K] using this
   have h4 : ((List.range len).map (μ ∘ fun i => DataW.lit (.string (Sx i).data.toList))).sum = ((List.range len).map fun i => μ (DataW.lit (.string (Sx i).data.toList))).sum := rfl
   omega

structure GTypes (P : Program) (tG tNs tN tI tS tB tIs tSs : TypeId) : Prop where
 int : P.underlying tI = some (.int .i64)
 str : P.underlying tS = some .string
 bool : P.underlying tB = some .bool
 ints : P.underlying tIs = some (.slice tI)
 strs : P.underlying tSs = some (.slice tS)
 nodes : P.underlying tNs = some (.slice tN)
 node : ∃ f0 f1 f2 f3 f4, P.underlying tN = some (.struct #[f0, f1, f2, f3, f4]) /\ (f0.type = tI /\ f0.offset = 0) /\ (f1.type = tS /\ f1.offset = 1) /\ (f2.type = tIs /\ f2.offset = 2) /\ (f3.type = tSs /\ f3.offset = 3) /\ (f4.type = tB /\ f4.offset = 4)
 graph : ∃ f0 f1, P.underlying tG = some (.struct #[f0, f1]) /\ (f0.type = tNs /\ f0.offset = 0) /\ (f1.type = tI /\ f1.offset = 1)
 cI : P.cellsOf tI = 1
 cS : P.cellsOf tS = 1
 cB : P.cellsOf tB = 1
 cIs : P.cellsOf tIs = 1
 cSs : P.cellsOf tSs = 1
 cNs : P.cellsOf tNs = 1
 cN : P.cellsOf tN = 5
 cG : P.cellsOf tG = 2
def zBp (n : Node) : Nat := 1 + n.args.length + (n.labels.map fun s => s.length + 1).sum
def gsize (g : Graph) : Nat := (g.nodes.map zBp).sum
theorem five {cs : List Value} (h : cs.length = 5) {a b c d e : Value} (h0 : cs[0]? = some a) (h1 : cs[1]? = some b) (h2 : cs[2]? = some c) (h3 : cs[3]? = some d) (h4 : cs[4]? = some e) : cs = [a, b, c, d, e] := by
 match cs, h with
 | [a', b', c', d', e'], _ => simp at h0 h1 h2 h3 h4; subst h0; subst h1; subst h2; subst h3; subst h4; rfl
theorem zEe {cs : List Value} {o : Nat} (h : o < cs.length) : (cs.drop o).take 1 = [cs[o]] := by
 rw [List.drop_eq_getElem_cons h]; rfl
theorem lay_node {tG tNs tN tI tS tB tIs tSs : TypeId} (T : GTypes P tG tNs tN tI tS tB tIs tSs) {μ : DataW H -> Nat} (hμ : Meas μ) {fuel : Nat} {cs : List Value} {x : DataW H × List MemPlace} (hx : DataW.trod enc P W 0 (fun _ => true) true fuel tN cs = some x) (R : Rel P W.heap.size W G h W) (hw : WF h) :
  Laid P W G h fun G' h' => ∃ (n : Node) (c : List AVal), VsR P G' c cs /\ c.length = 5 /\ NodeAt h' c n /\ zBp n <= μ x.1 := by
 obtain ⟨f0, f1, f2, f3, f4, hs, ⟨t0, o0⟩, ⟨t1, o1⟩, ⟨t2, o2⟩, ⟨t3, o3⟩, ⟨t4, o4⟩⟩ := T.node
 obtain ⟨xs, n, _, rfl, hl, hxs, hf⟩ := DataW.trod_struct hs hx
 rw [T.cN] at hl
 have k0 := hf 0 f0 rfl
 have k1 := hf 1 f1 rfl
 have k2 := hf 2 f2 rfl
 have k3 := hf 3 f3 rfl
 have k4 := hf 4 f4 rfl
 rw [t0, o0, T.cI, zEe (by omega)] at k0
 rw [t1, o1, T.cS, zEe (by omega)] at k1
 rw [t2, o2, T.cIs, zEe (by omega)] at k2
 rw [t3, o3, T.cSs, zEe (by omega)] at k3
 rw [t4, o4, T.cB, zEe (by omega)] at k4
 match xs, hxs with
 | [y0, y1, y2, y3, y4], _ =>
  simp only [List.getElem?_cons_zero, List.getElem?_cons_succ] at k0 k1 k2 k3 k4
  obtain ⟨kd, q0, r0, _⟩ := DataW.trod_int T.int k0
  obtain ⟨nm, q1, r1, _⟩ := DataW.trod_string T.str k1
  obtain ⟨op, q4, r4⟩ := DataW.trod_bool T.bool k4
  simp only [List.cons.injEq, and_true] at q0 q1 q4
  obtain ⟨G1, h1, R1, g1, w1, av, l, hav, hl1, hs1⟩ := lay_ints hμ T.ints T.int T.cI k2 R hw
  obtain ⟨G2, h2, R2, g2, w2, lv, ls, hlv, hl2, hs2⟩ := lay_strs hμ T.strs T.str T.cS k3 R1 w1.wf
  refine ⟨G2, h2, R2, g1.trans g2, w1.trans w2, ⟨kd, nm.data.toList.map UInt8.toNat, l, ls, op⟩, [.int .i64 kd, .str (nm.data.toList.map UInt8.toNat), av, lv, .bool op], ?_, rfl, ⟨av, lv, rfl, hl1.mono w2, hl2⟩, ?_⟩
  ·have hcs := five hl (List.getElem?_eq_getElem (by omega)) (List.getElem?_eq_getElem (by omega)) (List.getElem?_eq_getElem (by omega)) (List.getElem?_eq_getElem (by omega)) (List.getElem?_eq_getElem (by omega))
   rw [hcs, q0, q1, q4]
   exact ⟨_, _, rfl, rfl, _, _, rfl, ⟨nm, rfl, rfl⟩, _, _, rfl, hav.mono g2, _, _, rfl, hlv, _, _, rfl, rfl, rfl⟩
  ·have := hμ.agg [y0.1, y1.1, y2.1, y3.1, y4.1]
   have e0 : 1 <= μ y0.1 := by rw [r0]; exact hμ.lit _
   simp only [List.map_cons, List.map_nil, List.sum_cons, List.sum_nil] at this ⊢
   simp only [zBp]
   omega
theorem zNS {w : World} {base : Nat} {a : Addr} {n : Nat} {cs : List Value} (h : w.cells? base a n = some cs) : cs.length = n /\ ∀ j, j < n -> w.cell? (a.add j) = cs[j]? := by
 simp only [World.cells?] at h
 split at h
 ·exact ⟨by simpa using mapM_some_length h, fun j hj => by simpa using mapM_some_get h j j (by simp [hj])⟩
 ·cases h
theorem add_add (a : Addr) (n m : Nat) (hs : a.spot = none) : (a.add n).add m = a.add (n + m) := by
 obtain ⟨b, o, s⟩ := a
 simp only at hs
 subst hs
 unfold Addr.add
 by_cases hn : n = 0
 ·subst hn; simp
 ·by_cases hm : m = 0
  ·subst hm; simp
  ·simp [hn, hm, Nat.add_assoc]
theorem zMG {tG tNs tN tI tS tB tIs tSs : TypeId} (T : GTypes P tG tNs tN tI tS tB tIs tSs) {μ : DataW H -> Nat} (hμ : Meas μ) {fuel : Nat} {C : Nat -> List Value} {D : Nat -> DataW H} {Pl : Nat -> List MemPlace} : ∀ (len : Nat), (∀ i, i < len -> DataW.trod enc P W 0 (fun _ => true) true fuel tN (C i) = some (D i, Pl i)) -> Rel P W.heap.size W G h W -> WF h →
  Laid P W G h fun G' h' => ∃ (ns : List Node) (cs : List (List AVal)), ns.length = len /\ cs.length = len /\ (∀ i c, cs[i]? = some c -> c.length = 5 /\ VsR P G' c (C i)) /\ (∀ (i : Nat) n c, ns[i]? = some n -> cs[i]? = some c -> NodeAt h' c n) /\ (ns.map zBp).sum <= ((List.range len).map fun i => μ (D i)).sum
 | 0, _, R, hw => ⟨G, h, R, GLe.refl G, Grow.refl hw, [], [], rfl, rfl, fun i c hc => by simp at hc, fun i n c hn => by simp at hn, by simp⟩
 | len + 1, hx, R, hw => by
  obtain ⟨G1, h1, R1, g1, w1, ns, cs, hn, hc, hv, ha, hs⟩ := zMG T hμ len (fun i hi => hx i (by omega)) R hw
  obtain ⟨G2, h2, R2, g2, w2, n, c, hcv, hcl, hna, hsz⟩ := lay_node T hμ (hx len (by omega)) R1 w1.wf
  refine ⟨G2, h2, R2, g1.trans g2, w1.trans w2, ns ++ [n], cs ++ [c], by simp [hn], by simp [hc], fun i d hd => ?_, fun i m d hm hd => ?_, ?_⟩
  ·rcases Nat.lt_or_ge i len with hi | hi
   ·rw [List.getElem?_append_left (by omega)] at hd
    obtain ⟨q1, q2⟩ := hv i d hd
    exact ⟨q1, q2.mono g2⟩
   ·rw [List.getElem?_append_right (by omega), hc] at hd
    obtain rfl : i = len := by
     have := (List.getElem?_eq_some_iff.1 hd).1
     simp at this; omega
    rw [Nat.sub_self, List.getElem?_cons_zero, oI] at hd
    subst hd
    exact ⟨hcl, hcv⟩
  ·rcases Nat.lt_or_ge i len with hi | hi
   ·rw [List.getElem?_append_left (by omega)] at hd hm
    exact (ha i m d hm hd).mono w2
   ·rw [List.getElem?_append_right (by omega), hc] at hd
    rw [List.getElem?_append_right (by omega), hn] at hm
    obtain rfl : i = len := by
     have := (List.getElem?_eq_some_iff.1 hd).1
     simp at this; omega
    rw [Nat.sub_self, List.getElem?_cons_zero, oI] at hd hm
    subst hd; subst hm
    exact hna
  ·rw [List.map_append, List.sum_append, List.range_succ, List.map_append, List.sum_append]
   simp only [List.map_cons, List.map_nil, List.sum_cons, List.sum_nil]
   simp only at hsz
   omega

theorem zJW {sz : Nat} : ∀ (ys : List (List AVal)), (∀ c ∈ ys, c.length = sz) -> ∀ (j : Nat) (hj : j < ys.length), (ys.flatten.drop (j * sz)).take sz = ys[j]
 | [], _, j, hj => by simp at hj
 | y :: ys, hall, 0, _ => by simp [<- hall y (by simp)]
 | y :: ys, hall, j + 1, hj => by
  have hy : y.length = sz := hall y (by simp)
  have e1 : (j + 1) * sz - y.length = j * sz := by rw [hy, Nat.succ_mul]; omega
  have e2 : y.drop ((j + 1) * sz) = [] := List.drop_eq_nil_of_le (by rw [hy, Nat.succ_mul]; omega)
  rw [List.flatten_cons, List.drop_append, e1, e2, zlA, List.getElem_cons_succ]
  exact zJW ys (fun c hc => hall c (by simp [hc])) j (by simpa using hj)
theorem zJX {sz : Nat} : ∀ (ys : List (List AVal)), (∀ c ∈ ys, c.length = sz) -> ys.flatten.length = ys.length * sz
 | [], _ => by simp
 | y :: ys, h => by
  rw [List.flatten_cons, List.length_append, zJX ys fun c hc => h c (by simp [hc]), h y (by simp), zlC, Nat.succ_mul]; omega
theorem flat_get {ys : List (List AVal)} (hall : ∀ c ∈ ys, c.length = 5) {k : Nat} {x : AVal} (hk : ys.flatten[k]? = some x) : ∃ c, ys[k / 5]? = some c /\ c[k % 5]? = some x := by
 have hlt := (List.getElem?_eq_some_iff.1 hk).1
 rw [zJX ys hall] at hlt
 have hj : k / 5 < ys.length := by omega
 refine ⟨ys[k / 5], List.getElem?_eq_getElem hj, ?_⟩
 rw [<- zJW ys hall (k / 5) hj, List.getElem?_take, if_pos (by omega), List.getElem?_drop, show k / 5 * 5 + k % 5 = k by omega]
 exact hk
theorem zNz {tG tNs tN tI tS tB tIs tSs : TypeId} (T : GTypes P tG tNs tN tI tS tB tIs tSs) {μ : DataW H -> Nat} (hμ : Meas μ) {fuel : Nat} {v : Value} {x : DataW H × List MemPlace} (hx : DataW.trod enc P W 0 (fun _ => true) true fuel tNs [v] = some x) (R : Rel P W.heap.size W G h W) (hw : WF h) :
  Laid P W G h fun G' h' => ∃ (nv : AVal) (ns : List Node), VR P G' nv v /\ NodesAt h' nv ns /\ (ns.map zBp).sum <= μ x.1 := by
 rcases Go.Deep.open_slice T.nodes hx with ⟨h1, rfl⟩ | ⟨a, len, capx, cap, n, D, Pl, h1, hb, hl, hm, hmm, rfl, hx'⟩
 ·simp only [List.cons.injEq, and_true] at h1
  subst h1
  exact ⟨G, h, R, GLe.refl G, Grow.refl hw, .slice none 0, [], ⟨rfl, rfl⟩, ⟨[], ⟨rfl, fun i x hx => by simp at hx⟩, rfl, fun i n c hn => by simp at hn⟩, by simp⟩
 ·simp only [List.cons.injEq, and_true] at h1
  subst h1
  simp only [if_true] at hmm
  subst hmm
  rcases Nat.eq_zero_or_pos cap with h0 | h0
  ·subst h0
   obtain rfl : len = 0 := by omega
   exact ⟨G, h, R, GLe.refl G, Grow.refl hw, .slice0, [], ⟨a, rfl⟩, ⟨[], ⟨rfl, fun i x hx => by simp at hx⟩, rfl, fun i n c hn => by simp at hn⟩, by simp⟩
  rw [T.cN] at hx'
  obtain ⟨C, hC⟩ := Go.Deep.choose_lt hx'
  have hC5 : ∀ i, i < cap -> (C i).length = 5 /\ ∀ j, j < 5 -> W.cell? ((a.add (i * 5)).add j) = (C i)[j]? := fun i hi => zNS (hC i hi).1
  have hspot : a.spot = none := by
   obtain ⟨q1, q2⟩ := hC5 0 h0
   have := q2 0 (by omega)
   rw [Nat.zero_mul, show a.add 0 = a by simp [Addr.add], show a.add 0 = a by simp [Addr.add], List.getElem?_eq_getElem (by omega)] at this
   obtain ⟨_, _, _, _, hs, _⟩ := zLD this
   exact hs
  obtain ⟨c, ty, fr, hc1, ha, hsz, hall⟩ := zIJ (w := W) (a := a) (m := cap * 5) (by omega) (V := fun k => (C (k / 5)).getD (k % 5) default) fun k hk => by
   obtain ⟨q1, q2⟩ := hC5 (k / 5) (by omega)
   have := q2 (k % 5) (by omega)
   rw [add_add _ _ _ hspot, show k / 5 * 5 + k % 5 = k by omega] at this
   rw [this, List.getElem?_eq_getElem (by omega), List.getD, List.getElem?_eq_getElem (by omega)]; rfl
  obtain ⟨G1, h1, R1, g1, w1, ns, cs, hn, hc, hv, hna, hs⟩ := zMG T hμ len (fun i hi => (hC i (by omega)).2) R hw
  have hcs5 : ∀ d ∈ cs, d.length = 5 := fun d hd => by
   obtain ⟨i, hi, rfl⟩ := List.mem_iff_getElem.1 hd
   exact (hv i _ (List.getElem?_eq_getElem hi)).1
  have hfl := zJX cs hcs5
  obtain ⟨G', R', g2, w2, g3, g4⟩ := R1.addRo w1.wf (e := tN) (off := a.off) (size := cap * 5) (vs := cs.flatten) hc1 hsz (by rw [hfl, hc]; omega) (VsR_row (by rw [hfl, hc]; omega) fun k x v hx hv' => by
   have hk := (List.getElem?_eq_some_iff.1 hx).1
   rw [hfl, hc] at hk
   rw [hall k (by omega), oI] at hv'
   obtain ⟨d, hd1, hd2⟩ := flat_get hcs5 hx
   obtain ⟨_, hd3⟩ := hv _ _ hd1
   obtain ⟨u, hu1, hu2⟩ := hd3.get hd2
   rw [<- hv', List.getD, hu1]
   exact hu2)
  refine ⟨G', _, R', g1.trans g2, w1.trans w2, .slice (some (h1.next, 0)) len, ns, ⟨_, cap, g3, ?_, hl, ?_⟩, ⟨cs, ⟨by simp [lenO, hc], fun i d hd => ?_⟩, by omega, fun i n d hn' hd => (hna i n d hn' hd).mono w2⟩, ?_⟩
  ·rw [ha]; rfl
  ·rw [T.cN]; simp
  ·have hi := (List.getElem?_eq_some_iff.1 hd).1
   have hd' := (List.getElem?_eq_some_iff.1 hd).2
   refine ⟨hcs5 d (List.mem_of_getElem? hd), h1.next, i * 5, h1.next, true, tN, _, by simp [slA]; omega, g4, ?_⟩
   rw [zJW cs hcs5 i hi, hd']
  ·refine Nat.le_trans hs ?_
   refine Nat.le_trans ?_ (Nat.le_trans (Nat.le_succ _) (hμ.slice ((List.range len).map D) _))
   rw [List.map_map]
   exact Nat.le_refl _
theorem zHn {tG tNs tN tI tS tB tIs tSs : TypeId} (T : GTypes P tG tNs tN tI tS tB tIs tSs) {μ : DataW H -> Nat} (hμ : Meas μ) {cs : Array Value} {d : DataW H} {ps : List MemPlace} (hx : DataW.Trod enc P W 0 (fun _ => true) true tG (.agg cs) d ps) (R : Rel P W.heap.size W G h W) (hw : WF h) :
  Laid P W G h fun G' h' => ∃ (v : AVal) (g : Graph), VR P G' v (.agg cs) /\ GraphAt h' v g /\ gsize g <= μ d := by
 obtain ⟨fuel, hx⟩ := hx
 obtain ⟨f0, f1, hs, ⟨t0, o0⟩, ⟨t1, o1⟩⟩ := T.graph
 obtain ⟨xs, n, _, hx1, hl, hxs, hf⟩ := DataW.trod_struct hs hx
 rw [T.cG] at hl
 have hl : cs.toList.length = 2 := hl
 have k0 := hf 0 f0 rfl
 have k1 := hf 1 f1 rfl
 have hcs : (Value.agg cs).cells.toList = cs.toList := rfl
 rw [hcs] at k0 k1
 rw [t0, o0, T.cNs, zEe (by omega)] at k0
 rw [t1, o1, T.cI, zEe (by omega)] at k1
 match xs, hxs with
 | [y0, y1], _ =>
  simp only [List.getElem?_cons_zero, List.getElem?_cons_succ] at k0 k1
  obtain ⟨rt, q1, r1, _⟩ := DataW.trod_int T.int k1
  simp only [List.cons.injEq, and_true] at q1
  obtain ⟨G1, h1, R1, g1, w1, nv, ns, hv, hN, hsz⟩ := zNz T hμ k0 R hw
  refine ⟨G1, h1, R1, g1, w1, .agg [nv, .int .i64 rt], ⟨ns, rt⟩, ⟨cs, rfl, ?_⟩, ⟨nv, rfl, hN⟩, ?_⟩
  ·match hh : cs.toList, hl with
   | [u0, u1], _ =>
    simp only [hh, List.getElem_cons_zero, List.getElem_cons_succ] at hv q1
    exact ⟨_, _, rfl, hv, _, _, rfl, q1, rfl⟩
  ·simp only [Prod.mk.injEq] at hx1
   rw [hx1.1]
   have := hμ.agg ([y0, y1].map (·.1))
   simp only [List.map_cons, List.map_nil, List.sum_cons, List.sum_nil] at this ⊢
   simp only [gsize]
   omega
end
end Go.Ab
