import Derived.Test.YtapnoohglfhgeaaGreatDoorP14
/-
  Part 15 of the proof.
-/
set_option linter.all false
section
/-
  Rules for regions whose order is drawn, and for blocks that stay; classes made finer.
-/
namespace Go.Ab.S
open Go.Ab
set_option maxHeartbeats 8000000
theorem le31 {n : Nat} (h : n ≤ 100000) : n ≤ 2 ^ 31 := Nat.le_trans h (by decide)
theorem le30 {n : Nat} (h : n ≤ 100000) : n ≤ 2 ^ 30 := Nat.le_trans h (by decide)
/-- What sort of block it is. -/
def tagO : AObj → Nat
  | .cells _ e _ => e + 5
  | .map _ _ => 0
  | .loop _ _ _ _ _ _ _ => 1
  | .dfr _ => 2
  | .iter _ _ _ _ => 3
theorem _root_.Go.Ab.But.kp {b : Nat} {h h' : AHeap} {p q : Nat × AObj} (P : But b h h') (hb : h.objs.get b = some p) {c : Nat} (hc : h.objs.get c = some q) (hne : (tagO p.2 == tagO q.2) = false) : h'.objs.get c = some q :=
  P.keep c (by rintro rfl; rw [hb] at hc; simp only [Option.some.injEq] at hc; rw [hc] at hne; simp at hne) _ hc
section
variable {fns : FuncId → Option AFunc} {summ : FuncId → List AVal → AHeap → Option (D (AVal × AHeap))} {ro : Option Nat}
/-- An operation within a region whose order is drawn, told as one by itself. -/
theorem dr_st {i p : Nat} {d : Option Tmp} {op : EOp} {l : List DStep} {hs : List Held} {a : AAct} {h : AHeap} {K : AAct → AHeap → Prop} (k : St fns summ ro [⟨d, none, .e op⟩] a h fun a h => heldOk h p hs = true ∧ Dr fns summ ro l hs a h K) : Dr fns summ ro (⟨i, p, ⟨d, none, .e op⟩⟩ :: l) hs a h K := by
  refine dr_e ?_
  unfold St StepsW Ev at k
  unfold Ex EW Ev
  obtain ⟨n, hn⟩ := k
  refine ⟨n, fun m hm => ?_⟩
  have := hn m hm
  simp only [stepsA, stepA, wantA] at this
  rw [D.sat_bind] at this
  exact D.sat_mono this fun p hp => hp
theorem st_pair {d : Option Tmp} {x y : AOpd} {l : List Step} {a : AAct} {h : AHeap} {K : AAct → AHeap → Prop} {u v : Int} (hx : ev a x = some (.int .i64 u)) (hy : ev a y = some (.int .i64 v)) (k : St fns summ ro l (putA a d (.agg [.int .i64 u, .int .i64 v])) h K) :
    St fns summ ro (⟨d, none, .q (.build [.int .i64 0, .int .i64 0] [(0, 1, x), (1, 1, y)])⟩ :: l) a h K := by
  refine st_q (v := .agg [.int .i64 u, .int .i64 v]) (b := none) ?_ k
  simp [qA, fillA, hx, hy, cellsA]
theorem dr_pair {i p : Nat} {d : Option Tmp} {x y : AOpd} {l : List DStep} {hs : List Held} {a : AAct} {h : AHeap} {K : AAct → AHeap → Prop} {u v : Int} (hx : ev a x = some (.int .i64 u)) (hy : ev a y = some (.int .i64 v)) (k : Dr fns summ ro l hs (putA a d (.agg [.int .i64 u, .int .i64 v])) h K) :
    Dr fns summ ro (⟨i, p, ⟨d, none, .q (.build [.int .i64 0, .int .i64 0] [(0, 1, x), (1, 1, y)])⟩⟩ :: l) hs a h K := by
  refine dr_q (v := .agg [.int .i64 u, .int .i64 v]) ?_ k
  simp [qA, fillA, hx, hy, cellsA]
theorem st_mkslice0 {d : Option Tmp} {e : TypeId} {bytes n : Nat} {z : AVal} {x y : AOpd} {l : List Step} {a : AAct} {h : AHeap} {K : AAct → AHeap → Prop} (hx : ev a x = some (.int .i64 0)) (hy : ev a y = some (.int .i64 (Int.ofNat n))) (hn : n ≤ 2 ^ 30) (hr : roomA bytes n = true) (w : WF h)
    (k : ∀ r h', Built h' h.next e 1 r 0 [] → (∀ c j, r = .slice (some (c, 0)) j → h.next ≤ c) → Grow h h' → St fns summ ro l (putA a d r) h' K) : St fns summ ro (⟨d, none, .e (.mkslice e 1 bytes [z] x y)⟩ :: l) a h K := by
  refine st_t (by intro _ _ hh; cases hh) (by intro _ _ hh; cases hh) (v := .slice (some (h.next, 0)) 0) (h' := newA h (.cells false e (List.replicate n z))) ?_ (k _ _ (.inr (.inr ⟨h.next, _, _, Nat.le_refl _, rfl, zAQ _ _, by omega, by simp⟩)) (fun c j hc => by simp only [AVal.slice.injEq, Option.some.injEq, Prod.mk.injEq] at hc; omega) ((Grow.refl w).new _))
  have h1 : asNat (.int .i64 (Int.ofNat n)) = some n := by simp [asNat]
  have h0 : asNat (.int .i64 0) = some 0 := rfl
  have h30 : (2 : Nat) ^ 30 ≤ 2 ^ 40 := by decide
  have hc : 0 ≤ n ∧ n ≤ 2 ^ 40 ∧ roomA bytes n = true := ⟨Nat.zero_le _, Nat.le_trans hn h30, hr⟩
  simp only [turnA, hx, hy, h1, h0, if_pos hc, rep_one]
end
/-- A key put behind. -/
theorem findA_snoc {kk : KeyK} {x y v : AVal} {c : Nat} : ∀ (es : List (AVal × AVal × Nat)) (i : Nat), findA kk x es i = some none → ∀ b, keyA kk x y = some b → findA kk x (es ++ [(y, v, c)]) i = some (if b then some (i + es.length, v) else none)
  | [], i, _, b, hk => by
    simp only [List.nil_append, findA, hk, List.length_nil, Nat.add_zero]
    cases b <;> rfl
  | (y', v', c') :: es, i, h, b, hk => by
    rw [findA] at h
    rw [List.cons_append, findA]
    cases hy : keyA kk x y' with
    | none => rw [hy] at h; cases h
    | some t =>
      cases t with
      | true => rw [hy] at h; cases h
      | false =>
        rw [hy] at h
        simp only
        rw [findA_snoc es (i + 1) h b hk, List.length_cons]
        congr 2
        rw [show i + 1 + es.length = i + (es.length + 1) by omega]
theorem findA_keep {kk : KeyK} {x : AVal} {p : Nat × AVal} {e : AVal × AVal × Nat} : ∀ (es : List (AVal × AVal × Nat)) (i : Nat), findA kk x es i = some (some p) → findA kk x (es ++ [e]) i = some (some p)
  | [], i, h => by cases h
  | (y', v', c') :: es, i, h => by
    rw [findA] at h
    rw [List.cons_append, findA]
    cases hy : keyA kk x y' with
    | none => rw [hy] at h; cases h
    | some t =>
      cases t with
      | true => rw [hy] at h; exact h
      | false => rw [hy] at h; exact findA_keep es (i + 1) h
/-- The first place of each key. -/
def FI (es : List (AVal × AVal × Nat)) (keys : List (List Nat)) (j : Nat) : Prop := ∀ k, ∃ i, findA .str (.str k) es 0 = some (if k ∈ keys.take j then some (i, .int .i64 (firstIx k keys : Nat)) else none)
theorem FI.zero (keys : List (List Nat)) : FI [] keys 0 := fun k => ⟨0, by simp [findA]⟩
theorem FI.stay {es : List (AVal × AVal × Nat)} {keys : List (List Nat)} {j : Nat} (hj : j < keys.length) (h : FI es keys j) (hm : keys[j] ∈ keys.take j) : FI es keys (j + 1) := fun k => by
  obtain ⟨i, hi⟩ := h k
  refine ⟨i, ?_⟩
  rw [hi]
  have : k ∈ keys.take (j + 1) ↔ k ∈ keys.take j := by
    rw [List.take_succ_eq_append_getElem hj, List.mem_append, List.mem_singleton]
    exact ⟨fun h => h.elim id (fun h => h ▸ hm), .inl⟩
  simp only [this]
theorem first_new {keys : List (List Nat)} {j : Nat} (hj : j < keys.length) (hm : keys[j] ∉ keys.take j) : firstIx keys[j] keys = j := by
  have h1 := firstIx_le (List.getElem?_eq_getElem hj)
  have h2 := (firstIx_spec (List.getElem_mem hj)).1
  rcases Nat.lt_or_ge (firstIx keys[j] keys) j with hlt | hge
  · rw [List.getElem?_eq_getElem (by omega)] at h2
    exact absurd (List.mem_take_iff_getElem.2 ⟨firstIx keys[j] keys, by omega, Option.some.inj h2⟩) hm
  · omega
theorem FI.put {es : List (AVal × AVal × Nat)} {keys : List (List Nat)} {j c : Nat} (hj : j < keys.length) (h : FI es keys j) (hm : keys[j] ∉ keys.take j) : FI (es ++ [(.str keys[j], .int .i64 (j : Nat), c)]) keys (j + 1) := fun k => by
  obtain ⟨i, hi⟩ := h k
  by_cases hk : k ∈ keys.take j
  · rw [if_pos hk] at hi
    refine ⟨i, ?_⟩
    rw [findA_keep es 0 hi, if_pos (by rw [List.take_succ_eq_append_getElem hj]; exact List.mem_append.2 (.inl hk))]
  · rw [if_neg hk] at hi
    refine ⟨0 + es.length, ?_⟩
    rw [findA_snoc es 0 hi (eqL k keys[j]) rfl]
    by_cases he : k = keys[j]
    · subst he
      have hin : keys[j] ∈ keys.take (j + 1) := by rw [List.take_succ_eq_append_getElem hj]; exact List.mem_append.2 (.inr (List.mem_singleton.2 rfl))
      rw [if_pos (eqL_iff.2 rfl), if_pos hin, first_new hj hm]
    · rw [if_neg (by rw [eqL_iff]; exact he), if_neg (by
        rw [List.take_succ_eq_append_getElem hj, List.mem_append, List.mem_singleton]
        exact fun h => h.elim hk he)]
theorem FI.look {h : AHeap} {r ver c : Nat} {es : List (AVal × AVal × Nat)} {keys : List (List Nat)} {j : Nat} (hg : h.objs.get r = some (ver, .map es c)) (f : FI es keys j) (k : List Nat) : lookA h .str (.int .i64 0) true (.map (some r)) (.str k) = some (.tuple [.int .i64 (if k ∈ keys.take j then (firstIx k keys : Nat) else 0), .bool (decide (k ∈ keys.take j))], some r) := by
  obtain ⟨i, hi⟩ := f k
  simp only [lookA, isKey, hg, hi]
  by_cases hk : k ∈ keys.take j
  · simp [hk]
  · simp [hk]
theorem FI.look1 {h : AHeap} {r ver c : Nat} {es : List (AVal × AVal × Nat)} {keys : List (List Nat)} {j : Nat} (hg : h.objs.get r = some (ver, .map es c)) (f : FI es keys j) {k : List Nat} (hk : k ∈ keys.take j) : lookA h .str (.int .i64 0) false (.map (some r)) (.str k) = some (.int .i64 (firstIx k keys : Nat), some r) := by
  obtain ⟨i, hi⟩ := f k
  simp only [lookA, isKey, hg, hi]
  simp [hk]
/-- What is known all the while of classes that are made finer. -/
structure FInv (h0 : AHeap) (b2 b3 r5 b6 : Nat) (nv cv : AVal) (root : Int) (keys : List (List Nat)) (out : List Int) (j : Nat) (hp : AHeap) : Prop where
  grow : Grow h0 hp
  o2 : ∃ ver, hp.objs.get b2 = some (ver, .cells false 24 [nv, .int .i64 root])
  o3 : ∃ ver, hp.objs.get b3 = some (ver, .cells false 58 [cv])
  o5 : ∃ ver es c, hp.objs.get r5 = some (ver, .map es c) ∧ FI es keys j
  o6 : ∃ ver vs, hp.objs.get b6 = some (ver, .cells false 3 vs) ∧ vs.length = out.length ∧ vs.take j = (out.take j).map (AVal.int .i64)
  low : h0.next ≤ r5 ∧ h0.next ≤ b6
theorem FInv.other {h0 : AHeap} {b2 b3 r5 b6 : Nat} {nv cv : AVal} {root : Int} {keys : List (List Nat)} {out : List Int} {j : Nat} {hp hq : AHeap} (I : FInv h0 b2 b3 r5 b6 nv cv root keys out j hp) (g : Grow hp hq) : FInv h0 b2 b3 r5 b6 nv cv root keys out j hq := by
  obtain ⟨v2, k2⟩ := I.o2
  obtain ⟨v3, k3⟩ := I.o3
  obtain ⟨v5, es, c, k5, kf⟩ := I.o5
  obtain ⟨v6, vs, k6, kl, kt⟩ := I.o6
  exact ⟨I.grow.trans g, ⟨v2, g.keep _ _ k2⟩, ⟨v3, g.keep _ _ k3⟩, ⟨v5, es, c, g.keep _ _ k5, kf⟩, ⟨v6, vs, g.keep _ _ k6, kl, kt⟩, I.low⟩
/-- So small that all texts are short. -/
structure GTi (g : Graph) : Prop extends GSm g where
  tiny : g.nodes.length + leftG [] g.nodes 0 ≤ 4096
theorem flat_bound {α : Type} (f : α → List Nat) (c : Nat) : ∀ (l : List α), (∀ x ∈ l, (f x).length ≤ c) → ((l.map f).flatten).length ≤ l.length * c
  | [], _ => by simp
  | x :: l, h => by
    have h1 := flat_bound f c l fun y hy => h y (by simp [hy])
    have h2 := h x (by simp)
    simp only [List.map_cons, List.flatten_cons, List.length_append, List.length_cons, Nat.add_mul]
    omega
theorem look_small {g : Graph} (hg : GTi g) (hok : NsOK g.nodes) {cl : List Int} (hc : ∀ a, InR (clAt cl a)) {n : Node} (hn : n ∈ g.nodes) : (lookS n (clAt cl)).length ≤ 900000 ∧ (∀ c ∈ lookS n (clAt cl), c < 256) ∧ (itoaN n.kind).length ≤ 20 ∧ n.name.length ≤ 10 ∧ (n.kind = 1 ∨ n.kind = 2 ∨ n.kind = 3) := by
  have hm := hok.2 n hn
  have hl1 := leftG_one g.nodes 0 n hn
  have ht := hg.tiny
  have hkind : n.kind = 1 ∨ n.kind = 2 ∨ n.kind = 3 := by rcases may_kind hm with h | h | h <;> simp [h.1]
  have hk20 : (itoaN n.kind).length ≤ 20 := itoaN_len (by omega) (by omega)
  have hargs : (argS (clAt cl) n.args).length ≤ n.args.length * 21 := flat_bound _ 21 _ fun a _ => by
    have := itoaN_len (n := clAt cl a) (by have := (hc a).1; omega) (by have := (hc a).2; omega)
    simp only [List.length_cons]; omega
  have hargc : ∀ c ∈ argS (clAt cl) n.args, c < 256 := by
    intro c hcc
    simp only [argS, List.mem_flatten, List.mem_map] at hcc
    obtain ⟨_, ⟨a, _, rfl⟩, hcc⟩ := hcc
    rcases List.mem_cons.1 hcc with rfl | hcc
    · decide
    · exact itoaN_lt _ c hcc
  have hkc : ∀ c ∈ itoaN n.kind, c < 256 := itoaN_lt _
  have hrest : (labS n.labels).length ≤ n.args.length * 101 ∧ (∀ c ∈ labS n.labels, c < 256) ∧ n.name.length ≤ 10 ∧ (∀ c ∈ n.name, c < 256) := by
    rcases may_kind hm with ⟨_, k1, _, k3, _⟩ | ⟨_, k1, _, k3, _⟩ | ⟨_, k1, k2, k3⟩
    · rw [k1, k3]; simp [labS]
    · rw [k1]
      refine ⟨by simp [labS], by simp [labS], ?_⟩
      simp only [arIs, Bool.or_eq_true, eqL_iff] at k3
      rcases k3 with ((((h | h) | h) | h) | h) | h <;> rw [h] <;> decide
    · have hnm := ris_names (p := none) k3
      rw [k1, ← k2]
      refine ⟨flat_bound _ 101 _ fun s hs => ?_, fun c hcc => ?_, by simp, by simp⟩
      · have := hnm s hs
        simp only [isNameF, Bool.and_eq_true, decide_eq_true_eq] at this
        simp only [List.length_cons]; omega
      · simp only [labS, List.mem_flatten, List.mem_map] at hcc
        obtain ⟨_, ⟨s, hs, rfl⟩, hcc⟩ := hcc
        rcases List.mem_cons.1 hcc with rfl | hcc
        · decide
        · have := name_goes (hnm s hs) c hcc; omega
  obtain ⟨q1, q2, q3, q4⟩ := hrest
  refine ⟨?_, ?_, hk20, q3, hkind⟩
  · simp only [lookS, headS, List.length_append]; omega
  · intro c hcc
    simp only [lookS, headS, List.mem_append] at hcc
    rcases hcc with ((h | h) | h) | h
    · exact hkc c h
    · exact q4 c h
    · exact q2 c h
    · exact hargc c h
section
variable {fns : FuncId → Option AFunc} {summ : FuncId → List AVal → AHeap → Option (D (AVal × AHeap))}
variable (H : Has fns summ)
include H
theorem refine_ok (g : Graph) (cl : List Int) (hg : GTi g) (hok : NsOK g.nodes) (hcl : cl.length = g.nodes.length) (hc : ∀ a, InR (clAt cl a)) (v cv : AVal) (h : AHeap) (hw : WF h) (hv : GraphAt h v g) (hcv : IntsAt h cv cl) :
    Cl fns summ 77 [v, cv] h fun r h' => Built h' h.next 3 1 r g.nodes.length ((refineF g.nodes cl).map (AVal.int .i64)) ∧ Grow h h' := by
  obtain ⟨nv, rfl, hN⟩ := hv
  have hlen := hN.len
  have hcl1 := hcv.len
  have htiny := hg.tiny
  refine H.go (fn := F_refine) rfl (by decide) rfl rfl ?_
  unfold F_refine
  dsimp only [qQ, qE, qN, gQ, gE, vi]
  refine zAC (zAD ?_)
  refine st_box (by exact e1) (by exact cc) hw ?_
  rintro b2 h2 hb2 g2 o2
  refine st_box (by exact e1) (cells_of_len hcl1) g2.wf ?_
  rintro b3 h3 hb3 g3 o3
  replace o2 := g3.keep _ _ o2
  have g03 := g2.trans g3
  repeat with_reducible first | refine zAA ?_ | refine zAB ?_ | refine zAC ?_ | refine zAD ?_ | (apply st_q; exact q1)
  refine st_mkmap (.inl rfl) g3.wf ?_
  rintro r5 h4 hr5 g4 o5
  replace o2 := g4.keep _ _ o2
  replace o3 := g4.keep _ _ o3
  have g04 := g03.trans g4
  have hroom := roomOK H (b := 8) (by decide) (k := g.nodes.length) (le31 (by omega))
  repeat with_reducible first | refine zAA ?_ | refine zAB ?_ | refine zAC ?_ | refine zAD ?_ | (apply st_q; exact q1)
  refine st_mkslice (by exact e1) (by exact e1) (le30 (by omega)) hroom g4.wf ?_
  rintro b6 h5 hb6 g5 o6
  have g05 := g04.trans g5
  have n2 := g2.next
  have n3 := g03.next
  have n4 := g04.next
  have I0 : FInv h b2 b3 r5 b6 nv cv g.root (keysF g.nodes cl) (refineF g.nodes cl) 0 h5 :=
    ⟨g05, ⟨_, g5.keep _ _ o2⟩, ⟨_, g5.keep _ _ o3⟩, ⟨_, _, _, g5.keep _ _ o5, FI.zero _⟩, ⟨_, _, o6, by rw [List.length_replicate, refineF_len], rfl⟩, by omega, by omega⟩
  replace o2 := g5.keep _ _ o2
  clear o3 o5 o6 hroom g2 g3 g4 g5 g03 g04 g05 hb2 hb3 hr5 hb6 n2 n3 n4
  repeat with_reducible first | refine zAA ?_ | refine zAB ?_ | refine zAC ?_ | refine zAD ?_ | (apply st_q; exact q1)
  refine cd_count (N := g.nodes.length) (by omega) (fun j a hp => FInv h b2 b3 r5 b6 nv cv g.root (keysF g.nodes cl) (refineF g.nodes cl) j hp ∧ a.defers = [] ∧ ev a (.tmp 2) = some (.ptr (some (b2, 0))) ∧ ev a (.tmp 3) = some (.ptr (some (b3, 0))) ∧ ev a (.tmp 5) = some (.map (some r5)) ∧ ev a (.tmp 6) = some (.slice (some (b6, 0)) g.nodes.length) ∧ ev a (.tmp 18) = some nv)
    (by rintro j a hp t w (rfl | rfl | rfl) ⟨k1, k2, k3, k4, k5, k6, k7⟩ <;> exact ⟨k1, by rw [zAV]; exact k2, by exact e1, by exact e1, by exact e1, by exact e1, by exact e1⟩) (by decide) ?_ ?_ ⟨I0, by exact n1, by exact e1, by exact e1, by exact e1, by exact e1, by exact e1⟩ (by exact e1) (by exact e1)
  · clear I0 o2
    rintro j a hp hj ⟨I, hd, h2', h3', h5', h6', h18⟩ hi hn
    have hkl : j < (keysF g.nodes cl).length := by rw [keysF_len]; exact hj
    have hnj : g.nodes.getD j dNode = g.nodes[j] := by rw [List.getD, List.getElem?_eq_getElem hj]; rfl
    have hkj : (keysF g.nodes cl)[j] = keyS cl j g.nodes[j] := by
      have := keysF_get (cl := cl) hj
      rw [List.getElem?_eq_getElem hkl, hnj] at this
      exact Option.some.inj this
    have hmem : g.nodes[j] ∈ g.nodes := List.getElem_mem hj
    obtain ⟨hs1, hs2, hs3, hs4, hs5⟩ := look_small hg hok hc hmem
    obtain ⟨bn, on, vern, ron, en, vsn, av, lv, hixn, hgn, hvl, hv5, _, _, _, _, _, ha, hl⟩ := (hN.mono I.grow).at (List.getElem?_eq_getElem hj)
    have hpart5 : partA (some 5) vsn on = some (nodeV g.nodes[j] av lv) := by rw [partA, if_pos hvl, hv5]; rfl
    have hcj : cl[j]? = some (clAt cl j) := by
      rw [clAt_nat, List.getD, List.getElem?_eq_getElem (by omega)]; rfl
    have hcin := hc j
    have hci20 : (itoaN (clAt cl j)).length ≤ 20 := itoaN_len (by have := hcin.1; omega) (by have := hcin.2; omega)
    have hj20 : (itoaN (j : Nat)).length ≤ 20 := itoaN_len (by omega) (by omega)
    repeat with_reducible first | refine zAC ?_ | refine zAD ?_ | refine zAK ?_ | (apply st_q; exact q1)
    refine st_alloc I.grow.wf ?_
    rintro b8 h6 hb8 g6 o8
    repeat with_reducible (apply st_q; exact q1)
    refine zAP (by exact e1) (by exact e1) (cs := [.int .i64 g.nodes[j].kind, .str g.nodes[j].name, av, lv, .bool g.nodes[j].isOpen]) rfl rfl g6.wf o8 (by simp) (ones_node ha.len hl.len) ?_
    rintro v7 h7 p7 o7
    simp only [List.take_zero, List.nil_append, List.length_cons, List.length_nil, List.drop_succ_cons, List.drop_zero, List.append_nil, Nat.zero_add, Nat.reduceAdd, List.drop_nil, List.cons_append] at o7
    have g7 : Grow hp h7 := p7.grow hp I.grow.wf g6 hb8
    have ha7 := ha.mono g7
    have hl7 := hl.mono g7
    have hpart7 : partA (some 5) [.int .i64 g.nodes[j].kind, .str g.nodes[j].name, av, lv, .bool g.nodes[j].isOpen] 0 = some (nodeV g.nodes[j] av lv) := rfl
    have I7 := I.other g7
    obtain ⟨v3, o3⟩ := I7.o3
    obtain ⟨bc, oc, verc, roc, ec, vsc, hixc, hgc, hvc⟩ := (hcv.mono I7.grow).at hcj
    clear p7 g6 o8 hixn hgn hpart5 hv5 hvl ha hl hb8
    repeat with_reducible first | refine zAA ?_ | refine zAB ?_ | refine zAC ?_ | refine zAD ?_ | (apply st_q; exact q1)
    refine zAS (by exact s1) (cl_summ (H.itoa _ h7 (by have := hcin.1; omega) (by have := hcin.2; omega)) ?_)
    rw [D.sat_ret]
    have hadd : (itoaN (clAt cl j)).length + ([58] : List Nat).length < 1000000000000 := by simp only [List.length_singleton]; omega
    repeat with_reducible first | refine zAA ?_ | refine zAB ?_ | refine zAC ?_ | refine zAD ?_ | (apply st_q; exact q1)
    refine zAS (by exact s1) ((cfree_ok H g.nodes[j] av lv h7 g7.wf).mono ?_)
    rintro _ h8 ⟨rfl, g8⟩
    have I8 := I7.other g8
    replace o7 := g8.keep _ _ o7
    replace ha7 := ha7.mono g8
    replace hl7 := hl7.mono g8
    have hfr : (g.nodes[j].kind == 1 || g.nodes[j].isOpen) = cfreeF g.nodes[j] := rfl
    clear o3 hixc hgc hvc I7 hadd
    refine zAB (zAA ?_)
    refine cd_post (fun a hq => hq = h8 ∧ a.defers = [] ∧ ev a (.tmp 2) = some (.ptr (some (b2, 0))) ∧ ev a (.tmp 3) = some (.ptr (some (b3, 0))) ∧ ev a (.tmp 5) = some (.map (some r5)) ∧ ev a (.tmp 6) = some (.slice (some (b6, 0)) g.nodes.length) ∧ ev a (.tmp 18) = some nv ∧ ev a (.tmp 20) = some (.int .i64 (j : Nat)) ∧ ev a (.tmp 19) = some (.int .i64 (g.nodes.length : Nat)) ∧ ev a (.tmp 7) = some (.int .i64 (j : Nat)) ∧ ev a (.tmp 8) = some (.ptr (some (b8, 0))) ∧ ev a (.tmp 9) = some (.str (itoaN (clAt cl j) ++ [58] ++ (if cfreeF g.nodes[j] then 35 :: itoaN (j : Nat) else [])))) ?_ ?_
    · cases hf : cfreeF g.nodes[j]
      · rw [hf] at hfr
        have hap : itoaN (clAt cl j) ++ [58] ++ (if false = true then 35 :: itoaN (j : Nat) else []) = itoaN (clAt cl j) ++ [58] := by simp
        repeat with_reducible first | refine zAA ?_ | refine zAL ?_ | (apply zAI; exact e1)
        exact ⟨rfl, by exact n1, by exact e1, by exact e1, by exact e1, by exact e1, by exact e1, by exact e1, by exact e1, by exact e1, by exact e1, by rw [hap]; exact e1⟩
      · rw [hf] at hfr
        have hap : itoaN (clAt cl j) ++ [58] ++ (if true = true then 35 :: itoaN (j : Nat) else []) = itoaN (clAt cl j) ++ [58] ++ ([35] ++ itoaN (j : Nat)) := by simp
        have hadd1 : ([35] : List Nat).length + (itoaN (j : Nat)).length < 1000000000000 := by simp only [List.length_singleton]; omega
        have hadd2 : (itoaN (clAt cl j) ++ [58]).length + (([35] : List Nat) ++ itoaN (j : Nat)).length < 1000000000000 := by simp only [List.length_append, List.length_singleton]; omega
        repeat with_reducible first | refine zAD ?_ | (apply st_q; exact q1) | (apply zAF; exact e1)
        refine zAS (by exact s1) (cl_summ (H.itoa _ h8 (by omega) (by omega)) ?_)
        rw [D.sat_ret]
        repeat with_reducible first | refine zAA ?_ | refine zAB ?_ | (apply st_q; exact q1)
        exact ⟨rfl, by exact n1, by exact e1, by exact e1, by exact e1, by exact e1, by exact e1, by exact e1, by exact e1, by exact e1, by exact e1, by rw [hap]; exact e1⟩
    clear hi hn hd h2' h3' h5' h6' h18 hfr
    rintro a _ ⟨rfl, hd, h2', h3', h5', h6', h18, hi, hn, h7', h8', h9'⟩
    refine zAA ?_
    repeat with_reducible first | refine zAC ?_ | refine zAD ?_ | (apply st_q; exact q1)
    obtain ⟨v3, o3⟩ := I8.o3
    refine zAS (by exact s1) ((look_ok H g.nodes[j] (hg.all _ hmem) (clAt cl) (.func 122 [] [.ptr (some (b3, 0))]) av lv _ g8.wf ha7 hl7 (by omega) (fun a _ => ⟨by have := (hc a).1; omega, by have := (hc a).2; omega⟩) (fun a haa h' g' => ?_) (by omega) hs2).mono ?_)
    · obtain ⟨a0, a1⟩ := may_args (hok.2 _ hmem) a haa
      obtain ⟨i, rfl⟩ : ∃ i : Nat, a = (i : Int) := ⟨a.toNat, by omega⟩
      have hci : cl[i]? = some (clAt cl i) := by rw [clAt_nat, List.getD, List.getElem?_eq_getElem (by omega)]; rfl
      exact cv_func (refine1_ok H cl i _ hci cv b3 v3 false _ h' (g'.keep _ _ o3) (hcv.mono (I8.grow.trans g')))
    rintro _ h9 ⟨rfl, g9⟩
    have I9 := I8.other g9
    have hkey : itoaN (clAt cl j) ++ [58] ++ (if cfreeF g.nodes[j] then 35 :: itoaN (j : Nat) else []) ++ lookS g.nodes[j] (clAt cl) = (keysF g.nodes cl)[j] := hkj.symm
    have hadd3 : (itoaN (clAt cl j) ++ [58] ++ (if cfreeF g.nodes[j] then 35 :: itoaN (j : Nat) else [])).length + (lookS g.nodes[j] (clAt cl)).length < 1000000000000 := by
      have : (if cfreeF g.nodes[j] then 35 :: itoaN (j : Nat) else []).length ≤ 21 := by split <;> simp <;> omega
      simp only [List.length_append, List.length_singleton]; omega
    have g79 := g8.trans g9
    obtain ⟨v5, es, c5, o5, hfi⟩ := I9.o5
    have hlk := hfi.look o5 (keysF g.nodes cl)[j]
    clear o3 I8 g8 g9 ha7 hl7 o7 hkj hs2 hcj hpart7
    have hadd4 := hadd3
    rw [← List.length_append, hkey] at hadd4
    have hsa : strOpA .add (itoaN (clAt cl j) ++ [58] ++ (if cfreeF g.nodes[j] then 35 :: itoaN (j : Nat) else [])) (lookS g.nodes[j] (clAt cl)) = some (.str (keysF g.nodes cl)[j]) := by rw [str_add hadd3, hkey]
    clear hadd3 hadd4 hkey
    repeat with_reducible first | refine zAA ?_ | refine zAB ?_ | refine zAC ?_ | refine zAD ?_ | (apply st_q; exact q1)
    -- the first of its sort, or not
    obtain ⟨v6, vs6, o6, hl6, ht6⟩ := I9.o6
    have hout : (refineF g.nodes cl)[j]? = some (firstIx (keysF g.nodes cl)[j] (keysF g.nodes cl) : Nat) := by
      rw [refineF, List.getElem?_map, List.getElem?_eq_getElem hkl]; rfl
    have hlo : j < (refineF g.nodes cl).length := by rw [refineF_len]; exact hj
    have hix6 : slA (.slice (some (b6, 0)) g.nodes.length) 1 j = some (b6, j) := by simp [slA, hj]
    have hrow : ∀ x : Int, (refineF g.nodes cl)[j]? = some x → (vs6.take j ++ [AVal.int .i64 x] ++ vs6.drop (j + 1)).take (j + 1) = ((refineF g.nodes cl).take (j + 1)).map (AVal.int .i64) := by
      intro x hx
      rw [List.getElem?_eq_getElem hlo] at hx
      have hx := Option.some.inj hx
      rw [List.take_succ_eq_append_getElem hlo, List.map_append, ← ht6, hx, List.take_append_of_le_length (by simp; omega), List.take_of_length_le (by simp; omega)]
      rfl
    by_cases hm : (keysF g.nodes cl)[j] ∈ (keysF g.nodes cl).take j
    · have hdec : decide ((keysF g.nodes cl)[j] ∈ (keysF g.nodes cl).take j) = true := decide_eq_true hm
      have hlk1 := hfi.look1 o5 hm
      rw [hdec] at hlk
      repeat with_reducible first | refine zAA ?_ | refine zAD ?_ | refine zAL ?_ | (apply st_q; exact q1) | (apply zAI; exact e1)
      refine zAP (by exact e1) (by exact e1) (by exact cc) rfl I9.grow.wf o6 (by simp; omega) rfl ?_
      rintro vz hz pz oz
      simp only [List.length_cons, List.length_nil, Nat.zero_add] at oz
      have Iz : FInv h b2 b3 r5 b6 nv cv g.root (keysF g.nodes cl) (refineF g.nodes cl) (j + 1) hz := by
        obtain ⟨u2, k2⟩ := I9.o2
        obtain ⟨u3, k3⟩ := I9.o3
        exact ⟨pz.grow h hw I9.grow I9.low.2, ⟨_, pz.kp o6 k2 rfl⟩, ⟨_, pz.kp o6 k3 rfl⟩, ⟨_, _, _, pz.kp o6 o5 rfl, hfi.stay hkl hm⟩, ⟨_, _, oz, by simp; omega, hrow _ hout⟩, I9.low⟩
      clear oz pz hlk hlk1 hdec o5 o6
      repeat with_reducible first | refine zAA ?_ | refine zAJ ?_ | refine zAB ?_
      exact ⟨⟨Iz, by exact n1, by exact e1, by exact e1, by exact e1, by exact e1, by exact e1⟩, by exact e1, by exact e1⟩
    · have hdec : decide ((keysF g.nodes cl)[j] ∈ (keysF g.nodes cl).take j) = false := decide_eq_false hm
      rw [hdec] at hlk
      have hf0 : findA .str (.str (keysF g.nodes cl)[j]) es 0 = some none := by
        obtain ⟨i, hi⟩ := hfi (keysF g.nodes cl)[j]
        rw [hi, if_neg hm]
      repeat with_reducible first | refine zAD ?_ | (apply st_q; exact q1) | (apply zAF; exact e1)
      refine st_put (by exact e1) (by exact e1) (by exact e1) (by intro hh; cases hh) rfl I9.grow.wf o5 hf0 ?_
      rintro vy hy py oy
      have fy := hfi.put (c := c5) hkl hm
      have hmem1 : (keysF g.nodes cl)[j] ∈ (keysF g.nodes cl).take (j + 1) := by rw [List.take_succ_eq_append_getElem hkl]; exact List.mem_append.2 (.inr (List.mem_singleton.2 rfl))
      have hlk1 := fy.look1 oy hmem1
      have o6y := py.kp o5 o6 rfl
      have gy := py.grow h hw I9.grow I9.low.1
      clear hlk hdec
      repeat with_reducible first | refine zAA ?_ | refine zAB ?_ | refine zAD ?_ | (apply st_q; exact q1)
      refine zAP (by exact e1) (by exact e1) (by exact cc) rfl gy.wf o6y (by simp; omega) rfl ?_
      rintro vz hz pz oz
      simp only [List.length_cons, List.length_nil, Nat.zero_add] at oz
      have Iz : FInv h b2 b3 r5 b6 nv cv g.root (keysF g.nodes cl) (refineF g.nodes cl) (j + 1) hz := by
        obtain ⟨u2, k2⟩ := I9.o2
        obtain ⟨u3, k3⟩ := I9.o3
        exact ⟨pz.grow h hw gy I9.low.2, ⟨_, pz.kp o6y (py.kp o5 k2 rfl) rfl⟩, ⟨_, pz.kp o6y (py.kp o5 k3 rfl) rfl⟩, ⟨_, _, _, pz.kp o6y oy rfl, fy⟩, ⟨_, _, oz, by simp; omega, hrow _ hout⟩, I9.low⟩
      clear oz pz oy py hlk1 o5 o6 o6y hf0
      repeat with_reducible first | refine zAA ?_ | refine zAJ ?_ | refine zAB ?_
      exact ⟨⟨Iz, by exact n1, by exact e1, by exact e1, by exact e1, by exact e1, by exact e1⟩, by exact e1, by exact e1⟩
  · rintro a hp ⟨I, hd, h2', h3', h5', h6', h18⟩
    obtain ⟨v6, vs6, o6, hl6, ht6⟩ := I.o6
    rw [refineF_len] at hl6
    have e1' : (refineF g.nodes cl).take g.nodes.length = refineF g.nodes cl := List.take_of_length_le (by rw [refineF_len]; exact Nat.le_refl _)
    rw [e1'] at ht6
    repeat' with_reducible first | refine zAA ?_ | refine zAB ?_ | refine zAC ?_ | refine zAD ?_ | refine zAG ?_ | (apply st_q; exact q1) | (apply zAE; exact n1; exact r1)
    exact ⟨.inr (.inr ⟨b6, vs6, v6, I.low.2, rfl, o6, by omega, by rw [Nat.mul_one]; exact ht6⟩), I.grow⟩
end
end Go.Ab.S
end
section
/-
  Classes, and the least graph.
-/
namespace Go.Ab.S
open Go.Ab
set_option maxHeartbeats 8000000
/-- Of what is made finer, so many times at the most. -/
theorem classesG_step (ns : List Node) (hns : NsOK ns) {m : Nat} {cl : List Int} (k : ClsOK ns.length cl) (hm : ns.length - fixc ns.length cl < m) (hne : eqII (refineF ns cl) cl = false) : ∃ m', m = m' + 1 ∧ classesG ns m cl = classesG ns m' (refineF ns cl) ∧ ns.length - fixc ns.length (refineF ns cl) < m' := by
  obtain ⟨m', rfl⟩ : ∃ m', m = m' + 1 := ⟨m - 1, by omega⟩
  refine ⟨m', rfl, by rw [classesG, hne]; rfl, ?_⟩
  have h1 := refine_more hns k hne
  have h2 := fixc_le ns.length (refineF ns cl)
  omega
theorem zeros_ints (n : Nat) : List.replicate n (AVal.int .i64 0) = (List.replicate n (0 : Int)).map (AVal.int .i64) := by simp
section
variable {fns : FuncId → Option AFunc} {summ : FuncId → List AVal → AHeap → Option (D (AVal × AHeap))}
variable (H : Has fns summ)
include H
theorem Classes_ok (g : Graph) (hg : GTi g) (hok : zAT g = 0) (v : AVal) (h : AHeap) (hw : WF h) (hv : GraphAt h v g) :
    Cl fns summ 53 [v] h fun r h' => Built h' h.next 3 1 r g.nodes.length ((zAM g).map (AVal.int .i64)) ∧ Grow h h' := by
  obtain ⟨nv, rfl, hN⟩ := hv
  have hlen := hN.len
  have hns := check_ns hok
  have htiny := hg.tiny
  refine H.go (fn := F_Classes) rfl (by decide) rfl rfl ?_
  unfold F_Classes
  dsimp only [qQ, qE, qN, gQ, gE, vi]
  refine zAC (zAD ?_)
  refine st_box (by exact e1) (by exact cc) hw ?_
  rintro b1 h1 hb1 g1 o1
  have hpart : partA (some 2) [nv, .int .i64 g.root] 0 = some (.agg [nv, .int .i64 g.root]) := rfl
  repeat with_reducible first | refine zAA ?_ | refine zAB ?_ | refine zAC ?_ | refine zAD ?_ | (apply st_q; exact q1)
  refine zAS (by exact s1) ((Check_ok H g hg.toGraphSm _ h1 g1.wf ⟨nv, rfl, hN.mono g1⟩).mono ?_)
  rintro _ h2 ⟨rfl, g2⟩
  replace o1 := g2.keep _ _ o1
  have g02 := g1.trans g2
  have hck : (zAT g != 0) = false := by rw [hok]; rfl
  replace hok := Hid.mk hok
  have hroom := roomOK H (b := 8) (by decide) (k := g.nodes.length) (le31 (by omega))
  repeat with_reducible first | refine zAA ?_ | refine zAB ?_ | refine zAC ?_ | refine zAD ?_ | refine zAL ?_ | (apply st_q; exact q1) | (apply zAI; exact e1)
  refine st_mkslice (by exact e1) (by exact e1) (le30 (by omega)) hroom g2.wf ?_
  rintro b3 h3 hb3 g3 o3
  replace o1 := g3.keep _ _ o1
  have g03 := g02.trans g3
  have n2 := g02.next
  rw [zeros_ints] at o3
  have B0 : Built h3 h.next 3 1 (.slice (some (b3, 0)) g.nodes.length) g.nodes.length ((List.replicate g.nodes.length 0).map (AVal.int .i64)) := .inr (.inr ⟨b3, _, _, by omega, rfl, o3, by simp, by simp⟩)
  clear o3 hck hroom hb3 hb1
  repeat with_reducible first | refine zAA ?_ | refine zAB ?_ | (apply st_q; exact q1)
  refine cd_block ?_
  refine cd_loop (fun m a hp => ∃ cl cv, Built hp h.next 3 1 cv g.nodes.length (cl.map (AVal.int .i64)) ∧ ClsOK g.nodes.length cl ∧ g.nodes.length - fixc g.nodes.length cl < m ∧ zAM g = classesG g.nodes m cl ∧ Grow h hp ∧ (∃ ver, hp.objs.get b1 = some (ver, .cells false 24 [nv, .int .i64 g.root])) ∧ a.defers = [] ∧ ev a (.tmp 1) = some (.ptr (some (b1, 0))) ∧ ev a (.tmp 3) = some cv) ?_ (n := g.nodes.length + 1)
    ⟨_, _, B0, ClsOK.zero _, by omega, rfl, g03, ⟨_, o1⟩, by exact n1, by exact e1, by exact e1⟩
  clear B0 o1 g1 g2 g3 g02 g03 n2
  rintro m a hp ⟨cl, cv, B, kc, hm, hcl, gp, ⟨ver, o1⟩, hd, h1', h3'⟩
  have hcv : IntsAt hp cv cl := built_ints (by rw [kc.len]; exact B)
  repeat with_reducible first | refine zAC ?_ | refine zAD ?_ | refine zAK ?_ | (apply st_q; exact q1)
  refine zAS (by exact s1) ((refine_ok H g cl hg hns kc.len (fun a => kc.inR hns.1 a) _ cv hp gp.wf ⟨nv, rfl, hN.mono gp⟩ hcv).mono ?_)
  rintro nx h4 ⟨B4, g4⟩
  replace o1 := g4.keep _ _ o1
  have g04 := gp.trans g4
  have hnx : IntsAt h4 nx (refineF g.nodes cl) := built_ints (by rw [refineF_len]; exact B4)
  have n4 := gp.next
  repeat with_reducible first | refine zAA ?_ | refine zAB ?_ | refine zAC ?_ | refine zAD ?_ | (apply st_q; exact q1)
  refine zAS (by exact s1) ((EqualInt_ok H (refineF g.nodes cl) cl (by rw [refineF_len]; omega) nx cv h4 hnx (hcv.mono g4)).mono ?_)
  rintro _ _ ⟨rfl, rfl⟩
  cases he : eqII (refineF g.nodes cl) cl
  · obtain ⟨m', rfl, hs1, hs2⟩ := classesG_step g.nodes hns kc hm he
    rw [hs1] at hcl
    clear hs1 hm
    repeat with_reducible first | refine zAA ?_ | refine zAJ ?_ | refine zAB ?_ | refine zAD ?_ | refine zAL ?_ | (apply st_q; exact q1) | (apply zAI; exact e1)
    exact ⟨m', by omega, _, nx, built_base B4 n4, ClsOK.refine _ _, hs2, hcl, g04, ⟨_, o1⟩, by exact n1, by exact e1, by exact e1⟩
  · have hcl' : zAM g = refineF g.nodes cl := by
      obtain ⟨m', rfl⟩ : ∃ m', m = m' + 1 := ⟨m - 1, by omega⟩
      rw [hcl, classesG, he]; rfl
    clear hcl
    have B5 := built_base B4 n4
    rw [← hcl'] at B5
    clear B4 hcl' hnx hcv
    repeat' with_reducible first | refine zAA ?_ | refine zAN ?_ | refine blk_ret ?_ | refine zAB ?_ | refine zAC ?_ | refine zAD ?_ | refine zAG ?_ | (apply st_q; exact q1) | (apply zAF; exact e1) | (apply zAE; exact n1; exact r1)
    exact ⟨B5, g04⟩
/-- Checked or not. -/
theorem ClassesNil_ok (g : Graph) (hg : GSm g) (hok : zAT g ≠ 0) (v : AVal) (h : AHeap) (hw : WF h) (hv : GraphAt h v g) :
    Cl fns summ 53 [v] h fun r h' => r = .slice none 0 ∧ Grow h h' := by
  obtain ⟨nv, rfl, hN⟩ := hv
  refine H.go (fn := F_Classes) rfl (by decide) rfl rfl ?_
  unfold F_Classes
  dsimp only [qQ, qE, qN, gQ, gE, vi]
  refine zAC (zAD ?_)
  refine st_box (by exact e1) (by exact cc) hw ?_
  rintro b1 h1 hb1 g1 o1
  have hpart : partA (some 2) [nv, .int .i64 g.root] 0 = some (.agg [nv, .int .i64 g.root]) := rfl
  repeat with_reducible first | refine zAA ?_ | refine zAB ?_ | refine zAC ?_ | refine zAD ?_ | (apply st_q; exact q1)
  refine zAS (by exact s1) ((Check_ok H g hg.toGraphSm _ h1 g1.wf ⟨nv, rfl, hN.mono g1⟩).mono ?_)
  rintro _ h2 ⟨rfl, g2⟩
  have g02 := g1.trans g2
  have hck : (zAT g != 0) = true := by simpa using hok
  clear hok
  repeat' with_reducible first | refine zAA ?_ | refine zAN ?_ | refine zAB ?_ | refine zAC ?_ | refine zAD ?_ | refine zAG ?_ | (apply st_q; exact q1) | (apply zAF; exact e1) | (apply zAE; exact n1; exact r1)
  exact ⟨rfl, g02⟩
end
end Go.Ab.S
end
section
/-
  The least graph.
-/
namespace Go.Ab.S
open Go.Ab
set_option maxHeartbeats 8000000
/-- What is known all the while of the graph that is made. -/
structure LInv (h0 : AHeap) (b1 b2 b4 : Nat) (nv cv : AVal) (root root' : Int) (cl : List Int) (ns : List Node) (hp : AHeap) : Prop where
  grow : Grow h0 hp
  o1 : ∃ ver, hp.objs.get b1 = some (ver, .cells false 24 [nv, .int .i64 root])
  o2 : ∃ ver, hp.objs.get b2 = some (ver, .cells false 24 [.slice none 0, .int .i64 0])
  o4 : ∃ (ver : Nat) (vo : AVal) (cs : List (List AVal)), hp.objs.get b4 = some (ver, .cells false 24 [vo, .int .i64 root']) ∧ Built hp h0.next 60 5 vo ns.length cs.flatten ∧ cs.length = ns.length ∧
    ∀ (i : Nat) c n, cs[i]? = some c → ns[i]? = some n → ∃ av lv, c = [.int .i64 n.kind, .str n.name, av, lv, .bool n.isOpen] ∧ Built hp h0.next 3 1 av n.args.length (n.args.map (AVal.int .i64)) ∧ StrsAt h0 lv n.labels
  bcl : Built hp h0.next 3 1 cv cl.length (cl.map (AVal.int .i64))
  low : h0.next ≤ b1 ∧ h0.next ≤ b2 ∧ h0.next ≤ b4 ∧ b1 ≠ b4 ∧ b2 ≠ b4
theorem LInv.other {h0 : AHeap} {b1 b2 b4 : Nat} {nv cv : AVal} {root root' : Int} {cl : List Int} {ns : List Node} {hp hq : AHeap} (I : LInv h0 b1 b2 b4 nv cv root root' cl ns hp) (g : Grow hp hq) : LInv h0 b1 b2 b4 nv cv root root' cl ns hq := by
  obtain ⟨v1, k1⟩ := I.o1
  obtain ⟨v2, k2⟩ := I.o2
  obtain ⟨v4, vo, cs, k4, kB, kl, kn⟩ := I.o4
  exact ⟨I.grow.trans g, ⟨v1, g.keep _ _ k1⟩, ⟨v2, g.keep _ _ k2⟩, ⟨v4, vo, cs, g.keep _ _ k4, kB.grow g, kl, fun i c n hc hn => by
    obtain ⟨av, lv, q1, q2, q3⟩ := kn i c n hc hn
    exact ⟨av, lv, q1, q2.grow g, q3⟩⟩, I.bcl.grow g, I.low⟩
/-- The graph that is made. -/
theorem LInv.graph {h0 : AHeap} {b1 b2 b4 : Nat} {nv cv : AVal} {root root' : Int} {cl : List Int} {ns : List Node} {hp : AHeap} (I : LInv h0 b1 b2 b4 nv cv root root' cl ns hp) : ∃ ver vo, hp.objs.get b4 = some (ver, .cells false 24 [vo, .int .i64 root']) ∧ NodesAt hp vo ns := by
  obtain ⟨v4, vo, cs, k4, kB, kl, kn⟩ := I.o4
  have h5 : ∀ c ∈ cs, c.length = 5 := by
    intro c hc
    obtain ⟨i, hi, rfl⟩ := List.mem_iff_getElem.1 hc
    obtain ⟨av, lv, q1, _⟩ := kn i _ _ (List.getElem?_eq_getElem hi) (List.getElem?_eq_getElem (by omega))
    rw [q1]; rfl
  refine ⟨v4, vo, k4, cs, kB.sl (by decide) rfl h5 kl, kl, fun i n c hn hc => ?_⟩
  obtain ⟨av, lv, q1, q2, q3⟩ := kn i c n hc hn
  exact ⟨av, lv, q1, built_ints q2, q3.mono I.grow⟩
section
variable {fns : FuncId → Option AFunc} {summ : FuncId → List AVal → AHeap → Option (D (AVal × AHeap))}
variable (H : Has fns summ)
include H
theorem leftG_map (ns : List Node) (cl : List Int) : ∀ i, leftG [] (ns.map (mapN cl)) i = leftG [] ns i := by
  induction ns with
  | nil => intro i; rfl
  | cons n r ih => intro i; simp only [List.map_cons, leftG, ih, mapN, List.length_map]
omit H in
theorem GTi.map {g : Graph} (hg : GTi g) (cl : List Int) (root : Int) : GTi ⟨g.nodes.map (mapN cl), root⟩ := by
  have hlf : leftG [] (g.nodes.map (mapN cl)) 0 = leftG [] g.nodes 0 := by
    have : ∀ (ns : List Node) (i : Nat), leftG [] (ns.map (mapN cl)) i = leftG [] ns i := by
      intro ns
      induction ns with
      | nil => intro i; rfl
      | cons n r ih => intro i; simp only [List.map_cons, leftG, ih, mapN, List.length_map]
    exact this _ _
  refine ⟨⟨⟨by simpa using hg.nodes, fun n hn => ?_⟩, by simpa [hlf] using hg.total, fun n hn => ?_⟩, by simpa [hlf] using hg.tiny⟩
  · obtain ⟨m, hm, rfl⟩ := List.mem_map.1 hn
    have := hg.all m hm
    exact ⟨by simpa [mapN] using this.args, this.labels, this.texts⟩
  · obtain ⟨m, hm, rfl⟩ := List.mem_map.1 hn
    exact hg.labs m hm
theorem Least_ok (g : Graph) (hg : GTi g) (hok : zAT g = 0) (v : AVal) (h : AHeap) (hw : WF h) (hv : GraphAt h v g) :
    Cl fns summ 27 [v] h fun r h' => OwnG h' h.next r (leastF g) ∧ Grow h h' := by
  obtain ⟨nv, rfl, hN⟩ := hv
  have hlen := hN.len
  have hns := check_ns hok
  have htiny := hg.tiny
  have hcls := (classes_ok hok).2
  have hroot := check_root hok
  have hleast : leastF g = trimF ⟨g.nodes.map (mapN (zAM g)), clAt (zAM g) g.root⟩ := by rw [leastF, if_pos hok]
  have hcl0 := hcls.len
  refine H.go (fn := F_Least) rfl (by decide) rfl rfl ?_
  unfold F_Least
  dsimp only [qQ, qE, qN, gQ, gE, vi]
  refine zAC (zAD ?_)
  refine st_box (by exact e1) (by exact cc) hw ?_
  rintro b1 h1 hb1 g1 o1
  refine st_alloc g1.wf ?_
  rintro b2 h2 hb2 g2 o2
  have hne12 := g1.wf.lt o1
  replace o1 := g2.keep _ _ o1
  have g02 := g1.trans g2
  have hpart : partA (some 2) [nv, .int .i64 g.root] 0 = some (.agg [nv, .int .i64 g.root]) := rfl
  repeat with_reducible first | refine zAA ?_ | refine zAB ?_ | refine zAC ?_ | refine zAD ?_ | (apply st_q; exact q1)
  refine zAS (by exact s1) ((Classes_ok H g hg hok _ h2 g02.wf ⟨nv, rfl, hN.mono g02⟩).mono ?_)
  rintro cv h3 ⟨B3, g3⟩
  replace o1 := g3.keep _ _ o1
  replace o2 := g3.keep _ _ o2
  have g03 := g02.trans g3
  have hcvl := B3.len
  have heq : eqA .slice cv (.slice none 0) = some false := by
    rcases B3 with ⟨_, hh, _⟩ | ⟨rfl, hh, _⟩ | ⟨b, vs, ver, _, rfl, _⟩
    · have := hroot.1; have := hroot.2.1; omega
    · rfl
    · rfl
  replace hok := Hid.mk hok
  repeat with_reducible first | refine zAA ?_ | refine zAB ?_ | refine zAC ?_ | refine zAD ?_ | (apply st_q; exact q1)
  refine st_q (v := .bool false) (b := none) (by simp only [qA_eql, ev_put, ev_start, ev_val, Nat.reduceEqDiff, if_true, if_false, heq]; rfl) ?_
  obtain ⟨kr, hkr⟩ : ∃ k : Nat, g.root = (k : Int) := ⟨g.root.toNat, by have := hroot.1; omega⟩
  have hkN : kr < g.nodes.length := by have := hroot.2.1; omega
  have hcr : (zAM g)[kr]? = some (clAt (zAM g) g.root) := by rw [hkr, clAt_nat, List.getD, List.getElem?_eq_getElem (by rw [hcl0]; exact hkN)]; rfl
  have B3' : Built h3 h2.next 3 1 cv (zAM g).length ((zAM g).map (AVal.int .i64)) := by rw [hcl0]; exact B3
  obtain ⟨bc, oc, verc, roc, ec, vsc, hixc, hgc, hvc⟩ := (built_ints B3').at hcr
  have hroot' := Hid.mk hroot
  clear hroot heq
  generalize hrt : clAt (zAM g) g.root = root' at *
  have o1' := o1
  rw [hkr] at o1'
  clear o1 hpart
  repeat with_reducible first | refine zAA ?_ | refine zAB ?_ | refine zAC ?_ | refine zAD ?_ | refine zAL ?_ | (apply st_q; exact q1) | (apply zAI; exact e1)
  refine st_alloc g3.wf ?_
  rintro b4 h4 (hb4 : h3.next ≤ b4) (g4 : Grow h3 h4) o4
  refine zAP (by exact e1) (by exact e1) (cs := [.slice none 0, .int .i64 root']) rfl rfl g4.wf o4 (by simp) rfl ?_
  rintro v5 h5 p5 o5
  simp only [List.take_zero, List.nil_append, List.length_cons, List.length_nil, List.drop_succ_cons, List.drop_zero, List.append_nil, Nat.zero_add, Nat.reduceAdd, List.drop_nil, List.cons_append] at o5
  have g5 : Grow h3 h5 := p5.grow h3 g3.wf g4 hb4
  have n1 := g1.next
  have n2 := g02.next
  have n3 := g03.next
  have lt1 := g3.wf.lt o1'
  have lt2 := g3.wf.lt o2
  have I0 : LInv h b1 b2 b4 nv cv g.root root' (zAM g) [] h5 :=
    ⟨g03.trans g5, ⟨_, by rw [hkr]; exact g5.keep _ _ o1'⟩, ⟨_, g5.keep _ _ o2⟩, ⟨_, _, [], o5, .inl ⟨rfl, rfl, rfl⟩, rfl, fun i c n hc => by simp at hc⟩, (built_base B3' n2).grow g5, by omega, by omega, by omega, by omega, by omega⟩
  have o1'' := g5.keep _ _ o1'
  clear o1' o2 o4 o5 p5 g1 g2 g3 g4 g02 g03 B3 B3' hixc hgc hvc hcr hne12 lt1 lt2 n1 n2 n3 hb1 hb2 hb4
  repeat with_reducible first | refine zAA ?_ | refine zAB ?_ | refine zAC ?_ | refine zAD ?_ | (apply st_q; exact q1)
  refine cd_count (N := g.nodes.length) (by omega) (fun j a hp => LInv h b1 b2 b4 nv cv g.root root' (zAM g) ((g.nodes.take j).map (mapN (zAM g))) hp ∧ a.defers = [] ∧ ev a (.tmp 2) = some (.ptr (some (b2, 0))) ∧ ev a (.tmp 3) = some cv ∧ ev a (.tmp 4) = some (.ptr (some (b4, 0))) ∧ ev a (.tmp 22) = some nv)
    (by rintro j a hp t w (rfl | rfl | rfl) ⟨k1, k2, k3, k4, k5, k6⟩ <;> exact ⟨k1, by rw [zAV]; exact k2, by exact e1, by exact e1, by exact e1, by exact e1⟩) (by decide) ?_ ?_ ⟨by simpa using I0, by exact n1, by exact e1, by exact e1, by exact e1, by exact e1⟩ (by exact e1) (by exact e1)
  · clear I0 o1'' g5
    rintro j a hp hj ⟨I, hd, h2', h3', h4', h22⟩ hi hn
    have hmem : g.nodes[j] ∈ g.nodes := List.getElem_mem hj
    have hl1 := leftG_one g.nodes 0 _ hmem
    obtain ⟨bn, on, vern, ron, en, vsn, av, lv, hixn, hgn0, hvl, hv5, _, _, _, _, _, ha0, hls⟩ := hN.at (List.getElem?_eq_getElem hj)
    have hgn := I.grow.keep _ _ hgn0
    have ha := ha0.mono I.grow
    have hl := hls.mono I.grow
    clear hgn0 ha0
    have hpart5 : partA (some 5) vsn on = some (nodeV g.nodes[j] av lv) := by rw [partA, if_pos hvl, hv5]; rfl
    have hla := ha.len
    have hll := hl.len
    repeat with_reducible first | refine zAC ?_ | refine zAD ?_ | refine zAK ?_ | (apply st_q; exact q1)
    refine st_alloc I.grow.wf ?_
    rintro b6 h6 hb6 g6 o6
    refine zAP (by exact e1) (by exact e1) (cs := [.int .i64 g.nodes[j].kind, .str g.nodes[j].name, av, lv, .bool g.nodes[j].isOpen]) rfl rfl g6.wf o6 (by simp) (ones_node hla hll) ?_
    rintro v7 h7 p7 o7
    simp only [List.take_zero, List.nil_append, List.length_cons, List.length_nil, List.drop_succ_cons, List.drop_zero, List.append_nil, Nat.zero_add, Nat.reduceAdd, List.drop_nil, List.cons_append] at o7
    have g7 : Grow hp h7 := p7.grow hp I.grow.wf g6 hb6
    have ha7 := ha.mono g7
    have hroom := roomOK H (b := 8) (by decide) (k := g.nodes[j].args.length) (le31 (by omega))
    have lt6 := g7.wf.lt o7
    clear o6 p7 g6 hixn hgn hpart5 hv5 hvl ha
    repeat with_reducible first | refine zAA ?_ | refine zAB ?_ | refine zAC ?_ | refine zAD ?_ | (apply st_q; exact q1)
    refine st_mkslice0 (by exact e1) (by exact e1) (le30 (by omega)) hroom g7.wf ?_
    rintro va h8 B8 f8 g8
    have o78 := g8.keep _ _ o7
    have g78 := g7.trans g8
    have n7 := g7.next
    repeat with_reducible first | refine zAA ?_ | refine zAB ?_ | refine zAC ?_ | refine zAD ?_ | (apply st_q; exact q1)
    refine cd_post (fun a' hq => ∃ vx, Grow h7 hq ∧ Built hq h7.next 3 1 vx g.nodes[j].args.length (((mapN (zAM g) g.nodes[j]).args).map (AVal.int .i64)) ∧ a'.defers = [] ∧ ev a' (.tmp 2) = some (.ptr (some (b2, 0))) ∧ ev a' (.tmp 3) = some cv ∧ ev a' (.tmp 4) = some (.ptr (some (b4, 0))) ∧ ev a' (.tmp 22) = some nv ∧ ev a' (.tmp 6) = some (.ptr (some (b6, 0))) ∧ ev a' (.tmp 7) = some vx ∧ ev a' (.tmp 24) = some (.int .i64 (j : Nat)) ∧ ev a' (.tmp 23) = some (.int .i64 (g.nodes.length : Nat))) ?_ ?_
    · refine cd_count (N := g.nodes[j].args.length) (by omega) (fun i a' hq => ∃ vx, Grow h7 hq ∧ Built hq h7.next 3 1 vx i (((g.nodes[j].args.take i).map (clAt (zAM g))).map (AVal.int .i64)) ∧ a'.defers = [] ∧ ev a' (.tmp 2) = some (.ptr (some (b2, 0))) ∧ ev a' (.tmp 3) = some cv ∧ ev a' (.tmp 4) = some (.ptr (some (b4, 0))) ∧ ev a' (.tmp 22) = some nv ∧ ev a' (.tmp 6) = some (.ptr (some (b6, 0))) ∧ ev a' (.tmp 7) = some vx ∧ ev a' (.tmp 24) = some (.int .i64 (j : Nat)) ∧ ev a' (.tmp 23) = some (.int .i64 (g.nodes.length : Nat)) ∧ ev a' (.tmp 33) = some av)
        (by rintro i a' hq t w (rfl | rfl | rfl) ⟨vx, m1, m2, m3, m4, m5, m6, m7, m8, m9, m10, m11, m12⟩ <;> exact ⟨vx, m1, m2, by rw [zAV]; exact m3, by exact e1, by exact e1, by exact e1, by exact e1, by exact e1, by exact e1, by exact e1, by exact e1, by exact e1⟩) (by decide) ?_ ?_
        ⟨va, g8, by simpa using B8, by exact n1, by exact e1, by exact e1, by exact e1, by exact e1, by exact e1, by exact e1, by exact e1, by exact e1, by exact e1⟩ (by exact e1) (by exact e1)
      · clear hd h2' h3' h4' h22 hi hn B8 f8 g8 o7 g78
        rintro i a' hq hil ⟨vx, m1, m2, hd, h2', h3', h4', h22, h6', h7', h24, h23, h33⟩ hi hn
        obtain ⟨bb, ob, verb, rb, eb, vsb, hix, hget, hvo⟩ := (ha7.mono m1).at (List.getElem?_eq_getElem hil)
        obtain ⟨a0, a1⟩ := may_args (hns.2 _ hmem) _ (List.getElem_mem hil)
        obtain ⟨ka, hka⟩ : ∃ k : Nat, g.nodes[j].args[i] = (k : Int) := ⟨g.nodes[j].args[i].toNat, by omega⟩
        have hkl : ka < g.nodes.length := by omega
        have hca : (zAM g)[ka]? = some (clAt (zAM g) (ka : Int)) := by rw [clAt_nat, List.getD, List.getElem?_eq_getElem (by omega)]; rfl
        obtain ⟨bc, oc, verc, roc, ec, vsc, hixc, hgc, hvc⟩ := (built_ints (((I.bcl.grow g7).grow m1))).at hca
        have hroomi := roomOK H (b := 8) (by decide) (k := i + 1) (le31 (by omega))
        have hstep : (((g.nodes[j].args.take (i + 1)).map (clAt (zAM g))).map (AVal.int .i64)) = (((g.nodes[j].args.take i).map (clAt (zAM g))).map (AVal.int .i64)) ++ [AVal.int .i64 (clAt (zAM g) (ka : Int))] := by
          rw [List.take_succ_eq_append_getElem hil, List.map_append, List.map_append, hka]; rfl
        rw [hka] at hvo
        clear hka a0 a1 hca
        repeat with_reducible first | refine zAA ?_ | refine zAB ?_ | refine zAC ?_ | refine zAD ?_ | refine zAK ?_ | (apply st_q; exact q1)
        refine st_bslice1 (by exact e1) (by exact cc) rfl rfl m1.wf ?_
        rintro bx h9 hbx g9 ox
        refine st_append1 (by exact e1) (by exact e1) (m2.grow g9) ox rfl rfl hroomi g9.wf (Nat.le_trans m1.next g9.next) ?_
        rintro vx' h10 B10 f10 w10 n10 gr10 kp10
        rw [← hstep] at B10
        have gq := gr10 h7 g7.wf (m1.trans g9) (Nat.le_refl _)
        clear hstep hix hget hvo hixc hgc hvc ox kp10 f10 gr10
        repeat with_reducible first | refine zAA ?_ | refine zAJ ?_ | refine zAB ?_ | (apply st_q; exact q1)
        exact ⟨⟨vx', gq, B10, by exact n1, by exact e1, by exact e1, by exact e1, by exact e1, by exact e1, by exact e1, by exact e1, by exact e1, by exact e1⟩, by exact e1, by exact e1⟩
      · rintro a' hq ⟨vx, m1, m2, m3, m4, m5, m6, m7, m8, m9, m10, m11, _⟩
        rw [List.take_length] at m2
        exact ⟨vx, m1, m2, m3, m4, m5, m6, m7, m8, m9, m10, m11⟩
    · clear hd h2' h3' h4' h22 hi hn B8 f8
      rintro a' hq ⟨vx, gq, hB, hd, h2', h3', h4', h22, h6', h7', hi, hn⟩
      have hvx := hB.len
      have o7q := gq.keep _ _ o7
      have gp := g7.trans gq
      have Iq := I.other gp
      repeat with_reducible first | refine zAA ?_ | refine zAC ?_ | refine zAD ?_ | (apply st_q; exact q1)
      refine zAP (by exact e1) (by exact e1) (cells_of_len hvx) rfl gq.wf o7q (by simp) (by simp only [List.all_cons, List.all_nil, one_of_len hvx, Bool.and_true]) ?_
      rintro v9 h9 p9 o9
      simp only [List.take_succ_cons, List.take_zero, List.nil_append, List.length_cons, List.length_nil, List.drop_succ_cons, List.drop_zero, List.append_nil, Nat.zero_add, Nat.reduceAdd, List.drop_nil, List.cons_append] at o9
      have g9 : Grow hp h9 := p9.grow hp I.grow.wf gp (by omega)
      have B9 := built_but hB p9 o7q (fun vs hh => by cases hh)
      have I9 := I.other g9
      obtain ⟨v4, vo, cs, o4, kB, kl, kn⟩ := I9.o4
      have nl : ((g.nodes.take j).map (mapN (zAM g))).length = j := by simp; omega
      rw [nl] at kB kl
      clear o7q p9
      repeat with_reducible first | refine zAA ?_ | refine zAB ?_ | refine zAD ?_ | (apply st_q; exact q1)
      refine st_bslice1 (by exact e1) (cs := [.int .i64 g.nodes[j].kind, .str g.nodes[j].name, vx, lv, .bool g.nodes[j].isOpen]) rfl rfl rfl g9.wf ?_
      rintro bx h12 hbx g12 ox
      have kB' := kB.grow g12
      refine st_append1 (by exact e1) (by exact e1) kB' ox rfl (ones_node hvx hll) (roomOK H (by decide) (le31 (by omega))) g12.wf (by have := I.grow.next; have := g9.next; have := g12.next; omega) ?_
      rintro vo' h13 B13 f13 w13 n13 gr13 kp13
      have o4' := kp13 _ _ (g12.keep _ _ o4) (built_ne kB' (g12.keep _ _ o4) fun vs hh => by cases hh)
      have g13 : Grow h h13 := gr13 h hw (I9.grow.trans g12) (Nat.le_refl _)
      repeat with_reducible (apply st_q; exact q1)
      refine zAP (by exact e1) (by exact e1) (cells_of_len B13.len) rfl w13 o4' (by simp) (by simp only [List.all_cons, List.all_nil, one_of_len B13.len, Bool.and_true]) ?_
      rintro v14 h14 p14 o14
      simp only [List.take_succ_cons, List.take_zero, List.nil_append, List.length_cons, List.length_nil, List.drop_succ_cons, List.drop_zero, List.append_nil, Nat.zero_add, Nat.reduceAdd, List.drop_nil, List.cons_append] at o14
      have hstay : ∀ c p, h9.objs.get c = some p → (∀ vs, p.2 ≠ .cells false 60 vs) → c ≠ b4 → h14.objs.get c = some p := fun c p hc hp hne => p14.keep c hne _ (kp13 _ _ (g12.keep _ _ hc) (built_ne kB' (g12.keep _ _ hc) hp))
      have hown : ∀ {w : AVal} {k base : Nat} {cells : List AVal}, Built h9 base 3 1 w k cells → Built h14 base 3 1 w k cells := fun kk => built_stay kk fun b p hb ⟨vs, hp⟩ _ => hstay b p hb (fun vs' hh => by rw [hp] at hh; cases hh) (by
        rintro rfl
        rw [o4] at hb
        simp only [Option.some.injEq] at hb
        rw [← hb] at hp; cases hp)
      have hns' : (g.nodes.take (j + 1)).map (mapN (zAM g)) = (g.nodes.take j).map (mapN (zAM g)) ++ [mapN (zAM g) g.nodes[j]] := by
        rw [List.take_succ_eq_append_getElem hj, List.map_append]; rfl
      have n14 := p14.next
      have I14 : LInv h b1 b2 b4 nv cv g.root root' (zAM g) ((g.nodes.take (j + 1)).map (mapN (zAM g))) h14 := by
        obtain ⟨u1, k1⟩ := I9.o1
        obtain ⟨u2, k2⟩ := I9.o2
        have hlow := I9.low
        refine ⟨p14.grow h hw g13 hlow.2.2.1, ⟨_, hstay _ _ k1 (fun vs hh => by cases hh) hlow.2.2.2.1⟩, ⟨_, hstay _ _ k2 (fun vs hh => by cases hh) hlow.2.2.2.2⟩, ⟨_, vo', cs ++ [[.int .i64 g.nodes[j].kind, .str g.nodes[j].name, vx, lv, .bool g.nodes[j].isOpen]], o14, ?_, ?_, ?_⟩, hown I9.bcl, hlow⟩
        · have : ((g.nodes.take (j + 1)).map (mapN (zAM g))).length = j + 1 := by simp; omega
          rw [this, List.flatten_append]
          exact built_but (by simpa using B13) p14 o4' (fun vs hh => by cases hh)
        · simp [kl]; omega
        · intro i c n hcc hnn
          rw [hns'] at hnn
          rcases Nat.lt_or_ge i j with hij | hij
          · rw [List.getElem?_append_left (by omega)] at hcc
            rw [List.getElem?_append_left (by omega)] at hnn
            obtain ⟨av', lv', q1, q2, q3⟩ := kn i c n hcc hnn
            exact ⟨av', lv', q1, hown q2, q3⟩
          · rw [List.getElem?_append_right (by omega), kl] at hcc
            rw [List.getElem?_append_right (by omega), nl] at hnn
            obtain rfl : i = j := by
              have := (List.getElem?_eq_some_iff.1 hcc).1
              simp only [List.length_cons, List.length_nil] at this
              omega
            rw [Nat.sub_self, List.getElem?_cons_zero, Option.some.injEq] at hcc hnn
            subst hcc; subst hnn
            have hl2 : (mapN (zAM g) g.nodes[i]).args.length = g.nodes[i].args.length := by simp [mapN]
            refine ⟨vx, lv, rfl, ?_, hls⟩
            rw [hl2]
            exact built_base (hown B9) (by have := I.grow.next; omega)
      clear o9 o14 p14 o4 o4' kp13 gr13 f13 B13 hstay ox B9 kn kB kB'
      repeat with_reducible first | refine zAA ?_ | refine zAJ ?_ | refine zAB ?_
      exact ⟨⟨I14, by exact n1, by exact e1, by exact e1, by exact e1, by exact e1⟩, by exact e1, by exact e1⟩
  · rintro a hp ⟨I, hd, h2', h3', h4', h22⟩
    rw [List.take_length] at I
    obtain ⟨v4, vo, o4, hNo⟩ := I.graph
    have hpart4 : partA (some 2) [vo, .int .i64 root'] 0 = some (.agg [vo, .int .i64 root']) := rfl
    repeat with_reducible first | refine zAA ?_ | refine zAC ?_ | refine zAD ?_ | (apply st_q; exact q1)
    refine zAS (by exact s1) ((Trim_ok H ⟨g.nodes.map (mapN (zAM g)), root'⟩ (GTi.map hg _ _).toGSm _ hp I.grow.wf ⟨vo, rfl, hNo⟩).mono ?_)
    rintro tv h5 ⟨hT, g5⟩
    obtain ⟨tn, cs, rfl, kB, kl, kn⟩ := hT
    obtain ⟨v2, o2⟩ := I.o2
    have l2 := I.grow.wf.lt o2
    replace o2 := g5.keep _ _ o2
    have hT1 := one_of_len kB.len
    skip
    refine zAP (by exact e1) (by exact e1) (cs := [tn, .int .i64 (trimF ⟨g.nodes.map (mapN (zAM g)), root'⟩).root]) rfl rfl g5.wf o2 (by simp) (by simp only [List.all_cons, List.all_nil, hT1, Bool.and_true]; rfl) ?_
    rintro v6 h6 p6 o6
    simp only [List.take_succ_cons, List.take_zero, List.nil_append, List.length_cons, List.length_nil, List.drop_succ_cons, List.drop_zero, List.append_nil, Nat.zero_add, Nat.reduceAdd, List.drop_nil, List.cons_append] at o6
    have g6 : Grow h h6 := p6.grow h hw (I.grow.trans g5) I.low.2.1
    have hO : OwnG h5 hp.next (.agg [tn, .int .i64 (trimF ⟨g.nodes.map (mapN (zAM g)), root'⟩).root]) (trimF ⟨g.nodes.map (mapN (zAM g)), root'⟩) := ⟨tn, cs, rfl, kB, kl, kn⟩
    have hO6 := (hO.stay (h' := h6) fun c p hc hp _ => p6.keep c (by omega) _ hp).base I.grow.next
    repeat with_reducible first | refine zAA ?_ | refine zAB ?_ | refine zAG ?_
    refine zAE (v := .agg [tn, .int .i64 (trimF ⟨g.nodes.map (mapN (zAM g)), root'⟩).root]) (by exact n1) ?_ ⟨by rw [hleast]; exact hO6, g6⟩
    have hp2 : partA (some 2) [tn, .int .i64 (trimF ⟨g.nodes.map (mapN (zAM g)), root'⟩).root] 0 = some (.agg [tn, .int .i64 (trimF ⟨g.nodes.map (mapN (zAM g)), root'⟩).root]) := rfl
    simp only [resultsA, mapO, resultA, tmps_put, tmps_ev, tmps_none, ev_put, ev_none, Nat.reduceEqDiff, if_false, h2', o6, hp2]
theorem LeastNil_ok (g : Graph) (hg : GSm g) (hok : zAT g ≠ 0) (v : AVal) (h : AHeap) (hw : WF h) (hv : GraphAt h v g) :
    Cl fns summ 27 [v] h fun r h' => OwnG h' h.next r (leastF g) ∧ Grow h h' := by
  have hleast : leastF g = ⟨[], 0⟩ := by rw [leastF, if_neg hok]
  obtain ⟨nv, rfl, hN⟩ := hv
  refine H.go (fn := F_Least) rfl (by decide) rfl rfl ?_
  unfold F_Least
  dsimp only [qQ, qE, qN, gQ, gE, vi]
  refine zAC (zAD ?_)
  refine st_box (by exact e1) (by exact cc) hw ?_
  rintro b1 h1 hb1 g1 o1
  refine st_alloc g1.wf ?_
  rintro b2 h2 hb2 g2 o2
  replace o1 := g2.keep _ _ o1
  have g02 := g1.trans g2
  have hpart : partA (some 2) [nv, .int .i64 g.root] 0 = some (.agg [nv, .int .i64 g.root]) := rfl
  repeat with_reducible first | refine zAA ?_ | refine zAB ?_ | refine zAC ?_ | refine zAD ?_ | (apply st_q; exact q1)
  refine zAS (by exact s1) ((ClassesNil_ok H g hg hok _ h2 g02.wf ⟨nv, rfl, hN.mono g02⟩).mono ?_)
  rintro _ h3 ⟨rfl, g3⟩
  replace o2 := g3.keep _ _ o2
  have g03 := g02.trans g3
  replace hok := Hid.mk hok
  repeat with_reducible first | refine zAA ?_ | refine zAB ?_ | refine zAC ?_ | refine zAD ?_ | (apply st_q; exact q1) | (apply zAF; exact e1)
  refine zAP (by exact e1) (by exact e1) (cs := [.slice none 0, .int .i64 0]) rfl rfl g3.wf o2 (by simp) rfl ?_
  rintro v6 h6 p6 o6
  simp only [List.take_succ_cons, List.take_zero, List.nil_append, List.length_cons, List.length_nil, List.drop_succ_cons, List.drop_zero, List.append_nil, Nat.zero_add, Nat.reduceAdd, List.drop_nil, List.cons_append] at o6
  have nx1 := g1.next
  have g6 : Grow h h6 := p6.grow h hw g03 (by omega)
  have hp2 : partA (some 2) [AVal.slice none 0, .int .i64 0] 0 = some (.agg [.slice none 0, .int .i64 0]) := rfl
  repeat with_reducible first | refine zAA ?_ | refine zAN ?_ | refine zAB ?_ | refine zAG ?_
  refine zAE (v := .agg [.slice none 0, .int .i64 0]) (by exact n1) ?_ ⟨by rw [hleast]; exact ⟨.slice none 0, [], rfl, .inl ⟨rfl, rfl, rfl⟩, rfl, fun i c n hc => by simp at hc⟩, g6⟩
  simp only [resultsA, mapO, resultA, tmps_put, tmps_ev, tmps_none, ev_put, ev_none, ev_start, Nat.reduceEqDiff, if_false, if_true, o6, hp2]
end
end Go.Ab.S
end
