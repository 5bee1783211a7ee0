import Derived.Test.YtapnoohglfhgeaaGreatDoorP16
import Derived.Test.YtapnoohglfhgeaaGreatDoorP18
/-
  Part 19 of the proof.
-/
set_option linter.all false
section
/-
  Keys collected, and sorted.
-/
namespace Go.Ab.S
open Go.Ab
set_option maxHeartbeats 4000000
def pickK (ks : List (List Nat)) (s : List Nat) : List (List Nat) := s.map fun i => ks.getD i []
theorem pick_put {ks : List (List Nat)} {s : List Nat} {i : Nat} (hi : i < ks.length) : pickK ks (s ++ [i]) = pickK ks s ++ [ks[i]] := by
  simp [pickK, List.getD, List.getElem?_eq_getElem hi]
theorem pick_mem {ks : List (List Nat)} {s : List Nat} (h : ∀ i, i ∈ s ↔ i < ks.length) (x : List Nat) : x ∈ pickK ks s ↔ x ∈ ks := by
  simp only [pickK, List.mem_map]
  constructor
  · rintro ⟨i, hi, rfl⟩
    have := (h i).1 hi
    rw [List.getD, List.getElem?_eq_getElem this]; exact List.getElem_mem _
  · intro hx
    obtain ⟨i, hi, rfl⟩ := List.mem_iff_getElem.1 hx
    exact ⟨i, (h i).2 hi, by rw [List.getD, List.getElem?_eq_getElem hi]; rfl⟩
theorem pick_nodup {ks : List (List Nat)} (hk : ks.Nodup) {s : List Nat} (hs : s.Nodup) (h : ∀ i ∈ s, i < ks.length) : (pickK ks s).Nodup := by
  rw [pickK, List.nodup_iff_pairwise_ne, List.pairwise_map]
  refine List.Pairwise.imp_of_mem ?_ (List.nodup_iff_pairwise_ne.1 hs)
  intro a b ha hb hne he
  have h1 := h a ha
  have h2 := h b hb
  simp only [List.getD, List.getElem?_eq_getElem h1, List.getElem?_eq_getElem h2, Option.getD_some] at he
  exact hne ((List.getElem_inj hk).1 he)
section
variable {fns : FuncId → Option AFunc} {summ : FuncId → List AVal → AHeap → Option (D (AVal × AHeap))}
variable (H : Has fns summ)
include H
theorem AppendSeq_ok (ks : List (List Nat)) (hks : ks.length ≤ 2 ^ 20) (rm bk : Nat) (h : AHeap) (hw : WF h) (hbk : ∃ ver ro e, h.objs.get bk = some (ver, .cells ro e [.map (some rm)])) (hrm : SetAt h rm ks) :
    Cl fns summ 135 [.slice none 0, .func 101 [] [.ptr (some (bk, 0))]] h fun r h' => ∃ s : List Nat, s.Nodup ∧ (∀ i, i ∈ s ↔ i < ks.length) ∧ Built h' h.next 9 1 r s.length ((pickK ks s).map AVal.str) ∧ Grow h h' := by
  have e20 : (2 : Nat) ^ 20 = 1048576 := by decide
  have e31 : (2 : Nat) ^ 31 = 2147483648 := by decide
  refine H.go (fn := F_AppendSeq) rfl (by decide) rfl rfl ?_
  unfold F_AppendSeq
  dsimp only
  refine cd_seq (cd_ops ?_)
  refine st_box (by exact e1) (by exact cc) hw ?_
  rintro b2 h2 hb2 g2 o2
  have l2 := g2.wf.lt o2
  repeat with_reducible first | refine nxt_normal ?_ | refine st_nil ?_ | refine cd_seq ?_ | refine cd_ops ?_ | (apply st_q; exact q1)
  refine cd_gen (fun A => A.defers = [] ∧ ev A (.tmp 2) = some (.ptr (some (b2, 0))) ∧ ev A (.tmp 6) = some (.func 101 [] [.ptr (some (bk, 0))])) ⟨by exact n1, by exact e1, by exact e1⟩ ?_
  rintro A ⟨hd, t2, t6⟩
  refine cd_block ?_
  generalize hB : ACode.block 1 _ = B
  generalize hA : ACode.ops [⟨some 5, none, .q (.mov (.tmp 7))⟩] = As
  refine rangeF_K t6 g2.wf ?_
  intro l d h3 hdn hld g3 ol od
  have n2 := g2.next
  refine (MKeys1_ok H ks rm bk h hbk hrm (.yield l) (fun s hp => Grow h hp ∧ (l < hp.next ∧ b2 < hp.next) ∧ (∃ ver, hp.objs.get l = some (ver, .loop .ready none A.tmps [7] As B d)) ∧ (∃ ver, hp.objs.get d = some (ver, .dfr false)) ∧ s.length ≤ ks.length ∧ ∃ ver vo, hp.objs.get b2 = some (ver, .cells false 38 [vo]) ∧ Built hp h.next 9 1 vo s.length ((pickK ks s).map AVal.str))
    (fun s hp p => p.1) ?_ ?_ h3 ⟨g2.trans g3, ⟨by obtain ⟨_, ol⟩ := ol; exact g3.wf.lt ol, Nat.lt_of_lt_of_le l2 g3.next⟩, ol, od, Nat.zero_le _, _, _, g3.keep _ _ o2, .inl ⟨rfl, rfl, rfl⟩⟩).mono ?_
  · rintro s hp hp' bi ⟨gp, ⟨ll, lb2⟩, ⟨vl, ol⟩, ⟨vd, od⟩, hsl, ver, vo, o2p, B2⟩ hbi hb0 hkp w' hn
    have hne : ∀ {c : Nat} {p : Nat × AObj}, hp.objs.get c = some p → (∀ r a b d, p.2 ≠ .iter r a b d) → c ≠ bi := by
      rintro c p hc hp' rfl
      rcases hbi with hbi | ⟨ver, r, a, b, d, ho⟩
      · have := gp.wf.lt hc; omega
      · rw [ho] at hc
        simp only [Option.some.injEq] at hc
        exact hp' _ _ _ _ (by rw [← hc])
    refine ⟨⟨w', Nat.le_trans gp.next hn, fun c p hc => hkp c p (gp.keep _ _ hc) (by have := hw.lt hc; omega)⟩, ⟨by omega, by omega⟩, ⟨_, hkp _ _ ol (hne ol fun _ _ _ _ hh => by cases hh)⟩, ⟨_, hkp _ _ od (hne od fun _ _ _ _ hh => by cases hh)⟩, hsl, ver, vo, hkp _ _ o2p (hne o2p fun _ _ _ _ hh => by cases hh), built_stay B2 fun c p hc ⟨vs, hp2⟩ _ => hkp _ _ hc (hne hc fun _ _ _ _ hh => by rw [hp2] at hh; cases hh)⟩
  · clear ol od
    rintro s hp i hi ⟨gp, ⟨ll, lb2⟩, ⟨vl, ol⟩, ⟨vd, od⟩, hsl, ver, vo, o2p, B2⟩ hnd hns hlen
    have T2 : ev { tmps := A.tmps, defers := [] } (.tmp 2) = some (.ptr (some (b2, 0))) := t2
    refine yield_K ol gp.wf rfl (fun a1 => a1.defers = [] ∧ ev a1 (.tmp 5) = some (.str ks[i]) ∧ ev a1 (.tmp 2) = some (.ptr (some (b2, 0)))) ?_ ?_
    · subst hA
      clear hd t2 t6
      repeat with_reducible first | refine nxt_normal ?_ | refine st_nil ?_ | refine cd_ops ?_ | (apply st_q; exact q1)
      exact ⟨rfl, by exact n1, by exact e1, by exact e1⟩
    · rintro a1 hq ⟨hd1, t5, t2'⟩ pL ⟨vlb, olb⟩
      subst hB
      clear hd t2 t6 T2
      have hld' : d ≠ l := by rintro rfl; rw [ol] at od; cases od
      have hbl : b2 ≠ l := by rintro rfl; rw [ol] at o2p; cases o2p
      have gq : Grow h hq := pL.grow h hw gp (by omega)
      have o2q := pL.keep _ hbl _ o2p
      have odq := pL.keep _ hld' _ od
      have Bq := built_but B2 pL ol (fun vs hh => by cases hh)
      have hroom := roomOK H (b := 16) (k := s.length + 1) (by decide) (by omega)
      have nq := gq.next
      have nL := pL.next
      have kpi : ∀ c ver r a b d, hp.objs.get c = some (ver, .iter r a b d) → hq.objs.get c = some (ver, .iter r a b d) := fun c ver r a b d hc => pL.keep c (by rintro rfl; rw [ol] at hc; cases hc) _ hc
      replace kpi := Hid.mk kpi
      clear ol od o2p B2 pL
      repeat with_reducible first | refine cd_blockO ?_ | (apply st_q; exact q1)
      refine st_bslice1 (by exact e1) (by exact cc) rfl rfl gq.wf ?_
      rintro bz h10 hbz g10 oz
      have kB' := Bq.grow g10
      refine st_append1 (by exact e1) (by exact e1) kB' oz rfl rfl hroom g10.wf (by have := g10.next; omega) ?_
      rintro vw' h11 B11 f11 w11 n11 gr11 kp11
      have o211 := kp11 _ _ (g10.keep _ _ o2q) (built_ne kB' (g10.keep _ _ o2q) fun vs hh => by cases hh)
      have ol11 := kp11 _ _ (g10.keep _ _ olb) (built_ne kB' (g10.keep _ _ olb) fun vs hh => by cases hh)
      have od11 := kp11 _ _ (g10.keep _ _ odq) (built_ne kB' (g10.keep _ _ odq) fun vs hh => by cases hh)
      have g11 := gr11 h hw (gq.trans g10) (Nat.le_refl _)
      have kpi11 : ∀ c ver r a b d, hp.objs.get c = some (ver, .iter r a b d) → h11.objs.get c = some (ver, .iter r a b d) := fun c ver r a b d hc => by
        have := g10.keep _ _ (kpi.out _ _ _ _ _ _ hc)
        exact kp11 _ _ this (built_ne kB' this fun vs hh => by cases hh)
      replace kpi11 := Hid.mk kpi11
      have hone := one_of_len B11.len
      have n10 := g10.next
      clear kpi o2q olb odq kp11 gr11 kB' oz Bq
      skip
      refine st_store (by exact e1) (by exact e1) (cells_of_len B11.len) rfl w11 o211 (by simp) (by simp only [List.all_cons, List.all_nil, hone, Bool.and_true]) ?_
      rintro v12 h12 p12 o12
      simp only [List.take_zero, List.nil_append, List.length_cons, List.length_nil, List.drop_succ_cons, List.drop_zero, List.append_nil, Nat.zero_add, Nat.reduceAdd, List.drop_nil, List.cons_append] at o12
      have ol12 := p12.keep l (fun e => hbl e.symm) _ ol11
      have od12 := p12.keep d (by rintro rfl; rw [od11] at o211; cases o211) _ od11
      have g12 := p12.grow h hw g11 hb2
      have B12 := built_but B11 p12 o211 (fun vs hh => by cases hh)
      have n12 := p12.next
      have kpi12 : ∀ c ver r a b d, hp.objs.get c = some (ver, .iter r a b d) → h12.objs.get c = some (ver, .iter r a b d) := fun c ver r a b d hc => by
        have h1 := kpi11.out _ _ _ _ _ _ hc
        exact p12.keep c (by rintro rfl; rw [o211] at h1; cases h1) _ h1
      replace kpi12 := Hid.mk kpi12
      clear o211 ol11 od11 kpi11
      repeat with_reducible first | refine blk_normal ?_ | refine st_nil ?_
      refine ⟨g12.wf, ⟨_, ol12⟩, fun _ h13 p13 o13 => ⟨rfl, ⟨p13.grow h hw g12 (by omega), ⟨by have := p13.next; omega, by have := p13.next; omega⟩, o13, ⟨_, p13.keep d hld' _ od12⟩, by rw [List.length_append, List.length_singleton]; omega, v12, vw', p13.keep b2 hbl _ o12, ?_⟩, fun c ver r a b d hc => ?_⟩, fun hh => absurd rfl hh⟩
      · rw [pick_put hi, List.map_append, List.length_append, List.length_singleton]
        exact built_but B12 p13 ol12 (fun vs hh => by cases hh)
      · have h2 := kpi12.out _ _ _ _ _ _ hc
        exact p13.keep c (by rintro rfl; rw [ol12] at h2; cases h2) _ h2
  · clear ol od
    rintro _ h8 ⟨s, hnd, hall, gp, ⟨ll, lb2⟩, ⟨vl, ol⟩, ⟨vd, od⟩, hsl, ver, vo, o2p, B2⟩
    refine ⟨gp.wf, .inl ⟨⟨_, ol⟩, fun h9 p9 => ?_⟩⟩
    have hld' : d ≠ l := by rintro rfl; rw [ol] at od; cases od
    have hbl : b2 ≠ l := by rintro rfl; rw [ol] at o2p; cases o2p
    have o29 := p9.keep b2 hbl _ o2p
    have od9 := p9.keep d hld' _ od
    have g9 := p9.grow h hw gp (by omega)
    have B9 := built_but B2 p9 ol (fun vs hh => by cases hh)
    have T2 : ev { tmps := A.tmps, defers := [.collected d] } (.tmp 2) = some (.ptr (some (b2, 0))) := t2
    have hdd : (ADef.collected d :: A.defers) = [.collected d] := by rw [hd]
    replace hall := Hid.mk hall
    clear hd t6 ol od o2p B2
    repeat with_reducible first | refine nxt_normal ?_ | refine blk_normal ?_ | refine st_nil ?_ | refine cd_seq ?_ | refine cd_ops ?_ | refine cd_ret ?_ | (apply st_q; exact q1)
    refine fin_coll (by first | exact hdd | (simp only [defers_put]; exact hdd)) g9.wf ⟨_, od9⟩ fun h12 p12 => ?_
    refine ⟨_, by exact r1, s, hnd, hall.out, built_but B9 p12 od9 (fun vs hh => by cases hh), p12.grow h hw g9 (by omega)⟩
end
end Go.Ab.S
end
section
/-
  What is found in a row that rises.
-/
namespace Go.Ab.S
open Go.Ab
set_option maxHeartbeats 8000000
theorem lessL_irr : ∀ s : List Nat, lessL s s = false
  | [] => rfl
  | a :: s => by
    have h1 : Nat.blt a a = false := by
      cases h : Nat.blt a a
      · rfl
      · exact absurd (Nat.blt_eq.mp h) (Nat.lt_irrefl _)
    rw [lessL, h1, Nat.beq_refl]; exact lessL_irr s
theorem lessL_iff : ∀ {x y : List Nat} {a b : Nat}, lessL (a :: x) (b :: y) = true ↔ a < b ∨ (a = b ∧ lessL x y = true) := by
  intro x y a b
  rw [lessL]
  cases h : Nat.blt a b with
  | true =>
    have := Nat.blt_eq.mp h
    simp [this]
  | false =>
    have hn : ¬ a < b := fun hh => by rw [Nat.blt_eq.mpr hh] at h; cases h
    cases h2 : Nat.beq a b with
    | true =>
      have := Nat.eq_of_beq_eq_true h2
      simp [this]
    | false =>
      have : a ≠ b := by rintro rfl; rw [Nat.beq_refl] at h2; cases h2
      simp [hn, this]
theorem lessL_trans : ∀ {x y z : List Nat}, lessL x y = true → lessL y z = true → lessL x z = true
  | _, [], _, h, _ => by cases ‹List Nat› <;> simp [lessL] at h
  | [], _ :: _, [], _, h => by simp [lessL] at h
  | [], _ :: _, _ :: _, _, _ => rfl
  | _ :: _, _ :: _, [], _, h => by simp [lessL] at h
  | a :: x, b :: y, c :: z, h1, h2 => by
    rw [lessL_iff] at h1 h2 ⊢
    rcases h1 with h1 | ⟨rfl, h1⟩ <;> rcases h2 with h2 | ⟨rfl, h2⟩
    · exact .inl (by omega)
    · exact .inl h1
    · exact .inl h2
    · exact .inr ⟨rfl, lessL_trans h1 h2⟩
theorem lessL_tri : ∀ (x y : List Nat), lessL x y = true ∨ x = y ∨ lessL y x = true
  | [], [] => .inr (.inl rfl)
  | [], _ :: _ => .inl rfl
  | _ :: _, [] => .inr (.inr rfl)
  | a :: x, b :: y => by
    rw [lessL_iff, lessL_iff]
    rcases Nat.lt_trichotomy a b with h | rfl | h
    · exact .inl (.inl h)
    · rcases lessL_tri x y with h | rfl | h
      · exact .inl (.inr ⟨rfl, h⟩)
      · exact .inr (.inl rfl)
      · exact .inr (.inr (.inr ⟨rfl, h⟩))
    · exact .inr (.inr (.inl h))
/-- It rises. -/
def Rises (l : List (List Nat)) : Prop := ∀ i j : Nat, i < j → ∀ x y, l[i]? = some x → l[j]? = some y → lessL x y = true
theorem ris_lo : ∀ {l : List (List Nat)} {p : List Nat}, risG (some p) l = true → ∀ x ∈ l, lessL p x = true
  | [], _, _ => by intro x hx; cases hx
  | y :: l, p, h => by
    simp only [risG, Bool.and_eq_true] at h
    intro x hx
    rcases List.mem_cons.1 hx with rfl | hx
    · exact h.1.2
    · exact lessL_trans h.1.2 (ris_lo h.2 x hx)
theorem ris_rises : ∀ {l : List (List Nat)} {p : Option (List Nat)}, risG p l = true → Rises l
  | [], _, _ => by intro i j _ x y hx; simp at hx
  | z :: l, p, h => by
    simp only [risG, Bool.and_eq_true] at h
    intro i j hij x y hx hy
    cases j with
    | zero => omega
    | succ j =>
      have hy' : l[j]? = some y := by simpa using hy
      cases i with
      | zero =>
        have hx' : z = x := by simpa using hx
        rw [← hx']; exact ris_lo h.2 y (List.mem_of_getElem? hy')
      | succ i => exact ris_rises h.2 i j (by omega) x y (by simpa using hx) hy'
/-- How many are ahead of it. -/
def bsAt (l : List (List Nat)) (s : List Nat) : Nat := (l.filter fun x => lessL x s).length
theorem bs_split {l : List (List Nat)} (hr : Rises l) {s : List Nat} {m : Nat} (hm : m ≤ l.length) (h1 : ∀ i x, i < m → l[i]? = some x → lessL x s = true) (h2 : ∀ i x, m ≤ i → l[i]? = some x → lessL x s = false) : bsAt l s = m := by
  unfold bsAt
  have : l.filter (fun x => lessL x s) = l.take m := by
    conv => lhs; rw [← List.take_append_drop m l]
    rw [List.filter_append]
    have e1 : (l.take m).filter (fun x => lessL x s) = l.take m := by
      rw [List.filter_eq_self]
      intro x hx
      obtain ⟨i, hi, rfl⟩ := List.mem_iff_getElem.1 hx
      rw [List.getElem_take]
      simp only [List.length_take] at hi
      exact h1 i _ (by omega) (List.getElem?_eq_getElem (by omega))
    have e2 : (l.drop m).filter (fun x => lessL x s) = [] := by
      rw [List.filter_eq_nil_iff]
      intro x hx
      obtain ⟨i, hi, rfl⟩ := List.mem_iff_getElem.1 hx
      rw [List.getElem_drop]
      simp only [List.length_drop] at hi
      have := h2 (m + i) _ (by omega) (List.getElem?_eq_getElem (by omega))
      rw [this]; simp
    rw [e1, e2, List.append_nil]
  rw [this, List.length_take]; omega
/-- It is found just if it is there, and where. -/
def bsIs (l : List (List Nat)) (s : List Nat) : Bool := match l[bsAt l s]? with | some x => eqL x s | none => false
section
variable {fns : FuncId → Option AFunc} {summ : FuncId → List AVal → AHeap → Option (D (AVal × AHeap))}
variable (H : Has fns summ)
include H
theorem cisNaN_ok (s : List Nat) (h : AHeap) : Cl fns summ 131 [.str s] h fun v h' => v = .bool false ∧ h' = h := by
  have hs : eqL s s = true := eqL_iff.2 rfl
  refine H.go (fn := F_cisNaN) rfl (by decide) rfl rfl ?_
  unfold F_cisNaN
  dsimp only
  repeat' with_reducible first | refine nxt_normal ?_ | refine st_nil ?_ | refine cd_seq ?_ | refine cd_ops ?_ | refine cd_ret ?_ | (apply st_q; exact q1) | (apply fin_ret; exact n1; exact r1)
  exact ⟨rfl, rfl⟩
theorem isNaNs_ok (s : List Nat) (h : AHeap) : Cl fns summ 207 [.str s] h fun v h' => v = .bool false ∧ h' = h := by
  have hs : eqL s s = true := eqL_iff.2 rfl
  refine H.go (fn := F_isNaNs) rfl (by decide) rfl rfl ?_
  unfold F_isNaNs
  dsimp only
  repeat' with_reducible first | refine nxt_normal ?_ | refine st_nil ?_ | refine cd_seq ?_ | refine cd_ops ?_ | refine cd_ret ?_ | (apply st_q; exact q1) | (apply fin_ret; exact n1; exact r1)
  exact ⟨rfl, rfl⟩
theorem cmpLess_ok (s t : List Nat) (h : AHeap) : Cl fns summ 93 [.str s, .str t] h fun v h' => v = .bool (lessL s t) ∧ h' = h := by
  refine H.go (fn := F_cmpLess) rfl (by decide) rfl rfl ?_
  unfold F_cmpLess
  dsimp only
  repeat with_reducible first | refine nxt_normal ?_ | refine st_nil ?_ | refine cd_seq ?_ | refine cd_ops ?_ | (apply st_q; exact q1)
  refine st_call (by exact s1) ((cisNaN_ok H s h).mono ?_)
  rintro _ _ ⟨rfl, rfl⟩
  repeat' with_reducible first | refine nxt_normal ?_ | refine st_nil ?_ | refine cd_ret ?_ | (apply st_q; exact q1) | (apply st_qT; exact e1; exact q1) | (apply st_qF; exact e1) | (apply st_eF; exact e1) | (apply fin_ret; exact n1; exact r1)
  exact ⟨rfl, rfl⟩
theorem BinarySearch_ok (l : List (List Nat)) (hr : Rises l) (hn : l.length < 2 ^ 60) (s : List Nat) (v : AVal) (h : AHeap) (hv : StrsAt h v l) : Cl fns summ 191 [v, .str s] h fun r h' => r = .tuple [.int .i64 (bsAt l s : Nat), .bool (bsIs l s)] ∧ h' = h := by
  have hlen := hv.len
  refine H.go (fn := F_BinarySearch) rfl (by decide) rfl rfl ?_
  unfold F_BinarySearch
  dsimp only
  repeat with_reducible first | refine nxt_normal ?_ | refine st_nil ?_ | refine cd_seq ?_ | refine cd_ops ?_ | (apply st_q; exact q1)
  refine cd_block ?_
  refine cd_loop (fun m a hp => ∃ i j : Nat, hp = h ∧ m = j - i ∧ i ≤ j ∧ j ≤ l.length ∧ (∀ k x, k < i → l[k]? = some x → lessL x s = true) ∧ (∀ k x, j ≤ k → l[k]? = some x → lessL x s = false) ∧ a.defers = [] ∧ ev a (.tmp 0) = some v ∧ ev a (.tmp 1) = some (.str s) ∧ ev a (.tmp 6) = some (.int .i64 (l.length : Nat)) ∧ ev a (.tmp 7) = some (.int .i64 (i : Nat)) ∧ ev a (.tmp 8) = some (.int .i64 (j : Nat))) ?_ (n := l.length)
    ⟨0, l.length, rfl, by omega, by omega, by omega, fun k x hk => by omega, fun k x hk hx => (by rw [List.getElem?_eq_none hk] at hx; cases hx), by exact n1, by exact e1, by exact e1, by exact e1, by exact e1, by exact e1⟩
  rintro m a _ ⟨i, j, rfl, hm, hij, hj, hlo, hhi, hd, h0', h1', h6', h7', h8'⟩
  by_cases hlt : i < j
  · have hdec : decide ((i : Int) < (j : Int)) = true := by simp; omega
    have hmid : (i + j) / 2 < l.length := by omega
    obtain ⟨b, o, ver, ro, e, vs, hix, hget, hvo⟩ := hv.at (List.getElem?_eq_getElem hmid)
    have hw1 : IntKind.i64.wrap ((i : Int) + (j : Int)) = ((i + j : Nat) : Int) := by rw [wrap_small (by omega) (by omega)]; omega
    have hw2 : IntKind.u64.wrap ((i + j : Nat) : Int) = ((i + j : Nat) : Int) := by
      simp only [IntKind.wrap, IntKind.bits, IntKind.signed, Bool.false_and, Bool.false_eq_true, if_false]; omega
    have hsh : ((i + j : Nat) : Int).fdiv (2 ^ min (1 : Int).toNat IntKind.u64.bits) = (((i + j) / 2 : Nat) : Int) := by
      simp only [IntKind.bits]
      show Int.fdiv _ 2 = _
      rw [Int.fdiv_eq_ediv_of_nonneg _ (by omega)]; omega
    have hw3 : IntKind.i64.wrap (((i + j) / 2 : Nat) : Int) = (((i + j) / 2 : Nat) : Int) := by rw [wrap_small (by omega) (by omega)]
    have hw4 : IntKind.i64.wrap ((((i + j) / 2 : Nat) : Int) + 1) = (((i + j) / 2 + 1 : Nat) : Int) := by rw [wrap_small (by omega) (by omega)]; omega
    have hsplit : ∀ x, l[(i + j) / 2]? = some x → ((lessL x s = true → ∀ k y, k < (i + j) / 2 + 1 → l[k]? = some y → lessL y s = true) ∧ (lessL x s = false → ∀ k y, (i + j) / 2 ≤ k → l[k]? = some y → lessL y s = false)) := by
      intro x hx
      refine ⟨fun hh k y hk hy => ?_, fun hh k y hk hy => ?_⟩
      · rcases Nat.lt_or_ge k ((i + j) / 2) with h1 | h1
        · exact lessL_trans (hr k _ h1 y x hy hx) hh
        · have : k = (i + j) / 2 := by omega
          subst this; rw [hx] at hy; cases hy; exact hh
      · rcases Nat.lt_or_ge ((i + j) / 2) k with h1 | h1
        · cases hc : lessL y s with
          | false => rfl
          | true => rw [lessL_trans (hr _ k h1 x y hx hy) hc] at hh; cases hh
        · have : k = (i + j) / 2 := by omega
          subst this; rw [hx] at hy; cases hy; exact hh
    obtain ⟨hs1, hs2⟩ := hsplit _ (List.getElem?_eq_getElem hmid)
    have h01 : (0 : Int) ≤ 1 := by decide
    clear hsplit hlen
    repeat with_reducible first | refine nxt_normal ?_ | refine st_nil ?_ | refine cd_seq ?_ | refine cd_ops ?_ | refine cd_blockS ?_ | refine cd_skip ?_ | (apply st_q; exact q1) | (apply cd_condT; exact e1)
    refine st_call (by exact s1) ((cmpLess_ok H l[(i + j) / 2] s _).mono ?_)
    rintro _ _ ⟨rfl, rfl⟩
    cases hc : lessL l[(i + j) / 2] s
    · repeat with_reducible first | refine nxt_normal ?_ | refine blk_normal ?_ | refine st_nil ?_ | refine cd_ops ?_ | (apply st_q; exact q1) | (apply cd_condF; exact e1)
      exact ⟨(i + j) / 2 - i, by omega, i, (i + j) / 2, rfl, rfl, by omega, by omega, hlo, hs2 hc, by exact n1, by exact e1, by exact e1, by exact e1, by exact e1, by exact e1⟩
    · repeat with_reducible first | refine nxt_normal ?_ | refine blk_normal ?_ | refine st_nil ?_ | refine cd_ops ?_ | (apply st_q; exact q1) | (apply cd_condT; exact e1)
      exact ⟨j - ((i + j) / 2 + 1), by omega, (i + j) / 2 + 1, j, rfl, rfl, by omega, hj, hs1 hc, hhi, by exact n1, by exact e1, by exact e1, by exact e1, by exact e1, by exact e1⟩
  · have hdec : decide ((i : Int) < (j : Int)) = false := by simp; omega
    have hei : i = j := by omega
    subst hei
    have hat := bs_split hr hj hlo hhi
    by_cases hil : i < l.length
    · have hdl : decide ((i : Int) < (l.length : Int)) = true := by simp; omega
      obtain ⟨b, o, ver, ro, e, vs, hix, hget, hvo⟩ := hv.at (List.getElem?_eq_getElem hil)
      have his : bsIs l s = eqL l[i] s := by rw [bsIs, hat, List.getElem?_eq_getElem hil]
      cases hc : eqL l[i] s
      · rw [hc] at his
        repeat with_reducible first | refine nxt_normal ?_ | refine nxt_exit ?_ | refine blk_same ?_ | refine st_nil ?_ | refine cd_seq ?_ | refine cd_ops ?_ | refine cd_exit ?_ | (apply st_q; exact q1) | (apply st_qT; exact e1; exact q1) | (apply cd_condF; exact e1)
        refine st_callT (by exact e1) (by exact s1) ((isNaNs_ok H _ _).mono ?_)
        rintro _ _ ⟨rfl, rfl⟩
        repeat' with_reducible first | refine nxt_normal ?_ | refine st_nil ?_ | refine cd_ret ?_ | (apply st_q; exact q1) | (apply st_qT; exact e1; exact q1) | (apply st_qF; exact e1) | (apply st_eF; exact e1) | (apply fin_ret; exact n1; exact r1)
        exact ⟨by rw [hat, his], rfl⟩
      · rw [hc] at his
        repeat' with_reducible first | refine nxt_normal ?_ | refine nxt_exit ?_ | refine blk_same ?_ | refine st_nil ?_ | refine cd_seq ?_ | refine cd_ops ?_ | refine cd_exit ?_ | refine cd_ret ?_ | (apply st_q; exact q1) | (apply st_qT; exact e1; exact q1) | (apply st_qF; exact e1) | (apply st_qU; exact e1) | (apply st_eF; exact e1) | (apply st_eU; exact e1) | (apply cd_condF; exact e1) | (apply fin_ret; exact n1; exact r1)
        exact ⟨by rw [hat, his], rfl⟩
    · have hdl : decide ((i : Int) < (l.length : Int)) = false := by simp; omega
      have his : bsIs l s = false := by rw [bsIs, hat, List.getElem?_eq_none (by omega)]
      repeat' with_reducible first | refine nxt_normal ?_ | refine nxt_exit ?_ | refine blk_same ?_ | refine st_nil ?_ | refine cd_seq ?_ | refine cd_ops ?_ | refine cd_exit ?_ | refine cd_ret ?_ | (apply st_q; exact q1) | (apply st_qF; exact e1) | (apply st_qU; exact e1) | (apply st_eU; exact e1) | (apply cd_condF; exact e1) | (apply fin_ret; exact n1; exact r1)
      exact ⟨by rw [hat, his], rfl⟩
end
end Go.Ab.S
end
section
/-
  All names of meanings of a sort, rising.
-/
namespace Go.Ab.S
open Go.Ab
set_option maxHeartbeats 4000000
theorem lessL_asym {x y : List Nat} (h : lessL x y = true) : lessL y x = false := by
  cases h2 : lessL y x
  · rfl
  · have := lessL_trans h h2
    rw [lessL_irr] at this; cases this
theorem sortL_mem {l : List (List Nat)} {s : List Nat} : s ∈ sortL l ↔ s ∈ l := List.mem_mergeSort
theorem sortL_len (l : List (List Nat)) : (sortL l).length = l.length := List.length_mergeSort _
theorem sortL_le (l : List (List Nat)) : (sortL l).Pairwise fun x y => (!lessL y x) = true := by
  refine List.pairwise_mergeSort (fun a b c h1 h2 => ?_) (fun a b => ?_) l
  · simp only [Bool.not_eq_true'] at h1 h2 ⊢
    cases h : lessL c a
    · rfl
    · rcases lessL_tri b c with k | rfl | k
      · have := lessL_trans k h; rw [h1] at this; cases this
      · rw [h1] at h; cases h
      · rw [h2] at k; cases k
  · cases h : lessL b a
    · rfl
    · rw [lessL_asym h]; rfl
theorem sortL_rises {l : List (List Nat)} (hn : l.Nodup) : Rises (sortL l) := by
  have h1 := sortL_le l
  have h2 : (sortL l).Nodup := (List.mergeSort_perm l _).nodup_iff.2 hn
  intro i j hij x y hx hy
  obtain ⟨hi, rfl⟩ := List.getElem?_eq_some_iff.1 hx
  obtain ⟨hj, rfl⟩ := List.getElem?_eq_some_iff.1 hy
  have h3 := List.pairwise_iff_getElem.1 h1 i j hi hj hij
  simp only [Bool.not_eq_true'] at h3
  rcases lessL_tri (sortL l)[i] (sortL l)[j] with k | k | k
  · exact k
  · have := (List.getElem_inj h2).1 k; omega
  · rw [h3] at k; cases k
def BytesL (l : List (List Nat)) : Prop := ∀ s ∈ l, ∀ c ∈ s, c < 256
section
variable {fns : FuncId → Option AFunc} {summ : FuncId → List AVal → AHeap → Option (D (AVal × AHeap))}
variable (H : Has fns summ) (HS : HasSort summ)
include H
theorem Collect_ok (ks : List (List Nat)) (hks : ks.length ≤ 2 ^ 20) (rm bk : Nat) (h : AHeap) (hw : WF h) (hbk : ∃ ver ro e, h.objs.get bk = some (ver, .cells ro e [.map (some rm)])) (hrm : SetAt h rm ks) :
    Cl fns summ 100 [.func 101 [] [.ptr (some (bk, 0))]] h fun r h' => ∃ s : List Nat, s.Nodup ∧ (∀ i, i ∈ s ↔ i < ks.length) ∧ Built h' h.next 9 1 r s.length ((pickK ks s).map AVal.str) ∧ Grow h h' := by
  refine H.go (fn := F_Collect) rfl (by decide) rfl rfl ?_
  unfold F_Collect
  dsimp only
  repeat with_reducible first | refine nxt_normal ?_ | refine st_nil ?_ | refine cd_seq ?_ | refine cd_ops ?_ | (apply st_q; exact q1)
  refine st_call (by exact s1) ((AppendSeq_ok H ks hks rm bk h hw hbk hrm).mono ?_)
  rintro r h2 hq
  repeat' with_reducible first | refine nxt_normal ?_ | refine st_nil ?_ | refine cd_ret ?_ | (apply st_q; exact q1) | (apply fin_ret; exact n1; exact r1)
  exact hq
include HS
theorem Sorted_ok (ks : List (List Nat)) (hks : ks.length ≤ 2 ^ 20) (hkb : BytesL ks) (hkn : ks.Nodup) (rm bk : Nat) (h : AHeap) (hw : WF h) (hbk : ∃ ver ro e, h.objs.get bk = some (ver, .cells ro e [.map (some rm)])) (hrm : SetAt h rm ks) :
    Cl fns summ 67 [.func 101 [] [.ptr (some (bk, 0))]] h fun r h' => ∃ out, StrsAt h' r out ∧ Rises out ∧ (∀ s, s ∈ out ↔ s ∈ ks) ∧ out.length ≤ 2 ^ 20 ∧ Grow h h' := by
  have e20 : (2 : Nat) ^ 20 = 1048576 := by decide
  have e31 : (2 : Nat) ^ 31 = 2147483648 := by decide
  refine H.go (fn := F_Sorted) rfl (by decide) rfl rfl ?_
  unfold F_Sorted
  dsimp only
  repeat with_reducible first | refine nxt_normal ?_ | refine st_nil ?_ | refine cd_seq ?_ | refine cd_ops ?_ | (apply st_q; exact q1)
  refine st_call (by exact s1) ((Collect_ok H ks hks rm bk h hw hbk hrm).mono ?_)
  rintro r h2 ⟨s, hnd, hall, B, g2⟩
  have hpl : (pickK ks s).length = s.length := by simp [pickK]
  have hsl := nat_most hnd fun i hi => (hall i).1 hi
  have hpn := pick_nodup hkn hnd fun i hi => (hall i).1 hi
  have hpm := pick_mem hall
  have fin : ∃ out : List (List Nat), out = sortL (pickK ks s) ∧ Rises out ∧ (∀ x, x ∈ out ↔ x ∈ ks) ∧ out.length ≤ 2 ^ 20 := ⟨_, rfl, sortL_rises hpn, fun x => sortL_mem.trans (hpm x), by rw [sortL_len, hpl]; omega⟩
  obtain ⟨out, ho, f1, f2, f3⟩ := fin
  have hol : out.length = s.length := by rw [ho, sortL_len, hpl]
  replace f1 := Hid.mk f1
  replace f2 := Hid.mk f2
  replace f3 := Hid.mk f3
  have hpb : BytesL (pickK ks s) := fun x hx => hkb x ((hpm x).1 hx)
  replace hpb := Hid.mk hpb
  rcases B with ⟨rfl, h0, hnil⟩ | ⟨rfl, h0, _⟩ | ⟨b, vs, ver, hb, rfl, ob, hlen, htk⟩
  · have hout : out = [] := List.length_eq_zero_iff.1 (by omega)
    have hs := HS.none h2
    clear hall hpm hpn ho
    repeat with_reducible first | refine nxt_normal ?_ | refine st_nil ?_ | refine cd_seq ?_ | refine cd_ops ?_ | (apply st_q; exact q1)
    refine st_call (by exact s1) (cl_summ hs ?_)
    rw [D.sat_ret]
    repeat' with_reducible first | refine nxt_normal ?_ | refine st_nil ?_ | refine cd_seq ?_ | refine cd_ops ?_ | refine cd_ret ?_ | (apply st_q; exact q1) | (apply fin_ret; exact n1; exact r1)
    exact ⟨out, by rw [hout]; exact ⟨rfl, fun i x hx => by simp at hx⟩, f1.out, f2.out, f3.out, g2⟩
  · have hout : out = [] := List.length_eq_zero_iff.1 (by omega)
    have hs := HS.zero h2
    clear hall hpm hpn ho
    repeat with_reducible first | refine nxt_normal ?_ | refine st_nil ?_ | refine cd_seq ?_ | refine cd_ops ?_ | (apply st_q; exact q1)
    refine st_call (by exact s1) (cl_summ hs ?_)
    rw [D.sat_ret]
    repeat' with_reducible first | refine nxt_normal ?_ | refine st_nil ?_ | refine cd_seq ?_ | refine cd_ops ?_ | refine cd_ret ?_ | (apply st_q; exact q1) | (apply fin_ret; exact n1; exact r1)
    exact ⟨out, by rw [hout]; exact ⟨rfl, fun i x hx => by simp at hx⟩, f1.out, f2.out, f3.out, g2⟩
  · rw [Nat.mul_one] at hlen htk
    rw [← hpl] at hlen htk
    have hs := HS.some (pickK ks s) hpb.out (by omega) h2 b ver vs g2.wf ob hlen htk
    rw [hpl] at hs
    have pb := but_put g2.wf ob (.cells false 9 ((sortL (pickK ks s)).map AVal.str ++ vs.drop s.length))
    have ob' := put_get_same h2 b (.cells false 9 ((sortL (pickK ks s)).map AVal.str ++ vs.drop s.length))
    rw [← ho] at hs pb ob'
    replace hs := Hid.mk hs
    have g3 := pb.grow h hw g2 hb
    have hB : Built (putObjA h2 b (.cells false 9 (out.map AVal.str ++ vs.drop s.length))) h.next 9 1 (.slice (some (b, 0)) out.length) out.length (out.map AVal.str) := .inr (.inr ⟨b, _, _, hb, rfl, ob', by simp, by simp⟩)
    have hSt := built_strs hB
    rw [hol] at hSt
    replace hSt := Hid.mk hSt
    clear hall hpm hpn ho ob htk hlen pb ob' hB
    repeat with_reducible first | refine nxt_normal ?_ | refine st_nil ?_ | refine cd_seq ?_ | refine cd_ops ?_ | (apply st_q; exact q1)
    refine st_call (by exact s1) (cl_summ hs.out ?_)
    rw [D.sat_ret]
    generalize putObjA h2 b _ = h3 at hSt g3 ⊢
    repeat' with_reducible first | refine nxt_normal ?_ | refine st_nil ?_ | refine cd_seq ?_ | refine cd_ops ?_ | refine cd_ret ?_ | (apply st_q; exact q1) | (apply fin_ret; exact n1; exact r1)
    exact ⟨out, hSt.out, f1.out, f2.out, f3.out, g3⟩
end
end Go.Ab.S
end
section
/-
  All values' names.
-/
namespace Go.Ab.S
open Go.Ab
set_option maxHeartbeats 4000000
section
variable {fns : FuncId → Option AFunc} {summ : FuncId → List AVal → AHeap → Option (D (AVal × AHeap))}
variable (H : Has fns summ) (HS : HasSort summ)
include H
theorem EValues1_ok (m : Mean) (l : List Mean) (bm : Nat) (h : AHeap) (hE : EnvAt h (.ptr (some (bm, 0))) (m :: l)) : Cl fns summ 45 [.ptr (some (bm, 0))] h fun r h' => r = .bool m.value.isSome ∧ h' = h := by
  obtain ⟨be, ver, ro, e, pv, pc, pa, hq, oe, hv, _, _⟩ := hE
  cases hq
  refine H.go (fn := F_EValues1) rfl (by decide) rfl rfl ?_
  unfold F_EValues1
  dsimp only
  cases hmv : m.value with
  | none =>
    rw [hmv] at hv
    have hpv : pv = .ptr none := hv
    subst hpv
    have hq1 : eqA .ptr (.ptr none) (.ptr none) = some true := rfl
    have hxr : (true ^^ true) = false := rfl
    repeat' with_reducible first | refine nxt_normal ?_ | refine st_nil ?_ | refine cd_seq ?_ | refine cd_ops ?_ | refine cd_ret ?_ | (apply st_q; exact q1) | (apply fin_ret; exact n1; exact r1)
    exact ⟨rfl, rfl⟩
  | some g =>
    rw [hmv] at hv
    obtain ⟨bg, verg, rog, eg, nvg, rfl, og5, hNg⟩ := hv
    have hq1 : eqA .ptr (.ptr (some (bg, 0))) (.ptr none) = some false := rfl
    have hxr : (true ^^ false) = true := rfl
    repeat' with_reducible first | refine nxt_normal ?_ | refine st_nil ?_ | refine cd_seq ?_ | refine cd_ops ?_ | refine cd_ret ?_ | (apply st_q; exact q1) | (apply fin_ret; exact n1; exact r1)
    exact ⟨rfl, rfl⟩
include HS
theorem enames_ok (L : List Mean) (p : Mean → Bool) (hL : L.length ≤ 2 ^ 20) (hb : ∀ m ∈ L, p m = true → ∀ c ∈ m.name, c < 256) (fv : AVal) (hfv : one fv = true) (hf : ∀ m l bm h, EnvAt h (.ptr (some (bm, 0))) (m :: l) → Cv fns summ fv [.ptr (some (bm, 0))] h fun r h' => r = .bool (p m) ∧ h' = h)
    (v : AVal) (h : AHeap) (hw : WF h) (hE : EnvAt h v L) : Cl fns summ 44 [v, fv] h fun r h' => ∃ out, StrsAt h' r out ∧ Rises out ∧ (∀ s, s ∈ out ↔ ∃ m ∈ L, p m = true ∧ m.name = s) ∧ out.length ≤ 2 ^ 20 ∧ Grow h h' := by
  have hv1 := hE.one
  have hfc : cellsA fv = [fv] := by cases fv <;> first | rfl | cases hfv
  have hf' := Hid.mk hf
  have hb' := Hid.mk hb
  clear hf hb
  refine H.go (fn := F_enames) rfl (by decide) rfl rfl ?_
  unfold F_enames
  dsimp only
  refine cd_seq (cd_ops ?_)
  refine st_box (by exact e1) hfc hw ?_
  rintro b3 h3 hb3 g3 o3
  have l3 := g3.wf.lt o3
  have n3 := g3.next
  repeat with_reducible first | refine nxt_normal ?_ | refine st_nil ?_ | refine cd_seq ?_ | refine cd_ops ?_ | (apply st_q; exact q1)
  refine st_mkmap (.inl rfl) g3.wf ?_
  rintro rm h4 hrm g4 om
  have l4 := g4.wf.lt om
  have n4 := g4.next
  refine st_alloc g4.wf ?_
  rintro b5 h5 hb5 g5 o5
  replace om := g5.keep _ _ om
  refine st_store (by exact e1) (by exact e1) (cs := [.map (some rm)]) rfl rfl g5.wf o5 (by simp) rfl ?_
  rintro v6 h6 p6 o6
  simp only [List.take_zero, List.nil_append, List.length_cons, List.length_nil, List.drop_succ_cons, List.drop_zero, List.append_nil, Nat.zero_add, Nat.reduceAdd, List.drop_nil, List.cons_append] at o6
  have g36 : Grow h3 h6 := p6.grow h3 g3.wf (g4.trans g5) (by omega)
  have om6 := p6.keep rm (by omega) _ om
  have n5 := g5.next
  have l5 := g5.wf.lt o5
  have n6 := g36.next
  have w3 := g3.wf
  clear om o5 p6 g4 g5
  repeat with_reducible first | refine nxt_normal ?_ | refine st_nil ?_ | refine cd_seq ?_ | refine cd_ops ?_ | (apply st_q; exact q1)
  refine st_call (by exact s1) ((eall_ok H v hv1 h6 g36.wf).mono ?_)
  rintro _ h7 ⟨b, rfl, hbb, vb, g7⟩
  have lb : b < h7.next := by obtain ⟨_, ov⟩ := vb; exact g7.wf.lt ov
  have l56 : b5 < h6.next := g36.wf.lt o6
  repeat with_reducible first | refine nxt_normal ?_ | refine st_nil ?_
  refine cd_gen (fun A => A.defers = [] ∧ ev A (.tmp 3) = some (.ptr (some (b3, 0))) ∧ ev A (.tmp 5) = some (.ptr (some (b5, 0))) ∧ ev A (.tmp 9) = some (.func 61 [] [.ptr (some (b, 0))])) ⟨by exact n1, by exact e1, by exact e1, by exact e1⟩ ?_
  rintro A ⟨hd, t3, t5, t9⟩
  refine cd_block ?_
  generalize hB : ACode.block 1 _ = B
  generalize hA : ACode.ops [⟨some 6, none, .q (.mov (.tmp 10))⟩] = As
  refine rangeF_K t9 g7.wf ?_
  intro l d h8 hdn hld g8 ol od
  have g38 : Grow h3 h8 := (g36.trans g7).trans g8
  have n7 := g7.next
  refine (eall1_ok H L v h3 (hE.mono g3) b (.yield l) (fun k hp => Grow h3 hp ∧ l < hp.next ∧ (∃ ver, hp.objs.get l = some (ver, .loop .ready none A.tmps [10] As B d)) ∧ (∃ ver, hp.objs.get d = some (ver, .dfr false)) ∧ (∃ ver, hp.objs.get b5 = some (ver, .cells false 117 [.map (some rm)])) ∧ ∃ ks, SetAt hp rm ks ∧ ks.Nodup ∧ ks.length ≤ k ∧ ∀ s, s ∈ ks ↔ ∃ m ∈ L.take k, p m = true ∧ m.name = s)
    (fun _ => False) (fun k hp q => q.1) ?_ ?_ h8 ⟨g38, by obtain ⟨_, ol⟩ := ol; exact g8.wf.lt ol, ol, od, ⟨_, g8.keep _ _ (g7.keep _ _ o6)⟩, [], ⟨_, g8.keep _ _ (g7.keep _ _ om6)⟩, List.nodup_nil, Nat.le_refl _, fun s => by simp⟩ (by obtain ⟨vv, ov⟩ := vb; exact ⟨vv, g8.keep _ _ ov⟩)).mono ?_
  · rintro k hp hp' vk ⟨gp, hl, ⟨vl, ol⟩, ⟨vd, od⟩, ⟨v5, o5⟩, ks, ⟨vm, om⟩, hk1, hk2, hk3⟩ ⟨vv, ov⟩ pb
    exact ⟨pb.grow h3 w3 gp (by omega), Nat.lt_of_lt_of_le hl pb.next, ⟨_, pb.keep l (by rintro rfl; rw [ol] at ov; cases ov) _ ol⟩, ⟨_, pb.keep d (by rintro rfl; rw [od] at ov; cases ov) _ od⟩, ⟨_, pb.keep b5 (by omega) _ o5⟩, ks, ⟨_, pb.keep rm (by rintro rfl; rw [om] at ov; cases ov) _ om⟩, hk1, hk2, hk3⟩
  · clear ol od o6 om6 vb
    rintro k hp vk hk ⟨gp, hl, ⟨vl, ol⟩, ⟨vd, od⟩, ⟨v5, o5⟩, ks, ⟨vm, om⟩, hk1, hk2, hk3⟩ ⟨vv, ov⟩ hEk
    obtain ⟨mm, rest, hdrop⟩ : ∃ mm rest, L.drop k = mm :: rest := by
      rw [List.drop_eq_getElem_cons hk]; exact ⟨_, _, rfl⟩
    have htake : L.take (k + 1) = L.take k ++ [mm] := by
      rw [List.take_succ_eq_append_getElem hk]
      have : L[k] = mm := by
        have := hdrop
        rw [List.drop_eq_getElem_cons hk] at this
        exact (List.cons.inj this).1
      rw [this]
    rw [hdrop] at hEk
    have hEk' := hEk
    obtain ⟨be, vere, roe, ee, pv, pc, pa, rfl, oe3, hv, hc, hrest⟩ := hEk
    have oe := gp.keep _ _ oe3
    have T3 : ev { tmps := A.tmps, defers := [] } (.tmp 3) = some (.ptr (some (b3, 0))) := t3
    have T5 : ev { tmps := A.tmps, defers := [] } (.tmp 5) = some (.ptr (some (b5, 0))) := t5
    refine yield_K ol gp.wf rfl (fun a1 => a1.defers = [] ∧ ev a1 (.tmp 6) = some (.ptr (some (be, 0))) ∧ ev a1 (.tmp 3) = some (.ptr (some (b3, 0))) ∧ ev a1 (.tmp 5) = some (.ptr (some (b5, 0)))) ?_ ?_
    · subst hA
      clear hd t3 t5 t9
      repeat with_reducible first | refine nxt_normal ?_ | refine st_nil ?_ | refine cd_ops ?_ | (apply st_q; exact q1)
      exact ⟨rfl, by exact n1, by exact e1, by exact e1, by exact e1⟩
    · rintro a1 hq ⟨hd1, t6, t3', t5'⟩ pL ⟨vlb, olb⟩
      subst hB
      clear hd t3 t5 t9 T3 T5
      have hlb : b ≠ l := by rintro rfl; rw [ol] at ov; cases ov
      have hld' : d ≠ l := by rintro rfl; rw [ol] at od; cases od
      have hel : be ≠ l := by rintro rfl; rw [ol] at oe; cases oe
      have h5l : b5 ≠ l := by rintro rfl; rw [ol] at o5; cases o5
      have hml : rm ≠ l := by rintro rfl; rw [ol] at om; cases om
      have gq : Grow h3 hq := pL.grow h3 w3 gp (by omega)
      have oeq := pL.keep _ hel _ oe
      have odq := pL.keep _ hld' _ od
      have ovq := pL.keep _ hlb _ ov
      have o5q := pL.keep _ h5l _ o5
      have omq := pL.keep _ hml _ om
      have o3q := gq.keep _ _ o3
      have hlq : l < hq.next := Nat.lt_of_lt_of_le hl pL.next
      have w := gq.wf
      have hcall := hf'.out mm rest be hq (hEk'.mono gq)
      have hmem : mm ∈ L := List.mem_of_mem_drop (i := k) (by rw [hdrop]; simp)
      replace hk3 := Hid.mk hk3
      replace htake := Hid.mk htake
      clear ol oe od ov o5 om pL hEk'
      repeat with_reducible first | refine cd_seq ?_ | refine cd_ops ?_ | refine cd_blockS ?_ | (apply st_q; exact q1)
      refine st_e (ex_call (by exact e1) (by exact s1) (hcall.mono ?_))
      rintro _ hq' ⟨rfl, hqe⟩
      replace hqe := hqe.symm
      subst hqe
      cases hpm : p mm
      · have hk3' : ∀ s, s ∈ ks ↔ ∃ m ∈ L.take (k + 1), p m = true ∧ m.name = s := fun s => by
          rw [hk3.out, htake.out]
          constructor
          · rintro ⟨m, h1, h2⟩; exact ⟨m, List.mem_append_left _ h1, h2⟩
          · rintro ⟨m, h1, h2, h3⟩
            rcases List.mem_append.1 h1 with h1 | h1
            · exact ⟨m, h1, h2, h3⟩
            · rw [List.mem_singleton.1 h1, hpm] at h2; cases h2
        replace hk3' := Hid.mk hk3'
        repeat with_reducible first | refine nxt_normal ?_ | refine blk_normal ?_ | refine st_nil ?_ | refine cd_skip ?_ | (apply cd_condF; exact e1)
        exact ⟨w, ⟨_, olb⟩, fun _ h4 p4 o4 => .inl ⟨rfl, ⟨p4.grow h3 w3 gq (by omega), Nat.lt_of_lt_of_le hlq p4.next, o4, ⟨_, p4.keep d hld' _ odq⟩, ⟨_, p4.keep b5 h5l _ o5q⟩, ks, ⟨_, p4.keep rm hml _ omq⟩, hk1, by omega, hk3'.out⟩, ⟨_, p4.keep b hlb _ ovq⟩⟩, fun hh => absurd rfl hh⟩
      · have hfd := ksE_find mm.name ks 0 0
        cases hcn : ks.contains mm.name
        · rw [hcn] at hfd
          have hfd : findA .str (.str mm.name) (ksE 0 ks) 0 = some none := hfd
          have hnin : mm.name ∉ ks := by simpa using hcn
          have hk3' : ∀ s, s ∈ ks ++ [mm.name] ↔ ∃ m ∈ L.take (k + 1), p m = true ∧ m.name = s := fun s => by
            rw [List.mem_append, hk3.out, htake.out, List.mem_singleton]
            constructor
            · rintro (⟨m, h1, h2⟩ | rfl)
              · exact ⟨m, List.mem_append_left _ h1, h2⟩
              · exact ⟨mm, List.mem_append_right _ (by simp), hpm, rfl⟩
            · rintro ⟨m, h1, h2, h3⟩
              rcases List.mem_append.1 h1 with h1 | h1
              · exact .inl ⟨m, h1, h2, h3⟩
              · rw [List.mem_singleton.1 h1] at h3; exact .inr h3.symm
          have hk1' : (ks ++ [mm.name]).Nodup := by
            rw [List.nodup_append]
            exact ⟨hk1, by simp, fun a ha b hb => by simp only [List.mem_singleton] at hb; subst hb; rintro rfl; exact hnin ha⟩
          replace hk3' := Hid.mk hk3'
          replace hk1' := Hid.mk hk1'
          replace hk1 := Hid.mk hk1
          replace hfd := Hid.mk hfd
          clear hnin
          repeat with_reducible first | refine nxt_normal ?_ | refine st_nil ?_ | refine cd_draw ?_ | (apply dr_q; exact q1) | (apply dr_ql; exact q1; exact og1) | (apply cd_condT; exact e1)
          refine dr_st (st_put (by exact e1) (by exact e1) (by exact e1) (by intro hh; cases hh) rfl w omq hfd.out ?_)
          rintro ver' h9 p9 o9
          refine st_nil ⟨by simp [heldOk, Nat.testBit], ?_⟩
          have hset : SetAt h9 rm (ks ++ [mm.name]) := ⟨_, by rw [ksE_put, List.length_append, List.length_singleton, Nat.zero_add]; exact o9⟩
          have olb9 := p9.keep l (fun e => hml e.symm) _ olb
          have od9 := p9.keep d (by rintro rfl; rw [odq] at omq; cases omq) _ odq
          have o59 := p9.keep b5 (by rintro rfl; rw [o5q] at omq; cases omq) _ o5q
          have ov9 := p9.keep b (by rintro rfl; rw [ovq] at omq; cases omq) _ ovq
          have g9 := p9.grow h3 w3 gq (by omega)
          have n9 := p9.next
          replace hset := Hid.mk hset
          clear omq o9 olb odq o5q ovq oeq o3q
          repeat with_reducible first | refine blk_normal ?_ | refine dr_nil ?_
          exact ⟨g9.wf, ⟨_, olb9⟩, fun _ h4 p4 o4 => .inl ⟨rfl, ⟨p4.grow h3 w3 g9 (by omega), by have := p4.next; omega, o4, ⟨_, p4.keep d hld' _ od9⟩, ⟨_, p4.keep b5 h5l _ o59⟩, ks ++ [mm.name], by obtain ⟨vz, oz⟩ := hset.out; exact ⟨vz, p4.keep rm hml _ oz⟩, hk1'.out, by rw [List.length_append, List.length_singleton]; omega, hk3'.out⟩, ⟨_, p4.keep b hlb _ ov9⟩⟩, fun hh => absurd rfl hh⟩
        · rw [hcn] at hfd
          have hfd : findA .str (.str mm.name) (ksE 0 ks) 0 = some (some (0 + ks.idxOf mm.name, .bool true)) := hfd
          have hin : mm.name ∈ ks := by simpa using hcn
          have hk3' : ∀ s, s ∈ ks ↔ ∃ m ∈ L.take (k + 1), p m = true ∧ m.name = s := fun s => by
            rw [hk3.out, htake.out]
            constructor
            · rintro ⟨m, h1, h2⟩; exact ⟨m, List.mem_append_left _ h1, h2⟩
            · rintro ⟨m, h1, h2, h3⟩
              rcases List.mem_append.1 h1 with h1 | h1
              · exact ⟨m, h1, h2, h3⟩
              · rw [List.mem_singleton.1 h1] at h3
                rw [← h3]; exact (hk3.out _).1 hin
          replace hk3' := Hid.mk hk3'
          replace hk1 := Hid.mk hk1
          replace hfd := Hid.mk hfd
          clear hin
          repeat with_reducible first | refine nxt_normal ?_ | refine st_nil ?_ | refine cd_draw ?_ | (apply dr_q; exact q1) | (apply dr_ql; exact q1; exact og1) | (apply cd_condT; exact e1)
          refine dr_st (st_reput (by exact e1) (by exact e1) (by exact e1) (by intro hh; cases hh) rfl w omq hfd.out ?_)
          rintro ver' h9 p9 o9
          rw [ksE_set] at o9
          refine st_nil ⟨by simp [heldOk, Nat.testBit], ?_⟩
          have olb9 := p9.keep l (fun e => hml e.symm) _ olb
          have od9 := p9.keep d (by rintro rfl; rw [odq] at omq; cases omq) _ odq
          have o59 := p9.keep b5 (by rintro rfl; rw [o5q] at omq; cases omq) _ o5q
          have ov9 := p9.keep b (by rintro rfl; rw [ovq] at omq; cases omq) _ ovq
          have g9 := p9.grow h3 w3 gq (by omega)
          have n9 := p9.next
          clear omq olb odq o5q ovq oeq o3q
          repeat with_reducible first | refine blk_normal ?_ | refine dr_nil ?_
          exact ⟨g9.wf, ⟨_, olb9⟩, fun _ h4 p4 o4 => .inl ⟨rfl, ⟨p4.grow h3 w3 g9 (by omega), by have := p4.next; omega, o4, ⟨_, p4.keep d hld' _ od9⟩, ⟨_, p4.keep b5 h5l _ o59⟩, ks, ⟨_, p4.keep rm hml _ o9⟩, hk1.out, by omega, hk3'.out⟩, ⟨_, p4.keep b hlb _ ov9⟩⟩, fun hh => absurd rfl hh⟩
  · clear ol od o6 om6 vb
    rintro _ h9 (⟨gp, hl, ⟨vl, ol⟩, ⟨vd, od⟩, ⟨v5, o5⟩, ks, ⟨vm, om⟩, hk1, hk2, hk3⟩ | hF)
    rotate_left
    · exact hF.elim
    rw [List.take_length] at hk3
    refine ⟨gp.wf, .inl ⟨⟨_, ol⟩, fun h10 p10 => ?_⟩⟩
    have hld' : d ≠ l := by rintro rfl; rw [ol] at od; cases od
    have h5l : b5 ≠ l := by rintro rfl; rw [ol] at o5; cases o5
    have hml : rm ≠ l := by rintro rfl; rw [ol] at om; cases om
    have od10 := p10.keep d hld' _ od
    have o510 := p10.keep b5 h5l _ o5
    have om10 := p10.keep rm hml _ om
    have g10 := p10.grow h hw (g3.trans gp) (by omega)
    have T5 : ev { tmps := A.tmps, defers := [.collected d] } (.tmp 5) = some (.ptr (some (b5, 0))) := t5
    have hdd : (ADef.collected d :: A.defers) = [.collected d] := by rw [hd]
    have hkb : BytesL ks := fun s hs => by
      obtain ⟨m, h1, h2, rfl⟩ := (hk3 s).1 hs
      exact hb'.out m h1 h2
    replace hk3 := Hid.mk hk3
    replace hkb := Hid.mk hkb
    replace hk1 := Hid.mk hk1
    have hkl : ks.length ≤ 2 ^ 20 := by omega
    clear hd t3 t9 ol od o5 om
    repeat with_reducible first | refine nxt_normal ?_ | refine blk_normal ?_ | refine cd_seq ?_ | refine cd_ops ?_ | (apply st_q; exact q1)
    refine st_call (by exact s1) ((MKeys_ok H rm h10 g10.wf).mono ?_)
    rintro _ h11 ⟨bk, verk, rfl, hbk, obk, g11⟩
    have om11 := g11.keep _ _ om10
    have od11 := g11.keep _ _ od10
    skip
    refine st_call (by exact s1) ((Sorted_ok H HS ks hkl hkb.out hk1.out rm bk h11 g11.wf ⟨_, _, _, obk⟩ ⟨_, om11⟩).mono ?_)
    rintro rv h12 ⟨out, hSt, hR, hM, hOl, g12⟩
    have od12 := g12.keep _ _ od11
    have g012 := (g10.trans g11).trans g12
    replace hR := Hid.mk hR
    replace hM := Hid.mk hM
    clear om10 od10 om11 od11 obk o510
    repeat with_reducible first | refine nxt_normal ?_ | refine st_nil ?_ | refine cd_ret ?_ | (apply st_q; exact q1)
    refine fin_coll (by first | exact hdd | (simp only [defers_put]; exact hdd)) g012.wf ⟨_, od12⟩ fun h13 p13 => ?_
    refine ⟨_, by exact r1, out, sl_stay (fun c ver ro e vs hc => p13.keep c (by rintro rfl; rw [od12] at hc; cases hc) _ hc) hSt, hR.out, fun s => (hM.out s).trans (hk3.out s), hOl, p13.grow h hw g012 (by omega)⟩
theorem EValues_ok (L : List Mean) (hL : L.length ≤ 2 ^ 20) (hb : ∀ m ∈ L, m.value.isSome = true → ∀ c ∈ m.name, c < 256) (v : AVal) (h : AHeap) (hw : WF h) (hE : EnvAt h v L) :
    Cl fns summ 20 [v] h fun r h' => ∃ out, StrsAt h' r out ∧ Rises out ∧ (∀ s, s ∈ out ↔ ∃ m ∈ L, m.value.isSome = true ∧ m.name = s) ∧ out.length ≤ 2 ^ 20 ∧ Grow h h' := by
  have hq := enames_ok H HS L (fun m => m.value.isSome) hL hb (.func 45 [] []) rfl (fun m l bm h hE => cv_func (EValues1_ok H m l bm h hE)) v h hw hE
  refine H.go (fn := F_EValues) rfl (by decide) rfl rfl ?_
  unfold F_EValues
  dsimp only
  repeat with_reducible first | refine nxt_normal ?_ | refine st_nil ?_ | refine cd_seq ?_ | refine cd_ops ?_ | (apply st_q; exact q1)
  refine st_call (by exact s1) (hq.mono ?_)
  rintro r h2 hr
  repeat' with_reducible first | refine nxt_normal ?_ | refine st_nil ?_ | refine cd_ret ?_ | (apply st_q; exact q1) | (apply fin_ret; exact n1; exact r1)
  exact hr
end
end Go.Ab.S
end
section
/-
  Whether two graphs are the same type.
-/
namespace Go.Ab.S
open Go.Ab
set_option maxHeartbeats 8000000
abbrev Pr := Int × Int
def pairC (p : Pr) : List AVal := [.int .i64 p.1, .int .i64 p.2]
def rowC (w : List Pr) : List AVal := (w.reverse.map pairC).flatten
def pairsS (g h : Graph) : List Pr := (List.range g.nodes.length).flatMap fun (i : Nat) => (List.range h.nodes.length).map fun (j : Nat) => ((i : Int), (j : Int))
theorem mem_pairsS {g h : Graph} {p : Pr} : p ∈ pairsS g h ↔ (0 ≤ p.1 ∧ p.1 < g.nodes.length) ∧ 0 ≤ p.2 ∧ p.2 < h.nodes.length := by
  simp only [pairsS, List.mem_flatMap, List.mem_range, List.mem_map]
  constructor
  · rintro ⟨i, hi, j, hj, rfl⟩; exact ⟨⟨by simp, by simp; omega⟩, by simp, by simp; omega⟩
  · rintro ⟨⟨h1, h2⟩, h3, h4⟩
    exact ⟨p.1.toNat, by omega, p.2.toNat, by omega, by ext <;> simp <;> omega⟩
theorem pairsS_len (g h : Graph) : (pairsS g h).length = g.nodes.length * h.nodes.length := by
  simp only [pairsS, List.length_flatMap, List.length_map, List.length_range]
  generalize g.nodes.length = n
  induction n with
  | zero => simp
  | succ n ih => rw [List.range_succ, List.map_append, List.sum_append, ih, Nat.succ_mul]; simp
theorem leftW_bound {α : Type} [BEq α] {nx : α → List α} {c : Nat} : ∀ {ps : List α}, (∀ p ∈ ps, (nx p).length ≤ c) → leftW nx [] ps ≤ ps.length * c
  | [], _ => by simp [leftW]
  | p :: r, h => by
    have h1 := leftW_bound (ps := r) fun q hq => h q (by simp [hq])
    have h2 := h p (by simp)
    simp only [leftW, List.length_cons, Nat.succ_mul]
    split <;> omega
def okS (g h : Graph) (p : Pr) : Bool := alikeF (nodeD g p.1) (nodeD h p.2)
def nxS (g h : Graph) (p : Pr) : List Pr := (List.zip (nodeD g p.1).args (nodeD h p.2).args).reverse
def badS (g : Graph) (p q : Pr) : Bool := freeF (nodeD g p.1) && (freeF (nodeD g q.1) && (p.1 == q.1 || p.2 == q.2))
def sameF (g h : Graph) : Bool := checkF g == 0 && (checkF h == 0 && walkG (okS g h) (nxS g h) (badS g) (2 + leftW (nxS g h) [] (pairsS g h)) [(g.root, h.root)] [])
theorem nodeD_at {g : Graph} {a : Int} (h0 : 0 ≤ a) (h1 : a < g.nodes.length) : ∃ k : Nat, a = (k : Int) ∧ ∃ hk : k < g.nodes.length, nodeD g a = g.nodes[k] := by
  refine ⟨a.toNat, by omega, by omega, ?_⟩
  simp [nodeD, List.getElem?_eq_getElem (show a.toNat < g.nodes.length by omega)]
theorem nodeD_mem {g : Graph} {a : Int} (h0 : 0 ≤ a) (h1 : a < g.nodes.length) : nodeD g a ∈ g.nodes := by
  obtain ⟨k, _, hk, h⟩ := nodeD_at h0 h1
  rw [h]; exact List.getElem_mem hk
theorem nxS_in {g h : Graph} (hg : checkF g = 0) (hh : checkF h = 0) {p : Pr} (hp : p ∈ pairsS g h) : ∀ q ∈ nxS g h p, q ∈ pairsS g h := by
  intro q hq
  obtain ⟨⟨a0, a1⟩, b0, b1⟩ := mem_pairsS.1 hp
  simp only [nxS, List.mem_reverse] at hq
  have h1 := List.of_mem_zip hq
  have h2 := may_args ((check_ns hg).2 _ (nodeD_mem a0 a1)) _ h1.1
  have h3 := may_args ((check_ns hh).2 _ (nodeD_mem b0 b1)) _ h1.2
  exact mem_pairsS.2 ⟨h2, h3⟩
theorem left_small {g h : Graph} (hg : GTi g) (hh : GTi h) {nx : Pr → List Pr} (hn : ∀ p ∈ pairsS g h, (nx p).length ≤ (nodeD g p.1).args.length) : leftW nx [] (pairsS g h) ≤ 2 ^ 36 := by
  have h1 := leftW_bound (nx := nx) (c := 4096) (ps := pairsS g h) (fun p hp => by
    obtain ⟨⟨a0, a1⟩, _⟩ := mem_pairsS.1 hp
    have := leftG_one g.nodes 0 _ (nodeD_mem a0 a1)
    have := hg.tiny
    have := hn p hp
    omega)
  rw [pairsS_len] at h1
  have h2 := hg.tiny
  have h3 := hh.tiny
  have h4 : g.nodes.length * h.nodes.length ≤ 4096 * 4096 := Nat.mul_le_mul (by omega) (by omega)
  have h5 : (2 : Nat) ^ 36 = 4096 * 4096 * 4096 := by decide
  have h6 := Nat.mul_le_mul_right 4096 h4
  omega
theorem roomP {k : Nat} (hk : k ≤ 2 ^ 37) : roomA 16 k = true := by
  have e37 : (2 : Nat) ^ 37 = 137438953472 := by decide
  have e46 : (2 : Nat) ^ 46 = 70368744177664 := by decide
  simp only [roomA, Bool.and_eq_true]
  exact ⟨rfl, Nat.ble_eq.mpr (by omega)⟩
/-! ### Maps of pairs, and of numbers -/
/-- Pairs that were met. -/
def MP (es : List (AVal × AVal × Nat)) (met : List Pr) : Prop := ∀ p, ∃ i, findA (.agg 2) (.agg (pairC p)) es 0 = some (if p ∈ met then some (i, .bool true) else none)
theorem MP.zero : MP [] [] := fun p => ⟨0, by simp [findA]⟩
theorem key_pair (p q : Pr) : keyA (.agg 2) (.agg (pairC p)) (.agg (pairC q)) = some (decide (p = q)) := by
  obtain ⟨a, b⟩ := p
  obtain ⟨c, d⟩ := q
  simp only [keyA, pairC, List.length_cons, List.length_nil, and_self, if_true, eqCells]
  cases h1 : a == c with
  | false =>
    have : a ≠ c := by simpa using h1
    cases h2 : b == d <;> simp [this]
  | true =>
    have : a = c := by simpa using h1
    cases h2 : b == d with
    | false => have : b ≠ d := by simpa using h2
               simp [this]
    | true => have h3 : b = d := by simpa using h2
              simp [this, h3]
theorem MP.put {es : List (AVal × AVal × Nat)} {met : List Pr} {p : Pr} {c : Nat} (h : MP es met) (hp : p ∉ met) : MP (es ++ [(.agg (pairC p), .bool true, c)]) (met ++ [p]) := fun q => by
  obtain ⟨i, hi⟩ := h q
  by_cases hq : q ∈ met
  · rw [if_pos hq] at hi
    exact ⟨i, by rw [findA_keep es 0 hi, if_pos (List.mem_append.2 (.inl hq))]⟩
  · rw [if_neg hq] at hi
    refine ⟨0 + es.length, ?_⟩
    rw [findA_snoc es 0 hi _ (key_pair q p)]
    by_cases he : q = p
    · rw [if_pos (decide_eq_true he), if_pos (List.mem_append.2 (.inr (List.mem_singleton.2 he)))]
    · rw [if_neg (by simpa using he), if_neg (fun hh => by
        rcases List.mem_append.1 hh with hh | hh
        · exact hq hh
        · exact he (List.mem_singleton.1 hh))]
theorem MP.look {h : AHeap} {r ver c : Nat} {es : List (AVal × AVal × Nat)} {met : List Pr} (hg : h.objs.get r = some (ver, .map es c)) (f : MP es met) (p : Pr) : lookA h (.agg 2) (.bool false) false (.map (some r)) (.agg (pairC p)) = some (.bool (met.contains p), some r) := by
  obtain ⟨i, hi⟩ := f p
  have hk : isKey (.agg 2) (.agg (pairC p)) = true := rfl
  simp only [lookA, hk, hg, hi]
  by_cases hp : p ∈ met
  · simp [hp]
  · simp [hp]
theorem MP.none {es : List (AVal × AVal × Nat)} {met : List Pr} (f : MP es met) {p : Pr} (hp : p ∉ met) : findA (.agg 2) (.agg (pairC p)) es 0 = some none := by
  obtain ⟨i, hi⟩ := f p
  rw [hi, if_neg hp]
/-- Numbers by number. -/
def FA (es : List (AVal × AVal × Nat)) (l : List Pr) : Prop := ∀ a, ∃ r, findA .int (.int .i64 a) es 0 = some r ∧ (r = none → ∀ q ∈ l, q.1 ≠ a) ∧ (∀ i v, r = some (i, v) → ∃ q ∈ l, q.1 = a ∧ v = .int .i64 q.2)
theorem FA.zero : FA [] [] := fun a => ⟨none, rfl, fun _ q hq => (by cases hq), fun i v h => by cases h⟩
theorem FA.put {es : List (AVal × AVal × Nat)} {l : List Pr} {p : Pr} {c : Nat} (h : FA es l) (hp : ∀ q ∈ l, q.1 ≠ p.1) : FA (es ++ [(.int .i64 p.1, .int .i64 p.2, c)]) (l ++ [p]) := fun a => by
  obtain ⟨r, h1, h2, h3⟩ := h a
  cases r with
  | some x =>
    refine ⟨some x, findA_keep es 0 h1, fun hh => (by cases hh), fun i v hv => ?_⟩
    obtain ⟨q, q1, q2⟩ := h3 i v hv
    exact ⟨q, List.mem_append.2 (.inl q1), q2⟩
  | none =>
    have hk : keyA .int (.int .i64 a) (.int .i64 p.1) = some (a == p.1) := by simp [keyA]
    refine ⟨_, findA_snoc es 0 h1 _ hk, ?_, ?_⟩
    · intro hh q hq
      rcases List.mem_append.1 hq with hq | hq
      · exact h2 rfl q hq
      · rw [List.mem_singleton.1 hq]
        rintro rfl
        simp at hh
    · intro i v hv
      split at hv
      · rename_i hap
        simp only [Option.some.injEq, Prod.mk.injEq] at hv
        exact ⟨p, List.mem_append.2 (.inr (List.mem_singleton.2 rfl)), (by simpa using hap : a = p.1).symm, hv.2.symm⟩
      · cases hv
theorem FA.none {es : List (AVal × AVal × Nat)} {l : List Pr} (f : FA es l) {a : Int} (ha : ∀ q ∈ l, q.1 ≠ a) : findA .int (.int .i64 a) es 0 = some none := by
  obtain ⟨r, h1, h2, h3⟩ := f a
  cases r with
  | none => exact h1
  | some x =>
    obtain ⟨q, q1, q2, _⟩ := h3 x.1 x.2 rfl
    exact absurd q2 (ha q q1)
theorem FA.look {h : AHeap} {r ver c : Nat} {es : List (AVal × AVal × Nat)} {l : List Pr} (hg : h.objs.get r = some (ver, .map es c)) (f : FA es l) (a : Int) : ∃ x, lookA h .int (.int .i64 0) true (.map (some r)) (.int .i64 a) = some (.tuple [.int .i64 x, .bool (l.any fun q => q.1 == a)], some r) ∧ ((l.any fun q => q.1 == a) = true → ∃ q ∈ l, q.1 = a ∧ x = q.2) := by
  obtain ⟨y, h1, h2, h3⟩ := f a
  cases y with
  | none =>
    refine ⟨0, ?_, fun hh => ?_⟩
    · have : (l.any fun q => q.1 == a) = false := by
        rw [List.any_eq_false]; intro q hq; simpa using h2 rfl q hq
      simp only [lookA, isKey, hg, h1, this, if_true]
    · obtain ⟨q, hq, hh⟩ := List.any_eq_true.1 hh
      exact absurd (by simpa using hh) (h2 rfl q hq)
  | some x =>
    obtain ⟨q, q1, q2, q3⟩ := h3 x.1 x.2 rfl
    refine ⟨q.2, ?_, fun _ => ⟨q, q1, q2, rfl⟩⟩
    have : (l.any fun q => q.1 == a) = true := List.any_eq_true.2 ⟨q, q1, by simpa using q2⟩
    obtain ⟨i, v⟩ := x
    simp only at q3
    subst q3
    simp only [lookA, isKey, hg, h1, this, if_true]
/-! ### What waits -/
theorem rowC_cons (p : Pr) (w : List Pr) : rowC (p :: w) = rowC w ++ pairC p := by simp [rowC]
theorem rowC_len (w : List Pr) : (rowC w).length = w.length * 2 := by
  induction w with
  | nil => rfl
  | cons p w ih => rw [rowC_cons, List.length_append, ih, List.length_cons, Nat.succ_mul]; rfl
theorem rowC_app (x w : List Pr) : rowC (x.reverse ++ w) = rowC w ++ (x.map pairC).flatten := by simp [rowC]
theorem pop_row {h : AHeap} {base : Nat} {e : TypeId} {vw : AVal} {p : Pr} {w : List Pr} (B : Built h base e 2 vw (w.length + 1) (rowC (p :: w))) : ∃ bw ver vs, vw = .slice (some (bw, 0)) (w.length + 1) ∧ h.objs.get bw = some (ver, .cells false e vs) ∧ base ≤ bw ∧ (w.length * 2 + 2 ≤ vs.length ∧ (vs.drop (w.length * 2)).take 2 = pairC p) ∧ Built h base e 2 (.slice (some (bw, 0)) w.length) w.length (rowC w) := by
  rcases B with ⟨_, hh, _⟩ | ⟨_, hh, _⟩ | ⟨b, vs, ver, h0, h1, h2, h3, h4⟩
  · omega
  · omega
  · refine ⟨b, ver, vs, h1, h2, h0, ?_, .inr (.inr ⟨b, vs, ver, h0, rfl, h2, by omega, ?_⟩)⟩
    · refine ⟨by omega, ?_⟩
      have := congrArg (fun l => l.drop (w.length * 2)) h4
      simp only [List.drop_take, rowC_cons, List.drop_left' (rowC_len w)] at this
      rw [show (w.length + 1) * 2 - w.length * 2 = 2 by omega] at this
      exact this
    · have := congrArg (fun l => l.take (w.length * 2)) h4
      simp only [List.take_take, rowC_cons, List.take_left' (rowC_len w)] at this
      rw [Nat.min_eq_left (by omega)] at this
      exact this
end Go.Ab.S
end
