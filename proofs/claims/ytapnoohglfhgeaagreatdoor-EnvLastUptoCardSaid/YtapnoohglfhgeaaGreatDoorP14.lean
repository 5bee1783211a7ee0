import Derived.Test.YtapnoohglfhgeaaGreatDoorP13
/-
  Part 14 of the proof.
-/
set_option linter.all false
section
/-
  Copies of rows.
-/
namespace Go.Ab.S
open Go.Ab
set_option maxHeartbeats 8000000
theorem slForms {v : AVal} {n : Nat} (h : lenO v = some n) : v = .slice none n ∨ (∃ b o, v = .slice (some (b, o)) n) ∨ (v = .slice0 ∧ n = 0) ∨ (v = .sliceE ∧ n = 0) := by
  cases v with
  | slice p k =>
    simp only [lenO, Option.some.injEq] at h
    subst h
    cases p with
    | none => exact .inl rfl
    | some p => exact .inr (.inl ⟨p.1, p.2, rfl⟩)
  | slice0 => simp only [lenO, Option.some.injEq] at h; exact .inr (.inr (.inl ⟨rfl, h.symm⟩))
  | sliceE => simp only [lenO, Option.some.injEq] at h; exact .inr (.inr (.inr ⟨rfl, h.symm⟩))
  | _ => cases h
theorem take_flat {vs : List AVal} {sz : Nat} : ∀ (xs : List (List AVal)) (o : Nat), (∀ i x, xs[i]? = some x → x.length = sz ∧ (vs.drop (o + i * sz)).take sz = x) → (vs.drop o).take (xs.length * sz) = xs.flatten
  | [], o, _ => by simp
  | x :: r, o, h => by
    have h0 := (h 0 x rfl).2
    rw [Nat.zero_mul, Nat.add_zero] at h0
    have ih := take_flat r (o + sz) fun i y hy => by
      have := h (i + 1) y (by simpa using hy)
      rw [Nat.succ_mul] at this
      rw [show o + sz + i * sz = o + (i * sz + sz) by omega]
      exact this
    rw [List.length_cons, Nat.succ_mul, Nat.add_comm, List.take_add, h0, List.drop_drop, ih, List.flatten_cons]
/-- All elements of a row at once. -/
theorem SlAt_cells {h : AHeap} {sz b o n : Nat} {xs : List (List AVal)} (k : SlAt h sz (.slice (some (b, o)) n) xs) (hn : 0 < n) (hz : 0 < sz) : n = xs.length ∧ ∃ ver ro e vs, h.objs.get b = some (ver, .cells ro e vs) ∧ o + n * sz ≤ vs.length ∧ (vs.drop o).take (n * sz) = xs.flatten ∧ xs.flatten.length = n * sz := by
  have hl : n = xs.length := by have := k.1; simp only [lenO, Option.some.injEq] at this; exact this
  subst hl
  refine ⟨rfl, ?_⟩
  have hsl : ∀ i, i < xs.length → slA (.slice (some (b, o)) xs.length) sz i = some (b, o + i * sz) := fun i hi => by simp [slA, hi]
  obtain ⟨_, b0, o0, ver, ro, e, vs, h1, h2, h3⟩ := k.2 0 _ (List.getElem?_eq_getElem hn)
  rw [hsl 0 hn] at h1
  simp only [Option.some.injEq, Prod.mk.injEq] at h1
  obtain ⟨rfl, _⟩ := h1
  have hall : ∀ i x, xs[i]? = some x → x.length = sz ∧ (vs.drop (o + i * sz)).take sz = x := fun i x hx => by
    obtain ⟨q1, b1, o1, ver1, ro1, e1, vs1, q2, q3, q4⟩ := k.2 i x hx
    rw [hsl i (List.getElem?_eq_some_iff.1 hx).1] at q2
    simp only [Option.some.injEq, Prod.mk.injEq] at q2
    obtain ⟨rfl, rfl⟩ := q2
    rw [h2] at q3
    simp only [Option.some.injEq, Prod.mk.injEq, AObj.cells.injEq] at q3
    obtain ⟨_, _, _, rfl⟩ := q3
    exact ⟨q1, q4⟩
  have hf := take_flat xs o hall
  have hlast := hall (xs.length - 1) _ (List.getElem?_eq_getElem (by omega))
  have hle : o + (xs.length - 1) * sz + sz ≤ vs.length := by
    have := congrArg List.length hlast.2
    rw [hlast.1, List.length_take, List.length_drop] at this
    omega
  have hm : (xs.length - 1) * sz + sz = xs.length * sz := by rw [← Nat.succ_mul]; congr 1; omega
  refine ⟨ver, ro, e, vs, h2, by omega, hf, ?_⟩
  rw [← hf, List.length_take, List.length_drop]; omega
section
variable {fns : FuncId → Option AFunc} {summ : FuncId → List AVal → AHeap → Option (D (AVal × AHeap))}
variable (H : Has fns summ)
/-- A copy by 'append(S[:0:0], s...)', laid out. -/
theorem clone_gen {e : TypeId} {bytes sz : Nat} {ro : Option Nat} {d : Option Tmp} {x y : AOpd} {l : List Step} {a : AAct} {h : AHeap} {K : AAct → AHeap → Prop} {v : AVal} {xs : List (List AVal)} (hx : ev a x = some .slice0) (hy : ev a y = some v) (hv : SlAt h sz v xs) (hz : 0 < sz) (hnn : v ≠ .slice none xs.length ∨ xs ≠ []) (ho : xs.flatten.all one = true) (hr : roomA bytes xs.length = true) (w : WF h)
    (k : ∀ r h', Built h' h.next e sz r xs.length xs.flatten → Grow h h' → St fns summ ro l (putA a d r) h' K) : St fns summ ro (⟨d, none, .e (.append e sz bytes x y)⟩ :: l) a h K := by
  rcases Nat.eq_zero_or_pos xs.length with h0 | h0
  · have hx0 : xs = [] := List.length_eq_zero_iff.1 h0
    subst hx0
    have hla : lenA v = some 0 := by
      have := hv.1
      cases v <;> first | exact this | cases this
    refine st_t (by intro _ _ hh; cases hh) (by intro _ _ hh; cases hh) (v := .slice0) (h' := h) ?_ (k _ _ (.inr (.inl ⟨rfl, rfl, rfl⟩)) (Grow.refl w))
    simp only [turnA, hx, hy, appendA, hla]
  · rcases slForms hv.1 with rfl | ⟨b, o, rfl⟩ | ⟨_, hh⟩ | ⟨_, hh⟩
    · obtain ⟨_, b, o, ver, ro, e, vs, h1, _⟩ := hv.2 0 _ (List.getElem?_eq_getElem h0)
      cases h1
    · obtain ⟨_, ver, rb, eb, vs, h2, h3, h4, h5⟩ := SlAt_cells hv h0 hz
      refine st_append (base := h.next) (n := 0) (cells := []) hx hy (.inr (.inl ⟨rfl, rfl, rfl⟩)) (m := xs.length) rfl h0 (new := xs.flatten) ?_ ho (by rw [Nat.zero_add]; exact hr) h5 w (Nat.le_refl _) ?_
      · simp only [cellsOfA, h2, if_pos h3, h4]
      · intro v' h' B _ w' n' g _
        rw [Nat.zero_add, List.nil_append] at B
        exact k v' h' B (g h w (Grow.refl w) (Nat.le_refl _))
    · omega
    · omega
include H
theorem roomOK {b k : Nat} (hb : 1 ≤ b ∧ b ≤ 128) (hk : k ≤ 2 ^ 31) : roomA b k = true := by
  have e31 : (2 : Nat) ^ 31 = 2147483648 := by decide
  have e46 : (2 : Nat) ^ 46 = 70368744177664 := by decide
  simp only [roomA, Bool.and_eq_true]
  refine ⟨Nat.ble_eq.mpr hb.1, Nat.ble_eq.mpr ?_⟩
  calc (2 * k + 2000) * b ≤ (2 * k + 2000) * 128 := Nat.mul_le_mul_left _ hb.2
    _ ≤ 2 ^ 46 := by omega
omit H
theorem intsFlat (l : List Int) : (l.map intC).flatten = l.map (AVal.int .i64) := by
  induction l with
  | nil => rfl
  | cons a r ih => simp only [List.map_cons, List.flatten_cons, ih]; rfl
theorem strsFlat (l : List (List Nat)) : (l.map strC).flatten = l.map AVal.str := by
  induction l with
  | nil => rfl
  | cons a r ih => simp only [List.map_cons, List.flatten_cons, ih]; rfl
include H
theorem CloneInt_ok (l : List Int) (hl : l.length ≤ 2 ^ 31) (v : AVal) (h : AHeap) (hw : WF h) (hv : IntsAt h v l) : Cl fns summ 80 [v] h fun r h' => Built h' h.next 3 1 r l.length (l.map (AVal.int .i64)) ∧ Grow h h' := by
  refine H.go (fn := F_CloneInt) rfl (by decide) rfl rfl ?_
  unfold F_CloneInt
  dsimp only
  by_cases hnil : v = .slice none (l.map intC).length
  · have hl0 : l = [] := by
      cases l with
      | nil => rfl
      | cons a r =>
        obtain ⟨_, b, o, ver, ro, e, vs, h1, _⟩ := hv.2 0 (intC a) rfl
        rw [hnil] at h1; cases h1
    subst hl0
    subst hnil
    repeat' with_reducible first | refine nxt_normal ?_ | refine nxt_ret ?_ | refine nxt_exit ?_ | refine blk_normal ?_ | refine blk_ret ?_ | refine blk_same ?_ | refine blk_other ?_ rfl | refine st_nil ?_ | refine cd_seq ?_ | refine cd_ops ?_ | refine cd_blockS ?_ | refine cd_blockO ?_ | refine cd_skip ?_ | refine cd_exit ?_ | refine cd_ret ?_ | refine dr_nil ?_ | refine cd_draw ?_ | (apply st_pair; exact e1; exact e1) | (apply dr_pair; exact e1; exact e1) | (apply dr_gT; exact e1) | (apply dr_gF; exact e1) | (apply dr_gU; exact e1) | (apply dr_q; exact q1) | (apply dr_ql; exact q1; exact og1) | (apply st_q; exact q1) | (apply st_pA; exact e1; exact e2) | (apply st_pO; exact e1; exact e2) | (apply st_qT; exact e1; exact q1) | (apply st_qF; exact e1) | (apply st_qU; exact e1) | (apply st_eF; exact e1) | (apply st_eU; exact e1) | (apply st_qS; exact e1; exact g1; exact q2) | (apply st_sA; exact e1; exact g1; exact e2; exact e3) | (apply st_sO; exact e1; exact g1; exact e2; exact e3) | (apply cd_condT; exact e1) | (apply cd_condF; exact e1) | (apply fin_ret; exact n1; exact r1) | (apply cd_cond; exact e1; all_goals intro _)
    exact ⟨.inl ⟨rfl, rfl, rfl⟩, Grow.refl hw⟩
  · have heq : eqA .slice v (.slice none 0) = some false := by
      rcases slForms hv.1 with h1 | ⟨b, o, rfl⟩ | ⟨rfl, _⟩ | ⟨rfl, _⟩
      · exact absurd h1 hnil
      · rfl
      · rfl
      · rfl
    have hroom := roomOK H (b := 8) (by decide) hl
    repeat with_reducible first | refine nxt_normal ?_ | refine nxt_ret ?_ | refine nxt_exit ?_ | refine blk_normal ?_ | refine blk_ret ?_ | refine blk_same ?_ | refine blk_other ?_ rfl | refine st_nil ?_ | refine cd_seq ?_ | refine cd_ops ?_ | refine cd_blockS ?_ | refine cd_blockO ?_ | refine cd_skip ?_ | refine cd_exit ?_ | refine cd_ret ?_ | refine dr_nil ?_ | refine cd_draw ?_ | (apply st_pair; exact e1; exact e1) | (apply dr_pair; exact e1; exact e1) | (apply dr_gT; exact e1) | (apply dr_gF; exact e1) | (apply dr_gU; exact e1) | (apply dr_q; exact q1) | (apply dr_ql; exact q1; exact og1) | (apply st_q; exact q1) | (apply st_pA; exact e1; exact e2) | (apply st_pO; exact e1; exact e2) | (apply st_qT; exact e1; exact q1) | (apply st_qF; exact e1) | (apply st_qU; exact e1) | (apply st_eF; exact e1) | (apply st_eU; exact e1) | (apply st_qS; exact e1; exact g1; exact q2) | (apply st_sA; exact e1; exact g1; exact e2; exact e3) | (apply st_sO; exact e1; exact g1; exact e2; exact e3) | (apply cd_condT; exact e1) | (apply cd_condF; exact e1)
    refine st_q (v := .bool false) (b := none) (by simp only [qA_eql, ev_put, ev_start, ev_val, Nat.reduceEqDiff, if_true, if_false, heq]; rfl) ?_
    repeat with_reducible first | refine nxt_normal ?_ | refine nxt_ret ?_ | refine nxt_exit ?_ | refine blk_normal ?_ | refine blk_ret ?_ | refine blk_same ?_ | refine blk_other ?_ rfl | refine st_nil ?_ | refine cd_seq ?_ | refine cd_ops ?_ | refine cd_blockS ?_ | refine cd_blockO ?_ | refine cd_skip ?_ | refine cd_exit ?_ | refine cd_ret ?_ | refine dr_nil ?_ | refine cd_draw ?_ | (apply st_pair; exact e1; exact e1) | (apply dr_pair; exact e1; exact e1) | (apply dr_gT; exact e1) | (apply dr_gF; exact e1) | (apply dr_gU; exact e1) | (apply dr_q; exact q1) | (apply dr_ql; exact q1; exact og1) | (apply st_q; exact q1) | (apply st_pA; exact e1; exact e2) | (apply st_pO; exact e1; exact e2) | (apply st_qT; exact e1; exact q1) | (apply st_qF; exact e1) | (apply st_qU; exact e1) | (apply st_eF; exact e1) | (apply st_eU; exact e1) | (apply st_qS; exact e1; exact g1; exact q2) | (apply st_sA; exact e1; exact g1; exact e2; exact e3) | (apply st_sO; exact e1; exact g1; exact e2; exact e3) | (apply cd_condT; exact e1) | (apply cd_condF; exact e1)
    refine st_T (by exact tE) (by exact t1) ?_
    repeat with_reducible first | refine nxt_normal ?_ | refine nxt_ret ?_ | refine nxt_exit ?_ | refine blk_normal ?_ | refine blk_ret ?_ | refine blk_same ?_ | refine blk_other ?_ rfl | refine st_nil ?_ | refine cd_seq ?_ | refine cd_ops ?_ | refine cd_blockS ?_ | refine cd_blockO ?_ | refine cd_skip ?_ | refine cd_exit ?_ | refine cd_ret ?_ | refine dr_nil ?_ | refine cd_draw ?_ | (apply st_pair; exact e1; exact e1) | (apply dr_pair; exact e1; exact e1) | (apply dr_gT; exact e1) | (apply dr_gF; exact e1) | (apply dr_gU; exact e1) | (apply dr_q; exact q1) | (apply dr_ql; exact q1; exact og1) | (apply st_q; exact q1) | (apply st_pA; exact e1; exact e2) | (apply st_pO; exact e1; exact e2) | (apply st_qT; exact e1; exact q1) | (apply st_qF; exact e1) | (apply st_qU; exact e1) | (apply st_eF; exact e1) | (apply st_eU; exact e1) | (apply st_qS; exact e1; exact g1; exact q2) | (apply st_sA; exact e1; exact g1; exact e2; exact e3) | (apply st_sO; exact e1; exact g1; exact e2; exact e3) | (apply cd_condT; exact e1) | (apply cd_condF; exact e1)
    refine clone_gen (by exact e1) (by exact e1) hv (by decide) (.inl hnil) (by rw [intsFlat]; simp [one]) (by simpa using hroom) hw ?_
    intro r h' B g
    rw [intsFlat, List.length_map] at B
    repeat' with_reducible first | refine nxt_normal ?_ | refine nxt_ret ?_ | refine nxt_exit ?_ | refine blk_normal ?_ | refine blk_ret ?_ | refine blk_same ?_ | refine blk_other ?_ rfl | refine st_nil ?_ | refine cd_seq ?_ | refine cd_ops ?_ | refine cd_blockS ?_ | refine cd_blockO ?_ | refine cd_skip ?_ | refine cd_exit ?_ | refine cd_ret ?_ | refine dr_nil ?_ | refine cd_draw ?_ | (apply st_pair; exact e1; exact e1) | (apply dr_pair; exact e1; exact e1) | (apply dr_gT; exact e1) | (apply dr_gF; exact e1) | (apply dr_gU; exact e1) | (apply dr_q; exact q1) | (apply dr_ql; exact q1; exact og1) | (apply st_q; exact q1) | (apply st_pA; exact e1; exact e2) | (apply st_pO; exact e1; exact e2) | (apply st_qT; exact e1; exact q1) | (apply st_qF; exact e1) | (apply st_qU; exact e1) | (apply st_eF; exact e1) | (apply st_eU; exact e1) | (apply st_qS; exact e1; exact g1; exact q2) | (apply st_sA; exact e1; exact g1; exact e2; exact e3) | (apply st_sO; exact e1; exact g1; exact e2; exact e3) | (apply cd_condT; exact e1) | (apply cd_condF; exact e1) | (apply fin_ret; exact n1; exact r1) | (apply cd_cond; exact e1; all_goals intro _)
    exact ⟨B, g⟩
theorem CloneStr_ok (l : List (List Nat)) (hl : l.length ≤ 2 ^ 31) (v : AVal) (h : AHeap) (hw : WF h) (hv : StrsAt h v l) : Cl fns summ 43 [v] h fun r h' => Built h' h.next 9 1 r l.length (l.map AVal.str) ∧ Grow h h' := by
  refine H.go (fn := F_CloneStr) rfl (by decide) rfl rfl ?_
  unfold F_CloneStr
  dsimp only
  by_cases hnil : v = .slice none (l.map strC).length
  · have hl0 : l = [] := by
      cases l with
      | nil => rfl
      | cons a r =>
        obtain ⟨_, b, o, ver, ro, e, vs, h1, _⟩ := hv.2 0 (strC a) rfl
        rw [hnil] at h1; cases h1
    subst hl0
    subst hnil
    repeat' with_reducible first | refine nxt_normal ?_ | refine nxt_ret ?_ | refine nxt_exit ?_ | refine blk_normal ?_ | refine blk_ret ?_ | refine blk_same ?_ | refine blk_other ?_ rfl | refine st_nil ?_ | refine cd_seq ?_ | refine cd_ops ?_ | refine cd_blockS ?_ | refine cd_blockO ?_ | refine cd_skip ?_ | refine cd_exit ?_ | refine cd_ret ?_ | refine dr_nil ?_ | refine cd_draw ?_ | (apply st_pair; exact e1; exact e1) | (apply dr_pair; exact e1; exact e1) | (apply dr_gT; exact e1) | (apply dr_gF; exact e1) | (apply dr_gU; exact e1) | (apply dr_q; exact q1) | (apply dr_ql; exact q1; exact og1) | (apply st_q; exact q1) | (apply st_pA; exact e1; exact e2) | (apply st_pO; exact e1; exact e2) | (apply st_qT; exact e1; exact q1) | (apply st_qF; exact e1) | (apply st_qU; exact e1) | (apply st_eF; exact e1) | (apply st_eU; exact e1) | (apply st_qS; exact e1; exact g1; exact q2) | (apply st_sA; exact e1; exact g1; exact e2; exact e3) | (apply st_sO; exact e1; exact g1; exact e2; exact e3) | (apply cd_condT; exact e1) | (apply cd_condF; exact e1) | (apply fin_ret; exact n1; exact r1) | (apply cd_cond; exact e1; all_goals intro _)
    exact ⟨.inl ⟨rfl, rfl, rfl⟩, Grow.refl hw⟩
  · have heq : eqA .slice v (.slice none 0) = some false := by
      rcases slForms hv.1 with h1 | ⟨b, o, rfl⟩ | ⟨rfl, _⟩ | ⟨rfl, _⟩
      · exact absurd h1 hnil
      · rfl
      · rfl
      · rfl
    have hroom := roomOK H (b := 16) (by decide) hl
    repeat with_reducible first | refine nxt_normal ?_ | refine nxt_ret ?_ | refine nxt_exit ?_ | refine blk_normal ?_ | refine blk_ret ?_ | refine blk_same ?_ | refine blk_other ?_ rfl | refine st_nil ?_ | refine cd_seq ?_ | refine cd_ops ?_ | refine cd_blockS ?_ | refine cd_blockO ?_ | refine cd_skip ?_ | refine cd_exit ?_ | refine cd_ret ?_ | refine dr_nil ?_ | refine cd_draw ?_ | (apply st_pair; exact e1; exact e1) | (apply dr_pair; exact e1; exact e1) | (apply dr_gT; exact e1) | (apply dr_gF; exact e1) | (apply dr_gU; exact e1) | (apply dr_q; exact q1) | (apply dr_ql; exact q1; exact og1) | (apply st_q; exact q1) | (apply st_pA; exact e1; exact e2) | (apply st_pO; exact e1; exact e2) | (apply st_qT; exact e1; exact q1) | (apply st_qF; exact e1) | (apply st_qU; exact e1) | (apply st_eF; exact e1) | (apply st_eU; exact e1) | (apply st_qS; exact e1; exact g1; exact q2) | (apply st_sA; exact e1; exact g1; exact e2; exact e3) | (apply st_sO; exact e1; exact g1; exact e2; exact e3) | (apply cd_condT; exact e1) | (apply cd_condF; exact e1)
    refine st_q (v := .bool false) (b := none) (by simp only [qA_eql, ev_put, ev_start, ev_val, Nat.reduceEqDiff, if_true, if_false, heq]; rfl) ?_
    repeat with_reducible first | refine nxt_normal ?_ | refine nxt_ret ?_ | refine nxt_exit ?_ | refine blk_normal ?_ | refine blk_ret ?_ | refine blk_same ?_ | refine blk_other ?_ rfl | refine st_nil ?_ | refine cd_seq ?_ | refine cd_ops ?_ | refine cd_blockS ?_ | refine cd_blockO ?_ | refine cd_skip ?_ | refine cd_exit ?_ | refine cd_ret ?_ | refine dr_nil ?_ | refine cd_draw ?_ | (apply st_pair; exact e1; exact e1) | (apply dr_pair; exact e1; exact e1) | (apply dr_gT; exact e1) | (apply dr_gF; exact e1) | (apply dr_gU; exact e1) | (apply dr_q; exact q1) | (apply dr_ql; exact q1; exact og1) | (apply st_q; exact q1) | (apply st_pA; exact e1; exact e2) | (apply st_pO; exact e1; exact e2) | (apply st_qT; exact e1; exact q1) | (apply st_qF; exact e1) | (apply st_qU; exact e1) | (apply st_eF; exact e1) | (apply st_eU; exact e1) | (apply st_qS; exact e1; exact g1; exact q2) | (apply st_sA; exact e1; exact g1; exact e2; exact e3) | (apply st_sO; exact e1; exact g1; exact e2; exact e3) | (apply cd_condT; exact e1) | (apply cd_condF; exact e1)
    refine st_T (by exact tE) (by exact t1) ?_
    repeat with_reducible first | refine nxt_normal ?_ | refine nxt_ret ?_ | refine nxt_exit ?_ | refine blk_normal ?_ | refine blk_ret ?_ | refine blk_same ?_ | refine blk_other ?_ rfl | refine st_nil ?_ | refine cd_seq ?_ | refine cd_ops ?_ | refine cd_blockS ?_ | refine cd_blockO ?_ | refine cd_skip ?_ | refine cd_exit ?_ | refine cd_ret ?_ | refine dr_nil ?_ | refine cd_draw ?_ | (apply st_pair; exact e1; exact e1) | (apply dr_pair; exact e1; exact e1) | (apply dr_gT; exact e1) | (apply dr_gF; exact e1) | (apply dr_gU; exact e1) | (apply dr_q; exact q1) | (apply dr_ql; exact q1; exact og1) | (apply st_q; exact q1) | (apply st_pA; exact e1; exact e2) | (apply st_pO; exact e1; exact e2) | (apply st_qT; exact e1; exact q1) | (apply st_qF; exact e1) | (apply st_qU; exact e1) | (apply st_eF; exact e1) | (apply st_eU; exact e1) | (apply st_qS; exact e1; exact g1; exact q2) | (apply st_sA; exact e1; exact g1; exact e2; exact e3) | (apply st_sO; exact e1; exact g1; exact e2; exact e3) | (apply cd_condT; exact e1) | (apply cd_condF; exact e1)
    refine clone_gen (by exact e1) (by exact e1) hv (by decide) (.inl hnil) (by rw [strsFlat]; simp [one]) (by simpa using hroom) hw ?_
    intro r h' B g
    rw [strsFlat, List.length_map] at B
    repeat' with_reducible first | refine nxt_normal ?_ | refine nxt_ret ?_ | refine nxt_exit ?_ | refine blk_normal ?_ | refine blk_ret ?_ | refine blk_same ?_ | refine blk_other ?_ rfl | refine st_nil ?_ | refine cd_seq ?_ | refine cd_ops ?_ | refine cd_blockS ?_ | refine cd_blockO ?_ | refine cd_skip ?_ | refine cd_exit ?_ | refine cd_ret ?_ | refine dr_nil ?_ | refine cd_draw ?_ | (apply st_pair; exact e1; exact e1) | (apply dr_pair; exact e1; exact e1) | (apply dr_gT; exact e1) | (apply dr_gF; exact e1) | (apply dr_gU; exact e1) | (apply dr_q; exact q1) | (apply dr_ql; exact q1; exact og1) | (apply st_q; exact q1) | (apply st_pA; exact e1; exact e2) | (apply st_pO; exact e1; exact e2) | (apply st_qT; exact e1; exact q1) | (apply st_qF; exact e1) | (apply st_qU; exact e1) | (apply st_eF; exact e1) | (apply st_eU; exact e1) | (apply st_qS; exact e1; exact g1; exact q2) | (apply st_sA; exact e1; exact g1; exact e2; exact e3) | (apply st_sO; exact e1; exact g1; exact e2; exact e3) | (apply cd_condT; exact e1) | (apply cd_condF; exact e1) | (apply fin_ret; exact n1; exact r1) | (apply cd_cond; exact e1; all_goals intro _)
    exact ⟨B, g⟩
end
end Go.Ab.S
end
section
/-
  What is left of a graph: the law of it.
-/
namespace Go.Ab.S
open Go.Ab
set_option maxHeartbeats 8000000
theorem reachG_ok {ns : List Node} {N : Nat} (hN : ∀ a : Int, 0 ≤ a → a < N → Ok N (argsN ns a)) : ∀ (m : Nat) (st out : List Int), Ok N st → Ok N out → out.Nodup → Ok N (reachG ns m st out) ∧ (reachG ns m st out).Nodup
  | 0, _, _, _, h2, h3 => ⟨h2, h3⟩
  | _ + 1, [], _, _, h2, h3 => ⟨h2, h3⟩
  | m + 1, a :: st, out, h1, h2, h3 => by
    have hst : Ok N st := fun b hb => h1 b (by simp [hb])
    have ha := h1 a (by simp)
    rw [reachG]
    split
    · exact reachG_ok hN m st out hst h2 h3
    · rename_i hc
      refine reachG_ok hN m _ _ (fun b hb => ?_) (fun b hb => ?_) ?_
      · rcases List.mem_append.1 hb with hb | hb
        · exact hN a ha.1 ha.2 b hb
        · exact hst b hb
      · rcases List.mem_append.1 hb with hb | hb
        · exact h2 b hb
        · simp only [List.mem_singleton] at hb; subst hb; exact ha
      · rw [List.nodup_append]
        refine ⟨h3, by simp, fun b hb c hc' => ?_⟩
        simp only [List.mem_singleton] at hc'
        rintro rfl
        subst hc'
        exact hc (by simpa using hb)
theorem reachF_ok (g : Graph) : Ok g.nodes.length (reachF g) ∧ (reachF g).Nodup := by
  unfold reachF
  split
  · rename_i hc
    obtain ⟨h0, h1, _, hm⟩ := check_root hc
    refine reachG_ok (fun a a0 a1 => ?_) _ _ _ (fun b hb => ?_) (fun b hb => (by cases hb)) List.nodup_nil
    · have hk : a.toNat < g.nodes.length := by omega
      simp only [argsN, List.getElem?_eq_getElem hk]
      exact may_args (hm _ (List.getElem_mem hk))
    · simp only [List.mem_singleton] at hb; subst hb; exact ⟨h0, h1⟩
  · exact ⟨fun b hb => (by cases hb), List.nodup_nil⟩
theorem reachG_len {ns : List Node} : ∀ (m : Nat) (st out : List Int), (reachG ns m st out).length ≤ out.length + m
  | 0, _, out => Nat.le_refl _
  | _ + 1, [], out => Nat.le_add_right _ _
  | m + 1, a :: st, out => by
    rw [reachG]
    split
    · have := reachG_len (ns := ns) m st out; omega
    · have := reachG_len (ns := ns) m (argsN ns a ++ st) (out ++ [a])
      simp only [List.length_append, List.length_cons, List.length_nil] at this; omega
theorem reachF_len {g : Graph} (hg : GSm g) : (reachF g).length ≤ 2 ^ 30 + 1 := by
  have := hg.total
  unfold reachF
  split
  · have h := reachG_len (ns := g.nodes) (1 + leftG [] g.nodes 0) [g.root] []
    simp only [List.length_nil] at h; omega
  · simp
/-- A node's number behind. -/
def toIdx (l : List Int) (a : Int) : Nat := if l.contains a then l.idxOf a else 0
def dNode : Node := ⟨0, [], [], [], false⟩
def nodeD (g : Graph) (i : Int) : Node := g.nodes.getD i.toNat dNode
def trimN (l : List Int) (n : Node) : Node := { n with args := n.args.map fun a => (toIdx l a : Int) }
def trimF (g : Graph) : Graph := ⟨(reachF g).map fun i => trimN (reachF g) (nodeD g i), 0⟩
/-- Entries: each number's place. -/
def toEs : Nat → List Int → List (AVal × AVal × Nat)
  | _, [] => []
  | i, a :: r => (.int .i64 a, .int .i64 (i : Nat), i) :: toEs (i + 1) r
theorem toEs_put : ∀ (l : List Int) (i : Nat) (a : Int), toEs i (l ++ [a]) = toEs i l ++ [(.int .i64 a, .int .i64 ((i + l.length : Nat) : Int), i + l.length)]
  | [], i, a => rfl
  | b :: l, i, a => by
    simp only [List.cons_append, toEs, toEs_put l (i + 1) a, List.length_cons, show i + 1 + l.length = i + (l.length + 1) by omega]
theorem toEs_find (a : Int) : ∀ (l : List Int) (i j : Nat), findA .int (.int .i64 a) (toEs i l) j = some (if l.contains a then some (j + l.idxOf a, .int .i64 ((i + l.idxOf a : Nat) : Int)) else none)
  | [], _, _ => rfl
  | b :: l, i, j => by
    simp only [toEs, findA, keyA, if_true]
    by_cases h : a = b
    · subst h; simp
    · have h1 : (a == b) = false := by simpa using h
      have h2 : (b == a) = false := by simpa using Ne.symm h
      have ih := toEs_find a l (i + 1) (j + 1)
      rw [h1]
      simp only [ih, List.contains_cons, h1, Bool.false_or, List.idxOf_cons, h2, cond_false]
      split
      · congr 2
        · exact Prod.ext (by simp; omega) (by simp; omega)
      · rfl
theorem look_to {h : AHeap} {r ver c : Nat} {l : List Int} (hg : h.objs.get r = some (ver, .map (toEs 0 l) c)) (a : Int) : lookA h .int (.int .i64 0) false (.map (some r)) (.int .i64 a) = some (.int .i64 (toIdx l a : Nat), some r) := by
  have := toEs_find a l 0 0
  simp only [lookA, isKey, hg, this, toIdx]
  cases hc : l.contains a <;> simp
end Go.Ab.S
end
section
/-
  What is left of a graph.
-/
namespace Go.Ab.S
open Go.Ab
set_option maxHeartbeats 8000000
theorem built_base {h : AHeap} {b b' sz n : Nat} {e : TypeId} {v : AVal} {cells : List AVal} (k : Built h b e sz v n cells) (hb : b' ≤ b) : Built h b' e sz v n cells := by
  rcases k with k | k | ⟨c, vs, ver, h0, h1⟩
  · exact .inl k
  · exact .inr (.inl k)
  · exact .inr (.inr ⟨c, vs, ver, Nat.le_trans hb h0, h1⟩)
theorem built_strs {h : AHeap} {base : Nat} {e : TypeId} {v : AVal} {l : List (List Nat)} (B : Built h base e 1 v l.length (l.map AVal.str)) : StrsAt h v l :=
  B.sl (by decide) (xs := l.map strC) (by rw [strsFlat]) (by intro c hc; obtain ⟨a, _, rfl⟩ := List.mem_map.1 hc; rfl) (by simp)
/-- A node of one's own. -/
def OwnN (h : AHeap) (base : Nat) (c : List AVal) (n : Node) : Prop := ∃ av lv, c = [.int .i64 n.kind, .str n.name, av, lv, .bool n.isOpen] ∧ Built h base 3 1 av n.args.length (n.args.map (AVal.int .i64)) ∧ Built h base 9 1 lv n.labels.length (n.labels.map AVal.str)
theorem OwnN_at {h : AHeap} {base : Nat} {c : List AVal} {n : Node} (k : OwnN h base c n) : NodeAt h c n := by
  obtain ⟨av, lv, h1, h2, h3⟩ := k
  exact ⟨av, lv, h1, built_ints h2, built_strs h3⟩
/-- Rows of nodes aside, all stays. -/
theorem OwnN_stay {h h' : AHeap} {base : Nat} {c : List AVal} {n : Node} (k : OwnN h base c n) (hk : ∀ b p, h.objs.get b = some p → ((∃ vs, p.2 = .cells false 3 vs) ∨ ∃ vs, p.2 = .cells false 9 vs) → h'.objs.get b = some p) : OwnN h' base c n := by
  obtain ⟨av, lv, h1, h2, h3⟩ := k
  exact ⟨av, lv, h1, built_stay h2 fun b p hb hp _ => hk b p hb (.inl hp), built_stay h3 fun b p hb hp _ => hk b p hb (.inr hp)⟩
theorem leftG_one : ∀ (ns : List Node) (i : Nat) (n : Node), n ∈ ns → n.args.length ≤ leftG [] ns i
  | [], _, _, h => by cases h
  | m :: r, i, n, h => by
    simp only [leftG]
    rcases List.mem_cons.1 h with rfl | h
    · simp
    · have := leftG_one r (i + 1) n h; omega
theorem set_take {vs : List AVal} {i n : Nat} {x : AVal} (hi : i < n) (hv : n ≤ vs.length) : (vs.take i ++ [x] ++ vs.drop (i + 1)).take n = (vs.take n).set i x := by
  rw [← List.take_set, List.set_eq_take_append_cons_drop, if_pos (by omega), List.append_assoc]; rfl
/-- A row of which so many are told anew. -/
def Lst (l args : List Int) (i : Nat) : List Int := (args.take i).map (fun a => (toIdx l a : Int)) ++ args.drop i
theorem Lst_len (l args : List Int) (i : Nat) : (Lst l args i).length = args.length := by simp [Lst]; omega
theorem Lst_get {l args : List Int} {i : Nat} (h : i < args.length) : (Lst l args i)[i]? = some args[i] := by
  rw [Lst, List.getElem?_append_right (by simp; omega)]
  simp [Nat.min_eq_left (Nat.le_of_lt h), h]
theorem Lst_set {l args : List Int} {i : Nat} (h : i < args.length) : (Lst l args i).set i (toIdx l args[i] : Int) = Lst l args (i + 1) := by
  have hl : ((args.take i).map (fun a => (toIdx l a : Int))).length = i := by simp; omega
  rw [Lst, List.set_append_right _ _ (by omega), hl, Nat.sub_self, List.drop_eq_getElem_cons h, List.set_cons_zero, Lst, List.take_succ_eq_append_getElem h, List.map_append, List.append_assoc]
  rfl
theorem built_stay' {h h' : AHeap} {base : Nat} {e : TypeId} {sz n : Nat} {v : AVal} {cells : List AVal} (B : Built h base e sz v n cells) (hk : ∀ c p, base ≤ c → h.objs.get c = some p → (∃ vs, p.2 = .cells false e vs) → h'.objs.get c = some p) : Built h' base e sz v n cells := by
  rcases B with B | B | ⟨b, vs, ver, h0, h1, h2, h3⟩
  · exact .inl B
  · exact .inr (.inl B)
  · exact .inr (.inr ⟨b, vs, ver, h0, h1, hk _ _ h0 h2 ⟨vs, rfl⟩, h3⟩)
/-- A graph of one's own. -/
def OwnG (h : AHeap) (base : Nat) (v : AVal) (g : Graph) : Prop := ∃ (nv : AVal) (cs : List (List AVal)), v = .agg [nv, .int .i64 g.root] ∧ Built h base 60 5 nv g.nodes.length cs.flatten ∧ cs.length = g.nodes.length ∧ ∀ (i : Nat) c n, cs[i]? = some c → g.nodes[i]? = some n → OwnN h base c n
theorem OwnG.graph {h : AHeap} {base : Nat} {v : AVal} {g : Graph} (k : OwnG h base v g) : GraphAt h v g := by
  obtain ⟨nv, cs, rfl, kB, kl, kn⟩ := k
  refine ⟨nv, rfl, cs, kB.sl (by decide) rfl (fun c hc => ?_) kl, kl, fun i n c hn hc => OwnN_at (kn i c n hc hn)⟩
  obtain ⟨i, hi, rfl⟩ := List.mem_iff_getElem.1 hc
  obtain ⟨_, _, hcs, _⟩ := kn i _ _ (List.getElem?_eq_getElem hi) (List.getElem?_eq_getElem (by omega))
  rw [hcs]; rfl
theorem OwnG.stay {h h' : AHeap} {base : Nat} {v : AVal} {g : Graph} (k : OwnG h base v g) (hk : ∀ c p, base ≤ c → h.objs.get c = some p → ((∃ vs, p.2 = .cells false 60 vs) ∨ (∃ vs, p.2 = .cells false 3 vs) ∨ ∃ vs, p.2 = .cells false 9 vs) → h'.objs.get c = some p) : OwnG h' base v g := by
  obtain ⟨nv, cs, rfl, kB, kl, kn⟩ := k
  refine ⟨nv, cs, rfl, built_stay' kB fun c p hc hp ht => hk c p hc hp (.inl ht), kl, fun i c n hc hn => ?_⟩
  obtain ⟨av, lv, q1, q2, q3⟩ := kn i c n hc hn
  exact ⟨av, lv, q1, built_stay' q2 fun c p hc hp ht => hk c p hc hp (.inr (.inl ht)), built_stay' q3 fun c p hc hp ht => hk c p hc hp (.inr (.inr ht))⟩
theorem OwnG.grow {h h' : AHeap} {base : Nat} {v : AVal} {g : Graph} (k : OwnG h base v g) (gr : Grow h h') : OwnG h' base v g := k.stay fun _ _ _ hp _ => gr.keep _ _ hp
theorem OwnG.base {h : AHeap} {base base' : Nat} {v : AVal} {g : Graph} (k : OwnG h base v g) (hb : base' ≤ base) : OwnG h base' v g := by
  obtain ⟨nv, cs, rfl, kB, kl, kn⟩ := k
  refine ⟨nv, cs, rfl, built_base kB hb, kl, fun i c n hc hn => ?_⟩
  obtain ⟨av, lv, q1, q2, q3⟩ := kn i c n hc hn
  exact ⟨av, lv, q1, built_base q2 hb, built_base q3 hb⟩
structure TInv (h0 : AHeap) (b1 b2 bm : Nat) (nv : AVal) (root : Int) (l : List Int) (ns : List Node) (hp : AHeap) : Prop where
  grow : Grow h0 hp
  o1 : ∃ ver, hp.objs.get b1 = some (ver, .cells false 24 [nv, .int .i64 root])
  om : ∃ ver, hp.objs.get bm = some (ver, .map (toEs 0 l) l.length)
  o2 : ∃ (ver : Nat) (vo : AVal) (cs : List (List AVal)), hp.objs.get b2 = some (ver, .cells false 24 [vo, .int .i64 0]) ∧ Built hp h0.next 60 5 vo ns.length cs.flatten ∧ cs.length = ns.length ∧ ∀ (i : Nat) c n, cs[i]? = some c → ns[i]? = some n → OwnN hp h0.next c n
  low : h0.next ≤ b1 ∧ b1 < b2 ∧ b2 < hp.next
theorem TInv.other {h0 : AHeap} {b1 b2 bm : Nat} {nv : AVal} {root : Int} {l : List Int} {ns : List Node} {hp hq : AHeap} (I : TInv h0 b1 b2 bm nv root l ns hp) (g : Grow hp hq) : TInv h0 b1 b2 bm nv root l ns hq := by
  obtain ⟨v1, k1⟩ := I.o1
  obtain ⟨vm, km⟩ := I.om
  obtain ⟨v2, vo, cs, k2, kB, kl, kn⟩ := I.o2
  exact ⟨I.grow.trans g, ⟨v1, g.keep _ _ k1⟩, ⟨vm, g.keep _ _ km⟩, ⟨v2, vo, cs, g.keep _ _ k2, kB.grow g, kl, fun i c n hc hn => OwnN_stay (kn i c n hc hn) fun b p hb _ => g.keep _ _ hb⟩, I.low.1, I.low.2.1, Nat.lt_of_lt_of_le I.low.2.2 g.next⟩
section
variable {fns : FuncId → Option AFunc} {summ : FuncId → List AVal → AHeap → Option (D (AVal × AHeap))}
theorem cd_post {ro : Option Nat} {c : ACode} {a : AAct} {h : AHeap} {Q : AExit → AAct → AHeap → Prop} (I : AAct → AHeap → Prop) (k1 : Cd fns summ ro c a h (nxt I fun _ _ _ => False)) (k2 : ∀ a h, I a h → Q .normal a h) : Cd fns summ ro c a h Q :=
  k1.mono fun e a1 h1 hq => by cases e with
    | normal => exact k2 a1 h1 hq
    | ret => exact hq.elim
    | exit i => exact hq.elim
variable (H : Has fns summ)
include H
theorem Trim_ok (g : Graph) (hg : GSm g) (v : AVal) (h : AHeap) (hw : WF h) (hv : GraphAt h v g) : Cl fns summ 54 [v] h fun r h' => OwnG h' h.next r (trimF g) ∧ Grow h h' := by
  obtain ⟨nv, rfl, hN⟩ := hv
  obtain ⟨hOk, hNd⟩ := reachF_ok g
  have hlen := hN.len
  refine H.go (fn := F_Trim) rfl (by decide) rfl rfl ?_
  unfold F_Trim
  dsimp only
  refine cd_seq (cd_ops ?_)
  refine st_box (by exact e1) (by exact cc) hw ?_
  rintro b1 h1 hb1 g1 o1
  refine st_alloc g1.wf ?_
  rintro b2 h2 hb2 g2 o2
  have l1 := g1.wf.lt o1
  replace o1 := g2.keep _ _ o1
  have g02 := g1.trans g2
  have hpart : partA (some 2) [nv, .int .i64 g.root] 0 = some (.agg [nv, .int .i64 g.root]) := rfl
  repeat with_reducible first | refine nxt_normal ?_ | refine st_nil ?_ | refine cd_seq ?_ | refine cd_ops ?_ | (apply st_q; exact q1)
  refine st_call (by exact s1) ((Reach_ok H g hg _ h2 g2.wf ⟨nv, rfl, hN.mono g02⟩).mono ?_)
  rintro rv h3 ⟨hR, g3⟩
  replace o1 := g3.keep _ _ o1
  replace o2 := g3.keep _ _ o2
  have g03 := g02.trans g3
  have hrl := hR.len
  repeat with_reducible first | refine nxt_normal ?_ | refine st_nil ?_ | refine cd_seq ?_ | refine cd_ops ?_ | (apply st_q; exact q1)
  refine st_mkmap (.inr ⟨_, _, _, rfl, by exact e1⟩) g3.wf ?_
  rintro bm h4 hbm g4 om
  have l2 := g3.wf.lt o2
  replace o1 := g4.keep _ _ o1
  replace o2 := g4.keep _ _ o2
  have hR4 := built_ints (hR.grow g4)
  have hR4B := built_base (hR.grow g4) (b' := h.next) g02.next
  have g04 := g03.trans g4
  have hlr : (reachF g).length < 2 ^ 60 := by
    have := reachF_len hg
    have e30 : (2 : Nat) ^ 30 = 1073741824 := by decide
    omega
  repeat with_reducible first | refine nxt_normal ?_ | refine st_nil ?_ | refine cd_seq ?_ | refine cd_ops ?_ | (apply st_q; exact q1)
  refine cd_count (N := (reachF g).length) (by omega) (fun j a hp => (∃ ver, hp.objs.get bm = some (ver, .map (toEs 0 ((reachF g).take j)) j)) ∧ (hp = h4 ∨ But bm h4 hp) ∧ a.defers = [] ∧ ev a (.tmp 1) = some (.ptr (some (b1, 0))) ∧ ev a (.tmp 2) = some (.ptr (some (b2, 0))) ∧ ev a (.tmp 3) = some rv ∧ ev a (.tmp 4) = some (.map (some bm)) ∧ ev a (.tmp 17) = some rv)
    (by rintro j a hp t w (rfl | rfl | rfl) ⟨h1, h2, h3, h4, h5, h6, h7, h8⟩ <;> exact ⟨h1, h2, by rw [defers_put]; exact h3, by exact e1, by exact e1, by exact e1, by exact e1, by exact e1⟩) (by decide) ?_ ?_ ⟨⟨_, om⟩, .inl rfl, by exact n1, by exact e1, by exact e1, by exact e1, by exact e1, by exact e1⟩ (by exact e1) (by exact e1)
  · rintro j a hp hj ⟨⟨ver, o⟩, hb, hd, e1', e2', e3', e4', e17⟩ hi hn
    have hc : (reachF g)[j]? = some (reachF g)[j] := List.getElem?_eq_getElem hj
    have hkp : ∀ c p, h4.objs.get c = some p → c ≠ bm → hp.objs.get c = some p := fun c p h1 h2 => by
      rcases hb with rfl | hb
      · exact h1
      · exact hb.keep c h2 _ h1
    have hwp : WF hp := by
      rcases hb with rfl | hb
      · exact g4.wf
      · exact hb.wf g4.wf
    obtain ⟨bb, ob, verb, rb, eb, vsb, hix, hget', hvo⟩ := hR4.at hc
    have hget := hkp _ _ hget' (by rintro rfl; rw [om] at hget'; cases hget')
    have hnin : ((reachF g).take j).contains (reachF g)[j] = false := by
      rw [Bool.eq_false_iff]
      intro hh
      simp only [List.contains_eq_mem, decide_eq_true_eq] at hh
      obtain ⟨i, hi', he⟩ := List.mem_iff_getElem.1 hh
      rw [List.getElem_take] at he
      have hij := (List.getElem_inj hNd).1 he
      simp only [List.length_take] at hi'
      omega
    have hf : findA .int (.int .i64 (reachF g)[j]) (toEs 0 ((reachF g).take j)) 0 = some none := by rw [toEs_find, hnin]; rfl
    clear hget' hkp
    repeat with_reducible first | refine nxt_normal ?_ | refine st_nil ?_ | refine cd_seq ?_ | refine cd_ops ?_ | refine cd_blockS ?_ | (apply st_q; exact q1)
    refine st_put (by exact e1) (by exact e1) (by exact e1) (by intro hh; cases hh) rfl hwp o hf ?_
    rintro ver' h5 p5 o5
    have ht : toEs 0 ((reachF g).take j) ++ [(.int .i64 (reachF g)[j], .int .i64 (j : Nat), j)] = toEs 0 ((reachF g).take (j + 1)) := by
      rw [List.take_succ_eq_append_getElem hj, toEs_put, Nat.zero_add, List.length_take, Nat.min_eq_left (Nat.le_of_lt hj)]
    rw [ht] at o5
    have hb5 : But bm h4 h5 := by
      rcases hb with rfl | hb
      · exact p5
      · exact hb.trans p5
    repeat with_reducible first | refine nxt_normal ?_ | refine blk_normal ?_ | refine st_nil ?_
    exact ⟨⟨⟨_, o5⟩, .inr hb5, by exact n1, by exact e1, by exact e1, by exact e1, by exact e1, by exact e1⟩, by exact e1, by exact e1⟩
  · rintro a h5 ⟨⟨ver5, om5⟩, hb, hd, e1', e2', e3', e4', _⟩
    rw [List.take_length] at om5
    have hkp : ∀ c p, h4.objs.get c = some p → c ≠ bm → h5.objs.get c = some p := fun c p h1 h2 => by
      rcases hb with rfl | hb
      · exact h1
      · exact hb.keep c h2 _ h1
    have g05 : Grow h h5 := by
      rcases hb with rfl | hb
      · exact g04
      · exact hb.grow h hw g04 (by have := g03.next; omega)
    have n4 : h4.next ≤ h5.next := by
      rcases hb with rfl | hb
      · exact Nat.le_refl _
      · exact hb.next
    have hR5 : Built h5 h.next 3 1 rv (reachF g).length ((reachF g).map (AVal.int .i64)) := built_stay hR4B fun c p hc ⟨vs, hp⟩ _ => hkp c p hc (by
      rintro rfl
      rw [om] at hc
      simp only [Option.some.injEq] at hc
      rw [← hc] at hp; cases hp)
    have I0 : TInv h b1 b2 bm nv g.root (reachF g) [] h5 :=
      ⟨g05, ⟨_, hkp _ _ o1 (by rintro rfl; rw [om] at o1; cases o1)⟩, ⟨_, om5⟩, ⟨_, _, [], hkp _ _ o2 (by rintro rfl; rw [om] at o2; cases o2), .inl ⟨rfl, rfl, rfl⟩, rfl, fun i c n hc => by simp at hc⟩, hb1, by omega, by have := g4.next; omega⟩
    clear o1 o2 om om5 hkp hR hR4 hR4B g1 g2 g3 g4 g02 g03 g04 hb n4
    have hsub : ∀ (p q : Nat × AObj) (hp : AHeap), True := fun _ _ _ => trivial
    clear hsub
    repeat with_reducible first | refine nxt_normal ?_ | refine st_nil ?_ | refine cd_seq ?_ | refine cd_ops ?_ | (apply st_q; exact q1)
    refine cd_count (N := (reachF g).length) (by omega) (fun j a hp => TInv h b1 b2 bm nv g.root (reachF g) (((reachF g).take j).map fun i => trimN (reachF g) (nodeD g i)) hp ∧ Built hp h.next 3 1 rv (reachF g).length ((reachF g).map (AVal.int .i64)) ∧ a.defers = [] ∧ ev a (.tmp 1) = some (.ptr (some (b1, 0))) ∧ ev a (.tmp 2) = some (.ptr (some (b2, 0))) ∧ ev a (.tmp 4) = some (.map (some bm)) ∧ ev a (.tmp 28) = some rv)
      (by rintro j a hp t w (rfl | rfl | rfl) ⟨h1, h2, h3, h4, h5, h6, h7⟩ <;> exact ⟨h1, h2, by rw [defers_put]; exact h3, by exact e1, by exact e1, by exact e1, by exact e1⟩) (by decide) ?_ ?_ ⟨I0, hR5, by exact n1, by exact e1, by exact e1, by exact e1, by exact e1⟩ (by exact e1) (by exact e1)
    · clear I0 hR5 hd e1' e2' e3' e4'
      rintro j a hp hj ⟨I, hRj, hd, e1', e2', e4', e28⟩ hi hn
      obtain ⟨k0, k1⟩ := hOk _ (List.getElem_mem hj)
      obtain ⟨k, hk⟩ : ∃ k : Nat, (reachF g)[j] = (k : Int) := ⟨_, (Int.toNat_of_nonneg k0).symm⟩
      have hkN : k < g.nodes.length := by rw [hk] at k1; omega
      have hnd : nodeD g (reachF g)[j] = g.nodes[k] := by rw [hk]; simp [nodeD, List.getElem?_eq_getElem hkN]
      have hc : (reachF g)[j]? = some (k : Int) := by rw [List.getElem?_eq_getElem hj, hk]
      have hmem := List.getElem_mem hkN
      have hlab := hg.labs _ hmem
      have harg : g.nodes[k].args.length ≤ 2 ^ 30 := by
        have h1 := leftG_one g.nodes 0 _ hmem
        have h2 := hg.total
        omega
      have e30 : (2 : Nat) ^ 30 = 1073741824 := by decide
      have e31 : (2 : Nat) ^ 31 = 2147483648 := by decide
      obtain ⟨bb, ob, verb, rb, eb, vsb, hix, hget, hvo⟩ := (built_ints hRj).at hc
      obtain ⟨bn, on, vern, ron, en, vsn, av, lv, hixn, hgn, hvl, hv5, _, _, _, _, _, ha, hl⟩ := (hN.mono I.grow).at (List.getElem?_eq_getElem hkN)
      have hpart5 : partA (some 5) vsn on = some (nodeV g.nodes[k] av lv) := by rw [partA, if_pos hvl, hv5]; rfl
      obtain ⟨ver1, o1⟩ := I.o1
      clear hk hnd
      have hnd : nodeD g (reachF g)[j] = g.nodes[k] := by
        have : (reachF g)[j] = (k : Int) := by
          rw [List.getElem?_eq_getElem hj] at hc; exact Option.some.inj hc
        rw [this]; simp [nodeD, List.getElem?_eq_getElem hkN]
      have hnd' := hnd
      clear hnd
      repeat with_reducible first | refine nxt_normal ?_ | refine st_nil ?_ | refine cd_seq ?_ | refine cd_ops ?_ | refine cd_blockS ?_ | (apply st_q; exact q1)
      refine st_alloc I.grow.wf ?_
      rintro b9 h6 hb9 g6 o9
      refine st_store (by exact e1) (by exact e1) (cs := [.int .i64 g.nodes[k].kind, .str g.nodes[k].name, av, lv, .bool g.nodes[k].isOpen]) rfl rfl g6.wf o9 (by simp) (ones_node ha.len hl.len) ?_
      rintro v7 h7 p7 o7
      simp only [List.take_zero, List.nil_append, List.length_cons, List.length_nil, List.drop_succ_cons, List.drop_zero, List.append_nil, Nat.zero_add, Nat.reduceAdd, List.drop_nil, List.cons_append] at o7
      have g7 : Grow hp h7 := p7.grow hp I.grow.wf g6 hb9
      clear o9 p7 g6 hix hget hvo hixn hgn hpart5 hv5 o1
      repeat with_reducible first | refine nxt_normal ?_ | refine st_nil ?_ | refine cd_seq ?_ | refine cd_ops ?_ | (apply st_q; exact q1)
      refine st_call (by exact s1) ((CloneStr_ok H g.nodes[k].labels (by omega) lv h7 g7.wf (hl.mono g7)).mono ?_)
      rintro cs1 h8 ⟨B8, g8⟩
      replace o7 := g8.keep _ _ o7
      have gg8 := g7.trans g8
      repeat with_reducible (apply st_q; exact q1)
      refine st_store (by exact e1) (by exact e1) (cells_of_len B8.len) rfl g8.wf o7 (by simp) (by simp only [List.all_cons, List.all_nil, one_of_len B8.len, Bool.and_true]) ?_
      rintro v9 h9 p9 o9
      simp only [List.take_succ_cons, List.take_zero, List.nil_append, List.length_cons, List.length_nil, List.drop_succ_cons, List.drop_zero, List.append_nil, Nat.zero_add, Nat.reduceAdd, List.drop_nil, List.cons_append] at o9
      have g9 : Grow hp h9 := p9.grow hp I.grow.wf gg8 hb9
      have B9 := built_but B8 p9 o7 (fun vs hh => by cases hh)
      have nx8 := gg8.next
      have nx9 := g9.next
      have nx7 := g7.next
      clear B8 g8 p9 o7 gg8 g7
      repeat with_reducible first | refine nxt_normal ?_ | refine st_nil ?_ | refine cd_seq ?_ | refine cd_ops ?_ | (apply st_q; exact q1)
      refine st_call (by exact s1) ((CloneInt_ok H g.nodes[k].args (by omega) av h9 g9.wf (ha.mono g9)).mono ?_)
      rintro ci1 h10 ⟨B10, g10⟩
      replace o9 := g10.keep _ _ o9
      have gg10 := g9.trans g10
      replace B9 := B9.grow g10
      repeat with_reducible (apply st_q; exact q1)
      refine st_store (by exact e1) (by exact e1) (cells_of_len B10.len) rfl g10.wf o9 (by simp) (by simp only [List.all_cons, List.all_nil, one_of_len B10.len, Bool.and_true]) ?_
      rintro v11 h11 p11 o11
      simp only [List.take_succ_cons, List.take_zero, List.nil_append, List.length_cons, List.length_nil, List.drop_succ_cons, List.drop_zero, List.append_nil, Nat.zero_add, Nat.reduceAdd, List.drop_nil, List.cons_append] at o11
      have g11 : Grow hp h11 := p11.grow hp I.grow.wf gg10 hb9
      have B11 : Built h11 hp.next 9 1 cs1 g.nodes[k].labels.length (g.nodes[k].labels.map AVal.str) := built_base (built_but B9 p11 o9 (fun vs hh => by cases hh)) nx7
      have C11 : Built h11 hp.next 3 1 ci1 g.nodes[k].args.length (g.nodes[k].args.map (AVal.int .i64)) := built_base (built_but B10 p11 o9 (fun vs hh => by cases hh)) nx9
      have hci := C11.len
      clear B9 B10 g10 p11 o9 gg10 g9
      repeat with_reducible first | refine nxt_normal ?_ | refine st_nil ?_ | refine cd_seq ?_ | refine cd_ops ?_ | (apply st_q; exact q1)
      have hlo : Lst (reachF g) g.nodes[k].args 0 = g.nodes[k].args := by simp [Lst]
      have hle : Lst (reachF g) g.nodes[k].args g.nodes[k].args.length = (trimN (reachF g) g.nodes[k]).args := by simp [Lst, trimN]
      refine cd_post (fun a' hq => (∀ c p, h11.objs.get c = some p → (∀ n, ci1 ≠ .slice (some (c, 0)) n) → hq.objs.get c = some p) ∧ Grow hp hq ∧ h11.next ≤ hq.next ∧ Built hq hp.next 3 1 ci1 g.nodes[k].args.length ((Lst (reachF g) g.nodes[k].args g.nodes[k].args.length).map (AVal.int .i64)) ∧
        a'.defers = [] ∧ ev a' (.tmp 1) = some (.ptr (some (b1, 0))) ∧ ev a' (.tmp 2) = some (.ptr (some (b2, 0))) ∧ ev a' (.tmp 4) = some (.map (some bm)) ∧ ev a' (.tmp 28) = some rv ∧ ev a' (.tmp 9) = some (.ptr (some (b9, 0))) ∧ ev a' (.tmp 30) = some (.int .i64 (j : Nat)) ∧ ev a' (.tmp 29) = some (.int .i64 ((reachF g).length : Nat))) ?_ ?_
      · refine cd_count (N := g.nodes[k].args.length) (by omega) (fun i a' hq => (∀ c p, h11.objs.get c = some p → (∀ n, ci1 ≠ .slice (some (c, 0)) n) → hq.objs.get c = some p) ∧ Grow hp hq ∧ h11.next ≤ hq.next ∧ Built hq hp.next 3 1 ci1 g.nodes[k].args.length ((Lst (reachF g) g.nodes[k].args i).map (AVal.int .i64)) ∧
          a'.defers = [] ∧ ev a' (.tmp 1) = some (.ptr (some (b1, 0))) ∧ ev a' (.tmp 2) = some (.ptr (some (b2, 0))) ∧ ev a' (.tmp 4) = some (.map (some bm)) ∧ ev a' (.tmp 28) = some rv ∧ ev a' (.tmp 9) = some (.ptr (some (b9, 0))) ∧ ev a' (.tmp 30) = some (.int .i64 (j : Nat)) ∧ ev a' (.tmp 29) = some (.int .i64 ((reachF g).length : Nat)) ∧ ev a' (.tmp 48) = some ci1)
          (by rintro i a' hq t w (rfl | rfl | rfl) ⟨m1, m2, m3, m4, m5, m6, m7, m8, m9, m10, m11, m12, m13⟩ <;> exact ⟨m1, m2, m3, m4, by rw [defers_put]; exact m5, by exact e1, by exact e1, by exact e1, by exact e1, by exact e1, by exact e1, by exact e1, by exact e1⟩) (by decide) ?_ ?_
          ⟨fun c p hc _ => hc, g11, Nat.le_refl _, by rw [hlo]; exact C11, by exact n1, by exact e1, by exact e1, by exact e1, by exact e1, by exact e1, by exact e1, by exact e1, by exact e1⟩ (by exact e1) (by exact e1)
        · obtain ⟨verm, om⟩ := (I.other g11).om
          clear hd e1' e2' e4' e28 hi hn
          rintro i a' hq hil ⟨hkp, gq, nq, hB, hd, e1', e2', e4', e28, e9, e30', e29, e48⟩ hi hn
          rcases hB with ⟨_, hh, _⟩ | ⟨_, hh, _⟩ | ⟨ba, vsa, vera, hba, hcq, hga, hla, hta⟩
          · omega
          · omega
          rw [Nat.mul_one] at hla hta
          have hixa : slA ci1 1 i = some (ba, i) := by rw [hcq]; simp [slA, hil]
          have hva : vsa[i]? = some (.int .i64 g.nodes[k].args[i]) := by
            have := congrArg (fun l => l[i]?) hta
            simp only [List.getElem?_take, if_pos hil, List.getElem?_map, Lst_get hil, Option.map_some] at this
            exact this
          have o9q := hkp _ _ o11 (built_ne C11 o11 fun vs hh => by cases hh)
          have hlk := look_to (hkp _ _ om (built_ne C11 om fun vs hh => by cases hh)) g.nodes[k].args[i]
          clear hcq
          repeat with_reducible first | refine nxt_normal ?_ | refine st_nil ?_ | refine cd_seq ?_ | refine cd_ops ?_ | refine cd_blockS ?_ | (apply st_q; exact q1)
          refine st_store (by exact e1) (by exact e1) (by exact cc) rfl gq.wf hga (by simp; omega) rfl ?_
          rintro vz hz pz oz
          simp only [List.length_cons, List.length_nil, Nat.zero_add] at oz
          have hcq : ci1 = .slice (some (ba, 0)) g.nodes[k].args.length := by
            rcases slForms hci with h1 | ⟨b, o, h1⟩ | ⟨_, hh⟩ | ⟨_, hh⟩
            · rw [h1] at hixa; cases hixa
            · rw [h1] at hixa
              simp only [slA, if_pos hil, Option.some.injEq, Prod.mk.injEq] at hixa
              obtain ⟨rfl, h2⟩ := hixa
              rw [h1, show o = 0 by omega]
            · omega
            · omega
          repeat with_reducible first | refine nxt_normal ?_ | refine blk_normal ?_ | refine st_nil ?_
          refine ⟨⟨fun c p hc hne => pz.keep c (by rintro rfl; exact hne _ hcq) _ (hkp c p hc hne), pz.grow hp I.grow.wf gq hba, Nat.le_trans nq pz.next, .inr (.inr ⟨ba, _, _, hba, hcq, oz, by simp; omega, ?_⟩), by exact n1, by exact e1, by exact e1, by exact e1, by exact e1, by exact e1, by exact e1, by exact e1, by exact e1⟩, by exact e1, by exact e1⟩
          rw [Nat.mul_one, set_take hil hla, hta, ← Lst_set hil, List.map_set]
        · rintro a' hq ⟨m1, m2, m3, m4, m5, m6, m7, m8, m9, m10, m11, m12, _⟩
          exact ⟨m1, m2, m3, m4, m5, m6, m7, m8, m9, m10, m11, m12⟩
      · clear hd e1' e2' e4' e28 hi hn
        rintro a' hq ⟨hkp, gq, nq, hB, hd, e1', e2', e4', e28, e9, e30', e29⟩
        rw [hle] at hB
        have Iq := I.other gq
        have o9q := hkp _ _ o11 (built_ne C11 o11 fun vs hh => by cases hh)
        have B9q : Built hq hp.next 9 1 cs1 g.nodes[k].labels.length (g.nodes[k].labels.map AVal.str) := built_stay B11 fun c p hc hcp _ => hkp c p hc (built_ne C11 hc fun vs hh => by
          obtain ⟨vs', hcp⟩ := hcp
          rw [hcp] at hh; cases hh)
        obtain ⟨ver2, vo, cs, o2, kB, kl, kn⟩ := Iq.o2
        have nl : (((reachF g).take j).map fun i => trimN (reachF g) (nodeD g i)).length = j := by simp; omega
        rw [nl] at kB kl
        have hrf := reachF_len hg
        repeat with_reducible first | refine nxt_normal ?_ | refine cd_ops ?_ | (apply st_q; exact q1)
        refine st_bslice1 (by exact e1) (cs := [.int .i64 g.nodes[k].kind, .str g.nodes[k].name, ci1, cs1, .bool g.nodes[k].isOpen]) rfl rfl rfl gq.wf ?_
        rintro bx h12 hbx g12 ox
        have kB' := kB.grow g12
        refine st_append1 (by exact e1) (by exact e1) kB' ox rfl (ones_node hci B11.len) (roomOK H (by decide) (by omega)) g12.wf (by have := I.grow.next; have := gq.next; have := g12.next; omega) ?_
        rintro vo' h13 B13 f13 w13 n13 gr13 kp13
        have o2' := kp13 _ _ (g12.keep _ _ o2) (built_ne kB' (g12.keep _ _ o2) fun vs hh => by cases hh)
        have g13 : Grow h h13 := gr13 h hw (Iq.grow.trans g12) (Nat.le_refl _)
        repeat with_reducible (apply st_q; exact q1)
        refine st_store (by exact e1) (by exact e1) (cells_of_len B13.len) rfl w13 o2' (by simp) (by simp only [List.all_cons, List.all_nil, one_of_len B13.len, Bool.and_true]) ?_
        rintro v14 h14 p14 o14
        simp only [List.take_succ_cons, List.take_zero, List.nil_append, List.length_cons, List.length_nil, List.drop_succ_cons, List.drop_zero, List.append_nil, Nat.zero_add, Nat.reduceAdd, List.drop_nil, List.cons_append] at o14
        have hstay : ∀ c p, hq.objs.get c = some p → (∀ vs, p.2 ≠ .cells false 60 vs) → c ≠ b2 → h14.objs.get c = some p := fun c p hc hp hne => p14.keep c hne _ (kp13 _ _ (g12.keep _ _ hc) (built_ne kB' (g12.keep _ _ hc) hp))
        obtain ⟨vr1, k1'⟩ := Iq.o1
        obtain ⟨vrm, km'⟩ := Iq.om
        have n14 := p14.next
        have n12 := g12.next
        have hns : ((reachF g).take (j + 1)).map (fun i => trimN (reachF g) (nodeD g i)) = ((reachF g).take j).map (fun i => trimN (reachF g) (nodeD g i)) ++ [trimN (reachF g) g.nodes[k]] := by
          rw [List.take_succ_eq_append_getElem hj, List.map_append]
          simp only [List.map_cons, List.map_nil, hnd']
        have hown : ∀ {c : List AVal} {n : Node}, OwnN hq h.next c n → OwnN h14 h.next c n := fun kk => OwnN_stay kk fun b p hb hp => hstay b p hb (fun vs hh => by rcases hp with ⟨vs', hp⟩ | ⟨vs', hp⟩ <;> (rw [hp] at hh; cases hh)) (by
          rintro rfl
          rw [o2] at hb
          simp only [Option.some.injEq] at hb
          rcases hp with ⟨vs', hp⟩ | ⟨vs', hp⟩ <;> (rw [← hb] at hp; cases hp))
        have I14 : TInv h b1 b2 bm nv g.root (reachF g) (((reachF g).take (j + 1)).map fun i => trimN (reachF g) (nodeD g i)) h14 := by
          refine ⟨p14.grow h hw g13 (by have := I.low; omega), ⟨_, hstay _ _ k1' (fun vs hh => by cases hh) (by have := I.low; omega)⟩, ⟨_, hstay _ _ km' (fun vs hh => by cases hh) (by rintro rfl; rw [o2] at km'; cases km')⟩, ⟨_, vo', cs ++ [[.int .i64 g.nodes[k].kind, .str g.nodes[k].name, ci1, cs1, .bool g.nodes[k].isOpen]], o14, ?_, ?_, ?_⟩, I.low.1, I.low.2.1, by have := I.low; have := gq.next; omega⟩
          · have : (((reachF g).take (j + 1)).map fun i => trimN (reachF g) (nodeD g i)).length = j + 1 := by simp; omega
            rw [this, List.flatten_append]
            exact built_but (by simpa using B13) p14 o2' (fun vs hh => by cases hh)
          · simp [kl]; omega
          · intro i c n hcc hnn
            rw [hns] at hnn
            rcases Nat.lt_or_ge i j with hij | hij
            · rw [List.getElem?_append_left (by omega)] at hcc
              rw [List.getElem?_append_left (by omega)] at hnn
              exact hown (kn i c n hcc hnn)
            · rw [List.getElem?_append_right (by omega), kl] at hcc
              rw [List.getElem?_append_right (by omega), nl] at hnn
              obtain rfl : i = j := by
                have := (List.getElem?_eq_some_iff.1 hcc).1
                simp only [List.length_cons, List.length_nil] at this
                omega
              rw [Nat.sub_self, List.getElem?_cons_zero, Option.some.injEq] at hcc hnn
              subst hcc; subst hnn
              refine hown ⟨ci1, cs1, rfl, ?_, built_base B9q (by have := I.grow.next; omega)⟩
              have hl2 : (trimN (reachF g) g.nodes[k]).args.length = g.nodes[k].args.length := by simp [trimN]
              rw [hl2]
              exact built_base hB (by have := I.grow.next; omega)
        have hR14 : Built h14 h.next 3 1 rv (reachF g).length ((reachF g).map (AVal.int .i64)) := built_stay (hRj.grow gq) fun c p hc' ⟨vs, hp'⟩ _ => hstay c p hc' (fun vs' hh => by rw [hp'] at hh; cases hh) (by
          rintro rfl
          rw [o2] at hc'
          simp only [Option.some.injEq] at hc'
          rw [← hc'] at hp'; cases hp')
        repeat with_reducible first | refine nxt_normal ?_ | refine blk_normal ?_ | refine st_nil ?_
        exact ⟨⟨I14, hR14, by exact n1, by exact e1, by exact e1, by exact e1, by exact e1⟩, by exact e1, by exact e1⟩
    · rintro a hp ⟨I, _, hd, e1', e2', _, _⟩
      rw [List.take_length] at I
      obtain ⟨ver2, vo, cs, o2, kB, kl, kn⟩ := I.o2
      repeat with_reducible first | refine nxt_normal ?_ | refine cd_seq ?_ | refine cd_ops ?_ | (apply st_q; exact q1)
      have hone := one_of_len kB.len
      refine st_store (by exact e1) (by exact e1) (cs := [vo, .int .i64 0]) rfl rfl I.grow.wf o2 (by simp) (by simp only [List.all_cons, List.all_nil, hone, Bool.true_and, Bool.and_true]; rfl) ?_
      rintro v9 h9 p9 o9
      simp only [List.take_zero, List.nil_append, List.length_cons, List.length_nil, List.drop_succ_cons, List.drop_zero, List.append_nil, Nat.zero_add, Nat.reduceAdd, List.drop_nil, List.cons_append] at o9
      repeat with_reducible first | refine nxt_normal ?_ | refine st_nil ?_ | refine cd_ret ?_
      have hl2 := I.low
      refine fin_ret (v := .agg [vo, .int .i64 0]) (by exact n1) ?_ ⟨?_, p9.grow h hw I.grow (by omega)⟩
      · have hp2 : partA (some 2) [vo, .int .i64 0] 0 = some (.agg [vo, .int .i64 0]) := rfl
        simp only [resultsA, mapO, resultA, tmps_put, tmps_ev, tmps_none, ev_put, ev_none, Nat.reduceEqDiff, if_false, e2', o9, hp2]
      · have hB9 := built_but kB p9 o2 (fun vs hh => by cases hh)
        have hlen0 : (trimF g).nodes.length = ((reachF g).map fun i => trimN (reachF g) (nodeD g i)).length := rfl
        exact ⟨vo, cs, rfl, hB9, by rw [hlen0]; exact kl, fun i c n hc hn => OwnN_stay (kn i c n hc hn) fun b p hb hp => p9.keep b (by
          rintro rfl
          rw [o2] at hb
          simp only [Option.some.injEq] at hb
          rcases hp with ⟨vs', hp⟩ | ⟨vs', hp⟩ <;> (rw [← hb] at hp; cases hp)) _ hb⟩
end
end Go.Ab.S
end
