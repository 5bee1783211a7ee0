import Derived.Test.YtapnoohglfhgeaaGreatDoorP14
/-
  Part 15 of the proof.
-/
set_option linter.all false
section
/-
  Rows and nodes held against each other.
-/
namespace Go.Ab.S
open Go.Ab
set_option maxHeartbeats 8000000
def eqLL : List (List Nat) → List (List Nat) → Bool
  | [], [] => true
  | a :: x, b :: y => eqL a b && eqLL x y
  | _, _ => false
theorem eqLL_drop {x y : List (List Nat)} {i : Nat} (hx : i < x.length) (hy : i < y.length) : eqLL (x.drop i) (y.drop i) = (eqL x[i] y[i] && eqLL (x.drop (i + 1)) (y.drop (i + 1))) := by
  rw [List.drop_eq_getElem_cons hx, List.drop_eq_getElem_cons hy, eqLL]
theorem eqLL_len : ∀ {x y : List (List Nat)}, x.length ≠ y.length → eqLL x y = false
  | [], [], h => absurd rfl h
  | [], _ :: _, _ => rfl
  | _ :: _, [], _ => rfl
  | a :: x, b :: y, h => by
    rw [eqLL, eqLL_len (x := x) (y := y) (by simpa using h), Bool.and_false]
def freeF (n : Node) : Bool := n.kind == 1 || (n.kind == 3 && n.isOpen)
def alikeF (a b : Node) : Bool := (((a.kind == b.kind && eqL a.name b.name) && a.isOpen == b.isOpen) && a.args.length == b.args.length) && eqLL a.labels b.labels
section
variable {fns : FuncId → Option AFunc} {summ : FuncId → List AVal → AHeap → Option (D (AVal × AHeap))}
variable (H : Has fns summ)
include H
theorem EqualStr_ok (x y : List (List Nat)) (hx : x.length < 2 ^ 60) (v u : AVal) (h : AHeap) (hv : StrsAt h v x) (hu : StrsAt h u y) : Cl fns summ 38 [v, u] h fun r h' => r = .bool (eqLL x y) ∧ h' = h := by
  refine H.go (fn := F_EqualStr) rfl (by decide) rfl rfl ?_
  unfold F_EqualStr
  dsimp only
  have hl1 := hv.len
  have hl2 := hu.len
  by_cases hne : x.length = y.length
  · have hz : ((Int.ofNat x.length : Int) != Int.ofNat y.length) = false := by rw [hne]; simp
    have hly : ∀ j, j < x.length → j < y.length := fun j hj => hne ▸ hj
    have hend : eqLL (x.drop x.length) (y.drop x.length) = true := by rw [List.drop_length, hne, List.drop_length]; rfl
    clear hne
    repeat with_reducible first | refine nxt_normal ?_ | refine nxt_ret ?_ | refine nxt_exit ?_ | refine blk_normal ?_ | refine blk_ret ?_ | refine blk_same ?_ | refine blk_other ?_ rfl | refine st_nil ?_ | refine cd_seq ?_ | refine cd_ops ?_ | refine cd_blockS ?_ | refine cd_blockO ?_ | refine cd_skip ?_ | refine cd_exit ?_ | refine cd_ret ?_ | refine dr_nil ?_ | refine cd_draw ?_ | (apply st_pair; exact e1; exact e1) | (apply dr_pair; exact e1; exact e1) | (apply dr_gT; exact e1) | (apply dr_gF; exact e1) | (apply dr_gU; exact e1) | (apply dr_q; exact q1) | (apply dr_ql; exact q1; exact og1) | (apply st_q; exact q1) | (apply st_pA; exact e1; exact e2) | (apply st_pO; exact e1; exact e2) | (apply st_qT; exact e1; exact q1) | (apply st_qF; exact e1) | (apply st_qU; exact e1) | (apply st_eF; exact e1) | (apply st_eU; exact e1) | (apply st_qS; exact e1; exact g1; exact q2) | (apply st_sA; exact e1; exact g1; exact e2; exact e3) | (apply st_sO; exact e1; exact g1; exact e2; exact e3) | (apply cd_condT; exact e1) | (apply cd_condF; exact e1)
    refine cd_count (N := x.length) (by omega) (fun j a hp => hp = h ∧ a.defers = [] ∧ ev a (.tmp 0) = some v ∧ ev a (.tmp 1) = some u ∧ eqLL x y = eqLL (x.drop j) (y.drop j))
      (by rintro j a hp t w (rfl | rfl | rfl) ⟨h1, h2, h3, h4, h5⟩ <;> exact ⟨h1, by rw [defers_put]; exact h2, by exact e1, by exact e1, h5⟩) (by decide) ?_ ?_ ⟨rfl, by exact n1, by exact e1, by exact e1, rfl⟩ (by exact e1) (by exact e1)
    · rintro j a hp hj ⟨rfl, hd, h0, h1, hr⟩ hi hn
      obtain ⟨b, o, ver, ro, e, vs, hix, hget, hvo⟩ := hv.at (List.getElem?_eq_getElem hj)
      have hyj := hly j hj
      obtain ⟨b', o', ver', ro', e', vs', hix', hget', hvo'⟩ := hu.at (List.getElem?_eq_getElem hyj)
      rw [eqLL_drop hj hyj] at hr
      clear hend hly
      cases hc : eqL x[j] y[j]
      · rw [hc, Bool.false_and] at hr
        repeat' with_reducible first | refine nxt_normal ?_ | refine nxt_ret ?_ | refine nxt_exit ?_ | refine blk_normal ?_ | refine blk_ret ?_ | refine blk_same ?_ | refine blk_other ?_ rfl | refine st_nil ?_ | refine cd_seq ?_ | refine cd_ops ?_ | refine cd_blockS ?_ | refine cd_blockO ?_ | refine cd_skip ?_ | refine cd_exit ?_ | refine cd_ret ?_ | refine dr_nil ?_ | refine cd_draw ?_ | (apply st_pair; exact e1; exact e1) | (apply dr_pair; exact e1; exact e1) | (apply dr_gT; exact e1) | (apply dr_gF; exact e1) | (apply dr_gU; exact e1) | (apply dr_q; exact q1) | (apply dr_ql; exact q1; exact og1) | (apply st_q; exact q1) | (apply st_pA; exact e1; exact e2) | (apply st_pO; exact e1; exact e2) | (apply st_qT; exact e1; exact q1) | (apply st_qF; exact e1) | (apply st_qU; exact e1) | (apply st_eF; exact e1) | (apply st_eU; exact e1) | (apply st_qS; exact e1; exact g1; exact q2) | (apply st_sA; exact e1; exact g1; exact e2; exact e3) | (apply st_sO; exact e1; exact g1; exact e2; exact e3) | (apply cd_condT; exact e1) | (apply cd_condF; exact e1) | (apply fin_ret; exact n1; exact r1) | (apply cd_cond; exact e1; all_goals intro _)
        exact ⟨by rw [hr], rfl⟩
      · rw [hc, Bool.true_and] at hr
        repeat with_reducible first | refine nxt_normal ?_ | refine nxt_ret ?_ | refine nxt_exit ?_ | refine blk_normal ?_ | refine blk_ret ?_ | refine blk_same ?_ | refine blk_other ?_ rfl | refine st_nil ?_ | refine cd_seq ?_ | refine cd_ops ?_ | refine cd_blockS ?_ | refine cd_blockO ?_ | refine cd_skip ?_ | refine cd_exit ?_ | refine cd_ret ?_ | refine dr_nil ?_ | refine cd_draw ?_ | (apply st_pair; exact e1; exact e1) | (apply dr_pair; exact e1; exact e1) | (apply dr_gT; exact e1) | (apply dr_gF; exact e1) | (apply dr_gU; exact e1) | (apply dr_q; exact q1) | (apply dr_ql; exact q1; exact og1) | (apply st_q; exact q1) | (apply st_pA; exact e1; exact e2) | (apply st_pO; exact e1; exact e2) | (apply st_qT; exact e1; exact q1) | (apply st_qF; exact e1) | (apply st_qU; exact e1) | (apply st_eF; exact e1) | (apply st_eU; exact e1) | (apply st_qS; exact e1; exact g1; exact q2) | (apply st_sA; exact e1; exact g1; exact e2; exact e3) | (apply st_sO; exact e1; exact g1; exact e2; exact e3) | (apply cd_condT; exact e1) | (apply cd_condF; exact e1)
        exact ⟨⟨rfl, by exact n1, by exact e1, by exact e1, hr⟩, by exact e1, by exact e1⟩
    · rintro a hp ⟨rfl, hd, h0, h1, hr⟩
      have hr' : eqLL x y = true := by rw [hr, hend]
      clear hr hend
      repeat' with_reducible first | refine nxt_normal ?_ | refine nxt_ret ?_ | refine nxt_exit ?_ | refine blk_normal ?_ | refine blk_ret ?_ | refine blk_same ?_ | refine blk_other ?_ rfl | refine st_nil ?_ | refine cd_seq ?_ | refine cd_ops ?_ | refine cd_blockS ?_ | refine cd_blockO ?_ | refine cd_skip ?_ | refine cd_exit ?_ | refine cd_ret ?_ | refine dr_nil ?_ | refine cd_draw ?_ | (apply st_pair; exact e1; exact e1) | (apply dr_pair; exact e1; exact e1) | (apply dr_gT; exact e1) | (apply dr_gF; exact e1) | (apply dr_gU; exact e1) | (apply dr_q; exact q1) | (apply dr_ql; exact q1; exact og1) | (apply st_q; exact q1) | (apply st_pA; exact e1; exact e2) | (apply st_pO; exact e1; exact e2) | (apply st_qT; exact e1; exact q1) | (apply st_qF; exact e1) | (apply st_qU; exact e1) | (apply st_eF; exact e1) | (apply st_eU; exact e1) | (apply st_qS; exact e1; exact g1; exact q2) | (apply st_sA; exact e1; exact g1; exact e2; exact e3) | (apply st_sO; exact e1; exact g1; exact e2; exact e3) | (apply cd_condT; exact e1) | (apply cd_condF; exact e1) | (apply fin_ret; exact n1; exact r1) | (apply cd_cond; exact e1; all_goals intro _)
      exact ⟨by rw [hr'], rfl⟩
  · have hz : ((Int.ofNat x.length : Int) != Int.ofNat y.length) = true := by simp; omega
    have hr := eqLL_len hne
    repeat' with_reducible first | refine nxt_normal ?_ | refine nxt_ret ?_ | refine nxt_exit ?_ | refine blk_normal ?_ | refine blk_ret ?_ | refine blk_same ?_ | refine blk_other ?_ rfl | refine st_nil ?_ | refine cd_seq ?_ | refine cd_ops ?_ | refine cd_blockS ?_ | refine cd_blockO ?_ | refine cd_skip ?_ | refine cd_exit ?_ | refine cd_ret ?_ | refine dr_nil ?_ | refine cd_draw ?_ | (apply st_pair; exact e1; exact e1) | (apply dr_pair; exact e1; exact e1) | (apply dr_gT; exact e1) | (apply dr_gF; exact e1) | (apply dr_gU; exact e1) | (apply dr_q; exact q1) | (apply dr_ql; exact q1; exact og1) | (apply st_q; exact q1) | (apply st_pA; exact e1; exact e2) | (apply st_pO; exact e1; exact e2) | (apply st_qT; exact e1; exact q1) | (apply st_qF; exact e1) | (apply st_qU; exact e1) | (apply st_eF; exact e1) | (apply st_eU; exact e1) | (apply st_qS; exact e1; exact g1; exact q2) | (apply st_sA; exact e1; exact g1; exact e2; exact e3) | (apply st_sO; exact e1; exact g1; exact e2; exact e3) | (apply cd_condT; exact e1) | (apply cd_condF; exact e1) | (apply fin_ret; exact n1; exact r1) | (apply cd_cond; exact e1; all_goals intro _)
    exact ⟨by rw [hr], rfl⟩

theorem gfree_ok (n : Node) (av lv : AVal) (h : AHeap) (hw : WF h) : Cl fns summ 33 [nodeV n av lv] h fun r h' => r = .bool (freeF n) ∧ Grow h h' := by
  unfold nodeV
  refine H.go (fn := F_gfree) rfl (by decide) rfl rfl ?_
  unfold F_gfree
  dsimp only
  refine cd_seq (cd_ops ?_)
  refine st_box (by exact e1) (by exact cc) hw ?_
  rintro b1 h1 hb1 gr1 o1
  repeat' with_reducible first | refine nxt_normal ?_ | refine nxt_ret ?_ | refine nxt_exit ?_ | refine blk_normal ?_ | refine blk_ret ?_ | refine blk_same ?_ | refine blk_other ?_ rfl | refine st_nil ?_ | refine cd_seq ?_ | refine cd_ops ?_ | refine cd_blockS ?_ | refine cd_blockO ?_ | refine cd_skip ?_ | refine cd_exit ?_ | refine cd_ret ?_ | refine dr_nil ?_ | refine cd_draw ?_ | (apply st_pair; exact e1; exact e1) | (apply dr_pair; exact e1; exact e1) | (apply dr_gT; exact e1) | (apply dr_gF; exact e1) | (apply dr_gU; exact e1) | (apply dr_q; exact q1) | (apply dr_ql; exact q1; exact og1) | (apply st_q; exact q1) | (apply st_pA; exact e1; exact e2) | (apply st_pO; exact e1; exact e2) | (apply st_qT; exact e1; exact q1) | (apply st_qF; exact e1) | (apply st_qU; exact e1) | (apply st_eF; exact e1) | (apply st_eU; exact e1) | (apply st_qS; exact e1; exact g1; exact q2) | (apply st_sA; exact e1; exact g1; exact e2; exact e3) | (apply st_sO; exact e1; exact g1; exact e2; exact e3) | (apply cd_condT; exact e1) | (apply cd_condF; exact e1) | (apply fin_ret; exact n1; exact r1) | (apply cd_cond; exact e1; all_goals intro _)
  exact ⟨rfl, gr1⟩
theorem cfree_ok (n : Node) (av lv : AVal) (h : AHeap) (hw : WF h) : Cl fns summ 120 [nodeV n av lv] h fun r h' => r = .bool (n.kind == 1 || n.isOpen) ∧ Grow h h' := by
  unfold nodeV
  refine H.go (fn := F_cfree) rfl (by decide) rfl rfl ?_
  unfold F_cfree
  dsimp only
  refine cd_seq (cd_ops ?_)
  refine st_box (by exact e1) (by exact cc) hw ?_
  rintro b1 h1 hb1 gr1 o1
  repeat' with_reducible first | refine nxt_normal ?_ | refine nxt_ret ?_ | refine nxt_exit ?_ | refine blk_normal ?_ | refine blk_ret ?_ | refine blk_same ?_ | refine blk_other ?_ rfl | refine st_nil ?_ | refine cd_seq ?_ | refine cd_ops ?_ | refine cd_blockS ?_ | refine cd_blockO ?_ | refine cd_skip ?_ | refine cd_exit ?_ | refine cd_ret ?_ | refine dr_nil ?_ | refine cd_draw ?_ | (apply st_pair; exact e1; exact e1) | (apply dr_pair; exact e1; exact e1) | (apply dr_gT; exact e1) | (apply dr_gF; exact e1) | (apply dr_gU; exact e1) | (apply dr_q; exact q1) | (apply dr_ql; exact q1; exact og1) | (apply st_q; exact q1) | (apply st_pA; exact e1; exact e2) | (apply st_pO; exact e1; exact e2) | (apply st_qT; exact e1; exact q1) | (apply st_qF; exact e1) | (apply st_qU; exact e1) | (apply st_eF; exact e1) | (apply st_eU; exact e1) | (apply st_qS; exact e1; exact g1; exact q2) | (apply st_sA; exact e1; exact g1; exact e2; exact e3) | (apply st_sO; exact e1; exact g1; exact e2; exact e3) | (apply cd_condT; exact e1) | (apply cd_condF; exact e1) | (apply fin_ret; exact n1; exact r1) | (apply cd_cond; exact e1; all_goals intro _)
  exact ⟨rfl, gr1⟩
theorem alike_ok (x y : Node) (hx : NodeSm x) (av lv bv mv : AVal) (h : AHeap) (hw : WF h) (ha : IntsAt h av x.args) (hl : StrsAt h lv x.labels) (hb : IntsAt h bv y.args) (hm : StrsAt h mv y.labels) : Cl fns summ 32 [nodeV x av lv, nodeV y bv mv] h fun r h' => r = .bool (alikeF x y) ∧ Grow h h' := by
  unfold nodeV
  have e1' := ha.len
  have e2' := hb.len
  have hz : ((Int.ofNat x.args.length : Int) == Int.ofNat y.args.length) = (x.args.length == y.args.length) := by rw [Bool.eq_iff_iff]; simp; omega
  refine H.go (fn := F_alike) rfl (by decide) rfl rfl ?_
  unfold F_alike
  dsimp only
  refine cd_seq (cd_ops ?_)
  refine st_box (by exact e1) (by exact cc) hw ?_
  rintro b1 h1 hb1 gr1 o1
  refine st_box (by exact e1) (by exact cc) gr1.wf ?_
  rintro b2 h2 hb2 gr2 o2
  replace o1 := gr2.keep _ _ o1
  have gr := gr1.trans gr2
  cases hc : (((x.kind == y.kind && eqL x.name y.name) && x.isOpen == y.isOpen) && x.args.length == y.args.length)
  · have hr : alikeF x y = false := by rw [alikeF, hc, Bool.false_and]
    repeat' with_reducible first | refine nxt_normal ?_ | refine nxt_ret ?_ | refine nxt_exit ?_ | refine blk_normal ?_ | refine blk_ret ?_ | refine blk_same ?_ | refine blk_other ?_ rfl | refine st_nil ?_ | refine cd_seq ?_ | refine cd_ops ?_ | refine cd_blockS ?_ | refine cd_blockO ?_ | refine cd_skip ?_ | refine cd_exit ?_ | refine cd_ret ?_ | refine dr_nil ?_ | refine cd_draw ?_ | (apply st_pair; exact e1; exact e1) | (apply dr_pair; exact e1; exact e1) | (apply dr_gT; exact e1) | (apply dr_gF; exact e1) | (apply dr_gU; exact e1) | (apply dr_q; exact q1) | (apply dr_ql; exact q1; exact og1) | (apply st_q; exact q1) | (apply st_pA; exact e1; exact e2) | (apply st_pO; exact e1; exact e2) | (apply st_qT; exact e1; exact q1) | (apply st_qF; exact e1) | (apply st_qU; exact e1) | (apply st_eF; exact e1) | (apply st_eU; exact e1) | (apply st_qS; exact e1; exact g1; exact q2) | (apply st_sA; exact e1; exact g1; exact e2; exact e3) | (apply st_sO; exact e1; exact g1; exact e2; exact e3) | (apply cd_condT; exact e1) | (apply cd_condF; exact e1) | (apply fin_ret; exact n1; exact r1) | (apply cd_cond; exact e1; all_goals intro _)
    exact ⟨by rw [hr], gr⟩
  · have hr : alikeF x y = eqLL x.labels y.labels := by rw [alikeF, hc, Bool.true_and]
    repeat with_reducible first | refine nxt_normal ?_ | refine nxt_ret ?_ | refine nxt_exit ?_ | refine blk_normal ?_ | refine blk_ret ?_ | refine blk_same ?_ | refine blk_other ?_ rfl | refine st_nil ?_ | refine cd_seq ?_ | refine cd_ops ?_ | refine cd_blockS ?_ | refine cd_blockO ?_ | refine cd_skip ?_ | refine cd_exit ?_ | refine cd_ret ?_ | refine dr_nil ?_ | refine cd_draw ?_ | (apply st_pair; exact e1; exact e1) | (apply dr_pair; exact e1; exact e1) | (apply dr_gT; exact e1) | (apply dr_gF; exact e1) | (apply dr_gU; exact e1) | (apply dr_q; exact q1) | (apply dr_ql; exact q1; exact og1) | (apply st_q; exact q1) | (apply st_pA; exact e1; exact e2) | (apply st_pO; exact e1; exact e2) | (apply st_qT; exact e1; exact q1) | (apply st_qF; exact e1) | (apply st_qU; exact e1) | (apply st_eF; exact e1) | (apply st_eU; exact e1) | (apply st_qS; exact e1; exact g1; exact q2) | (apply st_sA; exact e1; exact g1; exact e2; exact e3) | (apply st_sO; exact e1; exact g1; exact e2; exact e3) | (apply cd_condT; exact e1) | (apply cd_condF; exact e1)
    refine st_callT (by exact e1) (by exact s1) ((EqualStr_ok H x.labels y.labels hx.labels lv mv h2 (hl.mono gr) (hm.mono gr)).mono ?_)
    rintro _ _ ⟨rfl, rfl⟩
    repeat' with_reducible first | refine nxt_normal ?_ | refine nxt_ret ?_ | refine nxt_exit ?_ | refine blk_normal ?_ | refine blk_ret ?_ | refine blk_same ?_ | refine blk_other ?_ rfl | refine st_nil ?_ | refine cd_seq ?_ | refine cd_ops ?_ | refine cd_blockS ?_ | refine cd_blockO ?_ | refine cd_skip ?_ | refine cd_exit ?_ | refine cd_ret ?_ | refine dr_nil ?_ | refine cd_draw ?_ | (apply st_pair; exact e1; exact e1) | (apply dr_pair; exact e1; exact e1) | (apply dr_gT; exact e1) | (apply dr_gF; exact e1) | (apply dr_gU; exact e1) | (apply dr_q; exact q1) | (apply dr_ql; exact q1; exact og1) | (apply st_q; exact q1) | (apply st_pA; exact e1; exact e2) | (apply st_pO; exact e1; exact e2) | (apply st_qT; exact e1; exact q1) | (apply st_qF; exact e1) | (apply st_qU; exact e1) | (apply st_eF; exact e1) | (apply st_eU; exact e1) | (apply st_qS; exact e1; exact g1; exact q2) | (apply st_sA; exact e1; exact g1; exact e2; exact e3) | (apply st_sO; exact e1; exact g1; exact e2; exact e3) | (apply cd_condT; exact e1) | (apply cd_condF; exact e1) | (apply fin_ret; exact n1; exact r1) | (apply cd_cond; exact e1; all_goals intro _)
    exact ⟨by rw [hr], gr⟩
end
end Go.Ab.S
end
section
/-
  Rows and nodes held against each other, again.
-/
namespace Go.Ab.S
open Go.Ab
set_option maxHeartbeats 8000000
def eqII : List Int → List Int → Bool
  | [], [] => true
  | a :: x, b :: y => (a == b) && eqII x y
  | _, _ => false
theorem eqII_drop {x y : List Int} {i : Nat} (hx : i < x.length) (hy : i < y.length) : eqII (x.drop i) (y.drop i) = ((x[i] == y[i]) && eqII (x.drop (i + 1)) (y.drop (i + 1))) := by
  rw [List.drop_eq_getElem_cons hx, List.drop_eq_getElem_cons hy, eqII]
theorem eqII_len : ∀ {x y : List Int}, x.length ≠ y.length → eqII x y = false
  | [], [], h => absurd rfl h
  | [], _ :: _, _ => rfl
  | _ :: _, [], _ => rfl
  | a :: x, b :: y, h => by
    rw [eqII, eqII_len (x := x) (y := y) (by simpa using h), Bool.and_false]
section
variable {fns : FuncId → Option AFunc} {summ : FuncId → List AVal → AHeap → Option (D (AVal × AHeap))}
variable (H : Has fns summ)
include H
theorem Labels_ok (x y : List (List Nat)) (hx : x.length < 2 ^ 60) (v u : AVal) (h : AHeap) (hv : StrsAt h v x) (hu : StrsAt h u y) : Cl fns summ 16 [v, u] h fun r h' => r = .bool (eqLL x y) ∧ h' = h := by
  refine H.go (fn := F_Labels) rfl (by decide) rfl rfl ?_
  unfold F_Labels
  dsimp only
  have hl1 := hv.len
  have hl2 := hu.len
  by_cases hne : x.length = y.length
  · have hz : ((Int.ofNat x.length : Int) != Int.ofNat y.length) = false := by rw [hne]; simp
    have hly : ∀ j, j < x.length → j < y.length := fun j hj => hne ▸ hj
    have hend : eqLL (x.drop x.length) (y.drop x.length) = true := by rw [List.drop_length, hne, List.drop_length]; rfl
    clear hne
    repeat with_reducible first | refine nxt_normal ?_ | refine st_nil ?_ | refine cd_seq ?_ | refine cd_ops ?_ | refine cd_skip ?_ | (apply st_q; exact q1) | (apply cd_condF; exact e1)
    refine cd_count (N := x.length) (by omega) (fun j a hp => hp = h ∧ a.defers = [] ∧ ev a (.tmp 0) = some v ∧ ev a (.tmp 1) = some u ∧ eqLL x y = eqLL (x.drop j) (y.drop j))
      (by rintro j a hp t w (rfl | rfl | rfl) ⟨h1, h2, h3, h4, h5⟩ <;> exact ⟨h1, by rw [defers_put]; exact h2, by exact e1, by exact e1, h5⟩) (by decide) ?_ ?_ ⟨rfl, by exact n1, by exact e1, by exact e1, rfl⟩ (by exact e1) (by exact e1)
    · rintro j a hp hj ⟨rfl, hd, h0, h1, hr⟩ hi hn
      obtain ⟨b, o, ver, ro, e, vs, hix, hget, hvo⟩ := hv.at (List.getElem?_eq_getElem hj)
      have hyj := hly j hj
      obtain ⟨b', o', ver', ro', e', vs', hix', hget', hvo'⟩ := hu.at (List.getElem?_eq_getElem hyj)
      rw [eqLL_drop hj hyj] at hr
      clear hend hly
      cases hc : eqL x[j] y[j]
      · rw [hc, Bool.false_and] at hr
        repeat' with_reducible first | refine nxt_normal ?_ | refine nxt_ret ?_ | refine blk_ret ?_ | refine st_nil ?_ | refine cd_seq ?_ | refine cd_ops ?_ | refine cd_blockS ?_ | refine cd_ret ?_ | refine dr_nil ?_ | refine cd_draw ?_ | (apply dr_q; exact q1) | (apply dr_ql; exact q1; exact og1) | (apply st_q; exact q1) | (apply cd_condT; exact e1) | (apply fin_ret; exact n1; exact r1)
        exact ⟨by rw [hr], rfl⟩
      · rw [hc, Bool.true_and] at hr
        repeat with_reducible first | refine nxt_normal ?_ | refine blk_normal ?_ | refine st_nil ?_ | refine cd_seq ?_ | refine cd_ops ?_ | refine cd_blockS ?_ | refine cd_skip ?_ | refine dr_nil ?_ | refine cd_draw ?_ | (apply dr_q; exact q1) | (apply dr_ql; exact q1; exact og1) | (apply st_q; exact q1) | (apply cd_condF; exact e1)
        exact ⟨⟨rfl, by exact n1, by exact e1, by exact e1, hr⟩, by exact e1, by exact e1⟩
    · rintro a hp ⟨rfl, hd, h0, h1, hr⟩
      have hr' : eqLL x y = true := by rw [hr, hend]
      clear hr hend
      repeat' with_reducible first | refine nxt_normal ?_ | refine st_nil ?_ | refine cd_seq ?_ | refine cd_ops ?_ | refine cd_ret ?_ | (apply st_q; exact q1) | (apply fin_ret; exact n1; exact r1)
      exact ⟨by rw [hr'], rfl⟩
  · have hz : ((Int.ofNat x.length : Int) != Int.ofNat y.length) = true := by simp; omega
    have hr := eqLL_len hne
    repeat' with_reducible first | refine nxt_normal ?_ | refine nxt_ret ?_ | refine st_nil ?_ | refine cd_seq ?_ | refine cd_ops ?_ | refine cd_ret ?_ | (apply st_q; exact q1) | (apply cd_condT; exact e1) | (apply fin_ret; exact n1; exact r1)
    exact ⟨by rw [hr], rfl⟩

theorem Alike_ok (x y : Node) (hx : NodeSm x) (av lv bv mv : AVal) (h : AHeap) (hw : WF h) (ha : IntsAt h av x.args) (hl : StrsAt h lv x.labels) (hb : IntsAt h bv y.args) (hm : StrsAt h mv y.labels) : Cl fns summ 48 [nodeV x av lv, nodeV y bv mv] h fun r h' => r = .bool (alikeF x y) ∧ Grow h h' := by
  unfold nodeV
  have e1' := ha.len
  have e2' := hb.len
  have hz : ((Int.ofNat x.args.length : Int) == Int.ofNat y.args.length) = (x.args.length == y.args.length) := by rw [Bool.eq_iff_iff]; simp; omega
  refine H.go (fn := F_Alike) rfl (by decide) rfl rfl ?_
  unfold F_Alike
  dsimp only
  refine cd_seq (cd_ops ?_)
  refine st_box (by exact e1) (by exact cc) hw ?_
  rintro b1 h1 hb1 gr1 o1
  refine st_box (by exact e1) (by exact cc) gr1.wf ?_
  rintro b2 h2 hb2 gr2 o2
  replace o1 := gr2.keep _ _ o1
  have gr := gr1.trans gr2
  cases hc : (((x.kind == y.kind && eqL x.name y.name) && x.isOpen == y.isOpen) && x.args.length == y.args.length)
  · have hr : alikeF x y = false := by rw [alikeF, hc, Bool.false_and]
    repeat' with_reducible first | refine nxt_normal ?_ | refine st_nil ?_ | refine cd_seq ?_ | refine cd_ops ?_ | refine cd_ret ?_ | (apply st_q; exact q1) | (apply st_pA; exact e1; exact e2) | (apply st_qF; exact e1) | (apply st_eF; exact e1) | (apply st_qS; exact e1; exact g1; exact q2) | (apply fin_ret; exact n1; exact r1)
    exact ⟨by rw [hr], gr⟩
  · have hr : alikeF x y = eqLL x.labels y.labels := by rw [alikeF, hc, Bool.true_and]
    repeat with_reducible first | refine nxt_normal ?_ | refine st_nil ?_ | refine cd_seq ?_ | refine cd_ops ?_ | (apply st_q; exact q1) | (apply st_pA; exact e1; exact e2) | (apply st_qT; exact e1; exact q1) | (apply st_qS; exact e1; exact g1; exact q2)
    refine st_callT (by exact e1) (by exact s1) ((Labels_ok H x.labels y.labels hx.labels lv mv h2 (hl.mono gr) (hm.mono gr)).mono ?_)
    rintro _ _ ⟨rfl, rfl⟩
    repeat' with_reducible first | refine nxt_normal ?_ | refine st_nil ?_ | refine cd_ret ?_ | (apply st_q; exact q1) | (apply fin_ret; exact n1; exact r1)
    exact ⟨by rw [hr], gr⟩
theorem EqualInt_ok (x y : List Int) (hx : x.length < 2 ^ 60) (v u : AVal) (h : AHeap) (hv : IntsAt h v x) (hu : IntsAt h u y) : Cl fns summ 78 [v, u] h fun r h' => r = .bool (eqII x y) ∧ h' = h := by
  refine H.go (fn := F_EqualInt) rfl (by decide) rfl rfl ?_
  unfold F_EqualInt
  dsimp only
  have hl1 := hv.len
  have hl2 := hu.len
  by_cases hne : x.length = y.length
  · have hz : ((Int.ofNat x.length : Int) != Int.ofNat y.length) = false := by rw [hne]; simp
    have hly : ∀ j, j < x.length → j < y.length := fun j hj => hne ▸ hj
    have hend : eqII (x.drop x.length) (y.drop x.length) = true := by rw [List.drop_length, hne, List.drop_length]; rfl
    clear hne
    repeat with_reducible first | refine nxt_normal ?_ | refine st_nil ?_ | refine cd_seq ?_ | refine cd_ops ?_ | refine cd_skip ?_ | (apply st_q; exact q1) | (apply cd_condF; exact e1)
    refine cd_count (N := x.length) (by omega) (fun j a hp => hp = h ∧ a.defers = [] ∧ ev a (.tmp 0) = some v ∧ ev a (.tmp 1) = some u ∧ eqII x y = eqII (x.drop j) (y.drop j))
      (by rintro j a hp t w (rfl | rfl | rfl) ⟨h1, h2, h3, h4, h5⟩ <;> exact ⟨h1, by rw [defers_put]; exact h2, by exact e1, by exact e1, h5⟩) (by decide) ?_ ?_ ⟨rfl, by exact n1, by exact e1, by exact e1, rfl⟩ (by exact e1) (by exact e1)
    · rintro j a hp hj ⟨rfl, hd, h0, h1, hr⟩ hi hn
      obtain ⟨b, o, ver, ro, e, vs, hix, hget, hvo⟩ := hv.at (List.getElem?_eq_getElem hj)
      have hyj := hly j hj
      obtain ⟨b', o', ver', ro', e', vs', hix', hget', hvo'⟩ := hu.at (List.getElem?_eq_getElem hyj)
      rw [eqII_drop hj hyj] at hr
      clear hend hly
      cases hc : (x[j] == y[j])
      · rw [hc, Bool.false_and] at hr
        have hcb : (x[j] != y[j]) = true := by simp only [bne, hc, Bool.not_false]
        repeat' with_reducible first | refine nxt_normal ?_ | refine nxt_ret ?_ | refine blk_ret ?_ | refine st_nil ?_ | refine cd_seq ?_ | refine cd_ops ?_ | refine cd_blockS ?_ | refine cd_ret ?_ | refine dr_nil ?_ | refine cd_draw ?_ | (apply dr_q; exact q1) | (apply dr_ql; exact q1; exact og1) | (apply st_q; exact q1) | (apply cd_condT; exact e1) | (apply fin_ret; exact n1; exact r1)
        exact ⟨by rw [hr], rfl⟩
      · rw [hc, Bool.true_and] at hr
        have hcb : (x[j] != y[j]) = false := by simp only [bne, hc, Bool.not_true]
        repeat with_reducible first | refine nxt_normal ?_ | refine blk_normal ?_ | refine st_nil ?_ | refine cd_seq ?_ | refine cd_ops ?_ | refine cd_blockS ?_ | refine cd_skip ?_ | refine dr_nil ?_ | refine cd_draw ?_ | (apply dr_q; exact q1) | (apply dr_ql; exact q1; exact og1) | (apply st_q; exact q1) | (apply cd_condF; exact e1)
        exact ⟨⟨rfl, by exact n1, by exact e1, by exact e1, hr⟩, by exact e1, by exact e1⟩
    · rintro a hp ⟨rfl, hd, h0, h1, hr⟩
      have hr' : eqII x y = true := by rw [hr, hend]
      clear hr hend
      repeat' with_reducible first | refine nxt_normal ?_ | refine st_nil ?_ | refine cd_seq ?_ | refine cd_ops ?_ | refine cd_ret ?_ | (apply st_q; exact q1) | (apply fin_ret; exact n1; exact r1)
      exact ⟨by rw [hr'], rfl⟩
  · have hz : ((Int.ofNat x.length : Int) != Int.ofNat y.length) = true := by simp; omega
    have hr := eqII_len hne
    repeat' with_reducible first | refine nxt_normal ?_ | refine nxt_ret ?_ | refine st_nil ?_ | refine cd_seq ?_ | refine cd_ops ?_ | refine cd_ret ?_ | (apply st_q; exact q1) | (apply cd_condT; exact e1) | (apply fin_ret; exact n1; exact r1)
    exact ⟨by rw [hr], rfl⟩

theorem Ints_ok (x y : List Int) (hx : x.length < 2 ^ 60) (v u : AVal) (h : AHeap) (hv : IntsAt h v x) (hu : IntsAt h u y) : Cl fns summ 49 [v, u] h fun r h' => r = .bool (eqII x y) ∧ h' = h := by
  refine H.go (fn := F_Ints) rfl (by decide) rfl rfl ?_
  unfold F_Ints
  dsimp only
  have hl1 := hv.len
  have hl2 := hu.len
  by_cases hne : x.length = y.length
  · have hz : ((Int.ofNat x.length : Int) != Int.ofNat y.length) = false := by rw [hne]; simp
    have hly : ∀ j, j < x.length → j < y.length := fun j hj => hne ▸ hj
    have hend : eqII (x.drop x.length) (y.drop x.length) = true := by rw [List.drop_length, hne, List.drop_length]; rfl
    clear hne
    repeat with_reducible first | refine nxt_normal ?_ | refine st_nil ?_ | refine cd_seq ?_ | refine cd_ops ?_ | refine cd_skip ?_ | (apply st_q; exact q1) | (apply cd_condF; exact e1)
    refine cd_count (N := x.length) (by omega) (fun j a hp => hp = h ∧ a.defers = [] ∧ ev a (.tmp 0) = some v ∧ ev a (.tmp 1) = some u ∧ eqII x y = eqII (x.drop j) (y.drop j))
      (by rintro j a hp t w (rfl | rfl | rfl) ⟨h1, h2, h3, h4, h5⟩ <;> exact ⟨h1, by rw [defers_put]; exact h2, by exact e1, by exact e1, h5⟩) (by decide) ?_ ?_ ⟨rfl, by exact n1, by exact e1, by exact e1, rfl⟩ (by exact e1) (by exact e1)
    · rintro j a hp hj ⟨rfl, hd, h0, h1, hr⟩ hi hn
      obtain ⟨b, o, ver, ro, e, vs, hix, hget, hvo⟩ := hv.at (List.getElem?_eq_getElem hj)
      have hyj := hly j hj
      obtain ⟨b', o', ver', ro', e', vs', hix', hget', hvo'⟩ := hu.at (List.getElem?_eq_getElem hyj)
      rw [eqII_drop hj hyj] at hr
      clear hend hly
      cases hc : (x[j] == y[j])
      · rw [hc, Bool.false_and] at hr
        have hcb : (x[j] != y[j]) = true := by simp only [bne, hc, Bool.not_false]
        repeat' with_reducible first | refine nxt_normal ?_ | refine nxt_ret ?_ | refine blk_ret ?_ | refine st_nil ?_ | refine cd_seq ?_ | refine cd_ops ?_ | refine cd_blockS ?_ | refine cd_ret ?_ | refine dr_nil ?_ | refine cd_draw ?_ | (apply dr_q; exact q1) | (apply dr_ql; exact q1; exact og1) | (apply st_q; exact q1) | (apply cd_condT; exact e1) | (apply fin_ret; exact n1; exact r1)
        exact ⟨by rw [hr], rfl⟩
      · rw [hc, Bool.true_and] at hr
        have hcb : (x[j] != y[j]) = false := by simp only [bne, hc, Bool.not_true]
        repeat with_reducible first | refine nxt_normal ?_ | refine blk_normal ?_ | refine st_nil ?_ | refine cd_seq ?_ | refine cd_ops ?_ | refine cd_blockS ?_ | refine cd_skip ?_ | refine dr_nil ?_ | refine cd_draw ?_ | (apply dr_q; exact q1) | (apply dr_ql; exact q1; exact og1) | (apply st_q; exact q1) | (apply cd_condF; exact e1)
        exact ⟨⟨rfl, by exact n1, by exact e1, by exact e1, hr⟩, by exact e1, by exact e1⟩
    · rintro a hp ⟨rfl, hd, h0, h1, hr⟩
      have hr' : eqII x y = true := by rw [hr, hend]
      clear hr hend
      repeat' with_reducible first | refine nxt_normal ?_ | refine st_nil ?_ | refine cd_seq ?_ | refine cd_ops ?_ | refine cd_ret ?_ | (apply st_q; exact q1) | (apply fin_ret; exact n1; exact r1)
      exact ⟨by rw [hr'], rfl⟩
  · have hz : ((Int.ofNat x.length : Int) != Int.ofNat y.length) = true := by simp; omega
    have hr := eqII_len hne
    repeat' with_reducible first | refine nxt_normal ?_ | refine nxt_ret ?_ | refine st_nil ?_ | refine cd_seq ?_ | refine cd_ops ?_ | refine cd_ret ?_ | (apply st_q; exact q1) | (apply cd_condT; exact e1) | (apply fin_ret; exact n1; exact r1)
    exact ⟨by rw [hr], rfl⟩

end
end Go.Ab.S
end
section
/-
  Builders of texts; classes by number.
-/
namespace Go.Ab.S
open Go.Ab
set_option maxHeartbeats 8000000
section
variable {fns : FuncId → Option AFunc} {summ : FuncId → List AVal → AHeap → Option (D (AVal × AHeap))}
variable (H : Has fns summ)
include H
theorem refine1_ok (cl : List Int) (i : Nat) (x : Int) (hi : cl[i]? = some x) (cv : AVal) (b ver : Nat) (rb : Bool) (eb : TypeId) (h : AHeap) (hb : h.objs.get b = some (ver, .cells rb eb [cv])) (hc : IntsAt h cv cl) : Cl fns summ 122 [.int .i64 (i : Nat), .ptr (some (b, 0))] h fun r h' => r = .int .i64 x ∧ h' = h := by
  obtain ⟨b', o', ver', ro', e', vs', hix, hget, hvo⟩ := hc.at hi
  refine H.go (fn := F_refine1) rfl (by decide) rfl rfl ?_
  unfold F_refine1
  dsimp only
  repeat' with_reducible first | refine nxt_normal ?_ | refine nxt_ret ?_ | refine nxt_exit ?_ | refine blk_normal ?_ | refine blk_ret ?_ | refine blk_same ?_ | refine blk_other ?_ rfl | refine st_nil ?_ | refine cd_seq ?_ | refine cd_ops ?_ | refine cd_blockS ?_ | refine cd_blockO ?_ | refine cd_skip ?_ | refine cd_exit ?_ | refine cd_ret ?_ | refine dr_nil ?_ | refine cd_draw ?_ | (apply st_pair; exact e1; exact e1) | (apply dr_pair; exact e1; exact e1) | (apply dr_gT; exact e1) | (apply dr_gF; exact e1) | (apply dr_gU; exact e1) | (apply dr_q; exact q1) | (apply dr_ql; exact q1; exact og1) | (apply st_q; exact q1) | (apply st_pA; exact e1; exact e2) | (apply st_pO; exact e1; exact e2) | (apply st_qT; exact e1; exact q1) | (apply st_qF; exact e1) | (apply st_qU; exact e1) | (apply st_eF; exact e1) | (apply st_eU; exact e1) | (apply st_qS; exact e1; exact g1; exact q2) | (apply st_sA; exact e1; exact g1; exact e2; exact e3) | (apply st_sO; exact e1; exact g1; exact e2; exact e3) | (apply cd_condT; exact e1) | (apply cd_condF; exact e1) | (apply fin_ret; exact n1; exact r1) | (apply cd_cond; exact e1; all_goals intro _)
  exact ⟨rfl, rfl⟩
omit H
def byteC (l : List Nat) : List AVal := l.map fun x => AVal.int .u8 (x : Nat)
/-- A builder of texts. -/
def BAt (h : AHeap) (base b : Nat) (l : List Nat) : Prop := base ≤ b ∧ ∃ ver p v, h.objs.get b = some (ver, .cells false 252 [p, v]) ∧ (p = .ptr none ∨ p = .ptr (some (b, 0))) ∧ Built h base 5 1 v l.length (byteC l)
include H
theorem WriteString_ok (s l : List Nat) (hs0 : s ≠ []) (hl : l.length + s.length ≤ 1000000) (base b : Nat) (h h0 : AHeap) (hb : BAt h base b l) (hw : WF h) (w0 : WF h0) (hg : Grow h0 h) (hbase : h0.next ≤ base) (hbn : base ≤ h.next) :
    Cl fns summ 152 [.ptr (some (b, 0)), .str s] h fun _ h' => BAt h' base b (l ++ s) ∧ Grow h0 h' ∧ base ≤ h'.next := by
  obtain ⟨hbb, ver, p, v, o, hp, B⟩ := hb
  have hone := one_of_len B.len
  -- behind the check
  have key : ∃ h1 ver1, Cl fns summ 176 [.ptr (some (b, 0))] h (fun _ h' => h' = h1) ∧ h1.objs.get b = some (ver1, .cells false 252 [.ptr (some (b, 0)), v]) ∧ (h1 = h ∨ But b h h1) := by
    rcases hp with rfl | rfl
    · exact ⟨_, _, cl_summ (H.checkNew b ver v h o hone) rfl, put_get_same _ _ _, .inr (but_put hw o _)⟩
    · exact ⟨h, ver, cl_summ (H.checkOld b ver v h o) rfl, o, .inl rfl⟩
  obtain ⟨h1, ver1, hcall, o1, hb1⟩ := key
  have w1 : WF h1 := by
    rcases hb1 with rfl | hb1
    · exact hw
    · exact hb1.wf hw
  have gr1 : Grow h0 h1 := by
    rcases hb1 with rfl | hb1
    · exact hg
    · exact hb1.grow h0 w0 hg (Nat.le_trans hbase hbb)
  have nx1 : h.next ≤ h1.next := by
    rcases hb1 with rfl | hb1
    · exact Nat.le_refl _
    · exact hb1.next
  have kp1 : ∀ c p, h.objs.get c = some p → c ≠ b → h1.objs.get c = some p := fun c p hc hne => by
    rcases hb1 with rfl | hb1
    · exact hc
    · exact hb1.keep c hne _ hc
  have B1 : Built h1 base 5 1 v l.length (byteC l) := built_stay B fun c p hc ⟨vs, hcp⟩ _ => kp1 c p hc (by
    rintro rfl
    rw [o] at hc
    simp only [Option.some.injEq] at hc
    rw [← hc] at hcp; cases hcp)
  clear kp1 hb1 hp
  refine H.go (fn := F_WriteString) rfl (by decide) rfl rfl ?_
  unfold F_WriteString
  dsimp only
  repeat with_reducible first | refine nxt_normal ?_ | refine nxt_ret ?_ | refine nxt_exit ?_ | refine blk_normal ?_ | refine blk_ret ?_ | refine blk_same ?_ | refine blk_other ?_ rfl | refine st_nil ?_ | refine cd_seq ?_ | refine cd_ops ?_ | refine cd_blockS ?_ | refine cd_blockO ?_ | refine cd_skip ?_ | refine cd_exit ?_ | refine cd_ret ?_ | refine dr_nil ?_ | refine cd_draw ?_ | (apply st_pair; exact e1; exact e1) | (apply dr_pair; exact e1; exact e1) | (apply dr_gT; exact e1) | (apply dr_gF; exact e1) | (apply dr_gU; exact e1) | (apply dr_q; exact q1) | (apply dr_ql; exact q1; exact og1) | (apply st_q; exact q1) | (apply st_pA; exact e1; exact e2) | (apply st_pO; exact e1; exact e2) | (apply st_qT; exact e1; exact q1) | (apply st_qF; exact e1) | (apply st_qU; exact e1) | (apply st_eF; exact e1) | (apply st_eU; exact e1) | (apply st_qS; exact e1; exact g1; exact q2) | (apply st_sA; exact e1; exact g1; exact e2; exact e3) | (apply st_sO; exact e1; exact g1; exact e2; exact e3) | (apply cd_condT; exact e1) | (apply cd_condF; exact e1)
  refine st_call (by exact s1) (hcall.mono ?_)
  rintro _ _ rfl
  repeat with_reducible first | refine nxt_normal ?_ | refine nxt_ret ?_ | refine nxt_exit ?_ | refine blk_normal ?_ | refine blk_ret ?_ | refine blk_same ?_ | refine blk_other ?_ rfl | refine st_nil ?_ | refine cd_seq ?_ | refine cd_ops ?_ | refine cd_blockS ?_ | refine cd_blockO ?_ | refine cd_skip ?_ | refine cd_exit ?_ | refine cd_ret ?_ | refine dr_nil ?_ | refine cd_draw ?_ | (apply st_pair; exact e1; exact e1) | (apply dr_pair; exact e1; exact e1) | (apply dr_gT; exact e1) | (apply dr_gF; exact e1) | (apply dr_gU; exact e1) | (apply dr_q; exact q1) | (apply dr_ql; exact q1; exact og1) | (apply st_q; exact q1) | (apply st_pA; exact e1; exact e2) | (apply st_pO; exact e1; exact e2) | (apply st_qT; exact e1; exact q1) | (apply st_qF; exact e1) | (apply st_qU; exact e1) | (apply st_eF; exact e1) | (apply st_eU; exact e1) | (apply st_qS; exact e1; exact g1; exact q2) | (apply st_sA; exact e1; exact g1; exact e2; exact e3) | (apply st_sO; exact e1; exact g1; exact e2; exact e3) | (apply cd_condT; exact e1) | (apply cd_condF; exact e1)
  refine st_append (m := s.length) (new := byteC s) (xv := .str s) (by exact e1) (by exact e1) B1 rfl (List.length_pos_iff.2 hs0) (by simp [cellsOfA, byteC]) ?_ ?_ (by simp [byteC]) w1 (by omega) ?_
  · simp only [byteC, List.all_map, List.all_eq_true]; intro x hx; rfl
  · simp only [roomA]; rw [Bool.and_eq_true, Nat.ble_eq, Nat.ble_eq]; omega
  rintro v' h2 B2 hv2 w2 nx2 gr2 kp2
  have gr2 := gr2 h0 w0 gr1 hbase
  have o2 := kp2 _ _ o1 (built_ne B1 o1 fun vs hh => by cases hh)

  repeat with_reducible first | refine nxt_normal ?_ | refine nxt_ret ?_ | refine nxt_exit ?_ | refine blk_normal ?_ | refine blk_ret ?_ | refine blk_same ?_ | refine blk_other ?_ rfl | refine st_nil ?_ | refine cd_seq ?_ | refine cd_ops ?_ | refine cd_blockS ?_ | refine cd_blockO ?_ | refine cd_skip ?_ | refine cd_exit ?_ | refine cd_ret ?_ | refine dr_nil ?_ | refine cd_draw ?_ | (apply st_pair; exact e1; exact e1) | (apply dr_pair; exact e1; exact e1) | (apply dr_gT; exact e1) | (apply dr_gF; exact e1) | (apply dr_gU; exact e1) | (apply dr_q; exact q1) | (apply dr_ql; exact q1; exact og1) | (apply st_q; exact q1) | (apply st_pA; exact e1; exact e2) | (apply st_pO; exact e1; exact e2) | (apply st_qT; exact e1; exact q1) | (apply st_qF; exact e1) | (apply st_qU; exact e1) | (apply st_eF; exact e1) | (apply st_eU; exact e1) | (apply st_qS; exact e1; exact g1; exact q2) | (apply st_sA; exact e1; exact g1; exact e2; exact e3) | (apply st_sO; exact e1; exact g1; exact e2; exact e3) | (apply cd_condT; exact e1) | (apply cd_condF; exact e1)
  refine st_store (by exact e1) (by exact e1) (cells_of_len B2.len) rfl w2 o2 (by simp) (by simp only [List.all_cons, List.all_nil, one_of_len B2.len, Bool.and_true]) ?_
  intro ver3 h3 bt3 o3
  have gr3 := bt3.grow h0 w0 gr2 (by omega)
  have B3 : Built h3 base 5 1 v' (l.length + s.length) (byteC l ++ byteC s) := built_stay B2 fun c p hc ⟨vs, hcp⟩ _ => bt3.keep c (by
    rintro rfl
    rw [o2] at hc
    simp only [Option.some.injEq] at hc
    rw [← hc] at hcp; cases hcp) _ hc
  have nx3 := bt3.next
  clear B1 B2 bt3
  repeat' with_reducible first | refine nxt_normal ?_ | refine nxt_ret ?_ | refine nxt_exit ?_ | refine blk_normal ?_ | refine blk_ret ?_ | refine blk_same ?_ | refine blk_other ?_ rfl | refine st_nil ?_ | refine cd_seq ?_ | refine cd_ops ?_ | refine cd_blockS ?_ | refine cd_blockO ?_ | refine cd_skip ?_ | refine cd_exit ?_ | refine cd_ret ?_ | refine dr_nil ?_ | refine cd_draw ?_ | (apply st_pair; exact e1; exact e1) | (apply dr_pair; exact e1; exact e1) | (apply dr_gT; exact e1) | (apply dr_gF; exact e1) | (apply dr_gU; exact e1) | (apply dr_q; exact q1) | (apply dr_ql; exact q1; exact og1) | (apply st_q; exact q1) | (apply st_pA; exact e1; exact e2) | (apply st_pO; exact e1; exact e2) | (apply st_qT; exact e1; exact q1) | (apply st_qF; exact e1) | (apply st_qU; exact e1) | (apply st_eF; exact e1) | (apply st_eU; exact e1) | (apply st_qS; exact e1; exact g1; exact q2) | (apply st_sA; exact e1; exact g1; exact e2; exact e3) | (apply st_sO; exact e1; exact g1; exact e2; exact e3) | (apply cd_condT; exact e1) | (apply cd_condF; exact e1) | (apply fin_ret; exact n1; exact r1) | (apply cd_cond; exact e1; all_goals intro _)
  refine ⟨⟨hbb, ver3, _, v', o3, .inr rfl, ?_⟩, gr3, by omega⟩
  have hbc : byteC (l ++ s) = byteC l ++ byteC s := List.map_append
  rw [hbc, List.length_append]; exact B3
end
end Go.Ab.S
end
section
/-
  How a node looks, as a text.
-/
namespace Go.Ab.S
open Go.Ab
set_option maxHeartbeats 8000000
theorem digF_len : ∀ (f k n : Nat), 0 < k → n < 10 ^ k → (digF f n).length ≤ k
  | 0, k, n, hk, _ => by simp only [digF, List.length_singleton]; omega
  | f + 1, k, n, hk, hn => by
    rw [digF]
    by_cases h10 : n < 10
    · rw [if_pos h10]; simp only [List.length_singleton]; omega
    · rw [if_neg h10, List.length_append]
      obtain ⟨k', rfl⟩ : ∃ k', k = k' + 1 := ⟨k - 1, by omega⟩
      have hk' : 0 < k' := by
        rcases Nat.eq_zero_or_pos k' with rfl | h
        · omega
        · exact h
      have := digF_len f k' (n / 10) hk' (by rw [Nat.pow_succ] at hn; omega)
      simp only [List.length_cons, List.length_nil]; omega
theorem digN_len (k n : Nat) (hk : 0 < k) (hn : n < 10 ^ k) : (digN n).length ≤ k := digF_len _ k n hk hn
theorem digF_ne : ∀ (f n : Nat), digF f n ≠ []
  | 0, _ => by simp [digF]
  | f + 1, n => by rw [digF]; split <;> simp
theorem digN_ne (n : Nat) : digN n ≠ [] := digF_ne _ _
/-- Each is a digit. -/
theorem digF_dig : ∀ (f n : Nat), ∀ c ∈ digF f n, 48 ≤ c ∧ c ≤ 57
  | 0, n => by intro c hc; simp only [digF, List.mem_singleton] at hc; omega
  | f + 1, n => by
    rw [digF]
    split
    · intro c hc; simp only [List.mem_singleton] at hc; omega
    · intro c hc
      rcases List.mem_append.1 hc with hc | hc
      · exact digF_dig f _ c hc
      · simp only [List.mem_singleton] at hc; omega
theorem digN_lt (n : Nat) : ∀ c ∈ digN n, c < 256 := fun c hc => by have := digF_dig 19 n c hc; omega
theorem itoaN_ne (n : Int) : itoaN n ≠ [] := by
  unfold itoaN; split
  · simp
  · exact digN_ne _
theorem itoaN_lt (n : Int) : ∀ c ∈ itoaN n, c < 256 := by
  unfold itoaN; split
  · intro c hc
    rcases List.mem_cons.1 hc with rfl | hc
    · omega
    · exact digN_lt _ c hc
  · exact digN_lt _
theorem itoaN_len {n : Int} (h0 : -9223372036854775808 ≤ n) (h1 : n ≤ 9223372036854775807) : (itoaN n).length ≤ 20 := by
  unfold itoaN; split
  · have := digN_len 19 n.natAbs (by decide) (by omega)
    simp only [List.length_cons]; omega
  · have := digN_len 19 n.toNat (by decide) (by omega)
    omega
def labS (l : List (List Nat)) : List Nat := (l.map fun x => 32 :: x).flatten
def argS (cl : Int → Int) (l : List Int) : List Nat := (l.map fun a => 44 :: itoaN (cl a)).flatten
def headS (n : Node) : List Nat := itoaN n.kind ++ n.name
/-- How a node looks. -/
def lookS (n : Node) (cl : Int → Int) : List Nat := headS n ++ labS n.labels ++ argS cl n.args
theorem flat_take {α : Type} (f : α → List Nat) (l : List α) {j : Nat} (hj : j < l.length) : ((l.take (j + 1)).map f).flatten = ((l.take j).map f).flatten ++ f l[j] := by
  rw [List.take_succ_eq_append_getElem hj, List.map_append, List.flatten_append]; simp
theorem flat_le {α : Type} (f : α → List Nat) (l : List α) (j : Nat) : ((l.take j).map f).flatten.length ≤ (l.map f).flatten.length := by
  have : l.map f = (l.take j).map f ++ (l.drop j).map f := by rw [← List.map_append, List.take_append_drop]
  rw [this, List.flatten_append, List.length_append]; omega
section
variable {fns : FuncId → Option AFunc} {summ : FuncId → List AVal → AHeap → Option (D (AVal × AHeap))}
variable (H : Has fns summ)
include H
theorem look_ok (n : Node) (hs : NodeSm n) (cl : Int → Int) (fv av lv : AVal) (h : AHeap) (hw : WF h) (ha : IntsAt h av n.args) (hl : StrsAt h lv n.labels)
    (hk : -9223372036854775808 ≤ n.kind ∧ n.kind ≤ 9223372036854775807) (hc : ∀ a ∈ n.args, -9223372036854775808 ≤ cl a ∧ cl a ≤ 9223372036854775807)
    (hf : ∀ a ∈ n.args, ∀ h', Grow h h' → Cv fns summ fv [.int .i64 a] h' fun r h'' => r = .int .i64 (cl a) ∧ h'' = h')
    (hlen : (lookS n cl).length ≤ 1000000) (hby : ∀ c ∈ lookS n cl, c < 256) : Cl fns summ 121 [nodeV n av lv, fv] h fun r h' => r = .str (lookS n cl) ∧ Grow h h' := by
  have hl1 := ha.len
  have hl2 := hl.len
  unfold nodeV
  refine H.go (fn := F_look) rfl (by decide) rfl rfl ?_
  unfold F_look
  dsimp only
  refine cd_seq (cd_ops ?_)
  refine st_box (by exact e1) (by exact cc) hw ?_
  intro bn h1 hbn gr1 on
  have w1 := gr1.wf
  repeat with_reducible first | refine nxt_normal ?_ | refine st_nil ?_ | refine cd_seq ?_ | refine cd_ops ?_ | (apply st_q; exact q1)
  refine st_alloc w1 ?_
  intro b h2 hb gr2 ob
  have w2 := gr2.wf
  have hbt : BAt h2 h1.next b [] := ⟨hb, b, .ptr none, .slice none 0, ob, .inl rfl, .inl ⟨rfl, rfl, rfl⟩⟩
  have on2 := gr2.keep _ _ on
  repeat with_reducible first | refine nxt_normal ?_ | refine st_nil ?_ | refine cd_seq ?_ | refine cd_draw ?_ | (apply dr_q; exact q1) | (apply dr_ql; exact q1; exact og1)
  have hlk : (headS n ++ labS n.labels ++ argS cl n.args).length ≤ 1000000 := hlen
  rw [List.length_append, List.length_append] at hlk
  have hki : (itoaN n.kind).length + n.name.length ≤ 1000000 := by
    have : (headS n).length = (itoaN n.kind).length + n.name.length := List.length_append
    omega
  refine dr_e (ex_callF (by exact s1) (cl_summ (H.itoa n.kind h2 hk.1 hk.2) ?_))
  rw [D.sat_ret]
  refine ⟨by simp [heldOk, on2], ?_⟩
  have hadd : (itoaN n.kind).length + n.name.length < 1000000000000 := by omega
  repeat with_reducible (apply dr_q; exact q1)
  refine dr_e (ex_callF (by exact s1) ((WriteString_ok H (itoaN n.kind ++ n.name) [] (by simp [itoaN_ne]) (by simp only [List.length_nil, List.length_append]; omega) h1.next b h2 h1 hbt w2 w1 gr2 (Nat.le_refl _) gr2.next).mono ?_))
  rintro _ h3 ⟨hb3, gr3, nx3⟩
  have on3 := gr3.keep _ _ on
  rw [List.nil_append] at hb3
  refine ⟨by simp [heldOk, on3], ?_⟩
  have hm1 : bn < h1.next := w1.lt on
  clear hbt on2
  repeat with_reducible first | refine nxt_normal ?_ | refine st_nil ?_ | refine cd_seq ?_ | refine cd_ops ?_ | refine dr_nil ?_ | (apply st_q; exact q1)
  refine cd_count (N := n.labels.length) (by have := hs.labels; omega) (fun j a hp => BAt hp h1.next b (headS n ++ labS (n.labels.take j)) ∧ Grow h1 hp ∧ h1.next ≤ hp.next ∧ a.defers = [] ∧ ev a (.tmp 2) = some (.ptr (some (bn, 0))) ∧ ev a (.tmp 5) = some (.ptr (some (b, 0))) ∧ ev a (.tmp 1) = some fv ∧ ev a (.tmp 18) = some lv)
    (by rintro j a hp t w (rfl | rfl | rfl) ⟨k1, k2, k3, k4, k5, k6, k7, k8⟩ <;> exact ⟨k1, k2, k3, by rw [defers_put]; exact k4, by exact e1, by exact e1, by exact e1, by exact e1⟩) (by decide) ?_ ?_ ⟨by simpa [labS, headS] using hb3, gr3, nx3, by exact n1, by exact e1, by exact e1, by exact e1, by exact e1⟩ (by exact e1) (by exact e1)
  · rintro j a hp hj ⟨kb, kg, kn, hd, h2', h5, h1', h18⟩ hi hn
    obtain ⟨b0, o0, ver0, ro0, e0, vs0, hix, hget, hvo⟩ := (hl.mono (gr1.trans kg)).at (List.getElem?_eq_getElem hj)
    have hw32 : ([32] ++ n.labels[j]) = 32 :: n.labels[j] := rfl
    have htk := flat_take (fun x => 32 :: x) n.labels hj
    have hle := flat_le (fun x => 32 :: x) n.labels (j + 1)
    have hlb : (labS (n.labels.take (j + 1))).length = (labS (n.labels.take j)).length + (1 + n.labels[j].length) := by
      simp only [labS, htk, List.length_append, List.length_cons]; omega
    have hle' : (labS (n.labels.take (j + 1))).length ≤ (labS n.labels).length := hle
    have hadd : ([32] : List Nat).length + n.labels[j].length < 1000000000000 := by simp only [List.length_singleton]; omega
    have hte : headS n ++ labS (n.labels.take (j + 1)) = headS n ++ labS (n.labels.take j) ++ ([32] ++ n.labels[j]) := by
      simp only [labS, htk, List.append_assoc, hw32]
    clear hle htk hw32 on3
    repeat with_reducible first | refine nxt_normal ?_ | refine st_nil ?_ | refine cd_seq ?_ | refine cd_ops ?_ | refine cd_blockS ?_ | (apply st_q; exact q1)
    refine st_call (by exact s1) ((WriteString_ok H ([32] ++ n.labels[j]) (headS n ++ labS (n.labels.take j)) (by simp) (by simp only [List.length_append, List.length_singleton]; omega) h1.next b hp h1 kb kg.wf w1 kg (Nat.le_refl _) kn).mono ?_)
    rintro _ h4 ⟨hb4, gr4, nx4⟩
    rw [← hte] at hb4
    clear hte hlb hle'
    repeat with_reducible first | refine nxt_normal ?_ | refine blk_normal ?_ | refine st_nil ?_
    exact ⟨⟨hb4, gr4, nx4, by exact n1, by exact e1, by exact e1, by exact e1, by exact e1⟩, by exact e1, by exact e1⟩
  · rintro a hp ⟨kb, kg, kn, hd, h2', h5, h1', h18⟩
    rw [List.take_length] at kb
    have onp := kg.keep _ _ on
    clear on3
    repeat with_reducible first | refine nxt_normal ?_ | refine st_nil ?_ | refine cd_seq ?_ | refine cd_ops ?_ | (apply st_q; exact q1)
    refine cd_count (N := n.args.length) (by have := hs.args; omega) (fun j a hp => BAt hp h1.next b (headS n ++ labS n.labels ++ argS cl (n.args.take j)) ∧ Grow h1 hp ∧ h1.next ≤ hp.next ∧ a.defers = [] ∧ ev a (.tmp 5) = some (.ptr (some (b, 0))) ∧ ev a (.tmp 1) = some fv ∧ ev a (.tmp 29) = some av)
      (by rintro j a hp t w (rfl | rfl | rfl) ⟨k1, k2, k3, k4, k5, k6, k7⟩ <;> exact ⟨k1, k2, k3, by rw [defers_put]; exact k4, by exact e1, by exact e1, by exact e1⟩) (by decide) ?_ ?_ ⟨by simpa [argS] using kb, kg, kn, by exact n1, by exact e1, by exact e1, by exact e1⟩ (by exact e1) (by exact e1)
    · rintro j a hp hj ⟨kb, kg, kn, hd, h5, h1', h29⟩ hi hn
      obtain ⟨b0, o0, ver0, ro0, e0, vs0, hix, hget, hvo⟩ := (ha.mono (gr1.trans kg)).at (List.getElem?_eq_getElem hj)
      have hmem : n.args[j] ∈ n.args := List.getElem_mem hj
      have htk := flat_take (fun a => 44 :: itoaN (cl a)) n.args hj
      have hle := flat_le (fun a => 44 :: itoaN (cl a)) n.args (j + 1)
      have hlb : (argS cl (n.args.take (j + 1))).length = (argS cl (n.args.take j)).length + (1 + (itoaN (cl n.args[j])).length) := by
        simp only [argS, htk, List.length_append, List.length_cons]; omega
      have hle' : (argS cl (n.args.take (j + 1))).length ≤ (argS cl n.args).length := hle
      have hadd : ([44] : List Nat).length + (itoaN (cl n.args[j])).length < 1000000000000 := by simp only [List.length_singleton]; omega
      have hte : headS n ++ labS n.labels ++ argS cl (n.args.take (j + 1)) = headS n ++ labS n.labels ++ argS cl (n.args.take j) ++ ([44] ++ itoaN (cl n.args[j])) := by
        simp only [argS, htk, List.append_assoc]; rfl
      clear hle htk onp
      repeat with_reducible first | refine nxt_normal ?_ | refine st_nil ?_ | refine cd_seq ?_ | refine cd_ops ?_ | refine cd_blockS ?_ | (apply st_q; exact q1)
      refine st_e (ex_call (by exact e1) (by exact s1) ((hf _ hmem hp (gr1.trans kg)).mono ?_))
      rintro _ _ ⟨rfl, rfl⟩
      skip
      refine st_call (by exact s1) (cl_summ (H.itoa _ _ (hc _ hmem).1 (hc _ hmem).2) ?_)
      rw [D.sat_ret]
      repeat with_reducible (apply st_q; exact q1)
      refine st_call (by exact s1) ((WriteString_ok H ([44] ++ itoaN (cl n.args[j])) (headS n ++ labS n.labels ++ argS cl (n.args.take j)) (by simp) (by simp only [List.length_append, List.length_singleton]; omega) h1.next b _ h1 kb kg.wf w1 kg (Nat.le_refl _) kn).mono ?_)
      rintro _ h4 ⟨hb4, gr4, nx4⟩
      rw [← hte] at hb4
      clear hte hlb hle'
      repeat with_reducible first | refine nxt_normal ?_ | refine blk_normal ?_ | refine st_nil ?_
      exact ⟨⟨hb4, gr4, nx4, by exact n1, by exact e1, by exact e1, by exact e1⟩, by exact e1, by exact e1⟩
    · rintro a hp ⟨kb, kg, kn, hd, h5, h1', h29⟩
      rw [List.take_length] at kb
      have hS : headS n ++ labS n.labels ++ argS cl n.args = lookS n cl := rfl
      rw [hS] at kb
      have hne : lookS n cl ≠ [] := by simp [lookS, headS, itoaN_ne]
      obtain ⟨_, ver, p, v, o, _, B⟩ := kb
      rcases B with ⟨_, h0, _⟩ | ⟨_, h0, _⟩ | ⟨c, vs, ver', hc', rfl, oc, hle, htk⟩
      · exact absurd (List.length_eq_zero_iff.1 h0) hne
      · exact absurd (List.length_eq_zero_iff.1 h0) hne
      rw [Nat.mul_one] at htk
      have ht := H.text b ver p c ver' vs (lookS n cl) hp o oc htk hne hby hlen
      clear onp hlk hki htk
      repeat with_reducible first | refine nxt_normal ?_ | refine cd_seq ?_ | refine cd_ops ?_
      refine st_call (by exact s1) (cl_summ ht ?_)
      rw [D.sat_ret]
      have gr9 : Grow h (dropA hp c) := gr1.trans (kg.drop w1 hc')
      repeat' with_reducible first | refine nxt_normal ?_ | refine st_nil ?_ | refine cd_ret ?_ | (apply st_q; exact q1) | (apply fin_ret; exact n1; exact r1)
      exact ⟨rfl, gr9⟩
end
end Go.Ab.S
end
section
/-
  Going through what follows from one thing, with a list of what waits: when it comes out true.
-/
namespace Go.Ab.S
section
variable {α : Type} [BEq α] [LawfulBEq α] (ok : α → Bool) (nx : α → List α) (bad : α → α → Bool)
def walkG : Nat → List α → List α → Bool
  | 0, _, _ => false
  | _ + 1, [], _ => true
  | m + 1, p :: w, met => if met.contains p then walkG m w met else if ok p && !(met.any (bad p)) then walkG m (nx p ++ w) (met ++ [p]) else false
/-- So much may still be put behind. -/
def leftW (met : List α) : List α → Nat
  | [] => 0
  | p :: r => (if met.contains p then 0 else (nx p).length) + leftW met r
theorem leftW_le (met : List α) (p : α) : ∀ ps : List α, leftW nx (met ++ [p]) ps ≤ leftW nx met ps
  | [] => Nat.le_refl _
  | q :: r => by
    have ih := leftW_le met p r
    simp only [leftW]
    cases h : met.contains q with
    | true =>
      have : (met ++ [p]).contains q = true := by simp at h ⊢; exact .inl h
      rw [this]; simpa using ih
    | false =>
      cases h2 : (met ++ [p]).contains q <;> simp <;> omega
theorem leftW_put {met : List α} {p : α} (hp : met.contains p = false) : ∀ {ps : List α}, p ∈ ps → leftW nx (met ++ [p]) ps + (nx p).length ≤ leftW nx met ps
  | [], h => by cases h
  | q :: r, h => by
    have hle := leftW_le nx met p r
    simp only [leftW]
    by_cases hq : q = p
    · subst hq
      have : (met ++ [q]).contains q = true := by simp
      rw [this, hp]; simp; omega
    · have hr : p ∈ r := by
        rcases List.mem_cons.1 h with h | h
        · exact absurd h.symm hq
        · exact h
      have ih := leftW_put hp hr
      have : (met ++ [p]).contains q = met.contains q := by
        rw [Bool.eq_iff_iff]; simp [hq]
      rw [this]; omega
theorem leftW_anti {met : List α} : ∀ {ps : List α}, leftW nx met ps ≤ leftW nx [] ps
  | [] => Nat.le_refl _
  | q :: r => by
    have ih := leftW_anti (met := met) (ps := r)
    simp only [leftW]
    split <;> simp <;> omega
/-- It comes out true: there is a closed lot. -/
theorem walk_sound (hsym : ∀ p q, bad p q = bad q p) : ∀ (m : Nat) (w met : List α), walkG ok nx bad m w met = true → (∀ p ∈ met, ok p = true ∧ ∀ q ∈ nx p, q ∈ met ∨ q ∈ w) → (∀ p ∈ met, ∀ q ∈ met, p ≠ q → bad p q = false) →
    ∃ S : List α, (∀ p ∈ met, p ∈ S) ∧ (∀ p ∈ w, p ∈ S) ∧ (∀ p ∈ S, ok p = true ∧ ∀ q ∈ nx p, q ∈ S) ∧ ∀ p ∈ S, ∀ q ∈ S, p ≠ q → bad p q = false
  | 0, _, _, h, _, _ => by simp [walkG] at h
  | m + 1, [], met, h, h1, h2 => ⟨met, fun _ h => h, fun _ h => (by cases h), fun p hp => ⟨(h1 p hp).1, fun q hq => by
      rcases (h1 p hp).2 q hq with h | h
      · exact h
      · cases h⟩, h2⟩
  | m + 1, p :: w, met, h, h1, h2 => by
    rw [walkG] at h
    split at h
    · rename_i hc
      have hc : p ∈ met := by simpa using hc
      obtain ⟨S, s1, s2, s3⟩ := walk_sound hsym m w met h (fun q hq => ⟨(h1 q hq).1, fun r hr => by
        rcases (h1 q hq).2 r hr with h | h
        · exact .inl h
        · rcases List.mem_cons.1 h with rfl | h
          · exact .inl hc
          · exact .inr h⟩) h2
      exact ⟨S, s1, fun q hq => by
        rcases List.mem_cons.1 hq with rfl | hq
        · exact s1 _ hc
        · exact s2 q hq, s3⟩
    · rename_i hc
      split at h
      · rename_i hk
        simp only [Bool.and_eq_true, Bool.not_eq_true', List.any_eq_false] at hk
        obtain ⟨S, s1, s2, s3⟩ := walk_sound hsym m (nx p ++ w) (met ++ [p]) h (fun q hq => by
          rcases List.mem_append.1 hq with hq | hq
          · refine ⟨(h1 q hq).1, fun r hr => ?_⟩
            rcases (h1 q hq).2 r hr with h | h
            · exact .inl (List.mem_append.2 (.inl h))
            · rcases List.mem_cons.1 h with rfl | h
              · exact .inl (by simp)
              · exact .inr (List.mem_append.2 (.inr h))
          · simp only [List.mem_singleton] at hq
            subst hq
            exact ⟨hk.1, fun r hr => .inr (List.mem_append.2 (.inl hr))⟩) (fun q hq r hr hne => by
          rcases List.mem_append.1 hq with kq | kq <;> rcases List.mem_append.1 hr with kr | kr
          · exact h2 q kq r kr hne
          · simp only [List.mem_singleton] at kr; subst kr
            rw [hsym]
            exact Bool.eq_false_iff.2 (hk.2 q kq)
          · simp only [List.mem_singleton] at kq; subst kq
            exact Bool.eq_false_iff.2 (hk.2 r kr)
          · simp only [List.mem_singleton] at kq kr; subst kq; exact absurd kr.symm hne)
        exact ⟨S, fun q hq => s1 q (List.mem_append.2 (.inl hq)), fun q hq => by
          rcases List.mem_cons.1 hq with rfl | hq
          · exact s1 _ (by simp)
          · exact s2 q (List.mem_append.2 (.inr hq)), s3⟩
      · cases h
theorem walk_complete {S : α → Prop} (hS : ∀ p, S p → ok p = true ∧ ∀ q ∈ nx p, S q) (hb : ∀ p q, S p → S q → p ≠ q → bad p q = false) {ps : List α} (hps : ∀ p, S p → p ∈ ps) : ∀ (m : Nat) (w met : List α), (∀ p ∈ w, S p) → (∀ p ∈ met, S p) →
    w.length + leftW nx met ps < m → walkG ok nx bad m w met = true
  | 0, _, _, _, _, h => by omega
  | m + 1, [], _, _, _, _ => rfl
  | m + 1, p :: w, met, h1, h2, h => by
    rw [walkG]
    have hp := h1 p (by simp)
    have hw : ∀ q ∈ w, S q := fun q hq => h1 q (by simp [hq])
    cases hc : met.contains p with
    | true =>
      rw [if_pos rfl]
      exact walk_complete hS hb hps m w met hw h2 (by simp only [List.length_cons] at h; omega)
    | false =>
      have hnb : met.any (bad p) = false := by
        rw [List.any_eq_false]
        intro q hq
        have hne : p ≠ q := by rintro rfl; simp at hc; exact hc hq
        simp [hb p q hp (h2 q hq) hne]
      rw [if_neg (by simp), (hS p hp).1, hnb]
      simp only [Bool.not_false, Bool.and_self, if_true]
      refine walk_complete hS hb hps m (nx p ++ w) (met ++ [p]) (fun q hq => ?_) (fun q hq => ?_) ?_
      · rcases List.mem_append.1 hq with hq | hq
        · exact (hS p hp).2 q hq
        · exact hw q hq
      · rcases List.mem_append.1 hq with hq | hq
        · exact h2 q hq
        · simp only [List.mem_singleton] at hq; subst hq; exact hp
      · have := leftW_put nx hc (hps p hp)
        simp only [List.length_append, List.length_cons] at h ⊢
        omega
/-- **It comes out true just if there is a lot that is closed.** -/
theorem walk_iff (hsym : ∀ p q, bad p q = bad q p) {ps : List α} (r : α) (hr : r ∈ ps) (hps : ∀ p ∈ ps, ok p = true → ∀ q ∈ nx p, q ∈ ps) :
    walkG ok nx bad (2 + leftW nx [] ps) [r] [] = true ↔ ∃ S : α → Prop, S r ∧ (∀ p, S p → p ∈ ps ∧ ok p = true ∧ ∀ q ∈ nx p, S q) ∧ ∀ p q, S p → S q → p ≠ q → bad p q = false := by
  constructor
  · intro h
    obtain ⟨S, _, s2, s3, s4⟩ := walk_sound ok nx bad hsym _ _ _ h (by intro p hp; cases hp) (by intro p hp; cases hp)
    exact ⟨fun p => p ∈ S ∧ p ∈ ps, ⟨s2 r (by simp), hr⟩, fun p hp => ⟨hp.2, (s3 p hp.1).1, fun q hq => ⟨(s3 p hp.1).2 q hq, hps p hp.2 (s3 p hp.1).1 q hq⟩⟩, fun p q hp hq => s4 p hp.1 q hq.1⟩
  · rintro ⟨S, h1, h2, h3⟩
    exact walk_complete ok nx bad (S := S) (fun p hp => (h2 p hp).2) h3 (fun p hp => (h2 p hp).1) _ _ _ (by simpa using h1) (by simp) (by simp only [List.length_cons, List.length_nil]; omega)
end
end Go.Ab.S
end
