import Derived.Test.YtapnoohglfhgeaaGreatDoorP11
/-
  Part 12 of the proof.
-/
set_option linter.all false
section
/-
  How great a graph is.
-/
namespace Go.Ab.S
open Go.Ab
set_option maxHeartbeats 4000000
def bigT (s : List Nat) : Nat := if s.length > 1000 then 1000 else 0
def sumL {α : Type} (f : α → Nat) : List α → Nat
  | [] => 0
  | x :: r => f x + sumL f r
theorem sumL_take {α : Type} (f : α → Nat) : ∀ (l : List α) (j : Nat) (hj : j < l.length), sumL f (l.take (j + 1)) = sumL f (l.take j) + f l[j]
  | [], j, h => by simp at h
  | x :: r, 0, _ => by simp [sumL]
  | x :: r, j + 1, h => by
    simp only [List.take_succ_cons, sumL, List.getElem_cons_succ]
    rw [sumL_take f r j (by simpa using h)]; omega
theorem sumL_le {α : Type} (f : α → Nat) : ∀ (l : List α) (j : Nat), sumL f (l.take j) ≤ sumL f l
  | [], j => by simp
  | x :: r, 0 => by simp [sumL]
  | x :: r, j + 1 => by simp only [List.take_succ_cons, sumL]; have := sumL_le f r j; omega
def greatN (n : Node) : Nat := n.args.length + n.labels.length + bigT n.name + sumL bigT n.labels
def greatF (g : Graph) : Nat := g.nodes.length + sumL greatN g.nodes
section
variable {fns : FuncId → Option AFunc} {summ : FuncId → List AVal → AHeap → Option (D (AVal × AHeap))}
variable (H : Has fns summ)
include H
theorem Great_ok (g : Graph) (hg : greatF g < 2 ^ 60) (v : AVal) (h : AHeap) (hw : WF h) (hv : GraphAt h v g) : Cl fns summ 8 [v] h fun r h' => r = .int .i64 (greatF g : Nat) ∧ Grow h h' := by
  obtain ⟨nv, rfl, hN⟩ := hv
  have hlen := hN.len
  have hgn : g.nodes.length + sumL greatN g.nodes < 2 ^ 60 := hg
  refine H.go (fn := F_Great) rfl (by decide) rfl rfl ?_
  unfold F_Great
  dsimp only
  refine cd_seq (cd_ops ?_)
  refine st_box (by exact e1) (by exact cc) hw ?_
  rintro b1 h1 hb1 g1 o1
  repeat with_reducible first | refine nxt_normal ?_ | refine nxt_ret ?_ | refine nxt_exit ?_ | refine blk_normal ?_ | refine blk_ret ?_ | refine blk_same ?_ | refine blk_other ?_ rfl | refine st_nil ?_ | refine cd_seq ?_ | refine cd_ops ?_ | refine cd_blockS ?_ | refine cd_blockO ?_ | refine cd_skip ?_ | refine cd_exit ?_ | refine cd_ret ?_ | refine dr_nil ?_ | refine cd_draw ?_ | (apply st_pair; exact e1; exact e1) | (apply dr_pair; exact e1; exact e1) | (apply dr_gT; exact e1) | (apply dr_gF; exact e1) | (apply dr_gU; exact e1) | (apply dr_q; exact q1) | (apply dr_ql; exact q1; exact og1) | (apply st_q; exact q1) | (apply st_pA; exact e1; exact e2) | (apply st_pO; exact e1; exact e2) | (apply st_qT; exact e1; exact q1) | (apply st_qF; exact e1) | (apply st_qU; exact e1) | (apply st_eF; exact e1) | (apply st_eU; exact e1) | (apply st_qS; exact e1; exact g1; exact q2) | (apply st_sA; exact e1; exact g1; exact e2; exact e3) | (apply st_sO; exact e1; exact g1; exact e2; exact e3) | (apply cd_condT; exact e1) | (apply cd_condF; exact e1)
  refine cd_count (N := g.nodes.length) (by omega) (fun j a hp => Grow h hp ∧ a.defers = [] ∧ ev a (.tmp 12) = some nv ∧ ev a (.tmp 3) = some (.int .i64 ((g.nodes.length + sumL greatN (g.nodes.take j) : Nat) : Int)))
    (by rintro j a hp t w (rfl | rfl | rfl) ⟨h1, h2, h3, h4⟩ <;> exact ⟨h1, by rw [defers_put]; exact h2, by exact e1, by exact e1⟩) (by decide) ?_ ?_ ⟨g1, by exact n1, by exact e1, by exact e1⟩ (by exact e1) (by exact e1)
  · clear g1 o1 hb1
    rintro j a hp hj ⟨hgr, hd, h12, h3⟩ hi hn
    have hc : g.nodes[j]? = some g.nodes[j] := List.getElem?_eq_getElem hj
    obtain ⟨b, o, ver, ro, e, vs, av, lv, hix, hget', hvl, hvo, _, _, _, _, _, ha, hl⟩ := hN.at hc
    have hget := hgr.keep _ _ hget'
    have hpart : partA (some 5) vs o = some (nodeV g.nodes[j] av lv) := by rw [partA, if_pos hvl, hvo]; rfl
    have hst := sumL_take greatN g.nodes j hj
    have hle := sumL_le greatN g.nodes (j + 1)
    clear hget'
    refine cd_blockS (cd_seq (cd_ops ?_))
    repeat with_reducible first | refine nxt_normal ?_ | refine nxt_ret ?_ | refine nxt_exit ?_ | refine blk_normal ?_ | refine blk_ret ?_ | refine blk_same ?_ | refine blk_other ?_ rfl | refine st_nil ?_ | refine dr_nil ?_ | (apply st_pair; exact e1; exact e1) | (apply dr_pair; exact e1; exact e1) | (apply dr_gT; exact e1) | (apply dr_gF; exact e1) | (apply dr_gU; exact e1) | (apply dr_q; exact q1) | (apply dr_ql; exact q1; exact og1) | (apply st_q; exact q1) | (apply st_pA; exact e1; exact e2) | (apply st_pO; exact e1; exact e2) | (apply st_qT; exact e1; exact q1) | (apply st_qF; exact e1) | (apply st_qU; exact e1) | (apply st_eF; exact e1) | (apply st_eU; exact e1) | (apply st_qS; exact e1; exact g1; exact q2) | (apply st_sA; exact e1; exact g1; exact e2; exact e3) | (apply st_sO; exact e1; exact g1; exact e2; exact e3)
    refine st_alloc hgr.wf ?_
    rintro b5 h5 hb5 g5 o5
    refine st_store (by exact e1) (by exact e1) (cs := [.int .i64 g.nodes[j].kind, .str g.nodes[j].name, av, lv, .bool g.nodes[j].isOpen]) rfl rfl g5.wf o5 (by simp) (ones_node ha.len hl.len) ?_
    rintro v6 h6 p6 o6
    simp only [List.take_zero, List.nil_append, List.length_cons, List.length_nil, List.drop_succ_cons, List.drop_zero, List.append_nil, Nat.zero_add, Nat.reduceAdd, List.drop_nil, List.cons_append] at o6
    have g6 : Grow hp h6 := p6.grow hp hgr.wf g5 hb5
    replace hgr := hgr.trans g6
    have hla := ha.len
    have hll := hl.len
    clear o5 g5 p6 hb5
    have hw1 : IntKind.i64.wrap (Int.ofNat g.nodes[j].args.length + Int.ofNat g.nodes[j].labels.length) = ((g.nodes[j].args.length + g.nodes[j].labels.length : Nat) : Int) := by
      simp only [greatN] at hst
      rw [wrap_small (by simp; omega) (by simp; omega)]; simp
    have hw2 : IntKind.i64.wrap (((g.nodes.length + sumL greatN (g.nodes.take j) : Nat) : Int) + ((g.nodes[j].args.length + g.nodes[j].labels.length : Nat) : Int)) = ((g.nodes.length + sumL greatN (g.nodes.take j) + (g.nodes[j].args.length + g.nodes[j].labels.length) : Nat) : Int) := by
      simp only [greatN] at hst
      rw [wrap_small (by omega) (by omega)]; omega
    have hX : g.nodes.length + sumL greatN (g.nodes.take j) + (g.nodes[j].args.length + g.nodes[j].labels.length) + bigT g.nodes[j].name + sumL bigT g.nodes[j].labels = g.nodes.length + sumL greatN (g.nodes.take (j + 1)) := by
      rw [hst]; simp only [greatN]; omega
    have hXs : g.nodes.length + sumL greatN (g.nodes.take (j + 1)) < 2 ^ 60 := by omega
    generalize g.nodes.length + sumL greatN (g.nodes.take j) + (g.nodes[j].args.length + g.nodes[j].labels.length) = X at hw2 hX
    refine st_nil (nxt_normal ?_)
    refine cd_seq (cd_ops ?_)
    repeat with_reducible first | refine nxt_normal ?_ | refine nxt_ret ?_ | refine nxt_exit ?_ | refine blk_normal ?_ | refine blk_ret ?_ | refine blk_same ?_ | refine blk_other ?_ rfl | refine st_nil ?_ | refine dr_nil ?_ | (apply st_pair; exact e1; exact e1) | (apply dr_pair; exact e1; exact e1) | (apply dr_gT; exact e1) | (apply dr_gF; exact e1) | (apply dr_gU; exact e1) | (apply dr_q; exact q1) | (apply dr_ql; exact q1; exact og1) | (apply st_q; exact q1) | (apply st_pA; exact e1; exact e2) | (apply st_pO; exact e1; exact e2) | (apply st_qT; exact e1; exact q1) | (apply st_qF; exact e1) | (apply st_qU; exact e1) | (apply st_eF; exact e1) | (apply st_eU; exact e1) | (apply st_qS; exact e1; exact g1; exact q2) | (apply st_sA; exact e1; exact g1; exact e2; exact e3) | (apply st_sO; exact e1; exact g1; exact e2; exact e3)
    refine cd_cut (fun a' h' => h' = h6 ∧ a'.defers = [] ∧ ev a' (.tmp 12) = some nv ∧ ev a' (.tmp 14) = some (.int .i64 (j : Nat)) ∧ ev a' (.tmp 13) = some (.int .i64 (g.nodes.length : Nat)) ∧ ev a' (.tmp 5) = some (.ptr (some (b5, 0))) ∧ ev a' (.tmp 3) = some (.int .i64 ((X + bigT g.nodes[j].name : Nat) : Int))) ?_ ?_
    · cases cn : decide ((Int.ofNat g.nodes[j].name.length : Int) > 1000)
      · have hb : bigT g.nodes[j].name = 0 := by
          have := of_decide_eq_false cn
          simp only [bigT]; rw [if_neg]; simp at this; omega
        rw [hb]
        repeat with_reducible first | refine nxt_normal ?_ | refine nxt_ret ?_ | refine nxt_exit ?_ | refine blk_normal ?_ | refine blk_ret ?_ | refine blk_same ?_ | refine blk_other ?_ rfl | refine st_nil ?_ | refine cd_seq ?_ | refine cd_ops ?_ | refine cd_blockS ?_ | refine cd_blockO ?_ | refine cd_skip ?_ | refine cd_exit ?_ | refine cd_ret ?_ | refine dr_nil ?_ | refine cd_draw ?_ | (apply st_pair; exact e1; exact e1) | (apply dr_pair; exact e1; exact e1) | (apply dr_gT; exact e1) | (apply dr_gF; exact e1) | (apply dr_gU; exact e1) | (apply dr_q; exact q1) | (apply dr_ql; exact q1; exact og1) | (apply st_q; exact q1) | (apply st_pA; exact e1; exact e2) | (apply st_pO; exact e1; exact e2) | (apply st_qT; exact e1; exact q1) | (apply st_qF; exact e1) | (apply st_qU; exact e1) | (apply st_eF; exact e1) | (apply st_eU; exact e1) | (apply st_qS; exact e1; exact g1; exact q2) | (apply st_sA; exact e1; exact g1; exact e2; exact e3) | (apply st_sO; exact e1; exact g1; exact e2; exact e3) | (apply cd_condT; exact e1) | (apply cd_condF; exact e1)
        exact ⟨rfl, by exact n1, by exact e1, by exact e1, by exact e1, by exact e1, by exact e1⟩
      · have hb : bigT g.nodes[j].name = 1000 := by
          have := of_decide_eq_true cn
          simp only [bigT]; rw [if_pos]; simp at this; omega
        rw [hb] at hX ⊢
        have hw3 : IntKind.i64.wrap ((X : Int) + 1000) = ((X + 1000 : Nat) : Int) := by rw [wrap_small (by omega) (by omega)]; omega
        repeat with_reducible first | refine nxt_normal ?_ | refine nxt_ret ?_ | refine nxt_exit ?_ | refine blk_normal ?_ | refine blk_ret ?_ | refine blk_same ?_ | refine blk_other ?_ rfl | refine st_nil ?_ | refine cd_seq ?_ | refine cd_ops ?_ | refine cd_blockS ?_ | refine cd_blockO ?_ | refine cd_skip ?_ | refine cd_exit ?_ | refine cd_ret ?_ | refine dr_nil ?_ | refine cd_draw ?_ | (apply st_pair; exact e1; exact e1) | (apply dr_pair; exact e1; exact e1) | (apply dr_gT; exact e1) | (apply dr_gF; exact e1) | (apply dr_gU; exact e1) | (apply dr_q; exact q1) | (apply dr_ql; exact q1; exact og1) | (apply st_q; exact q1) | (apply st_pA; exact e1; exact e2) | (apply st_pO; exact e1; exact e2) | (apply st_qT; exact e1; exact q1) | (apply st_qF; exact e1) | (apply st_qU; exact e1) | (apply st_eF; exact e1) | (apply st_eU; exact e1) | (apply st_qS; exact e1; exact g1; exact q2) | (apply st_sA; exact e1; exact g1; exact e2; exact e3) | (apply st_sO; exact e1; exact g1; exact e2; exact e3) | (apply cd_condT; exact e1) | (apply cd_condF; exact e1)
        exact ⟨rfl, by exact n1, by exact e1, by exact e1, by exact e1, by exact e1, by exact e1⟩
    · clear hw1 hw2 hi hn h12 h3 hd
      rintro a h ⟨rfl, hd, h12, hi, hn, h5, h3⟩
      generalize X + bigT g.nodes[j].name = Y at h3 hX
      refine cd_seq (cd_ops ?_)
      repeat with_reducible first | refine nxt_normal ?_ | refine nxt_ret ?_ | refine nxt_exit ?_ | refine blk_normal ?_ | refine blk_ret ?_ | refine blk_same ?_ | refine blk_other ?_ rfl | refine st_nil ?_ | refine dr_nil ?_ | (apply st_pair; exact e1; exact e1) | (apply dr_pair; exact e1; exact e1) | (apply dr_gT; exact e1) | (apply dr_gF; exact e1) | (apply dr_gU; exact e1) | (apply dr_q; exact q1) | (apply dr_ql; exact q1; exact og1) | (apply st_q; exact q1) | (apply st_pA; exact e1; exact e2) | (apply st_pO; exact e1; exact e2) | (apply st_qT; exact e1; exact q1) | (apply st_qF; exact e1) | (apply st_qU; exact e1) | (apply st_eF; exact e1) | (apply st_eU; exact e1) | (apply st_qS; exact e1; exact g1; exact q2) | (apply st_sA; exact e1; exact g1; exact e2; exact e3) | (apply st_sO; exact e1; exact g1; exact e2; exact e3)

      refine cd_count (N := g.nodes[j].labels.length) (by simp only [greatN] at hst; omega) (fun i a hp => hp = h ∧ a.defers = [] ∧ ev a (.tmp 12) = some nv ∧ ev a (.tmp 14) = some (.int .i64 (j : Nat)) ∧ ev a (.tmp 13) = some (.int .i64 (g.nodes.length : Nat)) ∧ ev a (.tmp 34) = some lv ∧ ev a (.tmp 3) = some (.int .i64 ((Y + sumL bigT (g.nodes[j].labels.take i) : Nat) : Int)))
        (by rintro j a hp t w (rfl | rfl | rfl) ⟨h1, h2, h3, h4, h5, h6, h7⟩ <;> exact ⟨h1, by rw [defers_put]; exact h2, by exact e1, by exact e1, by exact e1, by exact e1, by exact e1⟩) (by decide) ?_ ?_ ⟨rfl, by exact n1, by exact e1, by exact e1, by exact e1, by exact e1, by exact e1⟩ (by exact e1) (by exact e1)
      · clear h3 h5 hd h12 hi hn
        rintro i a hp hil ⟨rfl, hd, h12, hi, hn, h34, h3⟩ h36 h35
        have hci : g.nodes[j].labels[i]? = some g.nodes[j].labels[i] := List.getElem?_eq_getElem hil
        obtain ⟨b', o', ver', ro', e', vs', hix', hget', hvo'⟩ := hl.at hci
        replace hget' := hgr.keep _ _ hget'
        have hs2 := sumL_take bigT g.nodes[j].labels i hil
        have hl2 := sumL_le bigT g.nodes[j].labels (i + 1)
        generalize hZ : Y + sumL bigT (g.nodes[j].labels.take i) = Z at h3
        cases cn : decide ((Int.ofNat g.nodes[j].labels[i].length : Int) > 1000)
        · have hb : bigT g.nodes[j].labels[i] = 0 := by
            have := of_decide_eq_false cn
            simp only [bigT]; rw [if_neg]; simp at this; omega
          have he : ((Y + sumL bigT (g.nodes[j].labels.take (i + 1)) : Nat) : Int) = (Z : Int) := by rw [hs2, hb, ← hZ]; rfl
          repeat with_reducible first | refine nxt_normal ?_ | refine nxt_ret ?_ | refine nxt_exit ?_ | refine blk_normal ?_ | refine blk_ret ?_ | refine blk_same ?_ | refine blk_other ?_ rfl | refine st_nil ?_ | refine cd_seq ?_ | refine cd_ops ?_ | refine cd_blockS ?_ | refine cd_blockO ?_ | refine cd_skip ?_ | refine cd_exit ?_ | refine cd_ret ?_ | refine dr_nil ?_ | refine cd_draw ?_ | (apply st_pair; exact e1; exact e1) | (apply dr_pair; exact e1; exact e1) | (apply dr_gT; exact e1) | (apply dr_gF; exact e1) | (apply dr_gU; exact e1) | (apply dr_q; exact q1) | (apply dr_ql; exact q1; exact og1) | (apply st_q; exact q1) | (apply st_pA; exact e1; exact e2) | (apply st_pO; exact e1; exact e2) | (apply st_qT; exact e1; exact q1) | (apply st_qF; exact e1) | (apply st_qU; exact e1) | (apply st_eF; exact e1) | (apply st_eU; exact e1) | (apply st_qS; exact e1; exact g1; exact q2) | (apply st_sA; exact e1; exact g1; exact e2; exact e3) | (apply st_sO; exact e1; exact g1; exact e2; exact e3) | (apply cd_condT; exact e1) | (apply cd_condF; exact e1)
          exact ⟨⟨rfl, by exact n1, by exact e1, by exact e1, by exact e1, by exact e1, by rw [he]; exact e1⟩, by exact e1, by exact e1⟩
        · have hb : bigT g.nodes[j].labels[i] = 1000 := by
            have := of_decide_eq_true cn
            simp only [bigT]; rw [if_pos]; simp at this; omega
          have he : ((Y + sumL bigT (g.nodes[j].labels.take (i + 1)) : Nat) : Int) = ((Z + 1000 : Nat) : Int) := by rw [hs2, hb, ← hZ]; omega
          have hw3 : IntKind.i64.wrap ((Z : Int) + 1000) = ((Z + 1000 : Nat) : Int) := by rw [wrap_small (by omega) (by omega)]; omega
          repeat with_reducible first | refine nxt_normal ?_ | refine nxt_ret ?_ | refine nxt_exit ?_ | refine blk_normal ?_ | refine blk_ret ?_ | refine blk_same ?_ | refine blk_other ?_ rfl | refine st_nil ?_ | refine cd_seq ?_ | refine cd_ops ?_ | refine cd_blockS ?_ | refine cd_blockO ?_ | refine cd_skip ?_ | refine cd_exit ?_ | refine cd_ret ?_ | refine dr_nil ?_ | refine cd_draw ?_ | (apply st_pair; exact e1; exact e1) | (apply dr_pair; exact e1; exact e1) | (apply dr_gT; exact e1) | (apply dr_gF; exact e1) | (apply dr_gU; exact e1) | (apply dr_q; exact q1) | (apply dr_ql; exact q1; exact og1) | (apply st_q; exact q1) | (apply st_pA; exact e1; exact e2) | (apply st_pO; exact e1; exact e2) | (apply st_qT; exact e1; exact q1) | (apply st_qF; exact e1) | (apply st_qU; exact e1) | (apply st_eF; exact e1) | (apply st_eU; exact e1) | (apply st_qS; exact e1; exact g1; exact q2) | (apply st_sA; exact e1; exact g1; exact e2; exact e3) | (apply st_sO; exact e1; exact g1; exact e2; exact e3) | (apply cd_condT; exact e1) | (apply cd_condF; exact e1)
          exact ⟨⟨rfl, by exact n1, by exact e1, by exact e1, by exact e1, by exact e1, by rw [he]; exact e1⟩, by exact e1, by exact e1⟩
      · rintro a hp ⟨rfl, hd, h12, hi, hn, h34, h3⟩
        rw [List.take_length] at h3
        rw [hX] at h3
        exact ⟨⟨hgr, hd, h12, h3⟩, hi, hn⟩
  · rintro a hp ⟨hgr, hd, h12, h3⟩
    rw [List.take_length] at h3
    repeat' with_reducible first | refine nxt_normal ?_ | refine nxt_ret ?_ | refine nxt_exit ?_ | refine blk_normal ?_ | refine blk_ret ?_ | refine blk_same ?_ | refine blk_other ?_ rfl | refine st_nil ?_ | refine cd_seq ?_ | refine cd_ops ?_ | refine cd_blockS ?_ | refine cd_blockO ?_ | refine cd_skip ?_ | refine cd_exit ?_ | refine cd_ret ?_ | refine dr_nil ?_ | refine cd_draw ?_ | (apply st_pair; exact e1; exact e1) | (apply dr_pair; exact e1; exact e1) | (apply dr_gT; exact e1) | (apply dr_gF; exact e1) | (apply dr_gU; exact e1) | (apply dr_q; exact q1) | (apply dr_ql; exact q1; exact og1) | (apply st_q; exact q1) | (apply st_pA; exact e1; exact e2) | (apply st_pO; exact e1; exact e2) | (apply st_qT; exact e1; exact q1) | (apply st_qF; exact e1) | (apply st_qU; exact e1) | (apply st_eF; exact e1) | (apply st_eU; exact e1) | (apply st_qS; exact e1; exact g1; exact q2) | (apply st_sA; exact e1; exact g1; exact e2; exact e3) | (apply st_sO; exact e1; exact g1; exact e2; exact e3) | (apply cd_condT; exact e1) | (apply cd_condF; exact e1) | (apply fin_ret; exact n1; exact r1) | (apply cd_cond; exact e1; all_goals intro _)
    exact ⟨rfl, hgr⟩
end
end Go.Ab.S
end
section
/-
  What is gone through from behind.
-/
namespace Go.Ab.S
open Go.Ab
set_option maxHeartbeats 4000000
section
variable {fns : FuncId → Option AFunc} {summ : FuncId → List AVal → AHeap → Option (D (AVal × AHeap))}

/-- Marks of ranges over functions, all on the way out. -/
theorem lv_all {base : Nat} : ∀ (rs : List Nat) {h : AHeap} {K : AHeap → Prop}, WF h → rs.Nodup → (∀ r ∈ rs, base ≤ r ∧ ∃ ver, h.objs.get r = some (ver, .dfr false)) →
    (∀ h', WF h' → h.next ≤ h'.next → (∀ c, c ∉ rs → h'.objs.get c = h.objs.get c) → (∀ h0, WF h0 → Grow h0 h → h0.next ≤ base → Grow h0 h') → K h') → Lv fns summ (rs.map ADef.collected) h K
  | [], h, K, w, _, _, k => lv_nil (k h w (Nat.le_refl _) (fun _ _ => rfl) (fun _ _ g _ => g))
  | r :: rs, h, K, w, hn, hr, k => by
    obtain ⟨hb, ver, hg⟩ := hr r (by simp)
    have hn' := List.nodup_cons.1 hn
    have p := but_put w hg (.dfr true)
    refine lv_collected hg (lv_all (base := base) rs (p.wf w) hn'.2 (fun r' h' => ?_) fun h' w' hl hs hg' => k h' w' (Nat.le_trans p.next hl) (fun c hc => ?_) fun h0 w0 g hb' => hg' h0 w0 (p.grow h0 w0 g (Nat.le_trans hb' hb)) hb')
    · obtain ⟨h1, ver', h2⟩ := hr r' (by simp [h'])
      exact ⟨h1, ver', p.keep r' (fun e => hn'.1 (e ▸ h')) _ h2⟩
    · simp only [List.mem_cons, not_or] at hc
      rw [hs c hc.2, put_get_ne _ _ _ hc.1]

variable (H : Has fns summ)
include H
theorem Backward_ok (v : AVal) (h : AHeap) (hw : WF h) (hv1 : one v = true) : Cl fns summ 123 [v] h fun r h' => ∃ b ver, r = .func 154 [] [.ptr (some (b, 0))] ∧ h.next ≤ b ∧ h'.objs.get b = some (ver, .cells false 58 [v]) ∧ Grow h h' := by
  refine H.go (fn := F_Backward) rfl (by decide) rfl rfl ?_
  unfold F_Backward
  dsimp only
  refine cd_seq (cd_ops ?_)
  have hc : cellsA v = [v] := by cases v <;> first | rfl | cases hv1
  refine st_box (by exact e1) hc hw ?_
  rintro b h1 hb g1 o1
  repeat' with_reducible first | refine nxt_normal ?_ | refine nxt_ret ?_ | refine nxt_exit ?_ | refine blk_normal ?_ | refine blk_ret ?_ | refine blk_same ?_ | refine blk_other ?_ rfl | refine st_nil ?_ | refine cd_seq ?_ | refine cd_ops ?_ | refine cd_blockS ?_ | refine cd_blockO ?_ | refine cd_skip ?_ | refine cd_exit ?_ | refine cd_ret ?_ | refine dr_nil ?_ | refine cd_draw ?_ | (apply st_pair; exact e1; exact e1) | (apply dr_pair; exact e1; exact e1) | (apply dr_gT; exact e1) | (apply dr_gF; exact e1) | (apply dr_gU; exact e1) | (apply dr_q; exact q1) | (apply dr_ql; exact q1; exact og1) | (apply st_q; exact q1) | (apply st_pA; exact e1; exact e2) | (apply st_pO; exact e1; exact e2) | (apply st_qT; exact e1; exact q1) | (apply st_qF; exact e1) | (apply st_qU; exact e1) | (apply st_eF; exact e1) | (apply st_eU; exact e1) | (apply st_qS; exact e1; exact g1; exact q2) | (apply st_sA; exact e1; exact g1; exact e2; exact e3) | (apply st_sO; exact e1; exact g1; exact e2; exact e3) | (apply cd_condT; exact e1) | (apply cd_condF; exact e1) | (apply fin_ret; exact n1; exact r1) | (apply cd_cond; exact e1; all_goals intro _)
  exact ⟨b, _, rfl, hb, o1, g1⟩

/-- Each element, from behind, is handed on. -/
theorem Backward1_ok (l : List Int) (hl : l.length < 2 ^ 60) (v y : AVal) (b : Nat) (I : Nat → AHeap → Prop) (hb : ∀ k h, I k h → ∃ ver ro e, h.objs.get b = some (ver, .cells ro e [v]) ∧ IntsAt h v l)
    (hy : ∀ k h, I k h → ∀ (hk : k < l.length), Cv fns summ y [.int .i64 ((l.length - 1 - k : Nat) : Int), .int .i64 (l[l.length - 1 - k]'(by omega))] h fun r h' => r = .bool true ∧ I (k + 1) h') (h : AHeap) (hI : I 0 h) :
    Cl fns summ 154 [y, .ptr (some (b, 0))] h fun _ h' => I l.length h' := by
  refine H.go (fn := F_Backward1) rfl (by decide) rfl rfl ?_
  unfold F_Backward1
  dsimp only
  obtain ⟨ver, ro, e, o1, hv⟩ := hb 0 h hI
  have hlen := hv.len
  have hw0 : IntKind.i64.wrap (Int.ofNat l.length - 1) = (l.length : Int) - 1 := by
    show IntKind.i64.wrap ((l.length : Int) - 1) = _
    exact wrap_small (by omega) (by omega)
  repeat with_reducible first | refine nxt_normal ?_ | refine nxt_ret ?_ | refine nxt_exit ?_ | refine blk_normal ?_ | refine blk_ret ?_ | refine blk_same ?_ | refine blk_other ?_ rfl | refine st_nil ?_ | refine cd_seq ?_ | refine cd_ops ?_ | refine cd_blockS ?_ | refine cd_blockO ?_ | refine cd_skip ?_ | refine cd_exit ?_ | refine cd_ret ?_ | refine dr_nil ?_ | refine cd_draw ?_ | (apply st_pair; exact e1; exact e1) | (apply dr_pair; exact e1; exact e1) | (apply dr_gT; exact e1) | (apply dr_gF; exact e1) | (apply dr_gU; exact e1) | (apply dr_q; exact q1) | (apply dr_ql; exact q1; exact og1) | (apply st_q; exact q1) | (apply st_pA; exact e1; exact e2) | (apply st_pO; exact e1; exact e2) | (apply st_qT; exact e1; exact q1) | (apply st_qF; exact e1) | (apply st_qU; exact e1) | (apply st_eF; exact e1) | (apply st_eU; exact e1) | (apply st_qS; exact e1; exact g1; exact q2) | (apply st_sA; exact e1; exact g1; exact e2; exact e3) | (apply st_sO; exact e1; exact g1; exact e2; exact e3) | (apply cd_condT; exact e1) | (apply cd_condF; exact e1)
  refine cd_block ?_
  refine cd_loop (fun m a hp => ∃ k, m = l.length + 1 - k ∧ k ≤ l.length ∧ I k hp ∧ a.defers = [] ∧ ev a (.tmp 0) = some y ∧ ev a (.tmp 1) = some (.ptr (some (b, 0))) ∧ ev a (.tmp 3) = some (.int .i64 ((l.length : Int) - 1 - (k : Nat)))) ?_ (n := l.length + 1) ⟨0, rfl, Nat.zero_le _, hI, by exact n1, by exact e1, by exact e1, by simpa using e1⟩
  clear hI o1 hv
  rintro m a hp ⟨k, hm, hk, hI, hd, h0, h1, h3⟩
  by_cases hlt : k < l.length
  · have hge : decide ((l.length : Int) - 1 - (k : Nat) ≥ 0) = true := by simp; omega
    have hi : (l.length : Int) - 1 - (k : Nat) = ((l.length - 1 - k : Nat) : Int) := by omega
    rw [hi] at h3 hge
    obtain ⟨ver, ro, e, o1, hv⟩ := hb k hp hI
    have hj : l.length - 1 - k < l.length := by omega
    obtain ⟨b', o', ver', ro', e', vs', hix, hget, hvo⟩ := hv.at (List.getElem?_eq_getElem hj)
    have hw1 : IntKind.i64.wrap (((l.length - 1 - k : Nat) : Int) - 1) = (l.length : Int) - 1 - ((k + 1 : Nat) : Int) := by rw [wrap_small (by omega) (by omega)]; omega
    clear hi hv hlen hw0

    repeat with_reducible first | refine nxt_normal ?_ | refine nxt_ret ?_ | refine nxt_exit ?_ | refine blk_normal ?_ | refine blk_ret ?_ | refine blk_same ?_ | refine blk_other ?_ rfl | refine st_nil ?_ | refine cd_seq ?_ | refine cd_ops ?_ | refine cd_blockS ?_ | refine cd_blockO ?_ | refine cd_skip ?_ | refine cd_exit ?_ | refine cd_ret ?_ | refine dr_nil ?_ | refine cd_draw ?_ | (apply st_pair; exact e1; exact e1) | (apply dr_pair; exact e1; exact e1) | (apply dr_gT; exact e1) | (apply dr_gF; exact e1) | (apply dr_gU; exact e1) | (apply dr_q; exact q1) | (apply dr_ql; exact q1; exact og1) | (apply st_q; exact q1) | (apply st_pA; exact e1; exact e2) | (apply st_pO; exact e1; exact e2) | (apply st_qT; exact e1; exact q1) | (apply st_qF; exact e1) | (apply st_qU; exact e1) | (apply st_eF; exact e1) | (apply st_eU; exact e1) | (apply st_qS; exact e1; exact g1; exact q2) | (apply st_sA; exact e1; exact g1; exact e2; exact e3) | (apply st_sO; exact e1; exact g1; exact e2; exact e3) | (apply cd_condT; exact e1) | (apply cd_condF; exact e1)
    refine st_e (ex_call (by exact e1) (by exact s1) ((hy k hp hI hlt).mono ?_))
    rintro _ h2 ⟨rfl, hI2⟩
    repeat with_reducible first | refine nxt_normal ?_ | refine nxt_ret ?_ | refine nxt_exit ?_ | refine blk_normal ?_ | refine blk_ret ?_ | refine blk_same ?_ | refine blk_other ?_ rfl | refine st_nil ?_ | refine cd_seq ?_ | refine cd_ops ?_ | refine cd_blockS ?_ | refine cd_blockO ?_ | refine cd_skip ?_ | refine cd_exit ?_ | refine cd_ret ?_ | refine dr_nil ?_ | refine cd_draw ?_ | (apply st_pair; exact e1; exact e1) | (apply dr_pair; exact e1; exact e1) | (apply dr_gT; exact e1) | (apply dr_gF; exact e1) | (apply dr_gU; exact e1) | (apply dr_q; exact q1) | (apply dr_ql; exact q1; exact og1) | (apply st_q; exact q1) | (apply st_pA; exact e1; exact e2) | (apply st_pO; exact e1; exact e2) | (apply st_qT; exact e1; exact q1) | (apply st_qF; exact e1) | (apply st_qU; exact e1) | (apply st_eF; exact e1) | (apply st_eU; exact e1) | (apply st_qS; exact e1; exact g1; exact q2) | (apply st_sA; exact e1; exact g1; exact e2; exact e3) | (apply st_sO; exact e1; exact g1; exact e2; exact e3) | (apply cd_condT; exact e1) | (apply cd_condF; exact e1)
    exact ⟨l.length + 1 - (k + 1), by omega, k + 1, rfl, by omega, hI2, by exact n1, by exact e1, by exact e1, by exact e1⟩
  · have hge : decide ((l.length : Int) - 1 - (k : Nat) ≥ 0) = false := by simp; omega
    obtain rfl : k = l.length := by omega
    repeat with_reducible first | refine nxt_normal ?_ | refine nxt_ret ?_ | refine nxt_exit ?_ | refine blk_normal ?_ | refine blk_ret ?_ | refine blk_same ?_ | refine blk_other ?_ rfl | refine st_nil ?_ | refine cd_seq ?_ | refine cd_ops ?_ | refine cd_blockS ?_ | refine cd_blockO ?_ | refine cd_skip ?_ | refine cd_exit ?_ | refine cd_ret ?_ | refine dr_nil ?_ | refine cd_draw ?_ | (apply st_pair; exact e1; exact e1) | (apply dr_pair; exact e1; exact e1) | (apply dr_gT; exact e1) | (apply dr_gF; exact e1) | (apply dr_gU; exact e1) | (apply dr_q; exact q1) | (apply dr_ql; exact q1; exact og1) | (apply st_q; exact q1) | (apply st_pA; exact e1; exact e2) | (apply st_pO; exact e1; exact e2) | (apply st_qT; exact e1; exact q1) | (apply st_qF; exact e1) | (apply st_qU; exact e1) | (apply st_eF; exact e1) | (apply st_eU; exact e1) | (apply st_qS; exact e1; exact g1; exact q2) | (apply st_sA; exact e1; exact g1; exact e2; exact e3) | (apply st_sO; exact e1; exact g1; exact e2; exact e3) | (apply cd_condT; exact e1) | (apply cd_condF; exact e1)
    refine fin_normal (by exact n1) (v := .tuple []) (by exact r1) hI
end
end Go.Ab.S
end
section
/-
  What is reached: the law of it, and small rules.
-/
namespace Go.Ab.S
open Go.Ab
set_option maxHeartbeats 4000000
section
variable {fns : FuncId → Option AFunc} {summ : FuncId → List AVal → AHeap → Option (D (AVal × AHeap))} {ro : Option Nat}
theorem rep_one (z : AVal) : ∀ n, rep [z] n = List.replicate n z
  | 0 => rfl
  | n + 1 => by simp only [rep, rep_one z n, List.replicate_succ]; rfl
theorem st_mkslice {d : Option Tmp} {e : TypeId} {bytes n : Nat} {z : AVal} {x y : AOpd} {l : List Step} {a : AAct} {h : AHeap} {K : AAct → AHeap → Prop} (hx : ev a x = some (.int .i64 (Int.ofNat n))) (hy : ev a y = some (.int .i64 (Int.ofNat n))) (hn : n ≤ 2 ^ 30) (hr : roomA bytes n = true) (w : WF h)
    (k : ∀ b h', h.next ≤ b → Grow h h' → h'.objs.get b = some (b, .cells false e (List.replicate n z)) → St fns summ ro l (putA a d (.slice (some (b, 0)) n)) h' K) : St fns summ ro (⟨d, none, .e (.mkslice e 1 bytes [z] x y)⟩ :: l) a h K := by
  refine st_t (by intro _ _ hh; cases hh) (by intro _ _ hh; cases hh) (v := .slice (some (h.next, 0)) n) (h' := newA h (.cells false e (List.replicate n z))) ?_ (k _ _ (Nat.le_refl _) ((Grow.refl w).new _) (new_get_same _ _))
  have h1 : asNat (.int .i64 (Int.ofNat n)) = some n := by simp [asNat]
  have h30 : (2 : Nat) ^ 30 ≤ 2 ^ 40 := by decide
  have hc : n ≤ n ∧ n ≤ 2 ^ 40 ∧ roomA bytes n = true := ⟨Nat.le_refl _, Nat.le_trans hn h30, hr⟩
  simp only [turnA, hx, hy, h1, if_pos hc, rep_one]
theorem st_bslice1 {d : Option Tmp} {e : TypeId} {sz : Nat} {z cs : List AVal} {x : AOpd} {v : AVal} {l : List Step} {a : AAct} {h : AHeap} {K : AAct → AHeap → Prop} (hx : ev a x = some v) (hcs : cellsA v = cs) (hl : cs.length = sz) (hz : z.length = sz) (w : WF h)
    (k : ∀ b h', h.next ≤ b → Grow h h' → h'.objs.get b = some (b, .cells false e cs) → St fns summ ro l (putA a d (.slice (some (b, 0)) 1)) h' K) : St fns summ ro (⟨d, none, .e (.bslice e sz 1 z [(0, x)])⟩ :: l) a h K := by
  refine st_t (by intro _ _ hh; cases hh) (by intro _ _ hh; cases hh) (v := .slice (some (h.next, 0)) 1) (h' := newA h (.cells false e cs)) ?_ (k _ _ (Nat.le_refl _) ((Grow.refl w).new _) (new_get_same _ _))
  have hr : rep z 1 = z := by simp [rep]
  have hcc : cs.length = sz ∧ 0 * sz + sz ≤ z.length := ⟨hl, by omega⟩
  have hd : z.drop (0 * sz + sz) = [] := List.drop_eq_nil_of_le (by omega)
  simp only [turnA, hr, rowA, hx, hcs, if_pos hcc, hd]
  simp
/-- One element is put behind. -/
theorem st_append1 {d : Option Tmp} {e : TypeId} {sz base bytes n b ver : Nat} {cells new : List AVal} {rb : Bool} {eb : TypeId} {v : AVal} {x y : AOpd} {l : List Step} {a : AAct} {h : AHeap} {K : AAct → AHeap → Prop} (hs : ev a x = some v) (hx : ev a y = some (.slice (some (b, 0)) 1)) (B : Built h base e sz v n cells)
    (hb : h.objs.get b = some (ver, .cells rb eb new)) (hnl : new.length = sz) (ho : new.all one = true) (hr : roomA bytes (n + 1) = true) (w : WF h) (hbase : base ≤ h.next)
    (k : ∀ v' h', Built h' base e sz v' (n + 1) (cells ++ new) → (∀ c j, v' = .slice (some (c, 0)) j → h.next ≤ c) → WF h' → h.next ≤ h'.next → (∀ h0, WF h0 → Grow h0 h → h0.next ≤ base → Grow h0 h') → (∀ c p, h.objs.get c = some p → (∀ n, v ≠ .slice (some (c, 0)) n) → h'.objs.get c = some p) → St fns summ ro l (putA a d v') h' K) :
    St fns summ ro (⟨d, none, .e (.append e sz bytes x y)⟩ :: l) a h K :=
  st_append hs hx B (m := 1) rfl (by decide) (by simp only [cellsOfA, hb, Nat.one_mul, Nat.zero_add]; rw [if_pos (by omega), List.drop_zero, List.take_of_length_le (by omega)]) ho hr (by omega) w hbase k
end

/-! ### What is reached -/
def argsN (ns : List Node) (i : Int) : List Int := match ns[i.toNat]? with | some n => n.args | none => []
/-- Gone through, what waits being on the left. -/
def reachG (ns : List Node) : Nat → List Int → List Int → List Int
  | 0, _, out => out
  | _ + 1, [], out => out
  | m + 1, a :: st, out => if out.contains a then reachG ns m st out else reachG ns m (argsN ns a ++ st) (out ++ [a])
def leftG (out : List Int) : List Node → Nat → Nat
  | [], _ => 0
  | n :: r, i => (if out.contains (i : Int) then 0 else n.args.length) + leftG out r (i + 1)
def reachF (g : Graph) : List Int := if checkF g = 0 then reachG g.nodes (1 + leftG [] g.nodes 0) [g.root] [] else []
theorem leftG_put (out : List Int) (a : Nat) : ∀ (ns : List Node) (i : Nat), (a < i → leftG (out ++ [(a : Int)]) ns i = leftG out ns i) ∧ (i ≤ a → out.contains (a : Int) = false → ∀ n, ns[a - i]? = some n → leftG (out ++ [(a : Int)]) ns i + n.args.length = leftG out ns i)
  | [], i => ⟨fun _ => rfl, fun _ _ n h => by simp at h⟩
  | n :: r, i => by
    have ih := leftG_put out a r (i + 1)
    have hc : ∀ j : Nat, j ≠ a → (out ++ [(a : Int)]).contains (j : Int) = out.contains (j : Int) := fun j hj => by
      have : ¬ (j : Int) = (a : Int) := by omega
      simp [this]
    refine ⟨fun h => ?_, fun h ho m hm => ?_⟩
    · simp only [leftG, hc i (by omega), ih.1 (by omega)]
    · by_cases hi : i = a
      · subst hi
        simp only [Nat.sub_self, List.getElem?_cons_zero, Option.some.injEq] at hm
        subst hm
        have h1 : (out ++ [(i : Int)]).contains (i : Int) = true := by simp
        simp only [leftG, h1, ho, if_true, Bool.false_eq_true, if_false, ih.1 (by omega)]
        omega
      · have h2 : r[a - (i + 1)]? = some m := by
          rw [show a - i = (a - (i + 1)) + 1 by omega, List.getElem?_cons_succ] at hm
          exact hm
        have := ih.2 (by omega) ho m h2
        simp only [leftG, hc i hi]
        omega
theorem leftG_le (out : List Int) : ∀ (ns : List Node) (i : Nat), leftG out ns i ≤ leftG [] ns i
  | [], _ => Nat.le_refl _
  | n :: r, i => by
    have := leftG_le out r (i + 1)
    simp only [leftG]
    split <;> simp <;> omega
def metC (n : Nat) (out : List Int) : List AVal := (List.range n).map fun (i : Nat) => AVal.bool (out.contains (i : Int))
theorem metC_get {n : Nat} {out : List Int} {i : Nat} (h : i < n) : (metC n out)[i]? = some (.bool (out.contains (i : Int))) := by
  simp [metC, h]
theorem metC_nil (n : Nat) : List.replicate n (AVal.bool false) = metC n [] := by
  apply List.ext_getElem?
  intro i
  by_cases h : i < n
  · rw [metC_get h]; simp [h]
  · simp [metC, h]
theorem metC_put {n : Nat} {out : List Int} {a : Nat} (h : a < n) : (metC n out).take a ++ [AVal.bool true] ++ (metC n out).drop (a + 1) = metC n (out ++ [(a : Int)]) := by
  apply List.ext_getElem?
  intro i
  by_cases hi : i < n
  · rw [metC_get hi]
    rcases Nat.lt_trichotomy i a with h1 | h1 | h1
    · have : ¬ (i : Int) = (a : Int) := by omega
      rw [List.append_assoc, List.getElem?_append_left (by simp [metC]; omega), List.getElem?_take, if_pos h1, metC_get hi]
      simp [this]
    · subst h1
      rw [List.append_assoc, List.getElem?_append_right (by simp [metC]; omega)]
      simp [metC, Nat.min_eq_left (Nat.le_of_lt h)]
    · have : ¬ (i : Int) = (a : Int) := by omega
      rw [List.getElem?_append_right (by simp [metC]; omega)]
      have hl : ((metC n out).take a ++ [AVal.bool true]).length = a + 1 := by simp [metC]; omega
      rw [hl, List.getElem?_drop, show a + 1 + (i - (a + 1)) = i by omega, metC_get hi]
      simp [this]
  · have h1 : ((metC n out).take a ++ [AVal.bool true] ++ (metC n out).drop (a + 1)).length = n := by simp [metC]; omega
    rw [List.getElem?_eq_none (by omega), List.getElem?_eq_none (by simp [metC]; omega)]
end Go.Ab.S
end
