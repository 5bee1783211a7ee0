import Derived.Test.YtapnoohglfhgeaaGreatDoorP19
import Derived.Test.YtapnoohglfhgeaaGreatDoorP21
/-
  Part 22 of the proof.
-/
set_option linter.all false
section
/-
  Whether a class's type may be, and its fields, by definition: the walks.
-/
namespace Go.Ab.S
open Go.Ab
set_option maxHeartbeats 4000000
theorem arrow_name {n : Node} {N : Int} (h : mayF n N = true) : isArrow n = eqL n.name [45, 62] := by
  unfold isArrow
  cases he : eqL n.name [45, 62]
  · simp
  · have := kind_of_name h (by rw [eqL_iff.1 he]; simp)
    rw [this]; rfl
theorem star_name {n : Node} {N : Int} (h : mayF n N = true) : isStar n = eqL n.name [42] := by
  unfold isStar
  cases he : eqL n.name [42]
  · simp
  · have := kind_of_name h (by rw [eqL_iff.1 he]; simp)
    rw [this]; rfl
section
variable {fns : FuncId → Option AFunc} {summ : FuncId → List AVal → AHeap → Option (D (AVal × AHeap))}
variable (H : Has fns summ)
include H
theorem rParts_ok (c : CDef) (hc : zAT c.g = 0) (hp : 0 ≤ c.params ∧ c.params ≤ 100) (nv cv vv : AVal) (h : AHeap) (hw : WF h) (hN : NodesAt h nv c.g.nodes) :
    Cl fns summ 41 [.agg [.int .i64 c.params, nv, .int .i64 c.g.root, cv, vv]] h fun r h' => (∃ pv f s, r = .tuple [pv, .int .i64 f, .int .i64 s, .bool (bodyF c).isSome] ∧ ∀ p, bodyF c = some p → f = p.1 ∧ s = p.2) ∧ Grow h h' := by
  obtain ⟨N, hNp⟩ : ∃ N : Nat, c.params = (N : Int) := ⟨c.params.toNat, by omega⟩
  have hcr := check_root hc
  have hmay := Hid.mk hcr.2.2.2
  have hdown : c.params.toNat = N := by rw [hNp]; exact Int.toNat_natCast N
  rw [hNp]
  refine H.go (fn := F_rParts) rfl (by decide) rfl rfl ?_
  unfold F_rParts
  dsimp only [qQ, qE, qN, gQ, gE, vi]
  refine zAC (zAD ?_)
  refine st_box (by exact e1) (by exact cc) hw ?_
  rintro b1 h1 hb1 g1 o1
  have w1 := g1.wf
  have hN1 := hN.mono g1
  have hN100 : N ≤ 100 := by omega
  repeat with_reducible first | refine zAA ?_ | refine zAB ?_ | refine zAC ?_ | refine zAD ?_ | (apply st_q; exact q1)
  refine cd_block ?_
  refine cd_loop (fun m a hp => ∃ (j : Nat) (x : Int) (pv : AVal) (ps : List Int), m + j = N ∧ Grow h1 hp ∧ a.defers = [] ∧ ev a (.tmp 1) = some (.ptr (some (b1, 0))) ∧ ev a (.tmp 6) = some (.int .i64 x) ∧ ev a (.tmp 7) = some pv ∧ ev a (.tmp 8) = some (.int .i64 (j : Nat)) ∧
      Built hp h1.next 3 1 pv ps.length (ps.map (AVal.int .i64)) ∧ ps.length = j ∧ (0 ≤ x ∧ x < c.g.nodes.length) ∧ downF c.g N c.g.root = downF c.g (N - j) x) ?_ (n := N)
    ⟨0, c.g.root, _, [], rfl, Grow.refl w1, by exact n1, by exact e1, by exact e1, by exact e1, by exact e1, .inl ⟨rfl, rfl, rfl⟩, rfl, ⟨hcr.1, hcr.2.1⟩, rfl⟩
  rintro m a hp ⟨j, x, pv, ps, hm, G, hd, t1, t6, t7, t8, B, hps, hx, hdw⟩
  have o1p := G.keep _ _ o1
  obtain ⟨kx, bx, ox, verx, rox, ex, vsx, av, lv, hkx, hsx, hgx, hpxl, hpx, hia, hil⟩ := node_at hN1 hx
  replace hgx := G.keep _ _ hgx
  have hm1 := hmay.out _ (node_in hx)
  have hone := ones_node (n := zAH c.g x) hia.len hil.len
  have t6' : ev a (.tmp 6) = some (.int .i64 (kx : Nat)) := by rw [t6, hkx]
  replace hkx := Hid.mk hkx
  by_cases hlt : j < N
  · have hlt' : decide ((j : Int) < (N : Int)) = true := by simpa using hlt
    rw [sub_succ hlt, downF, arrow_name hm1] at hdw
    clear t6
    repeat with_reducible first | refine zAA ?_ | refine zAB ?_ | refine zAC ?_ | refine zAD ?_ | refine zAK ?_ | refine zAL ?_ | (apply st_q; exact q1) | (apply zAF; exact e1)
    refine st_alloc G.wf ?_
    rintro b9 h9 hb9 g9 o9
    refine zAP (by exact e1) (by exact e1) (cs := [.int .i64 (zAH c.g x).kind, .str (zAH c.g x).name, av, lv, .bool (zAH c.g x).isOpen]) rfl rfl g9.wf o9 (by simp) hone ?_
    rintro v4 h4 p4 o4
    simp only [List.take_zero, List.nil_append, List.length_cons, List.length_nil, List.drop_succ_cons, List.drop_zero, List.append_nil, Nat.zero_add, Nat.reduceAdd, List.drop_nil, List.cons_append] at o4
    have g4 : Grow hp h4 := p4.grow hp G.wf g9 hb9
    have G4 := G.trans g4
    have B4 := B.grow g4
    clear o9 g9 p4 B hgx o1p
    have o14 := G4.keep _ _ o1
    cases hna : eqL (zAH c.g x).name [45, 62]
    · have hb : Hid (bodyF c = none) := ⟨by
        rw [hna] at hdw
        unfold bodyF; rw [hdown, hdw]; rfl⟩
      clear hdw
      repeat' with_reducible first | refine zAA ?_ | refine zAN ?_ | refine blk_ret ?_ | refine zAB ?_ | refine zAC ?_ | refine zAD ?_ | refine zAG ?_ | (apply st_q; exact q1) | (apply zAF; exact e1) | (apply zAE; exact n1; exact r1)
      exact ⟨⟨_, 0, 0, by rw [hb.out]; rfl, fun p hp => by rw [hb.out] at hp; cases hp⟩, g1.trans G4⟩
    · rw [hna, if_pos rfl] at hdw
      have hal := arrow_args hm1 (.inl (by rw [arrow_name hm1, hna]))
      have hy := may_args hm1 _ (getD_mem (l := (zAH c.g x).args) (i := 1) (by omega))
      obtain ⟨bi, oi, veri, roi, ei, vsi, hsi, hgi, hvi⟩ := int_at hia (k := 0) (by omega)
      obtain ⟨bj, oj, verj, roj, ej, vsj, hsj, hgj, hvj⟩ := int_at hia (k := 1) (by omega)
      have hq0 := ix_lit hsi
      have hq1 := ix_lit hsj
      have hgi4 := G4.keep _ _ hgi
      replace hdw := Hid.mk hdw
      replace hy := Hid.mk hy
      have hroom : roomA 8 (ps.length + 1) = true := roomOK H (by decide) (by omega)
      clear hal hm1
      generalize (zAH c.g x).args.getD 0 0 = y0 at *
      generalize (zAH c.g x).args.getD 1 0 = y1 at *
      repeat with_reducible first | refine zAA ?_ | refine zAB ?_ | refine zAC ?_ | refine zAD ?_ | refine zAL ?_ | (apply st_q; exact q1) | (apply zAI; exact e1)
      refine st_q (hq0.out _ _ _ (by exact e1)) ?_
      repeat with_reducible (apply st_q; exact q1)
      refine st_bslice1 (by exact e1) (by exact cc) rfl rfl G4.wf ?_
      rintro bs h5 hbs g5 o5
      have o45 := g5.keep _ _ o4
      have l4 := G4.wf.lt o4
      have G5 := G4.trans g5
      refine st_append1 (by exact e1) (by exact e1) (B4.grow g5) o5 rfl rfl hroom G5.wf G5.next ?_
      intro v' h6 B6 _ w6 n6 gg6 kk6
      have G6 := gg6 h1 w1 G5 (Nat.le_refl _)
      have o46 := kk6 _ _ o45 (built_ne (B4.grow g5) o45 (fun vs hh => by cases hh))
      have hgj6 := G6.keep _ _ hgj
      clear B4 o4 o45 hgi hgi4 hgj gg6 kk6 g5 o5 g4
      repeat with_reducible first | refine zAA ?_ | refine zAB ?_ | refine zAD ?_ | (apply st_q; exact q1)
      refine st_q (hq1.out _ _ _ (by exact e1)) ?_
      have hwj : IntKind.i64.wrap ((j : Int) + 1) = ((j + 1 : Nat) : Int) := by rw [wrap_small (by omega) (by omega)]; omega
      repeat with_reducible first | refine zAA ?_ | refine zAJ ?_ | refine zAB ?_ | refine zAD ?_ | (apply st_q; exact q1)
      refine ⟨m - 1, by omega, j + 1, y1, v', ps ++ [y0], by omega, G6, by exact n1, by exact e1, by exact e1, by exact e1, by exact e1, by rw [List.length_append, List.map_append]; exact B6, by simp; omega, hy.out, hdw.out⟩
  · have hlt' : decide ((j : Int) < (N : Int)) = false := by simpa using hlt
    have hjN : N - j = 0 := by omega
    rw [hjN, downF] at hdw
    have hbd : Hid (bodyF c = partF c.g x) := ⟨by unfold bodyF; rw [hdown, hdw]⟩
    clear t6 hdw hjN
    repeat with_reducible first | refine zAA ?_ | refine nxt_exit ?_ | refine blk_same ?_ | refine zAB ?_ | refine zAC ?_ | refine zAD ?_ | refine cd_exit ?_ | (apply st_q; exact q1) | (apply zAI; exact e1)
    refine st_alloc G.wf ?_
    rintro b10 h9 hb10 g9 o9
    refine zAP (by exact e1) (by exact e1) (cs := [.int .i64 (zAH c.g x).kind, .str (zAH c.g x).name, av, lv, .bool (zAH c.g x).isOpen]) rfl rfl g9.wf o9 (by simp) hone ?_
    rintro v4 h4 p4 o4
    simp only [List.take_zero, List.nil_append, List.length_cons, List.length_nil, List.drop_succ_cons, List.drop_zero, List.append_nil, Nat.zero_add, Nat.reduceAdd, List.drop_nil, List.cons_append] at o4
    have g4 : Grow hp h4 := p4.grow hp G.wf g9 hb10
    have G4 := G.trans g4
    clear o9 g9 p4 B hgx o1p
    have o14 := G4.keep _ _ o1
    cases hna : eqL (zAH c.g x).name [42]
    · have hb : Hid (bodyF c = none) := ⟨by
        rw [hbd.out]; unfold partF; rw [star_name hm1, hna]; rfl⟩
      repeat' with_reducible first | refine zAA ?_ | refine zAN ?_ | refine zAB ?_ | refine zAC ?_ | refine zAD ?_ | refine zAG ?_ | (apply st_q; exact q1) | (apply zAF; exact e1) | (apply zAE; exact n1; exact r1)
      exact ⟨⟨_, 0, 0, by rw [hb.out]; rfl, fun p hp => by rw [hb.out] at hp; cases hp⟩, g1.trans G4⟩
    · have hst : isStar (zAH c.g x) = true := by rw [star_name hm1, hna]
      have hal := arrow_args hm1 (.inr hst)
      have hy0 := may_args hm1 _ (getD_mem (l := (zAH c.g x).args) (i := 0) (by omega))
      have hy1 := may_args hm1 _ (getD_mem (l := (zAH c.g x).args) (i := 1) (by omega))
      have hbe : bodyF c = if bothObj (zAH c.g ((zAH c.g x).args.getD 0 0)) (zAH c.g ((zAH c.g x).args.getD 1 0)) then some ((zAH c.g x).args.getD 0 0, (zAH c.g x).args.getD 1 0) else none := by
        rw [hbd.out]; unfold partF; rw [if_pos hst]; rfl
      obtain ⟨bi, oi, veri, roi, ei, vsi, hsi, hgi, hvi⟩ := int_at hia (k := 0) (by omega)
      obtain ⟨bj, oj, verj, roj, ej, vsj, hsj, hgj, hvj⟩ := int_at hia (k := 1) (by omega)
      have hq0 := ix_lit hsi
      have hq1 := ix_lit hsj
      have hvi' := hvi
      have hvj' := hvj
      obtain ⟨k0, bx0, ox0, verx0, rox0, ex0, vsx0, av0, lv0, hk0, hsx0, hgx0, hpxl0, hpx0, hia0, hil0⟩ := node_at hN1 hy0
      obtain ⟨k1, bx1, ox1, verx1, rox1, ex1, vsx1, av1, lv1, hk1, hsx1, hgx1, hpxl1, hpx1, hia1, hil1⟩ := node_at hN1 hy1
      have hgi1 := hgi
      have hgj1 := hgj
      have hgx11 := hgx1
      have p10lt := G4.wf.lt o4
      replace hgi := G4.keep _ _ hgi
      replace hgj := G4.keep _ _ hgj
      replace hgx0 := G4.keep _ _ hgx0
      replace hgx1 := G4.keep _ _ hgx1
      have z0 := ones_node (n := zAH c.g ((zAH c.g x).args.getD 0 0)) hia0.len hil0.len
      have z1 := ones_node (n := zAH c.g ((zAH c.g x).args.getD 1 0)) hia1.len hil1.len
      rw [hk0] at hvi'
      rw [hk1] at hvj'
      clear hvi hvj hal hst hm1 hbd hpx hpxl hsx
      generalize hY0 : (zAH c.g x).args.getD 0 0 = y0 at *
      generalize hY1 : (zAH c.g x).args.getD 1 0 = y1 at *
      clear hY0 hY1
      replace hbe := Hid.mk hbe
      replace hk0 := Hid.mk hk0
      replace hk1 := Hid.mk hk1
      repeat with_reducible first | refine zAA ?_ | refine zAB ?_ | refine zAC ?_ | refine zAD ?_ | refine zAL ?_ | refine cd_draw ?_ | (apply dr_q; exact q1) | (apply dr_ql; exact q1; exact og1) | (apply st_q; exact q1) | (apply zAI; exact e1)
      refine dr_q (hq0.out _ _ _ (by exact e1)) ?_
      repeat with_reducible first | (apply dr_q; exact q1) | (apply dr_ql; exact q1; exact og1)
      refine dr_q (hq1.out _ _ _ (by exact e1)) ?_
      repeat with_reducible first | (apply dr_q; exact q1) | (apply dr_ql; exact q1; exact og1)
      refine dr_st (st_alloc G4.wf ?_)
      rintro b11 h5 hb11 g5 o11
      have G5 := G4.trans g5
      have o45 := g5.keep _ _ o4
      have o15 := g5.keep _ _ o14
      have hgi5 := g5.keep _ _ hgi
      have hgj5 := g5.keep _ _ hgj
      have hgx05 := g5.keep _ _ hgx0
      have hgx15 := g5.keep _ _ hgx1
      refine zAB ⟨by simp [heldOk, Nat.testBit, o45, o15, hgi5, hgj5, hgx05, hgx15], ?_⟩
      refine dr_st (st_alloc G5.wf ?_)
      rintro b12 h6 hb12 g6 o12
      have l11 := g5.wf.lt o11
      have G6 := G5.trans g6
      replace o11 := g6.keep _ _ o11
      replace o4 := g6.keep _ _ o45
      replace o14 := g6.keep _ _ o15
      replace hgi := g6.keep _ _ hgi5
      replace hgj := g6.keep _ _ hgj5
      replace hgx0 := g6.keep _ _ hgx05
      replace hgx1 := g6.keep _ _ hgx15
      refine zAB ⟨by simp [heldOk, Nat.testBit, o4, o14, hgi, hgj, hgx0, hgx1], ?_⟩
      clear o45 o15 hgi5 hgj5 hgx05 hgx15
      refine dr_st (zAP (by exact e1) (by exact e1) (cs := [.int .i64 (zAH c.g y0).kind, .str (zAH c.g y0).name, av0, lv0, .bool (zAH c.g y0).isOpen]) rfl rfl G6.wf o11 (by simp) z0 ?_)
      rintro v7 h7 p7 o27
      simp only [List.take_zero, List.nil_append, List.length_cons, List.length_nil, List.drop_succ_cons, List.drop_zero, List.append_nil, Nat.zero_add, Nat.reduceAdd, List.drop_nil, List.cons_append] at o27
      have m5 := g5.next
      have o17 := p7.keep b1 (by have := G4.wf.lt (G4.keep _ _ o1); omega) _ o14
      have o47 := p7.keep b10 (by have := p10lt; omega) _ o4
      have o127 := p7.keep b12 (by omega) _ o12
      have hgi7 := p7.keep bi (by have := w1.lt hgi1; have := G4.next; omega) _ hgi
      have hgj7 := p7.keep bj (by have := w1.lt hgj1; have := G4.next; omega) _ hgj
      have hgx17 := p7.keep bx1 (by have := w1.lt hgx11; have := G4.next; omega) _ hgx1
      have G7 : Grow h1 h7 := p7.grow h1 w1 G6 (by have := G4.next; omega)
      refine zAB ⟨by simp [heldOk, Nat.testBit, o17, o47, hgj7, hgx17], ?_⟩
      refine dr_st (zAP (by exact e1) (by exact e1) (cs := [.int .i64 (zAH c.g y1).kind, .str (zAH c.g y1).name, av1, lv1, .bool (zAH c.g y1).isOpen]) rfl rfl G7.wf o127 (by simp) z1 ?_)
      rintro v8 h8 p8 o38
      simp only [List.take_zero, List.nil_append, List.length_cons, List.length_nil, List.drop_succ_cons, List.drop_zero, List.append_nil, Nat.zero_add, Nat.reduceAdd, List.drop_nil, List.cons_append] at o38
      have n7 := p7.next
      have m6 := g6.next
      have o28 := p8.keep b11 (by omega) _ o27
      have o48 := p8.keep b10 (by have := p10lt; omega) _ o47
      have hgi8 := p8.keep bi (by have := w1.lt hgi1; have := G4.next; omega) _ hgi7
      have hgj8 := p8.keep bj (by have := w1.lt hgj1; have := G4.next; omega) _ hgj7
      refine zAB ⟨by simp [heldOk, Nat.testBit], ?_⟩
      have G8 : Grow h1 h8 := p8.grow h1 w1 G7 (by have := G4.next; omega)
      have hn0 : ((zAH c.g y0).kind != 3) = !((zAH c.g y0).kind == 3) := rfl
      have hn1 : ((zAH c.g y1).kind != 3) = !((zAH c.g y1).kind == 3) := rfl
      clear o4 o14 hgi hgj hgx0 hgx1 hgi1 hgj1 hgx11 o11 o12 o17 o47 o127 hgi7 hgj7 hgx17 o27 hsx0 hsx1 hpxl0 hpxl1 hpx0 hpx1 p7 p8 G7 G6 G5 G4 g4 g5 g6 hna
      cases d1 : (zAH c.g y0).kind == 3
      · have hb : Hid (bodyF c = none) := ⟨by rw [hbe.out]; simp only [bothObj, d1, Bool.false_and]; rfl⟩
        repeat' with_reducible first | refine zAA ?_ | refine zAN ?_ | refine zAB ?_ | refine zAC ?_ | refine zAD ?_ | refine zAG ?_ | refine dr_nil ?_ | (apply st_q; exact q1) | (apply st_qF; exact e1) | (apply zAF; exact e1) | (apply zAE; exact n1; exact r1)
        exact ⟨⟨_, 0, 0, by rw [hb.out]; rfl, fun p hp => by rw [hb.out] at hp; cases hp⟩, g1.trans G8⟩
      cases d2 : (zAH c.g y0).isOpen
      rotate_left
      · have hb : Hid (bodyF c = none) := ⟨by rw [hbe.out]; simp only [bothObj, d1, d2, Bool.not_true, Bool.and_false, Bool.false_and]; rfl⟩
        repeat' with_reducible first | refine zAA ?_ | refine zAN ?_ | refine zAB ?_ | refine zAC ?_ | refine zAD ?_ | refine zAG ?_ | refine dr_nil ?_ | (apply st_q; exact q1) | (apply st_qT; exact e1; exact q1) | (apply st_qF; exact e1) | (apply zAF; exact e1) | (apply zAE; exact n1; exact r1)
        exact ⟨⟨_, 0, 0, by rw [hb.out]; rfl, fun p hp => by rw [hb.out] at hp; cases hp⟩, g1.trans G8⟩
      cases d3 : (zAH c.g y1).kind == 3
      · have hb : Hid (bodyF c = none) := ⟨by rw [hbe.out]; simp only [bothObj, d1, d2, d3, Bool.and_false]; rfl⟩
        repeat' with_reducible first | refine zAA ?_ | refine zAN ?_ | refine zAB ?_ | refine zAC ?_ | refine zAD ?_ | refine zAG ?_ | refine dr_nil ?_ | (apply st_q; exact q1) | (apply st_qT; exact e1; exact q1) | (apply zAF; exact e1) | (apply zAE; exact n1; exact r1)
        exact ⟨⟨_, 0, 0, by rw [hb.out]; rfl, fun p hp => by rw [hb.out] at hp; cases hp⟩, g1.trans G8⟩
      · have hb : Hid (bodyF c = some (y0, y1)) := ⟨by rw [hbe.out]; simp only [bothObj, d1, d2, d3, Bool.not_false, Bool.and_self, if_true]⟩
        repeat with_reducible first | refine zAA ?_ | refine zAB ?_ | refine zAC ?_ | refine zAD ?_ | refine zAL ?_ | refine dr_nil ?_ | refine cd_draw ?_ | (apply dr_q; exact q1) | (apply dr_ql; exact q1; exact og1) | (apply st_q; exact q1) | (apply st_qT; exact e1; exact q1) | (apply zAI; exact e1)
        refine dr_q (hq0.out _ _ _ (by exact e1)) ?_
        repeat with_reducible first | (apply dr_q; exact q1) | (apply dr_ql; exact q1; exact og1)
        refine dr_q (hq1.out _ _ _ (by exact e1)) ?_
        repeat' with_reducible first | refine zAA ?_ | refine zAG ?_ | refine dr_nil ?_ | (apply dr_q; exact q1) | (apply dr_ql; exact q1; exact og1) | (apply zAE; exact n1; exact r1)
        exact ⟨⟨_, _, _, by rw [hb.out, hk0.out, hk1.out]; rfl, fun p hp => by rw [hb.out] at hp; cases hp; exact ⟨hk0.out.symm, hk1.out.symm⟩⟩, g1.trans G8⟩
end
end Go.Ab.S
end
section
/-
  Whether a class's type may be, and its fields, by definition: the walks, altogether.
-/
namespace Go.Ab.S
open Go.Ab
set_option maxHeartbeats 4000000
section
variable {fns : FuncId → Option AFunc} {summ : FuncId → List AVal → AHeap → Option (D (AVal × AHeap))}
variable (H : Has fns summ)
include H
theorem rCheckClass_ok (c : CDef) (hs : CSm c) (nv cv vv : AVal) (h : AHeap) (hw : WF h) (hN : NodesAt h nv c.g.nodes) (hcv : StrsAt h cv c.conc) (hvv : StrsAt h vv c.virt) :
    Cl fns summ 15 [.agg [.int .i64 c.params, nv, .int .i64 c.g.root, cv, vv]] h fun r h' => r = .int .i64 (rckF c) ∧ Grow h h' := by
  have e31 : (2 : Nat) ^ 31 = 2147483648 := by decide
  have e60 : (2 : Nat) ^ 60 = 1152921504606846976 := by decide
  have sc := Hid.mk hs
  clear hs
  refine H.go (fn := F_rCheckClass) rfl (by decide) rfl rfl ?_
  unfold F_rCheckClass
  dsimp only [qQ, qE, qN, gQ, gE, vi]
  refine zAC (zAD ?_)
  refine st_box (by exact e1) (by exact cc) hw ?_
  rintro b1 h1 hb1 g1 o1
  have ht2 := take21
  have ht5 := take5
  repeat with_reducible first | refine zAA ?_ | refine zAB ?_ | refine zAC ?_ | refine zAD ?_ | (apply st_q; exact q1)
  refine zAS (by exact s1) ((rCheck_ok H c.g sc.out.g _ h1 g1.wf ⟨nv, rfl, hN.mono g1⟩).mono ?_)
  rintro _ h2 ⟨rfl, g2⟩
  replace o1 := g2.keep _ _ o1
  have G := g1.trans g2
  cases hck : (zAT c.g != 0)
  rotate_left
  · have hr : rckF c = zAT c.g := by
      unfold rckF; rw [if_pos (by simpa using hck)]
    replace hr := Hid.mk hr
    repeat' with_reducible first | refine zAA ?_ | refine zAN ?_ | refine zAB ?_ | refine zAC ?_ | refine zAD ?_ | refine zAG ?_ | (apply st_q; exact q1) | (apply zAF; exact e1) | (apply zAE; exact n1; exact r1)
    exact ⟨by rw [hr.out], G⟩
  have hc : zAT c.g = 0 := by simpa using hck
  have hr : rckF c = if headOK c then (match bodyF c with
    | none => 2
    | some p => if allIn c (zAH c.g p.2).labels then 0 else 2) else 2 := by
    unfold rckF; rw [if_neg (by simpa using hc)]; rfl
  replace hr := Hid.mk hr
  replace hc := Hid.mk hc
  have bad : headOK c = false → Hid (rckF c = 2) := fun hh => ⟨by rw [hr.out, hh]; rfl⟩
  unfold headOK at bad
  cases c1 : decide (c.params < 0)
  rotate_left
  · have hb := bad (by rw [c1]; rfl)
    clear bad
    repeat' with_reducible first | refine zAA ?_ | refine zAN ?_ | refine zAB ?_ | refine zAC ?_ | refine zAD ?_ | refine zAL ?_ | refine zAG ?_ | (apply st_q; exact q1) | (apply st_qF; exact e1) | (apply st_eF; exact e1) | (apply zAF; exact e1) | (apply zAI; exact e1) | (apply zAE; exact n1; exact r1)
    exact ⟨by rw [hb.out], G⟩
  cases c2 : decide (c.params > 100)
  rotate_left
  · have hb := bad (by rw [c1, c2]; rfl)
    clear bad
    repeat' with_reducible first | refine zAA ?_ | refine zAN ?_ | refine zAB ?_ | refine zAC ?_ | refine zAD ?_ | refine zAL ?_ | refine zAG ?_ | (apply st_q; exact q1) | (apply st_qT; exact e1; exact q1) | (apply st_qF; exact e1) | (apply st_eF; exact e1) | (apply zAF; exact e1) | (apply zAI; exact e1) | (apply zAE; exact n1; exact r1)
    exact ⟨by rw [hb.out], G⟩
  repeat with_reducible first | refine zAA ?_ | refine zAB ?_ | refine zAC ?_ | refine zAD ?_ | refine zAL ?_ | (apply st_q; exact q1) | (apply st_qT; exact e1; exact q1) | (apply zAI; exact e1)
  refine st_callT (by exact e1) (by exact s1) ((r14rising_ok H c.conc sc.out.conc (by have := sc.out.sum; omega) cv h2 (hcv.mono G)).mono ?_)
  rintro _ _ ⟨rfl, rfl⟩
  cases c3 : risingF c.conc
  · have hb := bad (by rw [c1, c2, c3]; rfl)
    clear bad
    repeat' with_reducible first | refine zAA ?_ | refine zAN ?_ | refine zAB ?_ | refine zAC ?_ | refine zAD ?_ | refine zAG ?_ | (apply st_q; exact q1) | (apply st_qT; exact e1; exact q1) | (apply st_qF; exact e1) | (apply st_eF; exact e1) | (apply zAF; exact e1) | (apply zAE; exact n1; exact r1)
    exact ⟨by rw [hb.out], G⟩
  repeat with_reducible first | (apply st_q; exact q1) | (apply st_qT; exact e1; exact q1)
  refine st_callT (by exact e1) (by exact s1) ((r14rising_ok H c.virt sc.out.virt (by have := sc.out.sum; omega) vv _ (hvv.mono G)).mono ?_)
  rintro _ _ ⟨rfl, rfl⟩
  cases c4 : risingF c.virt
  · have hb := bad (by rw [c1, c2, c3, c4]; rfl)
    clear bad
    repeat' with_reducible first | refine zAA ?_ | refine zAN ?_ | refine zAB ?_ | refine zAC ?_ | refine zAD ?_ | refine zAG ?_ | (apply st_q; exact q1) | (apply st_qT; exact e1; exact q1) | (apply zAF; exact e1) | (apply zAE; exact n1; exact r1)
    exact ⟨by rw [hb.out], G⟩
  have hh : headOK c = true := by unfold headOK; rw [c1, c2, c3, c4]; rfl
  have hr' : Hid (rckF c = match bodyF c with
    | none => 2
    | some p => if allIn c (zAH c.g p.2).labels then 0 else 2) := ⟨by rw [hr.out, hh]; rfl⟩
  have hpr : 0 ≤ c.params ∧ c.params ≤ 100 := by
    have := of_decide_eq_false c1
    have := of_decide_eq_false c2
    omega
  clear bad c1 c2 c3 c4 hr hh hck
  repeat with_reducible first | refine zAA ?_ | refine zAB ?_ | refine zAC ?_ | refine zAD ?_ | refine zAL ?_ | (apply st_q; exact q1) | (apply st_qT; exact e1; exact q1) | (apply zAI; exact e1)
  refine zAS (by exact s1) ((rParts_ok H c hc.out hpr nv cv vv _ G.wf (hN.mono G)).mono ?_)
  rintro _ h3 ⟨⟨pv, f, s, rfl, hbd⟩, g3⟩
  replace o1 := g3.keep _ _ o1
  have G3 := G.trans g3
  cases hbo : (bodyF c).isSome
  · have hb : bodyF c = none := by simpa using hbo
    have hz : Hid (rckF c = 2) := ⟨by rw [hr'.out, hb]⟩
    clear hb hr' hbd
    repeat' with_reducible first | refine zAA ?_ | refine zAN ?_ | refine zAB ?_ | refine zAC ?_ | refine zAD ?_ | refine zAG ?_ | (apply st_q; exact q1) | (apply zAF; exact e1) | (apply zAE; exact n1; exact r1)
    exact ⟨by rw [hz.out], G3⟩
  obtain ⟨⟨pa, pb⟩, hb⟩ := Option.isSome_iff_exists.1 hbo
  obtain ⟨rfl, rfl⟩ := hbd _ hb
  obtain ⟨_, hin, _, _⟩ := body_in hc.out hb
  have hz : Hid (rckF c = if allIn c (zAH c.g s).labels then 0 else 2) := ⟨by rw [hr'.out, hb]⟩
  obtain ⟨k, bx, ox, verx, rox, ex, vsx, av, lv, hk, hsx, hgx, hpxl, hpx, hia, hil⟩ := node_at hN hin
  have hv3 : vsx[ox + 3]? = some lv := by
    have := congrArg (fun l => l[3]?) hpx
    simpa [List.getElem?_take, List.getElem?_drop] using this
  replace hgx := G3.keep _ _ hgx
  have hil3 := hil.mono G3
  have hcv3 := hcv.mono G3
  have hvv3 := hvv.mono G3
  have hl60 : (zAH c.g s).labels.length < 2 ^ 60 := (sc.out.g.all _ (node_in hin)).labels
  have hsum := sc.out.sum
  have hlc := hcv3.len
  have hlv := hvv3.len
  clear hr' hbd hb hpx hpxl hin hbo hil hia
  generalize hL : (zAH c.g s).labels = L at *
  clear hL
  dsimp only at hk
  subst hk
  have lose : allIn c L = false → Hid (rckF c = 2) := fun hh => ⟨by rw [hz.out, hh]; rfl⟩
  repeat with_reducible first | refine zAA ?_ | refine zAB ?_ | refine zAC ?_ | refine zAD ?_ | refine zAL ?_ | (apply st_q; exact q1) | (apply zAI; exact e1)
  refine cd_count (N := c.conc.length) (by omega) (fun j a hp => hp = h3 ∧ a.defers = [] ∧ ev a (.tmp 1) = some (.ptr (some (b1, 0))) ∧ ev a (.tmp 8) = some lv ∧ ev a (.tmp 56) = some cv ∧ ((c.conc.take j).all fun s => !c.virt.contains s && L.contains s) = true)
    (by rintro j a hp t w (rfl | rfl | rfl) ⟨k1, k2, k3, k4, k5, k6⟩ <;> exact ⟨k1, by rw [zAV]; exact k2, by exact e1, by exact e1, by exact e1, k6⟩) (by decide) ?_ ?_ ⟨rfl, by exact n1, by exact e1, by exact e1, by exact e1, rfl⟩ (by exact e1) (by exact e1)
  · rintro j a hp hj ⟨rfl, hd, t1, t8, t56, hall⟩ hi hn
    obtain ⟨b, o, ver, ro, e, vs, hix, hget, hvo⟩ := hcv3.at (List.getElem?_eq_getElem hj)
    have ht : ((c.conc.take (j + 1)).all fun s => !c.virt.contains s && L.contains s) = (!c.virt.contains c.conc[j] && L.contains c.conc[j]) := by
      rw [List.take_succ_eq_append_getElem hj, List.all_append, hall]; simp
    have hbad : (!c.virt.contains c.conc[j] && L.contains c.conc[j]) = false → Hid (rckF c = 2) := fun hh => lose (by
      unfold allIn
      have : (c.conc.all fun s => !c.virt.contains s && L.contains s) = false := by
        rw [List.all_eq_false]
        exact ⟨_, List.getElem_mem hj, by rw [hh]; simp⟩
      rw [this, Bool.false_and])
    generalize c.conc[j] = x at *
    replace hall := Hid.mk hall
    replace lose := Hid.mk lose
    repeat with_reducible first | refine zAA ?_ | refine zAB ?_ | refine zAC ?_ | refine zAD ?_ | refine zAK ?_ | (apply st_q; exact q1)
    refine zAS (by exact s1) ((rHas_ok H c.virt (by omega) x vv _ hvv3).mono ?_)
    rintro _ _ ⟨rfl, rfl⟩
    cases k1 : c.virt.contains x
    · repeat with_reducible first | (apply st_q; exact q1) | (apply st_qT; exact e1; exact q1)
      refine st_callT (by exact e1) (by exact s1) ((rHas_ok H L hl60 x lv _ hil3).mono ?_)
      rintro _ _ ⟨rfl, rfl⟩
      cases k2 : L.contains x
      · have hb := hbad (by rw [k1, k2]; rfl)
        clear hbad ht
        repeat' with_reducible first | refine zAA ?_ | refine zAN ?_ | refine blk_ret ?_ | refine zAB ?_ | refine zAC ?_ | refine zAD ?_ | refine zAG ?_ | (apply st_q; exact q1) | (apply st_qT; exact e1; exact q1) | (apply zAF; exact e1) | (apply zAE; exact n1; exact r1)
        exact ⟨by rw [hb.out], G3⟩
      · rw [k1, k2] at ht
        replace ht := Hid.mk ht
        clear hbad
        repeat with_reducible first | refine zAA ?_ | refine zAJ ?_ | refine zAB ?_ | refine zAL ?_ | (apply st_q; exact q1) | (apply st_qT; exact e1; exact q1) | (apply zAI; exact e1)
        exact ⟨⟨rfl, by exact n1, by exact e1, by exact e1, by exact e1, ht.out⟩, by exact e1, by exact e1⟩
    · have hb := hbad (by rw [k1]; rfl)
      clear hbad ht
      repeat' with_reducible first | refine zAA ?_ | refine zAN ?_ | refine blk_ret ?_ | refine zAB ?_ | refine zAC ?_ | refine zAD ?_ | refine zAG ?_ | (apply st_q; exact q1) | (apply st_qF; exact e1) | (apply st_eF; exact e1) | (apply zAF; exact e1) | (apply zAE; exact n1; exact r1)
      exact ⟨by rw [hb.out], G3⟩
  · rintro a hp ⟨rfl, hd, t1, t8, t56, hall⟩
    rw [List.take_length] at hall
    have hlose2 : ((c.virt.all fun s => L.contains s) && L.length == c.conc.length + c.virt.length) = false → Hid (rckF c = 2) := fun hh => lose (by unfold allIn; rw [hh, Bool.and_false])
    replace hall := Hid.mk hall
    clear lose
    repeat with_reducible first | refine zAA ?_ | refine zAB ?_ | refine zAC ?_ | refine zAD ?_ | (apply st_q; exact q1)
    refine cd_count (N := c.virt.length) (by omega) (fun j a hq => hq = hp ∧ a.defers = [] ∧ ev a (.tmp 1) = some (.ptr (some (b1, 0))) ∧ ev a (.tmp 8) = some lv ∧ ev a (.tmp 74) = some vv ∧ ((c.virt.take j).all fun s => L.contains s) = true)
      (by rintro j a hp t w (rfl | rfl | rfl) ⟨k1, k2, k3, k4, k5, k6⟩ <;> exact ⟨k1, by rw [zAV]; exact k2, by exact e1, by exact e1, by exact e1, k6⟩) (by decide) ?_ ?_ ⟨rfl, by exact n1, by exact e1, by exact e1, by exact e1, rfl⟩ (by exact e1) (by exact e1)
    · clear hd t1 t8 t56
      rintro j a hq hj ⟨rfl, hd, t1, t8, t74, hv⟩ hi hn
      obtain ⟨b, o, ver, ro, e, vs, hix, hget, hvo⟩ := hvv3.at (List.getElem?_eq_getElem hj)
      have ht : ((c.virt.take (j + 1)).all fun s => L.contains s) = L.contains c.virt[j] := by
        rw [List.take_succ_eq_append_getElem hj, List.all_append, hv]; simp
      have hbad : L.contains c.virt[j] = false → Hid (rckF c = 2) := fun hh => hlose2 (by
        have : (c.virt.all fun s => L.contains s) = false := by
          rw [List.all_eq_false]
          exact ⟨_, List.getElem_mem hj, by rw [hh]; simp⟩
        rw [this, Bool.false_and])
      generalize c.virt[j] = x at *
      replace hv := Hid.mk hv
      replace hlose2 := Hid.mk hlose2
      repeat with_reducible first | refine zAA ?_ | refine zAB ?_ | refine zAC ?_ | refine zAD ?_ | refine zAK ?_ | (apply st_q; exact q1)
      refine zAS (by exact s1) ((rHas_ok H L hl60 x lv _ hil3).mono ?_)
      rintro _ _ ⟨rfl, rfl⟩
      cases k2 : L.contains x
      · have hb := hbad k2
        clear hbad ht
        repeat' with_reducible first | refine zAA ?_ | refine zAN ?_ | refine blk_ret ?_ | refine zAB ?_ | refine zAC ?_ | refine zAD ?_ | refine zAG ?_ | (apply st_q; exact q1) | (apply zAF; exact e1) | (apply zAE; exact n1; exact r1)
        exact ⟨by rw [hb.out], G3⟩
      · rw [k2] at ht
        replace ht := Hid.mk ht
        clear hbad
        repeat with_reducible first | refine zAA ?_ | refine zAJ ?_ | refine zAB ?_ | refine zAL ?_ | (apply st_q; exact q1) | (apply zAI; exact e1)
        exact ⟨⟨rfl, by exact n1, by exact e1, by exact e1, by exact e1, ht.out⟩, by exact e1, by exact e1⟩
    · clear hd t1 t8 t56
      rintro a hq ⟨rfl, hd, t1, t8, t74, hv⟩
      rw [List.take_length] at hv
      have hll := hil3.len
      have hwr : IntKind.i64.wrap (Int.ofNat c.conc.length + Int.ofNat c.virt.length) = ((c.conc.length + c.virt.length : Nat) : Int) := wrap_add (by omega)
      have hne : ((Int.ofNat L.length : Int) != ((c.conc.length + c.virt.length : Nat) : Int)) = !(L.length == c.conc.length + c.virt.length) := by
        rw [bne]; congr 1; rw [Bool.eq_iff_iff]; simp; omega
      cases hlq : L.length == c.conc.length + c.virt.length
      · have hb := hlose2 (by rw [hlq, Bool.and_false])
        clear hlose2
        replace hv := Hid.mk hv
        repeat' with_reducible first | refine zAA ?_ | refine zAN ?_ | refine zAB ?_ | refine zAC ?_ | refine zAD ?_ | refine zAG ?_ | (apply st_q; exact q1) | (apply zAF; exact e1) | (apply zAE; exact n1; exact r1)
        exact ⟨by rw [hb.out], G3⟩
      · have hb : Hid (rckF c = 0) := ⟨by
          rw [hz.out]
          unfold allIn
          rw [hall.out, hv, hlq]; rfl⟩
        clear hlose2
        replace hv := Hid.mk hv
        repeat' with_reducible first | refine zAA ?_ | refine zAB ?_ | refine zAC ?_ | refine zAD ?_ | refine zAL ?_ | refine zAG ?_ | (apply st_q; exact q1) | (apply zAI; exact e1) | (apply zAE; exact n1; exact r1)
        exact ⟨by rw [hb.out], G3⟩
theorem rFields_ok (c : CDef) (hs : CSm c) (nv cv vv : AVal) (h : AHeap) (hw : WF h) (hN : NodesAt h nv c.g.nodes) (hcv : StrsAt h cv c.conc) (hvv : StrsAt h vv c.virt) :
    Cl fns summ 18 [.agg [.int .i64 c.params, nv, .int .i64 c.g.root, cv, vv]] h fun r h' => StrsAt h' r (fieldsF c) ∧ Grow h h' := by
  have sc := Hid.mk hs
  clear hs
  refine H.go (fn := F_rFields) rfl (by decide) rfl rfl ?_
  unfold F_rFields
  dsimp only [qQ, qE, qN, gQ, gE, vi]
  refine zAC (zAD ?_)
  refine st_box (by exact e1) (by exact cc) hw ?_
  rintro b1 h1 hb1 g1 o1
  have ht5 := take5
  repeat with_reducible first | refine zAA ?_ | refine zAB ?_ | refine zAC ?_ | refine zAD ?_ | (apply st_q; exact q1)
  refine zAS (by exact s1) ((rCheckClass_ok H c sc.out nv cv vv h1 g1.wf (hN.mono g1) (hcv.mono g1) (hvv.mono g1)).mono ?_)
  rw [← ck_eq]
  rintro _ h2 ⟨rfl, g2⟩
  replace o1 := g2.keep _ _ o1
  have G := g1.trans g2
  cases hck : (ckF c != 0)
  rotate_left
  · have hz : fieldsF c = [] := by
      unfold fieldsF; rw [if_neg (by simpa using hck)]
    replace hz := Hid.mk hz
    repeat' with_reducible first | refine zAA ?_ | refine zAN ?_ | refine zAB ?_ | refine zAC ?_ | refine zAD ?_ | refine zAG ?_ | (apply st_q; exact q1) | (apply zAF; exact e1) | (apply zAE; exact n1; exact r1)
    exact ⟨by rw [hz.out]; exact strs_nil _, G⟩
  have hk0 : ckF c = 0 := by simpa using hck
  have hz : fieldsF c = (match bodyF c with
    | none => []
    | some p => (zAH c.g p.1).labels) := by
      unfold fieldsF; rw [if_pos hk0]; rfl
  obtain ⟨hc, hpr, ⟨pa, pb⟩, hb⟩ := ck_facts hk0
  have hz2 : fieldsF c = (zAH c.g pa).labels := by rw [hz, hb]
  replace hz2 := Hid.mk hz2
  obtain ⟨hin, _, _, _⟩ := body_in hc hb
  obtain ⟨k, bx, ox, verx, rox, ex, vsx, av, lv, hk, hsx, hgx, hpxl, hpx, hia, hil⟩ := node_at hN hin
  have hv3 : vsx[ox + 3]? = some lv := by
    have := congrArg (fun l => l[3]?) hpx
    simpa [List.getElem?_take, List.getElem?_drop] using this
  dsimp only at hk
  subst hk
  replace hb := Hid.mk hb
  clear hz hk0 hin hpx hpxl hia
  repeat with_reducible first | refine zAA ?_ | refine zAB ?_ | refine zAC ?_ | refine zAD ?_ | refine zAL ?_ | (apply st_q; exact q1) | (apply zAI; exact e1)
  refine zAS (by exact s1) ((rParts_ok H c hc hpr nv cv vv _ G.wf (hN.mono G)).mono ?_)
  rintro _ h3 ⟨⟨pv, f, s, rfl, hbd⟩, g3⟩
  obtain ⟨rfl, rfl⟩ := hbd _ hb.out
  replace o1 := g3.keep _ _ o1
  have G3 := G.trans g3
  replace hgx := G3.keep _ _ hgx
  have hst := hil.mono G3
  dsimp only at hst
  rw [← hz2.out] at hst
  clear hbd
  repeat' with_reducible first | refine zAA ?_ | refine zAB ?_ | refine zAC ?_ | refine zAD ?_ | refine zAG ?_ | (apply st_q; exact q1) | (apply zAE; exact n1; exact r1)
  exact ⟨hst, G3⟩
end
end Go.Ab.S
end
section
/-
  All values' names.
-/
namespace Go.Ab.S
open Go.Ab
set_option maxHeartbeats 4000000
section
variable {fns : FuncId → Option AFunc} {summ : FuncId → List AVal → AHeap → Option (D (AVal × AHeap))}
variable (H : Has fns summ) (HS : HasSort summ)
include H
theorem EValues1_ok (m : Mean) (l : List Mean) (bm : Nat) (h : AHeap) (hE : EnvAt h (.ptr (some (bm, 0))) (m :: l)) : Cl fns summ 45 [.ptr (some (bm, 0))] h fun r h' => r = .bool m.value.isSome ∧ h' = h := by
  obtain ⟨be, ver, ro, e, pv, pc, pa, hq, oe, hv, _, _⟩ := hE
  cases hq
  refine H.go (fn := F_EValues1) rfl (by decide) rfl rfl ?_
  unfold F_EValues1
  dsimp only [qQ, qE, qN, gQ, gE, vi]
  cases hmv : m.value with
  | none =>
    rw [hmv] at hv
    have hpv : pv = .ptr none := hv
    subst hpv
    have hq1 : eqA .ptr (.ptr none) (.ptr none) = some true := rfl
    have hxr : (true ^^ true) = false := rfl
    repeat' with_reducible first | refine zAA ?_ | refine zAB ?_ | refine zAC ?_ | refine zAD ?_ | refine zAG ?_ | (apply st_q; exact q1) | (apply zAE; exact n1; exact r1)
    exact ⟨rfl, rfl⟩
  | some g =>
    rw [hmv] at hv
    obtain ⟨bg, verg, rog, eg, nvg, rfl, og5, hNg⟩ := hv
    have hq1 : eqA .ptr (.ptr (some (bg, 0))) (.ptr none) = some false := rfl
    have hxr : (true ^^ false) = true := rfl
    repeat' with_reducible first | refine zAA ?_ | refine zAB ?_ | refine zAC ?_ | refine zAD ?_ | refine zAG ?_ | (apply st_q; exact q1) | (apply zAE; exact n1; exact r1)
    exact ⟨rfl, rfl⟩
include HS
theorem enames_ok (L : List Mean) (p : Mean → Bool) (hL : L.length ≤ 2 ^ 20) (hb : ∀ m ∈ L, p m = true → ∀ c ∈ m.name, c < 256) (fv : AVal) (hfv : one fv = true) (hf : ∀ m l bm h, EnvAt h (.ptr (some (bm, 0))) (m :: l) → Cv fns summ fv [.ptr (some (bm, 0))] h fun r h' => r = .bool (p m) ∧ h' = h)
    (v : AVal) (h : AHeap) (hw : WF h) (hE : EnvAt h v L) : Cl fns summ 44 [v, fv] h fun r h' => ∃ out, StrsAt h' r out ∧ Rises out ∧ (∀ s, s ∈ out ↔ ∃ m ∈ L, p m = true ∧ m.name = s) ∧ out.length ≤ 2 ^ 20 ∧ Grow h h' := by
  have hv1 := hE.one
  have hfc : cellsA fv = [fv] := by cases fv <;> first | rfl | cases hfv
  have hf' := Hid.mk hf
  have hb' := Hid.mk hb
  clear hf hb
  refine H.go (fn := F_enames) rfl (by decide) rfl rfl ?_
  unfold F_enames
  dsimp only [qQ, qE, qN, gQ, gE, vi]
  refine zAC (zAD ?_)
  refine st_box (by exact e1) hfc hw ?_
  rintro b3 h3 hb3 g3 o3
  have l3 := g3.wf.lt o3
  have n3 := g3.next
  repeat with_reducible first | refine zAA ?_ | refine zAB ?_ | refine zAC ?_ | refine zAD ?_ | (apply st_q; exact q1)
  refine st_mkmap (.inl rfl) g3.wf ?_
  rintro rm h4 hrm g4 om
  have l4 := g4.wf.lt om
  have n4 := g4.next
  refine st_alloc g4.wf ?_
  rintro b5 h5 hb5 g5 o5
  replace om := g5.keep _ _ om
  refine zAP (by exact e1) (by exact e1) (cs := [.map (some rm)]) rfl rfl g5.wf o5 (by simp) rfl ?_
  rintro v6 h6 p6 o6
  simp only [List.take_zero, List.nil_append, List.length_cons, List.length_nil, List.drop_succ_cons, List.drop_zero, List.append_nil, Nat.zero_add, Nat.reduceAdd, List.drop_nil, List.cons_append] at o6
  have g36 : Grow h3 h6 := p6.grow h3 g3.wf (g4.trans g5) (by omega)
  have om6 := p6.keep rm (by omega) _ om
  have n5 := g5.next
  have l5 := g5.wf.lt o5
  have n6 := g36.next
  have w3 := g3.wf
  clear om o5 p6 g4 g5
  repeat with_reducible first | refine zAA ?_ | refine zAB ?_ | refine zAC ?_ | refine zAD ?_ | (apply st_q; exact q1)
  refine zAS (by exact s1) ((eall_ok H v hv1 h6 g36.wf).mono ?_)
  rintro _ h7 ⟨b, rfl, hbb, vb, g7⟩
  have lb : b < h7.next := by obtain ⟨_, ov⟩ := vb; exact g7.wf.lt ov
  have l56 : b5 < h6.next := g36.wf.lt o6
  repeat with_reducible first | refine zAA ?_ | refine zAB ?_
  refine cd_gen (fun A => A.defers = [] ∧ ev A (.tmp 3) = some (.ptr (some (b3, 0))) ∧ ev A (.tmp 5) = some (.ptr (some (b5, 0))) ∧ ev A (.tmp 9) = some (.func 61 [] [.ptr (some (b, 0))])) ⟨by exact n1, by exact e1, by exact e1, by exact e1⟩ ?_
  rintro A ⟨hd, t3, t5, t9⟩
  refine cd_block ?_
  generalize hB : ACode.block 1 _ = B
  generalize hA : ACode.ops [⟨some 6, none, .q (.mov (.tmp 10))⟩] = As
  refine rangeF_K t9 g7.wf ?_
  intro l d h8 hdn hld g8 ol od
  have g38 : Grow h3 h8 := (g36.trans g7).trans g8
  have n7 := g7.next
  refine (eall1_ok H L v h3 (hE.mono g3) b (.yield l) (fun k hp => Grow h3 hp ∧ l < hp.next ∧ (∃ ver, hp.objs.get l = some (ver, .loop .ready none A.tmps [10] As B d)) ∧ (∃ ver, hp.objs.get d = some (ver, .dfr false)) ∧ (∃ ver, hp.objs.get b5 = some (ver, .cells false 117 [.map (some rm)])) ∧ ∃ ks, SetAt hp rm ks ∧ ks.Nodup ∧ ks.length ≤ k ∧ ∀ s, s ∈ ks ↔ ∃ m ∈ L.take k, p m = true ∧ m.name = s)
    (fun _ => False) (fun k hp q => q.1) ?_ ?_ h8 ⟨g38, by obtain ⟨_, ol⟩ := ol; exact g8.wf.lt ol, ol, od, ⟨_, g8.keep _ _ (g7.keep _ _ o6)⟩, [], ⟨_, g8.keep _ _ (g7.keep _ _ om6)⟩, List.nodup_nil, Nat.le_refl _, fun s => by simp⟩ (by obtain ⟨vv, ov⟩ := vb; exact ⟨vv, g8.keep _ _ ov⟩)).mono ?_
  · rintro k hp hp' vk ⟨gp, hl, ⟨vl, ol⟩, ⟨vd, od⟩, ⟨v5, o5⟩, ks, ⟨vm, om⟩, hk1, hk2, hk3⟩ ⟨vv, ov⟩ pb
    exact ⟨pb.grow h3 w3 gp (by omega), Nat.lt_of_lt_of_le hl pb.next, ⟨_, pb.keep l (by rintro rfl; rw [ol] at ov; cases ov) _ ol⟩, ⟨_, pb.keep d (by rintro rfl; rw [od] at ov; cases ov) _ od⟩, ⟨_, pb.keep b5 (by omega) _ o5⟩, ks, ⟨_, pb.keep rm (by rintro rfl; rw [om] at ov; cases ov) _ om⟩, hk1, hk2, hk3⟩
  · clear ol od o6 om6 vb
    rintro k hp vk hk ⟨gp, hl, ⟨vl, ol⟩, ⟨vd, od⟩, ⟨v5, o5⟩, ks, ⟨vm, om⟩, hk1, hk2, hk3⟩ ⟨vv, ov⟩ hEk
    obtain ⟨mm, rest, hdrop⟩ : ∃ mm rest, L.drop k = mm :: rest := by
      rw [List.drop_eq_getElem_cons hk]; exact ⟨_, _, rfl⟩
    have htake : L.take (k + 1) = L.take k ++ [mm] := by
      rw [List.take_succ_eq_append_getElem hk]
      have : L[k] = mm := by
        have := hdrop
        rw [List.drop_eq_getElem_cons hk] at this
        exact (List.cons.inj this).1
      rw [this]
    rw [hdrop] at hEk
    have hEk' := hEk
    obtain ⟨be, vere, roe, ee, pv, pc, pa, rfl, oe3, hv, hc, hrest⟩ := hEk
    have oe := gp.keep _ _ oe3
    have T3 : ev { tmps := A.tmps, defers := [] } (.tmp 3) = some (.ptr (some (b3, 0))) := t3
    have T5 : ev { tmps := A.tmps, defers := [] } (.tmp 5) = some (.ptr (some (b5, 0))) := t5
    refine yield_K ol gp.wf rfl (fun a1 => a1.defers = [] ∧ ev a1 (.tmp 6) = some (.ptr (some (be, 0))) ∧ ev a1 (.tmp 3) = some (.ptr (some (b3, 0))) ∧ ev a1 (.tmp 5) = some (.ptr (some (b5, 0)))) ?_ ?_
    · subst hA
      clear hd t3 t5 t9
      repeat with_reducible first | refine zAA ?_ | refine zAB ?_ | refine zAD ?_ | (apply st_q; exact q1)
      exact ⟨rfl, by exact n1, by exact e1, by exact e1, by exact e1⟩
    · rintro a1 hq ⟨hd1, t6, t3', t5'⟩ pL ⟨vlb, olb⟩
      subst hB
      clear hd t3 t5 t9 T3 T5
      have hlb : b ≠ l := by rintro rfl; rw [ol] at ov; cases ov
      have hld' : d ≠ l := by rintro rfl; rw [ol] at od; cases od
      have hel : be ≠ l := by rintro rfl; rw [ol] at oe; cases oe
      have h5l : b5 ≠ l := by rintro rfl; rw [ol] at o5; cases o5
      have hml : rm ≠ l := by rintro rfl; rw [ol] at om; cases om
      have gq : Grow h3 hq := pL.grow h3 w3 gp (by omega)
      have oeq := pL.keep _ hel _ oe
      have odq := pL.keep _ hld' _ od
      have ovq := pL.keep _ hlb _ ov
      have o5q := pL.keep _ h5l _ o5
      have omq := pL.keep _ hml _ om
      have o3q := gq.keep _ _ o3
      have hlq : l < hq.next := Nat.lt_of_lt_of_le hl pL.next
      have w := gq.wf
      have hcall := hf'.out mm rest be hq (hEk'.mono gq)
      have hmem : mm ∈ L := List.mem_of_mem_drop (i := k) (by rw [hdrop]; simp)
      replace hk3 := Hid.mk hk3
      replace htake := Hid.mk htake
      clear ol oe od ov o5 om pL hEk'
      repeat with_reducible first | refine zAC ?_ | refine zAD ?_ | refine zAK ?_ | (apply st_q; exact q1)
      refine st_e (ex_call (by exact e1) (by exact s1) (hcall.mono ?_))
      rintro _ hq' ⟨rfl, hqe⟩
      replace hqe := hqe.symm
      subst hqe
      cases hpm : p mm
      · have hk3' : ∀ s, s ∈ ks ↔ ∃ m ∈ L.take (k + 1), p m = true ∧ m.name = s := fun s => by
          rw [hk3.out, htake.out]
          constructor
          · rintro ⟨m, h1, h2⟩; exact ⟨m, List.mem_append_left _ h1, h2⟩
          · rintro ⟨m, h1, h2, h3⟩
            rcases List.mem_append.1 h1 with h1 | h1
            · exact ⟨m, h1, h2, h3⟩
            · rw [List.mem_singleton.1 h1, hpm] at h2; cases h2
        replace hk3' := Hid.mk hk3'
        repeat with_reducible first | refine zAA ?_ | refine zAJ ?_ | refine zAB ?_ | refine zAL ?_ | (apply zAI; exact e1)
        exact ⟨w, ⟨_, olb⟩, fun _ h4 p4 o4 => .inl ⟨rfl, ⟨p4.grow h3 w3 gq (by omega), Nat.lt_of_lt_of_le hlq p4.next, o4, ⟨_, p4.keep d hld' _ odq⟩, ⟨_, p4.keep b5 h5l _ o5q⟩, ks, ⟨_, p4.keep rm hml _ omq⟩, hk1, by omega, hk3'.out⟩, ⟨_, p4.keep b hlb _ ovq⟩⟩, fun hh => absurd rfl hh⟩
      · have hfd := ksE_find mm.name ks 0 0
        cases hcn : ks.contains mm.name
        · rw [hcn] at hfd
          have hfd : findA .str (.str mm.name) (ksE 0 ks) 0 = some none := hfd
          have hnin : mm.name ∉ ks := by simpa using hcn
          have hk3' : ∀ s, s ∈ ks ++ [mm.name] ↔ ∃ m ∈ L.take (k + 1), p m = true ∧ m.name = s := fun s => by
            rw [List.mem_append, hk3.out, htake.out, List.mem_singleton]
            constructor
            · rintro (⟨m, h1, h2⟩ | rfl)
              · exact ⟨m, List.mem_append_left _ h1, h2⟩
              · exact ⟨mm, List.mem_append_right _ (by simp), hpm, rfl⟩
            · rintro ⟨m, h1, h2, h3⟩
              rcases List.mem_append.1 h1 with h1 | h1
              · exact .inl ⟨m, h1, h2, h3⟩
              · rw [List.mem_singleton.1 h1] at h3; exact .inr h3.symm
          have hk1' : (ks ++ [mm.name]).Nodup := by
            rw [List.nodup_append]
            exact ⟨hk1, by simp, fun a ha b hb => by simp only [List.mem_singleton] at hb; subst hb; rintro rfl; exact hnin ha⟩
          replace hk3' := Hid.mk hk3'
          replace hk1' := Hid.mk hk1'
          replace hk1 := Hid.mk hk1
          replace hfd := Hid.mk hfd
          clear hnin
          repeat with_reducible first | refine zAA ?_ | refine zAB ?_ | refine cd_draw ?_ | (apply dr_q; exact q1) | (apply dr_ql; exact q1; exact og1) | (apply zAF; exact e1)
          refine dr_st (st_put (by exact e1) (by exact e1) (by exact e1) (by intro hh; cases hh) rfl w omq hfd.out ?_)
          rintro ver' h9 p9 o9
          refine zAB ⟨by simp [heldOk, Nat.testBit], ?_⟩
          have hset : SetAt h9 rm (ks ++ [mm.name]) := ⟨_, by rw [ksE_put, List.length_append, List.length_singleton, Nat.zero_add]; exact o9⟩
          have olb9 := p9.keep l (fun e => hml e.symm) _ olb
          have od9 := p9.keep d (by rintro rfl; rw [odq] at omq; cases omq) _ odq
          have o59 := p9.keep b5 (by rintro rfl; rw [o5q] at omq; cases omq) _ o5q
          have ov9 := p9.keep b (by rintro rfl; rw [ovq] at omq; cases omq) _ ovq
          have g9 := p9.grow h3 w3 gq (by omega)
          have n9 := p9.next
          replace hset := Hid.mk hset
          clear omq o9 olb odq o5q ovq oeq o3q
          repeat with_reducible first | refine zAJ ?_ | refine dr_nil ?_
          exact ⟨g9.wf, ⟨_, olb9⟩, fun _ h4 p4 o4 => .inl ⟨rfl, ⟨p4.grow h3 w3 g9 (by omega), by have := p4.next; omega, o4, ⟨_, p4.keep d hld' _ od9⟩, ⟨_, p4.keep b5 h5l _ o59⟩, ks ++ [mm.name], by obtain ⟨vz, oz⟩ := hset.out; exact ⟨vz, p4.keep rm hml _ oz⟩, hk1'.out, by rw [List.length_append, List.length_singleton]; omega, hk3'.out⟩, ⟨_, p4.keep b hlb _ ov9⟩⟩, fun hh => absurd rfl hh⟩
        · rw [hcn] at hfd
          have hfd : findA .str (.str mm.name) (ksE 0 ks) 0 = some (some (0 + ks.idxOf mm.name, .bool true)) := hfd
          have hin : mm.name ∈ ks := by simpa using hcn
          have hk3' : ∀ s, s ∈ ks ↔ ∃ m ∈ L.take (k + 1), p m = true ∧ m.name = s := fun s => by
            rw [hk3.out, htake.out]
            constructor
            · rintro ⟨m, h1, h2⟩; exact ⟨m, List.mem_append_left _ h1, h2⟩
            · rintro ⟨m, h1, h2, h3⟩
              rcases List.mem_append.1 h1 with h1 | h1
              · exact ⟨m, h1, h2, h3⟩
              · rw [List.mem_singleton.1 h1] at h3
                rw [← h3]; exact (hk3.out _).1 hin
          replace hk3' := Hid.mk hk3'
          replace hk1 := Hid.mk hk1
          replace hfd := Hid.mk hfd
          clear hin
          repeat with_reducible first | refine zAA ?_ | refine zAB ?_ | refine cd_draw ?_ | (apply dr_q; exact q1) | (apply dr_ql; exact q1; exact og1) | (apply zAF; exact e1)
          refine dr_st (st_reput (by exact e1) (by exact e1) (by exact e1) (by intro hh; cases hh) rfl w omq hfd.out ?_)
          rintro ver' h9 p9 o9
          rw [ksE_set] at o9
          refine zAB ⟨by simp [heldOk, Nat.testBit], ?_⟩
          have olb9 := p9.keep l (fun e => hml e.symm) _ olb
          have od9 := p9.keep d (by rintro rfl; rw [odq] at omq; cases omq) _ odq
          have o59 := p9.keep b5 (by rintro rfl; rw [o5q] at omq; cases omq) _ o5q
          have ov9 := p9.keep b (by rintro rfl; rw [ovq] at omq; cases omq) _ ovq
          have g9 := p9.grow h3 w3 gq (by omega)
          have n9 := p9.next
          clear omq olb odq o5q ovq oeq o3q
          repeat with_reducible first | refine zAJ ?_ | refine dr_nil ?_
          exact ⟨g9.wf, ⟨_, olb9⟩, fun _ h4 p4 o4 => .inl ⟨rfl, ⟨p4.grow h3 w3 g9 (by omega), by have := p4.next; omega, o4, ⟨_, p4.keep d hld' _ od9⟩, ⟨_, p4.keep b5 h5l _ o59⟩, ks, ⟨_, p4.keep rm hml _ o9⟩, hk1.out, by omega, hk3'.out⟩, ⟨_, p4.keep b hlb _ ov9⟩⟩, fun hh => absurd rfl hh⟩
  · clear ol od o6 om6 vb
    rintro _ h9 (⟨gp, hl, ⟨vl, ol⟩, ⟨vd, od⟩, ⟨v5, o5⟩, ks, ⟨vm, om⟩, hk1, hk2, hk3⟩ | hF)
    rotate_left
    · exact hF.elim
    rw [List.take_length] at hk3
    refine ⟨gp.wf, .inl ⟨⟨_, ol⟩, fun h10 p10 => ?_⟩⟩
    have hld' : d ≠ l := by rintro rfl; rw [ol] at od; cases od
    have h5l : b5 ≠ l := by rintro rfl; rw [ol] at o5; cases o5
    have hml : rm ≠ l := by rintro rfl; rw [ol] at om; cases om
    have od10 := p10.keep d hld' _ od
    have o510 := p10.keep b5 h5l _ o5
    have om10 := p10.keep rm hml _ om
    have g10 := p10.grow h hw (g3.trans gp) (by omega)
    have T5 : ev { tmps := A.tmps, defers := [.collected d] } (.tmp 5) = some (.ptr (some (b5, 0))) := t5
    have hdd : (ADef.collected d :: A.defers) = [.collected d] := by rw [hd]
    have hkb : BytesL ks := fun s hs => by
      obtain ⟨m, h1, h2, rfl⟩ := (hk3 s).1 hs
      exact hb'.out m h1 h2
    replace hk3 := Hid.mk hk3
    replace hkb := Hid.mk hkb
    replace hk1 := Hid.mk hk1
    have hkl : ks.length ≤ 2 ^ 20 := by omega
    clear hd t3 t9 ol od o5 om
    repeat with_reducible first | refine zAA ?_ | refine zAJ ?_ | refine zAC ?_ | refine zAD ?_ | (apply st_q; exact q1)
    refine zAS (by exact s1) ((MKeys_ok H rm h10 g10.wf).mono ?_)
    rintro _ h11 ⟨bk, verk, rfl, hbk, obk, g11⟩
    have om11 := g11.keep _ _ om10
    have od11 := g11.keep _ _ od10
    skip
    refine zAS (by exact s1) ((Sorted_ok H HS ks hkl hkb.out hk1.out rm bk h11 g11.wf ⟨_, _, _, obk⟩ ⟨_, om11⟩).mono ?_)
    rintro rv h12 ⟨out, hSt, hR, hM, hOl, g12⟩
    have od12 := g12.keep _ _ od11
    have g012 := (g10.trans g11).trans g12
    replace hR := Hid.mk hR
    replace hM := Hid.mk hM
    clear om10 od10 om11 od11 obk o510
    repeat with_reducible first | refine zAA ?_ | refine zAB ?_ | refine zAG ?_ | (apply st_q; exact q1)
    refine fin_coll (by first | exact hdd | (simp only [zAV]; exact hdd)) g012.wf ⟨_, od12⟩ fun h13 p13 => ?_
    refine ⟨_, by exact r1, out, sl_stay (fun c ver ro e vs hc => p13.keep c (by rintro rfl; rw [od12] at hc; cases hc) _ hc) hSt, hR.out, fun s => (hM.out s).trans (hk3.out s), hOl, p13.grow h hw g012 (by omega)⟩
theorem EValues_ok (L : List Mean) (hL : L.length ≤ 2 ^ 20) (hb : ∀ m ∈ L, m.value.isSome = true → ∀ c ∈ m.name, c < 256) (v : AVal) (h : AHeap) (hw : WF h) (hE : EnvAt h v L) :
    Cl fns summ 20 [v] h fun r h' => ∃ out, StrsAt h' r out ∧ Rises out ∧ (∀ s, s ∈ out ↔ ∃ m ∈ L, m.value.isSome = true ∧ m.name = s) ∧ out.length ≤ 2 ^ 20 ∧ Grow h h' := by
  have hq := enames_ok H HS L (fun m => m.value.isSome) hL hb (.func 45 [] []) rfl (fun m l bm h hE => cv_func (EValues1_ok H m l bm h hE)) v h hw hE
  refine H.go (fn := F_EValues) rfl (by decide) rfl rfl ?_
  unfold F_EValues
  dsimp only [qQ, qE, qN, gQ, gE, vi]
  repeat with_reducible first | refine zAA ?_ | refine zAB ?_ | refine zAC ?_ | refine zAD ?_ | (apply st_q; exact q1)
  refine zAS (by exact s1) (hq.mono ?_)
  rintro r h2 hr
  repeat' with_reducible first | refine zAA ?_ | refine zAB ?_ | refine zAG ?_ | (apply st_q; exact q1) | (apply zAE; exact n1; exact r1)
  exact hr
end
end Go.Ab.S
end
