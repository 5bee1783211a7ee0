import Derived.Test.YtapnoohglfhgeaaGreatDoorP22
/-
  Part 23 of the proof.
-/
set_option linter.all false
/-
  An Env never changes: the law's walk, altogether.
-/
namespace Go.Ab.S
open Go.Ab
set_option maxHeartbeats 8000000
def NewAt (h : AHeap) (z : AVal) (L : List Mean) : Prop := ∃ b : Nat, z = .ptr (some (b, 0)) ∧ EnvAt h z L
theorem newif_mono {p : Prop} {h h' : AHeap} {z : AVal} {L : List Mean} (k : Hid (p → NewAt h z L)) (g : Grow h h') : Hid (p → NewAt h' z L) := ⟨fun hh => by obtain ⟨b, q, e⟩ := k.out hh; exact ⟨b, q, e.mono g⟩⟩
section
variable {fns : FuncId → Option AFunc} {summ : FuncId → List AVal → AHeap → Option (D (AVal × AHeap))}
variable (H : Has fns summ)
include H
variable (HS : HasSort summ) (HR : HasRead summ) (HG : HasGrow summ)
include HS HR HG
theorem EnvKeeps_ok (l : List StepD) (hn : l.length < 2 ^ 60) (hl : ∀ s ∈ l, StepOK s) (v : AVal) (h0 : AHeap) (hw : WF h0) (hv : StepsAt h0 v l) :
    Cl fns summ 5 [v] h0 fun r h' => r = .bool true ∧ Grow h0 h' := by
  have hlen := hv.len
  have hl' := Hid.mk hl
  clear hl
  refine H.go (fn := F_EnvKeeps) rfl (by decide) rfl rfl ?_
  unfold F_EnvKeeps
  dsimp only [qQ, qE, qN, gQ, gE, vi]
  repeat with_reducible first | refine zAA ?_ | refine zAN ?_ | refine zAa ?_ | refine zAE ?_ | refine zAU ?_ | refine zAZ ?_ | refine blk_other ?_ rfl | refine zAB ?_ | refine zAC ?_ | refine zAD ?_ | refine zAG ?_ | refine zAX ?_ | refine zAK ?_ | refine cd_exit ?_ | refine zAI ?_ | refine dr_nil ?_ | refine zAV ?_ | (apply st_pair; exact e1; exact e1) | (apply dr_pair; exact e1; exact e1) | (apply dr_gT; exact e1) | (apply dr_gF; exact e1) | (apply dr_gU; exact e1) | (apply dr_q; exact q1) | (apply dr_ql; exact q1; exact og1) | (apply st_q; exact q1) | (apply st_pA; exact e1; exact e2) | (apply st_pO; exact e1; exact e2) | (apply st_qT; exact e1; exact q1) | (apply st_qF; exact e1) | (apply st_qU; exact e1) | (apply st_eF; exact e1) | (apply st_eU; exact e1) | (apply st_qS; exact e1; exact g1; exact q2) | (apply st_sA; exact e1; exact g1; exact e2; exact e3) | (apply st_sO; exact e1; exact g1; exact e2; exact e3) | (apply zAF; exact e1) | (apply zAH; exact e1)
  refine zAT (by exact s1) ((alive14_ok H HS HR h0 hw).mono ?_)
  rintro _ h1 ⟨rfl, G⟩
  repeat with_reducible first | refine zAA ?_ | refine zAN ?_ | refine zAa ?_ | refine zAE ?_ | refine zAU ?_ | refine zAZ ?_ | refine blk_other ?_ rfl | refine zAB ?_ | refine zAC ?_ | refine zAD ?_ | refine zAG ?_ | refine zAX ?_ | refine zAK ?_ | refine cd_exit ?_ | refine zAI ?_ | refine dr_nil ?_ | refine zAV ?_ | (apply st_pair; exact e1; exact e1) | (apply dr_pair; exact e1; exact e1) | (apply dr_gT; exact e1) | (apply dr_gF; exact e1) | (apply dr_gU; exact e1) | (apply dr_q; exact q1) | (apply dr_ql; exact q1; exact og1) | (apply st_q; exact q1) | (apply st_pA; exact e1; exact e2) | (apply st_pO; exact e1; exact e2) | (apply st_qT; exact e1; exact q1) | (apply st_qF; exact e1) | (apply st_qU; exact e1) | (apply st_eF; exact e1) | (apply st_eU; exact e1) | (apply st_qS; exact e1; exact g1; exact q2) | (apply st_sA; exact e1; exact g1; exact e2; exact e3) | (apply st_sO; exact e1; exact g1; exact e2; exact e3) | (apply zAF; exact e1) | (apply zAH; exact e1)
  refine zAT (by exact s1) ((egreat_ok H l hn hl'.out v h1 G.wf (hv.mono G)).mono ?_)
  rintro _ h2 ⟨rfl, g2⟩
  replace G := G.trans g2
  clear g2
  cases hgr : egreatF l
  rotate_left
  · repeat' with_reducible first | refine zAA ?_ | refine zAN ?_ | refine zAa ?_ | refine zAE ?_ | refine zAU ?_ | refine zAZ ?_ | refine blk_other ?_ rfl | refine zAB ?_ | refine zAC ?_ | refine zAD ?_ | refine zAG ?_ | refine zAX ?_ | refine zAK ?_ | refine cd_exit ?_ | refine zAI ?_ | refine dr_nil ?_ | refine zAV ?_ | (apply st_pair; exact e1; exact e1) | (apply dr_pair; exact e1; exact e1) | (apply dr_gT; exact e1) | (apply dr_gF; exact e1) | (apply dr_gU; exact e1) | (apply dr_q; exact q1) | (apply dr_ql; exact q1; exact og1) | (apply st_q; exact q1) | (apply st_pA; exact e1; exact e2) | (apply st_pO; exact e1; exact e2) | (apply st_qT; exact e1; exact q1) | (apply st_qF; exact e1) | (apply st_qU; exact e1) | (apply st_eF; exact e1) | (apply st_eU; exact e1) | (apply st_qS; exact e1; exact g1; exact q2) | (apply st_sA; exact e1; exact g1; exact e2; exact e3) | (apply st_sO; exact e1; exact g1; exact e2; exact e3) | (apply zAF; exact e1) | (apply zAH; exact e1) | (apply zAJ; exact n1; exact r1) | (apply cd_cond; exact e1; all_goals intro _)
    exact ⟨rfl, G⟩
  have hgt := Hid.mk (fun s (hs : s ∈ l) => great_tiny hgr hs (hl'.out s hs))
  have hl40 : l.length ≤ 40 := by
    simp only [egreatF, Bool.or_eq_false_iff, decide_eq_false_iff_not] at hgr
    omega
  repeat with_reducible first | refine zAA ?_ | refine zAN ?_ | refine zAa ?_ | refine zAE ?_ | refine zAU ?_ | refine zAZ ?_ | refine blk_other ?_ rfl | refine zAB ?_ | refine zAC ?_ | refine zAD ?_ | refine zAG ?_ | refine zAX ?_ | refine zAK ?_ | refine cd_exit ?_ | refine zAI ?_ | refine dr_nil ?_ | refine zAV ?_ | (apply st_pair; exact e1; exact e1) | (apply dr_pair; exact e1; exact e1) | (apply dr_gT; exact e1) | (apply dr_gF; exact e1) | (apply dr_gU; exact e1) | (apply dr_q; exact q1) | (apply dr_ql; exact q1; exact og1) | (apply st_q; exact q1) | (apply st_pA; exact e1; exact e2) | (apply st_pO; exact e1; exact e2) | (apply st_qT; exact e1; exact q1) | (apply st_qF; exact e1) | (apply st_qU; exact e1) | (apply st_eF; exact e1) | (apply st_eU; exact e1) | (apply st_qS; exact e1; exact g1; exact q2) | (apply st_sA; exact e1; exact g1; exact e2; exact e3) | (apply st_sO; exact e1; exact g1; exact e2; exact e3) | (apply zAF; exact e1) | (apply zAH; exact e1)
  refine zAT (by exact s1) ((EnvNew_ok H HR h2 G.wf).mono ?_)
  rintro _ h3 ⟨⟨be, L, rfl, hL, hE⟩, g3⟩
  have hLO := (new_ti hL).1
  have hLn := (new_ti hL).2
  replace G := G.trans g3
  have e20 : (2 : Nat) ^ 20 = 1048576 := by decide
  clear hL g3
  repeat with_reducible first | refine zAA ?_ | refine zAN ?_ | refine zAa ?_ | refine zAE ?_ | refine zAU ?_ | refine zAZ ?_ | refine blk_other ?_ rfl | refine zAB ?_ | refine zAC ?_ | refine zAD ?_ | refine zAG ?_ | refine zAX ?_ | refine zAK ?_ | refine cd_exit ?_ | refine zAI ?_ | refine dr_nil ?_ | refine zAV ?_ | (apply st_pair; exact e1; exact e1) | (apply dr_pair; exact e1; exact e1) | (apply dr_gT; exact e1) | (apply dr_gF; exact e1) | (apply dr_gU; exact e1) | (apply dr_q; exact q1) | (apply dr_ql; exact q1; exact og1) | (apply st_q; exact q1) | (apply st_pA; exact e1; exact e2) | (apply st_pO; exact e1; exact e2) | (apply st_qT; exact e1; exact q1) | (apply st_qF; exact e1) | (apply st_qU; exact e1) | (apply st_eF; exact e1) | (apply st_eU; exact e1) | (apply st_qS; exact e1; exact g1; exact q2) | (apply st_sA; exact e1; exact g1; exact e2; exact e3) | (apply st_sO; exact e1; exact g1; exact e2; exact e3) | (apply zAF; exact e1) | (apply zAH; exact e1)
  refine cd_count (N := l.length) (by omega) (fun j a hp => ∃ (be : Nat) (L : List Mean), Grow h0 hp ∧ a.defers = [] ∧ ev a (.tmp 25) = some v ∧ ev a (.tmp 3) = some (.ptr (some (be, 0))) ∧ EnvAt hp (.ptr (some (be, 0))) L ∧ LTi L ∧ L.length ≤ 4 + j)
    (by rintro j a hp t w (rfl | rfl | rfl) ⟨be, L, k1, k2, k3, k4, k6⟩ <;> exact ⟨be, L, k1, by rw [zAY]; exact k2, by exact e1, by exact e1, k6⟩) (by decide) ?_ ?_ ⟨be, L, G, by exact n1, by exact e1, by exact e1, hE, hLO, by omega⟩ (by exact e1) (by exact e1)
  rotate_left
  · rintro a hp ⟨be, L, gp, hd, t25, t3, _⟩
    repeat' with_reducible first | refine zAA ?_ | refine zAN ?_ | refine zAa ?_ | refine zAE ?_ | refine zAU ?_ | refine zAZ ?_ | refine blk_other ?_ rfl | refine zAB ?_ | refine zAC ?_ | refine zAD ?_ | refine zAG ?_ | refine zAX ?_ | refine zAK ?_ | refine cd_exit ?_ | refine zAI ?_ | refine dr_nil ?_ | refine zAV ?_ | (apply st_pair; exact e1; exact e1) | (apply dr_pair; exact e1; exact e1) | (apply dr_gT; exact e1) | (apply dr_gF; exact e1) | (apply dr_gU; exact e1) | (apply dr_q; exact q1) | (apply dr_ql; exact q1; exact og1) | (apply st_q; exact q1) | (apply st_pA; exact e1; exact e2) | (apply st_pO; exact e1; exact e2) | (apply st_qT; exact e1; exact q1) | (apply st_qF; exact e1) | (apply st_qU; exact e1) | (apply st_eF; exact e1) | (apply st_eU; exact e1) | (apply st_qS; exact e1; exact g1; exact q2) | (apply st_sA; exact e1; exact g1; exact e2; exact e3) | (apply st_sO; exact e1; exact g1; exact e2; exact e3) | (apply zAF; exact e1) | (apply zAH; exact e1) | (apply zAJ; exact n1; exact r1) | (apply cd_cond; exact e1; all_goals intro _)
    exact ⟨rfl, gp⟩
  clear hE hLO hLn G
  rintro j a hp hj ⟨be, L, gp, hd, t25, t3, hE, hLO, hLn⟩ hi hN
  obtain ⟨b, o, ver, ro, e, vs, nv, mv, cv, vv, hix, hget, hvl, hvo, iN, iM, iC, iV⟩ := hv.at (List.getElem?_eq_getElem hj)
  replace hget := gp.keep _ _ hget
  have hmem : l[j] ∈ l := List.getElem_mem hj
  obtain ⟨tg, tk, sk⟩ := hgt.out _ hmem
  have hok := Hid.mk (hl'.out _ hmem)
  have hone : [.str l[j].name, .bool l[j].cls, nv, .int .i64 l[j].g.root, .int .i64 l[j].c.params, mv, .int .i64 l[j].c.g.root, cv, vv].all one = true := by
    simp only [List.all_cons, List.all_nil, zAO iN.len, zAO iM.len, zAO iC.len, zAO iV.len]; rfl
  have hone5 : [.int .i64 l[j].c.params, mv, .int .i64 l[j].c.g.root, cv, vv].all one = true := by
    simp only [List.all_cons, List.all_nil, zAO iM.len, zAO iC.len, zAO iV.len]; rfl
  have ht9 := take9
  have ht22 := take2_2
  have ht25 := take2_5
  have ht54 := take5_4
  have ht5 := take5
  have ht21 := take21
  have ht2 : ∀ x y : AVal, List.take 2 [x, y] = [x, y] := fun _ _ => rfl
  clear hmem
  replace tg := Hid.mk tg
  replace tk := Hid.mk tk
  replace sk := Hid.mk sk
  replace hLO := Hid.mk hLO
  generalize l[j] = s at *
  repeat with_reducible first | refine zAA ?_ | refine zAN ?_ | refine zAa ?_ | refine zAE ?_ | refine zAU ?_ | refine zAZ ?_ | refine blk_other ?_ rfl | refine zAB ?_ | refine zAC ?_ | refine zAD ?_ | refine zAG ?_ | refine zAX ?_ | refine zAK ?_ | refine cd_exit ?_ | refine zAI ?_ | refine dr_nil ?_ | refine zAV ?_ | (apply st_pair; exact e1; exact e1) | (apply dr_pair; exact e1; exact e1) | (apply dr_gT; exact e1) | (apply dr_gF; exact e1) | (apply dr_gU; exact e1) | (apply dr_q; exact q1) | (apply dr_ql; exact q1; exact og1) | (apply st_q; exact q1) | (apply st_pA; exact e1; exact e2) | (apply st_pO; exact e1; exact e2) | (apply st_qT; exact e1; exact q1) | (apply st_qF; exact e1) | (apply st_qU; exact e1) | (apply st_eF; exact e1) | (apply st_eU; exact e1) | (apply st_qS; exact e1; exact g1; exact q2) | (apply st_sA; exact e1; exact g1; exact e2; exact e3) | (apply st_sO; exact e1; exact g1; exact e2; exact e3) | (apply zAF; exact e1) | (apply zAH; exact e1)
  refine st_alloc gp.wf ?_
  rintro b5 h5 hb5 g5 o5
  refine zAM (by exact e1) (by exact e1) (cs := [.str s.name, .bool s.cls, nv, .int .i64 s.g.root, .int .i64 s.c.params, mv, .int .i64 s.c.g.root, cv, vv]) rfl rfl g5.wf o5 (by simp) hone ?_
  rintro v6 h6 p6 o6
  simp only [List.take_zero, List.nil_append, List.length_cons, List.length_nil, List.drop_succ_cons, List.drop_zero, List.append_nil, Nat.zero_add, Nat.reduceAdd, List.drop_nil, List.cons_append] at o6
  have gg := p6.grow hp gp.wf g5 hb5
  have G := gp.trans gg
  replace hE := hE.mono gg
  clear o5 g5 p6 hget hvl hvo hix hb5 gg gp
  repeat with_reducible first | refine zAA ?_ | refine zAN ?_ | refine zAa ?_ | refine zAE ?_ | refine zAU ?_ | refine zAZ ?_ | refine blk_other ?_ rfl | refine zAB ?_ | refine zAC ?_ | refine zAD ?_ | refine zAG ?_ | refine zAX ?_ | refine zAK ?_ | refine cd_exit ?_ | refine zAI ?_ | refine dr_nil ?_ | refine zAV ?_ | (apply st_pair; exact e1; exact e1) | (apply dr_pair; exact e1; exact e1) | (apply dr_gT; exact e1) | (apply dr_gF; exact e1) | (apply dr_gU; exact e1) | (apply dr_q; exact q1) | (apply dr_ql; exact q1; exact og1) | (apply st_q; exact q1) | (apply st_pA; exact e1; exact e2) | (apply st_pO; exact e1; exact e2) | (apply st_qT; exact e1; exact q1) | (apply st_qF; exact e1) | (apply st_qU; exact e1) | (apply st_eF; exact e1) | (apply st_eU; exact e1) | (apply st_qS; exact e1; exact g1; exact q2) | (apply st_sA; exact e1; exact g1; exact e2; exact e3) | (apply st_sO; exact e1; exact g1; exact e2; exact e3) | (apply zAF; exact e1) | (apply zAH; exact e1)
  refine zAT (by exact s1) ((EValues_ok H HS L (by omega) hLO.out.nv _ h6 G.wf hE).mono ?_)
  rintro sv h7 ⟨outV, hsV, hrV, hmV, hlV, g7⟩
  replace G := G.trans g7
  replace hE := hE.mono g7
  replace o6 := g7.keep _ _ o6
  replace hrV := Hid.mk hrV
  replace hmV := Hid.mk hmV
  clear g7
  repeat with_reducible first | refine zAA ?_ | refine zAN ?_ | refine zAa ?_ | refine zAE ?_ | refine zAU ?_ | refine zAZ ?_ | refine blk_other ?_ rfl | refine zAB ?_ | refine zAC ?_ | refine zAD ?_ | refine zAG ?_ | refine zAX ?_ | refine zAK ?_ | refine cd_exit ?_ | refine zAI ?_ | refine dr_nil ?_ | refine zAV ?_ | (apply st_pair; exact e1; exact e1) | (apply dr_pair; exact e1; exact e1) | (apply dr_gT; exact e1) | (apply dr_gF; exact e1) | (apply dr_gU; exact e1) | (apply dr_q; exact q1) | (apply dr_ql; exact q1; exact og1) | (apply st_q; exact q1) | (apply st_pA; exact e1; exact e2) | (apply st_pO; exact e1; exact e2) | (apply st_qT; exact e1; exact q1) | (apply st_qF; exact e1) | (apply st_qU; exact e1) | (apply st_eF; exact e1) | (apply st_eU; exact e1) | (apply st_qS; exact e1; exact g1; exact q2) | (apply st_sA; exact e1; exact g1; exact e2; exact e3) | (apply st_sO; exact e1; exact g1; exact e2; exact e3) | (apply zAF; exact e1) | (apply zAH; exact e1)
  refine zAT (by exact s1) ((EClasses_ok H HS L (by omega) hLO.out.nc _ h7 G.wf hE).mono ?_)
  rintro sc h8 ⟨outC, hsC, hrC, hmC, hlC, g8⟩
  replace G := G.trans g8
  replace hE := hE.mono g8
  replace o6 := g8.keep _ _ o6
  replace hsV := hsV.mono g8
  replace hrC := Hid.mk hrC
  replace hmC := Hid.mk hmC
  clear g8
  have hR := Hid.mk (res_sm hLO.out s.name)
  repeat with_reducible first | refine zAA ?_ | refine zAN ?_ | refine zAa ?_ | refine zAE ?_ | refine zAU ?_ | refine zAZ ?_ | refine blk_other ?_ rfl | refine zAB ?_ | refine zAC ?_ | refine zAD ?_ | refine zAG ?_ | refine zAX ?_ | refine zAK ?_ | refine cd_exit ?_ | refine zAI ?_ | refine dr_nil ?_ | refine zAV ?_ | (apply st_pair; exact e1; exact e1) | (apply dr_pair; exact e1; exact e1) | (apply dr_gT; exact e1) | (apply dr_gF; exact e1) | (apply dr_gU; exact e1) | (apply dr_q; exact q1) | (apply dr_ql; exact q1; exact og1) | (apply st_q; exact q1) | (apply st_pA; exact e1; exact e2) | (apply st_pO; exact e1; exact e2) | (apply st_qT; exact e1; exact q1) | (apply st_qF; exact e1) | (apply st_qU; exact e1) | (apply st_eF; exact e1) | (apply st_eU; exact e1) | (apply st_qS; exact e1; exact g1; exact q2) | (apply st_sA; exact e1; exact g1; exact e2; exact e3) | (apply st_sO; exact e1; exact g1; exact e2; exact e3) | (apply zAF; exact e1) | (apply zAH; exact e1)
  refine zAT (by exact s1) ((EValue_ok H L hLO.out.val hLO.out.ne _ s.name h8 G.wf hE).mono ?_)
  generalize hRe : resG (valueF L s.name) = R at *
  generalize hce : (if (valueF L s.name).isSome = true then (0 : Int) else 10) = code at *
  replace hRe := Hid.mk hRe
  replace hce := Hid.mk hce
  rintro _ h9 ⟨⟨_, rfl, zn, rfl, hzn⟩, g9⟩
  have hzo := zAO hzn.len
  replace G := G.trans g9
  replace hE := hE.mono g9
  replace o6 := g9.keep _ _ o6
  replace hsV := hsV.mono g9
  replace hsC := hsC.mono g9
  clear g9
  repeat with_reducible first | refine zAA ?_ | refine zAN ?_ | refine zAa ?_ | refine zAE ?_ | refine zAU ?_ | refine zAZ ?_ | refine blk_other ?_ rfl | refine zAB ?_ | refine zAC ?_ | refine zAD ?_ | refine zAG ?_ | refine zAX ?_ | refine zAK ?_ | refine cd_exit ?_ | refine zAI ?_ | refine dr_nil ?_ | refine zAV ?_ | (apply st_pair; exact e1; exact e1) | (apply dr_pair; exact e1; exact e1) | (apply dr_gT; exact e1) | (apply dr_gF; exact e1) | (apply dr_gU; exact e1) | (apply dr_q; exact q1) | (apply dr_ql; exact q1; exact og1) | (apply st_q; exact q1) | (apply st_pA; exact e1; exact e2) | (apply st_pO; exact e1; exact e2) | (apply st_qT; exact e1; exact q1) | (apply st_qF; exact e1) | (apply st_qU; exact e1) | (apply st_eF; exact e1) | (apply st_eU; exact e1) | (apply st_qS; exact e1; exact g1; exact q2) | (apply st_sA; exact e1; exact g1; exact e2; exact e3) | (apply st_sO; exact e1; exact g1; exact e2; exact e3) | (apply zAF; exact e1) | (apply zAH; exact e1)
  refine st_alloc G.wf ?_
  rintro b8 h10 hb8 g10 o8
  refine zAM (by exact e1) (by exact e1) (cs := [zn, .int .i64 R.root]) rfl rfl g10.wf o8 (by simp) (by rw [List.all_cons, List.all_cons, hzo]; rfl) ?_
  rintro v11 h11 p11 o11
  simp only [List.take_zero, List.nil_append, List.length_cons, List.length_nil, List.drop_succ_cons, List.drop_zero, List.append_nil, Nat.zero_add, Nat.reduceAdd, List.drop_nil, List.cons_append] at o11
  have gg := p11.grow h9 G.wf g10 hb8
  replace G := G.trans gg
  replace hE := hE.mono gg
  replace o6 := gg.keep _ _ o6
  replace hsV := hsV.mono gg
  replace hsC := hsC.mono gg
  replace hzn := hzn.mono gg
  clear gg o8 g10 p11 hb8
  repeat with_reducible first | refine zAA ?_ | refine zAN ?_ | refine zAa ?_ | refine zAE ?_ | refine zAU ?_ | refine zAZ ?_ | refine blk_other ?_ rfl | refine zAB ?_ | refine zAC ?_ | refine zAD ?_ | refine zAG ?_ | refine zAX ?_ | refine zAK ?_ | refine cd_exit ?_ | refine zAI ?_ | refine dr_nil ?_ | refine zAV ?_ | (apply st_pair; exact e1; exact e1) | (apply dr_pair; exact e1; exact e1) | (apply dr_gT; exact e1) | (apply dr_gF; exact e1) | (apply dr_gU; exact e1) | (apply dr_q; exact q1) | (apply dr_ql; exact q1; exact og1) | (apply st_q; exact q1) | (apply st_pA; exact e1; exact e2) | (apply st_pO; exact e1; exact e2) | (apply st_qT; exact e1; exact q1) | (apply st_qF; exact e1) | (apply st_qU; exact e1) | (apply st_eF; exact e1) | (apply st_eU; exact e1) | (apply st_qS; exact e1; exact g1; exact q2) | (apply st_sA; exact e1; exact g1; exact e2; exact e3) | (apply st_sO; exact e1; exact g1; exact e2; exact e3) | (apply zAF; exact e1) | (apply zAH; exact e1)
  refine zAT (by exact s1) ((WithValue_ok H L be s.name hok.out.name s.g tg.out _ h11 G.wf hE ⟨nv, rfl, iN.mono G⟩).mono ?_)
  rintro _ h12 ⟨⟨zv, rfl, hz0, hz1⟩, g12⟩
  replace G := G.trans g12
  replace hE := hE.mono g12
  replace o6 := g12.keep _ _ o6
  replace o11 := g12.keep _ _ o11
  replace hsV := hsV.mono g12
  replace hsC := hsC.mono g12
  replace hzn := hzn.mono g12
  replace hz0 := Hid.mk hz0
  replace hz1 : Hid (withF s.name s.g = 0 → NewAt h12 zv (⟨s.name, some (leastF s.g), none⟩ :: L)) := ⟨hz1⟩
  clear g12
  repeat with_reducible first | refine zAA ?_ | refine zAN ?_ | refine zAa ?_ | refine zAE ?_ | refine zAU ?_ | refine zAZ ?_ | refine blk_other ?_ rfl | refine zAB ?_ | refine zAC ?_ | refine zAD ?_ | refine zAG ?_ | refine zAX ?_ | refine zAK ?_ | refine cd_exit ?_ | refine zAI ?_ | refine dr_nil ?_ | refine zAV ?_ | (apply st_pair; exact e1; exact e1) | (apply dr_pair; exact e1; exact e1) | (apply dr_gT; exact e1) | (apply dr_gF; exact e1) | (apply dr_gU; exact e1) | (apply dr_q; exact q1) | (apply dr_ql; exact q1; exact og1) | (apply st_q; exact q1) | (apply st_pA; exact e1; exact e2) | (apply st_pO; exact e1; exact e2) | (apply st_qT; exact e1; exact q1) | (apply st_qF; exact e1) | (apply st_qU; exact e1) | (apply st_eF; exact e1) | (apply st_eU; exact e1) | (apply st_qS; exact e1; exact g1; exact q2) | (apply st_sA; exact e1; exact g1; exact e2; exact e3) | (apply st_sO; exact e1; exact g1; exact e2; exact e3) | (apply zAF; exact e1) | (apply zAH; exact e1)
  refine dr_e (ex_callF (by exact s1) ((sTo_ok H _ _ _ _ _ hone5 h12 G.wf).mono ?_))
  rintro _ h13 ⟨rfl, g13⟩
  replace G := G.trans g13
  replace hE := hE.mono g13
  replace hsV := hsV.mono g13
  replace hsC := hsC.mono g13
  replace hzn := hzn.mono g13
  replace o6 := g13.keep _ _ o6
  replace o11 := g13.keep _ _ o11
  replace hz1 := newif_mono hz1 g13
  refine ⟨by simp [heldOk, Nat.testBit, o6], ?_⟩
  refine dr_e (ex_callF (by exact s1) ((WithClass_ok H HG HS L be s.name hok.out.name s.c sk.out tk.out mv cv vv h13 G.wf hE (iM.mono G) (iC.mono G) (iV.mono G)).mono ?_))
  rintro _ h14 ⟨⟨yv, rfl, hy0, hy1⟩, g14⟩
  replace G := G.trans g14
  replace hE := hE.mono g14
  replace hsV := hsV.mono g14
  replace hsC := hsC.mono g14
  replace hzn := hzn.mono g14
  replace o6 := g14.keep _ _ o6
  replace o11 := g14.keep _ _ o11
  replace hz1 := newif_mono hz1 g14
  replace hy0 := Hid.mk hy0
  replace hy1 : Hid (withC s.name s.c = 0 → NewAt h14 yv (⟨s.name, none, some (keptC s.c)⟩ :: L)) := ⟨hy1⟩
  refine ⟨by simp [heldOk, Nat.testBit, o6], ?_⟩
  clear g13 g14
  repeat with_reducible first | refine zAA ?_ | refine zAN ?_ | refine zAa ?_ | refine zAE ?_ | refine zAU ?_ | refine zAZ ?_ | refine blk_other ?_ rfl | refine zAB ?_ | refine zAC ?_ | refine zAD ?_ | refine zAG ?_ | refine zAX ?_ | refine zAK ?_ | refine cd_exit ?_ | refine zAI ?_ | refine dr_nil ?_ | refine zAV ?_ | (apply st_pair; exact e1; exact e1) | (apply dr_pair; exact e1; exact e1) | (apply dr_gT; exact e1) | (apply dr_gF; exact e1) | (apply dr_gU; exact e1) | (apply dr_q; exact q1) | (apply dr_ql; exact q1; exact og1) | (apply st_q; exact q1) | (apply st_pA; exact e1; exact e2) | (apply st_pO; exact e1; exact e2) | (apply st_qT; exact e1; exact q1) | (apply st_qF; exact e1) | (apply st_qU; exact e1) | (apply st_eF; exact e1) | (apply st_eU; exact e1) | (apply st_qS; exact e1; exact g1; exact q2) | (apply st_sA; exact e1; exact g1; exact e2; exact e3) | (apply st_sO; exact e1; exact g1; exact e2; exact e3) | (apply zAF; exact e1) | (apply zAH; exact e1)
  have hRq : Hid (∀ hq, WF hq → EnvAt hq (.ptr (some (be, 0))) L → Cl fns summ 11 [.ptr (some (be, 0)), .str s.name] hq fun r h' => (∃ yn, r = .tuple [.agg [yn, .int .i64 R.root], .int .i64 code] ∧ NodesAt h' yn R.nodes) ∧ Grow hq h') := ⟨fun hq wq hEq => (EValue_ok H L hLO.out.val hLO.out.ne _ s.name hq wq hEq).mono fun r h' hh => by
    obtain ⟨⟨z, hr, zn, hz, hN⟩, gg⟩ := hh
    rw [hce.out] at hr
    rw [hRe.out] at hz hN
    exact ⟨⟨zn, by rw [hr, hz], hN⟩, gg⟩⟩
  refine zAT (by exact s1) ((hRq.out h14 G.wf hE).mono ?_)
  rintro _ h15 ⟨⟨yn, rfl, hyn⟩, g15⟩
  have hyo := zAO hyn.len
  replace G := G.trans g15
  replace hE := hE.mono g15
  replace hsV := hsV.mono g15
  replace hsC := hsC.mono g15
  replace hzn := hzn.mono g15
  replace o6 := g15.keep _ _ o6
  replace o11 := g15.keep _ _ o11
  replace hz1 := newif_mono hz1 g15
  replace hy1 := newif_mono hy1 g15
  clear g15
  repeat with_reducible first | refine zAA ?_ | refine zAN ?_ | refine zAa ?_ | refine zAE ?_ | refine zAU ?_ | refine zAZ ?_ | refine blk_other ?_ rfl | refine zAB ?_ | refine zAC ?_ | refine zAD ?_ | refine zAG ?_ | refine zAX ?_ | refine zAK ?_ | refine cd_exit ?_ | refine zAI ?_ | refine dr_nil ?_ | refine zAV ?_ | (apply st_pair; exact e1; exact e1) | (apply dr_pair; exact e1; exact e1) | (apply dr_gT; exact e1) | (apply dr_gF; exact e1) | (apply dr_gU; exact e1) | (apply dr_q; exact q1) | (apply dr_ql; exact q1; exact og1) | (apply st_q; exact q1) | (apply st_pA; exact e1; exact e2) | (apply st_pO; exact e1; exact e2) | (apply st_qT; exact e1; exact q1) | (apply st_qF; exact e1) | (apply st_qU; exact e1) | (apply st_eF; exact e1) | (apply st_eU; exact e1) | (apply st_qS; exact e1; exact g1; exact q2) | (apply st_sA; exact e1; exact g1; exact e2; exact e3) | (apply st_sO; exact e1; exact g1; exact e2; exact e3) | (apply zAF; exact e1) | (apply zAH; exact e1)
  refine st_alloc G.wf ?_
  rintro b14 h16 hb14 g16 o14
  refine zAM (by exact e1) (by exact e1) (cs := [yn, .int .i64 R.root]) rfl rfl g16.wf o14 (by simp) (by rw [List.all_cons, List.all_cons, hyo]; rfl) ?_
  rintro v17 h17 p17 o17
  simp only [List.take_zero, List.nil_append, List.length_cons, List.length_nil, List.drop_succ_cons, List.drop_zero, List.append_nil, Nat.zero_add, Nat.reduceAdd, List.drop_nil, List.cons_append] at o17
  have gg := p17.grow h15 G.wf g16 hb14
  replace G := G.trans gg
  replace hE := hE.mono gg
  replace hsV := hsV.mono gg
  replace hsC := hsC.mono gg
  replace hzn := hzn.mono gg
  replace o6 := gg.keep _ _ o6
  replace o11 := gg.keep _ _ o11
  replace hz1 := newif_mono hz1 gg
  replace hy1 := newif_mono hy1 gg
  replace hyn := hyn.mono gg
  clear o14 g16 p17 hb14 gg
  repeat with_reducible first | refine zAA ?_ | refine zAN ?_ | refine zAa ?_ | refine zAE ?_ | refine zAU ?_ | refine zAZ ?_ | refine blk_other ?_ rfl | refine zAB ?_ | refine zAC ?_ | refine zAD ?_ | refine zAG ?_ | refine zAX ?_ | refine zAK ?_ | refine cd_exit ?_ | refine zAI ?_ | refine dr_nil ?_ | refine zAV ?_ | (apply st_pair; exact e1; exact e1) | (apply dr_pair; exact e1; exact e1) | (apply dr_gT; exact e1) | (apply dr_gF; exact e1) | (apply dr_gU; exact e1) | (apply dr_q; exact q1) | (apply dr_ql; exact q1; exact og1) | (apply st_q; exact q1) | (apply st_pA; exact e1; exact e2) | (apply st_pO; exact e1; exact e2) | (apply st_qT; exact e1; exact q1) | (apply st_qF; exact e1) | (apply st_qU; exact e1) | (apply st_eF; exact e1) | (apply st_eU; exact e1) | (apply st_qS; exact e1; exact g1; exact q2) | (apply st_sA; exact e1; exact g1; exact e2; exact e3) | (apply st_sO; exact e1; exact g1; exact e2; exact e3) | (apply zAF; exact e1) | (apply zAH; exact e1)
  refine zAT (by exact s1) ((Equal_ok H R hR.out _ _ h17 G.wf ⟨zn, rfl, hzn⟩ ⟨yn, rfl, hyn⟩).mono ?_)
  rintro _ h18 ⟨rfl, g18⟩
  replace G := G.trans g18
  replace hE := hE.mono g18
  replace hsV := hsV.mono g18
  replace hsC := hsC.mono g18
  replace o6 := g18.keep _ _ o6
  replace hz1 := newif_mono hz1 g18
  replace hy1 := newif_mono hy1 g18
  clear g18 o11 o17 hzn hyn hRq hRe hce hR
  have hcc : (code != code) = false := by simp
  have hll : ∀ L : List (List Nat), eqLL L L = true := fun L => eqLL_iff.2 rfl
  replace hll := Hid.mk hll
  repeat with_reducible first | refine zAA ?_ | refine zAN ?_ | refine zAa ?_ | refine zAE ?_ | refine zAU ?_ | refine zAZ ?_ | refine blk_other ?_ rfl | refine zAB ?_ | refine zAC ?_ | refine zAD ?_ | refine zAG ?_ | refine zAX ?_ | refine zAK ?_ | refine cd_exit ?_ | refine zAI ?_ | refine dr_nil ?_ | refine zAV ?_ | (apply st_pair; exact e1; exact e1) | (apply dr_pair; exact e1; exact e1) | (apply dr_gT; exact e1) | (apply dr_gF; exact e1) | (apply dr_gU; exact e1) | (apply dr_q; exact q1) | (apply dr_ql; exact q1; exact og1) | (apply st_q; exact q1) | (apply st_pA; exact e1; exact e2) | (apply st_pO; exact e1; exact e2) | (apply st_qT; exact e1; exact q1) | (apply st_qF; exact e1) | (apply st_qU; exact e1) | (apply st_eF; exact e1) | (apply st_eU; exact e1) | (apply st_qS; exact e1; exact g1; exact q2) | (apply st_sA; exact e1; exact g1; exact e2; exact e3) | (apply st_sO; exact e1; exact g1; exact e2; exact e3) | (apply zAF; exact e1) | (apply zAH; exact e1)
  refine st_callT (by exact e1) (by exact s1) ((EValues_ok H HS L (by omega) hLO.out.nv _ h18 G.wf hE).mono ?_)
  rintro ru h19 ⟨o2, hs2, hr2, hm2, _, g19⟩
  have ho2 : o2 = outV := rises_ext hr2 hrV.out fun x => (hm2 x).trans (hmV.out x).symm
  subst ho2
  replace G := G.trans g19
  replace hE := hE.mono g19
  replace hsV := hsV.mono g19
  replace hsC := hsC.mono g19
  replace o6 := g19.keep _ _ o6
  replace hz1 := newif_mono hz1 g19
  replace hy1 := newif_mono hy1 g19
  clear g19 hr2 hm2
  repeat with_reducible first | refine zAA ?_ | refine zAN ?_ | refine zAa ?_ | refine zAE ?_ | refine zAU ?_ | refine zAZ ?_ | refine blk_other ?_ rfl | refine zAB ?_ | refine zAC ?_ | refine zAD ?_ | refine zAG ?_ | refine zAX ?_ | refine zAK ?_ | refine cd_exit ?_ | refine zAI ?_ | refine dr_nil ?_ | refine zAV ?_ | (apply st_pair; exact e1; exact e1) | (apply dr_pair; exact e1; exact e1) | (apply dr_gT; exact e1) | (apply dr_gF; exact e1) | (apply dr_gU; exact e1) | (apply dr_q; exact q1) | (apply dr_ql; exact q1; exact og1) | (apply st_q; exact q1) | (apply st_pA; exact e1; exact e2) | (apply st_pO; exact e1; exact e2) | (apply st_qT; exact e1; exact q1) | (apply st_qF; exact e1) | (apply st_qU; exact e1) | (apply st_eF; exact e1) | (apply st_eU; exact e1) | (apply st_qS; exact e1; exact g1; exact q2) | (apply st_sA; exact e1; exact g1; exact e2; exact e3) | (apply st_sO; exact e1; exact g1; exact e2; exact e3) | (apply zAF; exact e1) | (apply zAH; exact e1)
  refine st_callT (by exact e1) (by exact s1) ((Labels_ok H o2 o2 (by omega) ru sv h19 hs2 hsV).mono ?_)
  rw [hll.out]
  rintro _ h20 ⟨rfl, hq20⟩
  replace hq20 := hq20.symm
  subst hq20
  clear hs2
  repeat with_reducible first | refine zAA ?_ | refine zAN ?_ | refine zAa ?_ | refine zAE ?_ | refine zAU ?_ | refine zAZ ?_ | refine blk_other ?_ rfl | refine zAB ?_ | refine zAC ?_ | refine zAD ?_ | refine zAG ?_ | refine zAX ?_ | refine zAK ?_ | refine cd_exit ?_ | refine zAI ?_ | refine dr_nil ?_ | refine zAV ?_ | (apply st_pair; exact e1; exact e1) | (apply dr_pair; exact e1; exact e1) | (apply dr_gT; exact e1) | (apply dr_gF; exact e1) | (apply dr_gU; exact e1) | (apply dr_q; exact q1) | (apply dr_ql; exact q1; exact og1) | (apply st_q; exact q1) | (apply st_pA; exact e1; exact e2) | (apply st_pO; exact e1; exact e2) | (apply st_qT; exact e1; exact q1) | (apply st_qF; exact e1) | (apply st_qU; exact e1) | (apply st_eF; exact e1) | (apply st_eU; exact e1) | (apply st_qS; exact e1; exact g1; exact q2) | (apply st_sA; exact e1; exact g1; exact e2; exact e3) | (apply st_sO; exact e1; exact g1; exact e2; exact e3) | (apply zAF; exact e1) | (apply zAH; exact e1)
  refine st_callT (by exact e1) (by exact s1) ((EClasses_ok H HS L (by omega) hLO.out.nc _ _ G.wf hE).mono ?_)
  rintro rc h21 ⟨o3, hs3, hr3, hm3, _, g21⟩
  have ho3 : o3 = outC := rises_ext hr3 hrC.out fun x => (hm3 x).trans (hmC.out x).symm
  subst ho3
  replace G := G.trans g21
  replace hE := hE.mono g21
  replace hsV := hsV.mono g21
  replace hsC := hsC.mono g21
  replace o6 := g21.keep _ _ o6
  replace hz1 := newif_mono hz1 g21
  replace hy1 := newif_mono hy1 g21
  clear g21 hr3 hm3
  repeat with_reducible first | refine zAA ?_ | refine zAN ?_ | refine zAa ?_ | refine zAE ?_ | refine zAU ?_ | refine zAZ ?_ | refine blk_other ?_ rfl | refine zAB ?_ | refine zAC ?_ | refine zAD ?_ | refine zAG ?_ | refine zAX ?_ | refine zAK ?_ | refine cd_exit ?_ | refine zAI ?_ | refine dr_nil ?_ | refine zAV ?_ | (apply st_pair; exact e1; exact e1) | (apply dr_pair; exact e1; exact e1) | (apply dr_gT; exact e1) | (apply dr_gF; exact e1) | (apply dr_gU; exact e1) | (apply dr_q; exact q1) | (apply dr_ql; exact q1; exact og1) | (apply st_q; exact q1) | (apply st_pA; exact e1; exact e2) | (apply st_pO; exact e1; exact e2) | (apply st_qT; exact e1; exact q1) | (apply st_qF; exact e1) | (apply st_qU; exact e1) | (apply st_eF; exact e1) | (apply st_eU; exact e1) | (apply st_qS; exact e1; exact g1; exact q2) | (apply st_sA; exact e1; exact g1; exact e2; exact e3) | (apply st_sO; exact e1; exact g1; exact e2; exact e3) | (apply zAF; exact e1) | (apply zAH; exact e1)
  refine st_callT (by exact e1) (by exact s1) ((Labels_ok H o3 o3 (by omega) rc sc h21 hs3 hsC).mono ?_)
  rw [hll.out]
  rintro _ h22 ⟨rfl, hq22⟩
  replace hq22 := hq22.symm
  subst hq22
  clear hs3 hsC
  repeat with_reducible first | refine zAA ?_ | refine zAN ?_ | refine zAa ?_ | refine zAE ?_ | refine zAU ?_ | refine zAZ ?_ | refine blk_other ?_ rfl | refine zAB ?_ | refine zAC ?_ | refine zAD ?_ | refine zAG ?_ | refine zAX ?_ | refine zAK ?_ | refine cd_exit ?_ | refine zAI ?_ | refine dr_nil ?_ | refine zAV ?_ | (apply st_pair; exact e1; exact e1) | (apply dr_pair; exact e1; exact e1) | (apply dr_gT; exact e1) | (apply dr_gF; exact e1) | (apply dr_gU; exact e1) | (apply dr_q; exact q1) | (apply dr_ql; exact q1; exact og1) | (apply st_q; exact q1) | (apply st_pA; exact e1; exact e2) | (apply st_pO; exact e1; exact e2) | (apply st_qT; exact e1; exact q1) | (apply st_qF; exact e1) | (apply st_qU; exact e1) | (apply st_eF; exact e1) | (apply st_eU; exact e1) | (apply st_qS; exact e1; exact g1; exact q2) | (apply st_sA; exact e1; exact g1; exact e2; exact e3) | (apply st_sO; exact e1; exact g1; exact e2; exact e3) | (apply zAF; exact e1) | (apply zAH; exact e1)
  -- the type that is told
  clear hll hcc
  refine cd_gen (fun A => A.defers = [] ∧ ev A (.tmp 25) = some v ∧ ev A (.tmp 26) = some (.int .i64 (l.length : Nat)) ∧ ev A (.tmp 27) = some (.int .i64 (j : Nat)) ∧ ev A (.tmp 3) = some (.ptr (some (be, 0))) ∧ ev A (.tmp 5) = some (.ptr (some (b5, 0))) ∧ ev A (.tmp 6) = some sv ∧ ev A (.tmp 10) = some zv ∧ ev A (.tmp 92) = some (.bool (withF s.name s.g == 0)) ∧ ev A (.tmp 12) = some yv ∧ ev A (.tmp 13) = some (.int .i64 (withC s.name s.c)))
    ⟨by exact n1, by exact e1, by exact e1, by exact e1, by exact e1, by exact e1, by exact e1, by exact e1, by exact e1, by exact e1, by exact e1⟩ ?_
  clear hd t25 t3 hi hN
  rintro A ⟨hd, t25, t26, t27, t3, t5, t6, t10, t92, t12, t13⟩
  refine cd_mid (fun A hq => ∃ (be : Nat) (L : List Mean), Grow h21 hq ∧ A.defers = [] ∧ ev A (.tmp 25) = some v ∧ ev A (.tmp 26) = some (.int .i64 (l.length : Nat)) ∧ ev A (.tmp 27) = some (.int .i64 (j : Nat)) ∧ ev A (.tmp 3) = some (.ptr (some (be, 0))) ∧ ev A (.tmp 5) = some (.ptr (some (b5, 0))) ∧ ev A (.tmp 12) = some yv ∧ ev A (.tmp 13) = some (.int .i64 (withC s.name s.c)) ∧ EnvAt hq (.ptr (some (be, 0))) L ∧ LTi L ∧ L.length ≤ 4 + (j + 1)) ?_ ?_
  · cases c3 : withF s.name s.g == 0
    · rw [c3] at t92
      repeat with_reducible first | refine zAA ?_ | refine zAN ?_ | refine zAa ?_ | refine zAE ?_ | refine zAU ?_ | refine zAZ ?_ | refine blk_other ?_ rfl | refine zAB ?_ | refine zAC ?_ | refine zAD ?_ | refine zAG ?_ | refine zAX ?_ | refine zAK ?_ | refine cd_exit ?_ | refine zAI ?_ | refine dr_nil ?_ | refine zAV ?_ | (apply st_pair; exact e1; exact e1) | (apply dr_pair; exact e1; exact e1) | (apply dr_gT; exact e1) | (apply dr_gF; exact e1) | (apply dr_gU; exact e1) | (apply dr_q; exact q1) | (apply dr_ql; exact q1; exact og1) | (apply st_q; exact q1) | (apply st_pA; exact e1; exact e2) | (apply st_pO; exact e1; exact e2) | (apply st_qT; exact e1; exact q1) | (apply st_qF; exact e1) | (apply st_qU; exact e1) | (apply st_eF; exact e1) | (apply st_eU; exact e1) | (apply st_qS; exact e1; exact g1; exact q2) | (apply st_sA; exact e1; exact g1; exact e2; exact e3) | (apply st_sO; exact e1; exact g1; exact e2; exact e3) | (apply zAF; exact e1) | (apply zAH; exact e1)
      exact ⟨be, L, Grow.refl G.wf, by exact n1, by exact e1, by exact e1, by exact e1, by exact e1, by exact e1, by exact e1, by exact e1, hE, hLO.out, by omega⟩
    · rw [c3] at t92
      have hw0 : withF s.name s.g = 0 := by simpa using c3
      obtain ⟨bz, rfl, hEz⟩ := hz1.out hw0
      have hLZ := Hid.mk (hLO.out.putV tg.out hw0)
      have hcg := (withF_ok hw0).2
      have hst := Hid.mk (own_same hcg)
      have hto := Hid.mk (own_tiny tg.out hcg)
      clear hz1 hz0 hw0 c3
      repeat with_reducible first | refine zAA ?_ | refine zAN ?_ | refine zAa ?_ | refine zAE ?_ | refine zAU ?_ | refine zAZ ?_ | refine blk_other ?_ rfl | refine zAB ?_ | refine zAC ?_ | refine zAD ?_ | refine zAG ?_ | refine zAX ?_ | refine zAK ?_ | refine cd_exit ?_ | refine zAI ?_ | refine dr_nil ?_ | refine zAV ?_ | (apply st_pair; exact e1; exact e1) | (apply dr_pair; exact e1; exact e1) | (apply dr_gT; exact e1) | (apply dr_gF; exact e1) | (apply dr_gU; exact e1) | (apply dr_q; exact q1) | (apply dr_ql; exact q1; exact og1) | (apply st_q; exact q1) | (apply st_pA; exact e1; exact e2) | (apply st_pO; exact e1; exact e2) | (apply st_qT; exact e1; exact q1) | (apply st_qF; exact e1) | (apply st_qU; exact e1) | (apply st_eF; exact e1) | (apply st_eU; exact e1) | (apply st_qS; exact e1; exact g1; exact q2) | (apply st_sA; exact e1; exact g1; exact e2; exact e3) | (apply st_sO; exact e1; exact g1; exact e2; exact e3) | (apply zAF; exact e1) | (apply zAH; exact e1)
      refine zAT (by exact s1) ((EValue_some H _ hLZ.out.val hLZ.out.ne _ s.name (leastF s.g) (value_new L s.name _) h21 G.wf hEz).mono ?_)
      rintro _ h22 ⟨⟨xn, rfl, hxn⟩, g22⟩
      have hxo := zAO hxn.len
      have G2 := G.trans g22
      have gX := g22
      have o62 := g22.keep _ _ o6
      have hEz2 := hEz.mono g22
      clear g22 hEz
      generalize trimF (leastF s.g) = X at *
      repeat with_reducible first | refine zAA ?_ | refine zAN ?_ | refine zAa ?_ | refine zAE ?_ | refine zAU ?_ | refine zAZ ?_ | refine blk_other ?_ rfl | refine zAB ?_ | refine zAC ?_ | refine zAD ?_ | refine zAG ?_ | refine zAX ?_ | refine zAK ?_ | refine cd_exit ?_ | refine zAI ?_ | refine dr_nil ?_ | refine zAV ?_ | (apply st_pair; exact e1; exact e1) | (apply dr_pair; exact e1; exact e1) | (apply dr_gT; exact e1) | (apply dr_gF; exact e1) | (apply dr_gU; exact e1) | (apply dr_q; exact q1) | (apply dr_ql; exact q1; exact og1) | (apply st_q; exact q1) | (apply st_pA; exact e1; exact e2) | (apply st_pO; exact e1; exact e2) | (apply st_qT; exact e1; exact q1) | (apply st_qF; exact e1) | (apply st_qU; exact e1) | (apply st_eF; exact e1) | (apply st_eU; exact e1) | (apply st_qS; exact e1; exact g1; exact q2) | (apply st_sA; exact e1; exact g1; exact e2; exact e3) | (apply st_sO; exact e1; exact g1; exact e2; exact e3) | (apply zAF; exact e1) | (apply zAH; exact e1)
      refine st_alloc G2.wf ?_
      rintro b16 h23 hb16 g23 o16
      refine zAM (by exact e1) (by exact e1) (cs := [xn, .int .i64 X.root]) rfl rfl g23.wf o16 (by simp) (by rw [List.all_cons, List.all_cons, hxo]; rfl) ?_
      rintro v24 h24 p24 o24
      simp only [List.take_zero, List.nil_append, List.length_cons, List.length_nil, List.drop_succ_cons, List.drop_zero, List.append_nil, Nat.zero_add, Nat.reduceAdd, List.drop_nil, List.cons_append] at o24
      have gg := p24.grow h22 G2.wf g23 hb16
      have gX4 := gX.trans gg
      have G4 := G2.trans gg
      have o64 := gg.keep _ _ o62
      have hEz4 := hEz2.mono gg
      have hxn4 := hxn.mono gg
      have h00 : ((0 : Int) != 0) = false := rfl
      clear gg o16 g23 p24 hb16 o62 hEz2 hxn gX G2
      repeat with_reducible first | refine zAA ?_ | refine zAN ?_ | refine zAa ?_ | refine zAE ?_ | refine zAU ?_ | refine zAZ ?_ | refine blk_other ?_ rfl | refine zAB ?_ | refine zAC ?_ | refine zAD ?_ | refine zAG ?_ | refine zAX ?_ | refine zAK ?_ | refine cd_exit ?_ | refine zAI ?_ | refine dr_nil ?_ | refine zAV ?_ | (apply st_pair; exact e1; exact e1) | (apply dr_pair; exact e1; exact e1) | (apply dr_gT; exact e1) | (apply dr_gF; exact e1) | (apply dr_gU; exact e1) | (apply dr_q; exact q1) | (apply dr_ql; exact q1; exact og1) | (apply st_q; exact q1) | (apply st_pA; exact e1; exact e2) | (apply st_pO; exact e1; exact e2) | (apply st_qT; exact e1; exact q1) | (apply st_qF; exact e1) | (apply st_qU; exact e1) | (apply st_eF; exact e1) | (apply st_eU; exact e1) | (apply st_qS; exact e1; exact g1; exact q2) | (apply st_sA; exact e1; exact g1; exact e2; exact e3) | (apply st_sO; exact e1; exact g1; exact e2; exact e3) | (apply zAF; exact e1) | (apply zAH; exact e1)
      refine st_callT (by exact e1) (by exact s1) ((Same_ok H X s.g hto.out tg.out _ _ h24 G4.wf ⟨xn, rfl, hxn4⟩ ⟨nv, rfl, iN.mono G4⟩).mono ?_)
      rw [hst.out]
      rintro _ h25 ⟨rfl, g25⟩
      have gX5 := gX4.trans g25
      have G5 := G4.trans g25
      have hEz5 := hEz4.mono g25
      clear g25 o64 hEz4 hxn4 o24 gX4 G4
      repeat with_reducible first | refine zAA ?_ | refine zAN ?_ | refine zAa ?_ | refine zAE ?_ | refine zAU ?_ | refine zAZ ?_ | refine blk_other ?_ rfl | refine zAB ?_ | refine zAC ?_ | refine zAD ?_ | refine zAG ?_ | refine zAX ?_ | refine zAK ?_ | refine cd_exit ?_ | refine zAI ?_ | refine dr_nil ?_ | refine zAV ?_ | (apply st_pair; exact e1; exact e1) | (apply dr_pair; exact e1; exact e1) | (apply dr_gT; exact e1) | (apply dr_gF; exact e1) | (apply dr_gU; exact e1) | (apply dr_q; exact q1) | (apply dr_ql; exact q1; exact og1) | (apply st_q; exact q1) | (apply st_pA; exact e1; exact e2) | (apply st_pO; exact e1; exact e2) | (apply st_qT; exact e1; exact q1) | (apply st_qF; exact e1) | (apply st_qU; exact e1) | (apply st_eF; exact e1) | (apply st_eU; exact e1) | (apply st_qS; exact e1; exact g1; exact q2) | (apply st_sA; exact e1; exact g1; exact e2; exact e3) | (apply st_sO; exact e1; exact g1; exact e2; exact e3) | (apply zAF; exact e1) | (apply zAH; exact e1)
      refine st_callT (by exact e1) (by exact s1) ((EValues_ok H HS _ (by simp only [List.length_cons]; omega) hLZ.out.nv _ h25 G5.wf hEz5).mono ?_)
      rintro rw' h26 ⟨o4, hs4, hr4, hm4, hl4, g26⟩
      have hle : o4.length ≤ o2.length + 1 := sub_len o4 (s.name :: o2) (rises_nod hr4) fun x hx => by
        obtain ⟨m, h1, h2, h3⟩ := (hm4 x).1 hx
        rcases List.mem_cons.1 h1 with rfl | h1
        · rw [← h3]; simp
        · exact List.mem_cons_of_mem _ ((hmV.out x).2 ⟨m, h1, h2, h3⟩)
      have hl4' := hs4.len
      have hl2' := hsV.len
      have hw1 : IntKind.i64.wrap (Int.ofNat o2.length + 1) = ((o2.length + 1 : Nat) : Int) := by
        rw [show (Int.ofNat o2.length : Int) = (o2.length : Nat) from rfl, wrap_small (by omega) (by omega)]; omega
      have hgt' : decide (Int.ofNat o4.length > ((o2.length + 1 : Nat) : Int)) = false := decide_eq_false (by simp only [Int.ofNat_eq_natCast]; omega)
      have gX6 := gX5.trans g26
      have hEz6 := hEz5.mono g26
      clear g26 hEz5 hr4 hm4 gX5 G5
      repeat with_reducible first | refine zAA ?_ | refine zAN ?_ | refine zAa ?_ | refine zAE ?_ | refine zAU ?_ | refine zAZ ?_ | refine blk_other ?_ rfl | refine zAB ?_ | refine zAC ?_ | refine zAD ?_ | refine zAG ?_ | refine zAX ?_ | refine zAK ?_ | refine cd_exit ?_ | refine zAI ?_ | refine dr_nil ?_ | refine zAV ?_ | (apply st_pair; exact e1; exact e1) | (apply dr_pair; exact e1; exact e1) | (apply dr_gT; exact e1) | (apply dr_gF; exact e1) | (apply dr_gU; exact e1) | (apply dr_q; exact q1) | (apply dr_ql; exact q1; exact og1) | (apply st_q; exact q1) | (apply st_pA; exact e1; exact e2) | (apply st_pO; exact e1; exact e2) | (apply st_qT; exact e1; exact q1) | (apply st_qF; exact e1) | (apply st_qU; exact e1) | (apply st_eF; exact e1) | (apply st_eU; exact e1) | (apply st_qS; exact e1; exact g1; exact q2) | (apply st_sA; exact e1; exact g1; exact e2; exact e3) | (apply st_sO; exact e1; exact g1; exact e2; exact e3) | (apply zAF; exact e1) | (apply zAH; exact e1)
      exact ⟨bz, _, gX6, by exact n1, by exact e1, by exact e1, by exact e1, by exact e1, by exact e1, by exact e1, by exact e1, hEz6, hLZ.out, by simp only [List.length_cons]; omega⟩
  · clear hd t25 t26 t27 t3 t5 t6 t10 t92 t12 t13 hz1 hz0 hsV
    rintro A hq ⟨be2, L2, gX, hd, t25, t26, t27, t3, t5, t12, t13, hE2, hLO2, hLn2⟩
    replace hy1 := newif_mono hy1 gX
    replace o6 := gX.keep _ _ o6
    replace G := G.trans gX
    clear gX hE
    replace hLO2 := Hid.mk hLO2
    cases c4 : withC s.name s.c == 0
    · repeat with_reducible first | refine zAA ?_ | refine zAN ?_ | refine zAa ?_ | refine zAE ?_ | refine zAU ?_ | refine zAZ ?_ | refine blk_other ?_ rfl | refine zAB ?_ | refine zAC ?_ | refine zAD ?_ | refine zAG ?_ | refine zAX ?_ | refine zAK ?_ | refine cd_exit ?_ | refine zAI ?_ | refine dr_nil ?_ | refine zAV ?_ | (apply st_pair; exact e1; exact e1) | (apply dr_pair; exact e1; exact e1) | (apply dr_gT; exact e1) | (apply dr_gF; exact e1) | (apply dr_gU; exact e1) | (apply dr_q; exact q1) | (apply dr_ql; exact q1; exact og1) | (apply st_q; exact q1) | (apply st_pA; exact e1; exact e2) | (apply st_pO; exact e1; exact e2) | (apply st_qT; exact e1; exact q1) | (apply st_qF; exact e1) | (apply st_qU; exact e1) | (apply st_eF; exact e1) | (apply st_eU; exact e1) | (apply st_qS; exact e1; exact g1; exact q2) | (apply st_sA; exact e1; exact g1; exact e2; exact e3) | (apply st_sO; exact e1; exact g1; exact e2; exact e3) | (apply zAF; exact e1) | (apply zAH; exact e1)
      exact ⟨⟨be2, L2, G, by exact n1, by exact e1, by exact e1, hE2, hLO2.out, hLn2⟩, by exact e1, by exact e1⟩
    · have hw0 : withC s.name s.c = 0 := by simpa using c4
      obtain ⟨bY, rfl, hEy⟩ := hy1.out hw0
      have hck := (withC_ok hw0).2
      have hcg := (ck_facts hck).1
      obtain ⟨kk1, kk2, kk3⟩ := kept_ok hck
      have hLY := Hid.mk (hLO.out.toLOK.putC tk.out sk.out hw0)
      have hcl : Cl fns summ 24 [.ptr (some (bY, 0)), .str s.name] hq fun r h' => (∃ xn xc xv, r = .tuple [.agg [.int .i64 s.c.params, xn, .int .i64 (trimF (leastF (trimF s.c.g))).root, xc, xv], .int .i64 0] ∧ NodesAt h' xn (trimF (leastF (trimF s.c.g))).nodes ∧ StrsAt h' xc s.c.conc ∧ StrsAt h' xv s.c.virt) ∧ Grow hq h' :=
        EClass_some H _ hLY.out.cls hLY.out.ne _ s.name (keptC s.c) (class_new L s.name _) hq G.wf hEy
      have hT : GTi (trimF (leastF (trimF s.c.g))) := own_tiny (trim_tiny tk.out hcg) (trim_quo hcg).check
      have kk1' : ckF ⟨s.c.params, trimF (leastF (trimF s.c.g)), s.c.conc, s.c.virt⟩ = 0 := kk1
      generalize trimF (leastF (trimF s.c.g)) = T at *
      replace hT := Hid.mk hT
      replace kk1' := Hid.mk kk1'
      replace kk2 := Hid.mk kk2
      clear kk1 kk3 hcg hck hw0 hy1 hy0
      repeat with_reducible first | refine zAA ?_ | refine zAN ?_ | refine zAa ?_ | refine zAE ?_ | refine zAU ?_ | refine zAZ ?_ | refine blk_other ?_ rfl | refine zAB ?_ | refine zAC ?_ | refine zAD ?_ | refine zAG ?_ | refine zAX ?_ | refine zAK ?_ | refine cd_exit ?_ | refine zAI ?_ | refine dr_nil ?_ | refine zAV ?_ | (apply st_pair; exact e1; exact e1) | (apply dr_pair; exact e1; exact e1) | (apply dr_gT; exact e1) | (apply dr_gF; exact e1) | (apply dr_gU; exact e1) | (apply dr_q; exact q1) | (apply dr_ql; exact q1; exact og1) | (apply st_q; exact q1) | (apply st_pA; exact e1; exact e2) | (apply st_pO; exact e1; exact e2) | (apply st_qT; exact e1; exact q1) | (apply st_qF; exact e1) | (apply st_qU; exact e1) | (apply st_eF; exact e1) | (apply st_eU; exact e1) | (apply st_qS; exact e1; exact g1; exact q2) | (apply st_sA; exact e1; exact g1; exact e2; exact e3) | (apply st_sO; exact e1; exact g1; exact e2; exact e3) | (apply zAF; exact e1) | (apply zAH; exact e1)
      refine zAT (by exact s1) (hcl.mono ?_)
      rintro _ h22 ⟨⟨xn, xc, xv, rfl, hxn, hxc, hxv⟩, g22⟩
      have hxo : [.int .i64 s.c.params, xn, .int .i64 T.root, xc, xv].all one = true := by
        simp only [List.all_cons, List.all_nil, zAO hxn.len, zAO hxc.len, zAO hxv.len]; rfl
      replace G := G.trans g22
      replace o6 := g22.keep _ _ o6
      replace hE2 := hE2.mono g22
      clear g22 hcl hEy
      repeat with_reducible first | refine zAA ?_ | refine zAN ?_ | refine zAa ?_ | refine zAE ?_ | refine zAU ?_ | refine zAZ ?_ | refine blk_other ?_ rfl | refine zAB ?_ | refine zAC ?_ | refine zAD ?_ | refine zAG ?_ | refine zAX ?_ | refine zAK ?_ | refine cd_exit ?_ | refine zAI ?_ | refine dr_nil ?_ | refine zAV ?_ | (apply st_pair; exact e1; exact e1) | (apply dr_pair; exact e1; exact e1) | (apply dr_gT; exact e1) | (apply dr_gF; exact e1) | (apply dr_gU; exact e1) | (apply dr_q; exact q1) | (apply dr_ql; exact q1; exact og1) | (apply st_q; exact q1) | (apply st_pA; exact e1; exact e2) | (apply st_pO; exact e1; exact e2) | (apply st_qT; exact e1; exact q1) | (apply st_qF; exact e1) | (apply st_qU; exact e1) | (apply st_eF; exact e1) | (apply st_eU; exact e1) | (apply st_qS; exact e1; exact g1; exact q2) | (apply st_sA; exact e1; exact g1; exact e2; exact e3) | (apply st_sO; exact e1; exact g1; exact e2; exact e3) | (apply zAF; exact e1) | (apply zAH; exact e1)
      refine st_alloc G.wf ?_
      rintro b18 h23 hb18 g23 o18
      refine zAM (by exact e1) (by exact e1) (cs := [.int .i64 s.c.params, xn, .int .i64 T.root, xc, xv]) rfl rfl g23.wf o18 (by simp) hxo ?_
      rintro v24 h24 p24 o24
      simp only [List.take_zero, List.nil_append, List.length_cons, List.length_nil, List.drop_succ_cons, List.drop_zero, List.append_nil, Nat.zero_add, Nat.reduceAdd, List.drop_nil, List.cons_append] at o24
      have gg := p24.grow h22 G.wf g23 hb18
      replace G := G.trans gg
      replace o6 := gg.keep _ _ o6
      replace hE2 := hE2.mono gg
      replace hxn := hxn.mono gg
      replace hxc := hxc.mono gg
      replace hxv := hxv.mono gg
      have h00 : ((0 : Int) != 0) = false := rfl
      clear gg o18 g23 p24 hb18
      repeat with_reducible first | refine zAA ?_ | refine zAN ?_ | refine zAa ?_ | refine zAE ?_ | refine zAU ?_ | refine zAZ ?_ | refine blk_other ?_ rfl | refine zAB ?_ | refine zAC ?_ | refine zAD ?_ | refine zAG ?_ | refine zAX ?_ | refine zAK ?_ | refine cd_exit ?_ | refine zAI ?_ | refine dr_nil ?_ | refine zAV ?_ | (apply st_pair; exact e1; exact e1) | (apply dr_pair; exact e1; exact e1) | (apply dr_gT; exact e1) | (apply dr_gF; exact e1) | (apply dr_gU; exact e1) | (apply dr_q; exact q1) | (apply dr_ql; exact q1; exact og1) | (apply st_q; exact q1) | (apply st_pA; exact e1; exact e2) | (apply st_pO; exact e1; exact e2) | (apply st_qT; exact e1; exact q1) | (apply st_qF; exact e1) | (apply st_qU; exact e1) | (apply st_eF; exact e1) | (apply st_eU; exact e1) | (apply st_qS; exact e1; exact g1; exact q2) | (apply st_sA; exact e1; exact g1; exact e2; exact e3) | (apply st_sO; exact e1; exact g1; exact e2; exact e3) | (apply zAF; exact e1) | (apply zAH; exact e1)
      refine st_callT (by exact e1) (by exact s1) ((CheckClass_ok H HG HS ⟨s.c.params, T, s.c.conc, s.c.virt⟩ ⟨hT.out.toGraphSm, sk.out.conc, sk.out.virt, sk.out.sum⟩ xn xc xv h24 G.wf hxn hxc hxv).mono ?_)
      rw [kk1'.out]
      rintro _ h25 ⟨rfl, g25⟩
      replace G := G.trans g25
      replace o6 := g25.keep _ _ o6
      replace o24 := g25.keep _ _ o24
      replace hE2 := hE2.mono g25
      replace hxn := hxn.mono g25
      clear g25
      repeat with_reducible first | refine zAA ?_ | refine zAN ?_ | refine zAa ?_ | refine zAE ?_ | refine zAU ?_ | refine zAZ ?_ | refine blk_other ?_ rfl | refine zAB ?_ | refine zAC ?_ | refine zAD ?_ | refine zAG ?_ | refine zAX ?_ | refine zAK ?_ | refine cd_exit ?_ | refine zAI ?_ | refine dr_nil ?_ | refine zAV ?_ | (apply st_pair; exact e1; exact e1) | (apply dr_pair; exact e1; exact e1) | (apply dr_gT; exact e1) | (apply dr_gF; exact e1) | (apply dr_gU; exact e1) | (apply dr_q; exact q1) | (apply dr_ql; exact q1; exact og1) | (apply st_q; exact q1) | (apply st_pA; exact e1; exact e2) | (apply st_pO; exact e1; exact e2) | (apply st_qT; exact e1; exact q1) | (apply st_qF; exact e1) | (apply st_qU; exact e1) | (apply st_eF; exact e1) | (apply st_eU; exact e1) | (apply st_qS; exact e1; exact g1; exact q2) | (apply st_sA; exact e1; exact g1; exact e2; exact e3) | (apply st_sO; exact e1; exact g1; exact e2; exact e3) | (apply zAF; exact e1) | (apply zAH; exact e1)
      refine st_callT (by exact e1) (by exact s1) ((Same_ok H T s.c.g hT.out tk.out _ _ h25 G.wf ⟨xn, rfl, hxn⟩ ⟨mv, rfl, iM.mono G⟩).mono ?_)
      rw [kk2.out]
      rintro _ h26 ⟨rfl, g26⟩
      replace G := G.trans g26
      replace hE2 := hE2.mono g26
      clear o6 o24 g26
      repeat with_reducible first | refine zAA ?_ | refine zAN ?_ | refine zAa ?_ | refine zAE ?_ | refine zAU ?_ | refine zAZ ?_ | refine blk_other ?_ rfl | refine zAB ?_ | refine zAC ?_ | refine zAD ?_ | refine zAG ?_ | refine zAX ?_ | refine zAK ?_ | refine cd_exit ?_ | refine zAI ?_ | refine dr_nil ?_ | refine zAV ?_ | (apply st_pair; exact e1; exact e1) | (apply dr_pair; exact e1; exact e1) | (apply dr_gT; exact e1) | (apply dr_gF; exact e1) | (apply dr_gU; exact e1) | (apply dr_q; exact q1) | (apply dr_ql; exact q1; exact og1) | (apply st_q; exact q1) | (apply st_pA; exact e1; exact e2) | (apply st_pO; exact e1; exact e2) | (apply st_qT; exact e1; exact q1) | (apply st_qF; exact e1) | (apply st_qU; exact e1) | (apply st_eF; exact e1) | (apply st_eU; exact e1) | (apply st_qS; exact e1; exact g1; exact q2) | (apply st_sA; exact e1; exact g1; exact e2; exact e3) | (apply st_sO; exact e1; exact g1; exact e2; exact e3) | (apply zAF; exact e1) | (apply zAH; exact e1)
      exact ⟨⟨be2, L2, G, by exact n1, by exact e1, by exact e1, hE2, hLO2.out, hLn2⟩, by exact e1, by exact e1⟩
end
end Go.Ab.S
