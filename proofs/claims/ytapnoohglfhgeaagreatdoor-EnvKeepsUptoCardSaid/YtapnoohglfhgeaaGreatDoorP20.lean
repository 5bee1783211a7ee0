import Derived.Test.YtapnoohglfhgeaaGreatDoorP19
/-
  Part 20 of the proof.
-/
set_option linter.all false
section
/-
  A class's fields, and it itself.
-/
namespace Go.Ab.S
open Go.Ab
set_option maxHeartbeats 4000000
theorem take5 (a b c d e : AVal) : List.take 5 [a, b, c, d, e] = [a, b, c, d, e] := rfl
theorem take21 (a b c d e : AVal) : List.take 2 (List.drop 1 [a, b, c, d, e]) = [b, c] := rfl
def zeroN : Node := ⟨0, [], [], [], false⟩
theorem ints_nil (h : AHeap) : IntsAt h (.slice none 0) [] := ⟨rfl, fun i x hx => by simp at hx⟩
theorem strs_nil (h : AHeap) : StrsAt h (.slice none 0) [] := ⟨rfl, fun i x hx => by simp at hx⟩
theorem ix_lit {v : AVal} {sz k : Nat} {p : Nat × Nat} (hs : slA v sz k = some p) : Hid (∀ (A : AAct) (hh : AHeap) (t : Nat), ev A (.tmp t) = some v → qA A hh (.indexA sz (.tmp t) (.val (.int .i64 (k : Nat)))) = some (.ptr (some p), none)) := ⟨fun A hh t e => by
  have : asNat (.int .i64 (k : Nat)) = some k := by simp [asNat]
  simp only [qA_indexA, e, ev_val, this, hs]⟩
theorem node_at {h : AHeap} {nv : AVal} {g : Graph} (hN : NodesAt h nv g.nodes) {a : Int} (ha : 0 ≤ a ∧ a < g.nodes.length) : ∃ (k b o ver : Nat) (ro : Bool) (e : TypeId) (vs : List AVal) (av lv : AVal), a = (k : Int) ∧ slA nv 5 k = some (b, o) ∧ h.objs.get b = some (ver, .cells ro e vs) ∧
    o + 5 ≤ vs.length ∧ (vs.drop o).take 5 = [.int .i64 (zAL g a).kind, .str (zAL g a).name, av, lv, .bool (zAL g a).isOpen] ∧ IntsAt h av (zAL g a).args ∧ StrsAt h lv (zAL g a).labels := by
  obtain ⟨k, rfl⟩ : ∃ k : Nat, a = (k : Int) := ⟨a.toNat, by omega⟩
  have hk : k < g.nodes.length := by omega
  have hn : zAL g (k : Int) = g.nodes[k] := by simp [zAL, hk]
  obtain ⟨b, o, ver, ro, e, vs, av, lv, hix, hget, hvl, hvo, _, _, _, _, _, ia, il⟩ := hN.at (List.getElem?_eq_getElem hk)
  rw [hn]
  exact ⟨k, b, o, ver, ro, e, vs, av, lv, rfl, hix, hget, hvl, hvo, ia, il⟩
theorem int_at {h : AHeap} {av : AVal} {l : List Int} (hI : IntsAt h av l) {k : Nat} (hk : k < l.length) : ∃ (b o ver : Nat) (ro : Bool) (e : TypeId) (vs : List AVal), slA av 1 k = some (b, o) ∧ h.objs.get b = some (ver, .cells ro e vs) ∧ vs[o]? = some (.int .i64 (l.getD k 0)) := by
  obtain ⟨b, o, ver, ro, e, vs, h1, h2, h3⟩ := hI.at (List.getElem?_eq_getElem hk)
  exact ⟨b, o, ver, ro, e, vs, h1, h2, by rw [h3]; simp [hk]⟩
def notCon (n : Node) (s : List Nat) : Bool := (n.kind != 2) || !eqL n.name s
theorem notCon_arrow (n : Node) : notCon n [45, 62] = !isArrow n := by
  simp only [notCon, isArrow, bne]; cases n.kind == 2 <;> simp
theorem notCon_star (n : Node) : notCon n [42] = !isStar n := by
  simp only [notCon, isStar, bne]; cases n.kind == 2 <;> simp
def bothObj (x y : Node) : Bool := (x.kind == 3 && !x.isOpen) && y.kind == 3
theorem sub_succ {n j : Nat} (h : j < n) : n - j = (n - (j + 1)) + 1 := by omega
section
variable {fns : FuncId → Option AFunc} {summ : FuncId → List AVal → AHeap → Option (D (AVal × AHeap))}
variable (H : Has fns summ)
include H
theorem ebody_ok (c : CDef) (hc : checkF c.g = 0) (hp : 0 ≤ c.params ∧ c.params ≤ 100) (nv cv vv : AVal) (h : AHeap) (hw : WF h) (hN : NodesAt h nv c.g.nodes) (hcv : one cv = true) (hvv : one vv = true) :
    Cl fns summ 35 [.agg [.int .i64 c.params, nv, .int .i64 c.g.root, cv, vv]] h fun r h' => (∃ n1 n2 a1 l1 a2 l2, r = .tuple [nodeV n1 a1 l1, nodeV n2 a2 l2, .bool (bodyF c).isSome] ∧ IntsAt h' a1 n1.args ∧ StrsAt h' l1 n1.labels ∧ IntsAt h' a2 n2.args ∧ StrsAt h' l2 n2.labels ∧ (∀ p, bodyF c = some p → n1 = zAL c.g p.1 ∧ n2 = zAL c.g p.2)) ∧ Grow h h' := by
  obtain ⟨N, hNp⟩ : ∃ N : Nat, c.params = (N : Int) := ⟨c.params.toNat, by omega⟩
  have hcr := check_root hc
  have hmay := Hid.mk hcr.2.2.2
  have hdown : c.params.toNat = N := by rw [hNp]; exact Int.toNat_natCast N
  rw [hNp]
  refine H.go (fn := F_ebody) rfl (by decide) rfl rfl ?_
  unfold F_ebody
  dsimp only [qQ, qE, qN, gQ, gE, vi]
  refine zAC (zAD ?_)
  refine st_box (by exact e1) (by exact cc) hw ?_
  rintro b1 h1 hb1 g1 o1
  refine st_alloc g1.wf ?_
  rintro b2 h2 hb2 g2 o2
  refine st_alloc g2.wf ?_
  rintro b3 h3 hb3 g3 o3
  have l1 := g1.wf.lt o1
  have l2 := g2.wf.lt o2
  have l3 := g3.wf.lt o3
  have m1 := g1.next
  have m2 := g2.next
  have m3 := g3.next
  replace o1 := g3.keep _ _ (g2.keep _ _ o1)
  replace o2 := g3.keep _ _ o2
  have G := (g1.trans g2).trans g3
  clear g1 g2 g3
  obtain ⟨kr, br, orr, verr, ror, er, vsr, ar, lr, hkr, hix, hget, hpl, hpt, hia, hil⟩ := node_at hN ⟨hcr.1, hcr.2.1⟩
  replace hget := G.keep _ _ hget
  replace hkr := Hid.mk hkr
  have hroot : Hid (ev { tmps := .leaf, defers := [] } (.val (.int .i64 c.g.root)) = some (.int .i64 (kr : Nat))) := ⟨by rw [hkr.out]; rfl⟩
  rw [hkr.out] at o1
  repeat with_reducible first | refine zAA ?_ | refine zAB ?_ | refine zAC ?_ | refine zAD ?_ | (apply st_q; exact q1)
  refine st_alloc G.wf ?_
  rintro b5 h5 hb5 g5 o5
  replace o1 := g5.keep _ _ o1
  replace o2 := g5.keep _ _ o2
  replace o3 := g5.keep _ _ o3
  have hia5 := hia.mono (G.trans g5)
  have hil5 := hil.mono (G.trans g5)
  refine zAM (by exact e1) (by exact e1) (cs := [.int .i64 (zAL c.g c.g.root).kind, .str (zAL c.g c.g.root).name, ar, lr, .bool (zAL c.g c.g.root).isOpen]) rfl rfl g5.wf o5 (by simp) (ones_node hia.len hil.len) ?_
  rintro v6 h6 p6 o6
  simp only [List.take_zero, List.nil_append, List.length_cons, List.length_nil, List.drop_succ_cons, List.drop_zero, List.append_nil, Nat.zero_add, Nat.reduceAdd, List.drop_nil, List.cons_append] at o6
  have l5 := g5.wf.lt o5
  have m5 := g5.next
  have G6 : Grow h h6 := p6.grow h hw (G.trans g5) (by omega)
  have n6 := p6.next
  replace o1 := p6.keep _ (by omega) _ o1
  replace o2 := p6.keep _ (by omega) _ o2
  replace o3 := p6.keep _ (by omega) _ o3
  clear hget hpl hpt hix g5 p6 hia5 hil5 o5 G hroot
  repeat with_reducible first | refine zAA ?_ | refine zAB ?_ | refine zAC ?_ | refine zAD ?_ | (apply st_q; exact q1)
  refine cd_count (N := N) (by omega) (fun j a hp => Grow h hp ∧ a.defers = [] ∧ ev a (.tmp 1) = some (.ptr (some (b1, 0))) ∧ ev a (.tmp 2) = some (.ptr (some (b2, 0))) ∧ ev a (.tmp 3) = some (.ptr (some (b3, 0))) ∧ ev a (.tmp 5) = some (.ptr (some (b5, 0))) ∧
      (∃ ver, hp.objs.get b1 = some (ver, .cells false 42 [.int .i64 (N : Nat), nv, .int .i64 (kr : Nat), cv, vv])) ∧ (∃ ver, hp.objs.get b2 = some (ver, .cells false 60 [.int .i64 0, .str [], .slice none 0, .slice none 0, .bool false])) ∧ (∃ ver, hp.objs.get b3 = some (ver, .cells false 60 [.int .i64 0, .str [], .slice none 0, .slice none 0, .bool false])) ∧
      (b1 < hp.next ∧ b2 < hp.next ∧ b3 < hp.next ∧ b5 < hp.next) ∧ ∃ (x : Int) (ver : Nat) (av lv : AVal), (0 ≤ x ∧ x < c.g.nodes.length) ∧ hp.objs.get b5 = some (ver, .cells false 60 [.int .i64 (zAL c.g x).kind, .str (zAL c.g x).name, av, lv, .bool (zAL c.g x).isOpen]) ∧ IntsAt h av (zAL c.g x).args ∧ StrsAt h lv (zAL c.g x).labels ∧ downF c.g N c.g.root = downF c.g (N - j) x)
    (by rintro j a hp t w (rfl | rfl | rfl) ⟨k1, k2, k3, k4, k5, k6, k7⟩ <;> exact ⟨k1, by rw [zAY]; exact k2, by exact e1, by exact e1, by exact e1, by exact e1, k7⟩) (by decide) ?_ ?_
    ⟨G6, by exact n1, by exact e1, by exact e1, by exact e1, by exact e1, ⟨_, o1⟩, ⟨_, o2⟩, ⟨_, o3⟩, ⟨by omega, by omega, by omega, by omega⟩, c.g.root, _, ar, lr, ⟨hcr.1, hcr.2.1⟩, o6, hia, hil, rfl⟩ (by exact e1) (by exact e1)
  · clear G6 o1 o2 o3 o6 hia hil n6 m5 l5
    rintro j a hp hj ⟨G, hd, t1, t2, t3, t5, ⟨v1, o1⟩, ⟨v2, o2⟩, ⟨v3, o3⟩, ⟨q1', q2', q3', q5'⟩, x, v5, av, lv, hx, o5, hia, hil, hdw⟩ hi hn
    have hNj := sub_succ hj
    cases hna : notCon (zAL c.g x) [45, 62]
    · have harr : isArrow (zAL c.g x) = true := by rw [notCon_arrow] at hna; simpa using hna
      have hm := hmay.out _ (node_in hx)
      have hal := arrow_args hm (.inl harr)
      have hy := may_args hm _ (getD_mem (l := (zAL c.g x).args) (i := 1) (by omega))
      rw [hNj, downF, if_pos harr] at hdw
      obtain ⟨bi, oi, veri, roi, ei, vsi, hsi, hgi, hvi⟩ := int_at hia (k := 1) (by omega)
      obtain ⟨ky, by', oy, very, roy, ey, vsy, ay, ly, hky, hsy, hgy, hpyl, hpy, hiay, hily⟩ := node_at hN hy
      have hq1 := ix_lit hsi
      have hk2 : ((zAL c.g x).kind != 2) = false := by
        simp only [isArrow, Bool.and_eq_true, beq_iff_eq] at harr; simp [harr.1]
      have hn2 : eqL (zAL c.g x).name [45, 62] = true := by
        simp only [isArrow, Bool.and_eq_true] at harr; exact harr.2
      replace hgi := G.keep _ _ hgi
      replace hgy := G.keep _ _ hgy
      rw [hky] at hvi
      have hone := ones_node (n := zAL c.g ((zAL c.g x).args.getD 1 0)) hiay.len hily.len
      replace hdw := Hid.mk hdw
      replace hky := Hid.mk hky
      replace hy := Hid.mk hy
      clear hm hal harr hna hNj
      generalize (zAL c.g x).args.getD 1 0 = y at *
      repeat with_reducible first | refine zAA ?_ | refine zAB ?_ | refine zAC ?_ | refine zAD ?_ | refine zAG ?_ | refine zAK ?_ | refine zAV ?_ | (apply dr_q; exact q1) | (apply dr_ql; exact q1; exact og1) | (apply st_q; exact q1) | (apply st_qT; exact e1; exact q1) | (apply zAH; exact e1)
      refine dr_q (hq1.out _ _ _ (by exact e1)) ?_
      repeat with_reducible first | (apply dr_q; exact q1) | (apply dr_ql; exact q1; exact og1)
      refine dr_st (zAM (by exact e1) (by exact e1) (cs := [.int .i64 (zAL c.g y).kind, .str (zAL c.g y).name, ay, ly, .bool (zAL c.g y).isOpen]) rfl rfl G.wf o5 (by simp) hone ?_)
      rintro v7 h7 p7 o7
      simp only [List.take_zero, List.nil_append, List.length_cons, List.length_nil, List.drop_succ_cons, List.drop_zero, List.append_nil, Nat.zero_add, Nat.reduceAdd, List.drop_nil, List.cons_append] at o7
      refine zAB ⟨by simp [heldOk, Nat.testBit], ?_⟩
      have n7 := p7.next
      have G7 := p7.grow h hw G (by omega)
      have o17 := p7.keep b1 (by omega) _ o1
      have o27 := p7.keep b2 (by omega) _ o2
      have o37 := p7.keep b3 (by omega) _ o3
      clear o1 o2 o3 o5 p7 hgi hgy
      repeat with_reducible first | refine zAA ?_ | refine zAE ?_ | refine dr_nil ?_
      exact ⟨⟨G7, by exact n1, by exact e1, by exact e1, by exact e1, by exact e1, ⟨_, o17⟩, ⟨_, o27⟩, ⟨_, o37⟩, ⟨by omega, by omega, by omega, by omega⟩, y, _, ay, ly, hy.out, o7, hiay, hily, hdw.out⟩, by exact e1, by exact e1⟩
    · have hb : bodyF c = none := by
        have harr : isArrow (zAL c.g x) = false := by rw [notCon_arrow] at hna; simpa using hna
        rw [hNj, downF, harr] at hdw
        unfold bodyF
        rw [hdown, hdw]; rfl
      replace hb := Hid.mk hb
      have ht5 := take5
      clear hdw hNj
      refine zAG (zAC (zAC (zAD ?_)))
      cases hk2 : (zAL c.g x).kind != 2
      · have hn2 : eqL (zAL c.g x).name [45, 62] = false := by
          rw [notCon, hk2, Bool.false_or] at hna; simpa using hna
        clear hna
        repeat with_reducible first | refine zAA ?_ | refine zAB ?_ | refine zAC ?_ | refine zAV ?_ | (apply dr_ql; exact q1; exact og1) | (apply st_q; exact q1) | (apply st_qT; exact e1; exact q1) | (apply zAF; exact e1)
        refine dr_st (zAM (by exact e1) (by exact e1) (cs := [.int .i64 0, .str [], .slice none 0, .slice none 0, .bool false]) rfl rfl G.wf o2 (by simp) rfl ?_)
        rintro v7 h7 p7 o7
        simp only [List.take_zero, List.nil_append, List.length_cons, List.length_nil, List.drop_succ_cons, List.drop_zero, List.append_nil, Nat.zero_add, Nat.reduceAdd, List.drop_nil, List.cons_append] at o7
        have o37 := p7.keep b3 (by omega) _ o3
        refine zAB ⟨by simp [heldOk, Nat.testBit, o37], ?_⟩
        refine dr_st (zAM (by exact e1) (by exact e1) (cs := [.int .i64 0, .str [], .slice none 0, .slice none 0, .bool false]) rfl rfl (p7.wf G.wf) o37 (by simp) rfl ?_)
        rintro v8 h8 p8 o8
        simp only [List.take_zero, List.nil_append, List.length_cons, List.length_nil, List.drop_succ_cons, List.drop_zero, List.append_nil, Nat.zero_add, Nat.reduceAdd, List.drop_nil, List.cons_append] at o8
        have o28 := p8.keep b2 (by omega) _ o7
        refine zAB ⟨by simp [heldOk, Nat.testBit], ?_⟩
        have G8 := p8.grow h hw (p7.grow h hw G (by omega)) (by omega)
        clear o2 o3 p7 p8 o37 o7
        repeat' with_reducible first | refine zAA ?_ | refine zAN ?_ | refine zAU ?_ | refine zAI ?_ | refine dr_nil ?_ | (apply dr_q; exact q1) | (apply zAJ; exact n1; exact r1)
        exact ⟨⟨zeroN, zeroN, _, _, _, _, by rw [hb.out]; rfl, ints_nil _, strs_nil _, ints_nil _, strs_nil _, fun p hp => by rw [hb.out] at hp; cases hp⟩, G8⟩
      · clear hna
        repeat with_reducible first | refine zAA ?_ | refine zAB ?_ | refine zAC ?_ | refine zAV ?_ | (apply dr_ql; exact q1; exact og1) | (apply st_q; exact q1) | (apply st_qF; exact e1) | (apply zAF; exact e1)
        refine dr_st (zAM (by exact e1) (by exact e1) (cs := [.int .i64 0, .str [], .slice none 0, .slice none 0, .bool false]) rfl rfl G.wf o2 (by simp) rfl ?_)
        rintro v7 h7 p7 o7
        simp only [List.take_zero, List.nil_append, List.length_cons, List.length_nil, List.drop_succ_cons, List.drop_zero, List.append_nil, Nat.zero_add, Nat.reduceAdd, List.drop_nil, List.cons_append] at o7
        have o37 := p7.keep b3 (by omega) _ o3
        refine zAB ⟨by simp [heldOk, Nat.testBit, o37], ?_⟩
        refine dr_st (zAM (by exact e1) (by exact e1) (cs := [.int .i64 0, .str [], .slice none 0, .slice none 0, .bool false]) rfl rfl (p7.wf G.wf) o37 (by simp) rfl ?_)
        rintro v8 h8 p8 o8
        simp only [List.take_zero, List.nil_append, List.length_cons, List.length_nil, List.drop_succ_cons, List.drop_zero, List.append_nil, Nat.zero_add, Nat.reduceAdd, List.drop_nil, List.cons_append] at o8
        have o28 := p8.keep b2 (by omega) _ o7
        refine zAB ⟨by simp [heldOk, Nat.testBit], ?_⟩
        have G8 := p8.grow h hw (p7.grow h hw G (by omega)) (by omega)
        clear o2 o3 p7 p8 o37 o7
        repeat' with_reducible first | refine zAA ?_ | refine zAN ?_ | refine zAU ?_ | refine zAI ?_ | refine dr_nil ?_ | (apply dr_q; exact q1) | (apply zAJ; exact n1; exact r1)
        exact ⟨⟨zeroN, zeroN, _, _, _, _, by rw [hb.out]; rfl, ints_nil _, strs_nil _, ints_nil _, strs_nil _, fun p hp => by rw [hb.out] at hp; cases hp⟩, G8⟩
  · rintro a hp ⟨G, hd, t1, t2, t3, t5, ⟨v1, o1⟩, ⟨v2, o2⟩, ⟨v3, o3⟩, ⟨q1', q2', q3', q5'⟩, x, v5, av, lv, hx, o5, hia, hil, hdw⟩
    clear G6 o6 n6 m5 l5
    rw [Nat.sub_self, downF] at hdw
    have hbd : Hid (bodyF c = partF c.g x) := ⟨by unfold bodyF; rw [hdown, hdw]⟩
    have ht5 := take5
    clear hdw
    refine zAC (zAC (zAD ?_))
    cases hna : notCon (zAL c.g x) [42]
    · have hst : isStar (zAL c.g x) = true := by rw [notCon_star] at hna; simpa using hna
      have hm := hmay.out _ (node_in hx)
      have hal := arrow_args hm (.inr hst)
      have hy0 := may_args hm _ (getD_mem (l := (zAL c.g x).args) (i := 0) (by omega))
      have hy1 := may_args hm _ (getD_mem (l := (zAL c.g x).args) (i := 1) (by omega))
      have hbe : bodyF c = if bothObj (zAL c.g ((zAL c.g x).args.getD 0 0)) (zAL c.g ((zAL c.g x).args.getD 1 0)) then some ((zAL c.g x).args.getD 0 0, (zAL c.g x).args.getD 1 0) else none := by
        rw [hbd.out]; unfold partF; rw [if_pos hst]; rfl
      have hk2 : ((zAL c.g x).kind != 2) = false := by
        simp only [isStar, Bool.and_eq_true, beq_iff_eq] at hst; simp [hst.1]
      have hn2 : eqL (zAL c.g x).name [42] = true := by
        simp only [isStar, Bool.and_eq_true] at hst; exact hst.2
      obtain ⟨bi, oi, veri, roi, ei, vsi, hsi, hgi, hvi⟩ := int_at hia (k := 0) (by omega)
      obtain ⟨bj, oj, verj, roj, ej, vsj, hsj, hgj, hvj⟩ := int_at hia (k := 1) (by omega)
      have hq0 := ix_lit hsi
      have hq1 := ix_lit hsj
      obtain ⟨k0, bx0, ox0, verx0, rox0, ex0, vsx0, av0, lv0, hk0, hsx0, hgx0, hpl0, hpx0, hia0, hil0⟩ := node_at hN hy0
      obtain ⟨k1, bx1, ox1, verx1, rox1, ex1, vsx1, av1, lv1, hk1, hsx1, hgx1, hpl1, hpx1, hia1, hil1⟩ := node_at hN hy1
      have hgi' := G.keep _ _ hgi
      have hgj' := G.keep _ _ hgj
      have hgx0' := G.keep _ _ hgx0
      have hgx1' := G.keep _ _ hgx1
      rw [hk0] at hvi
      rw [hk1] at hvj
      have z0 := ones_node (n := zAL c.g ((zAL c.g x).args.getD 0 0)) hia0.len hil0.len
      have z1 := ones_node (n := zAL c.g ((zAL c.g x).args.getD 1 0)) hia1.len hil1.len
      have w0 := G.wf.lt hgi'
      clear hm hal hst hna hy0 hy1 hbd
      generalize hY0 : (zAL c.g x).args.getD 0 0 = y0 at *
      generalize hY1 : (zAL c.g x).args.getD 1 0 = y1 at *
      clear hY0 hY1
      replace hbe := Hid.mk hbe
      replace hk0 := Hid.mk hk0
      replace hk1 := Hid.mk hk1
      have lb : ∀ c p, h.objs.get c = some p → c < h.next := fun c p hcp => hw.lt hcp
      repeat with_reducible first | refine zAA ?_ | refine zAB ?_ | refine zAC ?_ | refine zAK ?_ | refine zAV ?_ | (apply dr_q; exact q1) | (apply dr_ql; exact q1; exact og1) | (apply st_q; exact q1) | (apply st_qT; exact e1; exact q1) | (apply zAH; exact e1)
      refine dr_q (hq0.out _ _ _ (by exact e1)) ?_
      repeat with_reducible first | (apply dr_q; exact q1) | (apply dr_ql; exact q1; exact og1)
      refine dr_q (hq1.out _ _ _ (by exact e1)) ?_
      repeat with_reducible first | (apply dr_q; exact q1) | (apply dr_ql; exact q1; exact og1)
      refine dr_st (zAM (by exact e1) (by exact e1) (cs := [.int .i64 (zAL c.g y0).kind, .str (zAL c.g y0).name, av0, lv0, .bool (zAL c.g y0).isOpen]) rfl rfl G.wf o2 (by simp) z0 ?_)
      rintro v7 h7 p7 o27
      simp only [List.take_zero, List.nil_append, List.length_cons, List.length_nil, List.drop_succ_cons, List.drop_zero, List.append_nil, Nat.zero_add, Nat.reduceAdd, List.drop_nil, List.cons_append] at o27
      have hb25 : b5 ≠ b2 := by omega
      have o17 := p7.keep b1 (by omega) _ o1
      have o37 := p7.keep b3 (by omega) _ o3
      have o57 := p7.keep b5 hb25 _ o5
      have G7 := p7.grow h hw G (by omega)
      have hgj7 := G7.keep _ _ hgj
      have hgx17 := G7.keep _ _ hgx1
      refine zAB ⟨by simp [heldOk, Nat.testBit, o17, o57, hgj7, hgx17], ?_⟩
      refine dr_st (zAM (by exact e1) (by exact e1) (cs := [.int .i64 (zAL c.g y1).kind, .str (zAL c.g y1).name, av1, lv1, .bool (zAL c.g y1).isOpen]) rfl rfl G7.wf o37 (by simp) z1 ?_)
      rintro v8 h8 p8 o38
      simp only [List.take_zero, List.nil_append, List.length_cons, List.length_nil, List.drop_succ_cons, List.drop_zero, List.append_nil, Nat.zero_add, Nat.reduceAdd, List.drop_nil, List.cons_append] at o38
      have o28 := p8.keep b2 (by omega) _ o27
      refine zAB ⟨by simp [heldOk, Nat.testBit], ?_⟩
      have G8 := p8.grow h hw G7 (by omega)
      have nn8 := p8.next
      have nn7 := p7.next
      clear o1 o5 o17 o37 o57 hgi hgj hgx0 hgx1 hgi' hgj' hgx0' hgx1' hgj7 hgx17 o27 hvi hvj hsi hsj hsx0 hsx1 hpl0 hpl1 hpx0 hpx1 p7 p8 G7
      replace o2 := o28
      replace o3 := o38
      replace G := G8
      clear q1' q2' q3' q5' nn7 nn8
      cases d1 : (zAL c.g y0).kind == 3
      · repeat with_reducible first | refine zAA ?_ | refine zAC ?_ | refine dr_nil ?_ | refine zAV ?_ | (apply dr_gF; exact e1) | (apply dr_q; exact q1) | (apply dr_ql; exact q1; exact og1)
        refine dr_st (zAM (by exact e1) (by exact e1) (cs := [.int .i64 (zAL c.g y0).kind, .str (zAL c.g y0).name, av0, lv0, .bool (zAL c.g y0).isOpen]) rfl rfl G.wf o2 (by simp) (by exact z0) ?_)
        rintro v7 h7 p7 o7
        simp only [List.take_zero, List.nil_append, List.length_cons, List.length_nil, List.drop_succ_cons, List.drop_zero, List.append_nil, Nat.zero_add, Nat.reduceAdd, List.drop_nil, List.cons_append] at o7
        have o37 := p7.keep b3 (by omega) _ o3
        refine zAB ⟨by simp [heldOk, Nat.testBit, o37], ?_⟩
        refine dr_st (zAM (by exact e1) (by exact e1) (cs := [.int .i64 (zAL c.g y1).kind, .str (zAL c.g y1).name, av1, lv1, .bool (zAL c.g y1).isOpen]) rfl rfl (p7.wf G.wf) o37 (by simp) z1 ?_)
        rintro v8 h8 p8 o8
        simp only [List.take_zero, List.nil_append, List.length_cons, List.length_nil, List.drop_succ_cons, List.drop_zero, List.append_nil, Nat.zero_add, Nat.reduceAdd, List.drop_nil, List.cons_append] at o8
        have o28 := p8.keep b2 (by omega) _ o7
        refine zAB ⟨by simp [heldOk, Nat.testBit], ?_⟩
        have G8 := p8.grow h hw (p7.grow h hw G (by omega)) (by omega)
        clear o2 o3 p7 p8 o37 o7
        repeat' with_reducible first | refine zAA ?_ | refine zAI ?_ | refine dr_nil ?_ | (apply dr_q; exact q1) | (apply zAJ; exact n1; exact r1)
        exact ⟨⟨zAL c.g y0, zAL c.g y1, av0, lv0, av1, lv1, by rw [hbe.out]; simp only [bothObj, d1, Bool.false_and]; rfl, hia0.mono G8, hil0.mono G8, hia1.mono G8, hil1.mono G8, fun p hp => by
          rw [hbe.out] at hp
          split at hp
          · cases hp; exact ⟨rfl, rfl⟩
          · cases hp⟩, G8⟩
      cases d2 : (zAL c.g y0).isOpen
      rotate_left
      · repeat with_reducible first | refine zAA ?_ | refine zAC ?_ | refine dr_nil ?_ | refine zAV ?_ | (apply dr_gT; exact e1) | (apply dr_gF; exact e1) | (apply dr_q; exact q1) | (apply dr_ql; exact q1; exact og1)
        refine dr_st (zAM (by exact e1) (by exact e1) (cs := [.int .i64 (zAL c.g y0).kind, .str (zAL c.g y0).name, av0, lv0, .bool true]) rfl rfl G.wf o2 (by simp) (by rw [d2] at z0; exact z0) ?_)
        rintro v7 h7 p7 o7
        simp only [List.take_zero, List.nil_append, List.length_cons, List.length_nil, List.drop_succ_cons, List.drop_zero, List.append_nil, Nat.zero_add, Nat.reduceAdd, List.drop_nil, List.cons_append] at o7
        have o37 := p7.keep b3 (by omega) _ o3
        refine zAB ⟨by simp [heldOk, Nat.testBit, o37], ?_⟩
        refine dr_st (zAM (by exact e1) (by exact e1) (cs := [.int .i64 (zAL c.g y1).kind, .str (zAL c.g y1).name, av1, lv1, .bool (zAL c.g y1).isOpen]) rfl rfl (p7.wf G.wf) o37 (by simp) z1 ?_)
        rintro v8 h8 p8 o8
        simp only [List.take_zero, List.nil_append, List.length_cons, List.length_nil, List.drop_succ_cons, List.drop_zero, List.append_nil, Nat.zero_add, Nat.reduceAdd, List.drop_nil, List.cons_append] at o8
        have o28 := p8.keep b2 (by omega) _ o7
        refine zAB ⟨by simp [heldOk, Nat.testBit], ?_⟩
        have G8 := p8.grow h hw (p7.grow h hw G (by omega)) (by omega)
        clear o2 o3 p7 p8 o37 o7
        repeat' with_reducible first | refine zAA ?_ | refine zAI ?_ | refine dr_nil ?_ | (apply dr_q; exact q1) | (apply zAJ; exact n1; exact r1)
        exact ⟨⟨zAL c.g y0, zAL c.g y1, av0, lv0, av1, lv1, by rw [hbe.out]; simp only [bothObj, d1, d2, Bool.not_true, Bool.and_false, Bool.false_and, nodeV, d2]; rfl, hia0.mono G8, hil0.mono G8, hia1.mono G8, hil1.mono G8, fun p hp => by
          rw [hbe.out] at hp
          split at hp
          · cases hp; exact ⟨rfl, rfl⟩
          · cases hp⟩, G8⟩
      cases d3 : (zAL c.g y1).kind == 3
      · repeat with_reducible first | refine zAA ?_ | refine zAC ?_ | refine dr_nil ?_ | refine zAV ?_ | (apply dr_gT; exact e1) | (apply dr_q; exact q1) | (apply dr_ql; exact q1; exact og1)
        refine dr_st (zAM (by exact e1) (by exact e1) (cs := [.int .i64 (zAL c.g y0).kind, .str (zAL c.g y0).name, av0, lv0, .bool false]) rfl rfl G.wf o2 (by simp) (by rw [d2] at z0; exact z0) ?_)
        rintro v7 h7 p7 o7
        simp only [List.take_zero, List.nil_append, List.length_cons, List.length_nil, List.drop_succ_cons, List.drop_zero, List.append_nil, Nat.zero_add, Nat.reduceAdd, List.drop_nil, List.cons_append] at o7
        have o37 := p7.keep b3 (by omega) _ o3
        refine zAB ⟨by simp [heldOk, Nat.testBit, o37], ?_⟩
        refine dr_st (zAM (by exact e1) (by exact e1) (cs := [.int .i64 (zAL c.g y1).kind, .str (zAL c.g y1).name, av1, lv1, .bool (zAL c.g y1).isOpen]) rfl rfl (p7.wf G.wf) o37 (by simp) z1 ?_)
        rintro v8 h8 p8 o8
        simp only [List.take_zero, List.nil_append, List.length_cons, List.length_nil, List.drop_succ_cons, List.drop_zero, List.append_nil, Nat.zero_add, Nat.reduceAdd, List.drop_nil, List.cons_append] at o8
        have o28 := p8.keep b2 (by omega) _ o7
        refine zAB ⟨by simp [heldOk, Nat.testBit], ?_⟩
        have G8 := p8.grow h hw (p7.grow h hw G (by omega)) (by omega)
        clear o2 o3 p7 p8 o37 o7
        repeat' with_reducible first | refine zAA ?_ | refine zAI ?_ | refine dr_nil ?_ | (apply dr_q; exact q1) | (apply zAJ; exact n1; exact r1)
        exact ⟨⟨zAL c.g y0, zAL c.g y1, av0, lv0, av1, lv1, by rw [hbe.out]; simp only [bothObj, d1, d2, d3, Bool.and_false, nodeV, d2]; rfl, hia0.mono G8, hil0.mono G8, hia1.mono G8, hil1.mono G8, fun p hp => by
          rw [hbe.out] at hp
          split at hp
          · cases hp; exact ⟨rfl, rfl⟩
          · cases hp⟩, G8⟩
      · repeat with_reducible first | refine zAA ?_ | refine zAC ?_ | refine dr_nil ?_ | refine zAV ?_ | (apply dr_gT; exact e1) | (apply dr_q; exact q1) | (apply dr_ql; exact q1; exact og1)
        refine dr_st (zAM (by exact e1) (by exact e1) (cs := [.int .i64 (zAL c.g y0).kind, .str (zAL c.g y0).name, av0, lv0, .bool false]) rfl rfl G.wf o2 (by simp) (by rw [d2] at z0; exact z0) ?_)
        rintro v7 h7 p7 o7
        simp only [List.take_zero, List.nil_append, List.length_cons, List.length_nil, List.drop_succ_cons, List.drop_zero, List.append_nil, Nat.zero_add, Nat.reduceAdd, List.drop_nil, List.cons_append] at o7
        have o37 := p7.keep b3 (by omega) _ o3
        refine zAB ⟨by simp [heldOk, Nat.testBit, o37], ?_⟩
        refine dr_st (zAM (by exact e1) (by exact e1) (cs := [.int .i64 (zAL c.g y1).kind, .str (zAL c.g y1).name, av1, lv1, .bool (zAL c.g y1).isOpen]) rfl rfl (p7.wf G.wf) o37 (by simp) z1 ?_)
        rintro v8 h8 p8 o8
        simp only [List.take_zero, List.nil_append, List.length_cons, List.length_nil, List.drop_succ_cons, List.drop_zero, List.append_nil, Nat.zero_add, Nat.reduceAdd, List.drop_nil, List.cons_append] at o8
        have o28 := p8.keep b2 (by omega) _ o7
        refine zAB ⟨by simp [heldOk, Nat.testBit], ?_⟩
        have G8 := p8.grow h hw (p7.grow h hw G (by omega)) (by omega)
        clear o2 o3 p7 p8 o37 o7
        repeat' with_reducible first | refine zAA ?_ | refine zAI ?_ | refine dr_nil ?_ | (apply dr_q; exact q1) | (apply zAJ; exact n1; exact r1)
        exact ⟨⟨zAL c.g y0, zAL c.g y1, av0, lv0, av1, lv1, by rw [hbe.out]; simp only [bothObj, d1, d2, d3, Bool.not_false, Bool.and_self, nodeV, d2]; rfl, hia0.mono G8, hil0.mono G8, hia1.mono G8, hil1.mono G8, fun p hp => by
          rw [hbe.out] at hp
          split at hp
          · cases hp; exact ⟨rfl, rfl⟩
          · cases hp⟩, G8⟩
    · have hb : Hid (bodyF c = none) := ⟨by
        have hst : isStar (zAL c.g x) = false := by rw [notCon_star] at hna; simpa using hna
        rw [hbd.out]; unfold partF; rw [hst]; rfl⟩
      cases hk2 : (zAL c.g x).kind != 2
      · have hn2 : eqL (zAL c.g x).name [42] = false := by
          rw [notCon, hk2, Bool.false_or] at hna; simpa using hna
        clear hna
        repeat with_reducible first | refine zAA ?_ | refine zAB ?_ | refine zAC ?_ | refine zAV ?_ | (apply dr_ql; exact q1; exact og1) | (apply st_q; exact q1) | (apply st_qT; exact e1; exact q1) | (apply zAF; exact e1)
        refine dr_st (zAM (by exact e1) (by exact e1) (cs := [.int .i64 0, .str [], .slice none 0, .slice none 0, .bool false]) rfl rfl G.wf o2 (by simp) rfl ?_)
        rintro v7 h7 p7 o7
        simp only [List.take_zero, List.nil_append, List.length_cons, List.length_nil, List.drop_succ_cons, List.drop_zero, List.append_nil, Nat.zero_add, Nat.reduceAdd, List.drop_nil, List.cons_append] at o7
        have o37 := p7.keep b3 (by omega) _ o3
        refine zAB ⟨by simp [heldOk, Nat.testBit, o37], ?_⟩
        refine dr_st (zAM (by exact e1) (by exact e1) (cs := [.int .i64 0, .str [], .slice none 0, .slice none 0, .bool false]) rfl rfl (p7.wf G.wf) o37 (by simp) rfl ?_)
        rintro v8 h8 p8 o8
        simp only [List.take_zero, List.nil_append, List.length_cons, List.length_nil, List.drop_succ_cons, List.drop_zero, List.append_nil, Nat.zero_add, Nat.reduceAdd, List.drop_nil, List.cons_append] at o8
        have o28 := p8.keep b2 (by omega) _ o7
        refine zAB ⟨by simp [heldOk, Nat.testBit], ?_⟩
        have G8 := p8.grow h hw (p7.grow h hw G (by omega)) (by omega)
        clear o2 o3 p7 p8 o37 o7
        repeat' with_reducible first | refine zAA ?_ | refine zAN ?_ | refine zAI ?_ | refine dr_nil ?_ | (apply dr_q; exact q1) | (apply zAJ; exact n1; exact r1)
        exact ⟨⟨zeroN, zeroN, _, _, _, _, by rw [hb.out]; rfl, ints_nil _, strs_nil _, ints_nil _, strs_nil _, fun p hp => by rw [hb.out] at hp; cases hp⟩, G8⟩
      · clear hna
        repeat with_reducible first | refine zAA ?_ | refine zAB ?_ | refine zAC ?_ | refine zAV ?_ | (apply dr_ql; exact q1; exact og1) | (apply st_q; exact q1) | (apply st_qF; exact e1) | (apply zAF; exact e1)
        refine dr_st (zAM (by exact e1) (by exact e1) (cs := [.int .i64 0, .str [], .slice none 0, .slice none 0, .bool false]) rfl rfl G.wf o2 (by simp) rfl ?_)
        rintro v7 h7 p7 o7
        simp only [List.take_zero, List.nil_append, List.length_cons, List.length_nil, List.drop_succ_cons, List.drop_zero, List.append_nil, Nat.zero_add, Nat.reduceAdd, List.drop_nil, List.cons_append] at o7
        have o37 := p7.keep b3 (by omega) _ o3
        refine zAB ⟨by simp [heldOk, Nat.testBit, o37], ?_⟩
        refine dr_st (zAM (by exact e1) (by exact e1) (cs := [.int .i64 0, .str [], .slice none 0, .slice none 0, .bool false]) rfl rfl (p7.wf G.wf) o37 (by simp) rfl ?_)
        rintro v8 h8 p8 o8
        simp only [List.take_zero, List.nil_append, List.length_cons, List.length_nil, List.drop_succ_cons, List.drop_zero, List.append_nil, Nat.zero_add, Nat.reduceAdd, List.drop_nil, List.cons_append] at o8
        have o28 := p8.keep b2 (by omega) _ o7
        refine zAB ⟨by simp [heldOk, Nat.testBit], ?_⟩
        have G8 := p8.grow h hw (p7.grow h hw G (by omega)) (by omega)
        clear o2 o3 p7 p8 o37 o7
        repeat' with_reducible first | refine zAA ?_ | refine zAN ?_ | refine zAI ?_ | refine dr_nil ?_ | (apply dr_q; exact q1) | (apply zAJ; exact n1; exact r1)
        exact ⟨⟨zeroN, zeroN, _, _, _, _, by rw [hb.out]; rfl, ints_nil _, strs_nil _, ints_nil _, strs_nil _, fun p hp => by rw [hb.out] at hp; cases hp⟩, G8⟩
end
end Go.Ab.S
end
section
/-
  Rows of names, one behind the other; whether a class's type may be; its fields.
-/
namespace Go.Ab.S
open Go.Ab
set_option maxHeartbeats 4000000
structure HasGrow (summ : FuncId → List AVal → AHeap → Option (D (AVal × AHeap))) : Prop where
  zero : ∀ h, summ 62 [.slice none 0, .int .i64 0] h = some (.ret (.slice none 0, h))
  more : ∀ (n : Nat) h, 0 < n → n ≤ 2 ^ 31 → summ 62 [.slice none 0, .int .i64 (n : Nat)] h = some (.ret (.slice (some (h.next, 0)) 0, newA h (.cells false 9 [])))
theorem sort_nil : sortL ([] : List (List Nat)) = [] := List.length_eq_zero_iff.1 (by rw [sortL_len]; rfl)
theorem wrap_add {a b : Nat} (h : a + b < 2 ^ 62) : IntKind.i64.wrap ((a : Int) + (b : Int)) = ((a + b : Nat) : Int) := by
  have e62 : (2 : Nat) ^ 62 = 4611686018427387904 := by decide
  rw [wrap_small (by omega) (by omega)]; omega
theorem built_strs' {h : AHeap} {base : Nat} {v : AVal} {l : List (List Nat)} (B : Built h base 9 1 v l.length (l.map AVal.str)) : StrsAt h v l :=
  B.sl (by decide) (xs := l.map strC) (by rw [strsFlat]) (by intro c hc; obtain ⟨a, _, rfl⟩ := List.mem_map.1 hc; rfl) (by simp)
section
variable {fns : FuncId → Option AFunc} {summ : FuncId → List AVal → AHeap → Option (D (AVal × AHeap))} {ro : Option Nat}
theorem st_bslice2 {d : Option Tmp} {e : TypeId} {z v u : AVal} {x y : AOpd} {l : List Step} {a : AAct} {h : AHeap} {K : AAct → AHeap → Prop} (hx : ev a x = some v) (hy : ev a y = some u) (hv : cellsA v = [v]) (hu : cellsA u = [u]) (w : WF h)
    (k : ∀ b h', h.next ≤ b → Grow h h' → h'.objs.get b = some (b, .cells false e [v, u]) → St fns summ ro l (putA a d (.slice (some (b, 0)) 2)) h' K) : St fns summ ro (⟨d, none, .e (.bslice e 1 2 [z] [(0, x), (1, y)])⟩ :: l) a h K := by
  refine st_t (by intro _ _ hh; cases hh) (by intro _ _ hh; cases hh) (v := .slice (some (h.next, 0)) 2) (h' := newA h (.cells false e [v, u])) ?_ (k _ _ (Nat.le_refl _) ((Grow.refl w).new _) (zAQ _ _))
  simp [turnA, rowA, rep, hx, hy, hv, hu]
theorem st_appStrs (H : Has fns summ) {d : Option Tmp} {x y : AOpd} {l : List Step} {a : AAct} {h : AHeap} {K : AAct → AHeap → Prop} {base : Nat} {v u : AVal} {p q : List (List Nat)} (hx : ev a x = some v) (hy : ev a y = some u) (B : Built h base 9 1 v p.length (p.map AVal.str)) (hu : StrsAt h u q) (hl : p.length + q.length ≤ 2 ^ 31) (w : WF h) (hb : base ≤ h.next)
    (k : ∀ v' h', Built h' base 9 1 v' (p ++ q).length ((p ++ q).map AVal.str) → WF h' → h.next ≤ h'.next → (∀ h0, WF h0 → Grow h0 h → h0.next ≤ base → Grow h0 h') → St fns summ ro l (putA a d v') h' K) : St fns summ ro (⟨d, none, .e (.append 9 1 16 x y)⟩ :: l) a h K := by
  rcases Nat.eq_zero_or_pos q.length with h0 | h0
  · have hq0 : q = [] := List.length_eq_zero_iff.1 h0
    subst hq0
    have hla : lenA u = some 0 := by
      have := hu.1
      cases u <;> first | exact this | cases this
    have hap : appendA h 9 1 16 v u = some (v, h) := by
      rcases B with ⟨rfl, _⟩ | ⟨rfl, _⟩ | ⟨b, vs, ver, _, rfl, _⟩ <;> simp only [appendA, hla]
    refine st_t (by intro _ _ hh; cases hh) (by intro _ _ hh; cases hh) (v := v) (h' := h) ?_ (k v h (by rw [List.append_nil]; exact B) w (Nat.le_refl _) fun _ _ g _ => g)
    simp only [turnA, hx, hy, hap]
  · rcases slForms hu.1 with rfl | ⟨b, o, rfl⟩ | ⟨_, hh⟩ | ⟨_, hh⟩
    · obtain ⟨_, b, o, ver, ro, e, vs, h1, _⟩ := hu.2 0 _ (List.getElem?_eq_getElem (by simpa using h0))
      cases h1
    · obtain ⟨_, ver, rb, eb, vs, h2, h3, h4, h5⟩ := SlAt_cells hu (by simpa using h0) (by decide)
      have hfl := strsFlat q
      rw [hfl] at h4 h5
      refine st_append (n := p.length) (cells := p.map AVal.str) hx hy B (m := q.length) (by simp [lenA]) h0 (new := q.map AVal.str) ?_ (by simp [List.all_map, one]) (roomOK H (by decide) hl) (by simp) w hb ?_
      · rw [List.length_map] at h3 h4
        simp only [cellsOfA, h2, if_pos h3, h4]
      · intro v' h' B' _ w' n' g _
        refine k v' h' ?_ w' n' g
        rw [List.length_append, List.map_append]; exact B'
    · have : q.length = 0 := by simpa using hh
      omega
    · have : q.length = 0 := by simpa using hh
      omega
end
section
variable {fns : FuncId → Option AFunc} {summ : FuncId → List AVal → AHeap → Option (D (AVal × AHeap))}
variable (H : Has fns summ) (HG : HasGrow summ)
include H HG
theorem ConcatStr_ok (a b : List (List Nat)) (hl : a.length + b.length ≤ 2 ^ 31) (cv vv : AVal) (v : AVal) (h : AHeap) (hw : WF h) (hv : SlAt h 1 v [[cv], [vv]]) (ha : StrsAt h cv a) (hb : StrsAt h vv b) :
    Cl fns summ 36 [v] h fun r h' => Built h' h.next 9 1 r (a ++ b).length ((a ++ b).map AVal.str) ∧ Grow h h' := by
  have e31 : (2 : Nat) ^ 31 = 2147483648 := by decide
  have hlen : lenO v = some 2 := hv.1
  have hla := ha.len
  have hlb := hb.len
  obtain ⟨_, b0, o0, ver0, ro0, et0, vs0, hix0, hg0, hv0⟩ := hv.2 0 [cv] rfl
  obtain ⟨_, b1, o1, ver1, ro1, et1, vs1, hix1, hg1, hv1⟩ := hv.2 1 [vv] rfl
  replace hv0 := one_of_take hv0
  replace hv1 := one_of_take hv1
  clear hv
  refine H.go (fn := F_ConcatStr) rfl (by decide) rfl rfl ?_
  unfold F_ConcatStr
  dsimp only [qQ, qE, qN, gQ, gE, vi]
  repeat with_reducible first | refine zAA ?_ | refine zAB ?_ | refine zAC ?_ | refine zAD ?_ | (apply st_q; exact q1)
  refine cd_count (N := 2) (by decide) (fun j a' hp => hp = h ∧ a'.defers = [] ∧ ev a' (.tmp 0) = some v ∧ ev a' (.tmp 9) = some v ∧ ev a' (.tmp 3) = some (.int .i64 ((if j = 0 then 0 else if j = 1 then a.length else a.length + b.length : Nat) : Int)))
    (by rintro j a hp t w (rfl | rfl | rfl) ⟨h1, h2, h3, h4, h5⟩ <;> exact ⟨h1, by rw [zAY]; exact h2, by exact e1, by exact e1, by exact e1⟩) (by decide) ?_ ?_ ⟨rfl, by exact n1, by exact e1, by exact e1, by exact e1⟩ (by exact e1) (by exact e1)
  · rintro j A hp hj ⟨rfl, hd, t0, t9, t3⟩ hi hn
    rcases (by omega : j = 0 ∨ j = 1) with rfl | rfl
    · replace t3 : ev A (.tmp 3) = some (.int .i64 ((0 : Nat) : Int)) := t3
      have hw1 : IntKind.i64.wrap (((0 : Nat) : Int) + Int.ofNat a.length) = ((a.length : Nat) : Int) := by
        rw [show (Int.ofNat a.length : Int) = ((a.length : Nat) : Int) from rfl, wrap_add (by omega), Nat.zero_add]
      have hd1 : decide (((a.length : Nat) : Int) < 0) = false := by simp
      repeat with_reducible first | refine zAA ?_ | refine zAE ?_ | refine zAB ?_ | refine zAC ?_ | refine zAD ?_ | refine zAG ?_ | refine zAK ?_ | (apply st_q; exact q1) | (apply zAH; exact e1)
      exact ⟨⟨rfl, by exact n1, by exact e1, by exact e1, by exact e1⟩, by exact e1, by exact e1⟩
    · replace t3 : ev A (.tmp 3) = some (.int .i64 ((a.length : Nat) : Int)) := t3
      have hw1 : IntKind.i64.wrap (((a.length : Nat) : Int) + Int.ofNat b.length) = ((a.length + b.length : Nat) : Int) := by
        rw [show (Int.ofNat b.length : Int) = ((b.length : Nat) : Int) from rfl, wrap_add (by omega)]
      have hd1 : decide (((a.length + b.length : Nat) : Int) < 0) = false := by simp; omega
      repeat with_reducible first | refine zAA ?_ | refine zAE ?_ | refine zAB ?_ | refine zAC ?_ | refine zAD ?_ | refine zAG ?_ | refine zAK ?_ | (apply st_q; exact q1) | (apply zAH; exact e1)
      exact ⟨⟨rfl, by exact n1, by exact e1, by exact e1, by exact e1⟩, by exact e1, by exact e1⟩
  · rintro A hp ⟨rfl, hd, t0, t9, t3⟩
    replace t3 : ev A (.tmp 3) = some (.int .i64 ((a.length + b.length : Nat) : Int)) := t3
    have hgrow : ∃ gv h2, summ 62 [.slice none 0, .int .i64 ((a.length + b.length : Nat) : Int)] hp = some (.ret (gv, h2)) ∧ Built h2 hp.next 9 1 gv ([] : List (List Nat)).length (([] : List (List Nat)).map AVal.str) ∧ Grow hp h2 := by
      rcases Nat.eq_zero_or_pos (a.length + b.length) with h0 | h0
      · rw [h0]; exact ⟨_, _, HG.zero hp, .inl ⟨rfl, rfl, rfl⟩, Grow.refl hw⟩
      · exact ⟨_, _, HG.more _ hp h0 (by omega), .inr (.inr ⟨hp.next, [], hp.next, Nat.le_refl _, rfl, zAQ _ _, by simp, rfl⟩), (Grow.refl hw).new _⟩
    obtain ⟨gv, h2, hsm, B, g2⟩ := hgrow
    repeat with_reducible first | refine zAA ?_ | refine zAC ?_ | refine zAD ?_ | (apply st_q; exact q1)
    refine zAT (by exact s1) (cl_summ hsm ?_)
    rw [D.sat_ret]
    clear hsm t3 t9
    repeat with_reducible first | refine zAA ?_ | refine zAB ?_ | refine zAC ?_ | refine zAD ?_ | (apply st_q; exact q1)
    refine cd_count (N := 2) (by decide) (fun j a' h3 => WF h3 ∧ Grow hp h3 ∧ hp.next ≤ h3.next ∧ a'.defers = [] ∧ ev a' (.tmp 25) = some v ∧ ∃ gv, ev a' (.tmp 6) = some gv ∧ Built h3 hp.next 9 1 gv (if j = 0 then [] else if j = 1 then a else a ++ b : List (List Nat)).length ((if j = 0 then [] else if j = 1 then a else a ++ b : List (List Nat)).map AVal.str))
      (by rintro j a hp t w (rfl | rfl | rfl) ⟨k0, k1, k2, k3, k4, gv, k5, k6⟩ <;> exact ⟨k0, k1, k2, by rw [zAY]; exact k3, by exact e1, gv, by exact e1, k6⟩) (by decide) ?_ ?_ ⟨g2.wf, g2, g2.next, by exact n1, by exact e1, gv, by exact e1, B⟩ (by exact e1) (by exact e1)
    · clear B g2
      rintro j A h3 hj ⟨w3, g3, n3, hd, t25, gv, t6, B⟩ hi hn
      rcases (by omega : j = 0 ∨ j = 1) with rfl | rfl
      · replace B : Built h3 hp.next 9 1 gv ([] : List (List Nat)).length (([] : List (List Nat)).map AVal.str) := B
        replace hg0 := g3.keep _ _ hg0
        repeat with_reducible first | refine zAA ?_ | refine zAB ?_ | refine zAC ?_ | refine zAD ?_ | refine zAG ?_ | (apply st_q; exact q1)
        refine st_appStrs H (by exact e1) (by exact e1) B (ha.mono g3) (by simp; omega) w3 n3 ?_
        intro v' h4 B' w4 n4 g4
        rw [List.nil_append] at B'
        repeat with_reducible first | refine zAA ?_ | refine zAE ?_ | refine zAB ?_ | (apply st_q; exact q1)
        exact ⟨⟨w4, g4 hp hw g3 (Nat.le_refl _), by omega, by exact n1, by exact e1, v', by exact e1, B'⟩, by exact e1, by exact e1⟩
      · replace B : Built h3 hp.next 9 1 gv a.length (a.map AVal.str) := B
        replace hg1 := g3.keep _ _ hg1
        repeat with_reducible first | refine zAA ?_ | refine zAB ?_ | refine zAC ?_ | refine zAD ?_ | refine zAG ?_ | (apply st_q; exact q1)
        refine st_appStrs H (by exact e1) (by exact e1) B (hb.mono g3) hl w3 n3 ?_
        intro v' h4 B' w4 n4 g4
        repeat with_reducible first | refine zAA ?_ | refine zAE ?_ | refine zAB ?_ | (apply st_q; exact q1)
        exact ⟨⟨w4, g4 hp hw g3 (Nat.le_refl _), by omega, by exact n1, by exact e1, v', by exact e1, B'⟩, by exact e1, by exact e1⟩
    · rintro A h3 ⟨w3, g3, n3, hd, t25, gv, t6, B'⟩
      replace B' : Built h3 hp.next 9 1 gv (a ++ b).length ((a ++ b).map AVal.str) := B'
      clear B g2
      repeat' with_reducible first | refine zAA ?_ | refine zAB ?_ | refine zAC ?_ | refine zAD ?_ | refine zAI ?_ | (apply st_q; exact q1) | (apply zAJ; exact n1; exact r1)
      exact ⟨B', g3⟩
variable (HS : HasSort summ)
include HS
structure CSm (c : CDef) : Prop where
  g : GraphSm c.g
  conc : ∀ s ∈ c.conc, s.length < 2 ^ 60
  virt : ∀ s ∈ c.virt, s.length < 2 ^ 60
  sum : c.conc.length + c.virt.length ≤ 2 ^ 31
theorem CheckClass_ok (c : CDef) (hs : CSm c) (nv cv vv : AVal) (h : AHeap) (hw : WF h) (hN : NodesAt h nv c.g.nodes) (hcv : StrsAt h cv c.conc) (hvv : StrsAt h vv c.virt) :
    Cl fns summ 13 [.agg [.int .i64 c.params, nv, .int .i64 c.g.root, cv, vv]] h fun r h' => r = .int .i64 (ckF c) ∧ Grow h h' := by
  have e31 : (2 : Nat) ^ 31 = 2147483648 := by decide
  have e60 : (2 : Nat) ^ 60 = 1152921504606846976 := by decide
  have oc := zAO hcv.len
  have ov := zAO hvv.len
  have sc := Hid.mk hs
  clear hs
  refine H.go (fn := F_CheckClass) rfl (by decide) rfl rfl ?_
  unfold F_CheckClass
  dsimp only [qQ, qE, qN, gQ, gE, vi]
  refine zAC (zAD ?_)
  refine st_box (by exact e1) (by exact cc) hw ?_
  rintro b1 h1 hb1 g1 o1
  have ht2 := take21
  have ht5 := take5
  repeat with_reducible first | refine zAA ?_ | refine zAB ?_ | refine zAC ?_ | refine zAD ?_ | (apply st_q; exact q1)
  refine zAT (by exact s1) ((Check_ok H c.g sc.out.g _ h1 g1.wf ⟨nv, rfl, hN.mono g1⟩).mono ?_)
  rintro _ h2 ⟨rfl, g2⟩
  replace o1 := g2.keep _ _ o1
  have G := g1.trans g2
  cases hck : (checkF c.g != 0)
  rotate_left
  · have hr : ckF c = checkF c.g := by
      unfold ckF; rw [if_pos (by simpa using hck)]
    replace hr := Hid.mk hr
    repeat' with_reducible first | refine zAA ?_ | refine zAN ?_ | refine zAB ?_ | refine zAC ?_ | refine zAD ?_ | refine zAI ?_ | (apply st_q; exact q1) | (apply zAF; exact e1) | (apply zAJ; exact n1; exact r1)
    exact ⟨by rw [hr.out], G⟩
  have hc : checkF c.g = 0 := by simpa using hck
  have hr : ckF c = if headOK c then (match bodyF c with
    | none => 2
    | some p => if eqLL (sortL (c.conc ++ c.virt)) (zAL c.g p.2).labels then 0 else 2) else 2 := by
    unfold ckF; rw [if_neg (by simpa using hc)]; rfl
  replace hr := Hid.mk hr
  replace hc := Hid.mk hc
  have bad : headOK c = false → Hid (ckF c = 2) := fun hh => ⟨by rw [hr.out, hh]; rfl⟩
  unfold headOK at bad
  cases c1 : decide (c.params < 0)
  rotate_left
  · have hb := bad (by rw [c1]; rfl)
    clear bad
    repeat' with_reducible first | refine zAA ?_ | refine zAN ?_ | refine zAB ?_ | refine zAC ?_ | refine zAD ?_ | refine zAK ?_ | refine zAI ?_ | (apply st_q; exact q1) | (apply st_qF; exact e1) | (apply st_eF; exact e1) | (apply zAF; exact e1) | (apply zAH; exact e1) | (apply zAJ; exact n1; exact r1)
    exact ⟨by rw [hb.out], G⟩
  cases c2 : decide (c.params > 100)
  rotate_left
  · have hb := bad (by rw [c1, c2]; rfl)
    clear bad
    repeat' with_reducible first | refine zAA ?_ | refine zAN ?_ | refine zAB ?_ | refine zAC ?_ | refine zAD ?_ | refine zAK ?_ | refine zAI ?_ | (apply st_q; exact q1) | (apply st_qT; exact e1; exact q1) | (apply st_qF; exact e1) | (apply st_eF; exact e1) | (apply zAF; exact e1) | (apply zAH; exact e1) | (apply zAJ; exact n1; exact r1)
    exact ⟨by rw [hb.out], G⟩
  repeat with_reducible first | refine zAA ?_ | refine zAB ?_ | refine zAC ?_ | refine zAD ?_ | refine zAK ?_ | (apply st_q; exact q1) | (apply st_qT; exact e1; exact q1) | (apply zAH; exact e1)
  refine st_callT (by exact e1) (by exact s1) ((erising_ok H c.conc sc.out.conc (by have := sc.out.sum; omega) cv h2 (hcv.mono G)).mono ?_)
  rintro _ _ ⟨rfl, rfl⟩
  cases c3 : risingF c.conc
  · have hb := bad (by rw [c1, c2, c3]; rfl)
    clear bad
    repeat' with_reducible first | refine zAA ?_ | refine zAN ?_ | refine zAB ?_ | refine zAC ?_ | refine zAD ?_ | refine zAI ?_ | (apply st_q; exact q1) | (apply st_qT; exact e1; exact q1) | (apply st_qF; exact e1) | (apply st_eF; exact e1) | (apply zAF; exact e1) | (apply zAJ; exact n1; exact r1)
    exact ⟨by rw [hb.out], G⟩
  repeat with_reducible first | (apply st_q; exact q1) | (apply st_qT; exact e1; exact q1)
  refine st_callT (by exact e1) (by exact s1) ((erising_ok H c.virt sc.out.virt (by have := sc.out.sum; omega) vv _ (hvv.mono G)).mono ?_)
  rintro _ _ ⟨rfl, rfl⟩
  cases c4 : risingF c.virt
  · have hb := bad (by rw [c1, c2, c3, c4]; rfl)
    clear bad
    repeat' with_reducible first | refine zAA ?_ | refine zAN ?_ | refine zAB ?_ | refine zAC ?_ | refine zAD ?_ | refine zAI ?_ | (apply st_q; exact q1) | (apply st_qT; exact e1; exact q1) | (apply zAF; exact e1) | (apply zAJ; exact n1; exact r1)
    exact ⟨by rw [hb.out], G⟩
  have hh : headOK c = true := by unfold headOK; rw [c1, c2, c3, c4]; rfl
  have hr' : Hid (ckF c = match bodyF c with
    | none => 2
    | some p => if eqLL (sortL (c.conc ++ c.virt)) (zAL c.g p.2).labels then 0 else 2) := ⟨by rw [hr.out, hh]; rfl⟩
  have hpr : 0 ≤ c.params ∧ c.params ≤ 100 := by
    have := of_decide_eq_false c1
    have := of_decide_eq_false c2
    omega
  have hby : BytesL (c.conc ++ c.virt) := fun s hs => by
    rcases List.mem_append.1 hs with hs | hs
    · exact rising_bytes c3 s hs
    · exact rising_bytes c4 s hs
  replace hby := Hid.mk hby
  clear bad c1 c2 c3 c4 hr hh hck
  repeat with_reducible first | refine zAA ?_ | refine zAB ?_ | refine zAC ?_ | refine zAD ?_ | refine zAK ?_ | (apply st_q; exact q1) | (apply st_qT; exact e1; exact q1) | (apply zAH; exact e1)
  refine zAT (by exact s1) ((ebody_ok H c hc.out hpr nv cv vv _ G.wf (hN.mono G) oc ov).mono ?_)
  rintro _ h3 ⟨⟨na, nb, a1, l1, a2, l2, rfl, i1, k1, i2, k2, hbd⟩, g3⟩
  replace o1 := g3.keep _ _ o1
  have G3 := G.trans g3
  have z1 := ones_node (n := na) i1.len k1.len
  have z2 := ones_node (n := nb) i2.len k2.len
  replace hbd := Hid.mk hbd
  unfold nodeV
  repeat with_reducible (apply st_q; exact q1)
  refine st_alloc G3.wf ?_
  rintro b4 h4 hb4 g4 o4
  refine st_alloc g4.wf ?_
  rintro b5 h5 hb5 g5 o5
  have l4 := g4.wf.lt o4
  replace o4 := g5.keep _ _ o4
  have m3 := G3.next
  have m4 := g4.next
  refine zAM (by exact e1) (by exact e1) (cs := [.int .i64 na.kind, .str na.name, a1, l1, .bool na.isOpen]) rfl rfl g5.wf o4 (by simp) z1 ?_
  rintro v6 h6 p6 o46
  simp only [List.take_zero, List.nil_append, List.length_cons, List.length_nil, List.drop_succ_cons, List.drop_zero, List.append_nil, Nat.zero_add, Nat.reduceAdd, List.drop_nil, List.cons_append] at o46
  have o56 := p6.keep b5 (by omega) _ o5
  refine zAM (by exact e1) (by exact e1) (cs := [.int .i64 nb.kind, .str nb.name, a2, l2, .bool nb.isOpen]) rfl rfl (p6.wf g5.wf) o56 (by simp) z2 ?_
  rintro v7 h7 p7 o57
  simp only [List.take_zero, List.nil_append, List.length_cons, List.length_nil, List.drop_succ_cons, List.drop_zero, List.append_nil, Nat.zero_add, Nat.reduceAdd, List.drop_nil, List.cons_append] at o57
  have g37 : Grow h3 h7 := p7.grow h3 G3.wf (p6.grow h3 G3.wf (g4.trans g5) (by omega)) (by omega)
  replace o1 := g37.keep _ _ o1
  have G7 := G3.trans g37
  have k27 := k2.mono g37
  have y1 := cells_of_len hcv.len
  have y2 := cells_of_len hvv.len
  clear o46 p6 p7 o56 g4 g5 o4 o5 i1 k1 i2 k2 hb4 hb5 l4 m3 m4 g37 z1 z2
  repeat with_reducible first | refine zAA ?_ | refine zAB ?_ | refine zAC ?_ | refine zAD ?_ | (apply st_q; exact q1)
  refine st_bslice2 (by exact e1) (by exact e1) y1 y2 G7.wf ?_
  rintro b8 h8 hb8 g8 o8
  have hsl : SlAt h8 1 (.slice (some (b8, 0)) 2) [[cv], [vv]] := by
    refine ⟨rfl, fun i x hx => ?_⟩
    match i with
    | 0 => cases hx; exact ⟨rfl, b8, 0, _, _, _, _, rfl, o8, rfl⟩
    | 1 => cases hx; exact ⟨rfl, b8, 1, _, _, _, _, rfl, o8, rfl⟩
    | i + 2 => simp at hx
  replace o1 := g8.keep _ _ o1
  replace o57 := g8.keep _ _ o57
  have G8 := G7.trans g8
  have k28 := k27.mono g8
  skip
  refine zAT (by exact s1) ((ConcatStr_ok H HG c.conc c.virt sc.out.sum cv vv _ h8 g8.wf hsl (hcv.mono G8) (hvv.mono G8)).mono ?_)
  rintro rv h9 ⟨B, g9⟩
  clear hsl o8 y1 y2 k27 g8
  -- sorted
  have hsort : ∃ (h10 : AHeap), summ 37 [rv] h9 = some (.ret (.tuple [], h10)) ∧ StrsAt h10 rv (sortL (c.conc ++ c.virt)) ∧ Grow h8 h10 := by
    generalize hL : c.conc ++ c.virt = L at B hby
    rcases B with ⟨rfl, h0, _⟩ | ⟨rfl, h0, _⟩ | ⟨b, vs, ver, hb, rfl, ob, hlen, htk⟩
    · have : L = [] := List.length_eq_zero_iff.1 h0
      subst this
      exact ⟨h9, HS.none h9, by rw [sort_nil]; exact strs_nil h9, g9⟩
    · have : L = [] := List.length_eq_zero_iff.1 h0
      subst this
      exact ⟨h9, HS.zero h9, by rw [sort_nil]; exact ⟨rfl, fun i x hx => by simp at hx⟩, g9⟩
    · rw [Nat.mul_one] at hlen htk
      have hl : L.length ≤ 2 ^ 31 := by rw [← hL, List.length_append]; exact sc.out.sum
      refine ⟨_, HS.some L (fun s hs c hc => hby.out s hs c hc) hl h9 b ver vs g9.wf ob hlen htk, ?_, g9.put (by exact G8.wf) _ hb (g9.wf.lt ob)⟩
      have hb' : Built (putObjA h9 b (.cells false 9 ((sortL L).map AVal.str ++ vs.drop L.length))) h8.next 9 1 (.slice (some (b, 0)) L.length) (sortL L).length ((sortL L).map AVal.str) := by
        rw [sortL_len]
        exact .inr (.inr ⟨b, _, _, hb, rfl, zAR _ _ _, by simp [sortL_len], by rw [Nat.mul_one, ← sortL_len L]; simp⟩)
      exact built_strs' hb'
  obtain ⟨h10, hsm, hst, g810⟩ := hsort
  replace o1 := g810.keep _ _ o1
  replace o57 := g810.keep _ _ o57
  have k2X := k28.mono g810
  have GX := G8.trans g810
  clear B g9 k28
  repeat with_reducible first | refine zAA ?_ | refine zAB ?_ | refine zAC ?_ | refine zAD ?_ | (apply st_q; exact q1)
  refine zAT (by exact s1) (cl_summ hsm ?_)
  rw [D.sat_ret]
  have hlt : (sortL (c.conc ++ c.virt)).length < 2 ^ 60 := by rw [sortL_len, List.length_append]; have := sc.out.sum; omega
  cases hbo : (bodyF c).isSome
  · have hb : bodyF c = none := by simpa using hbo
    have hz : Hid (ckF c = 2) := ⟨by rw [hr'.out, hb]⟩
    clear hb hr' hsm
    repeat' with_reducible first | refine zAA ?_ | refine zAN ?_ | refine zAB ?_ | refine zAC ?_ | refine zAD ?_ | refine zAI ?_ | (apply st_q; exact q1) | (apply st_qF; exact e1) | (apply st_eF; exact e1) | (apply zAF; exact e1) | (apply zAJ; exact n1; exact r1)
    exact ⟨by rw [hz.out], GX⟩
  · obtain ⟨p, hb⟩ := Option.isSome_iff_exists.1 hbo
    have hz : Hid (ckF c = if eqLL (sortL (c.conc ++ c.virt)) nb.labels then 0 else 2) := ⟨by rw [hr'.out, hb, (hbd.out p hb).2]⟩
    clear hb hr' hsm
    repeat with_reducible first | refine zAA ?_ | refine zAB ?_ | refine zAC ?_ | refine zAD ?_ | (apply st_q; exact q1) | (apply st_qT; exact e1; exact q1)
    refine st_callT (by exact e1) (by exact s1) ((EqualStr_ok H _ nb.labels hlt rv l2 _ hst k2X).mono ?_)
    rintro _ _ ⟨rfl, rfl⟩
    cases heq : eqLL (sortL (c.conc ++ c.virt)) nb.labels
    · rw [heq] at hz
      repeat' with_reducible first | refine zAA ?_ | refine zAN ?_ | refine zAB ?_ | refine zAC ?_ | refine zAD ?_ | refine zAI ?_ | (apply st_q; exact q1) | (apply st_qT; exact e1; exact q1) | (apply zAF; exact e1) | (apply zAJ; exact n1; exact r1)
      exact ⟨by rw [hz.out]; rfl, GX⟩
    · rw [heq] at hz
      repeat' with_reducible first | refine zAA ?_ | refine zAB ?_ | refine zAC ?_ | refine zAD ?_ | refine zAK ?_ | refine zAI ?_ | (apply st_q; exact q1) | (apply st_qT; exact e1; exact q1) | (apply zAH; exact e1) | (apply zAJ; exact n1; exact r1)
      exact ⟨by rw [hz.out]; rfl, GX⟩
end
end Go.Ab.S
end
