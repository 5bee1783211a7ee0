import Derived.Test.YtapnoohglfhgeaaGreatDoorP17
/-
  Part 18 of the proof.
-/
set_option linter.all false
section
/-
  The least graph.
-/
namespace Go.Ab.S
open Go.Ab
set_option maxHeartbeats 8000000
/-- What is known all the while of the graph that is made. -/
structure LInv (h0 : AHeap) (b1 b2 b4 : Nat) (nv cv : AVal) (root root' : Int) (cl : List Int) (ns : List Node) (hp : AHeap) : Prop where
  grow : Grow h0 hp
  o1 : ∃ ver, hp.objs.get b1 = some (ver, .cells false 24 [nv, .int .i64 root])
  o2 : ∃ ver, hp.objs.get b2 = some (ver, .cells false 24 [.slice none 0, .int .i64 0])
  o4 : ∃ (ver : Nat) (vo : AVal) (cs : List (List AVal)), hp.objs.get b4 = some (ver, .cells false 24 [vo, .int .i64 root']) ∧ Built hp h0.next 60 5 vo ns.length cs.flatten ∧ cs.length = ns.length ∧
    ∀ (i : Nat) c n, cs[i]? = some c → ns[i]? = some n → ∃ av lv, c = [.int .i64 n.kind, .str n.name, av, lv, .bool n.isOpen] ∧ Built hp h0.next 3 1 av n.args.length (n.args.map (AVal.int .i64)) ∧ StrsAt h0 lv n.labels
  bcl : Built hp h0.next 3 1 cv cl.length (cl.map (AVal.int .i64))
  low : h0.next ≤ b1 ∧ h0.next ≤ b2 ∧ h0.next ≤ b4 ∧ b1 ≠ b4 ∧ b2 ≠ b4
theorem LInv.other {h0 : AHeap} {b1 b2 b4 : Nat} {nv cv : AVal} {root root' : Int} {cl : List Int} {ns : List Node} {hp hq : AHeap} (I : LInv h0 b1 b2 b4 nv cv root root' cl ns hp) (g : Grow hp hq) : LInv h0 b1 b2 b4 nv cv root root' cl ns hq := by
  obtain ⟨v1, k1⟩ := I.o1
  obtain ⟨v2, k2⟩ := I.o2
  obtain ⟨v4, vo, cs, k4, kB, kl, kn⟩ := I.o4
  exact ⟨I.grow.trans g, ⟨v1, g.keep _ _ k1⟩, ⟨v2, g.keep _ _ k2⟩, ⟨v4, vo, cs, g.keep _ _ k4, kB.grow g, kl, fun i c n hc hn => by
    obtain ⟨av, lv, q1, q2, q3⟩ := kn i c n hc hn
    exact ⟨av, lv, q1, q2.grow g, q3⟩⟩, I.bcl.grow g, I.low⟩
/-- The graph that is made. -/
theorem LInv.graph {h0 : AHeap} {b1 b2 b4 : Nat} {nv cv : AVal} {root root' : Int} {cl : List Int} {ns : List Node} {hp : AHeap} (I : LInv h0 b1 b2 b4 nv cv root root' cl ns hp) : ∃ ver vo, hp.objs.get b4 = some (ver, .cells false 24 [vo, .int .i64 root']) ∧ NodesAt hp vo ns := by
  obtain ⟨v4, vo, cs, k4, kB, kl, kn⟩ := I.o4
  have h5 : ∀ c ∈ cs, c.length = 5 := by
    intro c hc
    obtain ⟨i, hi, rfl⟩ := List.mem_iff_getElem.1 hc
    obtain ⟨av, lv, q1, _⟩ := kn i _ _ (List.getElem?_eq_getElem hi) (List.getElem?_eq_getElem (by omega))
    rw [q1]; rfl
  refine ⟨v4, vo, k4, cs, kB.sl (by decide) rfl h5 kl, kl, fun i n c hn hc => ?_⟩
  obtain ⟨av, lv, q1, q2, q3⟩ := kn i c n hc hn
  exact ⟨av, lv, q1, built_ints q2, q3.mono I.grow⟩
section
variable {fns : FuncId → Option AFunc} {summ : FuncId → List AVal → AHeap → Option (D (AVal × AHeap))}
variable (H : Has fns summ)
include H
theorem leftG_map (ns : List Node) (cl : List Int) : ∀ i, leftG [] (ns.map (mapN cl)) i = leftG [] ns i := by
  induction ns with
  | nil => intro i; rfl
  | cons n r ih => intro i; simp only [List.map_cons, leftG, ih, mapN, List.length_map]
omit H in
theorem GTi.map {g : Graph} (hg : GTi g) (cl : List Int) (root : Int) : GTi ⟨g.nodes.map (mapN cl), root⟩ := by
  have hlf : leftG [] (g.nodes.map (mapN cl)) 0 = leftG [] g.nodes 0 := by
    have : ∀ (ns : List Node) (i : Nat), leftG [] (ns.map (mapN cl)) i = leftG [] ns i := by
      intro ns
      induction ns with
      | nil => intro i; rfl
      | cons n r ih => intro i; simp only [List.map_cons, leftG, ih, mapN, List.length_map]
    exact this _ _
  refine ⟨⟨⟨by simpa using hg.nodes, fun n hn => ?_⟩, by simpa [hlf] using hg.total, fun n hn => ?_⟩, by simpa [hlf] using hg.tiny⟩
  · obtain ⟨m, hm, rfl⟩ := List.mem_map.1 hn
    have := hg.all m hm
    exact ⟨by simpa [mapN] using this.args, this.labels, this.texts⟩
  · obtain ⟨m, hm, rfl⟩ := List.mem_map.1 hn
    exact hg.labs m hm
theorem Least_ok (g : Graph) (hg : GTi g) (hok : checkF g = 0) (v : AVal) (h : AHeap) (hw : WF h) (hv : GraphAt h v g) :
    Cl fns summ 27 [v] h fun r h' => OwnG h' h.next r (leastF g) ∧ Grow h h' := by
  obtain ⟨nv, rfl, hN⟩ := hv
  have hlen := hN.len
  have hns := check_ns hok
  have htiny := hg.tiny
  have hcls := (classes_ok hok).2
  have hroot := check_root hok
  have hleast : leastF g = trimF ⟨g.nodes.map (mapN (classesF g)), clAt (classesF g) g.root⟩ := by rw [leastF, if_pos hok]
  have hcl0 := hcls.len
  refine H.go (fn := F_Least) rfl (by decide) rfl rfl ?_
  unfold F_Least
  dsimp only
  refine cd_seq (cd_ops ?_)
  refine st_box (by exact e1) (by exact cc) hw ?_
  rintro b1 h1 hb1 g1 o1
  refine st_alloc g1.wf ?_
  rintro b2 h2 hb2 g2 o2
  have hne12 := g1.wf.lt o1
  replace o1 := g2.keep _ _ o1
  have g02 := g1.trans g2
  have hpart : partA (some 2) [nv, .int .i64 g.root] 0 = some (.agg [nv, .int .i64 g.root]) := rfl
  repeat with_reducible first | refine nxt_normal ?_ | refine st_nil ?_ | refine cd_seq ?_ | refine cd_ops ?_ | (apply st_q; exact q1)
  refine st_call (by exact s1) ((Classes_ok H g hg hok _ h2 g02.wf ⟨nv, rfl, hN.mono g02⟩).mono ?_)
  rintro cv h3 ⟨B3, g3⟩
  replace o1 := g3.keep _ _ o1
  replace o2 := g3.keep _ _ o2
  have g03 := g02.trans g3
  have hcvl := B3.len
  have heq : eqA .slice cv (.slice none 0) = some false := by
    rcases B3 with ⟨_, hh, _⟩ | ⟨rfl, hh, _⟩ | ⟨b, vs, ver, _, rfl, _⟩
    · have := hroot.1; have := hroot.2.1; omega
    · rfl
    · rfl
  replace hok := Hid.mk hok
  repeat with_reducible first | refine nxt_normal ?_ | refine st_nil ?_ | refine cd_seq ?_ | refine cd_ops ?_ | (apply st_q; exact q1)
  refine st_q (v := .bool false) (b := none) (by simp only [qA_eql, ev_put, ev_start, ev_val, Nat.reduceEqDiff, if_true, if_false, heq]; rfl) ?_
  obtain ⟨kr, hkr⟩ : ∃ k : Nat, g.root = (k : Int) := ⟨g.root.toNat, by have := hroot.1; omega⟩
  have hkN : kr < g.nodes.length := by have := hroot.2.1; omega
  have hcr : (classesF g)[kr]? = some (clAt (classesF g) g.root) := by rw [hkr, clAt_nat, List.getD, List.getElem?_eq_getElem (by rw [hcl0]; exact hkN)]; rfl
  have B3' : Built h3 h2.next 3 1 cv (classesF g).length ((classesF g).map (AVal.int .i64)) := by rw [hcl0]; exact B3
  obtain ⟨bc, oc, verc, roc, ec, vsc, hixc, hgc, hvc⟩ := (built_ints B3').at hcr
  have hroot' := Hid.mk hroot
  clear hroot heq
  generalize hrt : clAt (classesF g) g.root = root' at *
  have o1' := o1
  rw [hkr] at o1'
  clear o1 hpart
  repeat with_reducible first | refine nxt_normal ?_ | refine st_nil ?_ | refine cd_seq ?_ | refine cd_ops ?_ | refine cd_skip ?_ | (apply st_q; exact q1) | (apply cd_condF; exact e1)
  refine st_alloc g3.wf ?_
  rintro b4 h4 (hb4 : h3.next ≤ b4) (g4 : Grow h3 h4) o4
  refine st_store (by exact e1) (by exact e1) (cs := [.slice none 0, .int .i64 root']) rfl rfl g4.wf o4 (by simp) rfl ?_
  rintro v5 h5 p5 o5
  simp only [List.take_zero, List.nil_append, List.length_cons, List.length_nil, List.drop_succ_cons, List.drop_zero, List.append_nil, Nat.zero_add, Nat.reduceAdd, List.drop_nil, List.cons_append] at o5
  have g5 : Grow h3 h5 := p5.grow h3 g3.wf g4 hb4
  have n1 := g1.next
  have n2 := g02.next
  have n3 := g03.next
  have lt1 := g3.wf.lt o1'
  have lt2 := g3.wf.lt o2
  have I0 : LInv h b1 b2 b4 nv cv g.root root' (classesF g) [] h5 :=
    ⟨g03.trans g5, ⟨_, by rw [hkr]; exact g5.keep _ _ o1'⟩, ⟨_, g5.keep _ _ o2⟩, ⟨_, _, [], o5, .inl ⟨rfl, rfl, rfl⟩, rfl, fun i c n hc => by simp at hc⟩, (built_base B3' n2).grow g5, by omega, by omega, by omega, by omega, by omega⟩
  have o1'' := g5.keep _ _ o1'
  clear o1' o2 o4 o5 p5 g1 g2 g3 g4 g02 g03 B3 B3' hixc hgc hvc hcr hne12 lt1 lt2 n1 n2 n3 hb1 hb2 hb4
  repeat with_reducible first | refine nxt_normal ?_ | refine st_nil ?_ | refine cd_seq ?_ | refine cd_ops ?_ | (apply st_q; exact q1)
  refine cd_count (N := g.nodes.length) (by omega) (fun j a hp => LInv h b1 b2 b4 nv cv g.root root' (classesF g) ((g.nodes.take j).map (mapN (classesF g))) hp ∧ a.defers = [] ∧ ev a (.tmp 2) = some (.ptr (some (b2, 0))) ∧ ev a (.tmp 3) = some cv ∧ ev a (.tmp 4) = some (.ptr (some (b4, 0))) ∧ ev a (.tmp 22) = some nv)
    (by rintro j a hp t w (rfl | rfl | rfl) ⟨k1, k2, k3, k4, k5, k6⟩ <;> exact ⟨k1, by rw [defers_put]; exact k2, by exact e1, by exact e1, by exact e1, by exact e1⟩) (by decide) ?_ ?_ ⟨by simpa using I0, by exact n1, by exact e1, by exact e1, by exact e1, by exact e1⟩ (by exact e1) (by exact e1)
  · clear I0 o1'' g5
    rintro j a hp hj ⟨I, hd, h2', h3', h4', h22⟩ hi hn
    have hmem : g.nodes[j] ∈ g.nodes := List.getElem_mem hj
    have hl1 := leftG_one g.nodes 0 _ hmem
    obtain ⟨bn, on, vern, ron, en, vsn, av, lv, hixn, hgn0, hvl, hv5, _, _, _, _, _, ha0, hls⟩ := hN.at (List.getElem?_eq_getElem hj)
    have hgn := I.grow.keep _ _ hgn0
    have ha := ha0.mono I.grow
    have hl := hls.mono I.grow
    clear hgn0 ha0
    have hpart5 : partA (some 5) vsn on = some (nodeV g.nodes[j] av lv) := by rw [partA, if_pos hvl, hv5]; rfl
    have hla := ha.len
    have hll := hl.len
    repeat with_reducible first | refine cd_seq ?_ | refine cd_ops ?_ | refine cd_blockS ?_ | (apply st_q; exact q1)
    refine st_alloc I.grow.wf ?_
    rintro b6 h6 hb6 g6 o6
    refine st_store (by exact e1) (by exact e1) (cs := [.int .i64 g.nodes[j].kind, .str g.nodes[j].name, av, lv, .bool g.nodes[j].isOpen]) rfl rfl g6.wf o6 (by simp) (ones_node hla hll) ?_
    rintro v7 h7 p7 o7
    simp only [List.take_zero, List.nil_append, List.length_cons, List.length_nil, List.drop_succ_cons, List.drop_zero, List.append_nil, Nat.zero_add, Nat.reduceAdd, List.drop_nil, List.cons_append] at o7
    have g7 : Grow hp h7 := p7.grow hp I.grow.wf g6 hb6
    have ha7 := ha.mono g7
    have hroom := roomOK H (b := 8) (by decide) (k := g.nodes[j].args.length) (le31 (by omega))
    have lt6 := g7.wf.lt o7
    clear o6 p7 g6 hixn hgn hpart5 hv5 hvl ha
    repeat with_reducible first | refine nxt_normal ?_ | refine st_nil ?_ | refine cd_seq ?_ | refine cd_ops ?_ | (apply st_q; exact q1)
    refine st_mkslice0 (by exact e1) (by exact e1) (le30 (by omega)) hroom g7.wf ?_
    rintro va h8 B8 f8 g8
    have o78 := g8.keep _ _ o7
    have g78 := g7.trans g8
    have n7 := g7.next
    repeat with_reducible first | refine nxt_normal ?_ | refine st_nil ?_ | refine cd_seq ?_ | refine cd_ops ?_ | (apply st_q; exact q1)
    refine cd_post (fun a' hq => ∃ vx, Grow h7 hq ∧ Built hq h7.next 3 1 vx g.nodes[j].args.length (((mapN (classesF g) g.nodes[j]).args).map (AVal.int .i64)) ∧ a'.defers = [] ∧ ev a' (.tmp 2) = some (.ptr (some (b2, 0))) ∧ ev a' (.tmp 3) = some cv ∧ ev a' (.tmp 4) = some (.ptr (some (b4, 0))) ∧ ev a' (.tmp 22) = some nv ∧ ev a' (.tmp 6) = some (.ptr (some (b6, 0))) ∧ ev a' (.tmp 7) = some vx ∧ ev a' (.tmp 24) = some (.int .i64 (j : Nat)) ∧ ev a' (.tmp 23) = some (.int .i64 (g.nodes.length : Nat))) ?_ ?_
    · refine cd_count (N := g.nodes[j].args.length) (by omega) (fun i a' hq => ∃ vx, Grow h7 hq ∧ Built hq h7.next 3 1 vx i (((g.nodes[j].args.take i).map (clAt (classesF g))).map (AVal.int .i64)) ∧ a'.defers = [] ∧ ev a' (.tmp 2) = some (.ptr (some (b2, 0))) ∧ ev a' (.tmp 3) = some cv ∧ ev a' (.tmp 4) = some (.ptr (some (b4, 0))) ∧ ev a' (.tmp 22) = some nv ∧ ev a' (.tmp 6) = some (.ptr (some (b6, 0))) ∧ ev a' (.tmp 7) = some vx ∧ ev a' (.tmp 24) = some (.int .i64 (j : Nat)) ∧ ev a' (.tmp 23) = some (.int .i64 (g.nodes.length : Nat)) ∧ ev a' (.tmp 33) = some av)
        (by rintro i a' hq t w (rfl | rfl | rfl) ⟨vx, m1, m2, m3, m4, m5, m6, m7, m8, m9, m10, m11, m12⟩ <;> exact ⟨vx, m1, m2, by rw [defers_put]; exact m3, by exact e1, by exact e1, by exact e1, by exact e1, by exact e1, by exact e1, by exact e1, by exact e1, by exact e1⟩) (by decide) ?_ ?_
        ⟨va, g8, by simpa using B8, by exact n1, by exact e1, by exact e1, by exact e1, by exact e1, by exact e1, by exact e1, by exact e1, by exact e1, by exact e1⟩ (by exact e1) (by exact e1)
      · clear hd h2' h3' h4' h22 hi hn B8 f8 g8 o7 g78
        rintro i a' hq hil ⟨vx, m1, m2, hd, h2', h3', h4', h22, h6', h7', h24, h23, h33⟩ hi hn
        obtain ⟨bb, ob, verb, rb, eb, vsb, hix, hget, hvo⟩ := (ha7.mono m1).at (List.getElem?_eq_getElem hil)
        obtain ⟨a0, a1⟩ := may_args (hns.2 _ hmem) _ (List.getElem_mem hil)
        obtain ⟨ka, hka⟩ : ∃ k : Nat, g.nodes[j].args[i] = (k : Int) := ⟨g.nodes[j].args[i].toNat, by omega⟩
        have hkl : ka < g.nodes.length := by omega
        have hca : (classesF g)[ka]? = some (clAt (classesF g) (ka : Int)) := by rw [clAt_nat, List.getD, List.getElem?_eq_getElem (by omega)]; rfl
        obtain ⟨bc, oc, verc, roc, ec, vsc, hixc, hgc, hvc⟩ := (built_ints (((I.bcl.grow g7).grow m1))).at hca
        have hroomi := roomOK H (b := 8) (by decide) (k := i + 1) (le31 (by omega))
        have hstep : (((g.nodes[j].args.take (i + 1)).map (clAt (classesF g))).map (AVal.int .i64)) = (((g.nodes[j].args.take i).map (clAt (classesF g))).map (AVal.int .i64)) ++ [AVal.int .i64 (clAt (classesF g) (ka : Int))] := by
          rw [List.take_succ_eq_append_getElem hil, List.map_append, List.map_append, hka]; rfl
        rw [hka] at hvo
        clear hka a0 a1 hca
        repeat with_reducible first | refine nxt_normal ?_ | refine st_nil ?_ | refine cd_seq ?_ | refine cd_ops ?_ | refine cd_blockS ?_ | (apply st_q; exact q1)
        refine st_bslice1 (by exact e1) (by exact cc) rfl rfl m1.wf ?_
        rintro bx h9 hbx g9 ox
        refine st_append1 (by exact e1) (by exact e1) (m2.grow g9) ox rfl rfl hroomi g9.wf (Nat.le_trans m1.next g9.next) ?_
        rintro vx' h10 B10 f10 w10 n10 gr10 kp10
        rw [← hstep] at B10
        have gq := gr10 h7 g7.wf (m1.trans g9) (Nat.le_refl _)
        clear hstep hix hget hvo hixc hgc hvc ox kp10 f10 gr10
        repeat with_reducible first | refine nxt_normal ?_ | refine blk_normal ?_ | refine st_nil ?_ | (apply st_q; exact q1)
        exact ⟨⟨vx', gq, B10, by exact n1, by exact e1, by exact e1, by exact e1, by exact e1, by exact e1, by exact e1, by exact e1, by exact e1, by exact e1⟩, by exact e1, by exact e1⟩
      · rintro a' hq ⟨vx, m1, m2, m3, m4, m5, m6, m7, m8, m9, m10, m11, _⟩
        rw [List.take_length] at m2
        exact ⟨vx, m1, m2, m3, m4, m5, m6, m7, m8, m9, m10, m11⟩
    · clear hd h2' h3' h4' h22 hi hn B8 f8
      rintro a' hq ⟨vx, gq, hB, hd, h2', h3', h4', h22, h6', h7', hi, hn⟩
      have hvx := hB.len
      have o7q := gq.keep _ _ o7
      have gp := g7.trans gq
      have Iq := I.other gp
      repeat with_reducible first | refine nxt_normal ?_ | refine cd_seq ?_ | refine cd_ops ?_ | (apply st_q; exact q1)
      refine st_store (by exact e1) (by exact e1) (cells_of_len hvx) rfl gq.wf o7q (by simp) (by simp only [List.all_cons, List.all_nil, one_of_len hvx, Bool.and_true]) ?_
      rintro v9 h9 p9 o9
      simp only [List.take_succ_cons, List.take_zero, List.nil_append, List.length_cons, List.length_nil, List.drop_succ_cons, List.drop_zero, List.append_nil, Nat.zero_add, Nat.reduceAdd, List.drop_nil, List.cons_append] at o9
      have g9 : Grow hp h9 := p9.grow hp I.grow.wf gp (by omega)
      have B9 := built_but hB p9 o7q (fun vs hh => by cases hh)
      have I9 := I.other g9
      obtain ⟨v4, vo, cs, o4, kB, kl, kn⟩ := I9.o4
      have nl : ((g.nodes.take j).map (mapN (classesF g))).length = j := by simp; omega
      rw [nl] at kB kl
      clear o7q p9
      repeat with_reducible first | refine nxt_normal ?_ | refine st_nil ?_ | refine cd_ops ?_ | (apply st_q; exact q1)
      refine st_bslice1 (by exact e1) (cs := [.int .i64 g.nodes[j].kind, .str g.nodes[j].name, vx, lv, .bool g.nodes[j].isOpen]) rfl rfl rfl g9.wf ?_
      rintro bx h12 hbx g12 ox
      have kB' := kB.grow g12
      refine st_append1 (by exact e1) (by exact e1) kB' ox rfl (ones_node hvx hll) (roomOK H (by decide) (le31 (by omega))) g12.wf (by have := I.grow.next; have := g9.next; have := g12.next; omega) ?_
      rintro vo' h13 B13 f13 w13 n13 gr13 kp13
      have o4' := kp13 _ _ (g12.keep _ _ o4) (built_ne kB' (g12.keep _ _ o4) fun vs hh => by cases hh)
      have g13 : Grow h h13 := gr13 h hw (I9.grow.trans g12) (Nat.le_refl _)
      repeat with_reducible (apply st_q; exact q1)
      refine st_store (by exact e1) (by exact e1) (cells_of_len B13.len) rfl w13 o4' (by simp) (by simp only [List.all_cons, List.all_nil, one_of_len B13.len, Bool.and_true]) ?_
      rintro v14 h14 p14 o14
      simp only [List.take_succ_cons, List.take_zero, List.nil_append, List.length_cons, List.length_nil, List.drop_succ_cons, List.drop_zero, List.append_nil, Nat.zero_add, Nat.reduceAdd, List.drop_nil, List.cons_append] at o14
      have hstay : ∀ c p, h9.objs.get c = some p → (∀ vs, p.2 ≠ .cells false 60 vs) → c ≠ b4 → h14.objs.get c = some p := fun c p hc hp hne => p14.keep c hne _ (kp13 _ _ (g12.keep _ _ hc) (built_ne kB' (g12.keep _ _ hc) hp))
      have hown : ∀ {w : AVal} {k base : Nat} {cells : List AVal}, Built h9 base 3 1 w k cells → Built h14 base 3 1 w k cells := fun kk => built_stay kk fun b p hb ⟨vs, hp⟩ _ => hstay b p hb (fun vs' hh => by rw [hp] at hh; cases hh) (by
        rintro rfl
        rw [o4] at hb
        simp only [Option.some.injEq] at hb
        rw [← hb] at hp; cases hp)
      have hns' : (g.nodes.take (j + 1)).map (mapN (classesF g)) = (g.nodes.take j).map (mapN (classesF g)) ++ [mapN (classesF g) g.nodes[j]] := by
        rw [List.take_succ_eq_append_getElem hj, List.map_append]; rfl
      have n14 := p14.next
      have I14 : LInv h b1 b2 b4 nv cv g.root root' (classesF g) ((g.nodes.take (j + 1)).map (mapN (classesF g))) h14 := by
        obtain ⟨u1, k1⟩ := I9.o1
        obtain ⟨u2, k2⟩ := I9.o2
        have hlow := I9.low
        refine ⟨p14.grow h hw g13 hlow.2.2.1, ⟨_, hstay _ _ k1 (fun vs hh => by cases hh) hlow.2.2.2.1⟩, ⟨_, hstay _ _ k2 (fun vs hh => by cases hh) hlow.2.2.2.2⟩, ⟨_, vo', cs ++ [[.int .i64 g.nodes[j].kind, .str g.nodes[j].name, vx, lv, .bool g.nodes[j].isOpen]], o14, ?_, ?_, ?_⟩, hown I9.bcl, hlow⟩
        · have : ((g.nodes.take (j + 1)).map (mapN (classesF g))).length = j + 1 := by simp; omega
          rw [this, List.flatten_append]
          exact built_but (by simpa using B13) p14 o4' (fun vs hh => by cases hh)
        · simp [kl]; omega
        · intro i c n hcc hnn
          rw [hns'] at hnn
          rcases Nat.lt_or_ge i j with hij | hij
          · rw [List.getElem?_append_left (by omega)] at hcc
            rw [List.getElem?_append_left (by omega)] at hnn
            obtain ⟨av', lv', q1, q2, q3⟩ := kn i c n hcc hnn
            exact ⟨av', lv', q1, hown q2, q3⟩
          · rw [List.getElem?_append_right (by omega), kl] at hcc
            rw [List.getElem?_append_right (by omega), nl] at hnn
            obtain rfl : i = j := by
              have := (List.getElem?_eq_some_iff.1 hcc).1
              simp only [List.length_cons, List.length_nil] at this
              omega
            rw [Nat.sub_self, List.getElem?_cons_zero, Option.some.injEq] at hcc hnn
            subst hcc; subst hnn
            have hl2 : (mapN (classesF g) g.nodes[i]).args.length = g.nodes[i].args.length := by simp [mapN]
            refine ⟨vx, lv, rfl, ?_, hls⟩
            rw [hl2]
            exact built_base (hown B9) (by have := I.grow.next; omega)
      clear o9 o14 p14 o4 o4' kp13 gr13 f13 B13 hstay ox B9 kn kB kB'
      repeat with_reducible first | refine nxt_normal ?_ | refine blk_normal ?_ | refine st_nil ?_
      exact ⟨⟨I14, by exact n1, by exact e1, by exact e1, by exact e1, by exact e1⟩, by exact e1, by exact e1⟩
  · rintro a hp ⟨I, hd, h2', h3', h4', h22⟩
    rw [List.take_length] at I
    obtain ⟨v4, vo, o4, hNo⟩ := I.graph
    have hpart4 : partA (some 2) [vo, .int .i64 root'] 0 = some (.agg [vo, .int .i64 root']) := rfl
    repeat with_reducible first | refine nxt_normal ?_ | refine cd_seq ?_ | refine cd_ops ?_ | (apply st_q; exact q1)
    refine st_call (by exact s1) ((Trim_ok H ⟨g.nodes.map (mapN (classesF g)), root'⟩ (GTi.map hg _ _).toGSm _ hp I.grow.wf ⟨vo, rfl, hNo⟩).mono ?_)
    rintro tv h5 ⟨hT, g5⟩
    obtain ⟨tn, cs, rfl, kB, kl, kn⟩ := hT
    obtain ⟨v2, o2⟩ := I.o2
    have l2 := I.grow.wf.lt o2
    replace o2 := g5.keep _ _ o2
    have hT1 := one_of_len kB.len
    skip
    refine st_store (by exact e1) (by exact e1) (cs := [tn, .int .i64 (trimF ⟨g.nodes.map (mapN (classesF g)), root'⟩).root]) rfl rfl g5.wf o2 (by simp) (by simp only [List.all_cons, List.all_nil, hT1, Bool.and_true]; rfl) ?_
    rintro v6 h6 p6 o6
    simp only [List.take_succ_cons, List.take_zero, List.nil_append, List.length_cons, List.length_nil, List.drop_succ_cons, List.drop_zero, List.append_nil, Nat.zero_add, Nat.reduceAdd, List.drop_nil, List.cons_append] at o6
    have g6 : Grow h h6 := p6.grow h hw (I.grow.trans g5) I.low.2.1
    have hO : OwnG h5 hp.next (.agg [tn, .int .i64 (trimF ⟨g.nodes.map (mapN (classesF g)), root'⟩).root]) (trimF ⟨g.nodes.map (mapN (classesF g)), root'⟩) := ⟨tn, cs, rfl, kB, kl, kn⟩
    have hO6 := (hO.stay (h' := h6) fun c p hc hp _ => p6.keep c (by omega) _ hp).base I.grow.next
    repeat with_reducible first | refine nxt_normal ?_ | refine st_nil ?_ | refine cd_ret ?_
    refine fin_ret (v := .agg [tn, .int .i64 (trimF ⟨g.nodes.map (mapN (classesF g)), root'⟩).root]) (by exact n1) ?_ ⟨by rw [hleast]; exact hO6, g6⟩
    have hp2 : partA (some 2) [tn, .int .i64 (trimF ⟨g.nodes.map (mapN (classesF g)), root'⟩).root] 0 = some (.agg [tn, .int .i64 (trimF ⟨g.nodes.map (mapN (classesF g)), root'⟩).root]) := rfl
    simp only [resultsA, mapO, resultA, tmps_put, tmps_ev, tmps_none, ev_put, ev_none, Nat.reduceEqDiff, if_false, h2', o6, hp2]
theorem LeastNil_ok (g : Graph) (hg : GSm g) (hok : checkF g ≠ 0) (v : AVal) (h : AHeap) (hw : WF h) (hv : GraphAt h v g) :
    Cl fns summ 27 [v] h fun r h' => OwnG h' h.next r (leastF g) ∧ Grow h h' := by
  have hleast : leastF g = ⟨[], 0⟩ := by rw [leastF, if_neg hok]
  obtain ⟨nv, rfl, hN⟩ := hv
  refine H.go (fn := F_Least) rfl (by decide) rfl rfl ?_
  unfold F_Least
  dsimp only
  refine cd_seq (cd_ops ?_)
  refine st_box (by exact e1) (by exact cc) hw ?_
  rintro b1 h1 hb1 g1 o1
  refine st_alloc g1.wf ?_
  rintro b2 h2 hb2 g2 o2
  replace o1 := g2.keep _ _ o1
  have g02 := g1.trans g2
  have hpart : partA (some 2) [nv, .int .i64 g.root] 0 = some (.agg [nv, .int .i64 g.root]) := rfl
  repeat with_reducible first | refine nxt_normal ?_ | refine st_nil ?_ | refine cd_seq ?_ | refine cd_ops ?_ | (apply st_q; exact q1)
  refine st_call (by exact s1) ((ClassesNil_ok H g hg hok _ h2 g02.wf ⟨nv, rfl, hN.mono g02⟩).mono ?_)
  rintro _ h3 ⟨rfl, g3⟩
  replace o2 := g3.keep _ _ o2
  have g03 := g02.trans g3
  replace hok := Hid.mk hok
  repeat with_reducible first | refine nxt_normal ?_ | refine st_nil ?_ | refine cd_seq ?_ | refine cd_ops ?_ | (apply st_q; exact q1) | (apply cd_condT; exact e1)
  refine st_store (by exact e1) (by exact e1) (cs := [.slice none 0, .int .i64 0]) rfl rfl g3.wf o2 (by simp) rfl ?_
  rintro v6 h6 p6 o6
  simp only [List.take_succ_cons, List.take_zero, List.nil_append, List.length_cons, List.length_nil, List.drop_succ_cons, List.drop_zero, List.append_nil, Nat.zero_add, Nat.reduceAdd, List.drop_nil, List.cons_append] at o6
  have nx1 := g1.next
  have g6 : Grow h h6 := p6.grow h hw g03 (by omega)
  have hp2 : partA (some 2) [AVal.slice none 0, .int .i64 0] 0 = some (.agg [.slice none 0, .int .i64 0]) := rfl
  repeat with_reducible first | refine nxt_normal ?_ | refine nxt_ret ?_ | refine st_nil ?_ | refine cd_ret ?_
  refine fin_ret (v := .agg [.slice none 0, .int .i64 0]) (by exact n1) ?_ ⟨by rw [hleast]; exact ⟨.slice none 0, [], rfl, .inl ⟨rfl, rfl, rfl⟩, rfl, fun i c n hc => by simp at hc⟩, g6⟩
  simp only [resultsA, mapO, resultA, tmps_put, tmps_ev, tmps_none, ev_put, ev_none, ev_start, Nat.reduceEqDiff, if_false, if_true, o6, hp2]
end
end Go.Ab.S
end
section
/-
  A name means a type from now on.
-/
namespace Go.Ab.S
open Go.Ab
set_option maxHeartbeats 4000000
def withF (s : List Nat) (g : Graph) : Int := if isNameF s then checkF g else 2
section
variable {fns : FuncId → Option AFunc} {summ : FuncId → List AVal → AHeap → Option (D (AVal × AHeap))}
variable (H : Has fns summ)
include H
theorem WithValue_ok (L : List Mean) (bv : Nat) (s : List Nat) (hs : s.length < 2 ^ 60) (g : Graph) (hg : GTi g) (u : AVal) (h : AHeap) (hw : WF h) (hE : EnvAt h (.ptr (some (bv, 0))) L) (hu : GraphAt h u g) :
    Cl fns summ 10 [.ptr (some (bv, 0)), .str s, u] h fun r h' => (∃ z, r = .tuple [z, .int .i64 (withF s g)] ∧ (withF s g ≠ 0 → z = .ptr none) ∧ (withF s g = 0 → ∃ bz, z = .ptr (some (bz, 0)) ∧ EnvAt h' z (⟨s, some (leastF g), none⟩ :: L))) ∧ Grow h h' := by
  obtain ⟨nv, rfl, hN⟩ := hu
  have tg := Hid.mk hg
  clear hg
  refine H.go (fn := F_WithValue) rfl (by decide) rfl rfl ?_
  unfold F_WithValue
  dsimp only
  refine cd_seq (cd_ops ?_)
  refine st_box (by exact e1) (by exact cc) hw ?_
  rintro b5 h5 hb5 g5 o5
  have l5 := g5.wf.lt o5
  have hvp : eqA .ptr (.ptr (some (bv, 0))) (.ptr none) = some false := rfl
  have hx0 : (false ^^ false) = false := rfl
  have hpart : partA (some 2) [nv, .int .i64 g.root] 0 = some (.agg [nv, .int .i64 g.root]) := rfl
  repeat with_reducible first | refine nxt_normal ?_ | refine st_nil ?_ | refine cd_seq ?_ | refine cd_ops ?_ | refine cd_blockS ?_ | (apply st_q; exact q1) | (apply cd_condF; exact e1)
  refine st_call (by exact s1) ((IsName_ok H s hs h5).mono ?_)
  rintro _ h5' ⟨rfl, hq5⟩
  replace hq5 := hq5.symm
  subst hq5
  cases hn : isNameF s
  · have hz : withF s g = 2 := by rw [withF, hn]; rfl
    replace hz := Hid.mk hz
    repeat' with_reducible first | refine nxt_normal ?_ | refine nxt_ret ?_ | refine blk_ret ?_ | refine st_nil ?_ | refine cd_seq ?_ | refine cd_ops ?_ | refine cd_ret ?_ | (apply st_q; exact q1) | (apply cd_condT; exact e1) | (apply fin_ret; exact n1; exact r1)
    refine ⟨⟨_, by rw [hz.out], fun _ => rfl, fun hh => ?_⟩, g5⟩
    rw [hz.out] at hh; cases hh
  · have hz : withF s g = checkF g := by rw [withF, hn]; rfl
    replace hz := Hid.mk hz
    repeat with_reducible first | refine nxt_normal ?_ | refine blk_normal ?_ | refine st_nil ?_ | refine cd_seq ?_ | refine cd_ops ?_ | refine cd_skip ?_ | (apply st_q; exact q1) | (apply cd_condF; exact e1)
    refine st_call (by exact s1) ((Check_ok H g tg.out.toGraphSm _ h5 g5.wf ⟨nv, rfl, hN.mono g5⟩).mono ?_)
    rintro _ h6 ⟨rfl, g6⟩
    have o56 := g6.keep _ _ o5
    have g06 := g5.trans g6
    cases hck : (checkF g != 0)
    rotate_left
    · have hne : checkF g ≠ 0 := by simpa using hck
      replace hne := Hid.mk hne
      repeat' with_reducible first | refine nxt_normal ?_ | refine nxt_ret ?_ | refine st_nil ?_ | refine cd_seq ?_ | refine cd_ops ?_ | refine cd_ret ?_ | (apply st_q; exact q1) | (apply cd_condT; exact e1) | (apply fin_ret; exact n1; exact r1)
      exact ⟨⟨_, by rw [hz.out], fun _ => rfl, fun hh => absurd (hz.out ▸ hh) hne.out⟩, g06⟩
    · have hc : checkF g = 0 := by simpa using hck
      replace hc := Hid.mk hc
      repeat with_reducible first | refine nxt_normal ?_ | refine st_nil ?_ | refine cd_seq ?_ | refine cd_ops ?_ | refine cd_skip ?_ | (apply st_q; exact q1) | (apply cd_condF; exact e1)
      refine st_call (by exact s1) ((Least_ok H g tg.out hc.out _ h6 g6.wf ⟨nv, rfl, hN.mono g06⟩).mono ?_)
      rintro lv h7 ⟨hO, g7⟩
      have hO' := Hid.mk hO
      obtain ⟨ln, cs, rfl, kB, kl, kn⟩ := hO
      have hln := one_of_len kB.len
      have o57 := g7.keep _ _ o56
      have n6 := g6.next
      clear kB kl kn o5 o56
      skip
      refine st_store (by exact e1) (by exact e1) (cs := [ln, .int .i64 (leastF g).root]) rfl rfl g7.wf o57 (by simp) (by rw [List.all_cons, List.all_cons, hln]; rfl) ?_
      rintro v8 h8 p8 o8
      simp only [List.take_zero, List.nil_append, List.length_cons, List.length_nil, List.drop_succ_cons, List.drop_zero, List.append_nil, Nat.zero_add, Nat.reduceAdd, List.drop_nil, List.cons_append] at o8
      have g08 := p8.grow h hw (g06.trans g7) hb5
      have hO8 := (hO'.out.stay fun c p hcb hp _ => p8.keep c (by omega) _ hp).graph
      repeat with_reducible first | refine nxt_normal ?_ | refine st_nil ?_ | refine cd_seq ?_ | refine cd_ops ?_ | (apply st_q; exact q1)
      refine st_q (v := .agg [.str s, .ptr (some (b5, 0)), .ptr none, .ptr (some (bv, 0))]) (b := none) (by rw [qA_build]; simp only [fillA, ev_put, ev_start, if_true, if_false, Nat.reduceEqDiff, cellsA, List.length_cons, List.length_nil]; rfl) ?_
      refine st_box (by exact e1) (by exact cc) g08.wf ?_
      rintro bz h9 hbz g9 o9
      have hE9 := hE.mono (g08.trans g9)
      have o59 := g9.keep _ _ o8
      obtain ⟨ln', hq, hLN⟩ := hO8
      cases hq
      have hLN9 := hLN.mono g9
      have hz0 : withF s g = 0 := by rw [hz.out, hc.out]
      replace hz0 := Hid.mk hz0
      clear o57 o8 hLN hO'
      repeat' with_reducible first | refine nxt_normal ?_ | refine st_nil ?_ | refine cd_ret ?_ | (apply st_q; exact q1) | (apply fin_ret; exact n1; exact r1)
      refine ⟨⟨_, by rw [hz0.out], fun hh => absurd hz0.out hh, fun _ => ⟨bz, rfl, bz, _, _, _, _, _, _, rfl, o9, ⟨b5, _, _, _, ln, rfl, o59, hLN9⟩, rfl, hE9⟩⟩, g08.trans g9⟩
end
end Go.Ab.S
end
section
/-
  Going through a map, in whatever order; what is there from the start.
-/
namespace Go.Ab.S
open Go.Ab
set_option maxHeartbeats 4000000
section
variable {fns : FuncId → Option AFunc} {summ : FuncId → List AVal → AHeap → Option (D (AVal × AHeap))} {ro : Option Nat}
theorem st_range {d : Option Tmp} {x : AOpd} {l : List Step} {a : AAct} {h : AHeap} {K : AAct → AHeap → Prop} {r ver c : Nat} {es : List (AVal × AVal × Nat)} (hx : ev a x = some (.map (some r))) (hr : h.objs.get r = some (ver, .map es c)) (w : WF h)
    (k : ∀ b h', h.next ≤ b → Grow h h' → h'.objs.get b = some (b, .iter r c [] c) → St fns summ ro l (putA a d (.ptr (some (b, 0)))) h' K) : St fns summ ro (⟨d, none, .e (.range x)⟩ :: l) a h K :=
  st_t (by intro _ _ hh; cases hh) (by intro _ _ hh; cases hh) (v := .ptr (some (h.next, 0))) (h' := newA h (.iter r c [] c)) (by simp only [turnA, hx, hr]) (k _ _ (Nat.le_refl _) ((Grow.refl w).new _) (new_get_same _ _))
theorem st_next {d : Option Tmp} {x : AOpd} {l : List Step} {a : AAct} {h : AHeap} {K : AAct → AHeap → Prop} {b r ver verr c : Nat} {seen : List Nat} {es : List (AVal × AVal × Nat)} (hx : ev a x = some (.ptr (some (b, 0)))) (hb : h.objs.get b = some (ver, .iter r c seen c)) (hr : h.objs.get r = some (verr, .map es c)) (hes : ∀ e ∈ es, e.2.2 < c) (w : WF h)
    (k0 : (∀ e ∈ es, e.2.2 ∈ seen) → St fns summ ro l (putA a d (.tuple [.bool false])) h K)
    (k1 : ∀ e ∈ es, e.2.2 ∉ seen → ∀ ver' h', But b h h' → h'.objs.get b = some (ver', .iter r c (seen ++ [e.2.2]) c) → St fns summ ro l (putA a d (.tuple [.bool true, e.1, e.2.1])) h' K) : St fns summ ro (⟨d, none, .e (.next x)⟩ :: l) a h K := by
  refine st_e (ex_turns (by intro _ _ hh; cases hh) (by intro _ _ hh; cases hh) ?_)
  have hall : es.all (fun e => Nat.blt e.2.2 c) = true := List.all_eq_true.2 fun e he => by simpa using hes e he
  simp only [turnA, hx, hb, hr, hall, and_self, if_true]
  have hmem : ∀ e, e ∈ es.filter (fun e => !seen.contains e.2.2) ↔ e ∈ es ∧ e.2.2 ∉ seen := fun e => by simp
  generalize es.filter (fun e => !seen.contains e.2.2) = left at hmem
  cases left with
  | nil =>
    refine k0 fun e he => ?_
    by_cases hs : e.2.2 ∈ seen
    · exact hs
    · exact absurd ((hmem e).2 ⟨he, hs⟩) (by simp)
  | cons y rest =>
    refine ⟨by simp, fun i hi => ?_⟩
    obtain ⟨k, v, born⟩ : AVal × AVal × Nat := (y :: rest)[i]
    have hi' : i < (y :: rest).length := hi
    obtain ⟨e, he⟩ : ∃ e, (y :: rest)[i]? = some e := ⟨_, List.getElem?_eq_getElem hi'⟩
    obtain ⟨m1, m2⟩ := (hmem e).1 (List.mem_of_getElem? he)
    simp only [he]
    exact k1 e m1 m2 _ _ (but_put w hb _) (put_get_same _ _ _)
theorem st_entry {d : Option Tmp} {x : AOpd} {l : List Step} {a : AAct} {h : AHeap} {K : AAct → AHeap → Prop} {b r ver verr c s : Nat} {seen : List Nat} {es : List (AVal × AVal × Nat)} {k v : AVal} {n : Nat} (hx : ev a x = some (.ptr (some (b, 0)))) (hb : h.objs.get b = some (ver, .iter r c (seen ++ [s]) c)) (hr : h.objs.get r = some (verr, .map es c)) (hf : es.find? (fun e => Nat.beq e.2.2 s) = some (k, v, n))
    (kk : St fns summ ro l (putA a d (.tuple [k, v])) h K) : St fns summ ro (⟨d, none, .e (.entry x)⟩ :: l) a h K :=
  st_t (by intro _ _ hh; cases hh) (by intro _ _ hh; cases hh) (v := .tuple [k, v]) (h' := h) (by
    have hl : (seen ++ [s]).getLast? = some s := by simp
    simp only [turnA, hx, hb, hr, hl, if_true, hf]) kk
end
/-! ### What lies in cells stays if they do -/
def CellsKeep (h h' : AHeap) : Prop := ∀ c ver ro e vs, h.objs.get c = some (ver, .cells ro e vs) → h'.objs.get c = some (ver, .cells ro e vs)
section
variable {h h' : AHeap} (ck : CellsKeep h h')
include ck
theorem sl_stay {sz : Nat} {v : AVal} {xs : List (List AVal)} (k : SlAt h sz v xs) : SlAt h' sz v xs :=
  ⟨k.1, fun i x hx => by obtain ⟨h1, b, o, ver, ro, e, vs, h2, h3, h4⟩ := k.2 i x hx; exact ⟨h1, b, o, ver, ro, e, vs, h2, ck _ _ _ _ _ h3, h4⟩⟩
theorem nodes_stay {v : AVal} {l : List Node} (k : NodesAt h v l) : NodesAt h' v l := by
  obtain ⟨cs, h1, h2, h3⟩ := k
  exact ⟨cs, sl_stay ck h1, h2, fun i n c hn hc => by obtain ⟨av, lv, q1, q2, q3⟩ := h3 i n c hn hc; exact ⟨av, lv, q1, sl_stay ck q2, sl_stay ck q3⟩⟩
theorem val_stay {v : AVal} {o : Option Graph} (k : ValAt h v o) : ValAt h' v o := by
  cases o with
  | none => exact k
  | some x => obtain ⟨b, ver, ro, e, nv, h1, h2, h3⟩ := k; exact ⟨b, ver, ro, e, nv, h1, ck _ _ _ _ _ h2, nodes_stay ck h3⟩
theorem cd_stay {v : AVal} {o : Option CDef} (k : CDAt h v o) : CDAt h' v o := by
  cases o with
  | none => exact k
  | some x => obtain ⟨b, ver, ro, e, nv, cv, vv, h1, h2, h3, h4, h5⟩ := k; exact ⟨b, ver, ro, e, nv, cv, vv, h1, ck _ _ _ _ _ h2, nodes_stay ck h3, sl_stay ck h4, sl_stay ck h5⟩
theorem env_stay : ∀ {l : List Mean} {v : AVal}, EnvAt h v l → EnvAt h' v l
  | [], _, k => k
  | _ :: _, _, ⟨b, ver, ro, e, pv, pc, pa, h1, h2, h3, h4, h5⟩ => ⟨b, ver, ro, e, pv, pc, pa, h1, ck _ _ _ _ _ h2, val_stay ck h3, cd_stay ck h4, env_stay h5⟩
end
/-! ### What is there from the start -/
def nF : List Nat := [102, 115, 116]
def nS : List Nat := [115, 110, 100]
def nN : List Nat := [110, 111, 116]
def tF : List Nat := [39, 97, 32, 42, 32, 39, 98, 32, 45, 62, 32, 39, 97]
def tS : List Nat := [39, 97, 32, 42, 32, 39, 98, 32, 45, 62, 32, 39, 98]
def tN : List Nat := [98, 111, 111, 108, 32, 45, 62, 32, 98, 111, 111, 108]
def varN : Node := ⟨1, [], [], [], false⟩
def boolN : Node := ⟨2, [98, 111, 111, 108], [], [], false⟩
def gF : Graph := ⟨[⟨2, [45, 62], [1, 2], [], false⟩, ⟨2, [42], [2, 3], [], false⟩, varN, varN], 0⟩
def gS : Graph := ⟨[⟨2, [45, 62], [1, 3], [], false⟩, ⟨2, [42], [2, 3], [], false⟩, varN, varN], 0⟩
def gN : Graph := ⟨[⟨2, [45, 62], [1, 2], [], false⟩, boolN, boolN], 0⟩
structure HasRead (summ : FuncId → List AVal → AHeap → Option (D (AVal × AHeap))) : Prop where
  read : ∀ s G, (s, G) ∈ [(tF, gF), (tS, gS), (tN, gN)] → ∀ h, WF h → ∃ v h', summ 25 [.str s] h = some (.ret (.tuple [v, .int .i64 0], h')) ∧ GraphAt h' v G ∧ Grow h h'
theorem tiny_of {g : Graph} (h1 : g.nodes.length + leftG [] g.nodes 0 ≤ 4096) (h2 : ∀ n ∈ g.nodes, n.labels.length ≤ 4096 ∧ ∀ s ∈ n.labels, s.length < 2 ^ 60) : GTi g := by
  have e30 : (2 : Nat) ^ 30 = 1073741824 := by decide
  have e60 : (2 : Nat) ^ 60 = 1152921504606846976 := by decide
  refine ⟨⟨⟨by omega, fun n hn => ⟨?_, ?_, (h2 n hn).2⟩⟩, by omega, fun n hn => ?_⟩, h1⟩
  · have := leftG_one g.nodes 0 n hn; omega
  · have := (h2 n hn).1; omega
  · have := (h2 n hn).1; omega
theorem tiny_F : GTi gF := tiny_of (by decide) (by decide)
theorem tiny_S : GTi gS := tiny_of (by decide) (by decide)
theorem tiny_N : GTi gN := tiny_of (by decide) (by decide)
theorem ok_F : checkF gF = 0 := by decide
theorem ok_S : checkF gS = 0 := by decide
theorem ok_N : checkF gN = 0 := by decide
def startEs : List (AVal × AVal × Nat) := [(.str nF, .str tF, 0), (.str nS, .str tS, 1), (.str nN, .str tN, 2)]
def startM (i : Nat) : Mean := match i with
  | 0 => ⟨nF, some (leastF gF), none⟩
  | 1 => ⟨nS, some (leastF gS), none⟩
  | _ => ⟨nN, some (leastF gN), none⟩
def baseM : Mean := ⟨[], none, none⟩
theorem three_most : ∀ {l : List Nat}, l.Nodup → (∀ i ∈ l, i < 3) → l.length ≤ 3
  | [], _, _ => by simp
  | [_], _, _ => by simp
  | [_, _], _, _ => by simp
  | [_, _, _], _, _ => by simp
  | a :: b :: c :: d :: r, hn, h => by
    have h1 := h a (by simp)
    have h2 := h b (by simp)
    have h3 := h c (by simp)
    have h4 := h d (by simp)
    simp only [List.nodup_cons, List.mem_cons, not_or] at hn
    omega
/-- What New may make: the three in some order. -/
def NewL (L : List Mean) : Prop := ∃ seen : List Nat, seen.Nodup ∧ (∀ i, i ∈ seen ↔ i < 3) ∧ L = seen.reverse.map startM ++ [baseM]
section
variable {fns : FuncId → Option AFunc} {summ : FuncId → List AVal → AHeap → Option (D (AVal × AHeap))}
variable (H : Has fns summ)
include H
theorem estart_ok (h : AHeap) (hw : WF h) : Cl fns summ 26 [] h fun v h' => ∃ r ver, v = .map (some r) ∧ h.next ≤ r ∧ h'.objs.get r = some (ver, .map startEs 3) ∧ Grow h h' := by
  refine H.go (fn := F_estart) rfl (by decide) rfl rfl ?_
  unfold F_estart
  dsimp only
  repeat with_reducible first | refine nxt_normal ?_ | refine st_nil ?_ | refine cd_seq ?_ | refine cd_ops ?_ | (apply st_q; exact q1)
  refine st_T (by exact tE) (by exact t1) ?_
  iterate 3 refine st_upd_new (by exact e1) (by exact e1) (by exact e1) (by intro hh; cases hh) rfl (by simp only [new_get_same, put_get_same]; rfl) rfl ?_
  repeat' with_reducible first | refine nxt_normal ?_ | refine st_nil ?_ | refine cd_ret ?_ | (apply st_q; exact q1) | (apply fin_ret; exact n1; exact r1)
  refine ⟨_, _, rfl, Nat.le_refl _, put_get_same _ _ _, ?_⟩
  have g := (Grow.refl hw).new (.map [] 0)
  have hp := fun (h1 : AHeap) (o : AObj) (gg : Grow h h1) (hl : h.next < h1.next) => gg.put hw (id := h.next) o (Nat.le_refl _) hl
  refine hp _ _ (hp _ _ (hp _ _ g ?_) ?_) ?_ <;> simp only [new_next, put_next] <;> omega
end
section
variable {fns : FuncId → Option AFunc} {summ : FuncId → List AVal → AHeap → Option (D (AVal × AHeap))}
variable (H : Has fns summ) (HR : HasRead summ)
include H HR
theorem EnvNew_ok (h : AHeap) (hw : WF h) : Cl fns summ 9 [] h fun r h' => (∃ b L, r = .ptr (some (b, 0)) ∧ NewL L ∧ EnvAt h' r L) ∧ Grow h h' := by
  refine H.go (fn := F_EnvNew) rfl (by decide) rfl rfl ?_
  unfold F_EnvNew
  dsimp only
  repeat with_reducible first | refine nxt_normal ?_ | refine st_nil ?_ | refine cd_seq ?_ | refine cd_ops ?_ | (apply st_q; exact q1)
  refine st_box (by exact e1) (by exact cc) hw ?_
  rintro b0 h1 hb0 g1' o1
  repeat with_reducible first | refine nxt_normal ?_ | refine st_nil ?_ | refine cd_seq ?_ | refine cd_ops ?_ | (apply st_q; exact q1)
  refine st_call (by exact s1) ((estart_ok H h1 g1'.wf).mono ?_)
  rintro _ h2 ⟨r, ver, rfl, hr, orr, g2⟩
  skip
  have g02 := g1'.trans g2
  have w2 := g2.wf
  have lr := g2.wf.lt orr
  refine st_range (by exact e1) orr g2.wf ?_
  rintro bi h3 hbi g3 oi
  have orr3 := g3.keep _ _ orr
  have hE0 : EnvAt h3 (.ptr (some (b0, 0))) [baseM] := ⟨b0, _, _, _, _, _, _, rfl, g3.keep _ _ (g2.keep _ _ o1), rfl, rfl, rfl⟩
  clear o1 orr3
  repeat with_reducible first | refine nxt_normal ?_ | refine st_nil ?_
  with_reducible refine cd_block ?_
  refine cd_loop (fun m a hp => ∃ (seen : List Nat) (bv : Nat), m + seen.length = 3 ∧ seen.Nodup ∧ (∀ i ∈ seen, i < 3) ∧ Grow h2 hp ∧ (∃ ver, hp.objs.get bi = some (ver, .iter r 3 seen 3)) ∧ EnvAt hp (.ptr (some (bv, 0))) (seen.reverse.map startM ++ [baseM]) ∧ a.defers = [] ∧ ev a (.tmp 1) = some (.ptr (some (bv, 0))) ∧ ev a (.tmp 9) = some (.ptr (some (bi, 0)))) ?_ (n := 3)
    ⟨[], b0, rfl, List.nodup_nil, fun i hi => (by cases hi), g3, ⟨_, oi⟩, hE0, by exact n1, by exact e1, by exact e1⟩
  clear hE0 oi g3
  rintro m a hp ⟨seen, bv, hm, hnd, hlt, gp, ⟨vi, oi⟩, hE, hd, e1', e9'⟩
  have orp := gp.keep _ _ orr
  have hes : ∀ e ∈ startEs, e.2.2 < 3 := by decide
  repeat with_reducible first | refine cd_seq ?_ | refine cd_ops ?_
  refine st_next (by exact e1) oi orp hes gp.wf (fun hall => ?_) fun e he hns ver' h4 p4 o4 => ?_
  · have hN : NewL (seen.reverse.map startM ++ [baseM]) := ⟨seen, hnd, fun i => ⟨hlt i, fun hi => by
      have h0 := hall _ (show (.str nF, .str tF, 0) ∈ startEs by simp [startEs])
      have h1 := hall _ (show (.str nS, .str tS, 1) ∈ startEs by simp [startEs])
      have h2 := hall _ (show (.str nN, .str tN, 2) ∈ startEs by simp [startEs])
      rcases (by omega : i = 0 ∨ i = 1 ∨ i = 2) with rfl | rfl | rfl
      · exact h0
      · exact h1
      · exact h2⟩, rfl⟩
    replace hN := Hid.mk hN
    clear hall hes oi orp
    repeat' with_reducible first | refine nxt_normal ?_ | refine nxt_exit ?_ | refine blk_same ?_ | refine st_nil ?_ | refine cd_seq ?_ | refine cd_ops ?_ | refine cd_exit ?_ | refine cd_ret ?_ | (apply st_q; exact q1) | (apply cd_condF; exact e1) | (apply fin_ret; exact n1; exact r1)
    exact ⟨⟨bv, _, rfl, hN.out, hE⟩, g02.trans gp⟩
  · obtain ⟨i, s, t, G, rfl, hi3, hread, hM, tG, cG, hfind⟩ : ∃ (i : Nat) (s t : List Nat) (G : Graph), e = (.str s, .str t, i) ∧ i < 3 ∧ (t, G) ∈ [(tF, gF), (tS, gS), (tN, gN)] ∧ startM i = ⟨s, some (leastF G), none⟩ ∧ GTi G ∧ checkF G = 0 ∧ startEs.find? (fun e => Nat.beq e.2.2 i) = some (.str s, .str t, i) := by
      simp only [startEs, List.mem_cons, List.not_mem_nil, or_false] at he
      rcases he with rfl | rfl | rfl
      · exact ⟨0, nF, tF, gF, rfl, by decide, by simp, rfl, tiny_F, ok_F, rfl⟩
      · exact ⟨1, nS, tS, gS, rfl, by decide, by simp, rfl, tiny_S, ok_S, rfl⟩
      · exact ⟨2, nN, tN, gN, rfl, by decide, by simp, rfl, tiny_N, ok_N, rfl⟩
    have g4 : Grow h2 h4 := p4.grow h2 w2 gp (by omega)
    have or4 := g4.keep _ _ orr
    have hE4 : EnvAt h4 (.ptr (some (bv, 0))) (seen.reverse.map startM ++ [baseM]) := env_stay (fun c ver ro e vs hc => p4.keep c (by rintro rfl; rw [oi] at hc; cases hc) _ hc) hE
    replace hread := Hid.mk hread
    replace hM := Hid.mk hM
    replace tG := Hid.mk tG
    replace cG := Hid.mk cG
    replace hfind := Hid.mk hfind
    replace hns := Hid.mk hns
    clear hE oi orp hes he p4
    simp only at o4 hns
    repeat with_reducible first | refine nxt_normal ?_ | refine st_nil ?_ | refine cd_seq ?_ | refine cd_ops ?_ | refine cd_blockS ?_ | refine cd_skip ?_ | (apply st_q; exact q1) | (apply cd_condT; exact e1)
    refine st_entry (by exact e1) o4 or4 hfind.out ?_
    repeat with_reducible first | refine nxt_normal ?_ | refine st_nil ?_ | refine cd_seq ?_ | refine cd_ops ?_ | (apply st_q; exact q1)
    obtain ⟨rv, h5, hr5, hG5, g5⟩ := HR.read t G hread.out h4 g4.wf
    refine st_call (by exact s1) (cl_summ hr5 ?_)
    rw [D.sat_ret]
    obtain ⟨rn, rfl, hN5⟩ := hG5
    have hone := one_of_len hN5.len
    have o5 := g5.keep _ _ o4
    have hE5 := hE4.mono g5
    clear hr5 o4 hE4 or4
    repeat with_reducible (apply st_q; exact q1)
    refine st_alloc g5.wf ?_
    rintro b4 h6 hb4 g6 o6
    refine st_store (by exact e1) (by exact e1) (cs := [rn, .int .i64 G.root]) rfl rfl g6.wf o6 (by simp) (by rw [List.all_cons, List.all_cons, hone]; rfl) ?_
    rintro v7 h7 p7 o7
    simp only [List.take_zero, List.nil_append, List.length_cons, List.length_nil, List.drop_succ_cons, List.drop_zero, List.append_nil, Nat.zero_add, Nat.reduceAdd, List.drop_nil, List.cons_append] at o7
    have g57 := p7.grow h5 g5.wf g6 hb4
    have oi7 := g57.keep _ _ o5
    have hN7 := hN5.mono g57
    have hp7 : partA (some 2) [rn, .int .i64 G.root] 0 = some (.agg [rn, .int .i64 G.root]) := rfl
    have ht2 : ∀ x y : AVal, List.take 2 [x, y] = [x, y] := fun _ _ => rfl
    have n57 := g57.next
    have l6 := g6.wf.lt o6
    clear o5 hN5 o6 g6
    repeat with_reducible first | refine nxt_normal ?_ | refine st_nil ?_ | refine cd_seq ?_ | refine cd_ops ?_ | (apply st_q; exact q1)
    refine st_call (by exact s1) ((Least_ok H G tG.out cG.out _ h7 g57.wf ⟨rn, rfl, hN7⟩).mono ?_)
    rintro lv h8 ⟨hO, g8⟩
    have hO' := Hid.mk hO
    obtain ⟨ln, cs, rfl, kB, kl, kn⟩ := hO
    have hln := one_of_len kB.len
    have o78 := g8.keep _ _ o7
    have oi8 := g8.keep _ _ oi7
    have l7 := g57.wf.lt o7
    have li7 := g57.wf.lt oi7
    clear kB kl kn o7 oi7 hN7
    skip
    refine st_store (by exact e1) (by exact e1) (cs := [ln, .int .i64 (leastF G).root]) rfl rfl g8.wf o78 (by simp) (by rw [List.all_cons, List.all_cons, hln]; rfl) ?_
    rintro v9 h9 p9 o9
    simp only [List.take_zero, List.nil_append, List.length_cons, List.length_nil, List.drop_succ_cons, List.drop_zero, List.append_nil, Nat.zero_add, Nat.reduceAdd, List.drop_nil, List.cons_append] at o9
    have g59 : Grow h5 h9 := p9.grow h5 g5.wf (g57.trans g8) hb4
    have hO9 := (hO'.out.stay fun c p hcb hp _ => p9.keep c (by omega) _ hp).graph
    have oi9 := p9.keep bi (by rintro rfl; rw [o78] at oi8; cases oi8) _ oi8
    have hE9 := hE5.mono g59
    have g29 : Grow h2 h9 := (g4.trans g5).trans g59
    clear o78 oi8 hE5 hO'
    obtain ⟨ln', hq, hLN⟩ := hO9
    cases hq
    have hln3 : seen.length < 3 := by
      have h1 : (seen ++ [i]).Nodup := by
        rw [List.nodup_append]
        exact ⟨hnd, by simp, fun a ha b hb => by simp only [List.mem_singleton] at hb; subst hb; rintro rfl; exact hns.out ha⟩
      have h2 := three_most h1 fun j hj => by
        rcases List.mem_append.1 hj with hj | hj
        · exact hlt j hj
        · rw [List.mem_singleton.1 hj]; exact hi3
      rw [List.length_append, List.length_singleton] at h2
      omega
    repeat with_reducible first | refine nxt_normal ?_ | refine st_nil ?_ | refine cd_ops ?_ | (apply st_q; exact q1)
    refine st_q (v := .agg [.str s, .ptr (some (b4, 0)), .ptr none, .ptr (some (bv, 0))]) (b := none) (by rw [qA_build]; simp only [fillA, ev_put, ev_none, ev_val, if_true, if_false, Nat.reduceEqDiff, cellsA, e1']; rfl) ?_
    refine st_box (by exact e1) (by exact cc) g29.wf ?_
    rintro bz h10 hbz g10 o10
    have hEz : EnvAt h10 (.ptr (some (bz, 0))) ((seen ++ [i]).reverse.map startM ++ [baseM]) := by
      rw [List.reverse_append, List.reverse_singleton, List.singleton_append, List.map_cons, hM.out]
      exact ⟨bz, _, _, _, _, _, _, rfl, o10, ⟨b4, _, _, _, ln, rfl, g10.keep _ _ o9, hLN.mono g10⟩, rfl, hE9.mono g10⟩
    have oi10 := g10.keep _ _ oi9
    have hnd' : (seen ++ [i]).Nodup := by
      rw [List.nodup_append]
      exact ⟨hnd, by simp, fun a ha b hb => by simp only [List.mem_singleton] at hb; subst hb; rintro rfl; exact hns.out ha⟩
    have hlt' : ∀ j ∈ seen ++ [i], j < 3 := fun j hj => by
      rcases List.mem_append.1 hj with hj | hj
      · exact hlt j hj
      · rw [List.mem_singleton.1 hj]; exact hi3
    replace hEz := Hid.mk hEz
    replace hnd' := Hid.mk hnd'
    replace hlt' := Hid.mk hlt'
    clear o9 oi9 hLN hE9 o10
    repeat with_reducible first | refine nxt_normal ?_ | refine blk_normal ?_ | refine st_nil ?_ | (apply st_q; exact q1)
    exact ⟨m - 1, by omega, seen ++ [i], bz, by rw [List.length_append, List.length_singleton]; omega, hnd'.out, hlt'.out, g29.trans g10, ⟨_, oi10⟩, hEz.out, by exact n1, by exact e1, by exact e1⟩
end
end Go.Ab.S
end
section
/-
  Names, rising: a map's keys in whatever order, sorted.
-/
namespace Go.Ab.S
open Go.Ab
set_option maxHeartbeats 4000000
def ksE : Nat → List (List Nat) → List (AVal × AVal × Nat)
  | _, [] => []
  | i, a :: r => (.str a, .bool true, i) :: ksE (i + 1) r
theorem ksE_put : ∀ (l : List (List Nat)) (i : Nat) (a : List Nat), ksE i (l ++ [a]) = ksE i l ++ [(.str a, .bool true, i + l.length)]
  | [], i, a => rfl
  | b :: l, i, a => by
    simp only [List.cons_append, ksE, ksE_put l (i + 1) a, List.length_cons, show i + 1 + l.length = i + (l.length + 1) by omega]
theorem ksE_find (a : List Nat) : ∀ (l : List (List Nat)) (i j : Nat), findA .str (.str a) (ksE i l) j = some (if l.contains a then some (j + l.idxOf a, .bool true) else none)
  | [], _, _ => rfl
  | b :: l, i, j => by
    simp only [ksE, findA, keyA, eqL_eq]
    by_cases h : a = b
    · subst h; simp
    · have h1 : (a == b) = false := by simpa using h
      have h2 : (b == a) = false := by simpa using Ne.symm h
      have ih := ksE_find a l (i + 1) (j + 1)
      rw [h1]
      simp only [ih, List.contains_cons, h1, Bool.false_or, List.idxOf_cons, h2, cond_false]
      split
      · congr 2
        exact Prod.ext (by simp; omega) rfl
      · rfl
theorem ksE_set : ∀ (l : List (List Nat)) (i k : Nat), setVal (ksE i l) k (.bool true) = ksE i l
  | [], _, _ => rfl
  | _ :: _, _, 0 => rfl
  | _ :: l, i, k + 1 => by simp only [ksE, setVal, ksE_set l (i + 1) k]
theorem ksE_mem : ∀ {l : List (List Nat)} {i : Nat} {e : AVal × AVal × Nat}, e ∈ ksE i l → ∃ k, ∃ hk : k < l.length, e = (.str l[k], .bool true, i + k)
  | a :: l, i, e, h => by
    simp only [ksE, List.mem_cons] at h
    rcases h with rfl | h
    · exact ⟨0, by simp, rfl⟩
    · obtain ⟨k, hk, rfl⟩ := ksE_mem h
      exact ⟨k + 1, by simpa using hk, by simp only [List.getElem_cons_succ]; congr 2; omega⟩
theorem ksE_at : ∀ {l : List (List Nat)} {i k : Nat} (hk : k < l.length), (ksE i l).find? (fun e => Nat.beq e.2.2 (i + k)) = some (.str l[k], .bool true, i + k)
  | a :: l, i, 0, _ => by simp [ksE, List.find?]
  | a :: l, i, k + 1, hk => by
    have hne : Nat.beq i (i + (k + 1)) = false := by
      cases h : Nat.beq i (i + (k + 1))
      · rfl
      · have := Nat.eq_of_beq_eq_true h; omega
    have ih := ksE_at (l := l) (i := i + 1) (k := k) (by simpa using hk)
    rw [show i + 1 + k = i + (k + 1) by omega] at ih
    simp only [ksE, List.find?, hne]
    exact ih
theorem ksE_in : ∀ {l : List (List Nat)} {i k : Nat} (hk : k < l.length), (.str l[k], .bool true, i + k) ∈ ksE i l
  | a :: l, i, 0, _ => by simp [ksE]
  | a :: l, i, k + 1, hk => by
    have := ksE_in (l := l) (i := i + 1) (k := k) (by simpa using hk)
    rw [show i + 1 + k = i + (k + 1) by omega] at this
    simp only [ksE, List.getElem_cons_succ]
    exact List.mem_cons_of_mem _ this
theorem nat_most : ∀ {n : Nat} {l : List Nat}, l.Nodup → (∀ i ∈ l, i < n) → l.length ≤ n
  | 0, [], _, _ => Nat.le_refl _
  | 0, a :: l, _, h => absurd (h a (by simp)) (by omega)
  | n + 1, l, hn, h => by
    have h1 := nat_most (n := n) (l := l.erase n) (hn.erase n) fun i hi => by
      have := (List.Nodup.mem_erase_iff hn).1 hi
      have := h i this.2
      omega
    by_cases hm : n ∈ l
    · rw [List.length_erase_of_mem hm] at h1; omega
    · rw [List.erase_of_not_mem hm] at h1; omega
/-- A set of names. -/
def SetAt (h : AHeap) (r : Nat) (ks : List (List Nat)) : Prop := ∃ ver, h.objs.get r = some (ver, .map (ksE 0 ks) ks.length)
def sortL (l : List (List Nat)) : List (List Nat) := l.mergeSort fun x y => !lessL y x
structure HasSort (summ : FuncId → List AVal → AHeap → Option (D (AVal × AHeap))) : Prop where
  none : ∀ h, summ 37 [.slice none 0] h = some (.ret (.tuple [], h))
  zero : ∀ h, summ 37 [.slice0] h = some (.ret (.tuple [], h))
  some : ∀ (l : List (List Nat)), (∀ s ∈ l, ∀ c ∈ s, c < 256) → l.length ≤ 2 ^ 31 → ∀ h b ver vs, WF h → h.objs.get b = some (ver, .cells false 9 vs) → l.length ≤ vs.length → vs.take l.length = l.map AVal.str →
    summ 37 [.slice (some (b, 0)) l.length] h = some (.ret (.tuple [], putObjA h b (.cells false 9 ((sortL l).map AVal.str ++ vs.drop l.length))))
section
variable {fns : FuncId → Option AFunc} {summ : FuncId → List AVal → AHeap → Option (D (AVal × AHeap))}
variable (H : Has fns summ)
include H
theorem MKeys_ok (rm : Nat) (h : AHeap) (hw : WF h) : Cl fns summ 68 [.map (some rm)] h fun r h' => ∃ b ver, r = .func 101 [] [.ptr (some (b, 0))] ∧ h.next ≤ b ∧ h'.objs.get b = some (ver, .cells false 117 [.map (some rm)]) ∧ Grow h h' := by
  refine H.go (fn := F_MKeys) rfl (by decide) rfl rfl ?_
  unfold F_MKeys
  dsimp only
  refine cd_seq (cd_ops ?_)
  refine st_box (by exact e1) (by exact cc) hw ?_
  rintro b h1 hb g1 o1
  repeat' with_reducible first | refine nxt_normal ?_ | refine st_nil ?_ | refine cd_seq ?_ | refine cd_ops ?_ | refine cd_ret ?_ | (apply st_q; exact q1) | (apply fin_ret; exact n1; exact r1)
  exact ⟨b, _, rfl, hb, o1, g1⟩
/-- Each key is handed on, in whatever order. -/
theorem MKeys1_ok (ks : List (List Nat)) (rm bk : Nat) (h0 : AHeap) (hbk : ∃ ver ro e, h0.objs.get bk = some (ver, .cells ro e [.map (some rm)])) (hrm : SetAt h0 rm ks) (y : AVal) (P : List Nat → AHeap → Prop) (hP : ∀ s h, P s h → Grow h0 h)
    (hst : ∀ s h h' bi, P s h → (h.next ≤ bi ∨ ∃ ver r c q d, h.objs.get bi = some (ver, .iter r c q d)) → h0.next ≤ bi → (∀ c p, h.objs.get c = some p → c ≠ bi → h'.objs.get c = some p) → WF h' → h.next ≤ h'.next → P s h')
    (hy : ∀ s h (i : Nat) (hi : i < ks.length), P s h → s.Nodup → i ∉ s → s.length < ks.length → Cv fns summ y [.str ks[i]] h fun r h' => r = .bool true ∧ P (s ++ [i]) h' ∧ ∀ c ver r a b d, h.objs.get c = some (ver, .iter r a b d) → h'.objs.get c = some (ver, .iter r a b d))
    (h : AHeap) (hI : P [] h) : Cl fns summ 101 [y, .ptr (some (bk, 0))] h fun _ h' => ∃ s, s.Nodup ∧ (∀ i, i ∈ s ↔ i < ks.length) ∧ P s h' := by
  obtain ⟨verk, rok, ek, obk⟩ := hbk
  obtain ⟨verm, orm⟩ := hrm
  refine H.go (fn := F_MKeys1) rfl (by decide) rfl rfl ?_
  unfold F_MKeys1
  dsimp only
  have obk' := (hP _ _ hI).keep _ _ obk
  have orm' := (hP _ _ hI).keep _ _ orm
  repeat with_reducible first | refine cd_seq ?_ | refine cd_ops ?_ | (apply st_q; exact q1)
  refine st_range (by exact e1) orm' (hP _ _ hI).wf ?_
  rintro bi h1 hbi g1 oi
  have hbi0 : h0.next ≤ bi := Nat.le_trans (hP _ _ hI).next hbi
  have hI1 : P [] h1 := hst _ _ _ bi hI (.inl hbi) hbi0 (fun c p hc _ => g1.keep _ _ hc) g1.wf g1.next
  clear hI obk' orm' g1
  repeat with_reducible first | refine nxt_normal ?_ | refine st_nil ?_
  with_reducible refine cd_block ?_
  refine cd_loop (fun m a hp => ∃ s : List Nat, m + s.length = ks.length ∧ s.Nodup ∧ (∀ i ∈ s, i < ks.length) ∧ P s hp ∧ (∃ ver, hp.objs.get bi = some (ver, .iter rm ks.length s ks.length)) ∧ a.defers = [] ∧ ev a (.tmp 0) = some y ∧ ev a (.tmp 5) = some (.ptr (some (bi, 0)))) ?_ (n := ks.length)
    ⟨[], rfl, List.nodup_nil, fun i hi => (by cases hi), hI1, ⟨_, oi⟩, by exact n1, by exact e1, by exact e1⟩
  clear hI1 oi hbi
  rintro m a hp ⟨s, hm, hnd, hlt, hI, ⟨vi, oi⟩, hd, e0', e5'⟩
  have ormp := (hP _ _ hI).keep _ _ orm
  have wp := (hP _ _ hI).wf
  have hes : ∀ e ∈ ksE 0 ks, e.2.2 < ks.length := fun e he => by
    obtain ⟨k, hk, rfl⟩ := ksE_mem he
    show 0 + k < _
    omega
  repeat with_reducible first | refine cd_seq ?_ | refine cd_ops ?_
  refine st_next (by exact e1) oi ormp hes wp (fun hall => ?_) fun e he hns ver' h4 p4 o4 => ?_
  · have hfin : ∃ s : List Nat, s.Nodup ∧ (∀ i, i ∈ s ↔ i < ks.length) ∧ P s hp := ⟨s, hnd, fun i => ⟨hlt i, fun hi => by
      have := hall _ (ksE_in (i := 0) hi)
      simpa using this⟩, hI⟩
    clear hall hes oi ormp
    repeat with_reducible first | refine nxt_normal ?_ | refine nxt_exit ?_ | refine blk_same ?_ | refine st_nil ?_ | refine cd_seq ?_ | refine cd_exit ?_ | (apply st_q; exact q1) | (apply cd_condF; exact e1)
    refine fin_normal (by exact n1) (v := .tuple []) (by exact r1) hfin
  · obtain ⟨i, hi, rfl⟩ := ksE_mem he
    rw [Nat.zero_add] at hns o4
    simp only at hns o4
    have hI4 : P s h4 := hst _ _ _ bi hI (.inr ⟨_, _, _, _, _, oi⟩) hbi0 (fun c p hc hne => p4.keep c hne _ hc) (p4.wf wp) p4.next
    have orm4 := (hP _ _ hI4).keep _ _ orm
    have hfind := ksE_at (l := ks) (i := 0) hi
    rw [Nat.zero_add] at hfind
    have hlen : s.length < ks.length := by
      have h1 : (s ++ [i]).Nodup := by
        rw [List.nodup_append]
        exact ⟨hnd, by simp, fun a ha b hb => by simp only [List.mem_singleton] at hb; subst hb; rintro rfl; exact hns ha⟩
      have h2 := nat_most (n := ks.length) h1 fun j hj => by
        rcases List.mem_append.1 hj with hj | hj
        · exact hlt j hj
        · rw [List.mem_singleton.1 hj]; exact hi
      rw [List.length_append, List.length_singleton] at h2
      omega
    have hstep := Hid.mk (hy s h4 i hi hI4 hnd hns hlen)
    have hnd' : Hid ((s ++ [i]).Nodup) := ⟨by
        rw [List.nodup_append]
        exact ⟨hnd, by simp, fun a ha b hb => by simp only [List.mem_singleton] at hb; subst hb; rintro rfl; exact hns ha⟩⟩
    have hlt' : Hid (∀ j ∈ s ++ [i], j < ks.length) := ⟨fun j hj => by
        rcases List.mem_append.1 hj with hj | hj
        · exact hlt j hj
        · rw [List.mem_singleton.1 hj]; exact hi⟩
    replace hfind := Hid.mk hfind
    replace hns := Hid.mk hns
    clear he hes oi ormp hI p4
    repeat with_reducible first | refine nxt_normal ?_ | refine st_nil ?_ | refine cd_seq ?_ | refine cd_ops ?_ | refine cd_blockS ?_ | refine cd_skip ?_ | (apply st_q; exact q1) | (apply cd_condT; exact e1)
    refine st_entry (by exact e1) o4 orm4 hfind.out ?_
    repeat with_reducible first | refine nxt_normal ?_ | refine st_nil ?_ | refine cd_seq ?_ | refine cd_ops ?_ | (apply st_q; exact q1)
    refine st_e (ex_call (by exact e1) (by exact s1) (hstep.out.mono ?_))
    rintro _ h5 ⟨rfl, hI5, hkeep⟩
    have o5 := hkeep _ _ _ _ _ _ o4
    clear hstep hkeep o4 orm4
    repeat with_reducible first | refine nxt_normal ?_ | refine blk_normal ?_ | refine st_nil ?_ | refine cd_skip ?_ | (apply st_q; exact q1) | (apply cd_condF; exact e1)
    exact ⟨m - 1, by omega, s ++ [i], by rw [List.length_append, List.length_singleton]; omega, hnd'.out, hlt'.out, hI5, ⟨_, o5⟩, by exact n1, by exact e1, by exact e1⟩
end
end Go.Ab.S
end
