import Derived.Test.YtapnoohglfhgeaaGreatDoorP07
import Derived.Test.YtapnoohglfhgeaaGreatDoorP13
import Derived.Test.YtapnoohglfhgeaaGreatDoorP18
import Derived.Test.YtapnoohglfhgeaaGreatDoorP22
/-
  Part 23 of the proof.
-/
set_option linter.all false
section
/-
  The document's examples; the last meaning of a name counts: the law's walk.
-/
namespace Go.Ab.S
open Go.Ab
set_option maxHeartbeats 4000000
theorem value_start : ∀ {l : List Nat}, 0 ∈ l → valueF (l.map startM ++ [baseM]) nF = some (leastF gF)
  | i :: l, h => by
    match i with
    | 0 => rfl
    | 1 =>
      have h' : 0 ∈ l := by simpa using h
      show (if (some (leastF gS)).isSome && eqL nS nF then some (leastF gS) else valueF (l.map startM ++ [baseM]) nF) = _
      rw [show ((some (leastF gS)).isSome && eqL nS nF) = false from by decide, if_neg (by decide)]
      exact value_start h'
    | j + 2 =>
      have h' : 0 ∈ l := by simpa using h
      show (if (some (leastF gN)).isSome && eqL nN nF then some (leastF gN) else valueF (l.map startM ++ [baseM]) nF) = _
      rw [show ((some (leastF gN)).isSome && eqL nN nF) = false from by decide, if_neg (by decide)]
      exact value_start h'
theorem start_gsm (i : Nat) : ∀ g, (startM i).value = some g → GSm g := by
  intro g h
  match i with
  | 0 => cases h; exact (least_tiny tiny_F ok_F).toGSm
  | 1 => cases h; exact (least_tiny tiny_S ok_S).toGSm
  | j + 2 => cases h; exact (least_tiny tiny_N ok_N).toGSm
theorem newL_facts {L : List Mean} (h : NewL L) : L ≠ [] ∧ L.length ≤ 4 ∧ (∀ m ∈ L, ∀ g, m.value = some g → GSm g) ∧ valueF L nF = some (leastF gF) ∧ (∀ m ∈ L, m.value.isSome = true → ∀ c ∈ m.name, c < 256) ∧ ∀ s, (∃ m ∈ L, m.value.isSome = true ∧ m.name = s) ↔ s ∈ [nF, nN, nS] := by
  obtain ⟨seen, h1, h2, rfl⟩ := h
  have hlen := three_most h1 fun i hi => (h2 i).1 hi
  have hm : ∀ m, m ∈ seen.reverse.map startM ++ [baseM] → (∃ i, i < 3 ∧ m = startM i) ∨ m = baseM := fun m hm => by
    rcases List.mem_append.1 hm with hm | hm
    · obtain ⟨i, hi, rfl⟩ := List.mem_map.1 hm
      exact .inl ⟨i, (h2 i).1 (List.mem_reverse.1 hi), rfl⟩
    · exact .inr (List.mem_singleton.1 hm)
  have hin : ∀ i, i < 3 → startM i ∈ seen.reverse.map startM ++ [baseM] := fun i hi => List.mem_append_left _ (List.mem_map.2 ⟨i, List.mem_reverse.2 ((h2 i).2 hi), rfl⟩)
  refine ⟨by simp, by simp; omega, fun m hmm g hg => ?_, value_start (List.mem_reverse.2 ((h2 0).2 (by decide))), fun m hmm hv => ?_, fun s => ⟨?_, fun hs => ?_⟩⟩
  · rcases hm m hmm with ⟨i, _, rfl⟩ | rfl
    · exact start_gsm i g hg
    · cases hg
  · rcases hm m hmm with ⟨i, hi, rfl⟩ | rfl
    · rcases (by omega : i = 0 ∨ i = 1 ∨ i = 2) with rfl | rfl | rfl <;> decide
    · cases hv
  · rintro ⟨m, hmm, hv, rfl⟩
    rcases hm m hmm with ⟨i, hi, rfl⟩ | rfl
    · rcases (by omega : i = 0 ∨ i = 1 ∨ i = 2) with rfl | rfl | rfl
      · simp [startM]
      · simp [startM]
      · simp [startM]
    · cases hv
  · simp only [List.mem_cons, List.not_mem_nil, or_false] at hs
    rcases hs with rfl | rfl | rfl
    · exact ⟨_, hin 0 (by decide), rfl, rfl⟩
    · exact ⟨_, hin 2 (by decide), rfl, rfl⟩
    · exact ⟨_, hin 1 (by decide), rfl, rfl⟩
theorem names_start {out : List (List Nat)} (hr : Rises out) (hm : ∀ s, s ∈ out ↔ s ∈ [nF, nN, nS]) : out = [nF, nN, nS] := by
  refine rises_ext hr ?_ hm
  exact ris_rises (p := none) (by decide)
section
variable {fns : FuncId → Option AFunc} {summ : FuncId → List AVal → AHeap → Option (D (AVal × AHeap))}
variable (H : Has fns summ)
include H
theorem EValue_some (L : List Mean) (hL : ∀ m ∈ L, ∀ g, m.value = some g → GSm g) (hne : L ≠ []) (v : AVal) (s : List Nat) (g : Graph) (hs : valueF L s = some g) (h : AHeap) (hw : WF h) (hE : EnvAt h v L) :
    Cl fns summ 11 [v, .str s] h fun r h' => (∃ zn, r = .tuple [.agg [zn, .int .i64 (trimF g).root], .int .i64 0] ∧ NodesAt h' zn (trimF g).nodes) ∧ Grow h h' :=
  (EValue_ok H L hL hne v s h hw hE).mono fun r h' ⟨⟨z, hr, hz⟩, gg⟩ => by
    rw [hs] at hr hz
    obtain ⟨zn, rfl, hzn⟩ := hz
    exact ⟨⟨zn, hr, hzn⟩, gg⟩
variable (HS : HasSort summ) (HR : HasRead summ)
include HS HR
theorem alive14_ok (h : AHeap) (hw : WF h) : Cl fns summ 7 [] h fun r h' => r = .bool true ∧ Grow h h' := by
  refine H.go (fn := F_alive14) rfl (by decide) rfl rfl ?_
  unfold F_alive14
  dsimp only [qQ, qE, qN, gQ, gE, vi]
  repeat with_reducible first | refine zAA ?_ | refine zAB ?_ | refine zAC ?_ | refine zAD ?_ | (apply st_q; exact q1)
  refine zAS (by exact s1) ((EnvNew_ok H HR h hw).mono ?_)
  rintro _ h1 ⟨⟨b, L, rfl, hL, hE⟩, g1'⟩
  obtain ⟨f1, f2, f3, f4, f5, f6⟩ := newL_facts hL
  have f2' : L.length ≤ 2 ^ 20 := Nat.le_trans f2 (by decide)
  replace f3 := Hid.mk f3
  replace f5 := Hid.mk f5
  replace f6 := Hid.mk f6
  replace f1 := Hid.mk f1
  replace f4 := Hid.mk f4
  have hsame := Hid.mk (own_same ok_F)
  have hti := Hid.mk (own_tiny tiny_F ok_F)
  clear hL f2
  repeat with_reducible first | refine zAA ?_ | refine zAB ?_ | refine zAC ?_ | refine zAD ?_ | (apply st_q; exact q1)
  refine zAS (by exact s1) ((EValue_some H L f3.out f1.out _ nF _ f4.out h1 g1'.wf hE).mono ?_)
  rintro _ h2 ⟨⟨zn, rfl, hzn⟩, g2⟩
  have hzo := one_of_len hzn.len
  generalize hT : trimF (leastF gF) = T at *
  clear hT
  have hE2 := hE.mono g2
  have g02 := g1'.trans g2
  clear hE g1' g2
  repeat with_reducible (apply st_q; exact q1)
  refine st_alloc g02.wf ?_
  rintro b2 h3 hb2 g3 o2
  refine zAP (by exact e1) (by exact e1) (cs := [zn, .int .i64 T.root]) rfl rfl g3.wf o2 (by simp) (by rw [List.all_cons, List.all_cons, hzo]; rfl) ?_
  rintro v4 h4 p4 s2
  simp only [List.take_zero, List.nil_append, List.length_cons, List.length_nil, List.drop_succ_cons, List.drop_zero, List.append_nil, Nat.zero_add, Nat.reduceAdd, List.drop_nil, List.cons_append] at s2
  have g24 : Grow h2 h4 := p4.grow h2 g02.wf g3 hb2
  have hE4 := hE2.mono g24
  have hz4 := hzn.mono g24
  have g04 := g02.trans g24
  clear hE2 hzn g02 g24 g3 o2 p4 hb2
  repeat with_reducible first | refine zAA ?_ | refine zAB ?_ | refine zAC ?_ | refine zAD ?_ | (apply st_q; exact q1)
  obtain ⟨rv, h5, hr5, ⟨rn, rfl, hrn⟩, g5⟩ := HR.read tF gF (by simp) h4 g04.wf
  refine zAS (by exact s1) (cl_summ hr5 ?_)
  rw [D.sat_ret]
  have hro := one_of_len hrn.len
  have s25 := g5.keep _ _ s2
  have hE5 := hE4.mono g5
  have hz5 := hz4.mono g5
  have g05 := g04.trans g5
  clear hr5 s2 hE4 hz4 g04 g5
  repeat with_reducible (apply st_q; exact q1)
  refine st_alloc g05.wf ?_
  rintro b4 h6 hb4 g6 o4
  refine zAP (by exact e1) (by exact e1) (cs := [rn, .int .i64 gF.root]) rfl rfl g6.wf o4 (by simp) (by rw [List.all_cons, List.all_cons, hro]; rfl) ?_
  rintro v7 h7 p7 s4
  simp only [List.take_zero, List.nil_append, List.length_cons, List.length_nil, List.drop_succ_cons, List.drop_zero, List.append_nil, Nat.zero_add, Nat.reduceAdd, List.drop_nil, List.cons_append] at s4
  have g57 : Grow h5 h7 := p7.grow h5 g05.wf g6 hb4
  have s27 := g57.keep _ _ s25
  have hE7 := hE5.mono g57
  have hz7 := hz5.mono g57
  have hr7 := hrn.mono g57
  have g07 := g05.trans g57
  clear s25 hE5 hz5 hrn g05 g57 g6 o4 p7 hb4
  repeat with_reducible first | refine zAA ?_ | refine zAB ?_ | refine zAC ?_ | refine zAD ?_ | (apply st_q; exact q1)
  refine zAS (by exact s1) ((EValue_nil H nF h7 g07.wf).mono ?_)
  rintro _ h8 ⟨rfl, g8⟩
  have s28 := g8.keep _ _ s27
  have s48 := g8.keep _ _ s4
  have hE8 := hE7.mono g8
  have hz8 := hz7.mono g8
  have hr8 := hr7.mono g8
  have g08 := g07.trans g8
  clear s27 s4 hE7 hz7 hr7 g07 g8
  repeat with_reducible (apply st_q; exact q1)
  refine st_alloc g08.wf ?_
  rintro b7 h9 hb7 g9 o7
  refine zAP (by exact e1) (by exact e1) (cs := [.slice none 0, .int .i64 0]) rfl rfl g9.wf o7 (by simp) rfl ?_
  rintro v10 h10 p10 s7
  have g810 : Grow h8 h10 := p10.grow h8 g08.wf g9 hb7
  have s210 := g810.keep _ _ s28
  have s410 := g810.keep _ _ s48
  have hE10 := hE8.mono g810
  have hz10 := hz8.mono g810
  have hr10 := hr8.mono g810
  have g010 := g08.trans g810
  clear s28 s48 hE8 hz8 hr8 g08 g810 g9 o7 p10 hb7 s7
  repeat with_reducible first | refine zAA ?_ | refine zAB ?_ | refine zAC ?_ | refine zAD ?_ | (apply st_q; exact q1)
  refine zAS (by exact s1) ((EValues_ok H HS L f2' f5.out _ h10 g010.wf hE10).mono ?_)
  rintro r1v h11 ⟨out, hS1, hR1, hM1, _, g11⟩
  have ho1 : out = [nF, nN, nS] := names_start hR1 fun s => (hM1 s).trans (f6.out s)
  subst ho1
  have hl1 : lenO r1v = some 3 := hS1.len
  have s211 := g11.keep _ _ s210
  have s411 := g11.keep _ _ s410
  have hE11 := hE10.mono g11
  have hz11 := hz10.mono g11
  have hr11 := hr10.mono g11
  have g011 := g010.trans g11
  have h33 : ((Int.ofNat 3 : Int) == 3) = true := rfl
  clear s210 s410 hE10 hz10 hr10 g010 g11 hS1 hR1 hM1
  repeat with_reducible first | (apply st_q; exact q1) | (apply st_qT; exact e1; exact q1)
  refine st_callT (by exact e1) (by exact s1) ((EValues_ok H HS L f2' f5.out _ h11 g011.wf hE11).mono ?_)
  rintro r2v h12 ⟨out, hS2, hR2, hM2, _, g12⟩
  have ho2 : out = [nF, nN, nS] := names_start hR2 fun s => (hM2 s).trans (f6.out s)
  subst ho2
  obtain ⟨bb, ob, verb, rb, eb, vsb, hix, hget, hvo⟩ := hS2.at (i := 0) (c := nF) rfl
  have s212 := g12.keep _ _ s211
  have s412 := g12.keep _ _ s411
  have hz12 := hz11.mono g12
  have hr12 := hr11.mono g12
  have g012 := g011.trans g12
  have hff : eqL nF [102, 115, 116] = true := rfl
  have h00 : ((0 : Int) == 0) = true := rfl
  have h11' : ((1 : Int) == 1) = true := rfl
  have hpT : partA (some 2) [zn, .int .i64 T.root] 0 = some (.agg [zn, .int .i64 T.root]) := rfl
  have hpG : partA (some 2) [rn, .int .i64 gF.root] 0 = some (.agg [rn, .int .i64 gF.root]) := rfl
  have ht2 : ∀ x y : AVal, List.take 2 [x, y] = [x, y] := fun _ _ => rfl
  have hq0 : Hid (∀ A hh, ev A (.tmp 30) = some r2v → qA A hh (.indexA 1 (.tmp 30) (.val (.int .i64 0))) = some (.ptr (some (bb, ob)), none)) := ⟨fun A hh k => by
    simp only [qA_indexA, k, ev_val, show asNat (.int .i64 0) = some 0 from rfl, hix]⟩
  clear s211 s411 hE11 hz11 hr11 g011 g12 hS2 hR2 hM2
  skip
  refine st_qT (by exact e1) (hq0.out _ _ (by exact e1)) ?_
  repeat with_reducible first | (apply st_q; exact q1) | (apply st_qT; exact e1; exact q1)
  refine st_callT (by exact e1) (by exact s1) ((Same_ok H T gF hti.out tiny_F _ _ h12 g012.wf ⟨zn, rfl, hz12⟩ ⟨rn, rfl, hr12⟩).mono ?_)
  rw [hsame.out]
  rintro _ h13 ⟨rfl, g13⟩
  repeat' with_reducible first | refine zAA ?_ | refine zAB ?_ | refine zAG ?_ | (apply st_q; exact q1) | (apply st_qT; exact e1; exact q1) | (apply zAE; exact n1; exact r1)
  exact ⟨rfl, g012.trans g13⟩
end
end Go.Ab.S
end
section
/-
  Whether any class's type may be, and its fields: the law's walk.
-/
namespace Go.Ab.S
open Go.Ab
set_option maxHeartbeats 4000000
theorem eqLL_refl (l : List (List Nat)) : eqLL l l = true := eqLL_iff.2 rfl
section
variable {fns : FuncId → Option AFunc} {summ : FuncId → List AVal → AHeap → Option (D (AVal × AHeap))}
variable (H : Has fns summ)
include H
theorem ccTo_ok (v0 v1 v2 v3 v4 : AVal) (hone : [v0, v1, v2, v3, v4].all one = true) (h : AHeap) (hw : WF h) : Cl fns summ 14 [.agg [v0, v1, v2, v3, v4]] h fun r h' => r = .agg [v0, v1, v2, v3, v4] ∧ Grow h h' := by
  refine H.go (fn := F_ccTo) rfl (by decide) rfl rfl ?_
  unfold F_ccTo
  dsimp only [qQ, qE, qN, gQ, gE, vi]
  refine zAC (zAD ?_)
  refine st_box (by exact e1) (by exact cc) hw ?_
  rintro b1 h1 hb1 g1 o1
  refine st_alloc g1.wf ?_
  rintro b2 h2 hb2 g2 o2
  replace o1 := g2.keep _ _ o1
  have ht5 := take5
  have m1 := g1.next
  repeat with_reducible first | refine zAA ?_ | refine zAB ?_ | refine zAC ?_ | refine zAD ?_ | (apply st_q; exact q1)
  refine zAP (by exact e1) (by exact e1) (cs := [v0, v1, v2, v3, v4]) rfl rfl g2.wf o2 (by simp) hone ?_
  rintro v3' h3 p3 o3
  simp only [List.take_zero, List.nil_append, List.length_cons, List.length_nil, List.drop_succ_cons, List.drop_zero, List.append_nil, Nat.zero_add, Nat.reduceAdd, List.drop_nil, List.cons_append] at o3
  have G := p3.grow h hw (g1.trans g2) (by omega)
  clear o1 o2 p3
  repeat' with_reducible first | refine zAA ?_ | refine zAB ?_ | refine zAG ?_ | (apply zAE; exact n1; exact r1)
  exact ⟨rfl, G⟩
variable (HS : HasSort summ) (HR : HasRead summ) (HG : HasGrow summ)
include HS HR HG
theorem EnvClasses_ok (c : CDef) (hg : GraphSm c.g) (hlab : Hid (∀ n ∈ c.g.nodes, n.labels.length * 16 ≤ 140737488355328)) (hc1 : ∀ s ∈ c.conc, s.length < 2 ^ 60) (hc2 : ∀ s ∈ c.virt, s.length < 2 ^ 60) (hc3 : c.conc.length + c.virt.length < 2 ^ 60) (nv cv vv : AVal) (h0 : AHeap) (hw : WF h0) (hN : NodesAt h0 nv c.g.nodes) (hcv : StrsAt h0 cv c.conc) (hvv : StrsAt h0 vv c.virt) :
    Cl fns summ 4 [.agg [.int .i64 c.params, nv, .int .i64 c.g.root, cv, vv]] h0 fun r h' => r = .bool true ∧ Grow h0 h' := by
  have e31 : (2 : Nat) ^ 31 = 2147483648 := by decide
  have e60 : (2 : Nat) ^ 60 = 1152921504606846976 := by decide
  have hone : [.int .i64 c.params, nv, .int .i64 c.g.root, cv, vv].all one = true := by
    simp only [List.all_cons, List.all_nil, one_of_len hN.len, one_of_len hcv.len, one_of_len hvv.len]; rfl
  have hg' := Hid.mk hg
  have hsm := fun hs => Hid.mk (show CSm c from ⟨hg, hc1, hc2, hs⟩)
  clear hg hc1 hc2
  refine H.go (fn := F_EnvClasses) rfl (by decide) rfl rfl ?_
  unfold F_EnvClasses
  dsimp only [qQ, qE, qN, gQ, gE, vi]
  refine zAC (zAD ?_)
  refine st_box (by exact e1) (by exact cc) hw ?_
  rintro b1 h1 hb1 G o1
  clear hb1
  repeat with_reducible first | refine zAA ?_ | refine zAB ?_ | refine zAC ?_ | refine zAD ?_ | (apply st_q; exact q1)
  refine zAS (by exact s1) ((alive14_ok H HS HR h1 G.wf).mono ?_)
  rintro _ h2 ⟨rfl, g2⟩
  replace o1 := g2.keep _ _ o1
  replace G := G.trans g2
  clear g2
  have ht2 := take21
  have ht5 := take5
  repeat with_reducible first | refine zAA ?_ | refine zAB ?_ | refine zAC ?_ | refine zAD ?_ | refine zAL ?_ | (apply st_q; exact q1) | (apply zAI; exact e1)
  refine zAS (by exact s1) ((Great_ok H c.g hg'.out _ h2 G.wf ⟨nv, rfl, hN.mono G⟩).mono ?_)
  rintro _ h3 ⟨rfl, g3⟩
  replace o1 := g3.keep _ _ o1
  replace G := G.trans g3
  clear g3
  generalize IntKind.i64.wrap ((greatF c.g : Nat) : Int) = s0
  cases c1 : decide (s0 > 200)
  rotate_left
  · repeat' with_reducible first | refine zAA ?_ | refine zAN ?_ | refine zAB ?_ | refine zAC ?_ | refine zAD ?_ | refine zAG ?_ | (apply st_q; exact q1) | (apply st_qF; exact e1) | (apply zAF; exact e1) | (apply zAE; exact n1; exact r1)
    exact ⟨rfl, G⟩
  have hlc := hcv.len
  have hlv := hvv.len
  have hwr : IntKind.i64.wrap (Int.ofNat c.conc.length + Int.ofNat c.virt.length) = ((c.conc.length + c.virt.length : Nat) : Int) := wrap_add (by omega)
  cases c2 : decide (((c.conc.length + c.virt.length : Nat) : Int) > 100)
  rotate_left
  · repeat' with_reducible first | refine zAA ?_ | refine zAN ?_ | refine zAB ?_ | refine zAC ?_ | refine zAD ?_ | refine zAG ?_ | (apply st_q; exact q1) | (apply st_qT; exact e1; exact q1) | (apply zAF; exact e1) | (apply zAE; exact n1; exact r1)
    exact ⟨rfl, G⟩
  have sc := hsm (by have := of_decide_eq_false c2; omega)
  clear hsm
  repeat with_reducible first | refine zAA ?_ | refine zAB ?_ | refine zAC ?_ | refine zAL ?_ | refine cd_draw ?_ | (apply dr_ql; exact q1; exact og1) | (apply st_q; exact q1) | (apply st_qT; exact e1; exact q1) | (apply zAI; exact e1)
  refine dr_e (ex_callF (by exact s1) ((ccTo_ok H _ _ _ _ _ hone h3 G.wf).mono ?_))
  rintro _ h4 ⟨rfl, g4⟩
  replace o1 := g4.keep _ _ o1
  replace G := G.trans g4
  refine ⟨by simp [heldOk, Nat.testBit, o1], ?_⟩
  refine dr_e (ex_callF (by exact s1) ((CheckClass_ok H HG HS c sc.out nv cv vv h4 g4.wf (hN.mono G) (hcv.mono G) (hvv.mono G)).mono ?_))
  rintro _ h5 ⟨rfl, g5⟩
  replace o1 := g5.keep _ _ o1
  replace G := G.trans g5
  refine ⟨by simp [heldOk, Nat.testBit, o1], ?_⟩
  refine dr_e (ex_callF (by exact s1) ((rCheckClass_ok H c sc.out nv cv vv h5 g5.wf (hN.mono G) (hcv.mono G) (hvv.mono G)).mono ?_))
  rw [← ck_eq]
  rintro _ h6 ⟨rfl, g6⟩
  replace o1 := g6.keep _ _ o1
  replace G := G.trans g6
  refine ⟨by simp [heldOk, Nat.testBit, o1], ?_⟩
  have hself : (ckF c == ckF c) = true := by simp
  clear g4 g5 g6
  repeat with_reducible first | (apply dr_gT; exact e1) | (apply dr_q; exact q1) | (apply dr_ql; exact q1; exact og1)
  refine dr_e (ex_callF (by exact s1) ((ccTo_ok H _ _ _ _ _ hone h6 G.wf).mono ?_))
  rintro _ h7 ⟨rfl, g7⟩
  replace o1 := g7.keep _ _ o1
  replace G := G.trans g7
  refine ⟨by simp [heldOk, Nat.testBit, o1], ?_⟩
  repeat with_reducible (apply dr_gT; exact e1)
  refine dr_e (ex_callF (by exact s1) ((EFields_ok H HG HS c sc.out nv cv vv h7 g7.wf (hN.mono G) (hcv.mono G) (hvv.mono G) hlab.out).mono ?_))
  rintro rv h8 ⟨hst, g8⟩
  replace o1 := g8.keep _ _ o1
  replace G := G.trans g8
  refine ⟨by simp [heldOk, Nat.testBit, o1], ?_⟩
  repeat with_reducible (apply dr_gT; exact e1)
  refine dr_e (ex_callF (by exact s1) ((rFields_ok H c sc.out nv cv vv h8 g8.wf (hN.mono G) (hcv.mono G) (hvv.mono G)).mono ?_))
  rintro ru h9 ⟨hsu, g9⟩
  replace o1 := g9.keep _ _ o1
  replace G := G.trans g9
  replace hst := hst.mono g9
  refine ⟨by simp [heldOk, Nat.testBit, o1], ?_⟩
  have hl60 : (fieldsF c).length < 2 ^ 60 := by
    unfold fieldsF
    split
    · split
      · simp
      · rename_i p hb
        have hk := ck_facts (c := c) (by assumption)
        have := hlab.out _ (node_in (body_in hk.1 hb).1)
        omega
    · simp
  repeat with_reducible (apply dr_gT; exact e1)
  refine dr_e (ex_callF (by exact s1) ((Labels_ok H _ _ hl60 rv ru h9 hst hsu).mono ?_))
  rw [eqLL_refl]
  rintro _ h10 ⟨rfl, hq10⟩
  replace hq10 := hq10.symm
  subst hq10
  refine ⟨by simp [heldOk, Nat.testBit, o1], ?_⟩
  clear hst hsu hself
  repeat' with_reducible first | refine zAA ?_ | refine zAG ?_ | refine dr_nil ?_ | (apply dr_q; exact q1) | (apply zAE; exact n1; exact r1)
  exact ⟨rfl, G⟩
end
end Go.Ab.S
end
section
/-
  What a run on memory of its own makes, laid beside memory that is told of: a call with known arguments is run once, and taken at that word anywhere.
-/
namespace Go.Ab
open Go.RowKit (Below)

/-! ### Numbers of blocks, renamed -/
mutual
def mapV (f : Nat → Nat) : AVal → AVal
  | .ptr (some p) => .ptr (some (f p.1, p.2))
  | .slice (some p) n => .slice (some (f p.1, p.2)) n
  | .agg l => .agg (mapVs f l)
  | .tuple l => .tuple (mapVs f l)
  | .iface t v => .iface t (mapV f v)
  | v => v
def mapVs (f : Nat → Nat) : List AVal → List AVal
  | [] => []
  | x :: r => mapV f x :: mapVs f r
end
mutual
def plainV (k : Nat) : AVal → Bool
  | .ptr (some p) => Nat.blt p.1 k
  | .slice (some p) _ => Nat.blt p.1 k
  | .agg l => plainVs k l
  | .tuple l => plainVs k l
  | .iface _ v => plainV k v
  | .map (some _) => false
  | .func _ _ _ => false
  | .yield _ => false
  | _ => true
def plainVs (k : Nat) : List AVal → Bool
  | [] => true
  | x :: r => plainV k x && plainVs k r
end
theorem mapVs_length (f : Nat → Nat) : ∀ l : List AVal, (mapVs f l).length = l.length
  | [] => rfl
  | _ :: r => congrArg (· + 1) (mapVs_length f r)

section
variable {P : Program} {G G' : GM} {f g : Nat → Nat} {k : Nat}
mutual
theorem VR.ren (hG : ∀ i, i < k → ∀ gi, G (f i) = some gi → G' (g i) = some gi) : ∀ {x : AVal} {v : Value}, plainV k x = true → VR P G (mapV f x) v → VR P G' (mapV g x) v
  | .bool _, _, _, e => e
  | .int _ _, _, _, e => e
  | .str _, _, _, e => e
  | .ptr none, _, _, e => e
  | .ptr (some p), _, h, ⟨gi, e, r⟩ => ⟨gi, hG _ (Nat.blt_eq.mp h) _ e, r⟩
  | .slice none _, _, _, e => e
  | .slice (some p) _, _, h, ⟨gi, c, e, r⟩ => ⟨gi, c, hG _ (Nat.blt_eq.mp h) _ e, r⟩
  | .slice0, _, _, e => e
  | .sliceE, _, _, e => e
  | .map none, _, _, e => e
  | .map (some _), _, h, _ => by cases h
  | .func _ _ _, _, h, _ => by cases h
  | .yield _, _, h, _ => by cases h
  | .nilFunc, _, _, e => e
  | .iface _ _, _, h, ⟨y, e, r⟩ => ⟨y, e, VR.ren hG h r⟩
  | .nilIface, _, _, e => e
  | .agg _, _, h, ⟨L, e, r⟩ => ⟨L, e, VsR.ren hG h r⟩
  | .tuple _, _, h, ⟨L, e, r⟩ => ⟨L, e, VsR.ren hG h r⟩
theorem VsR.ren (hG : ∀ i, i < k → ∀ gi, G (f i) = some gi → G' (g i) = some gi) : ∀ {xs : List AVal} {vs : List Value}, plainVs k xs = true → VsR P G (mapVs f xs) vs → VsR P G' (mapVs g xs) vs
  | [], _, _, e => e
  | _ :: _, _, h, ⟨y, ys, e, a, b⟩ => by
    simp only [plainVs, Bool.and_eq_true] at h
    exact ⟨y, ys, e, VR.ren hG h.1 a, VsR.ren hG h.2 b⟩
end
end

/-! ### Blocks laid beside others -/
def layH (n : Nat) : List (TypeId × List AVal) → AHeap → AHeap
  | [], h => h
  | (e, vs) :: r, h => layH n r (newA h (.cells false e (mapVs (n + ·) vs)))
theorem layH_next (n : Nat) : ∀ (os : List (TypeId × List AVal)) (h : AHeap), (layH n os h).next = h.next + os.length
  | [], h => rfl
  | (e, vs) :: r, h => by rw [layH, layH_next n r]; simp only [newA, List.length_cons]; omega
theorem layH_old (n : Nat) : ∀ (os : List (TypeId × List AVal)) (h : AHeap) (b : Nat), b < h.next ∨ h.next + os.length ≤ b → (layH n os h).objs.get b = h.objs.get b
  | [], h, _, _ => rfl
  | (e, vs) :: r, h, b, hb => by
    simp only [List.length_cons] at hb
    rw [layH, layH_old n r _ b (by simp only [newA]; omega)]
    simp only [newA, T.get_set]
    rw [if_neg (by omega)]
theorem layH_new (n : Nat) : ∀ (os : List (TypeId × List AVal)) (h : AHeap) (i : Nat) (e : TypeId) (vs : List AVal), os[i]? = some (e, vs) → (layH n os h).objs.get (h.next + i) = some (h.next + i, .cells false e (mapVs (n + ·) vs))
  | [], h, _, _, _, hi => by simp at hi
  | (e, vs) :: r, h, 0, e', vs', hi => by
    simp only [List.getElem?_cons_zero, Option.some.injEq, Prod.mk.injEq] at hi
    obtain ⟨rfl, rfl⟩ := hi
    rw [layH, layH_old n r _ _ (by simp only [newA]; omega)]
    simp only [newA, T.get_set, Nat.add_zero, if_true]
  | (e, vs) :: r, h, i + 1, e', vs', hi => by
    simp only [List.getElem?_cons_succ] at hi
    have := layH_new n r (newA h (.cells false e (mapVs (n + ·) vs))) i e' vs' hi
    rw [layH, show h.next + (i + 1) = (newA h (.cells false e (mapVs (n + ·) vs))).next + i by simp only [newA]; omega]
    exact this

section
variable {P : Program} {N : Nat} {w0 w w' : World} {G GA GA' : GM} {h hA hA' : AHeap}

/-- **Beside what was told of: what a run on memory of its own has made.** -/
theorem Rel.beside (R1 : Rel P N w0 G h w) (R2 : Rel P N w0 GA' hA' w') (E2 : Ext GA hA w GA' hA' w') (hro : ∀ id x, hA.objs.get id = some x → x.2.ro = true)
    {os : List (TypeId × List AVal)} {keep : List Nat} (hk : keep.length = os.length) (hnd : keep.Nodup) (hpl : ∀ o ∈ os, plainVs os.length o.2 = true)
    (hos : ∀ (i : Nat) e vs, os[i]? = some (e, vs) → ∃ ver, hA'.objs.get (keep.getD i 0) = some (ver, .cells false e (mapVs (fun j => keep.getD j 0) vs))) {v0 : AVal} {cv : Value} (hv0 : plainV os.length v0 = true) (hv : VR P GA' (mapV (fun j => keep.getD j 0) v0) cv) :
    ∃ G'', Rel P N w0 G'' (layH h.next os h) w' ∧ Ext G h w G'' (layH h.next os h) w' ∧ VR P G'' (mapV (h.next + ·) v0) cv := by
  have hfr : ∀ b, b < w.heap.size → w'.heap[b]? = w.heap[b]? := fun b hb => E2.frame b hb fun id x gi hx hf _ => by rw [hro id x hx] at hf; cases hf
  have hnew : ∀ (i : Nat) e vs, os[i]? = some (e, vs) → ∃ ver gi ob, hA'.objs.get (keep.getD i 0) = some (ver, .cells false e (mapVs (fun j => keep.getD j 0) vs)) ∧ GA' (keep.getD i 0) = some gi ∧ w'.heap[gi.blk]? = some ob ∧ OR P GA' gi (.cells false e (mapVs (fun j => keep.getD j 0) vs)) ob ∧ w.heap.size ≤ gi.blk := by
    intro i e vs hi
    obtain ⟨ver, h1⟩ := hos i e vs hi
    obtain ⟨gi, h2, ob, h3, h4⟩ := R2.obj _ _ _ h1
    refine ⟨ver, gi, ob, h1, h2, h3, h4, ?_⟩
    rcases E2.owned _ _ gi h1 rfl h2 with h5 | ⟨id0, x0, _, h5, h6, _⟩
    · exact h5
    · rw [hro id0 x0 h5] at h6; cases h6
  let G'' : GM := fun i => if h.next ≤ i ∧ i < h.next + os.length then GA' (keep.getD (i - h.next) 0) else G i
  have hG1 : ∀ i, i < os.length → G'' (h.next + i) = GA' (keep.getD i 0) := fun i hi => by
    show (if _ then _ else _) = _
    rw [if_pos (by omega), show h.next + i - h.next = i by omega]
  have hG2 : ∀ i, i < h.next → G'' i = G i := fun i hi => by
    show (if _ then _ else _) = _
    rw [if_neg (by omega)]
  have hle : GLe G G'' := fun i gi hi => by
    rcases Nat.lt_or_ge i h.next with hl | hl
    · rw [hG2 i hl]; exact hi
    · rw [R1.fresh i hl] at hi; cases hi
  have hren : ∀ i, i < os.length → ∀ gi, GA' (keep.getD i 0) = some gi → G'' (h.next + i) = some gi := fun i hi gi hg => by rw [hG1 i hi]; exact hg
  have hcase : ∀ id x, (layH h.next os h).objs.get id = some x → (id < h.next ∧ h.objs.get id = some x) ∨ ∃ i e vs, id = h.next + i ∧ i < os.length ∧ os[i]? = some (e, vs) ∧ x = (h.next + i, .cells false e (mapVs (h.next + ·) vs)) := by
    intro id x hx
    by_cases hr : h.next ≤ id ∧ id < h.next + os.length
    · obtain ⟨i, rfl⟩ : ∃ i, id = h.next + i := ⟨id - h.next, by omega⟩
      have hi : i < os.length := by omega
      have := layH_new h.next os h i os[i].1 os[i].2 (List.getElem?_eq_getElem hi)
      rw [this] at hx
      simp only [Option.some.injEq] at hx
      exact .inr ⟨i, os[i].1, os[i].2, rfl, hi, List.getElem?_eq_getElem hi, hx.symm⟩
    · rw [layH_old _ _ _ _ (by omega)] at hx
      rcases Nat.lt_or_ge id h.next with hl | hl
      · exact .inl ⟨hl, hx⟩
      · obtain ⟨gi, hgi, _⟩ := R1.obj id x.1 x.2 hx
        rw [R1.fresh id hl] at hgi; cases hgi
  have hblk : ∀ id x gi, h.objs.get id = some x → G id = some gi → gi.blk < w.heap.size := fun id x gi hx hg => by
    obtain ⟨gi', h1, ob, h2, _⟩ := R1.obj id x.1 x.2 hx
    rw [hg] at h1; cases h1
    exact lt_of_heap h2
  have hown : ∀ (id : Nat) (x : Nat × AObj) gi, (layH h.next os h).objs.get id = some x → x.2.ro = false → G'' id = some gi → w.heap.size ≤ gi.blk ∨ ∃ id0 x0 gi0, h.objs.get id0 = some x0 ∧ x0.2.ro = false ∧ G id0 = some gi0 ∧ gi0.blk = gi.blk := by
    intro id x gi hx hf hg
    rcases hcase id x hx with ⟨hl, h1⟩ | ⟨i, e, vs, rfl, hi, h1, rfl⟩
    · rw [hG2 id hl] at hg
      exact .inr ⟨id, x, gi, h1, hf, hg, rfl⟩
    · obtain ⟨ver, gi', ob, k1, k2, k3, k4, k5⟩ := hnew i e vs h1
      rw [hG1 i hi, k2] at hg; cases hg
      exact .inl k5
  refine ⟨G'', ⟨?_, ?_, ?_, ?_, ?_, ?_, ?_, R2.below, R2.size, ?_⟩, ⟨hle, ?_, ?_, ?_, hown, E2.size⟩, VR.ren hren hv0 hv⟩
  · intro id ver o hx
    rcases hcase id _ hx with ⟨hl, h1⟩ | ⟨i, e, vs, rfl, hi, h1, h2⟩
    · obtain ⟨gi, k1, ob, k2, k3⟩ := R1.obj id ver o h1
      exact ⟨gi, hle _ _ k1, ob, by rw [hfr _ (lt_of_heap k2)]; exact k2, k3.mono hle⟩
    · simp only [Prod.mk.injEq] at h2
      obtain ⟨rfl, rfl⟩ := h2
      obtain ⟨ver, gi', ob, k1, k2, k3, k4, k5⟩ := hnew i e vs h1
      refine ⟨gi', hren i hi _ k2, ob, k3, ?_⟩
      obtain ⟨c, t, fr, q1, q2, q3, q4, q5, q6⟩ := k4
      rw [mapVs_length] at q5 q6
      refine ⟨c, t, fr, q1, q2, q3, q4, by rw [mapVs_length]; exact q5, ?_⟩
      rw [mapVs_length]
      exact VsR.ren hren (hpl (e, vs) (List.mem_of_getElem? h1)) q6
  · intro id id' x x' gi gi' hx hx' hf hg hg' hb
    rcases hcase id _ hx with ⟨hl, h1⟩ | ⟨i, e, vs, rfl, hi, h1, rfl⟩
    · rw [hG2 id hl] at hg
      have hlt := hblk id x gi h1 hg
      rcases hcase id' _ hx' with ⟨hl', h1'⟩ | ⟨i', e', vs', rfl, hi', h1', rfl⟩
      · rw [hG2 id' hl'] at hg'
        exact R1.inj id id' x x' gi gi' h1 h1' hf hg hg' hb
      · obtain ⟨ver, gi2, ob, k1, k2, k3, k4, k5⟩ := hnew i' e' vs' h1'
        rw [hG1 i' hi', k2] at hg'; cases hg'
        omega
    · obtain ⟨ver, gi1, ob, k1, k2, k3, k4, k5⟩ := hnew i e vs h1
      rw [hG1 i hi, k2] at hg; cases hg
      rcases hcase id' _ hx' with ⟨hl', h1'⟩ | ⟨i', e', vs', rfl, hi', h1', rfl⟩
      · rw [hG2 id' hl'] at hg'
        have hlt := hblk id' x' gi' h1' hg'
        omega
      · obtain ⟨ver', gi2, ob', k1', k2', k3', k4', k5'⟩ := hnew i' e' vs' h1'
        rw [hG1 i' hi', k2'] at hg'; cases hg'
        have he := R2.inj _ _ _ _ gi gi' k1 k1' rfl k2 k2' hb
        have e1 : keep.getD i 0 = keep[i]'(by omega) := by simp [List.getD, List.getElem?_eq_getElem (show i < keep.length by omega)]
        have e2 : keep.getD i' 0 = keep[i']'(by omega) := by simp [List.getD, List.getElem?_eq_getElem (show i' < keep.length by omega)]
        rw [e1, e2] at he
        have := (List.getElem_inj hnd).1 he
        rw [this]
  · intro id ver o gi hx hg hf
    rcases hcase id _ hx with ⟨hl, h1⟩ | ⟨i, e, vs, rfl, hi, h1, h2⟩
    · rw [hG2 id hl] at hg
      exact R1.own id ver o gi h1 hg hf
    · obtain ⟨ver', gi1, ob, k1, k2, k3, k4, k5⟩ := hnew i e vs h1
      rw [hG1 i hi, k2] at hg; cases hg
      exact R2.own _ _ _ _ k1 k2 rfl
  · intro id hid
    rw [layH_next] at hid
    show (if _ then _ else _) = _
    rw [if_neg (by omega)]
    exact R1.fresh id (by omega)
  · intro id ver o hx
    rw [layH_next]
    rcases hcase id _ hx with ⟨hl, h1⟩ | ⟨i, e, vs, rfl, hi, h1, h2⟩
    · have := R1.vers id ver o h1; omega
    · simp only [Prod.mk.injEq] at h2; omega
  · intro g hg
    have := R1.low
    rw [hG2 g (by omega)]; exact R1.glob g hg
  · rw [layH_next]; have := R1.low; omega
  · intro id ver o gi hx hg hr
    rcases hcase id _ hx with ⟨hl, h1⟩ | ⟨i, e, vs, rfl, hi, h1, h2⟩
    · rw [hG2 id hl] at hg
      exact R1.rolow id ver o gi h1 hg hr
    · simp only [Prod.mk.injEq] at h2
      rw [h2.2] at hr; cases hr
  · rw [layH_next]; omega
  · intro id ver o hx
    rcases hcase id _ hx with ⟨hl, h1⟩ | ⟨i, e, vs, rfl, hi, h1, h2⟩
    · refine .inr ⟨h1, fun gi hg => hfr _ (hblk id _ gi h1 hg)⟩
    · simp only [Prod.mk.injEq] at h2; exact .inl (by omega)
  · intro b hb _
    exact hfr b hb
end
end Go.Ab
end
section
/-
  A call whose arguments are known, run once: it is taken at that word wherever it is made.
-/
namespace Go.Ab
open Go.RowKit (Below)

def eqO : Option (Nat × Nat) → Option (Nat × Nat) → Bool
  | none, none => true
  | some p, some q => Nat.beq p.1 q.1 && Nat.beq p.2 q.2
  | _, _ => false
theorem eqO_sound : ∀ {a b : Option (Nat × Nat)}, eqO a b = true → a = b
  | none, none, _ => rfl
  | some (p1, p2), some (q1, q2), h => by
    simp only [eqO, Bool.and_eq_true] at h
    rw [Nat.eq_of_beq_eq_true h.1, Nat.eq_of_beq_eq_true h.2]
  | none, some _, h => by cases h
  | some _, none, h => by cases h
mutual
def eqV : AVal → AVal → Bool
  | .bool a, .bool b => a == b
  | .int k a, .int k' b => decide (k = k') && a == b
  | .str s, .str t => decide (s = t)
  | .ptr x, .ptr y => eqO x y
  | .slice x n, .slice y m => eqO x y && Nat.beq n m
  | .slice0, .slice0 => true
  | .sliceE, .sliceE => true
  | .agg l, .agg m => eqVs l m
  | .tuple l, .tuple m => eqVs l m
  | _, _ => false
def eqVs : List AVal → List AVal → Bool
  | [], [] => true
  | x :: r, y :: s => eqV x y && eqVs r s
  | _, _ => false
end
mutual
theorem eqV_sound : ∀ {a b : AVal}, eqV a b = true → a = b := by
  intro a b h
  cases a with
  | bool x => cases b <;> simp [eqV] at h; rw [h]
  | int k x => cases b <;> simp [eqV] at h; rw [h.1, h.2]
  | str x => cases b <;> simp [eqV] at h; rw [h]
  | ptr x => cases b <;> simp only [eqV, Bool.false_eq_true] at h; rw [eqO_sound h]
  | slice x n => cases b <;> simp only [eqV, Bool.false_eq_true, Bool.and_eq_true] at h; rw [eqO_sound h.1, Nat.eq_of_beq_eq_true h.2]
  | slice0 => cases b <;> first | rfl | cases h
  | sliceE => cases b <;> first | rfl | cases h
  | agg l => cases b <;> simp only [eqV, Bool.false_eq_true] at h; rw [eqVs_sound h]
  | tuple l => cases b <;> simp only [eqV, Bool.false_eq_true] at h; rw [eqVs_sound h]
  | map x => cases b <;> simp [eqV] at h
  | func f l m => cases b <;> simp [eqV] at h
  | yield l => cases b <;> simp [eqV] at h
  | nilFunc => cases b <;> simp [eqV] at h
  | iface t x => cases b <;> simp [eqV] at h
  | nilIface => cases b <;> simp [eqV] at h
theorem eqVs_sound : ∀ {a b : List AVal}, eqVs a b = true → a = b := by
  intro a b h
  cases a with
  | nil => cases b with
    | nil => rfl
    | cons _ _ => simp [eqVs] at h
  | cons x r => cases b with
    | nil => simp [eqVs] at h
    | cons y s =>
      simp only [eqVs, Bool.and_eq_true] at h
      rw [eqV_sound h.1, eqVs_sound h.2]
end

/-- All that it may come to is so. -/
def D.all {α : Type} (p : α → Bool) : D α → Bool
  | .ret a => p a
  | .fail => false
  | .ask n k => Nat.blt 0 n && (List.range n).all fun i => (k i).all p
theorem D.all_sat {α : Type} {p : α → Bool} : ∀ {d : D α}, d.all p = true → d.sat fun a => p a = true
  | .ret _, h => h
  | .fail, h => by cases h
  | .ask n k, h => by
    simp only [D.all, Bool.and_eq_true, List.all_eq_true, List.mem_range] at h
    exact ⟨Nat.blt_eq.mp h.1, fun i hi => D.all_sat (h.2 i hi)⟩

/-- Is that the answer, and lie these blocks there? -/
def isAt (keep : List Nat) (v0 : AVal) (os : List (TypeId × List AVal)) (r : AVal × AHeap) : Bool :=
  eqV r.1 (mapV (fun j => keep.getD j 0) v0) && (List.range os.length).all fun i => match os[i]?, r.2.objs.get (keep.getD i 0) with
    | some (e, vs), some (_, .cells false e' vs') => Nat.beq e e' && eqVs vs' (mapVs (fun j => keep.getD j 0) vs)
    | _, _ => false
theorem isAt_sound {keep : List Nat} {v0 : AVal} {os : List (TypeId × List AVal)} {r : AVal × AHeap} (h : isAt keep v0 os r = true) :
    r.1 = mapV (fun j => keep.getD j 0) v0 ∧ ∀ (i : Nat) e vs, os[i]? = some (e, vs) → ∃ ver, r.2.objs.get (keep.getD i 0) = some (ver, .cells false e (mapVs (fun j => keep.getD j 0) vs)) := by
  simp only [isAt, Bool.and_eq_true, List.all_eq_true, List.mem_range] at h
  refine ⟨eqV_sound h.1, fun i e vs hi => ?_⟩
  have := h.2 i (List.getElem?_eq_some_iff.1 hi).1
  rw [hi] at this
  split at this
  · rename_i e1 vs1 ver e' vs' h1 h2
    simp only [Option.some.injEq, Prod.mk.injEq] at h1
    obtain ⟨rfl, rfl⟩ := h1
    simp only [Bool.and_eq_true] at this
    obtain ⟨h4, h3⟩ := this
    exact ⟨ver, by rw [h2, Nat.eq_of_beq_eq_true h4, eqVs_sound h3]⟩
  · cases this

mutual
theorem mapV_plain {f : Nat → Nat} : ∀ {x : AVal}, plainV 0 x = true → mapV f x = x
  | .bool _, _ => rfl
  | .int _ _, _ => rfl
  | .str _, _ => rfl
  | .ptr none, _ => rfl
  | .ptr (some p), h => by simp [plainV, Nat.blt] at h
  | .slice none _, _ => rfl
  | .slice (some p) _, h => by simp [plainV, Nat.blt] at h
  | .slice0, _ => rfl
  | .sliceE, _ => rfl
  | .map none, _ => rfl
  | .map (some _), h => by cases h
  | .func _ _ _, h => by cases h
  | .yield _, h => by cases h
  | .nilFunc, _ => rfl
  | .iface t v, h => congrArg (AVal.iface t) (mapV_plain (x := v) h)
  | .nilIface, _ => rfl
  | .agg _, h => by simp only [mapV]; rw [mapVs_plain h]
  | .tuple _, h => by simp only [mapV]; rw [mapVs_plain h]
theorem mapVs_plain {f : Nat → Nat} : ∀ {x : List AVal}, plainVs 0 x = true → mapVs f x = x
  | [], _ => rfl
  | _ :: _, h => by
    simp only [plainVs, Bool.and_eq_true] at h
    simp only [mapVs]
    rw [mapV_plain h.1, mapVs_plain h.2]
end

section
variable {P : Program} {fns : FuncId → Option AFunc} {summ : FuncId → List AVal → AHeap → Option (D (AVal × AHeap))} {N : Nat} {w0 : World}

/-- Memory in which nothing lies but one table. -/
def tblH (t nx : Nat) (tab : List AVal) : AHeap := { objs := (T.leaf : T (Nat × AObj)).set t (some (0, .cells true 0 tab)), next := nx }
theorem tblH_get {t nx : Nat} {tab : List AVal} {id : Nat} {x : Nat × AObj} (h : (tblH t nx tab).objs.get id = some x) : id = t ∧ x = (0, .cells true 0 tab) := by
  simp only [tblH, T.get_set, T.get_leaf] at h
  split at h
  · rename_i e; simp only [Option.some.injEq] at h; exact ⟨e, h.symm⟩
  · cases h
/-- The table lies in the world as it began. -/
def TblOK (P : Program) (N : Nat) (w0 : World) (t nx : Nat) (tab : List AVal) : Prop :=
  t < P.globals.size ∧ P.globals.size ≤ nx ∧ P.globals.size ≤ N ∧ 0 < nx ∧ ∃ c e fr, w0.heap[t]? = some (.cells c e fr) ∧ tab.length ≤ c.size ∧ VsR P (fun _ => none) tab (c.toList.take tab.length)

theorem rel_tbl {G : GM} {h : AHeap} {w : World} {t nx : Nat} {tab : List AVal} (R : Rel P N w0 G h w) (T : TblOK P N w0 t nx tab) : ∃ GA, Rel P N w0 GA (tblH t nx tab) w := by
  obtain ⟨ht, hn, hN, hp, c, e, fr, hc, hl, hv⟩ := T
  have hw : w.heap[t]? = some (.cells c e fr) := by rw [R.below.block t (by omega)]; exact hc
  refine ⟨fun i => if i = t then some ⟨t, c.size, 0, 0⟩ else if i < P.globals.size then some ⟨i, 0, 0, 0⟩ else none, ?_, ?_, ?_, ?_, ?_, ?_, hn, R.below, R.size, ?_⟩
  · intro id ver o hx
    obtain ⟨rfl, h1⟩ := tblH_get hx
    simp only [Prod.mk.injEq] at h1
    obtain ⟨rfl, rfl⟩ := h1
    exact ⟨_, if_pos rfl, _, hw, c, e, fr, rfl, (fun hh => by cases hh), by simp, rfl, hl, by rw [List.drop_zero]; exact hv.mono (fun _ _ hh => by cases hh)⟩
  · intro id id' x x' gi gi' hx _ hf
    obtain ⟨_, rfl⟩ := tblH_get hx
    cases hf
  · intro id ver o gi hx _ hf
    obtain ⟨_, h1⟩ := tblH_get hx
    simp only [Prod.mk.injEq] at h1
    rw [h1.2] at hf; cases hf
  · intro id hid
    have : nx ≤ id := hid
    show (if _ then _ else _) = _
    rw [if_neg (by omega), if_neg (by omega)]
  · intro id ver o hx
    obtain ⟨_, h1⟩ := tblH_get hx
    simp only [Prod.mk.injEq] at h1
    show ver < nx
    omega
  · intro g hg
    by_cases hgt : g = t
    · exact ⟨_, if_pos hgt, by rw [hgt], rfl⟩
    · exact ⟨⟨g, 0, 0, 0⟩, by simp [hgt, hg], rfl, rfl⟩
  · intro id ver o gi hx hg _
    obtain ⟨rfl, _⟩ := tblH_get hx
    simp only [if_true, Option.some.injEq] at hg
    subst hg
    show id < N
    omega

/-- **What a run on memory of its own comes to, anywhere.** -/
theorem summ_run {n : Nat} {f : FuncId} {args : List AVal} {t nx : Nat} {tab : List AVal} {keep : List Nat} {v0 : AVal} {os : List (TypeId × List AVal)} (hm : P.follows .mixedOrders = true) (hF : FnsOK P fns) (hM : SummOK P N w0 summ) (hT : TblOK P N w0 t nx tab)
    (hpa : plainVs 0 args = true) (hk : keep.length = os.length) (hnd : keep.Nodup) (hpl : ∀ o ∈ os, plainVs os.length o.2 = true) (hv0 : plainV os.length v0 = true)
    (he : ((run fns summ n).call f args (tblH t nx tab)).all (isAt keep v0 os) = true) {G : GM} {h : AHeap} {w : World} {argsV : Array Value} {Q : AVal × AHeap → Prop} (R : Rel P N w0 G h w) (hv : VsR P G args argsV.toList) (hq : Q (mapV (h.next + ·) v0, layH h.next os h)) :
    CallsIn (FR none) 0 P f argsV w (PostC P N w0 G h w Q) := by
  obtain ⟨GA, RA⟩ := rel_tbl R hT
  have hvA : VsR P GA args argsV.toList := by
    have := VsR.ren (G := G) (G' := GA) (f := id) (g := id) (k := 0) (fun i hi => absurd hi (Nat.not_lt_zero i)) hpa (by rw [mapVs_plain hpa]; exact hv)
    rwa [mapVs_plain hpa] at this
  refine ((run_sound hF hM (fun _ hS => draw_sound hm hS) n).call f args _ GA w argsV _ RA hvA (D.all_sat he)).mono fun e w' hp => ?_
  obtain ⟨v, h', G', cv, rfl, h1, h2, h3, h4⟩ := hp
  obtain ⟨h5, h6⟩ := isAt_sound h1
  simp only at h5 h6
  subst h5
  obtain ⟨G'', k1, k2, k3⟩ := R.beside h2 h3 (fun id x hx => by obtain ⟨_, rfl⟩ := tblH_get hx; rfl) hk hnd hpl h6 hv0 h4
  exact ⟨_, _, G'', cv, rfl, hq, k1, k2, k3⟩
end
end Go.Ab
end
