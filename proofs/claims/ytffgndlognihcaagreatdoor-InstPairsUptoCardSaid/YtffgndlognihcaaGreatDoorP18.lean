import Derived.Test.YtffgndlognihcaaGreatDoorP16
import Derived.Test.YtffgndlognihcaaGreatDoorP17
/-
  Part 18 of the proof.
-/
set_option linter.all false
section
/-
  The document's examples; instances are an order: the law's walk.
-/
namespace Go.Ab.S
open Go.Ab
set_option maxHeartbeats 8000000
def vN : Node := ⟨1, [], [], [], false⟩
def intN : Node := ⟨2, [105, 110, 116], [], [], false⟩
def gA : Graph := ⟨[⟨2, [45, 62], [1, 2], [], false⟩, intN, intN], 0⟩
def gB : Graph := ⟨[⟨2, [45, 62], [1, 1], [], false⟩, vN], 0⟩
def gC : Graph := ⟨[⟨3, [], [1, 2], [[109], [110]], false⟩, intN, intN], 0⟩
def gD : Graph := ⟨[⟨3, [], [1], [[109]], true⟩, vN], 0⟩
def sA : List Nat := [105, 110, 116, 32, 45, 62, 32, 105, 110, 116]
def sB : List Nat := [39, 97, 32, 45, 62, 32, 39, 97]
def sC : List Nat := [60, 32, 109, 32, 58, 32, 105, 110, 116, 32, 59, 32, 110, 32, 58, 32, 105, 110, 116, 32, 62]
def sD : List Nat := [60, 32, 109, 32, 58, 32, 39, 97, 32, 59, 32, 46, 46, 32, 62]
/-- The types that the document's texts tell. -/
structure HasRead (summ : FuncId → List AVal → AHeap → Option (D (AVal × AHeap))) : Prop where
  read : ∀ s G, (s, G) ∈ [(sA, gA), (sB, gB), (sC, gC), (sD, gD)] → ∀ h, WF h → ∃ v h', summ 18 [.str s] h = some (.ret (.tuple [v, .int .i64 0], h')) ∧ GraphAt h' v G ∧ Grow h h'
theorem tiny_of {g : Graph} (h1 : g.nodes.length + leftG [] g.nodes 0 ≤ 4096) (h2 : ∀ n ∈ g.nodes, n.labels.length ≤ 4096 ∧ ∀ s ∈ n.labels, s.length < 2 ^ 60) : GTi g := by
  have e30 : (2 : Nat) ^ 30 = 1073741824 := by decide
  have e60 : (2 : Nat) ^ 60 = 1152921504606846976 := by decide
  refine ⟨⟨⟨by omega, fun n hn => ⟨?_, ?_, (h2 n hn).2⟩⟩, by omega, fun n hn => ?_⟩, h1⟩
  · have := leftG_one g.nodes 0 n hn; omega
  · have := (h2 n hn).1; omega
  · have := (h2 n hn).1; omega
theorem tiny_A : GTi gA := tiny_of (by decide) (by decide)
theorem tiny_B : GTi gB := tiny_of (by decide) (by decide)
theorem tiny_C : GTi gC := tiny_of (by decide) (by decide)
theorem tiny_D : GTi gD := tiny_of (by decide) (by decide)
theorem al1 : isF gB gA = true := by decide +kernel
theorem al2 : isF gA gB = false := by decide +kernel
theorem al3 : isF gD gC = true := by decide +kernel
theorem al4 : isF gC gD = false := by decide +kernel
theorem al5 : moreF gB gA = true := by decide +kernel
theorem al6 : closedF gA = true := by decide +kernel
theorem al7 : closedF gB = false := by decide +kernel
theorem gg_cells {h : AHeap} {v : AVal} {g : Graph} (k : GraphAt h v g) : ∃ nv, v = .agg [nv, .int .i64 g.root] ∧ NodesAt h nv g.nodes ∧ one nv = true := by
  obtain ⟨nv, rfl, hN⟩ := k
  exact ⟨nv, rfl, hN, one_of_len hN.len⟩
section
variable {fns : FuncId → Option AFunc} {summ : FuncId → List AVal → AHeap → Option (D (AVal × AHeap))}
variable (H : Has fns summ) (HR : HasRead summ)
include H HR
theorem alive11_ok (h : AHeap) (hw : WF h) : Cl fns summ 7 [] h fun r h' => r = .bool true ∧ Grow h h' := by
  have a1 := Hid.mk al1
  have a2 := Hid.mk al2
  have a3 := Hid.mk al3
  have a4 := Hid.mk al4
  have a5 := Hid.mk al5
  have a6 := Hid.mk al6
  have a7 := Hid.mk al7
  have ht2 : ∀ x y : AVal, List.take 2 [x, y] = [x, y] := fun _ _ => rfl
  refine H.go (fn := F_alive11) rfl (by decide) rfl rfl ?_
  unfold F_alive11
  dsimp only
  repeat with_reducible first | refine nxt_normal ?_ | refine st_nil ?_ | refine cd_seq ?_ | refine cd_ops ?_ | (apply st_q; exact q1)
  obtain ⟨vA, h1, r1', gA1, G1⟩ := HR.read sA gA (by simp) h hw
  refine st_call (by exact s1) (cl_summ r1' ?_)
  rw [D.sat_ret]
  obtain ⟨nA, rfl, NA, oA⟩ := gg_cells gA1
  repeat with_reducible (apply st_q; exact q1)
  refine st_alloc G1.wf ?_
  rintro b1 h2 (hb1 : h1.next ≤ b1) (g2 : Grow h1 h2) o1
  refine st_store (v := .agg [nA, .int .i64 gA.root]) (by exact e1) (by exact e1) (cs := [nA, .int .i64 gA.root]) rfl rfl g2.wf o1 (by simp) (by simp only [List.all_cons, List.all_nil, oA, Bool.and_true]; rfl) ?_
  rintro v3 h3 p3 o1'
  simp only [List.take_zero, List.nil_append, List.length_cons, List.length_nil, List.drop_succ_cons, List.drop_zero, List.append_nil, Nat.zero_add, Nat.reduceAdd, List.drop_nil, List.cons_append] at o1'
  have G3 := p3.grow h hw (G1.trans g2) (by have := G1.next; omega)
  have NA3 : NodesAt h3 nA gA.nodes := NA.mono (p3.grow h1 G1.wf g2 hb1)
  clear p3 o1 g2 NA gA1
  repeat with_reducible first | refine nxt_normal ?_ | refine st_nil ?_ | refine cd_seq ?_ | refine cd_ops ?_ | (apply st_q; exact q1)
  obtain ⟨vB, h4, r2', gB1, G4⟩ := HR.read sB gB (by simp) h3 G3.wf
  refine st_call (by exact s1) (cl_summ r2' ?_)
  rw [D.sat_ret]
  obtain ⟨nB, rfl, NB, oB⟩ := gg_cells gB1
  replace o1' := G4.keep _ _ o1'
  have G04 := G3.trans G4
  repeat with_reducible (apply st_q; exact q1)
  refine st_alloc G4.wf ?_
  rintro b3 h5 (hb3 : h4.next ≤ b3) (g5 : Grow h4 h5) o3
  refine st_store (v := .agg [nB, .int .i64 gB.root]) (by exact e1) (by exact e1) (cs := [nB, .int .i64 gB.root]) rfl rfl g5.wf o3 (by simp) (by simp only [List.all_cons, List.all_nil, oB, Bool.and_true]; rfl) ?_
  rintro v6 h6 p6 o3'
  simp only [List.take_zero, List.nil_append, List.length_cons, List.length_nil, List.drop_succ_cons, List.drop_zero, List.append_nil, Nat.zero_add, Nat.reduceAdd, List.drop_nil, List.cons_append] at o3'
  have G6' := p6.grow h4 G4.wf g5 hb3
  have G6 := G04.trans G6'
  replace o1' := G6'.keep _ _ o1'
  have NA6 := NA3.mono (G4.trans G6')
  have NB6 := NB.mono G6'
  clear p6 o3 g5 NB gB1 NA3 G3 G1 r1'
  repeat with_reducible first | refine nxt_normal ?_ | refine st_nil ?_ | refine cd_seq ?_ | refine cd_ops ?_ | (apply st_q; exact q1)
  obtain ⟨vC, h7, r3', gC1, G7⟩ := HR.read sC gC (by simp) h6 G6.wf
  refine st_call (by exact s1) (cl_summ r3' ?_)
  rw [D.sat_ret]
  obtain ⟨nC, rfl, NC, oC⟩ := gg_cells gC1
  replace o1' := G7.keep _ _ o1'
  replace o3' := G7.keep _ _ o3'
  repeat with_reducible (apply st_q; exact q1)
  refine st_alloc G7.wf ?_
  rintro b5 h8 (hb5 : h7.next ≤ b5) (g8 : Grow h7 h8) o5
  refine st_store (v := .agg [nC, .int .i64 gC.root]) (by exact e1) (by exact e1) (cs := [nC, .int .i64 gC.root]) rfl rfl g8.wf o5 (by simp) (by simp only [List.all_cons, List.all_nil, oC, Bool.and_true]; rfl) ?_
  rintro v9 h9 p9 o5'
  simp only [List.take_zero, List.nil_append, List.length_cons, List.length_nil, List.drop_succ_cons, List.drop_zero, List.append_nil, Nat.zero_add, Nat.reduceAdd, List.drop_nil, List.cons_append] at o5'
  have G9' := p9.grow h7 G7.wf g8 hb5
  have G79 := G7.trans G9'
  have G9 := G6.trans G79
  replace o1' := G9'.keep _ _ o1'
  replace o3' := G9'.keep _ _ o3'
  have NA9 := NA6.mono G79
  have NB9 := NB6.mono G79
  have NC9 := NC.mono G9'
  clear p9 o5 g8 NC gC1 NA6 NB6 r2' G04 G4 G6'
  repeat with_reducible first | refine nxt_normal ?_ | refine st_nil ?_ | refine cd_seq ?_ | refine cd_ops ?_ | (apply st_q; exact q1)
  obtain ⟨vD, h10, r4', gD1, G10⟩ := HR.read sD gD (by simp) h9 G9.wf
  refine st_call (by exact s1) (cl_summ r4' ?_)
  rw [D.sat_ret]
  obtain ⟨nD, rfl, ND, oD⟩ := gg_cells gD1
  replace o1' := G10.keep _ _ o1'
  replace o3' := G10.keep _ _ o3'
  replace o5' := G10.keep _ _ o5'
  repeat with_reducible (apply st_q; exact q1)
  refine st_alloc G10.wf ?_
  rintro b7 h11 (hb7 : h10.next ≤ b7) (g11 : Grow h10 h11) o7
  refine st_store (v := .agg [nD, .int .i64 gD.root]) (by exact e1) (by exact e1) (cs := [nD, .int .i64 gD.root]) rfl rfl g11.wf o7 (by simp) (by simp only [List.all_cons, List.all_nil, oD, Bool.and_true]; rfl) ?_
  rintro v12 h12 p12 o7'
  simp only [List.take_zero, List.nil_append, List.length_cons, List.length_nil, List.drop_succ_cons, List.drop_zero, List.append_nil, Nat.zero_add, Nat.reduceAdd, List.drop_nil, List.cons_append] at o7'
  have G12' := p12.grow h10 G10.wf g11 hb7
  have G1012 := G10.trans G12'
  have G12 := G9.trans G1012
  replace o1' := G12'.keep _ _ o1'
  replace o3' := G12'.keep _ _ o3'
  replace o5' := G12'.keep _ _ o5'
  have NA := NA9.mono G1012
  have NB := NB9.mono G1012
  have NC := NC9.mono G1012
  have ND := ND.mono G12'
  have hlA : lenO nA = some 3 := NA.len
  clear p12 o7 g11 gD1 NA9 NB9 NC9 r3' r4' G7 G9' G79 G9 G10 G12' G1012 G6
  have hgt : decide (Int.ofNat 3 > 0) = true := rfl
  have pA : partA (some 2) [nA, .int .i64 gA.root] 0 = some (.agg [nA, .int .i64 gA.root]) := rfl
  repeat with_reducible first | refine nxt_normal ?_ | refine st_nil ?_ | refine cd_seq ?_ | refine cd_ops ?_ | (apply st_q; exact q1) | (apply st_qT; exact e1; exact q1)
  refine st_callT (by exact e1) (by exact s1) ((Is_ok H gB gA tiny_B tiny_A _ _ h12 G12.wf ⟨nB, rfl, NB⟩ ⟨nA, rfl, NA⟩).mono ?_)
  rw [a1.out]
  rintro _ k1 ⟨rfl, g1⟩
  replace o1' := g1.keep _ _ o1'; replace o3' := g1.keep _ _ o3'; replace o5' := g1.keep _ _ o5'; replace o7' := g1.keep _ _ o7'
  replace NA := NA.mono g1; replace NB := NB.mono g1; replace NC := NC.mono g1; replace ND := ND.mono g1; replace G12 := G12.trans g1; clear g1
  repeat with_reducible first | (apply st_q; exact q1) | (apply st_qT; exact e1; exact q1)
  refine st_callT (by exact e1) (by exact s1) ((Is_ok H gA gB tiny_A tiny_B _ _ k1 G12.wf ⟨nA, rfl, NA⟩ ⟨nB, rfl, NB⟩).mono ?_)
  rw [a2.out]
  rintro _ k2 ⟨rfl, g1⟩
  replace o1' := g1.keep _ _ o1'; replace o3' := g1.keep _ _ o3'; replace o5' := g1.keep _ _ o5'; replace o7' := g1.keep _ _ o7'
  replace NA := NA.mono g1; replace NB := NB.mono g1; replace NC := NC.mono g1; replace ND := ND.mono g1; replace G12 := G12.trans g1; clear g1
  repeat with_reducible first | (apply st_q; exact q1) | (apply st_qT; exact e1; exact q1)
  refine st_callT (by exact e1) (by exact s1) ((Is_ok H gD gC tiny_D tiny_C _ _ k2 G12.wf ⟨nD, rfl, ND⟩ ⟨nC, rfl, NC⟩).mono ?_)
  rw [a3.out]
  rintro _ k3 ⟨rfl, g1⟩
  replace o1' := g1.keep _ _ o1'; replace o3' := g1.keep _ _ o3'; replace o5' := g1.keep _ _ o5'; replace o7' := g1.keep _ _ o7'
  replace NA := NA.mono g1; replace NB := NB.mono g1; replace NC := NC.mono g1; replace ND := ND.mono g1; replace G12 := G12.trans g1; clear g1
  repeat with_reducible first | (apply st_q; exact q1) | (apply st_qT; exact e1; exact q1)
  refine st_callT (by exact e1) (by exact s1) ((Is_ok H gC gD tiny_C tiny_D _ _ k3 G12.wf ⟨nC, rfl, NC⟩ ⟨nD, rfl, ND⟩).mono ?_)
  rw [a4.out]
  rintro _ k4 ⟨rfl, g1⟩
  replace o1' := g1.keep _ _ o1'; replace o3' := g1.keep _ _ o3'; replace o5' := g1.keep _ _ o5'; replace o7' := g1.keep _ _ o7'
  replace NA := NA.mono g1; replace NB := NB.mono g1; replace NC := NC.mono g1; replace ND := ND.mono g1; replace G12 := G12.trans g1; clear g1
  repeat with_reducible first | (apply st_q; exact q1) | (apply st_qT; exact e1; exact q1)
  refine st_callT (by exact e1) (by exact s1) ((More_ok H gB gA tiny_B tiny_A _ _ k4 G12.wf ⟨nB, rfl, NB⟩ ⟨nA, rfl, NA⟩).mono ?_)
  rw [a5.out]
  rintro _ k5 ⟨rfl, g1⟩
  replace o1' := g1.keep _ _ o1'; replace o3' := g1.keep _ _ o3'; replace o5' := g1.keep _ _ o5'; replace o7' := g1.keep _ _ o7'
  replace NA := NA.mono g1; replace NB := NB.mono g1; replace NC := NC.mono g1; replace ND := ND.mono g1; replace G12 := G12.trans g1; clear g1
  repeat with_reducible first | (apply st_q; exact q1) | (apply st_qT; exact e1; exact q1)
  refine st_callT (by exact e1) (by exact s1) ((Closed_ok H gA tiny_A _ k5 G12.wf ⟨nA, rfl, NA⟩).mono ?_)
  rw [a6.out]
  rintro _ k6 ⟨rfl, g1⟩
  replace o1' := g1.keep _ _ o1'; replace o3' := g1.keep _ _ o3'; replace o5' := g1.keep _ _ o5'; replace o7' := g1.keep _ _ o7'
  replace NA := NA.mono g1; replace NB := NB.mono g1; replace NC := NC.mono g1; replace ND := ND.mono g1; replace G12 := G12.trans g1; clear g1
  repeat with_reducible first | (apply st_q; exact q1) | (apply st_qT; exact e1; exact q1)
  refine st_callT (by exact e1) (by exact s1) ((Closed_ok H gB tiny_B _ k6 G12.wf ⟨nB, rfl, NB⟩).mono ?_)
  rw [a7.out]
  rintro _ k7 ⟨rfl, g1⟩
  replace G12 := G12.trans g1
  repeat' with_reducible first | refine nxt_normal ?_ | refine st_nil ?_ | refine cd_ret ?_ | (apply st_q; exact q1) | (apply st_qT; exact e1; exact q1) | (apply fin_ret; exact n1; exact r1)
  exact ⟨rfl, G12⟩
end
end Go.Ab.S
end
section
/-
  What is known all the while, and what is put behind.
-/
namespace Go.Ab.S
open Go.Ab
set_option maxHeartbeats 8000000
def swP (q : Pr) : Pr := (q.2, q.1)
def flM (g : Graph) (met : List Pr) : List Pr := met.filter fun q => freeF (nodeD g q.1)
/-- What is known all the while. -/
structure SInv (h0 : AHeap) (b2 b3 r5 r6 r7 : Nat) (nv mv : AVal) (g h : Graph) (w met fl fl' : List Pr) (vw : AVal) (hp : AHeap) : Prop where
  grow : Grow h0 hp
  o2 : ∃ ver, hp.objs.get b2 = some (ver, .cells false 24 [nv, .int .i64 g.root])
  o3 : ∃ ver, hp.objs.get b3 = some (ver, .cells false 24 [mv, .int .i64 h.root])
  o5 : ∃ ver es c, hp.objs.get r5 = some (ver, .map es c) ∧ MP es met
  o6 : ∃ ver es c, hp.objs.get r6 = some (ver, .map es c) ∧ FA es fl
  o7 : ∃ ver es c, hp.objs.get r7 = some (ver, .map es c) ∧ FA es fl'
  bw : Built hp h0.next 62 2 vw w.length (rowC w)
  low : h0.next ≤ r5 ∧ h0.next ≤ r6 ∧ h0.next ≤ r7 ∧ r5 ≠ r6 ∧ r5 ≠ r7 ∧ r6 ≠ r7
section
variable {h0 : AHeap} {b2 b3 r5 r6 r7 : Nat} {nv mv : AVal} {g h : Graph} {w w' met fl fl' : List Pr} {vw vw' : AVal} {hp hq : AHeap} (I : SInv h0 b2 b3 r5 r6 r7 nv mv g h w met fl fl' vw hp)
include I
theorem SInv.other (gr : Grow hp hq) : SInv h0 b2 b3 r5 r6 r7 nv mv g h w met fl fl' vw hq := by
  obtain ⟨v2, k2⟩ := I.o2
  obtain ⟨v3, k3⟩ := I.o3
  obtain ⟨v5, e5, c5, k5, f5⟩ := I.o5
  obtain ⟨v6, e6, c6, k6, f6⟩ := I.o6
  obtain ⟨v7, e7, c7, k7, f7⟩ := I.o7
  exact ⟨I.grow.trans gr, ⟨v2, gr.keep _ _ k2⟩, ⟨v3, gr.keep _ _ k3⟩, ⟨_, _, _, gr.keep _ _ k5, f5⟩, ⟨_, _, _, gr.keep _ _ k6, f6⟩, ⟨_, _, _, gr.keep _ _ k7, f7⟩, I.bw.grow gr, I.low⟩
theorem SInv.row (B : Built hp h0.next 62 2 vw' w'.length (rowC w')) : SInv h0 b2 b3 r5 r6 r7 nv mv g h w' met fl fl' vw' hp :=
  ⟨I.grow, I.o2, I.o3, I.o5, I.o6, I.o7, B, I.low⟩
/-- Rows put behind: all else stays. -/
theorem SInv.push (gr : Grow h0 hq) (kp : ∀ c p, hp.objs.get c = some p → (∀ n, vw ≠ .slice (some (c, 0)) n) → hq.objs.get c = some p) (B : Built hq h0.next 62 2 vw' w'.length (rowC w')) : SInv h0 b2 b3 r5 r6 r7 nv mv g h w' met fl fl' vw' hq := by
  obtain ⟨v2, k2⟩ := I.o2
  obtain ⟨v3, k3⟩ := I.o3
  obtain ⟨v5, e5, c5, k5, f5⟩ := I.o5
  obtain ⟨v6, e6, c6, k6, f6⟩ := I.o6
  obtain ⟨v7, e7, c7, k7, f7⟩ := I.o7
  have kk : ∀ c p, hp.objs.get c = some p → (∀ vs, p.2 ≠ .cells false 62 vs) → hq.objs.get c = some p := fun c p hc hne => kp c p hc (built_ne I.bw hc hne)
  exact ⟨gr, ⟨v2, kk _ _ k2 (fun vs hh => by cases hh)⟩, ⟨v3, kk _ _ k3 (fun vs hh => by cases hh)⟩, ⟨_, _, _, kk _ _ k5 (fun vs hh => by cases hh), f5⟩, ⟨_, _, _, kk _ _ k6 (fun vs hh => by cases hh), f6⟩, ⟨_, _, _, kk _ _ k7 (fun vs hh => by cases hh), f7⟩, B, I.low⟩
theorem SInv.put5 (w0 : WF h0) {ver : Nat} {es : List (AVal × AVal × Nat)} {c : Nat} {met' : List Pr} (p : But r5 hp hq) (o : hq.objs.get r5 = some (ver, .map es c)) (f : MP es met') : SInv h0 b2 b3 r5 r6 r7 nv mv g h w met' fl fl' vw hq := by
  obtain ⟨v2, k2⟩ := I.o2
  obtain ⟨v3, k3⟩ := I.o3
  obtain ⟨v5, e5, c5, k5, f5⟩ := I.o5
  obtain ⟨v6, e6, c6, k6, f6⟩ := I.o6
  obtain ⟨v7, e7, c7, k7, f7⟩ := I.o7
  obtain ⟨l5, l6, l7, n56, n57, n67⟩ := I.low
  exact ⟨p.grow h0 w0 I.grow l5, ⟨_, p.kp k5 k2 rfl⟩, ⟨_, p.kp k5 k3 rfl⟩, ⟨_, _, _, o, f⟩, ⟨_, _, _, p.keep _ (Ne.symm n56) _ k6, f6⟩, ⟨_, _, _, p.keep _ (Ne.symm n57) _ k7, f7⟩, built_but I.bw p k5 (fun vs hh => by cases hh), l5, l6, l7, n56, n57, n67⟩
theorem SInv.put6 (w0 : WF h0) {ver : Nat} {es : List (AVal × AVal × Nat)} {c : Nat} {fl2 : List Pr} (p : But r6 hp hq) (o : hq.objs.get r6 = some (ver, .map es c)) (f : FA es fl2) : SInv h0 b2 b3 r5 r6 r7 nv mv g h w met fl2 fl' vw hq := by
  obtain ⟨v2, k2⟩ := I.o2
  obtain ⟨v3, k3⟩ := I.o3
  obtain ⟨v5, e5, c5, k5, f5⟩ := I.o5
  obtain ⟨v6, e6, c6, k6, f6⟩ := I.o6
  obtain ⟨v7, e7, c7, k7, f7⟩ := I.o7
  obtain ⟨l5, l6, l7, n56, n57, n67⟩ := I.low
  exact ⟨p.grow h0 w0 I.grow l6, ⟨_, p.kp k6 k2 rfl⟩, ⟨_, p.kp k6 k3 rfl⟩, ⟨_, _, _, p.keep _ n56 _ k5, f5⟩, ⟨_, _, _, o, f⟩, ⟨_, _, _, p.keep _ (Ne.symm n67) _ k7, f7⟩, built_but I.bw p k6 (fun vs hh => by cases hh), l5, l6, l7, n56, n57, n67⟩
theorem SInv.put7 (w0 : WF h0) {ver : Nat} {es : List (AVal × AVal × Nat)} {c : Nat} {fl2 : List Pr} (p : But r7 hp hq) (o : hq.objs.get r7 = some (ver, .map es c)) (f : FA es fl2) : SInv h0 b2 b3 r5 r6 r7 nv mv g h w met fl fl2 vw hq := by
  obtain ⟨v2, k2⟩ := I.o2
  obtain ⟨v3, k3⟩ := I.o3
  obtain ⟨v5, e5, c5, k5, f5⟩ := I.o5
  obtain ⟨v6, e6, c6, k6, f6⟩ := I.o6
  obtain ⟨v7, e7, c7, k7, f7⟩ := I.o7
  obtain ⟨l5, l6, l7, n56, n57, n67⟩ := I.low
  exact ⟨p.grow h0 w0 I.grow l7, ⟨_, p.kp k7 k2 rfl⟩, ⟨_, p.kp k7 k3 rfl⟩, ⟨_, _, _, p.keep _ n57 _ k5, f5⟩, ⟨_, _, _, p.keep _ n67 _ k6, f6⟩, ⟨_, _, _, o, f⟩, built_but I.bw p k7 (fun vs hh => by cases hh), l5, l6, l7, n56, n57, n67⟩
end
theorem cd_post' {fns : FuncId → Option AFunc} {summ : FuncId → List AVal → AHeap → Option (D (AVal × AHeap))} {ro : Option Nat} {c : ACode} {a : AAct} {h : AHeap} {Q : AExit → AAct → AHeap → Prop} (I : AAct → AHeap → Prop) (k1 : Cd fns summ ro c a h (nxt I Q)) (k2 : ∀ a h, I a h → Q .normal a h) : Cd fns summ ro c a h Q :=
  k1.mono fun e a1 h1 hq => by cases e with
    | normal => exact k2 a1 h1 hq
    | ret => exact hq
    | exit i => exact hq
theorem flM_put (g : Graph) (met : List Pr) (p : Pr) : flM g (met ++ [p]) = flM g met ++ (if freeF (nodeD g p.1) then [p] else []) := by
  simp only [flM, List.filter_append]
  congr 1
  cases h : freeF (nodeD g p.1) <;> simp [h]
theorem bad_any {g : Graph} {met : List Pr} {p : Pr} (hp : p ∉ met) (hf : freeF (nodeD g p.1) = true) : met.any (badS g p) = (((flM g met).any fun q => q.1 == p.1) || (((flM g met).map swP).any fun q => q.1 == p.2)) := by
  unfold flM
  rw [Bool.eq_iff_iff]
  simp only [List.any_eq_true, badS, hf, Bool.true_and, Bool.and_eq_true, Bool.or_eq_true, List.mem_filter, List.mem_map, beq_iff_eq, swP]
  constructor
  · rintro ⟨q, hq, hq2, h | h⟩
    · exact .inl ⟨q, ⟨hq, hq2⟩, h.symm⟩
    · exact .inr ⟨_, ⟨q, ⟨hq, hq2⟩, rfl⟩, h.symm⟩
  · rintro (⟨q, ⟨hq, hq2⟩, h⟩ | ⟨_, ⟨q, ⟨hq, hq2⟩, rfl⟩, h⟩)
    · exact ⟨q, hq, hq2, .inl h.symm⟩
    · exact ⟨q, hq, hq2, .inr h.symm⟩
theorem bad_none {g : Graph} {met : List Pr} {p : Pr} (hf : freeF (nodeD g p.1) = false) : met.any (badS g p) = false := by
  rw [List.any_eq_false]; intro q _; simp [badS, hf]
/-- All that follows from two nodes is put behind. -/
def pushCode : ACode :=
 .seq (
 .ops [
 ⟨(some 111), none, .q (.fieldA 2 (.tmp 10))⟩,
 ⟨(some 112), none, .q (.load none (.tmp 111))⟩,
 ⟨(some 113), none, .q (.lenV (.tmp 112))⟩,
 ⟨(some 114), none, .q (.mov (.val (.int .i64 0)))⟩]) (
 .block 2 (
 .loop (
 .seq (
 .ops [
 ⟨(some 115), none, .q (.num .lss (.tmp 114) (.tmp 113))⟩]) (
 .seq (
 .cond (.tmp 115) (
 .skip) (
 .exit 2)) (
 .seq (
 .block 3 (
 .seq (
 .ops [
 ⟨(some 116), none, .q (.mov (.tmp 114))⟩,
 ⟨(some 16), none, .q (.mov (.tmp 116))⟩]) (
 .draw [
 ⟨0, 0, ⟨(some 117), none, .q (.mov (.tmp 8))⟩⟩,
 ⟨1, 0, ⟨(some 118), none, .q (.fieldA 2 (.tmp 10))⟩⟩,
 ⟨2, 2, ⟨(some 119), none, .q (.load none (.tmp 118))⟩⟩,
 ⟨3, 0, ⟨(some 120), none, .q (.mov (.tmp 16))⟩⟩,
 ⟨4, 12, ⟨(some 121), none, .q (.indexA 1 (.tmp 119) (.tmp 120))⟩⟩,
 ⟨5, 16, ⟨(some 122), none, .q (.load none (.tmp 121))⟩⟩,
 ⟨6, 0, ⟨(some 123), none, .q (.fieldA 2 (.tmp 11))⟩⟩,
 ⟨7, 64, ⟨(some 124), none, .q (.load none (.tmp 123))⟩⟩,
 ⟨8, 0, ⟨(some 125), none, .q (.mov (.tmp 16))⟩⟩,
 ⟨9, 384, ⟨(some 126), none, .q (.indexA 1 (.tmp 124) (.tmp 125))⟩⟩,
 ⟨10, 512, ⟨(some 127), none, .q (.load none (.tmp 126))⟩⟩,
 ⟨11, 1056, ⟨(some 128), none, .q (.build [(.int .i64 0), (.int .i64 0)] [(0, 1, (.tmp 122)), (1, 1, (.tmp 127))])⟩⟩,
 ⟨12, 2048, ⟨(some 129), none, .e (.bslice 62 2 1 [(.int .i64 0), (.int .i64 0)] [(0, (.tmp 128))])⟩⟩,
 ⟨13, 4097, ⟨(some 130), none, .e (.append 62 2 16 (.tmp 117) (.tmp 129))⟩⟩,
 ⟨14, 16383, ⟨(some 8), none, .q (.mov (.tmp 130))⟩⟩]))) (
 .ops [
 ⟨(some 131), none, .q (.num .add (.tmp 114) (.val (.int .i64 1)))⟩,
 ⟨(some 114), none, .q (.mov (.tmp 131))⟩]))))))
section
variable {fns : FuncId → Option AFunc} {summ : FuncId → List AVal → AHeap → Option (D (AVal × AHeap))}
theorem push_ok {h0 : AHeap} {b2 b3 r5 r6 r7 b10 b11 : Nat} {nv mv : AVal} {g h : Graph} {w met fl fl' : List Pr} {vw : AVal} {hq : AHeap} {a : AAct} {Q : AExit → AAct → AHeap → Prop} (w0 : WF h0) (I : SInv h0 b2 b3 r5 r6 r7 nv mv g h w met fl fl' vw hq) {x y : Node} {av lv bv mv' : AVal}
    (o10 : ∃ ver, hq.objs.get b10 = some (ver, .cells false 34 [.int .i64 x.kind, .str x.name, av, lv, .bool x.isOpen])) (o11 : ∃ ver, hq.objs.get b11 = some (ver, .cells false 34 [.int .i64 y.kind, .str y.name, bv, mv', .bool y.isOpen]))
    (ha : IntsAt h0 av x.args) (hb : IntsAt h0 bv y.args) (hxy : x.args.length = y.args.length) (hx : x.args.length ≤ 4096) (hw : w.length ≤ 2 ^ 36) (hd : a.defers = [])
    (h2' : ev a (.tmp 2) = some (.ptr (some (b2, 0)))) (h3' : ev a (.tmp 3) = some (.ptr (some (b3, 0)))) (h5' : ev a (.tmp 5) = some (.map (some r5))) (h6' : ev a (.tmp 6) = some (.map (some r6))) (h7' : ev a (.tmp 7) = some (.map (some r7))) (h8' : ev a (.tmp 8) = some vw) (h10' : ev a (.tmp 10) = some (.ptr (some (b10, 0)))) (h11' : ev a (.tmp 11) = some (.ptr (some (b11, 0))))
    (k : ∀ a hr vw', SInv h0 b2 b3 r5 r6 r7 nv mv g h ((List.zip x.args y.args).reverse ++ w) met fl fl' vw' hr → a.defers = [] → ev a (.tmp 2) = some (.ptr (some (b2, 0))) → ev a (.tmp 3) = some (.ptr (some (b3, 0))) → ev a (.tmp 5) = some (.map (some r5)) → ev a (.tmp 6) = some (.map (some r6)) → ev a (.tmp 7) = some (.map (some r7)) → ev a (.tmp 8) = some vw' → Q .normal a hr) : Cd fns summ none pushCode a hq Q := by
  have hla := ha.len
  have hlb := hb.len
  have e36 : (2 : Nat) ^ 36 = 68719476736 := by decide
  have e37 : (2 : Nat) ^ 37 = 137438953472 := by decide
  obtain ⟨v10, o10⟩ := o10
  obtain ⟨v11, o11⟩ := o11
  unfold pushCode
  repeat with_reducible first | refine nxt_normal ?_ | refine st_nil ?_ | refine cd_seq ?_ | refine cd_ops ?_ | (apply st_q; exact q1)
  refine cd_count (N := x.args.length) (by omega) (fun j a hr => ∃ vx, SInv h0 b2 b3 r5 r6 r7 nv mv g h (((List.zip x.args y.args).take j).reverse ++ w) met fl fl' vx hr ∧ (∃ ver, hr.objs.get b10 = some (ver, .cells false 34 [.int .i64 x.kind, .str x.name, av, lv, .bool x.isOpen])) ∧ (∃ ver, hr.objs.get b11 = some (ver, .cells false 34 [.int .i64 y.kind, .str y.name, bv, mv', .bool y.isOpen])) ∧ a.defers = [] ∧
      ev a (.tmp 2) = some (.ptr (some (b2, 0))) ∧ ev a (.tmp 3) = some (.ptr (some (b3, 0))) ∧ ev a (.tmp 5) = some (.map (some r5)) ∧ ev a (.tmp 6) = some (.map (some r6)) ∧ ev a (.tmp 7) = some (.map (some r7)) ∧ ev a (.tmp 8) = some vx ∧ ev a (.tmp 10) = some (.ptr (some (b10, 0))) ∧ ev a (.tmp 11) = some (.ptr (some (b11, 0))))
    (by rintro j a hp t w (rfl | rfl | rfl) ⟨vx, k1, k2, k3, k4, k5, k6, k7, k8, k9, k10, k11, k12⟩ <;> exact ⟨vx, k1, k2, k3, by rw [defers_put]; exact k4, by exact e1, by exact e1, by exact e1, by exact e1, by exact e1, by exact e1, by exact e1, by exact e1⟩) (by decide) ?_ ?_ ⟨vw, by simpa using I, ⟨_, o10⟩, ⟨_, o11⟩, by exact n1, by exact e1, by exact e1, by exact e1, by exact e1, by exact e1, by exact e1, by exact e1, by exact e1⟩ (by exact e1) (by exact e1)
  · clear I o10 o11 hd h2' h3' h5' h6' h7' h8' h10' h11'
    rintro j a hr hj ⟨vx, I, ⟨v10, o10⟩, ⟨v11, o11⟩, hd, h2', h3', h5', h6', h7', h8', h10', h11'⟩ hi hn
    have hjy : j < y.args.length := by omega
    obtain ⟨ba, oa, vera, ra, ea, vsa, hixa, hga0, hva⟩ := ha.at (List.getElem?_eq_getElem hj)
    obtain ⟨bb, ob, verb, rb, eb, vsb, hixb, hgb0, hvb⟩ := hb.at (List.getElem?_eq_getElem hjy)
    have hga := I.grow.keep _ _ hga0
    have hgb := I.grow.keep _ _ hgb0
    have hzl : j < (List.zip x.args y.args).length := by rw [List.length_zip]; omega
    have hwl : (((List.zip x.args y.args).take j).reverse ++ w).length ≤ 2 ^ 36 + 4096 := by
      rw [List.length_append, List.length_reverse, List.length_take]; omega
    have hst : ((List.zip x.args y.args).take (j + 1)).reverse ++ w = (x.args[j], y.args[j]) :: (((List.zip x.args y.args).take j).reverse ++ w) := by
      rw [List.take_succ_eq_append_getElem hzl, List.reverse_append, List.getElem_zip]; rfl
    have hroom : roomA 16 ((((List.zip x.args y.args).take j).reverse ++ w).length + 1) = true := roomP (by omega)
    clear hla hlb hx hw hwl hzl
    replace hxy := Hid.mk hxy
    repeat with_reducible first | refine nxt_normal ?_ | refine st_nil ?_ | refine cd_seq ?_ | refine cd_ops ?_ | refine cd_blockS ?_ | refine cd_draw ?_ | (apply dr_pair; exact e1; exact e1) | (apply dr_q; exact q1) | (apply dr_ql; exact q1; exact og1) | (apply st_q; exact q1)
    refine dr_st (st_bslice1 (v := .agg (pairC (x.args[j], y.args[j]))) (cs := pairC (x.args[j], y.args[j])) (by exact e1) rfl rfl rfl I.grow.wf ?_)
    rintro bx h9 hbx g9 ox
    refine st_nil ⟨by simp [heldOk, Nat.testBit, g9.keep _ _ o10, g9.keep _ _ o11, g9.keep _ _ hga, g9.keep _ _ hgb], ?_⟩
    have B9 := I.bw.grow g9
    have I9 := I.other g9
    refine dr_st (st_append1 (by exact e1) (by exact e1) B9 ox rfl rfl hroom g9.wf (by have := I9.grow.next; omega) ?_)
    rintro vx' h10 B10 f10 w10 n10 gr10 kp10
    have G10 := gr10 h0 w0 I9.grow (Nat.le_refl _)
    rw [← rowC_cons, ← hst] at B10
    have hll : (((List.zip x.args y.args).take (j + 1)).reverse ++ w).length = (((List.zip x.args y.args).take j).reverse ++ w).length + 1 := by rw [hst]; rfl
    rw [← hll] at B10
    have I10 := I9.push G10 kp10 B10
    have o10' := kp10 _ _ (g9.keep _ _ o10) (built_ne B9 (g9.keep _ _ o10) fun vs hh => by cases hh)
    have o11' := kp10 _ _ (g9.keep _ _ o11) (built_ne B9 (g9.keep _ _ o11) fun vs hh => by cases hh)
    refine st_nil ⟨by simp [heldOk, Nat.testBit, o10', o11', G10.keep _ _ hga0, G10.keep _ _ hgb0], ?_⟩
    clear I I9 B9 B10 kp10 gr10 f10 ox o10 o11 hga hgb hga0 hgb0 hixa hixb hva hvb g9 hst hll
    repeat with_reducible first | refine nxt_normal ?_ | refine blk_normal ?_ | refine dr_nil ?_ | (apply dr_q; exact q1)
    exact ⟨⟨vx', I10, ⟨_, o10'⟩, ⟨_, o11'⟩, by exact n1, by exact e1, by exact e1, by exact e1, by exact e1, by exact e1, by exact e1, by exact e1, by exact e1⟩, by exact e1, by exact e1⟩
  · rintro a hr ⟨vx, I, _, _, k4, k5, k6, k7, k8, k9, k10, _, _⟩
    rw [List.take_of_length_le (by rw [List.length_zip]; omega)] at I
    exact k a hr vx I k4 k5 k6 k7 k8 k9 k10
end
end Go.Ab.S
end
section
/-
  Whether two graphs are the same type: the walk.
-/
namespace Go.Ab.S
open Go.Ab
set_option maxHeartbeats 8000000
section
variable {fns : FuncId → Option AFunc} {summ : FuncId → List AVal → AHeap → Option (D (AVal × AHeap))}
variable (H : Has fns summ)
include H
theorem Same_ok (g h : Graph) (hg : GTi g) (hh : GTi h) (v u : AVal) (h0 : AHeap) (hw : WF h0) (hv : GraphAt h0 v g) (hu : GraphAt h0 u h) : Cl fns summ 12 [v, u] h0 fun r h' => r = .bool (sameF g h) ∧ Grow h0 h' := by
  obtain ⟨nv, rfl, hN⟩ := hv
  obtain ⟨mv, rfl, hM⟩ := hu
  have hlen := hN.len
  have hlem := hM.len
  refine H.go (fn := F_Same) rfl (by decide) rfl rfl ?_
  unfold F_Same
  dsimp only
  refine cd_seq (cd_ops ?_)
  refine st_box (by exact e1) (by exact cc) hw ?_
  rintro b2 h2 hb2 g2 o2
  refine st_box (by exact e1) (by exact cc) g2.wf ?_
  rintro b3 h3 hb3 g3 o3
  replace o2 := g3.keep _ _ o2
  have g03 := g2.trans g3
  have hpart : partA (some 2) [nv, .int .i64 g.root] 0 = some (.agg [nv, .int .i64 g.root]) := rfl
  have hpart' : partA (some 2) [mv, .int .i64 h.root] 0 = some (.agg [mv, .int .i64 h.root]) := rfl
  repeat with_reducible first | refine nxt_normal ?_ | refine st_nil ?_ | refine cd_seq ?_ | refine cd_ops ?_ | (apply st_q; exact q1)
  refine st_call (by exact s1) ((Check_ok H g hg.toGraphSm _ h3 g3.wf ⟨nv, rfl, hN.mono g03⟩).mono ?_)
  rintro _ h4 ⟨rfl, g4⟩
  replace o2 := g4.keep _ _ o2
  replace o3 := g4.keep _ _ o3
  have g04 := g03.trans g4
  cases hck : (checkF g != 0)
  · have hcg : checkF g = 0 := by simpa using hck
    replace hcg := Hid.mk hcg
    repeat with_reducible first | (apply st_q; exact q1) | (apply st_qT; exact e1; exact q1)
    refine st_callT (by exact e1) (by exact s1) ((Check_ok H h hh.toGraphSm _ h4 g4.wf ⟨mv, rfl, hM.mono g04⟩).mono ?_)
    rintro _ h5 ⟨rfl, g5⟩
    replace o2 := g5.keep _ _ o2
    replace o3 := g5.keep _ _ o3
    have g05 := g04.trans g5
    cases hch : (checkF h != 0)
    · have hchh : checkF h = 0 := by simpa using hch
      replace hchh := Hid.mk hchh
      have hres : sameF g h = walkG (okS g h) (nxS g h) (badS g) (2 + leftW (nxS g h) [] (pairsS g h)) [(g.root, h.root)] [] := by
        have h1 : (checkF g == 0) = true := by rw [hcg.out]; rfl
        have h2 : (checkF h == 0) = true := by rw [hchh.out]; rfl
        rw [sameF, h1, h2]; rfl
      replace hres := Hid.mk hres
      repeat with_reducible first | refine nxt_normal ?_ | refine st_nil ?_ | refine cd_seq ?_ | refine cd_ops ?_ | refine cd_skip ?_ | (apply st_q; exact q1) | (apply st_qT; exact e1; exact q1) | (apply cd_condF; exact e1)
      refine st_mkmap (.inl rfl) g5.wf ?_
      rintro r5 h6 hr5 g6 o5
      replace o2 := g6.keep _ _ o2
      replace o3 := g6.keep _ _ o3
      have g06 := g05.trans g6
      have l5 := g6.wf.lt o5
      repeat with_reducible first | refine nxt_normal ?_ | refine st_nil ?_ | refine cd_seq ?_ | refine cd_ops ?_ | (apply st_q; exact q1)
      refine st_mkmap (.inl rfl) g6.wf ?_
      rintro r6 h7 (hr6 : h6.next ≤ r6) g7 o6
      replace o2 := g7.keep _ _ o2
      replace o3 := g7.keep _ _ o3
      replace o5 := g7.keep _ _ o5
      have l6 := g7.wf.lt o6
      refine st_mkmap (.inl rfl) g7.wf ?_
      rintro r7 h8 (hr7 : h7.next ≤ r7) g8 o7
      replace o2 := g8.keep _ _ o2
      replace o3 := g8.keep _ _ o3
      replace o5 := g8.keep _ _ o5
      replace o6 := g8.keep _ _ o6
      have g08 := (g06.trans g7).trans g8
      repeat with_reducible first | refine nxt_normal ?_ | refine st_nil ?_ | refine cd_seq ?_ | refine cd_ops ?_ | (apply st_pair; exact e1; exact e1) | (apply st_q; exact q1)
      refine st_bslice1 (v := .agg [.int .i64 g.root, .int .i64 h.root]) (cs := [.int .i64 g.root, .int .i64 h.root]) (by exact e1) rfl rfl rfl g8.wf ?_
      rintro b8 h9 (hb8 : h8.next ≤ b8) g9 o8
      have nx5 := g05.next
      have nx6 := g06.next
      have nx8 := g08.next
      have nx67 := g7.next
      have I0 : SInv h0 b2 b3 r5 r6 r7 nv mv g h [(g.root, h.root)] [] [] [] (.slice (some (b8, 0)) 1) h9 :=
        ⟨g08.trans g9, ⟨_, g9.keep _ _ o2⟩, ⟨_, g9.keep _ _ o3⟩, ⟨_, _, _, g9.keep _ _ o5, MP.zero⟩, ⟨_, _, _, g9.keep _ _ o6, FA.zero⟩, ⟨_, _, _, g9.keep _ _ o7, FA.zero⟩, .inr (.inr ⟨b8, _, _, by omega, rfl, o8, by simp [pairC], rfl⟩), by omega, by omega, by omega, by omega, by omega, by omega⟩
      clear o2 o3 o5 o6 o7 o8 g2 g3 g4 g5 g6 g7 g8 g9 g03 g04 g05 g06 g08 hb2 hb3 hr5 hr6 hr7 hb8 nx5 nx6 nx8 nx67 l5 l6 hpart hpart' hck hch
      obtain ⟨hcg⟩ := hcg
      obtain ⟨hchh⟩ := hchh
      obtain ⟨hres⟩ := hres
      have hrg := check_root hcg
      have hrh := check_root hchh
      have hroot : (g.root, h.root) ∈ pairsS g h := mem_pairsS.2 ⟨⟨hrg.1, hrg.2.1⟩, hrh.1, hrh.2.1⟩
      have hsm : leftW (nxS g h) [] (pairsS g h) ≤ 2 ^ 36 := left_small hg hh fun p _ => by simp [nxS]; omega
      replace hcg := Hid.mk hcg
      replace hchh := Hid.mk hchh
      replace hres := Hid.mk hres
      clear hrg hrh
      repeat with_reducible first | refine nxt_normal ?_ | refine st_nil ?_ | refine cd_seq ?_ | (apply st_q; exact q1)
      with_reducible refine cd_block ?_
      refine cd_loop (fun m a hp => ∃ w met vw, SInv h0 b2 b3 r5 r6 r7 nv mv g h w met (flM g met) ((flM g met).map swP) vw hp ∧ w.length + leftW (nxS g h) met (pairsS g h) < m ∧ w.length + leftW (nxS g h) met (pairsS g h) ≤ 1 + leftW (nxS g h) [] (pairsS g h) ∧ Hid (sameF g h = walkG (okS g h) (nxS g h) (badS g) m w met) ∧ (∀ q ∈ w, q ∈ pairsS g h) ∧ a.defers = [] ∧
        ev a (.tmp 2) = some (.ptr (some (b2, 0))) ∧ ev a (.tmp 3) = some (.ptr (some (b3, 0))) ∧ ev a (.tmp 5) = some (.map (some r5)) ∧ ev a (.tmp 6) = some (.map (some r6)) ∧ ev a (.tmp 7) = some (.map (some r7)) ∧ ev a (.tmp 8) = some vw) ?_ (n := 2 + leftW (nxS g h) [] (pairsS g h))
        ⟨_, _, _, I0, by simp, by simp, hres, by simpa using hroot, by exact n1, by exact e1, by exact e1, by exact e1, by exact e1, by exact e1, by exact e1⟩
      clear I0 hres hroot
      rintro m a hp ⟨w, met, vw, I, hm, hB, hres, hwp, hd, h2', h3', h5', h6', h7', h8'⟩
      have hlw := I.bw.len
      obtain ⟨m, rfl⟩ : ∃ m', m = m' + 1 := ⟨m - 1, by omega⟩
      cases w with
      | nil =>
        have hz : decide (Int.ofNat 0 > 0) = false := rfl
        simp only [List.length_nil] at hlw
        repeat' with_reducible first | refine nxt_normal ?_ | refine nxt_exit ?_ | refine blk_same ?_ | refine st_nil ?_ | refine cd_seq ?_ | refine cd_ops ?_ | refine cd_exit ?_ | refine cd_ret ?_ | (apply st_q; exact q1) | (apply cd_condF; exact e1) | (apply fin_ret; exact n1; exact r1)
        exact ⟨by rw [hres.out]; rfl, I.grow⟩
      | cons p w =>
        have hpp := hwp p (by simp)
        have hwp' : ∀ q ∈ w, q ∈ pairsS g h := fun q hq => hwp q (by simp [hq])
        obtain ⟨⟨a0, a1⟩, b0, b1⟩ := mem_pairsS.1 hpp
        obtain ⟨ka, hka, hkaN, hna⟩ := nodeD_at a0 a1
        obtain ⟨kb, hkb, hkbN, hnb⟩ := nodeD_at b0 b1
        have hB36 : w.length ≤ 2 ^ 36 := by simp only [List.length_cons] at hB; omega
        have e36 : (2 : Nat) ^ 36 = 68719476736 := by decide
        simp only [List.length_cons] at hlw hm hB
        have hz : decide (Int.ofNat (w.length + 1) > 0) = true := by simp
        have hw1 : IntKind.i64.wrap (Int.ofNat (w.length + 1) - 1) = (w.length : Int) := by
          simp only [Int.ofNat_eq_natCast]
          rw [wrap_small (by omega) (by omega)]; omega
        obtain ⟨bw, verw, vsw, rfl, hgw, hbw, ⟨hpl, hpw⟩, Bw⟩ := pop_row I.bw
        have hix : slA (.slice (some (bw, 0)) (w.length + 1)) 2 w.length = some (bw, w.length * 2) := by simp [slA]
        have hpc : pairC p = [.int .i64 (ka : Nat), .int .i64 (kb : Nat)] := by rw [pairC, hka, hkb]
        have hpe : p = ((ka : Int), (kb : Int)) := by ext <;> assumption
        rw [hpc] at hpw
        have ht2 : ∀ x y : AVal, List.take 2 [x, y] = [x, y] := fun _ _ => rfl
        clear a0 a1 b0 b1 hwp
        repeat with_reducible first | refine nxt_normal ?_ | refine st_nil ?_ | refine cd_seq ?_ | refine cd_ops ?_ | refine cd_blockS ?_ | refine cd_skip ?_ | (apply st_q; exact q1) | (apply cd_condT; exact e1)
        refine st_alloc I.grow.wf ?_
        rintro b9 h6 hb9 g6 o9
        refine st_store (by exact e1) (by exact e1) (cs := [.int .i64 (ka : Nat), .int .i64 (kb : Nat)]) rfl rfl g6.wf o9 (by simp) rfl ?_
        rintro v7 h7 p7 o9'
        simp only [List.take_zero, List.nil_append, List.length_cons, List.length_nil, List.drop_succ_cons, List.drop_zero, List.append_nil, Nat.zero_add, Nat.reduceAdd, List.drop_nil, List.cons_append] at o9'
        have g7 : Grow hp h7 := p7.grow hp I.grow.wf g6 hb9
        have I7 := (I.row Bw).other g7
        have hp9 : partA (some 2) [AVal.int .i64 (ka : Nat), .int .i64 (kb : Nat)] 0 = some (.agg [.int .i64 (ka : Nat), .int .i64 (kb : Nat)]) := rfl
        clear o9 p7 g6 I Bw hgw hpw hpl hix
        repeat with_reducible first | refine nxt_normal ?_ | refine st_nil ?_ | refine cd_seq ?_ | refine cd_ops ?_ | (apply st_q; exact q1)
        refine st_sliceHi (by exact e1) (by exact e1) (by omega) ?_
        obtain ⟨v5, es5, c5, o5, f5⟩ := I7.o5
        have hlk5 := f5.look o5 p
        rw [hpc] at hlk5
        cases hmet : met.contains p
        · rw [hmet] at hlk5
          have hnm : p ∉ met := by simpa using hmet
          repeat with_reducible first | refine nxt_normal ?_ | refine st_nil ?_ | refine cd_seq ?_ | refine cd_ops ?_ | refine cd_skip ?_ | (apply st_q; exact q1) | (apply cd_condF; exact e1)
          have hf5 := f5.none hnm
          rw [hpc] at hf5
          refine st_put (by exact e1) (by exact e1) (by exact e1) (by intro hh; cases hh) rfl g7.wf o5 hf5 ?_
          rintro vy h8 py oy
          have fy := f5.put (c := c5) hnm
          rw [hpc] at fy
          have I8 := I7.put5 hw py oy fy
          have o9y := py.kp o5 o9' rfl
          obtain ⟨v2, o2⟩ := I8.o2
          obtain ⟨v3, o3⟩ := I8.o3
          obtain ⟨bn, on, vern, ron, en, vsn, av, lv, hixn, hgn0, hvl, hv5, _, _, _, _, _, hav, hlv⟩ := hN.at (List.getElem?_eq_getElem hkaN)
          obtain ⟨bm, om, verm, rom, em, vsm, bv, mv', hixm, hgm0, hvlm, hv5m, _, _, _, _, _, hbv, hmv⟩ := hM.at (List.getElem?_eq_getElem hkbN)
          have hgn := I8.grow.keep _ _ hgn0
          have hgm := I8.grow.keep _ _ hgm0
          have hmem := List.getElem_mem hkaN
          have hmem' := List.getElem_mem hkbN
          have hla := hav.len
          have hll := hlv.len
          have hlb := hbv.len
          have hlm := hmv.len
          clear hlk5 hf5 o5 o9' hgn0 hgm0 py oy
          repeat with_reducible first | refine nxt_normal ?_ | refine st_nil ?_ | refine cd_seq ?_ | refine cd_draw ?_ | (apply dr_q; exact q1) | (apply dr_ql; exact q1; exact og1)
          refine dr_st (st_alloc I8.grow.wf ?_)
          rintro b10 h10 hb10 g10 o10
          have w10 := g10.wf
          refine st_nil ⟨by simp [heldOk, g10.keep _ _ o2, g10.keep _ _ o9y, g10.keep _ _ hgn, g10.keep _ _ o3, g10.keep _ _ hgm], ?_⟩
          refine dr_st (st_alloc w10 ?_)
          rintro b11 h11 (hb11 : h10.next ≤ b11) g11 o11
          have g811 := g10.trans g11
          refine st_nil ⟨by simp [heldOk, g811.keep _ _ o2, g811.keep _ _ o9y, g811.keep _ _ hgn, g811.keep _ _ o3, g811.keep _ _ hgm], ?_⟩
          have l10 := g10.wf.lt o10
          replace o10 := g11.keep _ _ o10
          have nx8 := g10.next
          refine dr_st (st_store (by exact e1) (by exact e1) (cs := [.int .i64 g.nodes[ka].kind, .str g.nodes[ka].name, av, lv, .bool g.nodes[ka].isOpen]) rfl rfl g11.wf o10 (by simp) (ones_node hla hll) ?_)
          rintro v12 h12 p12 o12
          simp only [List.take_zero, List.nil_append, List.length_cons, List.length_nil, List.drop_succ_cons, List.drop_zero, List.append_nil, Nat.zero_add, Nat.reduceAdd, List.drop_nil, List.cons_append] at o12
          have g12 : Grow h8 h12 := p12.grow h8 I8.grow.wf g811 hb10
          have o11' := p12.keep b11 (by omega) _ o11
          refine st_nil ⟨by simp [heldOk, g12.keep _ _ o2, g12.keep _ _ o9y, g12.keep _ _ hgn, g12.keep _ _ o3, g12.keep _ _ hgm], ?_⟩
          refine dr_st (st_store (by exact e1) (by exact e1) (cs := [.int .i64 h.nodes[kb].kind, .str h.nodes[kb].name, bv, mv', .bool h.nodes[kb].isOpen]) rfl rfl g12.wf o11' (by simp) (ones_node hlb hlm) ?_)
          rintro v13 h13 p13 o13
          simp only [List.take_zero, List.nil_append, List.length_cons, List.length_nil, List.drop_succ_cons, List.drop_zero, List.append_nil, Nat.zero_add, Nat.reduceAdd, List.drop_nil, List.cons_append] at o13
          have g13 : Grow h8 h13 := p13.grow h8 I8.grow.wf g12 (by omega)
          have o10' := p13.keep b10 (by omega) _ o12
          refine st_nil ⟨by simp [heldOk, Nat.testBit], ?_⟩
          have o9z := g13.keep _ _ o9y
          have I13 := I8.other g13
          have ha13 := hav.mono I13.grow
          have hl13 := hlv.mono I13.grow
          have hb13 := hbv.mono I13.grow
          have hm13 := hmv.mono I13.grow
          have hp10 : partA (some 5) [.int .i64 g.nodes[ka].kind, .str g.nodes[ka].name, av, lv, .bool g.nodes[ka].isOpen] 0 = some (nodeV g.nodes[ka] av lv) := rfl
          have hp11 : partA (some 5) [.int .i64 h.nodes[kb].kind, .str h.nodes[kb].name, bv, mv', .bool h.nodes[kb].isOpen] 0 = some (nodeV h.nodes[kb] bv mv') := rfl
          clear o2 o3 hgn hgm o9y o10 o11 o12 o11' p12 p13 g10 g11 g12 g811 hixn hixm hvl hv5 hvlm hv5m w10 hb10 hb11 l10 nx8 I7 I8
          repeat with_reducible first | refine nxt_normal ?_ | refine cd_seq ?_ | refine cd_ops ?_ | refine dr_nil ?_ | (apply st_q; exact q1)
          refine st_call (by exact s1) ((alike_ok H g.nodes[ka] h.nodes[kb] (hg.all _ hmem) av lv bv mv' h13 I13.grow.wf ha13 hl13 hb13 hm13).mono ?_)
          rintro _ h14 ⟨rfl, g14⟩
          have I14 := I13.other g14
          replace o9z := g14.keep _ _ o9z
          replace o10' := g14.keep _ _ o10'
          replace o13 := g14.keep _ _ o13
          have hokp : okS g h p = alikeF g.nodes[ka] h.nodes[kb] := by rw [okS, hna, hnb]
          cases hal : alikeF g.nodes[ka] h.nodes[kb]
          · repeat' with_reducible first | refine nxt_normal ?_ | refine nxt_ret ?_ | refine blk_ret ?_ | refine st_nil ?_ | refine cd_seq ?_ | refine cd_ops ?_ | refine cd_ret ?_ | (apply st_q; exact q1) | (apply cd_condT; exact e1) | (apply fin_ret; exact n1; exact r1)
            refine ⟨?_, I14.grow⟩
            rw [hres.out, walkG, hmet, hokp, hal]; rfl
          · repeat with_reducible first | refine nxt_normal ?_ | refine st_nil ?_ | refine cd_seq ?_ | refine cd_ops ?_ | refine cd_skip ?_ | (apply st_q; exact q1) | (apply cd_condF; exact e1)
            refine st_call (by exact s1) ((gfree_ok H g.nodes[ka] av lv h14 I14.grow.wf).mono ?_)
            rintro _ h15 ⟨rfl, g15⟩
            have I15 := I14.other g15
            replace o9z := g15.keep _ _ o9z
            replace o10' := g15.keep _ _ o10'
            replace o13 := g15.keep _ _ o13
            have hxy : Hid (g.nodes[ka].args.length = h.nodes[kb].args.length) := ⟨by
              simp only [alikeF, Bool.and_eq_true, beq_iff_eq] at hal
              exact hal.1.2⟩
            have hokt := Hid.mk (hokp.trans hal)
            clear I13 I14 g14 g15 ha13 hl13 hb13 hm13 hal hokp
            have hfre : freeF (nodeD g p.1) = freeF g.nodes[ka] := by rw [hna]
            refine st_nil (nxt_normal ?_)
            refine cd_post' (fun a hq => SInv h0 b2 b3 r5 r6 r7 nv mv g h w (met ++ [p]) (flM g (met ++ [p])) ((flM g (met ++ [p])).map swP) (.slice (some (bw, 0)) w.length) hq ∧ met.any (badS g p) = false ∧ (∃ ver, hq.objs.get b10 = some (ver, .cells false 34 [.int .i64 g.nodes[ka].kind, .str g.nodes[ka].name, av, lv, .bool g.nodes[ka].isOpen])) ∧ (∃ ver, hq.objs.get b11 = some (ver, .cells false 34 [.int .i64 h.nodes[kb].kind, .str h.nodes[kb].name, bv, mv', .bool h.nodes[kb].isOpen])) ∧ a.defers = [] ∧
              ev a (.tmp 2) = some (.ptr (some (b2, 0))) ∧ ev a (.tmp 3) = some (.ptr (some (b3, 0))) ∧ ev a (.tmp 5) = some (.map (some r5)) ∧ ev a (.tmp 6) = some (.map (some r6)) ∧ ev a (.tmp 7) = some (.map (some r7)) ∧ ev a (.tmp 8) = some (.slice (some (bw, 0)) w.length) ∧ ev a (.tmp 10) = some (.ptr (some (b10, 0))) ∧ ev a (.tmp 11) = some (.ptr (some (b11, 0)))) ?_ ?_
            · cases hf : freeF g.nodes[ka]
              · rw [hf] at hfre
                have hfl : flM g (met ++ [p]) = flM g met := by rw [flM_put, hfre]; simp
                have hbad := bad_none (met := met) hfre
                repeat with_reducible first | refine nxt_normal ?_ | refine cd_skip ?_ | (apply cd_condF; exact e1)
                exact ⟨by rw [hfl]; exact I15, hbad, ⟨_, o10'⟩, ⟨_, o13⟩, by exact n1, by exact e1, by exact e1, by exact e1, by exact e1, by exact e1, by exact e1, by exact e1, by exact e1⟩
              · rw [hf] at hfre
                have hfl : flM g (met ++ [p]) = flM g met ++ [p] := by rw [flM_put, hfre]; simp
                have hany := bad_any hnm hfre
                obtain ⟨v6, es6, c6, o6, f6⟩ := I15.o6
                obtain ⟨v7', es7, c7, o7, f7⟩ := I15.o7
                obtain ⟨xb, hlk6, hxb⟩ := f6.look o6 p.1
                obtain ⟨xa, hlk7, hxa⟩ := f7.look o7 p.2
                cases hb1 : (flM g met).any fun q => q.1 == p.1
                · cases hb2 : ((flM g met).map swP).any fun q => q.1 == p.2
                  · rw [hb1, hka] at hlk6
                    rw [hb2, hkb] at hlk7
                    rw [hb1, hb2] at hany
                    have hn6 := f6.none (a := p.1) fun q hq hh => by
                      have := List.any_eq_false.1 hb1 q hq
                      simp [hh] at this
                    have hn7 := f7.none (a := p.2) fun q hq hh => by
                      have := List.any_eq_false.1 hb2 q hq
                      simp [hh] at this
                    rw [hka] at hn6
                    rw [hkb] at hn7
                    have F6 := f6.put (c := c6) (p := p) fun q hq hh => by
                      have := List.any_eq_false.1 hb1 q hq
                      simp [hh] at this
                    have F7 := f7.put (c := c7) (p := swP p) fun q hq hh => by
                      have := List.any_eq_false.1 hb2 q hq
                      simp [hh, swP] at this
                    simp only [swP] at F7
                    rw [hka, hkb] at F6 F7
                    replace hany := Hid.mk hany
                    clear hb1 hb2 hxa hxb f6 f7
                    repeat with_reducible first | refine nxt_normal ?_ | refine st_nil ?_ | refine cd_seq ?_ | refine cd_ops ?_ | refine cd_skip ?_ | refine cd_draw ?_ | (apply dr_q; exact q1) | (apply dr_ql; exact q1; exact og1) | (apply st_q; exact q1) | (apply st_qT; exact e1; exact q1) | (apply st_qF; exact e1) | (apply cd_condT; exact e1) | (apply cd_condF; exact e1)
                    refine dr_st (st_put (by exact e1) (by exact e1) (by exact e1) (by intro hh; cases hh) rfl I15.grow.wf o6 hn6 ?_)
                    rintro vy hy py oy
                    have o7y := py.keep _ (Ne.symm I15.low.2.2.2.2.2) _ o7
                    have Iy := I15.put6 hw py oy F6
                    have o9q := py.kp o6 o9z rfl
                    refine st_nil ⟨by simp [heldOk, Nat.testBit, o9q], ?_⟩
                    refine dr_st (st_put (by exact e1) (by exact e1) (by exact e1) (by intro hh; cases hh) rfl Iy.grow.wf o7y hn7 ?_)
                    rintro vz hz' pz oz
                    have Iz := Iy.put7 hw pz oz F7
                    refine st_nil ⟨by simp [heldOk, Nat.testBit], ?_⟩
                    have o10z := pz.kp o7y (py.kp o6 o10' rfl) rfl
                    have o13z := pz.kp o7y (py.kp o6 o13 rfl) rfl
                    clear o9q o7y py pz oy oz hn6 hn7 hlk6 hlk7 F6 F7
                    repeat with_reducible first | refine nxt_normal ?_ | refine dr_nil ?_
                    refine ⟨?_, by rw [hany.out]; rfl, ⟨_, o10z⟩, ⟨_, o13z⟩, by exact n1, by exact e1, by exact e1, by exact e1, by exact e1, by exact e1, by exact e1, by exact e1, by exact e1⟩
                    rw [hfl, List.map_append]
                    have hps : List.map swP [p] = [((kb : Int), (ka : Int))] := by rw [hpe]; rfl
                    rw [hps]
                    exact Iz
                  · rw [hb1, hka] at hlk6
                    rw [hb2, hkb] at hlk7
                    have hne : (xa != (ka : Int)) = true := by
                      obtain ⟨q, hq, hq1, hq2⟩ := hxa hb2
                      obtain ⟨q', hq', rfl⟩ := List.mem_map.1 hq
                      simp only [swP] at hq1 hq2
                      rw [bne_iff_ne]
                      rintro rfl
                      refine hnm ?_
                      have : q' = p := by ext <;> simp_all
                      rw [← this]; exact (List.mem_filter.1 hq').1
                    have hne2 : met.any (badS g p) = true := by rw [hany, hb2]; simp
                    clear hany hb1 hb2 hxa hxb f6 f7
                    replace hne2 := Hid.mk hne2
                    repeat' with_reducible first | refine nxt_normal ?_ | refine nxt_ret ?_ | refine blk_ret ?_ | refine st_nil ?_ | refine cd_seq ?_ | refine cd_ops ?_ | refine cd_ret ?_ | (apply st_q; exact q1) | (apply st_qT; exact e1; exact q1) | (apply st_qF; exact e1) | (apply cd_condT; exact e1) | (apply fin_ret; exact n1; exact r1)
                    refine ⟨?_, I15.grow⟩
                    rw [hres.out, walkG, hmet, hne2.out]; simp
                · rw [hb1, hka] at hlk6
                  rw [hkb] at hlk7
                  have hne : (xb != (kb : Int)) = true := by
                    obtain ⟨q, hq, hq1, hq2⟩ := hxb hb1
                    rw [bne_iff_ne]
                    rintro rfl
                    refine hnm ?_
                    have : q = p := by ext <;> simp_all
                    rw [← this]; exact (List.mem_filter.1 hq).1
                  have hne2 : met.any (badS g p) = true := by rw [hany, hb1]; simp
                  clear hany hb1 hxa hxb f6 f7
                  replace hne2 := Hid.mk hne2
                  generalize (((flM g met).map swP).any fun q => q.1 == p.2) = hb2 at hlk7
                  repeat' with_reducible first | refine nxt_normal ?_ | refine nxt_ret ?_ | refine blk_ret ?_ | refine st_nil ?_ | refine cd_seq ?_ | refine cd_ops ?_ | refine cd_ret ?_ | (apply st_q; exact q1) | (apply st_qT; exact e1; exact q1) | (apply st_qF; exact e1) | (apply st_qU; exact e1) | (apply cd_condT; exact e1) | (apply fin_ret; exact n1; exact r1)
                  refine ⟨?_, I15.grow⟩
                  rw [hres.out, walkG, hmet, hne2.out]; simp
            · clear I15 o9z o10' o13 hd h2' h3' h5' h6' h7' h8'
              rintro a hq ⟨I, hbad, o10, o11, hd, h2', h3', h5', h6', h7', h8', h10', h11'⟩
              refine nxt_normal ?_
              have hax : g.nodes[ka].args.length ≤ 4096 := by
                have := leftG_one g.nodes 0 _ hmem
                have := hg.tiny
                omega
              refine push_ok hw I o10 o11 hav hbv hxy.out hax hB36 hd h2' h3' h5' h6' h7' h8' h10' h11' ?_
              clear I o10 o11 hd h2' h3' h5' h6' h7' h8' h10' h11' hax
              intro a hr vw' I hd h2' h3' h5' h6' h7' h8'
              have hnx : nxS g h p = (List.zip g.nodes[ka].args h.nodes[kb].args).reverse := by rw [nxS, hna, hnb]
              have hput := leftW_put (nxS g h) hmet hpp
              rw [← hnx] at I
              repeat with_reducible first | refine nxt_normal ?_ | refine blk_normal ?_
              refine ⟨m, by omega, _, _, vw', I, by rw [List.length_append]; omega, by rw [List.length_append]; omega, ⟨?_⟩, ?_, by exact n1, by exact e1, by exact e1, by exact e1, by exact e1, by exact e1, by exact e1⟩
              · rw [hres.out, walkG, hmet, hokt.out, hbad]; rfl
              · intro q hq'
                rcases List.mem_append.1 hq' with hq' | hq'
                · exact nxS_in hcg.out hchh.out hpp q hq'
                · exact hwp' q hq'
        · rw [hmet] at hlk5
          repeat with_reducible first | refine nxt_normal ?_ | refine nxt_exit ?_ | refine blk_same ?_ | refine st_nil ?_ | refine cd_seq ?_ | refine cd_ops ?_ | refine cd_exit ?_ | (apply st_q; exact q1) | (apply cd_condT; exact e1)
          refine ⟨m, by omega, w, met, _, I7, by omega, by omega, ⟨by rw [hres.out, walkG, hmet]; rfl⟩, hwp', by exact n1, by exact e1, by exact e1, by exact e1, by exact e1, by exact e1, by exact e1⟩
    · repeat' with_reducible first | refine nxt_normal ?_ | refine nxt_ret ?_ | refine st_nil ?_ | refine cd_seq ?_ | refine cd_ops ?_ | refine cd_ret ?_ | (apply st_q; exact q1) | (apply st_qT; exact e1; exact q1) | (apply cd_condT; exact e1) | (apply fin_ret; exact n1; exact r1)
      refine ⟨?_, g05⟩
      have h2 : (checkF h == 0) = false := by simpa using hch
      rw [sameF, h2]; simp
  · repeat' with_reducible first | refine nxt_normal ?_ | refine nxt_ret ?_ | refine st_nil ?_ | refine cd_seq ?_ | refine cd_ops ?_ | refine cd_ret ?_ | (apply st_q; exact q1) | (apply st_qF; exact e1) | (apply st_eF; exact e1) | (apply cd_condT; exact e1) | (apply fin_ret; exact n1; exact r1)
    refine ⟨?_, g04⟩
    have h1 : (checkF g == 0) = false := by simpa using hck
    rw [sameF, h1]; rfl
end
end Go.Ab.S
end
