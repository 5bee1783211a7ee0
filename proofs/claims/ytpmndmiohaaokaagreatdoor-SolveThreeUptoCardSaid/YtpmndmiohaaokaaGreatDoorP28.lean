import Derived.Test.YtpmndmiohaaokaaGreatDoorP21
import Derived.Test.YtpmndmiohaaokaaGreatDoorP22
import Derived.Test.YtpmndmiohaaokaaGreatDoorP26
import Derived.LaidHandle
import Derived.Lay
import Derived.Deep.DeepWitnessRowRef
import Derived.ProofKit
import Derived.KernelRfl
import Derived.JoinedCond
import Derived.SevenTiedAt
/-
  Part 28 of the proof.
-/
set_option linter.all false
section
namespace Go.Ab.S
open Go Go.Ab
set_option maxHeartbeats 8000000
section
variable {fns : FnsT} {summ : SumT}
variable (H : Has fns summ) (HS : HasSort summ) (HA : HasAs summ)
include H HS HA
theorem SThree1_ok (g h k : Graph) (cg : zAF g = 0) (ch : zAF h = 0) (ck : zAF k = 0) (hs : g.nodes.length + h.nodes.length <= 1048576) (sm : MeetSm g h) (sx : ∀ x, MR g h x -> MeetSm x k) (ga : ∀ x a, MR g h x -> MR x k a -> GTi a) {gv hv kv : AVal} {h0 : AHeap} (w0 : WF h0) (hg : GraphAt h0 gv g) (hh : GraphAt h0 hv h) (hk : GraphAt h0 kv k) :
  Cl fns summ 22 [gv, hv, kv] h0 fun r h' => Grow h0 h' /\ ∃ un ur p a, r = .tuple [.agg [un, .int .i64 ur], .bool p] /\ one un = true /\ All3 g h k p a /\ (p = true -> GraphAt h' (.agg [un, .int .i64 ur]) a /\ GTi a) := by
 obtain ⟨gn, rfl, hN⟩ := hg
 obtain ⟨hn, rfl, hM⟩ := hh
 obtain ⟨kn, rfl, hK⟩ := hk
 have hp1 : zBC (some 2) [gn, .int .i64 g.root] 0 = some (.agg [gn, .int .i64 g.root]) := rfl
 have ht2 : ∀ x y : AVal, List.take 2 [x, y] = [x, y] := fun _ _ => rfl
 refine H.go (fn := F_SThree1) rfl (by decide) rfl rfl ?_
 unfold F_SThree1
 dsimp only [qQ, qE, qN, gQ, gE, vi, tm, mt, lo, fa]
 refine zAE (zAD ?_)
 refine zBL (by exact e1) (by exact cc) w0 ?_
 rintro b3 h1 hb3 g1' o3
 refine zBL (by exact e1) (by exact cc) g1'.wf ?_
 rintro b4 h2 hb4 g2' o4
 refine zBL (by exact e1) (by exact cc) g2'.wf ?_
 rintro b5 h3 hb5 g3' o5
 refine zAY g3'.wf ?_
 rintro b6 h4 hb6 g4' o6
 replace o3 := g4'.keep _ _ (g3'.keep _ _ (g2'.keep _ _ o3))
 replace o4 := g4'.keep _ _ (g3'.keep _ _ o4)
 replace o5 := g4'.keep _ _ o5
 have G := ((g1'.trans g2').trans g3').trans g4'
 have l6 : h0.next <= b6 := by have := g1'.next; have := g2'.next; have := g3'.next; omega
 clear g1' g2' g3' g4' hb3 hb4 hb5 hb6
 repeat with_reducible first | refine zAA ?_ | refine zAC ?_ | refine zAE ?_ | refine zAD ?_ | (apply st_q; exact q1)
 refine zAb (by exact s1) ((Meet' H HS HA g h sm G.wf ⟨gn, rfl, hN.mono G⟩ ⟨hn, rfl, hM.mono G⟩).mono ?_)
 rintro _ h5 ⟨g5, uv, code, rfl, hc⟩
 replace o3 := g5.keep _ _ o3
 replace o4 := g5.keep _ _ o4
 replace o5 := g5.keep _ _ o5
 replace o6 := g5.keep _ _ o6
 have hu : ∃ un ur, uv = .agg [un, .int .i64 ur] /\ one un = true := by
  rcases hc with ⟨_, x, _, own⟩ | ⟨_, k1, _⟩
  ·obtain ⟨un, cs, rfl, kB, _⟩ := own
   exact ⟨un, x.root, rfl, zAR kB.len⟩
  ·exact ⟨_, _, k1, rfl⟩
 obtain ⟨un, ur, rfl, hone⟩ := hu
 have G5 := G.trans g5
 have hc' := Hid.mk hc
 clear hc g5 G
 repeat with_reducible (apply st_q; exact q1)
 refine zAY G5.wf ?_
 rintro b8 h6 hb8 g6 o8
 refine zAG (by exact e1) (by exact e1) (by exact cc) rfl g6.wf o8 (by simp) (by simp only [List.all_cons, List.all_nil, hone, Bool.true_and, Bool.and_true]; rfl) ?_
 rintro v7 h7 p7 o8'
 simp only [zlY, zlA, zlC, zlN, zlD, zlZ, zlE, Nat.zero_add, Nat.reduceAdd, zlX, zlK] at o8'
 have g7 : Grow h5 h7 := p7.grow h5 G5.wf g6 hb8
 replace o3 := g7.keep _ _ o3
 replace o4 := g7.keep _ _ o4
 replace o5 := g7.keep _ _ o5
 replace o6 := g7.keep _ _ o6
 have G7 := G5.trans g7
 have lb6 := G7.wf.lt o6
 have g7' := Hid.mk g7
 clear o8 p7 g6 g7 G5 hb8
 cases hz : (code != 0)
 ·obtain rfl : code = 0 := by simpa using hz
  obtain ⟨x, hx, own⟩ : ∃ x, MR g h x /\ GraphAt h5 (.agg [un, .int .i64 ur]) x := by
   rcases hc'.out with ⟨_, x, hx, own⟩ | ⟨k1, _⟩
   ·exact ⟨x, hx, own.graph⟩
   ·exact absurd rfl k1
  have hx' := Hid.mk hx
  have own' := Hid.mk own
  clear hx own hc'
  repeat with_reducible first | refine zAA ?_ | refine zAC ?_ | refine zAE ?_ | refine zAD ?_ | refine zAT ?_ | (apply st_q; exact q1) | (apply zAL; exact e1)
  have hM2 := Meet' H HS HA x k (sx x hx'.out) G7.wf (gv := .agg [un, .int .i64 ur]) (hv' := .agg [kn, .int .i64 k.root]) (by
   obtain ⟨nv, hq, hNx⟩ := own'.out
   exact ⟨nv, hq, hNx.mono g7'.out⟩) ⟨kn, rfl, hK.mono G7⟩
  refine zAb (by exact s1) (hM2.mono ?_)
  rintro _ h9 ⟨g9, uv2, code2, rfl, hc2⟩
  replace o3 := g9.keep _ _ o3
  replace o4 := g9.keep _ _ o4
  replace o5 := g9.keep _ _ o5
  replace o6 := g9.keep _ _ o6
  have hu2 : ∃ un ur, uv2 = .agg [un, .int .i64 ur] /\ one un = true := by
   rcases hc2 with ⟨_, x, _, own⟩ | ⟨_, k1, _⟩
   ·obtain ⟨un, cs, rfl, kB, _⟩ := own
    exact ⟨un, x.root, rfl, zAR kB.len⟩
   ·exact ⟨_, _, k1, rfl⟩
  obtain ⟨un2, ur2, rfl, hone2⟩ := hu2
  have G9 := G7.trans g9
  have hfin : Hid (∃ a, All3 g h k (code2 == 0) a /\ ((code2 == 0) = true -> OwnG h9 h7.next (.agg [un2, .int .i64 ur2]) a /\ GTi a)) := ⟨by
   rcases hc2 with ⟨rfl, a, ha, own⟩ | ⟨k1, _, k2⟩
   ·exact ⟨a, .inl ⟨rfl, x, hx'.out, ha⟩, fun _ => ⟨own, ga x a hx'.out ha⟩⟩
   ·have hz2 : (code2 == 0) = false := by simpa using k1
    rw [hz2]
    exact ⟨g, .inr ⟨rfl, .inr ⟨x, hx'.out, (k2 (hx'.out.check cg ch hs) ck).2⟩⟩, fun h => by cases h⟩⟩
  clear hc2 g9 G7 hM2 o8'
  repeat with_reducible (apply st_q; exact q1)
  refine zAY G9.wf ?_
  rintro b10 h10 hb10 g10 o10
  refine zAG (by exact e1) (by exact e1) (by exact cc) rfl g10.wf o10 (by simp) (by simp only [List.all_cons, List.all_nil, hone2, Bool.true_and, Bool.and_true]; rfl) ?_
  rintro v11 h11 p11 o11
  simp only [zlY, zlA, zlC, zlN, zlD, zlZ, zlE, Nat.zero_add, Nat.reduceAdd, zlX, zlK] at o11
  have g11 : Grow h9 h11 := p11.grow h9 G9.wf g10 hb10
  replace o6 := g11.keep _ _ o6
  have G11 := G9.trans g11
  have l9 := G9.next
  have g11' := Hid.mk g11
  clear o10 p11 g10 g11 o3 o4 o5
  repeat with_reducible first | refine zAA ?_ | refine zAC ?_ | refine zAE ?_ | refine zAD ?_ | (apply st_q; exact q1)
  refine zAG (by exact e1) (by exact e1) (by exact cc) rfl G11.wf o6 (by simp) (by simp only [List.all_cons, List.all_nil, hone2, Bool.true_and, Bool.and_true]; rfl) ?_
  rintro v12 h12 p12 o12
  simp only [zlY, zlA, zlC, zlN, zlD, zlZ, zlE, Nat.zero_add, Nat.reduceAdd, zlX, zlK] at o12
  have g12 := p12.grow h0 w0 G11 l6
  have hp12 : zBC (some 2) [un2, .int .i64 ur2] 0 = some (.agg [un2, .int .i64 ur2]) := rfl
  have hgr : Hid (∀ a, OwnG h9 h7.next (.agg [un2, .int .i64 ur2]) a -> GraphAt h12 (.agg [un2, .int .i64 ur2]) a) := ⟨fun a ha => ((ha.grow g11'.out).stay fun c p hc hp _ => p12.keep c (by omega) _ hp).graph⟩
  clear p12 o6 o11
  repeat' with_reducible first | refine zAA ?_ | refine zAC ?_ | refine zAO ?_ | (apply st_q; exact q1) | (apply zAI; exact n1; exact r1)
  obtain ⟨a, ha1, ha2⟩ := hfin.out
  exact ⟨g12, un2, ur2, _, a, rfl, hone2, ha1, fun hp => ⟨hgr.out a (ha2 hp).1, (ha2 hp).2⟩⟩
 ·have hno : Hid (¬ Consi (zAw g h) (zBa g h)) := ⟨by
   have hc0 : code ≠ 0 := by simpa using hz
   rcases hc'.out with ⟨k1, _⟩ | ⟨_, _, k⟩
   ·exact absurd k1 hc0
   ·exact (k cg ch).2⟩
  repeat with_reducible first | refine zAA ?_ | refine zAC ?_ | refine zAE ?_ | refine zAD ?_ | (apply st_q; exact q1) | (apply zAJ; exact e1)
  refine zAG (by exact e1) (by exact e1) (by exact cc) rfl G7.wf o6 (by simp) (by simp only [List.all_cons, List.all_nil, hone, Bool.true_and, Bool.and_true]; rfl) ?_
  rintro v9 h9 p9 o9
  simp only [zlY, zlA, zlC, zlN, zlD, zlZ, zlE, Nat.zero_add, Nat.reduceAdd, zlX, zlK] at o9
  have g9 := p9.grow h0 w0 G7 l6
  have hp9 : zBC (some 2) [un, .int .i64 ur] 0 = some (.agg [un, .int .i64 ur]) := rfl
  clear p9 o6
  repeat' with_reducible first | refine zAA ?_ | refine zAa ?_ | refine zAC ?_ | refine zAO ?_ | (apply st_q; exact q1) | (apply zAI; exact n1; exact r1)
  exact ⟨g9, un, ur, false, g, rfl, hone, .inr ⟨rfl, .inl hno.out⟩, fun h => by cases h⟩
end
end Go.Ab.S
end
section
namespace Go.Ab.S
open Go Go.Ab
set_option maxHeartbeats 1000000
structure Few (n : Nat) (g : Graph) : Prop where
 t : GTi g
 c : zAF g = 0
 s : g.nodes.length + zAk [] g.nodes 0 <= n
theorem zDg {g h k : Graph} (fg : Few 100 g) (fh : Few 100 h) (fk : Few 100 k) : MeetSm g h /\ (∀ x, MR g h x -> MeetSm x k) /\ (∀ x a, MR g h x -> MR x k a -> GTi a) /\ ∀ x, MR g h x -> x.nodes.length + k.nodes.length <= 1048576 := by
 have sg := fg.s
 have sh := fh.s
 have sk := fk.s
 have lg := zEI fg.c
 have lh := zEI fh.c
 have lk := zEI fk.c
 have gh : g.nodes.length + h.nodes.length <= 1048576 := by omega
 have hT : ∀ s ∈ zCl g ++ zCl h ++ zCl k, s.length < 2 ^ 60 := fun s hs => by
  rcases List.mem_append.1 hs with hs | hs
  ·exact (List.mem_append.1 hs).elim (zFY fg.t.toGraphSm s) (zFY fh.t.toGraphSm s)
  ·exact zFY fk.t.toGraphSm s hs
 have hlen : (zCl g ++ zCl h ++ zCl k).length <= 300 := by simp only [List.length_append]; omega
 have Bx : ∀ x, MR g h x -> Bd 300 (zCl g ++ zCl h ++ zCl k) x /\ x.nodes.length <= 200 := fun x m => by
  have := m.bd (A := 300) (S := zCl g ++ zCl h ++ zCl k) fg.c fh.c gh ((Bd.self g).mono (by omega) fun s h => List.mem_append.2 (.inl (List.mem_append.2 (.inl h)))) ((Bd.self h).mono (by omega) fun s h => List.mem_append.2 (.inl (List.mem_append.2 (.inr h))))
  exact ⟨this.1, by omega⟩
 have tx : ∀ x, MR g h x -> GTi x := fun x m => (Bx x m).1.gti (m.check fg.c fh.c gh) (by have := (Bx x m).2; omega) (by decide) (by omega) hT
 refine ⟨.of (N := 200) (L := 200) fg.t fh.t (by omega) (by omega) (by decide) (by decide) (by decide), fun x m => ?_, fun x a m m' => ?_, fun x m => by have := (Bx x m).2; omega⟩
 ·obtain ⟨b, l⟩ := Bx x m
  have h1 := b.left (m.check fg.c fh.c gh)
  have h2 : x.nodes.length * max 300 (zCl g ++ zCl h ++ zCl k).length <= 200 * 300 := Nat.mul_le_mul l (by omega)
  exact .of (N := 300) (L := 60100) (tx x m) fk.t (by omega) (by omega) (by decide) (by decide) (by decide)
 ·obtain ⟨b, l⟩ := Bx x m
  have cx := m.check fg.c fh.c gh
  obtain ⟨ba, la⟩ := m'.bd (A := 300) (S := zCl g ++ zCl h ++ zCl k) cx fk.c (by omega) b ((Bd.self k).mono (by omega) fun s h => List.mem_append.2 (.inr h))
  exact ba.gti (m'.check cx fk.c (by omega)) (by omega) (by decide) (by omega) hT
theorem zOV {g h k a b : Graph} {p q : Bool} (fg : Few 100 g) (fh : Few 100 h) (fk : Few 100 k) (A : All3 g h k p a) (B : All3 h k g q b) : p = q /\ (p = true -> zAF a = 0 /\ zAF b = 0 /\ zFJ a b = true) := by
 have sg := fg.s
 have sh := fh.s
 have sk := fk.s
 exact zOW fg.c fh.c fk.c (by omega) (by omega) (zDg fg fh fk).2.2.2 (zDg fh fk fg).2.2.2 A B
end Go.Ab.S
end
section
namespace Go.Ab.S
open Go Go.Ab
set_option maxHeartbeats 8000000
section
variable {fns : FnsT} {summ : SumT}
variable (H : Has fns summ) (HS : HasSort summ) (HA : HasAs summ) (HR : HasRead summ)
include H HS HA HR
theorem SolveThree_ok (g h k : Graph) (hg : Sane g) (hh : Sane h) (hk : Sane k) (v u t : AVal) (h0 : AHeap) (hw : WF h0) (hv : GraphAt h0 v g) (hu : GraphAt h0 u h) (ht : GraphAt h0 t k) : Cl fns summ 8 [v, u, t] h0 fun r h' => r = .bool true /\ Grow h0 h' := by
 obtain ⟨nv, rfl, hN⟩ := hv
 obtain ⟨mv, rfl, hM⟩ := hu
 obtain ⟨lv, rfl, hL⟩ := ht
 refine H.go (fn := F_SolveThree) rfl (by decide) rfl rfl ?_
 unfold F_SolveThree
 dsimp only [qQ, qE, qN, gQ, gE, vi, tm, mt, lo, fa]
 refine zAE (zAD ?_)
 refine zBL (by exact e1) (by exact cc) hw ?_
 rintro b3 h1 hb3 g1 o3
 refine zBL (by exact e1) (by exact cc) g1.wf ?_
 rintro b4 h2 hb4 g2 o4
 replace o3 := g2.keep _ _ o3
 refine zBL (by exact e1) (by exact cc) g2.wf ?_
 rintro b5 h3 hb5 g3 o5
 replace o3 := g3.keep _ _ o3
 replace o4 := g3.keep _ _ o4
 have G := (g1.trans g2).trans g3
 clear g1 g2 g3 hb3 hb4 hb5
 have p3 : zBC (some 2) [nv, .int .i64 g.root] 0 = some (.agg [nv, .int .i64 g.root]) := rfl
 have p4 : zBC (some 2) [mv, .int .i64 h.root] 0 = some (.agg [mv, .int .i64 h.root]) := rfl
 have p5 : zBC (some 2) [lv, .int .i64 k.root] 0 = some (.agg [lv, .int .i64 k.root]) := rfl
 have ht2 : ∀ x y : AVal, List.take 2 [x, y] = [x, y] := fun _ _ => rfl
 repeat with_reducible first | refine zAA ?_ | refine zAC ?_ | refine zAE ?_ | refine zAD ?_ | (apply st_q; exact q1)
 refine zAb (by exact s1) ((zMb H HS HA HR h3 G.wf).mono ?_)
 rintro _ h4 ⟨rfl, g4⟩
 replace o3 := g4.keep _ _ o3
 replace o4 := g4.keep _ _ o4
 replace o5 := g4.keep _ _ o5
 replace G := G.trans g4
 clear g4
 repeat with_reducible first | refine zAA ?_ | refine zAC ?_ | refine zAE ?_ | refine zAD ?_ | refine zAT ?_ | (apply st_q; exact q1) | (apply zAL; exact e1)
 refine zAb (by exact s1) ((Great_ok H g hg.great _ h4 G.wf ⟨nv, rfl, hN.mono G⟩).mono ?_)
 rintro _ h5 ⟨rfl, g5⟩
 replace o3 := g5.keep _ _ o3
 replace o4 := g5.keep _ _ o4
 replace o5 := g5.keep _ _ o5
 replace G := G.trans g5
 clear g5
 cases c1 : decide ((zDO g : Int) > 100)
 rotate_left
 ·repeat' with_reducible first | refine zAA ?_ | refine zAa ?_ | refine zAC ?_ | refine zAE ?_ | refine zAD ?_ | refine zAO ?_ | (apply st_q; exact q1) | (apply zDV; exact e1) | (apply zFN; exact e1) | (apply zAJ; exact e1) | (apply zAI; exact n1; exact r1)
  exact ⟨rfl, G⟩
 have tg : Hid (zDO g <= 100) := ⟨by have := of_decide_eq_false c1; omega⟩
 repeat with_reducible first | (apply st_q; exact q1) | (apply zBW; exact e1; exact q1)
 refine zBi (by exact e1) (by exact s1) ((Great_ok H h hh.great _ h5 G.wf ⟨mv, rfl, hM.mono G⟩).mono ?_)
 rintro _ h6 ⟨rfl, gg⟩
 replace o3 := gg.keep _ _ o3
 replace o4 := gg.keep _ _ o4
 replace o5 := gg.keep _ _ o5
 replace G := G.trans gg
 clear gg
 cases c2 : decide ((zDO h : Int) > 100)
 rotate_left
 ·repeat' with_reducible first | refine zAA ?_ | refine zAa ?_ | refine zAC ?_ | refine zAE ?_ | refine zAD ?_ | refine zAO ?_ | (apply st_q; exact q1) | (apply zBW; exact e1; exact q1) | (apply zDV; exact e1) | (apply zFN; exact e1) | (apply zAJ; exact e1) | (apply zAI; exact n1; exact r1)
  exact ⟨rfl, G⟩
 have th : Hid (zDO h <= 100) := ⟨by have := of_decide_eq_false c2; omega⟩
 repeat with_reducible first | (apply st_q; exact q1) | (apply zBW; exact e1; exact q1)
 refine zBi (by exact e1) (by exact s1) ((Great_ok H k hk.great _ h6 G.wf ⟨lv, rfl, hL.mono G⟩).mono ?_)
 rintro _ h7 ⟨rfl, gg⟩
 replace o3 := gg.keep _ _ o3
 replace o4 := gg.keep _ _ o4
 replace o5 := gg.keep _ _ o5
 replace G := G.trans gg
 clear gg
 cases c3 : decide ((zDO k : Int) > 100)
 rotate_left
 ·repeat' with_reducible first | refine zAA ?_ | refine zAa ?_ | refine zAC ?_ | refine zAE ?_ | refine zAD ?_ | refine zAO ?_ | (apply st_q; exact q1) | (apply zBW; exact e1; exact q1) | (apply zDV; exact e1) | (apply zFN; exact e1) | (apply zAJ; exact e1) | (apply zAI; exact n1; exact r1)
  exact ⟨rfl, G⟩
 have tk : Hid (zDO k <= 100) := ⟨by have := of_decide_eq_false c3; omega⟩
 repeat with_reducible first | (apply st_q; exact q1) | (apply zBW; exact e1; exact q1)
 refine zBi (by exact e1) (by exact s1) ((Check_ok H g hg.sm _ h7 G.wf ⟨nv, rfl, hN.mono G⟩).mono ?_)
 rintro _ h8 ⟨rfl, gg⟩
 replace o3 := gg.keep _ _ o3
 replace o4 := gg.keep _ _ o4
 replace o5 := gg.keep _ _ o5
 replace G := G.trans gg
 clear gg
 cases c4 : (zAF g != 0)
 rotate_left
 ·repeat' with_reducible first | refine zAA ?_ | refine zAa ?_ | refine zAC ?_ | refine zAE ?_ | refine zAD ?_ | refine zAO ?_ | (apply st_q; exact q1) | (apply zBW; exact e1; exact q1) | (apply zDV; exact e1) | (apply zFN; exact e1) | (apply zAJ; exact e1) | (apply zAI; exact n1; exact r1)
  exact ⟨rfl, G⟩
 have kg : Hid (Few 100 g) := ⟨⟨hg.tiny (by have := tg.out; omega), by simpa using c4, by have := zGQ g; have := tg.out; omega⟩⟩
 repeat with_reducible first | (apply st_q; exact q1) | (apply zBW; exact e1; exact q1)
 refine zBi (by exact e1) (by exact s1) ((Check_ok H h hh.sm _ h8 G.wf ⟨mv, rfl, hM.mono G⟩).mono ?_)
 rintro _ h9 ⟨rfl, gg⟩
 replace o3 := gg.keep _ _ o3
 replace o4 := gg.keep _ _ o4
 replace o5 := gg.keep _ _ o5
 replace G := G.trans gg
 clear gg
 cases c5 : (zAF h != 0)
 rotate_left
 ·repeat' with_reducible first | refine zAA ?_ | refine zAa ?_ | refine zAC ?_ | refine zAE ?_ | refine zAD ?_ | refine zAO ?_ | (apply st_q; exact q1) | (apply zBW; exact e1; exact q1) | (apply zDV; exact e1) | (apply zFN; exact e1) | (apply zAJ; exact e1) | (apply zAI; exact n1; exact r1)
  exact ⟨rfl, G⟩
 have kh : Hid (Few 100 h) := ⟨⟨hh.tiny (by have := th.out; omega), by simpa using c5, by have := zGQ h; have := th.out; omega⟩⟩
 repeat with_reducible first | (apply st_q; exact q1) | (apply zBW; exact e1; exact q1)
 refine zBi (by exact e1) (by exact s1) ((Check_ok H k hk.sm _ h9 G.wf ⟨lv, rfl, hL.mono G⟩).mono ?_)
 rintro _ h10 ⟨rfl, gg⟩
 replace o3 := gg.keep _ _ o3
 replace o4 := gg.keep _ _ o4
 replace o5 := gg.keep _ _ o5
 replace G := G.trans gg
 clear gg
 cases c6 : (zAF k != 0)
 rotate_left
 ·repeat' with_reducible first | refine zAA ?_ | refine zAa ?_ | refine zAC ?_ | refine zAE ?_ | refine zAD ?_ | refine zAO ?_ | (apply st_q; exact q1) | (apply zBW; exact e1; exact q1) | (apply zAJ; exact e1) | (apply zAI; exact n1; exact r1)
  exact ⟨rfl, G⟩
 have kk : Hid (Few 100 k) := ⟨⟨hk.tiny (by have := tk.out; omega), by simpa using c6, by have := zGQ k; have := tk.out; omega⟩⟩
 repeat with_reducible first | refine zAA ?_ | refine zAC ?_ | refine zAE ?_ | refine zAD ?_ | refine zAT ?_ | (apply st_q; exact q1) | (apply zBW; exact e1; exact q1) | (apply zAL; exact e1)
 refine zIN (fun A => A.defers = [] /\ ev A (.tmp 3) = some (.ptr (some (b3, 0))) /\ ev A (.tmp 4) = some (.ptr (some (b4, 0))) /\ ev A (.tmp 5) = some (.ptr (some (b5, 0))) /\ ev A (.tmp 7) = some (.func 22 [] []) /\ ev A (.tmp 43) = some (.func 22 [] []) /\ ev A (.tmp 44) = some (.agg [nv, .int .i64 g.root]) /\ ev A (.tmp 45) = some (.agg [mv, .int .i64 h.root]) /\ ev A (.tmp 46) = some (.agg [lv, .int .i64 k.root])) ⟨by exact n1, by exact e1, by exact e1, by exact e1, by exact e1, by exact e1, by exact e1, by exact e1, by exact e1⟩ ?_
 rintro a ⟨hd, t3', t4', t5', t7', t43', t44', t45', t46'⟩
 clear c1 c2 c3 c4 c5 c6
 refine zFe (by exact e1) (by exact s1) ((SThree1_ok H HS HA g h k kg.out.c kh.out.c kk.out.c (by have := kg.out.s; have := kh.out.s; omega) (zDg kg.out kh.out kk.out).1 (zDg kg.out kh.out kk.out).2.1 (zDg kg.out kh.out kk.out).2.2.1 G.wf ⟨nv, rfl, hN.mono G⟩ ⟨mv, rfl, hM.mono G⟩ ⟨lv, rfl, hL.mono G⟩).mono ?_)
 rintro _ hA1 ⟨gA, un1, ur1, p1, a1, rfl, hone1, hall1, hgr1⟩
 replace hall1 := Hid.mk hall1
 replace hgr1 := Hid.mk hgr1
 replace o3 := gA.keep _ _ o3
 replace o4 := gA.keep _ _ o4
 replace o5 := gA.keep _ _ o5
 repeat with_reducible (apply st_q; exact q1)
 refine zAY gA.wf ?_
 rintro b8 hB1 hb gB oo
 refine zAG (by exact e1) (by exact e1) (by exact cc) rfl gB.wf oo (by simp) (by simp only [List.all_cons, List.all_nil, hone1, Bool.true_and, Bool.and_true]; rfl) ?_
 rintro vv hC1 pp o8
 simp only [zlY, zlA, zlC, zlN, zlD, zlZ, zlE, Nat.zero_add, Nat.reduceAdd, zlX, zlK] at o8
 have gC : Grow hA1 hC1 := pp.grow hA1 gA.wf gB hb
 have gr1 : Hid (p1 = true -> GraphAt hC1 (.agg [un1, .int .i64 ur1]) a1 /\ GTi a1) := ⟨fun hp => by
  obtain ⟨⟨nv', hq, hn'⟩, ht⟩ := hgr1.out hp
  exact ⟨⟨nv', hq, hn'.mono gC⟩, ht⟩⟩
 replace o3 := gC.keep _ _ o3
 replace o4 := gC.keep _ _ o4
 replace o5 := gC.keep _ _ o5
 replace G := (G.trans gA).trans gC
 clear gA gB gC pp oo hb hgr1
 repeat with_reducible first | refine zAA ?_ | refine zAC ?_ | refine zAE ?_ | refine zAD ?_ | (apply st_q; exact q1)
 clear t43' t44' t45' t46'
 refine zFe (by exact e1) (by exact s1) ((SThree1_ok H HS HA h k g kh.out.c kk.out.c kg.out.c (by have := kh.out.s; have := kk.out.s; omega) (zDg kh.out kk.out kg.out).1 (zDg kh.out kk.out kg.out).2.1 (zDg kh.out kk.out kg.out).2.2.1 G.wf ⟨mv, rfl, hM.mono G⟩ ⟨lv, rfl, hL.mono G⟩ ⟨nv, rfl, hN.mono G⟩).mono ?_)
 rintro _ hA2 ⟨gA, un2, ur2, p2, a2, rfl, hone2, hall2, hgr2⟩
 replace hall2 := Hid.mk hall2
 replace hgr2 := Hid.mk hgr2
 replace o3 := gA.keep _ _ o3
 replace o4 := gA.keep _ _ o4
 replace o5 := gA.keep _ _ o5
 replace o8 := gA.keep _ _ o8
 repeat with_reducible (apply st_q; exact q1)
 refine zAY gA.wf ?_
 rintro b10 hB2 hb gB oo
 refine zAG (by exact e1) (by exact e1) (by exact cc) rfl gB.wf oo (by simp) (by simp only [List.all_cons, List.all_nil, hone2, Bool.true_and, Bool.and_true]; rfl) ?_
 rintro vv hC2 pp o10
 simp only [zlY, zlA, zlC, zlN, zlD, zlZ, zlE, Nat.zero_add, Nat.reduceAdd, zlX, zlK] at o10
 have gC : Grow hA2 hC2 := pp.grow hA2 gA.wf gB hb
 have gr2 : Hid (p2 = true -> GraphAt hC2 (.agg [un2, .int .i64 ur2]) a2 /\ GTi a2) := ⟨fun hp => by
  obtain ⟨⟨nv', hq, hn'⟩, ht⟩ := hgr2.out hp
  exact ⟨⟨nv', hq, hn'.mono gC⟩, ht⟩⟩
 replace o3 := gC.keep _ _ o3
 replace o4 := gC.keep _ _ o4
 replace o5 := gC.keep _ _ o5
 replace o8 := gC.keep _ _ o8
 have gA2 := Hid.mk (gA.trans gC)
 replace G := (G.trans gA).trans gC
 clear gA gB gC pp oo hb hgr2
 have hlaw := zOV kg.out kh.out kk.out hall1.out hall2.out
 obtain ⟨hpq, hs⟩ := hlaw
 subst hpq
 replace hs := Hid.mk hs
 clear o3 o4 o5 hall1 hall2
 cases p1
 ·repeat' with_reducible first | refine zAA ?_ | refine zAC ?_ | refine zAE ?_ | refine zAD ?_ | refine zAO ?_ | (apply st_q; exact q1) | (apply zBW; exact e1; exact q1) | (apply zDV; exact e1) | (apply zFN; exact e1) | (apply zAI; exact n1; exact r1)
  exact ⟨rfl, G⟩
 ·repeat with_reducible first | refine zAA ?_ | refine zAC ?_ | refine zAE ?_ | refine zAD ?_ | (apply st_q; exact q1) | (apply zBW; exact e1; exact q1)
  obtain ⟨⟨n1v, q1v, hn1⟩, ht1⟩ := gr1.out rfl
  obtain ⟨⟨n2v, q2v, hn2⟩, ht2'⟩ := gr2.out rfl
  have hG1 : GraphAt hC2 (.agg [un1, .int .i64 ur1]) a1 := ⟨n1v, q1v, hn1.mono gA2.out⟩
  have hG2 : GraphAt hC2 (.agg [un2, .int .i64 ur2]) a2 := ⟨n2v, q2v, hn2⟩
  have hss := (hs.out rfl).2.2
  refine zBi (by exact e1) (by exact s1) ((Same_ok H a1 a2 ht1 ht2' _ _ _ G.wf hG1 hG2).mono ?_)
  rintro _ hZ ⟨rfl, gZ⟩
  have G' := Hid.mk (G.trans gZ)
  rw [hss]
  clear G gZ hG1 hG2 hn1 hn2 ht1 ht2' q1v q2v gr1 gr2 o8 o10 hs hss
  repeat' with_reducible first | refine zAA ?_ | refine zAC ?_ | refine zAO ?_ | (apply st_q; exact q1) | (apply zBW; exact e1; exact q1) | (apply zAI; exact n1; exact r1)
  exact ⟨rfl, G'.out⟩
end
end Go.Ab.S
end
section
namespace Go.Proofs.YtpmndmiohaaokaaGreatDoor
open Go
noncomputable def zNq (os : Os) : World :=
 { World.holding Tryz.prog os ⟨#[], #[], []⟩ with heap := (World.holding Tryz.prog os ⟨#[], #[], []⟩).heap.modify 0 fun
   | .cells _ t frozen => .cells #[.iface 157 (.agg #[.pointer (some ⟨12, 60, none⟩)])] t frozen
   | o => o }
def zEN : List (String × DataW Unit) := zNy.filter fun x => x.2.handleName?.isNone
noncomputable def laidW (os : Os) : World := (zNq os).layVars Tryz.prog zEN
theorem laidW_os (os : Os) : (laidW os).os = os := World.layVars_os _ _ _
noncomputable abbrev zNt (os : Os) (args : Array Value) : World := (laidW os).forCall (fun _ _ => 0) ⟨#[], args, []⟩
theorem noGreat : (zEN.filter fun x => !(zEN.map (·.1)).contains x.1) = [] := by kernel_rfl
set_option maxRecDepth 100000 in
theorem laid_met (os : Os) (args : Array Value) : laidMetH Tryz.prog zNy (zNt os args).memory := by
 refine laidMetH_of_parts ?_ (by kernel_rfl)
 have h : laidMet Tryz.prog zEN (laidW os) := laidMet_layVars (w0 := zNq os) (zEN.map (·.1)) [] (by kernel_rfl) (by kernel_rfl) (by kernel_rfl) (by rw [noGreat]; exact LaidIn.none)
 exact h.of_heap (by simp [zNt, World.memory, World.forCall, Input.heap])
set_option maxRecDepth 100000 in
theorem w_vars (os : Os) (args : Array Value) : (zNt os args).variablesRefB Tryz.prog = true := by kernel_rfl
set_option maxRecDepth 100000 in
theorem w_rest (os : Os) (args : Array Value) : ((zNt os args).heap.toList.drop Tryz.prog.globals.size).take ((begin Tryz.prog (fun _ _ => 0) default).world.heap.size - Tryz.prog.globals.size) =
      (begin Tryz.prog (fun _ _ => 0) default).world.heap.toList.drop Tryz.prog.globals.size := by kernel_rfl
end Go.Proofs.YtpmndmiohaaokaaGreatDoor
end
section
namespace Go.Proofs.YtpmndmiohaaokaaGreatDoor
open Go
open Go.ChangeShapes Go.WideShapes Go.ChangeAt Go.RowKit
theorem own : ownKnob Tryz.prog.godebug = none := by kernel_rfl
def Contract : Prop := ∀ (H : Type) (enc : TypeId × Value -> H) (W : World) (base : Nat) (args : Array Value) (ds gs : List (DataW H)) (before : List MemPlace),
  (∀ (j : Nat) t v, Tryz.f8.params[j]? = some t -> args[j]? = some v -> Value.okWide Tryz.prog W .any base t v) →
  (DataW.Whole enc Tryz.prog Tryz.f8.params.toList Rows.solveThreeSpec.vars false W args.toList ds gs before) -> (Rows.uptoSmall H (ds ++ gs) = true) -> (laidMetH Tryz.prog zNy W) -> (W.ShapedOpen Tryz.prog) →
  Calls Tryz.prog 8 args W fun e W' => ∃ v, e = .returned v /\ Rows.solveThreeSpec.post enc Tryz.prog Tryz.f8 false true false false W args v W'
def noneV : Array Value := #[.agg #[.slice none 0 0, .int .i64 0], .agg #[.slice none 0 0, .int .i64 0], .agg #[.slice none 0 0, .int .i64 0]]
theorem reads (os : Os) {H : Type} (enc : TypeId × Value -> H) : ∃ places, DataW.whole enc Tryz.prog (zNt os noneV).memory Tryz.f8.params.toList Rows.solveThreeSpec.vars false noneV.toList 8 = some ([.agg [.nil, .lit (.int .i64 0)], .agg [.nil, .lit (.int .i64 0)], .agg [.nil, .lit (.int .i64 0)]], [], places) :=
 ⟨[], by kernel_rfl⟩
set_option maxRecDepth 100000 in
theorem lifted (os : Os) (started : os.Started) (H : Type) (enc : TypeId × Value -> H) (F : Stop.Interp) (hC : Contract) :
  ReturnsInHanded {} Tryz.checked os 8 .any ((Rows.OpenSpec.upto Rows.solveThreeSpec).preRow enc Tryz.prog Tryz.f8 Rows.solveThreeUptoRow.domain false Rows.solveThreeUptoRow.laid) (((Rows.OpenSpec.upto Rows.solveThreeSpec).at F).post enc Tryz.prog Tryz.f8 false true false false) := by
 obtain ⟨places, hx⟩ := reads os enc
 refine returnsInHanded_of_row (C := Tryz.checked) (s := Rows.OpenSpec.upto Rows.solveThreeSpec) own started (by kernel_rfl) Tryz.func8
  (witness_row_atRef (enc := enc) (C := Tryz.checked) false (laidW os) noneV (laidW_os os) (w_vars os _) (w_rest os _) (by kernel_rfl)
   (OpenSpec.preRow_of_cond 8 hx (by kernel_rfl) (fun k hk => by cases hk; kernel_rfl) (by kernel_rfl) (laid_met os _))) ?_
 intro W base args ds gs before hval hW _ hcond _ hL hS _
 exact hC H enc W base args ds gs before hval hW (hcond _ rfl) hL hS
theorem saidUpto (hC : Contract) : Rows.SolveThreeUptoSaid :=
 OpenClaim.holds_of_cond 8 Tryz.f8 rfl rfl rfl rfl rfl rfl rfl ⟨rfl, rfl, rfl, rfl, rfl⟩ rfl rfl rfl rfl rfl (by kernel_rfl) Tryz.func8 (by kernel_rfl)
  (of_decide_eq_true (by kernel_rfl)) (by unfold Func.isWrapper; first | (rw [if_pos (by decide +kernel)]; kernel_rfl) | (rw [if_neg (by decide +kernel)]; exact ⟨rfl, rfl⟩))
  (fun os started H enc _ F => by rw [OpenClaim.pre_eq_preRow]; exact lifted os started H enc F hC)
theorem plain (f : FuncId) (fn : Func) (hf : Tryz.pinned.checked.prog.funcNamed "trefoil/trefoillaw08.SolveThree" = some f) (hfn : Tryz.pinned.checked.prog.funcs[f]? = some fn) :
  true = Tryz.pinned.checked.prog.looks [] /\ ∀ (j : Nat) t, fn.params[j]? = some t -> Tryz.pinned.checked.prog.wantsStandIn t = false := by
 obtain rfl : f = 8 := Option.some.inj ((show Tryz.prog.funcNamed "trefoil/trefoillaw08.SolveThree" = some 8 by kernel_rfl).symm.trans hf) |>.symm
 obtain rfl : fn = Tryz.f8 := (Option.some.inj (Tryz.func8.symm.trans hfn)).symm
 refine ⟨by kernel_rfl, fun j t ht => ?_⟩
 rw [Tryz.params8] at ht
 match j, ht with
 | 0, ht =>
  obtain rfl : t = 24 := by simpa using ht.symm
  exact (show Tryz.prog.wantsStandIn 24 = false by kernel_rfl)
 | 1, ht =>
  obtain rfl : t = 24 := by simpa using ht.symm
  exact (show Tryz.prog.wantsStandIn 24 = false by kernel_rfl)
 | 2, ht =>
  obtain rfl : t = 24 := by simpa using ht.symm
  exact (show Tryz.prog.wantsStandIn 24 = false by kernel_rfl)
 | j + 3, ht => simp at ht
theorem cardOf (hC : Contract) : Rows.SolveThreeUptoCardSaid :=
 Claim7.holds_tied_plain_at .later [] _ _ _ _ (saidUpto hC) (fun _ h => by cases h) (by kernel_rfl) (fun _ h => by cases h) solveThreeUpto_row_tie rfl ⟨rfl, rfl⟩ (by kernel_rfl) rfl plain (by kernel_rfl)
end Go.Proofs.YtpmndmiohaaokaaGreatDoor
end
