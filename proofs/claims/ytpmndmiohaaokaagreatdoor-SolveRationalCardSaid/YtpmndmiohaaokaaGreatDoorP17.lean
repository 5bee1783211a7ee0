import Derived.Test.YtpmndmiohaaokaaGreatDoorP12
import Derived.Test.YtpmndmiohaaokaaGreatDoorP13
import Derived.Test.YtpmndmiohaaokaaGreatDoorP15
import Derived.Test.YtpmndmiohaaokaaGreatDoorP16
/-
  Part 17 of the proof.
-/
set_option linter.all false
section
namespace Go.Ab.S
open Go Go.Ab
set_option maxHeartbeats 8000000
theorem iota_put (n : Nat) : zGS (n + 1) = zGS n ++ [(n : Int)] := by simp [zGS, List.range_succ]
theorem zero_put (n : Nat) : List.replicate (n + 1) (0 : Int) = List.replicate n 0 ++ [0] := List.replicate_succ'
structure StI (h0 : AHeap) (bs : Nat) (ns : List Node) (j : Nat) (hp : AHeap) : Prop where
 grow : Grow h0 hp
 low : h0.next <= bs /\ bs < hp.next
 st : ∃ (ver : Nat) (ov rv hv : AVal) (cs : List (List AVal)), hp.objs.get bs = some (ver, .cells false 56 [ov, rv, hv, .slice none 0]) /\ Built hp h0.next 3 1 ov j ((zGS j).map (AVal.int .i64)) /\ Built hp h0.next 3 1 rv j ((List.replicate j (0 : Int)).map (AVal.int .i64)) /\ Built hp h0.next 68 5 hv j cs.flatten /\ cs.length = j ∧
  (∀ c n m, ov = .slice (some (c, 0)) n -> rv ≠ .slice (some (c, 0)) m) /\ (∀ (i : Nat) n c, cs[i]? = some c -> ns[i]? = some n -> ClzAt h0 hp c (zFx n)) ∧
  (∀ (i k : Nat) c d r, i ≠ k -> cs[i]? = some c -> cs[k]? = some d -> c[3]? = some (.map (some r)) -> d[3]? ≠ some (.map (some r))) /\ (∀ (i : Nat) c r, cs[i]? = some c -> c[3]? = some (.map (some r)) -> r < hp.next)
theorem StI.other {h0 : AHeap} {bs : Nat} {ns : List Node} {j : Nat} {hp hq : AHeap} (I : StI h0 bs ns j hp) (g : Grow hp hq) : StI h0 bs ns j hq := by
 obtain ⟨ver, ov, rv, hv, cs, k1, k2, k3, k4, k5, k6, k7, k8, k9⟩ := I.st
 exact ⟨I.grow.trans g, ⟨I.low.1, Nat.lt_of_lt_of_le I.low.2 g.next⟩, ver, ov, rv, hv, cs, g.keep _ _ k1, k2.grow g, k3.grow g, k4.grow g, k5, k6, fun i n c h1 h2 => (k7 i n c h1 h2).keep fun r p _ _ hp _ => g.keep _ _ hp, k8, fun i c r h1 h2 => Nat.lt_of_lt_of_le (k9 i c r h1 h2) g.next⟩
theorem zFu {h : AHeap} {base sz n : Nat} {e : TypeId} {v : AVal} {cells : List AVal} (B : Built h base e sz v n cells) (hn : 0 < n) : ∃ b ver vs, v = .slice (some (b, 0)) n /\ base <= b /\ h.objs.get b = some (ver, .cells false e vs) /\ n * sz <= vs.length /\ vs.take (n * sz) = cells := by
 rcases B with ⟨_, h0, _⟩ | ⟨_, h0, _⟩ | ⟨b, vs, ver, h1, h2, h3, h4, h5⟩
 ·omega
 ·omega
 ·exact ⟨b, ver, vs, h2, h1, h3, h4, h5⟩
theorem zHN {h : AHeap} {base sz n c m : Nat} {e : TypeId} {v : AVal} {cells : List AVal} (B : Built h base e sz v n cells) (w : WF h) (hv : v = .slice (some (c, 0)) m) : c < h.next := by
 rcases B with ⟨k, _⟩ | ⟨k, _⟩ | ⟨b, vs, ver, _, k, h3, _⟩
 ·rw [k] at hv; cases hv
 ·rw [k] at hv; cases hv
 ·rw [k] at hv; cases hv; exact w.lt h3
theorem StI.sx {h0 : AHeap} {bs : Nat} {g : Graph} {hp : AHeap} (I : StI h0 bs g.nodes g.nodes.length hp) (hN : 0 < g.nodes.length) : ∃ bo br bh hc, SX (fun _ => False) h0 bs g.nodes.length (zGS g.nodes.length) (List.replicate g.nodes.length 0) id (fun r => zFx (zAB g r)) [] bo br bh (.slice none 0) hc hp := by
 obtain ⟨ver, ov, rv, hv, cs, k1, k2, k3, k4, k5, k6, k7, k8, _⟩ := I.st
 have hsl := k4.sl (by decide) rfl (fun c hc => by
  obtain ⟨i, hi, rfl⟩ := List.mem_iff_getElem.1 hc
  exact (zGL (k7 i _ _ (List.getElem?_eq_getElem hi) (List.getElem?_eq_getElem (by omega)))).2) k5
 obtain ⟨bo, v1, vs1, rfl, o1, o2, o3, o4⟩ := zFu k2 hN
 obtain ⟨br, v2, vs2, rfl, r1', r2, r3, r4⟩ := zFu k3 hN
 obtain ⟨bh, v3, vs3, rfl, h1, h2, h3, h4⟩ := zFu k4 hN
 refine ⟨bo, br, bh, cs, I.grow, ⟨I.low.1, o1, r1', h1⟩, ?_, ⟨ver, k1⟩, ⟨v1, vs1, o2, by rw [Nat.mul_one] at o4; exact o4, by omega⟩, ⟨v2, vs2, r2, by rw [Nat.mul_one] at r4; exact r4, by omega⟩, ⟨k5, v3, vs3, h2, h3, fun i c hc => ?_⟩, .inl ⟨rfl, rfl, rfl⟩, fun i hi _ _ => ?_, fun i j hi hj hij _ _ c d r hc hd hm => k8 i j c d r hij hc hd hm⟩
 ·rintro rfl
  exact k6 bo _ _ rfl rfl
 ·obtain ⟨q1', b, o, ver', ro, e, vs, q2', q3', q4'⟩ := hsl.2 i c hc
  refine ⟨q1', fun k hk => ?_⟩
  have hi : i < g.nodes.length := by have := (List.getElem?_eq_some_iff.1 hc).1; omega
  simp only [slA, if_pos hi, oI, Prod.mk.injEq, Nat.zero_add] at q2'
  obtain ⟨rfl, rfl⟩ := q2'
  rw [h2] at q3'; cases q3'
  have := congrArg (fun l => l[k]?) q4'
  simp only [List.getElem?_take, if_pos hk, List.getElem?_drop] at this
  exact this
 ·have hc : cs[i]? = some cs[i] := List.getElem?_eq_getElem (by omega)
  refine ⟨cs[i], hc, ?_⟩
  have := k7 i _ _ hc (List.getElem?_eq_getElem hi)
  show ClzAt h0 hp cs[i] (zFx (zAB g (i : Int)))
  rw [zHx, List.getD, List.getElem?_eq_getElem hi]; exact this
section
variable {fns : FnsT} {summ : SumT}
variable (H : Has fns summ)
include H
theorem start_ok (g : Graph) (hg : GTi g) (hc : zAF g = 0) (v : AVal) (h0 : AHeap) (w0 : WF h0) (hv : GraphAt h0 v g) : Cl fns summ 24 [v] h0 fun r h' => ∃ bs, r = .ptr (some (bs, 0)) /\ StI h0 bs g.nodes g.nodes.length h' := by
 obtain ⟨nv, rfl, hN⟩ := hv
 have hlN := hN.len
 have hgs := hg.tinyN
 have hga := Hid.mk hg.tinyA
 have hok := Hid.mk (zBA hc).2
 clear hg hc
 have e31 : (2 : Nat) ^ 31 = 2147483648 := by decide
 refine H.go (fn := F_sstart) rfl (by decide) rfl rfl ?_
 unfold F_sstart
 dsimp only [qQ, qE, qN, gQ, gE, vi, tm, mt, lo, fa]
 refine zAE (zAD ?_)
 refine zBL (by exact e1) (by exact cc) w0 ?_
 rintro b1 h1 hb1 g1' o1
 repeat with_reducible first | refine zAA ?_ | refine zAC ?_ | refine zAE ?_ | refine zAD ?_ | (apply st_q; exact q1)
 refine zBL (by exact e1) (by exact cc) g1'.wf ?_
 rintro bs h2 hbs g2 o2
 have l1 := g1'.wf.lt o1
 have o1' := g2.keep _ _ o1
 have n1' := g1'.next
 have I0 : StI h0 bs g.nodes 0 h2 := ⟨g1'.trans g2, ⟨by omega, g2.wf.lt o2⟩, bs, .slice none 0, .slice none 0, .slice none 0, [], o2, .inl ⟨rfl, rfl, rfl⟩, .inl ⟨rfl, rfl, rfl⟩, .inl ⟨rfl, rfl, rfl⟩, rfl, fun c n m hh => (by cases hh), fun i n c hh => (by simp at hh), fun i k c d r _ hh => (by simp at hh), fun i c r hh => (by simp at hh)⟩
 clear o1 o2 g2 g1' l1
 repeat with_reducible first | refine zAA ?_ | refine zAC ?_ | refine zAE ?_ | refine zAD ?_ | (apply st_q; exact q1)
 refine zAz (N := g.nodes.length) (by omega) (fun j a hp => StI h0 bs g.nodes j hp /\ a.defers = [] /\ ev a (.tmp 12) = some nv /\ ev a (.tmp 3) = some (.ptr (some (bs, 0))))
  (by rintro j a hp t w (rfl | rfl | rfl) ⟨m1, m2, m3, m4⟩ <;> exact ⟨m1, by rw [zAc]; exact m2, by exact e1, by exact e1⟩) (by decide) ?_ ?_ ⟨I0, by exact n1, by exact e1, by exact e1⟩ (by exact e1) (by exact e1)
 ·clear I0 o1'
  rintro j a hp hj ⟨I, hd, t12', t3'⟩ hi hn
  have hmem := List.getElem_mem hj
  have hal := hga.out _ hmem
  have hmay := zAN (hok.out _ hmem)
  obtain ⟨bn, on, vern, ron, en, vsn, av, lv, hixn, hgn', hvl, hv5, _, _, _, _, _, ha, hl⟩ := hN.at (List.getElem?_eq_getElem hj)
  have hgn := I.grow.keep _ _ hgn'
  have hones : Hid (([.int .i64 g.nodes[j].kind, .str g.nodes[j].name, av, lv, .bool g.nodes[j].isOpen] : List AVal).all one = true) := ⟨zCP ha.len hl.len⟩
  clear hgn' hmem
  repeat with_reducible first | refine zAE ?_ | refine zAD ?_ | refine zAP ?_ | (apply st_q; exact q1)
  refine zAY I.grow.wf ?_
  rintro b5 h5 hb5 g5 o5
  repeat with_reducible (apply st_q; exact q1)
  refine zAG (by exact e1) (by exact e1) (by exact cc) rfl g5.wf o5 (by simp) hones.out ?_
  rintro v6 h6 p6 o6
  simp only [zlY, zlA, zlC, zlN, zlD, zlZ, zlE, Nat.zero_add, Nat.reduceAdd, zlX, zlK] at o6
  have G6 : Grow hp h6 := p6.grow hp I.grow.wf g5 hb5
  clear o5 p6 g5 hgn hixn hvl hv5
  repeat with_reducible first | refine zAA ?_ | refine zAC ?_ | refine zAE ?_ | refine zAD ?_ | (apply st_q; exact q1)
  refine st_q (v := .agg [.int .i64 g.nodes[j].kind, .str g.nodes[j].name, .slice none 0, .map none, .bool g.nodes[j].isOpen]) (b := none) (by rw [zBh]; simp only [zCw, zBE, zBS, zBV, if_true, if_false, Nat.reduceEqDiff, zAi]; rfl) ?_
  refine zAY G6.wf ?_
  rintro b6 h7 hb6 g7 o7
  have o67 := g7.keep _ _ o6
  have l56 := G6.wf.lt o6
  refine zAG (by exact e1) (by exact e1) (by exact cc) rfl g7.wf o7 (by simp) rfl ?_
  rintro v8 h8 p8 o8
  simp only [zlY, zlA, zlC, zlN, zlD, zlZ, zlE, Nat.zero_add, Nat.reduceAdd, zlX, zlK] at o8
  have G8 : Grow hp h8 := p8.grow hp I.grow.wf (G6.trans g7) (by have := G6.next; omega)
  have o58 := p8.keep b5 (by omega) _ o67
  have w8 := G8.wf
  have n6 := G6.next
  have l68 := w8.lt o8
  have hla := ha.len
  have hll := hl.len
  replace G8 := Hid.mk G8
  clear o6 o7 o67 g7 p8 G6
  repeat with_reducible first | refine zAA ?_ | refine zAC ?_ | refine zAE ?_ | refine zAD ?_ | refine zAP ?_ | (apply st_q; exact q1)
  refine zEa (fun a hq => (∃ v6 c, hq.objs.get b6 = some (v6, .cells false 68 c) /\ Hid (ClzAt h0 hq c (zFx g.nodes[j])) /\ Hid (∀ r, c[3]? = some (.map (some r)) -> hp.next <= r /\ r < hq.next)) /\ Hid (Grow hp hq) /\ a.defers = [] /\ ev a (.tmp 12) = some nv /\ ev a (.tmp 3) = some (.ptr (some (bs, 0))) /\ ev a (.tmp 4) = some (.int .i64 (j : Nat)) /\ ev a (.tmp 6) = some (.ptr (some (b6, 0))) /\ ev a (.tmp 14) = some (.int .i64 (j : Nat)) /\ ev a (.tmp 13) = some (.int .i64 (g.nodes.length : Nat))) ?_ ?_
  ·rcases hmay with ⟨q1', q2', q3', q4', q5'⟩ | ⟨q1', q2', q3', _, _⟩ | ⟨q1', q2', q3', q4'⟩
   ·have z2 : (g.nodes[j].kind == (2 : Int)) = false := by simp [q1']
    have z3 : (g.nodes[j].kind == (3 : Int)) = false := by simp [q1']
    have hK : Hid (ClzAt h0 h8 [.int .i64 g.nodes[j].kind, .str g.nodes[j].name, .slice none 0, .map none, .bool g.nodes[j].isOpen] (zFx g.nodes[j])) := ⟨.slice none 0, .map none, rfl, by
     show IntsAt h0 _ (if g.nodes[j].kind = 2 then g.nodes[j].args else [])
     rw [if_neg (by omega)]; exact ⟨rfl, fun i x hx => by simp at hx⟩, fun _ => rfl, fun h => absurd h (by show ¬ g.nodes[j].kind = 3; omega)⟩
    have hR : Hid (∀ r : Nat, ([.int .i64 g.nodes[j].kind, .str g.nodes[j].name, .slice none 0, .map none, .bool g.nodes[j].isOpen] : List AVal)[3]? = some (.map (some r)) -> hp.next <= r /\ r < h8.next) := ⟨fun r hr => by simp at hr⟩
    clear q1' q2' q3' q4' q5'
    repeat with_reducible first | refine zAA ?_ | refine zAC ?_ | refine zAE ?_ | refine zAD ?_ | refine zAT ?_ | (apply st_q; exact q1) | (apply zAL; exact e1)
    exact ⟨⟨_, _, o8, hK, hR⟩, G8, by exact n1, by exact e1, by exact e1, by exact e1, by exact e1, by exact e1, by exact e1⟩
   ·have z2 : (g.nodes[j].kind == (2 : Int)) = true := by simp [q1']
    have hone := zAR hla
    clear q2' q3'
    replace q1' := Hid.mk q1'
    repeat with_reducible first | refine zAD ?_ | (apply st_q; exact q1) | (apply zAJ; exact e1)
    refine zAG (by exact e1) (by exact e1) (zAg hla) rfl w8 o8 (by simp) (by simp only [List.all_cons, List.all_nil, hone, Bool.and_true]) ?_
    rintro v9 h9 p9 o9
    simp only [zlT, zlY, zlA, zlC, zlN, zlD, zlZ, zlE, Nat.zero_add, Nat.reduceAdd, zlX, zlK] at o9
    have hK : Hid (ClzAt h0 h9 [.int .i64 g.nodes[j].kind, .str g.nodes[j].name, av, .map none, .bool g.nodes[j].isOpen] (zFx g.nodes[j])) := ⟨av, .map none, rfl, by
     show IntsAt h0 _ (if g.nodes[j].kind = 2 then g.nodes[j].args else [])
     rw [if_pos q1'.out]; exact ha, fun _ => rfl, fun h => absurd h (by show ¬ g.nodes[j].kind = 3; have := q1'.out; omega)⟩
    have hR : Hid (∀ r : Nat, ([.int .i64 g.nodes[j].kind, .str g.nodes[j].name, av, .map none, .bool g.nodes[j].isOpen] : List AVal)[3]? = some (.map (some r)) -> hp.next <= r /\ r < h9.next) := ⟨fun r hr => by simp at hr⟩
    have G9 : Hid (Grow hp h9) := ⟨p9.grow hp I.grow.wf G8.out (by omega)⟩
    clear o8 o58 p9
    repeat with_reducible first | refine zAA ?_ | refine zAC ?_
    exact ⟨⟨_, _, o9, hK, hR⟩, G9, by exact n1, by exact e1, by exact e1, by exact e1, by exact e1, by exact e1, by exact e1⟩
   ·have z2 : (g.nodes[j].kind == (2 : Int)) = false := by simp [q1']
    have z3 : (g.nodes[j].kind == (3 : Int)) = true := by simp [q1']
    have hnd : Hid (g.nodes[j].labels.Nodup) := ⟨zGt (zBF q4')⟩
    replace q1' := Hid.mk q1'
    replace q4' := Hid.mk q4'
    clear q2'
    repeat with_reducible first | refine zAA ?_ | refine zAC ?_ | refine zAE ?_ | refine zAD ?_ | (apply st_q; exact q1) | (apply zAJ; exact e1) | (apply zAL; exact e1)
    refine zFf (.inl rfl) w8 ?_
    rintro r9 h9 hr9 g9 or9
    have o89 := g9.keep _ _ o8
    have o59 := g9.keep _ _ o58
    repeat with_reducible (apply st_q; exact q1)
    refine zAG (by exact e1) (by exact e1) (by exact cc) rfl g9.wf o89 (by simp) rfl ?_
    rintro v10 h10 p10 o10
    simp only [zlT, zlY, zlA, zlC, zlN, zlD, zlZ, zlE, Nat.zero_add, Nat.reduceAdd, zlX, zlK] at o10
    have n89 := G8.out.next
    have G10 : Hid (Grow hp h10) := ⟨p10.grow hp I.grow.wf (G8.out.trans g9) (by omega)⟩
    have hr10 := p10.keep r9 (by omega) _ or9
    have o510 := p10.keep b5 (by omega) _ o59
    have hzl : (List.zip g.nodes[j].labels g.nodes[j].args).length = g.nodes[j].labels.length := by rw [List.length_zip]; omega
    replace hzl := Hid.mk hzl
    clear o8 o58 o89 o59 or9 p10 g9
    repeat with_reducible first | refine zAA ?_ | refine zAC ?_ | refine zAE ?_ | refine zAD ?_ | (apply st_q; exact q1)
    refine zAz (N := g.nodes[j].labels.length) (by omega) (fun i a hq => Hid (Grow hp hq) /\ (∃ vr, hq.objs.get r9 = some (vr, .map (fEs 0 ((List.zip g.nodes[j].labels g.nodes[j].args).take i)) i)) /\ hq.objs.get b6 = some (v10, .cells false 68 [.int .i64 g.nodes[j].kind, .str g.nodes[j].name, .slice none 0, .map (some r9), .bool g.nodes[j].isOpen]) /\ hq.objs.get b5 = some (v6, .cells false 36 [.int .i64 g.nodes[j].kind, .str g.nodes[j].name, av, lv, .bool g.nodes[j].isOpen]) /\ a.defers = [] /\ ev a (.tmp 12) = some nv /\ ev a (.tmp 3) = some (.ptr (some (bs, 0))) /\ ev a (.tmp 4) = some (.int .i64 (j : Nat)) /\ ev a (.tmp 5) = some (.ptr (some (b5, 0))) /\ ev a (.tmp 6) = some (.ptr (some (b6, 0))) /\ ev a (.tmp 14) = some (.int .i64 (j : Nat)) /\ ev a (.tmp 13) = some (.int .i64 (g.nodes.length : Nat)) /\ ev a (.tmp 38) = some lv)
     (by rintro i a hq t w (rfl | rfl | rfl) ⟨m1, m2, m3, m4, m5, m6, m7, m8, m9, m10, m11, m12, m13⟩ <;> exact ⟨m1, m2, m3, m4, by rw [zAc]; exact m5, by exact e1, by exact e1, by exact e1, by exact e1, by exact e1, by exact e1, by exact e1, by exact e1⟩) (by decide) ?_ ?_
     ⟨G10, ⟨_, hr10⟩, o10, o510, by exact n1, by exact e1, by exact e1, by exact e1, by exact e1, by exact e1, by exact e1, by exact e1, by exact e1⟩ (by exact e1) (by exact e1)
    ·clear hr10 o10 o510
     rintro i a hq hil ⟨Gq, ⟨vr, hrq⟩, o6q, o5q, hd, t12', t3', t4', t5', t6', t14', t13', t38'⟩ hi hn
     obtain ⟨bb, ob, verb, rb, eb, vsb, hix, hget', hvo⟩ := hl.at (List.getElem?_eq_getElem hil)
     have hget := (I.grow.trans Gq.out).keep _ _ hget'
     have hia : i < g.nodes[j].args.length := by omega
     obtain ⟨bb', ob', verb', rb', eb', vsb', hix', hget'', hvo'⟩ := ha.at (List.getElem?_eq_getElem hia)
     have hgeta := (I.grow.trans Gq.out).keep _ _ hget''
     have hzi : i < (List.zip g.nodes[j].labels g.nodes[j].args).length := by rw [hzl.out]; exact hil
     have hfn : Hid (zBq ((List.zip g.nodes[j].labels g.nodes[j].args).take i) g.nodes[j].labels[i] = none) := ⟨zCk.2 fun x hx => by
      obtain ⟨k, hk, hke⟩ := List.mem_iff_getElem.1 hx
      rw [List.length_take] at hk
      rw [List.getElem_take, List.getElem_zip, Prod.mk.injEq] at hke
      have := (List.getElem_inj hnd.out).1 hke.1
      omega⟩
     have hput : Hid (fEs 0 ((List.zip g.nodes[j].labels g.nodes[j].args).take (i + 1)) = fEs 0 ((List.zip g.nodes[j].labels g.nodes[j].args).take i) ++ [(.str g.nodes[j].labels[i], .int .i64 g.nodes[j].args[i], i)]) := ⟨by
      rw [List.take_succ_eq_append_getElem hzi, zLK, List.length_take, List.getElem_zip, Nat.zero_add, Nat.min_eq_left (by omega)]⟩
     have wq := Gq.out.wf
     have lrq := wq.lt hrq
     have l6q := wq.lt o6q
     have l5q := wq.lt o5q
     clear hget' hget'' hzi
     repeat with_reducible first | refine zAA ?_ | refine zAC ?_ | refine zAE ?_ | refine zAD ?_ | refine zAP ?_ | refine zBQ ?_ | (apply dr_q; exact q1) | (apply zCs; exact q1; exact og1) | (apply st_q; exact q1)
     refine zBD (zIP (kk := .str) (by exact e1) (by exact e1) (by exact e1) (by intro hh; cases hh) rfl wq hrq (zMB hfn.out) ?_)
     rintro v12 h12 p12 o12
     rw [<- hput.out] at o12
     have hne6 : b6 ≠ r9 := by omega
     have hne5 : b5 ≠ r9 := by omega
     have o612 := p12.keep b6 hne6 _ o6q
     have o512 := p12.keep b5 hne5 _ o5q
     refine zAC ⟨by simp [zAf, Nat.testBit], ?_⟩
     have G12 : Hid (Grow hp h12) := ⟨p12.grow hp I.grow.wf Gq.out (by omega)⟩
     clear hrq o6q o5q hget hgeta p12 hix hix' hvo hvo'
     repeat with_reducible first | refine zAA ?_ | refine zAQ ?_ | refine zBz ?_
     exact ⟨⟨G12, ⟨_, o12⟩, o612, o512, by exact n1, by exact e1, by exact e1, by exact e1, by exact e1, by exact e1, by exact e1, by exact e1, by exact e1⟩, by exact e1, by exact e1⟩
    ·clear hr10 o10 o510
     rintro a hq ⟨Gq, ⟨vr, hrq⟩, o6q, o5q, hd, t12', t3', t4', t5', t6', t14', t13', t38'⟩
     have htake : (List.zip g.nodes[j].labels g.nodes[j].args).take g.nodes[j].labels.length = List.zip g.nodes[j].labels g.nodes[j].args := List.take_of_length_le (by rw [hzl.out]; exact Nat.le_refl _)
     rw [htake] at hrq
     have hK : Hid (ClzAt h0 hq [.int .i64 g.nodes[j].kind, .str g.nodes[j].name, .slice none 0, .map (some r9), .bool g.nodes[j].isOpen] (zFx g.nodes[j])) := ⟨.slice none 0, .map (some r9), rfl, by
      show IntsAt h0 _ (if g.nodes[j].kind = 2 then g.nodes[j].args else [])
      rw [if_neg (by have := q1'.out; omega)]; exact ⟨rfl, fun i x hx => by simp at hx⟩, fun h => absurd q1'.out h, fun _ => ⟨r9, vr, rfl, by have := I.grow.next; omega, by
      show hq.objs.get r9 = some (vr, .map (fEs 0 (if g.nodes[j].kind = 3 then List.zip g.nodes[j].labels g.nodes[j].args else [])) (if g.nodes[j].kind = 3 then List.zip g.nodes[j].labels g.nodes[j].args else []).length)
      rw [if_pos q1'.out, hzl.out]; exact hrq⟩⟩
     have hR : Hid (∀ r : Nat, ([.int .i64 g.nodes[j].kind, .str g.nodes[j].name, .slice none 0, .map (some r9), .bool g.nodes[j].isOpen] : List AVal)[3]? = some (.map (some r)) -> hp.next <= r /\ r < hq.next) := ⟨fun r hr => by
      simp only [List.getElem?_cons_succ, List.getElem?_cons_zero, oI, AVal.map.injEq] at hr
      subst hr
      exact ⟨by omega, Gq.out.wf.lt hrq⟩⟩
     clear hrq htake o5q
     repeat with_reducible refine zAA ?_
     exact ⟨⟨_, _, o6q, hK, hR⟩, Gq, by exact n1, by exact e1, by exact e1, by exact e1, by exact e1, by exact e1, by exact e1⟩
  clear o8 o58 w8 l68 G8 hla hll hmay t12' t3' hd hi hn
  rintro a hq ⟨⟨v6', c, o6, hK, hR⟩, Gq, hd, t12', t3', t4', t6', t14', t13'⟩
  obtain ⟨ver, ov, rv, hv, cs, k1, k2, k3, k4, k5, k6, k7, k8, k9⟩ := I.st
  have wq := Gq.out.wf
  replace k1 := Gq.out.keep _ _ k1
  have kbs := Hid.mk k1
  replace k2 := Hid.mk (k2.grow Gq.out)
  replace k3 := Hid.mk (k3.grow Gq.out)
  replace k4 := Hid.mk (k4.grow Gq.out)
  have k7q : Hid (∀ (i : Nat) n d, cs[i]? = some d -> g.nodes[i]? = some n -> ClzAt h0 hq d (zFx n)) := ⟨fun i n d h1 h2 => (k7 i n d h1 h2).keep fun r p _ _ hp _ => Gq.out.keep _ _ hp⟩
  replace k6 := Hid.mk k6
  replace k8 := Hid.mk k8
  replace k9 := Hid.mk k9
  replace k5 := Hid.mk k5
  have hcl := zGL hK.out
  have hl5 := hcl.2
  have ht5 : List.take 5 c = c := List.take_of_length_le (by omega)
  have hone := Hid.mk hcl.1
  have hb6s : b6 ≠ bs := by rintro rfl; rw [k1] at o6; cases o6
  have room1 := Hid.mk (zDU H (b := 8) (k := j + 1) (by decide) (by omega))
  have room2 := Hid.mk (zDU H (b := 64) (k := j + 1) (by decide) (by omega))
  have low := I.low
  have np := I.grow.next
  have nq := Gq.out.next
  clear k7 hcl
  repeat with_reducible first | refine zAA ?_ | refine zAQ ?_ | refine zBQ ?_ | (apply dr_q; exact q1) | (apply zCs; exact q1; exact og1)
  refine zBD (zAp (by exact e1) (cs := [.int .i64 (j : Nat)]) rfl rfl rfl wq ?_)
  rintro bx h12 hbx g12 ox
  have a1 := g12.keep _ _ k1
  have a6 := g12.keep _ _ o6
  refine zAC ⟨by simp [zAf, Nat.testBit, a1, a6], ?_⟩
  have A2 := k2.out.grow g12
  refine zBD (zAy (by exact e1) (by exact e1) A2 ox rfl rfl room1.out g12.wf (by have := g12.next; omega) ?_)
  rintro ov' h13 B13 f13 w13 n13 gr13 kp13
  have b1 := kp13 _ _ a1 (zAK A2 a1 fun vs hh => by cases hh)
  have b6' := kp13 _ _ a6 (zAK A2 a6 fun vs hh => by cases hh)
  have B3 : Built h13 h0.next 3 1 rv j ((List.replicate j (0 : Int)).map (AVal.int .i64)) := zBM (k3.out.grow g12) fun c p hc _ ⟨k, hk⟩ => kp13 c p hc fun n hh => k6.out c n k hh hk
  have B4 : Built h13 h0.next 68 5 hv j cs.flatten := zAX (k4.out.grow g12) fun c p _ hc ⟨vs, hp⟩ => kp13 c p hc (zAK A2 hc fun vs' hh => by rw [hp] at hh; cases hh)
  have M13 : ∀ {r p}, hq.objs.get r = some p -> (∀ ro e vs, p.2 ≠ .cells ro e vs) -> h13.objs.get r = some p := fun hp hn => kp13 _ _ (g12.keep _ _ hp) (zAK A2 (g12.keep _ _ hp) fun vs hh => hn _ _ _ hh)
  have G13 := gr13 h0 w0 ((I.grow.trans Gq.out).trans g12) (Nat.le_refl _)
  refine zAC ⟨by simp [zAf, Nat.testBit, b1, b6'], ?_⟩
  refine zBD (zAp (by exact e1) (cs := [.int .i64 0]) rfl rfl rfl w13 ?_)
  rintro by' h14 hby g14 oy
  have c1 := g14.keep _ _ b1
  have c6 := g14.keep _ _ b6'
  refine zAC ⟨by simp [zAf, Nat.testBit, c1, c6], ?_⟩
  have C3 := B3.grow g14
  refine zBD (zAy (by exact e1) (by exact e1) C3 oy rfl rfl room1.out g14.wf (by have := g12.next; have := g14.next; omega) ?_)
  rintro rv' h15 D3 f15 w15 n15 gr15 kp15
  have d1 := kp15 _ _ c1 (zAK C3 c1 fun vs hh => by cases hh)
  have d6 := kp15 _ _ c6 (zAK C3 c6 fun vs hh => by cases hh)
  have hov : ∀ c n m, ov' = .slice (some (c, 0)) n -> rv ≠ .slice (some (c, 0)) m := fun c n m h1 h2 => by
   have h3 := f13 c n h1
   have h4 := zHN k3.out wq h2
   have := g12.next
   omega
  have D2 : Built h15 h0.next 3 1 ov' (j + 1) ((zGS (j + 1)).map (AVal.int .i64)) := by
   rw [iota_put, List.map_append]
   exact zBM (B13.grow g14) fun c p hc _ ⟨k, hk⟩ => kp15 c p hc fun n hh => hov c k n hk hh
  have D4 : Built h15 h0.next 68 5 hv j cs.flatten := zAX (B4.grow g14) fun c p _ hc ⟨vs, hp⟩ => kp15 c p hc (zAK C3 hc fun vs' hh => by rw [hp] at hh; cases hh)
  have M15 : ∀ {r p}, h13.objs.get r = some p -> (∀ ro e vs, p.2 ≠ .cells ro e vs) -> h15.objs.get r = some p := fun hp hn => kp15 _ _ (g14.keep _ _ hp) (zAK C3 (g14.keep _ _ hp) fun vs hh => hn _ _ _ hh)
  have G15 := gr15 h0 w0 (G13.trans g14) (Nat.le_refl _)
  have hor : ∀ c n m, ov' = .slice (some (c, 0)) n -> rv' ≠ .slice (some (c, 0)) m := fun c n m h1 h2 => by
   have h3 := f15 c m h2
   have h4 := zHN B13 w13 h1
   have := g14.next
   omega
  refine zAC ⟨by simp [zAf, Nat.testBit, d1, d6], ?_⟩
  refine zBD (zAp (by exact e1) (by exact cc) hl5 rfl w15 ?_)
  rintro bz h16 hbz g16 oz
  have e1' := g16.keep _ _ d1
  have e6' := g16.keep _ _ d6
  refine zAC ⟨by simp [zAf, Nat.testBit, e1', e6'], ?_⟩
  have E4 := D4.grow g16
  refine zBD (zAy (by exact e1) (by exact e1) E4 oz hl5 hone.out room2.out g16.wf (by have := g12.next; have := g14.next; have := g16.next; omega) ?_)
  rintro hv' h17 F4 f17 w17 n17 gr17 kp17
  have m1' := kp17 _ _ e1' (zAK E4 e1' fun vs hh => by cases hh)
  have m1k := Hid.mk m1'
  have F2 : Built h17 h0.next 3 1 ov' (j + 1) ((zGS (j + 1)).map (AVal.int .i64)) := zAX (D2.grow g16) fun c p _ hc ⟨vs, hp⟩ => kp17 c p hc (zAK E4 hc fun vs' hh => by rw [hp] at hh; cases hh)
  have F3 : Built h17 h0.next 3 1 rv' (j + 1) ((List.replicate (j + 1) (0 : Int)).map (AVal.int .i64)) := by
   rw [zero_put, List.map_append]
   exact zAX (D3.grow g16) fun c p _ hc ⟨vs, hp⟩ => kp17 c p hc (zAK E4 hc fun vs' hh => by rw [hp] at hh; cases hh)
  have M17 : ∀ {r p}, hq.objs.get r = some p -> (∀ ro e vs, p.2 ≠ .cells ro e vs) -> h17.objs.get r = some p := fun hp hn => kp17 _ _ (g16.keep _ _ (M15 (M13 hp hn) hn)) (zAK E4 (g16.keep _ _ (M15 (M13 hp hn) hn)) fun vs hh => hn _ _ _ hh)
  have G17 := gr17 h0 w0 (G15.trans g16) (Nat.le_refl _)
  have nx : hq.next <= h17.next := by have := g12.next; have := g14.next; have := g16.next; omega
  refine zAC ⟨by simp [zAf, Nat.testBit, m1'], ?_⟩
  have r2 := zAR F2.len
  have r3 := zAR F3.len
  have r4 := zAR F4.len
  have L2 := Hid.mk F2.len
  have L3 := Hid.mk F3.len
  have L4 := Hid.mk F4.len
  replace F2 := Hid.mk F2
  replace F3 := Hid.mk F3
  replace F4 := Hid.mk F4
  have M17' : Hid (∀ r p, hq.objs.get r = some p -> (∀ ro e vs, p.2 ≠ .cells ro e vs) -> h17.objs.get r = some p) := ⟨fun r p => M17⟩
  clear M17 M15 M13 E4 D4 D2 D3 C3 B4 B3 B13 A2 kp13 kp15 kp17 f13 f15 f17 gr13 gr15 gr17 k1 o6 a1 a6 b1 b6' c1 c6 d1 d6 e1' e6' ox oy oz g12 g14 g16
  repeat with_reducible (apply dr_q; exact q1)
  refine zBD (zAG (by exact e1) (by exact e1) (zAg L2.out) rfl w17 m1' (by simp) (by simp only [List.all_cons, List.all_nil, r2, Bool.and_true]) ?_)
  rintro v18 h18 p18 o18
  refine zAC ⟨by simp [zAf, Nat.testBit], ?_⟩
  simp only [zlT, zlY, zlA, zlC, zlN, zlD, zlZ, zlE, Nat.zero_add, Nat.reduceAdd, zlX, zlK] at o18
  clear m1'
  repeat with_reducible (apply dr_q; exact q1)
  refine zBD (zAG (by exact e1) (by exact e1) (zAg L3.out) rfl (p18.wf w17) o18 (by simp) (by simp only [List.all_cons, List.all_nil, r3, Bool.and_true]) ?_)
  rintro v19 h19 p19 o19
  refine zAC ⟨by simp [zAf, Nat.testBit], ?_⟩
  simp only [zlT, zlY, zlA, zlC, zlN, zlD, zlZ, zlE, Nat.zero_add, Nat.reduceAdd, zlX, zlK] at o19
  clear o18
  repeat with_reducible (apply dr_q; exact q1)
  refine zBD (zAG (by exact e1) (by exact e1) (zAg L4.out) rfl (p19.wf (p18.wf w17)) o19 (by simp) (by simp only [List.all_cons, List.all_nil, r4, Bool.and_true]) ?_)
  rintro v20 h20 p20 o20
  refine zAC ⟨by simp [zAf, Nat.testBit], ?_⟩
  simp only [zlT, zlY, zlA, zlC, zlN, zlD, zlZ, zlE, Nat.zero_add, Nat.reduceAdd, zlX, zlK] at o20
  clear o19
  have P := (p18.trans p19).trans p20
  have G20 := P.grow h0 w0 G17 low.1
  have MM : ∀ r p, hq.objs.get r = some p -> (∀ ro e vs, p.2 ≠ .cells ro e vs) -> r ≠ bs -> h20.objs.get r = some p := fun r p hp hn hr => P.keep r hr _ (M17'.out r p hp hn)
  have hbq : ∀ (r : Nat) (p : Nat × AObj), hq.objs.get r = some p -> (∀ ro e vs, p.2 ≠ .cells ro e vs) -> r ≠ bs := by
   rintro r p hp hn rfl
   rw [kbs.out] at hp; cases hp
   exact hn _ _ _ rfl
  have I20 : StI h0 bs g.nodes (j + 1) h20 := by
   have keepC : ∀ {d : List AVal} {z : Clz}, ClzAt h0 hq d z -> ClzAt h0 h20 d z := fun k => k.keep fun r p _ _ hp hn => MM r p hp hn (hbq r p hp hn)
   have hcn : cs.length = j := k5.out
   have nz := P.next
   have stayB : ∀ {e : TypeId} {sz n : Nat} {v : AVal} {cells : List AVal}, Built h17 h0.next e sz v n cells -> e ≠ 56 -> Built h20 h0.next e sz v n cells := fun B he => zAX B fun c p _ hc ⟨vs, hp⟩ => P.keep c (by
    rintro rfl
    rw [m1k.out] at hc
    simp only [oI] at hc
    rw [<- hc] at hp
    simp only [AObj.cells.injEq] at hp
    exact he hp.2.1.symm) p hc
   refine ⟨G20, ⟨low.1, by omega⟩, v20, ov', rv', hv', cs ++ [c], o20, stayB F2.out (by decide), stayB F3.out (by decide), by rw [List.flatten_append]; simpa using stayB F4.out (by decide), by simp [hcn], hor, fun i n d hi hn => ?_, fun i k d e r hik hd he hm => ?_, fun i d r hi hm => ?_⟩
   ·rcases Nat.lt_or_ge i cs.length with hl | hl
    ·rw [List.getElem?_append_left hl] at hi
     exact keepC (k7q.out i n d hi hn)
    ·rw [List.getElem?_append_right hl] at hi
     have := (List.getElem?_eq_some_iff.1 hi).1
     simp only [zlC, zlN] at this
     obtain rfl : i = j := by omega
     rw [hcn, Nat.sub_self, List.getElem?_cons_zero, oI] at hi
     rw [List.getElem?_eq_getElem hj, oI] at hn
     rw [<- hi, <- hn]; exact keepC hK.out
   ·have old : ∀ {i : Nat} {d : List AVal}, (cs ++ [c])[i]? = some d -> i < cs.length -> cs[i]? = some d := fun h hl => by rwa [List.getElem?_append_left hl] at h
    have new : ∀ {i : Nat} {d : List AVal}, (cs ++ [c])[i]? = some d -> ¬ i < cs.length -> i = cs.length /\ c = d := fun {i d} h hl => by
     rw [List.getElem?_append_right (by omega)] at h
     have := (List.getElem?_eq_some_iff.1 h).1
     simp only [zlC, zlN] at this
     have hi : i = cs.length := by omega
     rw [hi, Nat.sub_self, List.getElem?_cons_zero, oI] at h
     exact ⟨hi, h⟩
    intro hm2
    by_cases hi : i < cs.length
    ·by_cases hk : k < cs.length
     ·exact k8.out i k d e r hik (old hd hi) (old he hk) hm hm2
     ·obtain ⟨_, rfl⟩ := new he hk
      have h1 := k9.out i d r (old hd hi) hm
      have h2 := (hR.out r hm2).1
      omega
    ·obtain ⟨hi', rfl⟩ := new hd hi
     by_cases hk : k < cs.length
     ·have h1 := k9.out k e r (old he hk) hm2
      have h2 := (hR.out r hm).1
      omega
     ·have := (new he hk).1; omega
   ·rcases Nat.lt_or_ge i cs.length with hl | hl
    ·rw [List.getElem?_append_left hl] at hi
     have := k9.out i d r hi hm; omega
    ·rw [List.getElem?_append_right hl] at hi
     have := (List.getElem?_eq_some_iff.1 hi).1
     simp only [zlC, zlN] at this
     rw [show i - cs.length = 0 by omega, List.getElem?_cons_zero, oI] at hi
     subst hi
     have := (hR.out r hm).2; omega
  clear o20 P G20 MM hbq p18 p19 p20
  repeat with_reducible first | refine zAA ?_ | refine zAQ ?_ | refine zBz ?_
  exact ⟨⟨I20, by exact n1, by exact e1, by exact e1⟩, by exact e1, by exact e1⟩
 ·clear I0 o1'
  rintro a hp ⟨I, hd, t12', t3'⟩
  repeat' with_reducible first | refine zAA ?_ | refine zAC ?_ | refine zAE ?_ | refine zAD ?_ | refine zAO ?_ | (apply st_q; exact q1) | (apply zAI; exact n1; exact r1)
  exact ⟨bs, rfl, I⟩
end
end Go.Ab.S
end
section
namespace Go.Ab.S
open Go Go.Ab
set_option maxHeartbeats 8000000
section
variable {fns : FnsT} {summ : SumT} {ro : Option Nat}
theorem zOR {d : Option Tmp} {x : AOpd} {l : List Step} {a : AAct} {h : AHeap} {K : AAct -> AHeap -> Prop} (hx : ev a x = some (.map none)) (w : WF h)
  (k : ∀ b h', h.next <= b -> Grow h h' -> h'.objs.get b = some (b, .iter0) -> St fns summ ro l (putA a d (.ptr (some (b, 0)))) h' K) : St fns summ ro (⟨d, none, .e (.range x)⟩ :: l) a h K :=
 st_t (by intro _ _ hh; cases hh) (by intro _ _ hh; cases hh) (v := .ptr (some (h.next, 0))) (h' := newA h .iter0) (by simp only [zBU, hx]) (k _ _ (Nat.le_refl _) ((Grow.refl w).new _) (zAV _ _))
theorem st_next0 {d : Option Tmp} {x : AOpd} {l : List Step} {a : AAct} {h : AHeap} {K : AAct -> AHeap -> Prop} {b ver : Nat} (hx : ev a x = some (.ptr (some (b, 0)))) (hb : h.objs.get b = some (ver, .iter0))
  (k : St fns summ ro l (putA a d (.tuple [.bool false])) h K) : St fns summ ro (⟨d, none, .e (.next x)⟩ :: l) a h K :=
 st_t (by intro _ _ hh; cases hh) (by intro _ _ hh; cases hh) (v := .tuple [.bool false]) (h' := h) (by simp only [zBU, hx, hb]) k
end
def lsP (l : List Pr) (a : Int) : Int := ((l.find? fun q => q.1 == a).map (·.2)).getD 0
def LE (l : List Pr) (rt : Int -> Int) (i : Nat) : Prop := (∀ q ∈ l, ∃ j : Nat, j < i /\ q = (rt j, (j : Int)) /\ ∀ j' : Nat, j' < j -> rt j' ≠ rt j) /\ ∀ j : Nat, j < i -> ∃ q ∈ l, q.1 = rt j
theorem LE.zero (rt : Int -> Int) : LE [] rt 0 := ⟨fun q hq => (by cases hq), fun j hj => absurd hj (Nat.not_lt_zero _)⟩
theorem LE.stay {l : List Pr} {rt : Int -> Int} {i : Nat} (h : LE l rt i) (hi : ∃ q ∈ l, q.1 = rt i) : LE l rt (i + 1) := by
 refine ⟨fun q hq => ?_, fun j hj => ?_⟩
 ·obtain ⟨j, h1, h2⟩ := h.1 q hq
  exact ⟨j, by omega, h2⟩
 ·rcases Nat.lt_or_ge j i with hl | hl
  ·exact h.2 j hl
  ·obtain rfl : j = i := by omega
   exact hi
theorem LE.put {l : List Pr} {rt : Int -> Int} {i : Nat} (h : LE l rt i) (hi : ∀ q ∈ l, q.1 ≠ rt i) : LE (l ++ [(rt i, (i : Int))]) rt (i + 1) := by
 refine ⟨fun q hq => ?_, fun j hj => ?_⟩
 ·rcases List.mem_append.1 hq with hq | hq
  ·obtain ⟨j, h1, h2⟩ := h.1 q hq
   exact ⟨j, by omega, h2⟩
  ·obtain rfl := List.mem_singleton.1 hq
   refine ⟨i, by omega, rfl, fun j' hj' he => ?_⟩
   obtain ⟨q, hq, hr⟩ := h.2 j' hj'
   exact hi q hq (hr.trans he)
 ·rcases Nat.lt_or_ge j i with hl | hl
  ·obtain ⟨q, hq, hr⟩ := h.2 j hl
   exact ⟨q, List.mem_append.2 (.inl hq), hr⟩
  ·obtain rfl : j = i := by omega
   exact ⟨_, List.mem_append.2 (.inr (List.mem_singleton.2 rfl)), rfl⟩
theorem LE.one {l : List Pr} {rt : Int -> Int} {i : Nat} (h : LE l rt i) {p q : Pr} (hp : p ∈ l) (hq : q ∈ l) (he : p.1 = q.1) : p.2 = q.2 := by
 obtain ⟨j, _, rfl, k1⟩ := h.1 p hp
 obtain ⟨k, _, rfl, k2⟩ := h.1 q hq
 simp only at he ⊢
 rcases Nat.lt_trichotomy j k with hl | rfl | hl
 ·exact absurd he (k2 j hl)
 ·rfl
 ·exact absurd he.symm (k1 k hl)
theorem LE.ls {l : List Pr} {rt : Int -> Int} {i : Nat} (h : LE l rt i) {q : Pr} (hq : q ∈ l) : lsP l q.1 = q.2 := by
 unfold lsP
 cases hf : l.find? fun p => p.1 == q.1 with
 | none => have := List.find?_eq_none.1 hf q hq; simp at this
 | some p =>
  have h1 := List.mem_of_find?_eq_some hf
  have h2 := List.find?_some hf
  simp only [beq_iff_eq] at h2
  exact h.one h1 hq h2
theorem LE.rep {l : List Pr} {rt : Int -> Int} {N : Nat} (h : LE l rt N) {j : Nat} (hj : j < N) : ∃ k : Nat, k < N /\ lsP l (rt j) = k /\ rt k = rt j /\ ∀ i : Nat, i < N -> rt i = rt j -> k <= i := by
 obtain ⟨q, hq, hr⟩ := h.2 j hj
 obtain ⟨k, hk, rfl, hm⟩ := h.1 q hq
 simp only at hr
 refine ⟨k, hk, by rw [<- hr]; exact h.ls hq, hr, fun i hi he => ?_⟩
 rcases Nat.lt_or_ge i k with hl | hl
 ·exact absurd (he.trans hr.symm) (hm i hl)
 ·exact hl
theorem FA.val {h : AHeap} {r ver c : Nat} {es : List (AVal × AVal × Nat)} {l : List Pr} (hg : h.objs.get r = some (ver, .map es c)) (f : FA es l) {rt : Int -> Int} {i : Nat} (L : LE l rt i) {a : Int} (ha : ∃ q ∈ l, q.1 = a) : zCz h .int (.int .i64 0) false (.map (some r)) (.int .i64 a) = some (.int .i64 (lsP l a), some r) := by
 obtain ⟨y, h1, h2, h3⟩ := f a
 cases y with
 | none =>
  obtain ⟨q, hq, hr⟩ := ha
  exact absurd hr (h2 rfl q hq)
 | some x =>
  obtain ⟨q, q1, q2, q3⟩ := h3 x.1 x.2 rfl
  have : lsP l a = q.2 := by rw [<- q2]; exact L.ls q1
  rw [this]
  obtain ⟨x1, x2⟩ := x
  simp only at q3
  subst q3
  simp only [zCz, zEh, hg, h1]
  rfl
structure LeI (h : AHeap) (b12 b10 bs bo : Nat) (N : Nat) (l : List Pr) (rt : Int -> Int) : Prop where
 c12 : ∃ v e rm, h.objs.get b12 = some (v, .cells false e [.map (some rm)]) /\ ∃ vm es c, h.objs.get rm = some (vm, .map es c) /\ FA es l
 c10 : ∃ v e, h.objs.get b10 = some (v, .cells false e [.ptr (some (bs, 0))])
 cs : ∃ v e rest, h.objs.get bs = some (v, .cells false e (.slice (some (bo, 0)) N :: rest))
 ne : b12 ≠ bo /\ b10 ≠ bo /\ bs ≠ bo
section
variable {fns : FnsT} {summ : SumT}
variable (H : Has fns summ)
include H
theorem least_ok {N K n : Nat} {on rk : List Int} {rt : Int -> Int} (u : UF N on rk rt K) {i : Nat} (hi : i < N) {b12 b10 bs bo : Nat} {l : List Pr} (h : AHeap) (hw : WF h) (I : LeI h b12 b10 bs bo N l rt) (L : LE l rt n) (hin : i < n) (ho : RowI h bo N on) :
  Cl fns summ 29 [.int .i64 (i : Nat), .ptr (some (b12, 0)), .ptr (some (b10, 0))] h fun r h' => r = .int .i64 (lsP l (rt i)) /\ But bo h h' /\ ∃ on', RowI h' bo N on' /\ UF N on' rk rt K := by
 obtain ⟨v12, e12, rm, o12, vm, es, c, om, f⟩ := I.c12
 obtain ⟨v10, e10, o10⟩ := I.c10
 obtain ⟨vs, e, rest, os⟩ := I.cs
 obtain ⟨ne12, ne10, nes⟩ := I.ne
 have hfind := Hid.mk (zGn H u hi nes h hw os ho)
 have hne : rm ≠ bo := by
  rintro rfl
  obtain ⟨_, _, o, _⟩ := ho
  rw [om] at o; cases o
 have fv := Hid.mk fun (h' : AHeap) (hg : h'.objs.get rm = some (vm, .map es c)) => FA.val hg f L (L.2 i hin)
 clear f L u ho
 refine H.go (fn := F_SUnify1) rfl (by decide) rfl rfl ?_
 unfold F_SUnify1
 dsimp only [qQ, qE, qN, gQ, gE, vi, tm, mt, lo, fa]
 repeat with_reducible first | refine zAA ?_ | refine zAC ?_ | refine zAE ?_ | refine zAD ?_ | refine zBQ ?_ | (apply dr_q; exact q1) | (apply zCs; exact q1; exact og1) | (apply st_q; exact q1)
 refine zBD (zAb (by exact s1) (hfind.out.mono ?_))
 rintro _ h1 ⟨rfl, B, on', ho', u'⟩
 have p12 := B.keep _ ne12 _ o12
 have p10 := B.keep _ ne10 _ o10
 have pm := B.keep _ hne _ om
 have hl := fv.out h1 pm
 refine zAC ⟨by simp [zAf, Nat.testBit, p12, p10], ?_⟩
 have hfin : But bo h h1 /\ ∃ on', RowI h1 bo N on' /\ UF N on' rk rt K := ⟨B, on', ho', u'⟩
 replace hfin := Hid.mk hfin
 clear o12 o10 om os ho' u' fv hfind B
 repeat' with_reducible first | refine zAA ?_ | refine zAO ?_ | refine zBz ?_ | (apply dr_q; exact q1) | (apply zCs; exact q1; exact og1) | (apply zAI; exact n1; exact r1)
 exact ⟨rfl, hfin.out⟩
end
end Go.Ab.S
end
section
namespace Go.Ab.S
open Go.Ab
set_option maxHeartbeats 4000000
theorem zJj : ∀ {n : Nat} {l : List Nat}, l.Nodup -> (∀ i ∈ l, i < n) -> l.length <= n
 | 0, [], _, _ => Nat.le_refl _
 | 0, a :: l, _, h => absurd (h a (by simp)) (by omega)
 | n + 1, l, hn, h => by
  have h1 := zJj (n := n) (l := l.erase n) (hn.erase n) fun i hi => by
   have := (List.Nodup.mem_erase_iff hn).1 hi
   have := h i this.2
   omega
  by_cases hm : n ∈ l
  ·rw [List.length_erase_of_mem hm] at h1; omega
  ·rw [List.erase_of_not_mem hm] at h1; omega
def zET (l : List (List Nat)) : List (List Nat) := l.mergeSort fun x y => !zBB y x
structure HasSort (summ : SumT) : Prop where
 none : ∀ h, summ 56 [.slice none 0] h = some (.ret (.tuple [], h))
 zero : ∀ h, summ 56 [.slice0] h = some (.ret (.tuple [], h))
 some : ∀ (l : List (List Nat)), (∀ s ∈ l, ∀ c ∈ s, c < 256) -> l.length <= 2 ^ 31 -> ∀ h b ver vs, WF h -> h.objs.get b = some (ver, .cells false 9 vs) -> l.length <= vs.length -> vs.take l.length = l.map AVal.str →
  summ 56 [.slice (some (b, 0)) l.length] h = some (.ret (.tuple [], zAd h b (.cells false 9 ((zET l).map AVal.str ++ vs.drop l.length))))
theorem zMo {x y : List Nat} (h : zBB x y = true) : zBB y x = false := by
 cases h2 : zBB y x
 ·rfl
 ·have := zCW h h2
  rw [zCt] at this; cases this
theorem zOP {l : List (List Nat)} {s : List Nat} : s ∈ zET l ↔ s ∈ l := List.mem_mergeSort
theorem zGe (l : List (List Nat)) : (zET l).length = l.length := List.length_mergeSort _
theorem sortL_le (l : List (List Nat)) : (zET l).Pairwise fun x y => (!zBB y x) = true := by
 refine List.pairwise_mergeSort (fun a b c h1 h2 => ?_) (fun a b => ?_) l
 ·simp only [Bool.not_eq_true'] at h1 h2 ⊢
  cases h : zBB c a
  ·rfl
  ·rcases zGU b c with k | rfl | k
   ·have := zCW k h; rw [h1] at this; cases this
   ·rw [h1] at h; cases h
   ·rw [h2] at k; cases k
 ·cases h : zBB b a
  ·rfl
  ·rw [zMo h]; rfl
theorem zLa {l : List (List Nat)} (hn : l.Nodup) : Rises (zET l) := by
 have h1 := sortL_le l
 have h2 : (zET l).Nodup := (List.mergeSort_perm l _).nodup_iff.2 hn
 intro i j hij x y hx hy
 obtain ⟨hi, rfl⟩ := List.getElem?_eq_some_iff.1 hx
 obtain ⟨hj, rfl⟩ := List.getElem?_eq_some_iff.1 hy
 have h3 := List.pairwise_iff_getElem.1 h1 i j hi hj hij
 simp only [Bool.not_eq_true'] at h3
 rcases zGU (zET l)[i] (zET l)[j] with k | k | k
 ·exact k
 ·have := (List.getElem_inj h2).1 k; omega
 ·rw [h3] at k; cases k
def BytesL (l : List (List Nat)) : Prop := ∀ s ∈ l, ∀ c ∈ s, c < 256
def zEM (ks : List (List Nat)) (s : List Nat) : List (List Nat) := s.map fun i => ks.getD i []
theorem zOI {ks : List (List Nat)} {s : List Nat} {i : Nat} (hi : i < ks.length) : zEM ks (s ++ [i]) = zEM ks s ++ [ks[i]] := by
 simp [zEM, List.getD, List.getElem?_eq_getElem hi]
theorem zML {ks : List (List Nat)} {s : List Nat} (h : ∀ i, i ∈ s ↔ i < ks.length) (x : List Nat) : x ∈ zEM ks s ↔ x ∈ ks := by
 simp only [zEM, List.mem_map]
 constructor
 ·rintro ⟨i, hi, rfl⟩
  have := (h i).1 hi
  rw [List.getD, List.getElem?_eq_getElem this]; exact List.getElem_mem _
 ·intro hx
  obtain ⟨i, hi, rfl⟩ := List.mem_iff_getElem.1 hx
  exact ⟨i, (h i).2 hi, by rw [List.getD, List.getElem?_eq_getElem hi]; rfl⟩
theorem zMu {ks : List (List Nat)} (hk : ks.Nodup) {s : List Nat} (hs : s.Nodup) (h : ∀ i ∈ s, i < ks.length) : (zEM ks s).Nodup := by
 rw [zEM, List.nodup_iff_pairwise_ne, List.pairwise_map]
 refine List.Pairwise.imp_of_mem ?_ (List.nodup_iff_pairwise_ne.1 hs)
 intro a b ha hb hne he
 have h1 := h a ha
 have h2 := h b hb
 simp only [List.getD, List.getElem?_eq_getElem h1, List.getElem?_eq_getElem h2, Option.getD_some] at he
 exact hne ((List.getElem_inj hk).1 he)
end Go.Ab.S
end
