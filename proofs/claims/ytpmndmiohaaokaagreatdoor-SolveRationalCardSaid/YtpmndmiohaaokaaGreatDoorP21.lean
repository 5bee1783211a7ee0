import Derived.Test.YtpmndmiohaaokaaGreatDoorP19
import Derived.Test.YtpmndmiohaaokaaGreatDoorP20
/-
  Part 21 of the proof.
-/
set_option linter.all false
section
namespace Go.Ab.S
open Go Go.Ab
set_option maxHeartbeats 8000000
def LstF (f : Int -> Int) (args : List Int) (i : Nat) : List Int := (args.take i).map f ++ args.drop i
theorem LstF_get {f : Int -> Int} {args : List Int} {i : Nat} (h : i < args.length) : (LstF f args i)[i]? = some args[i] := by
 rw [LstF, List.getElem?_append_right (by simp; omega)]
 simp [Nat.min_eq_left (Nat.le_of_lt h), h]
theorem LstF_set {f : Int -> Int} {args : List Int} {i : Nat} (h : i < args.length) : (LstF f args i).set i (f args[i]) = LstF f args (i + 1) := by
 have hl : ((args.take i).map f).length = i := by simp; omega
 rw [LstF, List.set_append_right _ _ (by omega), hl, Nat.sub_self, List.drop_eq_getElem_cons h, List.set_cons_zero, LstF, List.take_succ_eq_append_getElem h, List.map_append, List.append_assoc]
 rfl
def NodeM (hA hp : AHeap) (c : List AVal) (n : Node) : Prop := ∃ av lv, c = [.int .i64 n.kind, .str n.name, av, lv, .bool n.isOpen] /\ (IntsAt hA av n.args \/ Built hp hA.next 3 1 av n.args.length (n.args.map (AVal.int .i64))) /\ StrsAt hA lv n.labels
section
variable {hA hp hq : AHeap} {c : List AVal} {n : Node}
theorem NodeM.at (g : Grow hA hp) (k : NodeM hA hp c n) : NodeAt hp c n := by
 obtain ⟨av, lv, h1, h2, h3⟩ := k
 refine ⟨av, lv, h1, ?_, h3.mono g⟩
 rcases h2 with h2 | h2
 ·exact h2.mono g
 ·exact zEC h2
theorem NodeM.stay (k : NodeM hA hp c n) (hk : ∀ b p, hA.next <= b -> hp.objs.get b = some p -> (∃ vs, p.2 = .cells false 3 vs) -> hq.objs.get b = some p) : NodeM hA hq c n := by
 obtain ⟨av, lv, h1, h2, h3⟩ := k
 refine ⟨av, lv, h1, ?_, h3⟩
 rcases h2 with h2 | h2
 ·exact .inl h2
 ·exact .inr (zAX h2 hk)
end
structure MtInv (hA : AHeap) (b10 : Nat) (root : Int) (ns : List Node) (hp : AHeap) : Prop where
 grow : Grow hA hp
 low : hA.next <= b10
 o : ∃ (ver : Nat) (vo : AVal) (cs : List (List AVal)), hp.objs.get b10 = some (ver, .cells false 24 [vo, .int .i64 root]) /\ Built hp hA.next 36 5 vo ns.length cs.flatten /\ cs.length = ns.length /\ ∀ (i : Nat) c n, cs[i]? = some c -> ns[i]? = some n -> NodeM hA hp c n
theorem MtInv.other {hA : AHeap} {b10 : Nat} {root : Int} {ns : List Node} {hp hq : AHeap} (I : MtInv hA b10 root ns hp) (g : Grow hp hq) : MtInv hA b10 root ns hq := by
 obtain ⟨ver, vo, cs, h1, h2, h3, h4⟩ := I.o
 exact ⟨I.grow.trans g, I.low, ver, vo, cs, g.keep _ _ h1, h2.grow g, h3, fun i c n hc hn => (h4 i c n hc hn).stay fun b p _ hb _ => g.keep _ _ hb⟩
theorem MtInv.nodes {hA : AHeap} {b10 : Nat} {root : Int} {ns : List Node} {hp : AHeap} (I : MtInv hA b10 root ns hp) : ∃ ver vo, hp.objs.get b10 = some (ver, .cells false 24 [vo, .int .i64 root]) /\ NodesAt hp vo ns := by
 obtain ⟨ver, vo, cs, h1, kB, kl, kn⟩ := I.o
 refine ⟨ver, vo, h1, cs, kB.sl (by decide) rfl (fun c hc => ?_) kl, kl, fun i n c hn hc => (kn i c n hc hn).at I.grow⟩
 obtain ⟨i, hi, rfl⟩ := List.mem_iff_getElem.1 hc
 obtain ⟨_, _, hcs, _⟩ := kn i _ _ (List.getElem?_eq_getElem hi) (List.getElem?_eq_getElem (by omega))
 rw [hcs]; rfl
def nsTo (g h : Graph) (j : Nat) : List Node := g.nodes ++ (h.nodes.take j).map (shN g.nodes.length)
theorem zFZ (g h : Graph) {j : Nat} (hj : j <= h.nodes.length) : (nsTo g h j).length = g.nodes.length + j := by simp [nsTo]; omega
theorem nsTo_put (g h : Graph) {j : Nat} (hj : j < h.nodes.length) : nsTo g h (j + 1) = nsTo g h j ++ [shN g.nodes.length h.nodes[j]] := by
 rw [nsTo, nsTo, List.take_succ_eq_append_getElem hj, List.map_append, List.append_assoc]; rfl
theorem nsTo_all (g h : Graph) : nsTo g h h.nodes.length = (zAw g h).nodes := by rw [nsTo, List.take_length]; rfl
section
variable {fns : FnsT} {summ : SumT}
variable (H : Has fns summ) (HS : HasSort summ) (HA : HasAs summ)
include H HS HA
theorem Meet_ok (g h : Graph) (hg : GTi g) (hh : GTi h) (hb : GTi (zAw g h)) (hL : zAk [] (zAw g h).nodes 0 <= 2 ^ 20) (hsm : ((zAw g h).nodes.length + 1) * (zAk [] (zAw g h).nodes 0 + 1) + 1 <= 2 ^ 30) {gv hv' : AVal} {h0 : AHeap} (w0 : WF h0) (hv : GraphAt h0 gv g) (hu : GraphAt h0 hv' h) :
  Cl fns summ 16 [gv, hv'] h0 fun r h' => Grow h0 h' /\ ∃ uv code, r = .tuple [uv, .int .i64 code] /\ (code ≠ 0 -> uv = .agg [.slice none 0, .int .i64 0]) /\ ((zAF g ≠ 0 /\ code = zAF g) \/ (zAF g = 0 /\ zAF h ≠ 0 /\ code = zAF h) \/ (zAF g = 0 /\ zAF h = 0 /\ code = 8 /\ ¬ Consi (zAw g h) (zBa g h)) \/ (zAF g = 0 /\ zAF h = 0 /\ code = 0 /\ ∃ U R, UOut (zAw g h) (zBa g h) U R /\ OwnG h' h0.next uv (zCE U))) := by
 obtain ⟨gn, rfl, hN⟩ := hv
 obtain ⟨hn, rfl, hM⟩ := hu
 have hlen := hN.len
 have hlenh := hM.len
 have hpart : zBC (some 2) [gn, .int .i64 g.root] 0 = some (.agg [gn, .int .i64 g.root]) := rfl
 have hpart' : zBC (some 2) [hn, .int .i64 h.root] 0 = some (.agg [hn, .int .i64 h.root]) := rfl
 refine H.go (fn := F_SMeet) rfl (by decide) rfl rfl ?_
 unfold F_SMeet
 dsimp only [qQ, qE, qN, gQ, gE, vi, tm, mt, lo, fa]
 refine zAE (zAD ?_)
 refine zBL (by exact e1) (by exact cc) w0 ?_
 rintro b2 h2 hb2 g2 o2
 refine zBL (by exact e1) (by exact cc) g2.wf ?_
 rintro b3 h3 hb3 g3 o3
 refine zAY g3.wf ?_
 rintro b4 h4 hb4 g4 o4
 replace o2 := g4.keep _ _ (g3.keep _ _ o2)
 replace o3 := g4.keep _ _ o3
 have g04 := (g2.trans g3).trans g4
 have n2 := g2.next
 have n3 := g3.next
 have ht2 : ∀ x y : AVal, List.take 2 [x, y] = [x, y] := fun _ _ => rfl
 repeat with_reducible first | refine zAA ?_ | refine zAC ?_ | refine zAE ?_ | refine zAD ?_ | (apply st_q; exact q1)
 refine st_q (v := .agg [gn, .int .i64 g.root, hn, .int .i64 h.root]) (b := none) (by rw [zBh]; simp only [zCw, zBE, zBS, zBV, if_true, if_false, Nat.reduceEqDiff, zAi]; rfl) ?_
 repeat with_reducible first | refine zAA ?_ | refine zAC ?_ | (apply st_q; exact q1)
 have o2h := Hid.mk o2
 have o3h := Hid.mk o3
 have o4h := Hid.mk o4
 have lb2 := g04.wf.lt o2
 have lb3 := g04.wf.lt o3
 have lb4 := g04.wf.lt o4
 refine zEa (fun a hp => Hid (Grow h4 hp) /\ Hid (zAF g = 0 /\ zAF h = 0) /\ a.defers = [] /\ ev a (.tmp 2) = some (.ptr (some (b2, 0))) /\ ev a (.tmp 3) = some (.ptr (some (b3, 0))) /\ ev a (.tmp 4) = some (.ptr (some (b4, 0)))) ?_ ?_
 ·refine zBy ?_
  refine zDM (fun m a hp => ∃ j : Nat, Hid (m + j = 2) /\ Hid (Grow h4 hp) /\ Hid ((1 <= j -> zAF g = 0) /\ (2 <= j -> zAF h = 0)) /\ a.defers = [] /\ ev a (.tmp 2) = some (.ptr (some (b2, 0))) /\ ev a (.tmp 3) = some (.ptr (some (b3, 0))) /\ ev a (.tmp 4) = some (.ptr (some (b4, 0))) /\ ev a (.tmp 19) = some (.agg [gn, .int .i64 g.root, hn, .int .i64 h.root]) /\ ev a (.tmp 20) = some (.int .i64 (j : Nat))) ?_ (n := 2) ⟨0, ⟨rfl⟩, ⟨Grow.refl g04.wf⟩, ⟨fun h => by omega, fun h => by omega⟩, by exact n1, by exact e1, by exact e1, by exact e1, by exact e1, by exact e1⟩
  clear o2 o3 o4
  rintro m a hp ⟨j, hm, Gp, hck, hd, t2', t3', t4', t19', t20'⟩
  have wp := Gp.out.wf
  have o4 := Gp.out.keep _ _ o4h.out
  rcases Nat.lt_or_ge j 2 with hj | hj
  ·have z0 : decide (((j : Nat) : Int) < 2) = true := by simp; omega
   obtain ⟨x, xn, hGx, hxN, hpx, hcx⟩ : ∃ x xn, GTi x /\ NodesAt h0 xn x.nodes /\ zBC (some 2) [gn, .int .i64 g.root, hn, .int .i64 h.root] (j * 2) = some (.agg [xn, .int .i64 x.root]) /\ ((j = 0 /\ x = g) \/ (j = 1 /\ x = h)) := by
    rcases (show j = 0 \/ j = 1 by omega) with rfl | rfl
    ·exact ⟨g, gn, hg, hN, rfl, .inl ⟨rfl, rfl⟩⟩
    ·exact ⟨h, hn, hh, hM, rfl, .inr ⟨rfl, rfl⟩⟩
   replace hcx := Hid.mk hcx
   have lx := hxN.len
   have hxN' := Hid.mk hxN
   have hGx' := Hid.mk hGx
   clear hxN hGx
   repeat with_reducible first | refine zAA ?_ | refine zAC ?_ | refine zAE ?_ | refine zAD ?_ | refine zAP ?_ | refine zAT ?_ | (apply st_q; exact q1) | (apply zAJ; exact e1)
   refine st_q (v := .agg [xn, .int .i64 x.root]) (b := none) (by simp [zCH, zBE, t19', t20', zCU, hj, hpx]) ?_
   refine zAY wp ?_
   rintro b7 h6 hb7 g6 o7
   refine zAG (by exact e1) (by exact e1) (by exact cc) rfl g6.wf o7 (by simp) (by simp only [List.all_cons, List.all_nil, zAR lx, Bool.true_and, Bool.and_true]; rfl) ?_
   rintro v7 h7 p7 o7'
   simp only [zlY, zlA, zlC, zlN, zlD, zlZ, zlE, Nat.zero_add, Nat.reduceAdd, zlX, zlK] at o7'
   have g7 : Grow hp h7 := p7.grow hp wp g6 hb7
   have G7 := Hid.mk (Gp.out.trans g7)
   have w7 := g7.wf
   have o47 := g7.keep _ _ o4
   clear g6 o7 p7 g7 o4
   repeat with_reducible first | refine zAA ?_ | refine zAC ?_ | refine zAE ?_ | refine zAD ?_ | (apply st_q; exact q1)
   refine zAb (by exact s1) ((Check_ok H x hGx'.out.toGraphSm _ h7 w7 ⟨xn, rfl, hxN'.out.mono (g04.trans G7.out)⟩).mono ?_)
   rintro _ h8 ⟨rfl, g8⟩
   have G8 := Hid.mk (G7.out.trans g8)
   have o48 := g8.keep _ _ o47
   have w8 := g8.wf
   clear o47 g8 o7'
   cases hz : (zAF x != 0)
   ·have hz0 : Hid (zAF x = 0) := ⟨by simpa using hz⟩
    have hck' : Hid ((1 <= j + 1 -> zAF g = 0) /\ (2 <= j + 1 -> zAF h = 0)) := ⟨by
     rcases hcx.out with ⟨rfl, rfl⟩ | ⟨rfl, rfl⟩
     ·exact ⟨fun _ => hz0.out, fun h => by omega⟩
     ·exact ⟨fun _ => hck.out.1 (by omega), fun _ => hz0.out⟩⟩
    have hm' : Hid (m - 1 < m /\ m - 1 + (j + 1) = 2) := ⟨by have := hm.out; omega, by have := hm.out; omega⟩
    have hwj : IntKind.i64.wrap (((j : Nat) : Int) + 1) = ((j + 1 : Nat) : Int) := by rw [zAq (by omega) (by omega)]; rfl
    repeat with_reducible first | refine zAA ?_ | refine zAQ ?_ | refine zAC ?_ | refine zAE ?_ | refine zAD ?_ | refine zAT ?_ | (apply st_q; exact q1) | (apply zAL; exact e1)
    exact ⟨m - 1, hm'.out.1, j + 1, ⟨hm'.out.2⟩, G8, hck', by exact n1, by exact e1, by exact e1, by exact e1, by exact e1, by exact e1⟩
   ·have hz0 : Hid (zAF x ≠ 0) := ⟨by simpa using hz⟩
    have hor : Hid ((zAF g ≠ 0 /\ zAF x = zAF g) \/ (zAF g = 0 /\ zAF h ≠ 0 /\ zAF x = zAF h)) := ⟨by
     rcases hcx.out with ⟨rfl, rfl⟩ | ⟨rfl, rfl⟩
     ·exact .inl ⟨hz0.out, rfl⟩
     ·exact .inr ⟨hck.out.1 (by omega), hz0.out, rfl⟩⟩
    have hG8 := g04.trans G8.out
    repeat with_reducible first | refine zAA ?_ | refine zAC ?_ | refine zAE ?_ | refine zAD ?_ | (apply st_q; exact q1) | (apply zAJ; exact e1)
    refine zAG (by exact e1) (by exact e1) (by exact cc) rfl w8 o48 (by simp) rfl ?_
    rintro v9 h9 p9 o9
    simp only [zlY, zlA, zlC, zlN, zlD, zlZ, zlE, Nat.zero_add, Nat.reduceAdd, zlX, zlK] at o9
    have g9 := p9.grow h0 w0 hG8 (by omega)
    clear o48 p9
    repeat' with_reducible first | refine zAA ?_ | refine zAa ?_ | refine zBP ?_ | refine zAC ?_ | refine zAO ?_ | (apply st_q; exact q1) | (apply zAI; exact n1; exact r1)
    exact ⟨g9, _, _, rfl, fun _ => rfl, hor.out.elim .inl fun k => .inr (.inl k)⟩
  ·obtain rfl : j = 2 := by have := hm.out; omega
   have z0 : decide (((2 : Nat) : Int) < 2) = false := by decide
   have hck' : Hid (zAF g = 0 /\ zAF h = 0) := ⟨hck.out.1 (by omega), hck.out.2 (by omega)⟩
   repeat with_reducible first | refine zAA ?_ | refine zBg ?_ | refine zBf ?_ | refine zAC ?_ | refine zAE ?_ | refine zAD ?_ | refine zCF ?_ | (apply st_q; exact q1) | (apply zAL; exact e1)
   exact ⟨Gp, hck', by exact n1, by exact e1, by exact e1, by exact e1⟩
 ·clear o2 o3 o4
  rintro a hp ⟨Gp, hck, hd, t2', t3', t4'⟩
  have o2 := Gp.out.keep _ _ o2h.out
  have o3 := Gp.out.keep _ _ o3h.out
  have o4 := Gp.out.keep _ _ o4h.out
  have hNM : g.nodes.length + h.nodes.length <= 4096 := by have := hb.tinyN; rw [zCJ] at this; exact this
  have hw1 : IntKind.i64.wrap (Int.ofNat g.nodes.length + Int.ofNat h.nodes.length) = ((g.nodes.length + h.nodes.length : Nat) : Int) := by
   rw [zAq (by simp only [Int.ofNat_eq_natCast]; omega) (by simp only [Int.ofNat_eq_natCast]; omega)]; simp
  have z1 : decide (((g.nodes.length + h.nodes.length : Nat) : Int) > 1048576) = false := by simp; omega
  refine zAA ?_
  repeat with_reducible first | refine zAA ?_ | refine zAC ?_ | refine zAE ?_ | refine zAD ?_ | refine zAT ?_ | refine zBQ ?_ | (apply dr_q; exact q1) | (apply zCs; exact q1; exact og1) | (apply st_q; exact q1) | (apply zAL; exact e1)
  have wp := Gp.out.wf
  have n4p := Gp.out.next
  have Gh := Hid.mk (g04.trans Gp.out)
  refine zBD (zAb (by exact s1) ((CloneNode_ok H g.nodes (le31 (by omega)) gn hp wp (hN.mono Gh.out)).mono ?_))
  rintro bv hA ⟨cs0, Bg, lcs0, hcs0, gA⟩
  have o2A := gA.keep _ _ o2
  refine zAC ⟨by simp [zAf, Nat.testBit, o2A], ?_⟩
  have lbv := Bg.len
  have wA := gA.wf
  refine dr_q (v := .agg [bv, .int .i64 g.root]) (by rw [zBh]; simp only [zCw, zBE, zBS, zBV, if_true, if_false, Nat.reduceEqDiff, zAg lbv]; rfl) ?_
  refine zBD (zAY wA ?_)
  rintro b10 hB hb10 gB o10
  have o2B := gB.keep _ _ o2A
  refine zAC ⟨by simp [zAf, Nat.testBit, o2B], ?_⟩
  refine zBD (zAG (by exact e1) (by exact e1) (by exact cc) rfl gB.wf o10 (by simp) (by simp only [List.all_cons, List.all_nil, zAR lbv, Bool.true_and, Bool.and_true]; rfl) ?_)
  rintro vC hC pC oC
  have gC : Grow hA hC := pC.grow hA wA gB hb10
  have o2C := gC.keep _ _ o2A
  refine zAC ⟨by simp [zAf, Nat.testBit, o2C], ?_⟩
  simp only [zlY, zlA, zlC, zlN, zlD, zlZ, zlE, Nat.zero_add, Nat.reduceAdd, zlX, zlK] at oC
  have nA := gA.next
  have I0 : Hid (MtInv hp b10 g.root (nsTo g h 0) hC) := ⟨⟨gA.trans gC, by omega, _, bv, cs0, oC, by rw [zFZ g h (Nat.zero_le _)]; exact Bg.grow gC, by rw [zFZ g h (Nat.zero_le _)]; exact lcs0, fun i c n hc hn => by
   have hn' : g.nodes[i]? = some n := by simpa [nsTo] using hn
   obtain ⟨av, lv, h1, h2, h3⟩ := hcs0 i n c hn' hc
   exact ⟨av, lv, h1, .inl h2, h3⟩⟩⟩
  have o2p := Hid.mk o2
  have o3p := Hid.mk o3
  have o4p := Hid.mk o4
  have o3C := gC.keep _ _ (gA.keep _ _ o3)
  have lt2 := wp.lt o2
  have lt3 := wp.lt o3
  have lt4 := wp.lt o4
  have lb10 : hp.next <= b10 := by omega
  clear o10 gB pC gC gA o2A o2B o2C Bg hcs0 oC o2 o3 o4
  repeat with_reducible first | refine zAA ?_ | refine zAC ?_ | refine zAE ?_ | refine zAD ?_ | refine zBz ?_ | (apply st_q; exact q1)
  refine zAz (N := h.nodes.length) (by omega) (fun j a hq => Hid (MtInv hp b10 g.root (nsTo g h j) hq) /\ a.defers = [] /\ ev a (.tmp 2) = some (.ptr (some (b2, 0))) /\ ev a (.tmp 3) = some (.ptr (some (b3, 0))) /\ ev a (.tmp 4) = some (.ptr (some (b4, 0))) /\ ev a (.tmp 9) = some (.int .i64 (g.nodes.length : Nat)) /\ ev a (.tmp 10) = some (.ptr (some (b10, 0))) /\ ev a (.tmp 47) = some hn)
   (by rintro j a hq t w (rfl | rfl | rfl) ⟨m1, m2, m3, m4, m5, m6, m7, m8⟩ <;> exact ⟨m1, by rw [zAc]; exact m2, by exact e1, by exact e1, by exact e1, by exact e1, by exact e1, by exact e1⟩) (by decide) ?_ ?_ ⟨I0, by exact n1, by exact e1, by exact e1, by exact e1, by exact e1, by exact e1, by exact e1⟩ (by exact e1) (by exact e1)
  ·clear I0 o3C
   rintro j a hq hj ⟨I, hd, t2', t3', t4', t9', t10', t47'⟩ hi hn'
   have hmem : h.nodes[j] ∈ h.nodes := List.getElem_mem hj
   have hA4 := hh.tinyA _ hmem
   obtain ⟨bn, on, vern, ron, en, vsn, av, lv, hixn, hgn0, hvl, hv5, _, _, _, _, _, ha, hl⟩ := (hM.mono Gh.out).at (List.getElem?_eq_getElem hj)
   have hgn := I.out.grow.keep _ _ hgn0
   have hpart5 : zBC (some 5) vsn on = some (zEj h.nodes[j] av lv) := by rw [zBC, if_pos hvl, hv5]; rfl
   have hla := ha.len
   have hll := hl.len
   have hmay := Hid.mk (zAu ((zBA hck.out.2).2 _ hmem))
   have ha' := Hid.mk ha
   have hl' := Hid.mk hl
   clear hgn0 ha hl
   repeat with_reducible first | refine zAE ?_ | refine zAD ?_ | refine zAP ?_ | (apply st_q; exact q1)
   have wq := I.out.grow.wf
   refine zAY wq ?_
   rintro b12 h6 hb12 g6 o12
   refine zAG (by exact e1) (by exact e1) (cs := [.int .i64 h.nodes[j].kind, .str h.nodes[j].name, av, lv, .bool h.nodes[j].isOpen]) rfl rfl g6.wf o12 (by simp) (zCP hla hll) ?_
   rintro v7 h7 p7 o7
   simp only [zlY, zlA, zlC, zlN, zlD, zlZ, zlE, Nat.zero_add, Nat.reduceAdd, zlX, zlK] at o7
   have g7 : Grow hq h7 := p7.grow hq wq g6 hb12
   have G7 := Hid.mk (Gh.out.trans (I.out.grow.trans g7))
   have w7 := g7.wf
   have n7 := g7.next
   have ng7 := Hid.mk g7
   have l12 := w7.lt o7
   clear o12 p7 g6 hixn hgn hpart5 hv5 hvl g7
   repeat with_reducible first | refine zAA ?_ | refine zAC ?_ | refine zAE ?_ | refine zAD ?_ | (apply st_q; exact q1)
   refine zAb (by exact s1) ((CloneInt_ok H h.nodes[j].args (le31 (by omega)) av h7 w7 (ha'.out.mono (I.out.grow.trans ng7.out))).mono ?_)
   rintro ci h8 ⟨B8, g8⟩
   have o8 := g8.keep _ _ o7
   have gg8 := Hid.mk (ng7.out.trans g8)
   have hci8 := B8.len
   repeat with_reducible (apply st_q; exact q1)
   refine zAG (by exact e1) (by exact e1) (zAg hci8) rfl g8.wf o8 (by simp) (by simp only [List.all_cons, List.all_nil, zAR hci8, Bool.and_true]) ?_
   rintro v9 h9 p9 o9
   simp only [zlT, zlY, zlA, zlC, zlN, zlD, zlZ, zlE, Nat.zero_add, Nat.reduceAdd, zlX, zlK] at o9
   have g9 := Hid.mk (p9.grow hq wq gg8.out (by omega))
   have C9 : Built h9 hq.next 3 1 ci h.nodes[j].args.length (h.nodes[j].args.map (AVal.int .i64)) := zBG (zAS B8 p9 o8 (fun vs hh => by cases hh)) (by omega)
   have hci := C9.len
   have w9 := g9.out.wf
   have C9' := Hid.mk C9
   clear B8 p9 o7 o8 gg8 g8 hci8 C9
   repeat with_reducible first | refine zAA ?_ | refine zAC ?_ | refine zAE ?_ | refine zAD ?_ | (apply st_q; exact q1)
   have hlo : LstF (· + (g.nodes.length : Int)) h.nodes[j].args 0 = h.nodes[j].args := by simp [LstF]
   have hle : Hid (LstF (· + (g.nodes.length : Int)) h.nodes[j].args h.nodes[j].args.length = (shN g.nodes.length h.nodes[j]).args) := ⟨by simp [LstF, shN]⟩
   refine zEa (fun a' hr => Hid (∀ c p, h9.objs.get c = some p -> (∀ n, ci ≠ .slice (some (c, 0)) n) -> hr.objs.get c = some p) /\ Hid (Grow hq hr /\ h9.next <= hr.next) /\ Hid (Built hr hq.next 3 1 ci h.nodes[j].args.length ((LstF (· + (g.nodes.length : Int)) h.nodes[j].args h.nodes[j].args.length).map (AVal.int .i64))) ∧
    a'.defers = [] /\ ev a' (.tmp 2) = some (.ptr (some (b2, 0))) /\ ev a' (.tmp 3) = some (.ptr (some (b3, 0))) /\ ev a' (.tmp 4) = some (.ptr (some (b4, 0))) /\ ev a' (.tmp 9) = some (.int .i64 (g.nodes.length : Nat)) /\ ev a' (.tmp 10) = some (.ptr (some (b10, 0))) /\ ev a' (.tmp 47) = some hn /\ ev a' (.tmp 12) = some (.ptr (some (b12, 0))) /\ ev a' (.tmp 49) = some (.int .i64 (j : Nat)) /\ ev a' (.tmp 48) = some (.int .i64 (h.nodes.length : Nat))) ?_ ?_
   ·refine zAz (N := h.nodes[j].args.length) (by omega) (fun i a' hr => Hid (∀ c p, h9.objs.get c = some p -> (∀ n, ci ≠ .slice (some (c, 0)) n) -> hr.objs.get c = some p) /\ Hid (Grow hq hr /\ h9.next <= hr.next) /\ Hid (Built hr hq.next 3 1 ci h.nodes[j].args.length ((LstF (· + (g.nodes.length : Int)) h.nodes[j].args i).map (AVal.int .i64))) ∧
     a'.defers = [] /\ ev a' (.tmp 2) = some (.ptr (some (b2, 0))) /\ ev a' (.tmp 3) = some (.ptr (some (b3, 0))) /\ ev a' (.tmp 4) = some (.ptr (some (b4, 0))) /\ ev a' (.tmp 9) = some (.int .i64 (g.nodes.length : Nat)) /\ ev a' (.tmp 10) = some (.ptr (some (b10, 0))) /\ ev a' (.tmp 47) = some hn /\ ev a' (.tmp 12) = some (.ptr (some (b12, 0))) /\ ev a' (.tmp 49) = some (.int .i64 (j : Nat)) /\ ev a' (.tmp 48) = some (.int .i64 (h.nodes.length : Nat)))
     (by rintro i a' hr t w (rfl | rfl | rfl) ⟨m1, m2, m3, m4, m5, m6, m7, m8, m9, m10, m11, m12, m13⟩ <;> exact ⟨m1, m2, m3, by rw [zAc]; exact m4, by exact e1, by exact e1, by exact e1, by exact e1, by exact e1, by exact e1, by exact e1, by exact e1, by exact e1⟩) (by decide) ?_ ?_
     ⟨⟨fun c p hc _ => hc⟩, ⟨g9.out, Nat.le_refl _⟩, ⟨by rw [hlo]; exact C9'.out⟩, by exact n1, by exact e1, by exact e1, by exact e1, by exact e1, by exact e1, by exact e1, by exact e1, by exact e1, by exact e1⟩ (by exact e1) (by exact e1)
    ·clear hd t2' t3' t4' t9' t10' t47' hi hn' hlo
     rintro i a' hr hil ⟨hkp, gr, hBB, hd, t2', t3', t4', t9', t10', t47', t12', t49', t48'⟩ hi hn'
     have hB := hBB.out
     rcases hB with ⟨_, hh, _⟩ | ⟨_, hh, _⟩ | ⟨ba, vsa, vera, hba, hcq, hga, hla', hta⟩
     ·omega
     ·omega
     rw [Nat.mul_one] at hla' hta
     have hixa : slA ci 1 i = some (ba, i) := by rw [hcq]; simp [slA, hil]
     have hva : vsa[i]? = some (.int .i64 h.nodes[j].args[i]) := by
      have := congrArg (fun l => l[i]?) hta
      simp only [List.getElem?_take, if_pos hil, List.getElem?_map, LstF_get hil, Option.map_some] at this
      exact this
     have o9r := hkp.out _ _ o9 (zAK C9'.out o9 fun vs hh => by cases hh)
     obtain ⟨a0, a1⟩ := hmay.out _ (List.getElem_mem hil)
     have hwa : IntKind.i64.wrap (h.nodes[j].args[i] + ((g.nodes.length : Nat) : Int)) = h.nodes[j].args[i] + ((g.nodes.length : Nat) : Int) := zAq (by omega) (by omega)
     have hcq' := Hid.mk hcq
     have hta' := Hid.mk hta
     have wr := gr.out.1.wf
     clear hcq hta hBB a0 a1
     repeat with_reducible first | refine zAA ?_ | refine zAC ?_ | refine zAE ?_ | refine zAD ?_ | refine zAP ?_ | (apply st_q; exact q1)
     refine zAG (by exact e1) (by exact e1) (by exact cc) rfl wr hga (by simp; omega) rfl ?_
     rintro vz hz pz oz
     simp only [zlC, zlN, Nat.zero_add] at oz
     have K1 : Hid (∀ c p, h9.objs.get c = some p -> (∀ n, ci ≠ .slice (some (c, 0)) n) -> hz.objs.get c = some p) := ⟨fun c p hc hne => pz.keep c (by rintro rfl; exact hne _ hcq'.out) _ (hkp.out c p hc hne)⟩
     have K2 : Hid (Grow hq hz /\ h9.next <= hz.next) := ⟨pz.grow hq wq gr.out.1 hba, Nat.le_trans gr.out.2 pz.next⟩
     have K3 : Hid (Built hz hq.next 3 1 ci h.nodes[j].args.length ((LstF (· + (g.nodes.length : Int)) h.nodes[j].args (i + 1)).map (AVal.int .i64))) := ⟨.inr (.inr ⟨ba, _, _, hba, hcq'.out, oz, by simp; omega, by rw [Nat.mul_one, zJx hil hla', hta'.out, <- LstF_set hil, List.map_set]⟩)⟩
     clear oz pz hga hixa hva hkp o9r
     repeat with_reducible first | refine zAA ?_ | refine zAQ ?_ | refine zAC ?_
     exact ⟨⟨K1, K2, K3, by exact n1, by exact e1, by exact e1, by exact e1, by exact e1, by exact e1, by exact e1, by exact e1, by exact e1, by exact e1⟩, by exact e1, by exact e1⟩
    ·rintro a' hr ⟨m1, m2, m3, m4, m5, m6, m7, m8, m9, m10, m11, m12, m13⟩
     exact ⟨m1, m2, m3, m4, m5, m6, m7, m8, m9, m10, m11, m12, m13⟩
   ·clear hd t2' t3' t4' t9' t10' t47' hi hn' hlo
    rintro a' hr ⟨hkp, gr, hBB, hd, t2', t3', t4', t9', t10', t47', t12', hi, hn'⟩
    rw [hle.out] at hBB
    have o9r := hkp.out _ _ o9 (zAK C9'.out o9 fun vs hh => by cases hh)
    have wr := gr.out.1.wf
    have Ir := Hid.mk (I.out.other gr.out.1)
    obtain ⟨ver10, vo, cs, o10, kB, kl, kn⟩ := Ir.out.o
    rw [zFZ g h (by omega)] at kB kl
    have lvo := kB.len
    have kB' := Hid.mk kB
    have kn' := Hid.mk kn
    have nr := gr.out.2
    have nr' := gr.out.1.next
    have nq := I.out.grow.next
    have n9 := g9.out.next
    clear kB kn
    refine zAA ?_
    repeat with_reducible first | refine zAD ?_ | (apply st_q; exact q1)
    refine zAp (by exact e1) (cs := [.int .i64 h.nodes[j].kind, .str h.nodes[j].name, ci, lv, .bool h.nodes[j].isOpen]) rfl rfl rfl wr ?_
    rintro bx h12 hbx g12 ox
    have kB12 := kB'.out.grow g12
    have n12 := g12.next
    refine zAy (by exact e1) (by exact e1) kB12 ox rfl (zCP hci hll) (zDU H (by decide) (le31 (by omega))) g12.wf (by omega) ?_
    rintro vo' h13 B13 f13 w13 n13 gr13 kp13
    have o10' := kp13 _ _ (g12.keep _ _ o10) (zAK kB12 (g12.keep _ _ o10) fun vs hh => by cases hh)
    have lvo' := B13.len
    have g13 := Hid.mk (gr13 hp wp (Ir.out.grow.trans g12) (Nat.le_refl _))
    have B13' := Hid.mk B13
    have kpx := Hid.mk (fun c p (hc : hr.objs.get c = some p) hn => kp13 c p (g12.keep _ _ hc) hn)
    clear ox kB12 g12 f13 gr13 kp13 B13
    repeat with_reducible (apply st_q; exact q1)
    refine zAG (by exact e1) (by exact e1) (zAg lvo') rfl w13 o10' (by simp) (by simp only [List.all_cons, List.all_nil, zAR lvo', Bool.and_true]) ?_
    rintro v14 h14 p14 o14
    simp only [zlT, zlY, zlA, zlC, zlN, zlD, zlZ, zlE, Nat.zero_add, Nat.reduceAdd, zlX, zlK] at o14
    have I14 : Hid (MtInv hp b10 g.root (nsTo g h (j + 1)) h14) := ⟨by
     have hstay : ∀ c p, hr.objs.get c = some p -> (∀ vs, p.2 ≠ .cells false 36 vs) -> c ≠ b10 -> h14.objs.get c = some p := fun c p hc hp hne => p14.keep c hne _ (kpx.out c p hc (zAK kB'.out hc hp))
     have h3 : ∀ b p, hp.next <= b -> hr.objs.get b = some p -> (∃ vs, p.2 = .cells false 3 vs) -> h14.objs.get b = some p := fun b p _ hb ⟨vs, hp⟩ => hstay b p hb (fun vs' hh => by rw [hp] at hh; cases hh) (by
      rintro rfl
      rw [o10] at hb
      simp only [oI] at hb
      rw [<- hb] at hp; cases hp)
     refine ⟨p14.grow hp wp g13.out lb10, lb10, _, vo', cs ++ [[.int .i64 h.nodes[j].kind, .str h.nodes[j].name, ci, lv, .bool h.nodes[j].isOpen]], o14, ?_, ?_, fun i c n hcc hnn => ?_⟩
     ·rw [zFZ g h (by omega), List.flatten_append]
      have := zAS B13'.out p14 o10' (fun vs hh => by cases hh)
      simpa [Nat.add_assoc] using this
     ·rw [zFZ g h (by omega), List.length_append, kl]; simp; omega
     ·rw [nsTo_put g h hj] at hnn
      have hnl := zFZ g h (show j <= h.nodes.length by omega)
      rcases Nat.lt_or_ge i (g.nodes.length + j) with hij | hij
      ·rw [List.getElem?_append_left (by omega)] at hcc
       rw [List.getElem?_append_left (by omega)] at hnn
       exact (kn'.out i c n hcc hnn).stay h3
      ·rw [List.getElem?_append_right (by omega), kl] at hcc
       rw [List.getElem?_append_right (by omega), hnl] at hnn
       obtain rfl : i = g.nodes.length + j := by
        have := (List.getElem?_eq_some_iff.1 hcc).1
        simp only [zlC, zlN] at this
        omega
       rw [Nat.sub_self, List.getElem?_cons_zero, oI] at hcc hnn
       subst hcc; subst hnn
       refine ⟨ci, lv, rfl, .inr ?_, hl'.out⟩
       have hl2 : (shN g.nodes.length h.nodes[j]).args.length = h.nodes[j].args.length := by simp [shN]
       rw [hl2]
       exact zBG (zAX hBB.out fun c p hc hp' ht => h3 c p (by omega) hp' ht) (by omega)⟩
    clear o14 p14 o10' o10 g13 kpx o9r
    repeat with_reducible first | refine zAA ?_ | refine zAQ ?_ | refine zAC ?_
    exact ⟨⟨I14, by exact n1, by exact e1, by exact e1, by exact e1, by exact e1, by exact e1, by exact e1⟩, by exact e1, by exact e1⟩
  ·clear I0 o3C
   rintro a hq ⟨I0, hd, t2', t3', t4', t9', t10', t47'⟩
   have I : Hid (MtInv hp b10 g.root (zAw g h).nodes hq) := ⟨by rw [<- nsTo_all]; exact I0.out⟩
   obtain ⟨ver10, vo, o10, hNo⟩ := I.out.nodes
   have o2 := I.out.grow.keep _ _ o2p.out
   have o3 := I.out.grow.keep _ _ o3p.out
   have o4 := I.out.grow.keep _ _ o4p.out
   have lno := hNo.len
   have cb : Hid (zAF (zAw g h) = 0) := ⟨zCi hck.out.1 hck.out.2 (by omega)⟩
   have hrg := zAZ hck.out.1
   have hrh := zAZ hck.out.2
   have hw2 : IntKind.i64.wrap (((g.nodes.length : Nat) : Int) + h.root) = ((g.nodes.length : Nat) : Int) + h.root := zAq (by omega) (by omega)
   have hin : Hid (∀ p ∈ zBa g h, zFB (zAw g h) p = true) := ⟨fun p hp => by
    simp only [zBa, List.mem_singleton] at hp
    subst hp
    simp only [zFB, decide_eq_true_eq, zCJ]
    omega⟩
   have Gq := Hid.mk (Gh.out.trans I.out.grow)
   have wq := Gq.out.wf
   have hNo' := Hid.mk hNo
   clear I0 hNo hrg hrh
   refine zAA ?_
   repeat with_reducible first | refine zAE ?_ | refine zAD ?_ | (apply zJz; exact e1; exact e1) | (apply st_q; exact q1)
   refine zAp (by exact e1) (cs := [.int .i64 g.root, .int .i64 (((g.nodes.length : Nat) : Int) + h.root)]) rfl rfl rfl wq ?_
   rintro bx hX hbx gX ox
   have hpr : PrsAt hX (.slice (some (bx, 0)) 1) (zBa g h) := by
    have B : Built hX hq.next 40 2 (.slice (some (bx, 0)) 1) 1 [.int .i64 g.root, .int .i64 (((g.nodes.length : Nat) : Int) + h.root)] := .inr (.inr ⟨bx, _, _, hbx, rfl, ox, by simp, rfl⟩)
    exact B.sl (by decide) (xs := [zCb (g.root, (g.nodes.length : Int) + h.root)]) (by simp [zCb]) (by intro c hc; rw [List.mem_singleton.1 hc]; rfl) (by simp)
   have o2X := gX.keep _ _ o2
   have o4X := gX.keep _ _ o4
   have wX := gX.wf
   have GX := Hid.mk (Gq.out.trans gX)
   have huni := Hid.mk (Unify_ok H HS HA (zAw g h) hb (zBa g h) (by simp [zBa]) hL (by simpa [zBa] using hsm) wX (gv := .agg [vo, .int .i64 g.root]) ⟨vo, rfl, hNo'.out.mono gX⟩ hpr)
   clear ox hpr gX o2 o3 o4 o10
   refine zAb (by exact s1) (huni.out.mono ?_)
   rintro _ hU ⟨gU, uv, rv, code, rfl, hz, hcases⟩
   have o4U := gU.keep _ _ o4X
   have wU := gU.wf
   have GU := Hid.mk (GX.out.trans gU)
   have hu2 : ∃ un ur, uv = .agg [un, .int .i64 ur] /\ one un = true := by
    by_cases hc0 : code = 0
    ·rcases hcases with ⟨_, k⟩ | ⟨_, k, _⟩ | ⟨_, k, _⟩ | ⟨_, _, _, U, R, O, own, _⟩
     ·omega
     ·omega
     ·omega
     ·obtain ⟨un, cs, rfl, kB, _⟩ := own
      exact ⟨un, U.root, rfl, zAR kB.len⟩
    ·exact ⟨_, _, (hz hc0).1, rfl⟩
   obtain ⟨un, ur, rfl, hone⟩ := hu2
   replace hcases := Hid.mk hcases
   clear hz huni o2X o4X gU
   repeat with_reducible (apply st_q; exact q1)
   refine zAY wU ?_
   rintro b14 hV hb14 gV o14
   refine zAG (by exact e1) (by exact e1) (by exact cc) rfl gV.wf o14 (by simp) (by simp only [List.all_cons, List.all_nil, hone, Bool.true_and, Bool.and_true]; rfl) ?_
   rintro vW hW pW oW
   simp only [zlY, zlA, zlC, zlN, zlD, zlZ, zlE, Nat.zero_add, Nat.reduceAdd, zlX, zlK] at oW
   have gW : Grow hU hW := pW.grow hU wU gV hb14
   have o4W := gW.keep _ _ o4U
   have GW := Hid.mk (GU.out.trans gW)
   have wW := gW.wf
   have gW' := Hid.mk gW
   have lW := Hid.mk (wU.lt o4U)
   clear o14 pW gV o4U gW
   cases hzc : (code != 0)
   ·obtain rfl : code = 0 := by simpa using hzc
    have hO : Hid (∃ U R, UOut (zAw g h) (zBa g h) U R /\ OwnG hU hX.next (.agg [un, .int .i64 ur]) U) := ⟨by
     rcases hcases.out with ⟨_, k⟩ | ⟨_, k, _⟩ | ⟨_, k, _⟩ | ⟨_, _, _, U, R, O, own, _⟩
     ·omega
     ·omega
     ·omega
     ·exact ⟨U, R, O, own⟩⟩
    obtain ⟨U, R, O, own⟩ := hO.out
    have hOO := Hid.mk O
    have hsU := Hid.mk (O.gsm cb.out hb (by omega))
    have htrim := Hid.mk (Trim_ok H U hsU.out (.agg [un, .int .i64 ur]) hW wW (own.grow gW'.out).graph)
    clear own O
    repeat with_reducible first | refine zAA ?_ | refine zAC ?_ | refine zAE ?_ | refine zAD ?_ | refine zAT ?_ | (apply st_q; exact q1) | (apply zAL; exact e1)
    refine zAb (by exact s1) (htrim.out.mono ?_)
    rintro tv hT ⟨hTo, gT⟩
    have o4T := gT.keep _ _ o4W
    have ownT := Hid.mk hTo
    obtain ⟨tn, cs, rfl, kB, _⟩ := hTo
    have lt1 := zAR kB.len
    have wT := gT.wf
    have GT := GW.out.trans gT
    have nUW := gW'.out.next
    have nGW := GW.out.next
    have lb4U := lW.out
    clear htrim kB o4W gT
    refine zAG (by exact e1) (by exact e1) (by exact cc) rfl wT o4T (by simp) (by simp only [List.all_cons, List.all_nil, lt1, Bool.true_and, Bool.and_true]; rfl) ?_
    rintro vY hY pY oY
    simp only [zlY, zlA, zlC, zlN, zlD, zlZ, zlE, Nat.zero_add, Nat.reduceAdd, zlX, zlK] at oY
    have gY := pY.grow h0 w0 GT (by omega)
    have hfin : Hid (∃ U R, UOut (zAw g h) (zBa g h) U R /\ OwnG hY h0.next (.agg [tn, .int .i64 (zCE U).root]) (zCE U)) := ⟨U, R, hOO.out, (ownT.out.stay fun c p hc hp _ => pY.keep c (by omega) _ hp).base (by omega)⟩
    clear pY o4T GT
    repeat' with_reducible first | refine zAA ?_ | refine zAC ?_ | refine zAO ?_ | (apply st_q; exact q1) | (apply zAI; exact n1; exact r1)
    exact ⟨gY, _, 0, rfl, fun k => absurd rfl k, .inr (.inr (.inr ⟨hck.out.1, hck.out.2, rfl, hfin.out⟩))⟩
   ·have hbad : Hid (code = 8 /\ ¬ Consi (zAw g h) (zBa g h)) := ⟨by
     have hc0 : code ≠ 0 := by simpa using hzc
     rcases hcases.out with ⟨k1, k2⟩ | ⟨_, _, p, hp1, hp2⟩ | ⟨_, k, _, k2⟩ | ⟨_, k, _⟩
     ·rw [cb.out] at k1; omega
     ·rw [hin.out p hp1] at hp2; cases hp2
     ·exact ⟨k, k2⟩
     ·omega⟩
    have z2 := Hid.mk hzc
    repeat with_reducible first | refine zAA ?_ | refine zAC ?_ | refine zAE ?_ | refine zAD ?_ | (apply st_q; exact q1) | (apply zAJ; exact e1)
    refine zAG (by exact e1) (by exact e1) (by exact cc) rfl wW o4W (by simp) rfl ?_
    rintro vY hY pY oY
    simp only [zlY, zlA, zlC, zlN, zlD, zlZ, zlE, Nat.zero_add, Nat.reduceAdd, zlX, zlK] at oY
    have gY := pY.grow h0 w0 GW.out (by omega)
    clear pY o4W
    repeat' with_reducible first | refine zAA ?_ | refine zAa ?_ | refine zAC ?_ | refine zAO ?_ | (apply st_q; exact q1) | (apply zAI; exact n1; exact r1)
    exact ⟨gY, _, code, rfl, fun _ => rfl, .inr (.inr (.inl ⟨hck.out.1, hck.out.2, hbad.out.1, hbad.out.2⟩))⟩
end
end Go.Ab.S
end
section
namespace Go.Ab.S
open Go Go.Ab
set_option maxHeartbeats 1000000
def nV : Node := ⟨1, [], [], [], false⟩
def nI : Node := ⟨2, [105, 110, 116], [], [], false⟩
def gP : Graph := ⟨[⟨2, [45, 62], [1, 2], [], false⟩, nI, nV], 0⟩
def gQb : Graph := ⟨[⟨2, [45, 62], [1, 1], [], false⟩, nV], 0⟩
def gI : Graph := ⟨[⟨2, [45, 62], [1, 2], [], false⟩, nI, nI], 0⟩
def gM : Graph := ⟨[⟨3, [], [1], [[109]], true⟩, nI], 0⟩
def gN : Graph := ⟨[⟨3, [], [1], [[110]], false⟩, nI], 0⟩
theorem ok_P : zAF gP = 0 := by decide
theorem ok_Q : zAF gQb = 0 := by decide
theorem ok_I : zAF gI = 0 := by decide
theorem ok_M : zAF gM = 0 := by decide
theorem ok_N : zAF gN = 0 := by decide
theorem zOY : GTi gP := zIU (by decide) (by decide)
theorem zOZ : GTi gQb := zIU (by decide) (by decide)
theorem zOX : GTi gI := zIU (by decide) (by decide)
theorem tiny_M : GTi gM := zIU (by decide) (by decide)
theorem tiny_N : GTi gN := zIU (by decide) (by decide)
theorem ins_PI : Ins gP gI := (zMF zOY zOX ok_P ok_I).1 (by decide +kernel)
theorem ins_QI : Ins gQb gI := (zMF zOZ zOX ok_Q ok_I).1 (by decide +kernel)
theorem al_can : Consi (zAw gP gQb) (zBa gP gQb) := zHT ok_P ok_Q (by decide) ok_I ins_PI ins_QI
theorem zNG {U : Graph} {R : List Int} (O : UOut (zAw gP gQb) (zBa gP gQb) U R) : zFJ (zCE U) gI = true /\ 1 < (zCE U).nodes.length := by
 have cm := zKf ok_P ok_Q (by decide) O
 have hmi := zKe ok_P ok_Q (by decide) ok_I ins_PI ins_QI O
 obtain ⟨⟨T1, K1⟩, ⟨T2, K2⟩⟩ := zHt ok_P ok_Q (by decide) O
 generalize zCE U = m at *
 have r1 : T1 0 m.root := K1.root
 have r2 : T2 0 m.root := K2.root
 have f1 := K1.node 0 m.root r1
 have f2 := K2.node 0 m.root r2
 rw [show zAB gP 0 = ⟨2, [45, 62], [1, 2], [], false⟩ from rfl] at f1
 rw [show zAB gQb 0 = ⟨2, [45, 62], [1, 1], [], false⟩ from rfl] at f2
 rcases f1 with k | ⟨_, k2, k3, k4, _, k6⟩
 ·exact absurd k (by decide)
 rcases f2 with l | ⟨_, l2, l3, _, _, l6⟩
 ·exact absurd l (by decide)
 have s0 := k6 0 (by decide)
 have t0 := l6 0 (by decide)
 have t1 := l6 1 (by decide)
 have ix : ∀ (x y : Node) (i : Nat), x.kind = 2 -> idxI x y i = i := fun x y i h => by simp [idxI, h]
 rw [ix _ _ _ rfl] at s0 t0 t1
 have s1 : T1 1 ((zAB m m.root).args.getD 0 0) := s0.2
 have t01 : T2 1 ((zAB m m.root).args.getD 0 0) := t0.2
 have t11 : T2 1 ((zAB m m.root).args.getD 1 0) := t1.2
 have hlen : 1 < (zAB m m.root).args.length := t1.1
 generalize hx : (zAB m m.root).args.getD 0 0 = x at *
 generalize hy : (zAB m m.root).args.getD 1 0 = y at *
 have ir := (K1.range _ _ r1).2.ok cm
 have ixm := (K1.range _ _ s1).2.ok cm
 have iym := (K2.range _ _ t11).2.ok cm
 have hcl := zHl ok_Q cm K2 t01 t11
 obtain ⟨c1, c2, c3, c4, _⟩ := zEd cm ixm iym hcl
 have fx := K1.node 1 x s1
 rw [show zAB gP 1 = nI from rfl] at fx
 rcases fx with q | ⟨_, q2, q3, q4, _, _⟩
 ·exact absurd q (by decide)
 have q4' : (zAB m x).isOpen = false /\ nI.labels = (zAB m x).labels := q4.resolve_left (by decide)
 have k4' : (zAB m m.root).isOpen = false /\ ([] : List (List Nat)) = (zAB m m.root).labels := k4.resolve_left (by decide)
 refine ⟨(zEo cm ok_I).2 ⟨hmi, fun a b => (a = 0 /\ b = m.root) \/ (a = 1 /\ b = x) \/ (a = 2 /\ b = y), .inl ⟨rfl, rfl⟩, ?_, ?_, ?_⟩, ?_⟩
 ·rintro a b (⟨rfl, rfl⟩ | ⟨rfl, rfl⟩ | ⟨rfl, rfl⟩)
  ·exact ⟨⟨by decide, by decide⟩, .root⟩
  ·exact ⟨⟨by decide, by decide⟩, (K1.range _ _ s1).2⟩
  ·exact ⟨⟨by decide, by decide⟩, (K2.range _ _ t11).2⟩
 ·rintro a b (⟨rfl, rfl⟩ | ⟨rfl, rfl⟩ | ⟨rfl, rfl⟩)
  ·rw [show zAB gI 0 = ⟨2, [45, 62], [1, 2], [], false⟩ from rfl]
   refine .inr ⟨by decide, k2, k3, .inr k4', fun h => absurd h (by decide), fun i hi => ?_⟩
   rw [ix _ _ _ rfl]
   have hi2 : i < 2 := hi
   rcases (show i = 0 \/ i = 1 by omega) with rfl | rfl
   ·exact ⟨by omega, .inr (.inl ⟨rfl, hx⟩)⟩
   ·exact ⟨by omega, .inr (.inr ⟨rfl, hy⟩)⟩
  ·rw [show zAB gI 1 = nI from rfl]
   exact .inr ⟨by decide, q2, q3, .inr q4', fun h => absurd h (by decide), fun i hi => absurd hi (Nat.not_lt_zero _)⟩
  ·rw [show zAB gI 2 = nI from rfl]
   exact .inr ⟨by decide, q2.trans c1, q3.trans c2, .inr ⟨c4.symm.trans q4'.1, q4'.2.trans c3⟩, fun h => absurd h (by decide), fun i hi => absurd hi (Nat.not_lt_zero _)⟩
 ·rintro a b c (⟨rfl, rfl⟩ | ⟨rfl, rfl⟩ | ⟨rfl, rfl⟩) _ hf
  ·exact absurd hf (by decide)
  ·exact absurd hf (by decide)
  ·exact absurd hf (by decide)
 ·rcases Nat.lt_or_ge 1 m.nodes.length with h | h
  ·exact h
  ·have e1' : m.root = 0 := by have := ir.1; have := ir.2; omega
   have e2' : x = 0 := by have := ixm.1; have := ixm.2; omega
   rw [e1'] at k3
   rw [e2'] at q3
   rw [<- k3] at q3
   exact absurd q3 (by decide)
theorem al_not : ¬ ∃ U R, UOut (zAw gM gN) (zBa gM gN) U R := by
 rintro ⟨U, R, O⟩
 obtain ⟨⟨T1, K1⟩, ⟨T2, K2⟩⟩ := zHt ok_M ok_N (by decide) O
 generalize zCE U = m at *
 have f1 := K1.node 0 m.root K1.root
 have f2 := K2.node 0 m.root K2.root
 rw [show zAB gM 0 = ⟨3, [], [1], [[109]], true⟩ from rfl] at f1
 rw [show zAB gN 0 = ⟨3, [], [1], [[110]], false⟩ from rfl] at f2
 rcases f1 with k | ⟨_, _, _, _, k5, _⟩
 ·exact absurd k (by decide)
 rcases f2 with l | ⟨_, _, _, l4, _, _⟩
 ·exact absurd l (by decide)
 have h1 := k5 rfl [109] (by simp)
 have h2 : (zAB m m.root).isOpen = false /\ [[110]] = (zAB m m.root).labels := l4.resolve_left (by decide)
 rw [<- h2.2] at h1
 exact absurd h1 (by decide)
def MR (g h x : Graph) : Prop := ∃ U R, UOut (zAw g h) (zBa g h) U R /\ x = zCE U
section
variable {g h k t x : Graph} (cg : zAF g = 0) (ch : zAF h = 0) (hs : g.nodes.length + h.nodes.length <= 1048576)
include cg ch hs
theorem MR.check (m : MR g h x) : zAF x = 0 := by
 obtain ⟨U, R, O, rfl⟩ := m
 exact zKf cg ch hs O
theorem MR.both (m : MR g h x) : Ins g x /\ Ins h x := by
 obtain ⟨U, R, O, rfl⟩ := m
 exact zHt cg ch hs O
theorem MR.most (m : MR g h x) (ct : zAF t = 0) (h1 : Ins g t) (h2 : Ins h t) : Ins x t := by
 obtain ⟨U, R, O, rfl⟩ := m
 exact zKe cg ch hs ct h1 h2 O
end
theorem MR.bd {A : Nat} {S : List (List Nat)} {g h x : Graph} (cg : zAF g = 0) (ch : zAF h = 0) (hs : g.nodes.length + h.nodes.length <= 1048576) (B : Bd A S g) (B' : Bd A S h) (m : MR g h x) : Bd A S x /\ x.nodes.length <= g.nodes.length + h.nodes.length := by
 obtain ⟨U, R, O, rfl⟩ := m
 have cb := zCi cg ch hs
 refine ⟨((B.both B').uni cb O).trim (O.check cb), ?_⟩
 have h1 := trim_le U
 rw [O.lenU, zCJ] at h1
 exact h1
structure MeetSm (g h : Graph) : Prop where
 g1 : GTi g
 h1 : GTi h
 b : GTi (zAw g h)
 l : zAk [] (zAw g h).nodes 0 <= 2 ^ 20
 s : ((zAw g h).nodes.length + 1) * (zAk [] (zAw g h).nodes 0 + 1) + 1 <= 2 ^ 30
theorem both_gti {g h : Graph} (hg : GTi g) (hh : GTi h) (hN : g.nodes.length + h.nodes.length <= 4096) (hL : zAk [] (zAw g h).nodes 0 <= 2 ^ 20) : GTi (zAw g h) := by
 have e30 : (2 : Nat) ^ 30 = 1073741824 := by decide
 have e20 : (2 : Nat) ^ 20 = 1048576 := by decide
 have hn : ∀ n ∈ (zAw g h).nodes, ∃ m, (m ∈ g.nodes \/ m ∈ h.nodes) /\ n.args.length = m.args.length /\ n.labels = m.labels := fun n hn => by
  rcases List.mem_append.1 hn with hn | hn
  ·exact ⟨n, .inl hn, rfl, rfl⟩
  ·obtain ⟨m, hm, rfl⟩ := List.mem_map.1 hn
   exact ⟨m, .inr hm, by simp [shN], rfl⟩
 refine ⟨⟨⟨by rw [zCJ]; exact Nat.lt_of_le_of_lt hN (by decide), fun n h1 => ?_⟩, by rw [zCJ]; omega, fun n h1 => ?_⟩, by rw [zCJ]; exact hN, fun n h1 => ?_⟩
 ·obtain ⟨m, hm, h2, h3⟩ := hn n h1
  have : NodeSm m := hm.elim (hg.all m) (hh.all m)
  exact ⟨by rw [h2]; exact this.args, by rw [h3]; exact this.labels, by rw [h3]; exact this.texts⟩
 ·obtain ⟨m, hm, h2, h3⟩ := hn n h1
  rw [h3]
  exact hm.elim (hg.labs m) (hh.labs m)
 ·obtain ⟨m, hm, h2, h3⟩ := hn n h1
  rw [h2]
  exact hm.elim (hg.tinyA m) (hh.tinyA m)
theorem zNM (g h : Graph) : zAk [] (zAw g h).nodes 0 = zAk [] g.nodes 0 + zAk [] h.nodes 0 := by
 rw [zCO, zCO, zCO, zAw]
 simp only [List.map_append, List.sum_append, List.map_map]
 congr 2
 apply List.map_congr_left
 intro n _
 simp [shN]
theorem MeetSm.of {g h : Graph} (hg : GTi g) (hh : GTi h) {N L : Nat} (hN : g.nodes.length + h.nodes.length <= N) (hL : zAk [] g.nodes 0 + zAk [] h.nodes 0 <= L) (hN' : N <= 4096) (hL' : L <= 2 ^ 20) (hz : (N + 1) * (L + 1) + 1 <= 2 ^ 30) : MeetSm g h := by
 have hl : zAk [] (zAw g h).nodes 0 <= L := by rw [zNM]; exact hL
 refine ⟨hg, hh, both_gti hg hh (by omega) (by omega), by omega, ?_⟩
 have : ((zAw g h).nodes.length + 1) * (zAk [] (zAw g h).nodes 0 + 1) <= (N + 1) * (L + 1) := Nat.mul_le_mul (by rw [zCJ]; omega) (by omega)
 omega
def All3 (g h k : Graph) (p : Bool) (a : Graph) : Prop := (p = true /\ ∃ x, MR g h x /\ MR x k a) \/ (p = false /\ (¬ Consi (zAw g h) (zBa g h) \/ ∃ x, MR g h x /\ ¬ Consi (zAw x k) (zBa x k)))
section
variable {g h k a b : Graph} {p q : Bool} (cg : zAF g = 0) (ch : zAF h = 0) (ck : zAF k = 0) (gh : g.nodes.length + h.nodes.length <= 1048576) (hk : h.nodes.length + k.nodes.length <= 1048576)
include cg ch ck gh
theorem All3.inst (xk : ∀ x, MR g h x -> x.nodes.length + k.nodes.length <= 1048576) (A : All3 g h k true a) : zAF a = 0 /\ Ins g a /\ Ins h a /\ Ins k a /\ ∀ t, zAF t = 0 -> Ins g t -> Ins h t -> Ins k t -> Ins a t := by
 rcases A with ⟨_, x, m1, m2⟩ | ⟨h, _⟩
 ·have cx := m1.check cg ch gh
  have hs := xk x m1
  have ca := m2.check cx ck hs
  obtain ⟨b1, b2⟩ := m1.both cg ch gh
  obtain ⟨b3, b4⟩ := m2.both cx ck hs
  exact ⟨ca, b1.trans cg cx ca b3, b2.trans ch cx ca b3, b4, fun t ct t1 t2 t3 => m2.most cx ck hs ct (m1.most cg ch gh ct t1 t2) t3⟩
 ·cases h
theorem All3.no (xk : ∀ x, MR g h x -> x.nodes.length + k.nodes.length <= 1048576) (A : All3 g h k false a) {t : Graph} (ct : zAF t = 0) (h1 : Ins g t) (h2 : Ins h t) (h3 : Ins k t) : False := by
 rcases A with ⟨h, _⟩ | ⟨_, A | ⟨x, m, A⟩⟩
 ·cases h
 ·exact A (zHT cg ch gh ct h1 h2)
 ·exact A (zHT (m.check cg ch gh) ck (xk x m) ct (m.most cg ch gh ct h1 h2) h3)
include hk
theorem zOW (xk : ∀ x, MR g h x -> x.nodes.length + k.nodes.length <= 1048576) (xg : ∀ x, MR h k x -> x.nodes.length + g.nodes.length <= 1048576) (A : All3 g h k p a) (B : All3 h k g q b) : p = q /\ (p = true -> zAF a = 0 /\ zAF b = 0 /\ zFJ a b = true) := by
 cases p with
 | true =>
  obtain ⟨ca, a1, a2, a3, a4⟩ := A.inst cg ch ck gh xk
  cases q with
  | true =>
   obtain ⟨cb, b1, b2, b3, b4⟩ := B.inst ch ck cg hk xg
   exact ⟨rfl, fun _ => ⟨ca, cb, (zEo ca cb).2 ⟨a4 b cb b3 b1 b2, b4 a ca a2 a3 a1⟩⟩⟩
  | false => exact (B.no ch ck cg hk xg ca a2 a3 a1).elim
 | false =>
  cases q with
  | true =>
   obtain ⟨cb, b1, b2, b3, _⟩ := B.inst ch ck cg hk xg
   exact (A.no cg ch ck gh xk cb b3 b1 b2).elim
  | false => exact ⟨rfl, fun h => by cases h⟩
end
theorem sm_PQ : MeetSm gP gQb := .of (N := 10) (L := 10) zOY zOZ (by decide) (by decide) (by decide) (by decide) (by decide)
theorem sm_MN : MeetSm gM gN := .of (N := 10) (L := 10) tiny_M tiny_N (by decide) (by decide) (by decide) (by decide) (by decide)
theorem MR.gti {g h x : Graph} (cg : zAF g = 0) (ch : zAF h = 0) (hg : GTi g) (hh : GTi h) {N L : Nat} (hN : g.nodes.length + h.nodes.length <= N) (hL : zAk [] g.nodes 0 + zAk [] h.nodes 0 <= L) (hN' : N <= 4096) (hL' : L <= 4096) (m : MR g h x) : GTi x := by
 have hs : ∀ s, s ∈ zCl g ++ zCl h -> s.length < 2 ^ 60 := fun s hs => (List.mem_append.1 hs).elim (zFY hg.toGraphSm s) (zFY hh.toGraphSm s)
 have l1 := zEI cg
 have l2 := zEI ch
 obtain ⟨B, hx⟩ := m.bd (A := L) (S := zCl g ++ zCl h) cg ch (by omega) ((Bd.self g).mono (by omega) fun s h => List.mem_append.2 (.inl h)) ((Bd.self h).mono (by omega) fun s h => List.mem_append.2 (.inr h))
 exact B.gti (m.check cg ch (by omega)) (by omega) hL' (by rw [List.length_append]; omega) hs
theorem al_gti {x : Graph} (m : MR gP gQb x) : GTi x := m.gti (N := 10) (L := 10) ok_P ok_Q zOY zOZ (by decide) (by decide) (by decide) (by decide)
theorem rat_law {a b : Nat} (a0 : 0 < a) (a1 : a <= 12) (b0 : 0 < b) (b1 : b <= 12) : Consi (zAw (zCu a) (zCu b)) (zBa (zCu a) (zCu b)) /\ ∀ m, MR (zCu a) (zCu b) m -> zFJ m (zCu a) = true /\ zFJ m (zCu b) = true /\ zFJ m (zCu 1) = true := by
 have ca := zGs a0 (show a <= 1000 by omega)
 have cb := zGs b0 (show b <= 1000 by omega)
 have c1 := zGs (n := 1) (by omega) (by omega)
 have hs : (zCu a).nodes.length + (zCu b).nodes.length <= 1048576 := by rw [zFc, zFc]; omega
 have sab := (zEo ca cb).1 ((zIM ca cb).2 (zKp a0 b0))
 have sa1 := (zEo ca c1).1 ((zIM ca c1).2 (zKp a0 (by omega)))
 refine ⟨zHT ca cb hs ca (Ins.refl ca) sab.2, fun m hm => ?_⟩
 have cm := hm.check ca cb hs
 obtain ⟨m1, m2⟩ := hm.both ca cb hs
 have m3 := hm.most ca cb hs ca (Ins.refl ca) sab.2
 exact ⟨(zEo cm ca).2 ⟨m3, m1⟩, (zEo cm cb).2 ⟨m3.trans cm ca cb sab.1, m2⟩, (zEo cm c1).2 ⟨m3.trans cm ca c1 sa1.1, sa1.2.trans c1 ca cm m1⟩⟩
end Go.Ab.S
end
