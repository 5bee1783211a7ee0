import Derived.Test.YtpmndmiohaaokaaGreatDoorP06
import Derived.Test.YtpmndmiohaaokaaGreatDoorP14
import Derived.Test.YtpmndmiohaaokaaGreatDoorP21
/-
  Part 22 of the proof.
-/
set_option linter.all false
section
namespace Go.Ab.S
open Go.Ab
set_option maxHeartbeats 8000000
section
variable {fns : FnsT} {summ : SumT}
variable (H : Has fns summ)
include H
theorem Same_ok (g h : Graph) (hg : GTi g) (hh : GTi h) (v u : AVal) (h0 : AHeap) (hw : WF h0) (hv : GraphAt h0 v g) (hu : GraphAt h0 u h) : Cl fns summ 18 [v, u] h0 fun r h' => r = .bool (zFJ g h) /\ Grow h0 h' := by
 obtain ⟨nv, rfl, hN⟩ := hv
 obtain ⟨mv, rfl, hM⟩ := hu
 have hlen := hN.len
 have hlem := hM.len
 refine H.go (fn := F_Same) rfl (by decide) rfl rfl ?_
 unfold F_Same
 dsimp only [qQ, qE, qN, gQ, gE, vi, tm, mt, lo, fa]
 refine zAE (zAD ?_)
 refine zBL (by exact e1) (by exact cc) hw ?_
 rintro b2 h2 hb2 g2 o2
 refine zBL (by exact e1) (by exact cc) g2.wf ?_
 rintro b3 h3 hb3 g3 o3
 replace o2 := g3.keep _ _ o2
 have g03 := g2.trans g3
 have hpart : zBC (some 2) [nv, .int .i64 g.root] 0 = some (.agg [nv, .int .i64 g.root]) := rfl
 have hpart' : zBC (some 2) [mv, .int .i64 h.root] 0 = some (.agg [mv, .int .i64 h.root]) := rfl
 repeat with_reducible first | refine zAA ?_ | refine zAC ?_ | refine zAE ?_ | refine zAD ?_ | (apply st_q; exact q1)
 refine zAb (by exact s1) ((Check_ok H g hg.toGraphSm _ h3 g3.wf ⟨nv, rfl, hN.mono g03⟩).mono ?_)
 rintro _ h4 ⟨rfl, g4⟩
 replace o2 := g4.keep _ _ o2
 replace o3 := g4.keep _ _ o3
 have g04 := g03.trans g4
 cases hck : (zAF g != 0)
 ·have hcg : zAF g = 0 := by simpa using hck
  replace hcg := Hid.mk hcg
  repeat with_reducible first | (apply st_q; exact q1) | (apply zBW; exact e1; exact q1)
  refine zBi (by exact e1) (by exact s1) ((Check_ok H h hh.toGraphSm _ h4 g4.wf ⟨mv, rfl, hM.mono g04⟩).mono ?_)
  rintro _ h5 ⟨rfl, g5⟩
  replace o2 := g5.keep _ _ o2
  replace o3 := g5.keep _ _ o3
  have g05 := g04.trans g5
  cases hch : (zAF h != 0)
  ·have hchh : zAF h = 0 := by simpa using hch
   replace hchh := Hid.mk hchh
   have hres : zFJ g h = zEp (okS g h) (nxS g h) (badS g) (2 + zDQ (nxS g h) [] (zBn g h)) [(g.root, h.root)] [] := by
    have h1 : (zAF g == 0) = true := by rw [hcg.out]; rfl
    have h2 : (zAF h == 0) = true := by rw [hchh.out]; rfl
    rw [zFJ, h1, h2]; rfl
   replace hres := Hid.mk hres
   repeat with_reducible first | refine zAA ?_ | refine zAC ?_ | refine zAE ?_ | refine zAD ?_ | refine zAT ?_ | (apply st_q; exact q1) | (apply zBW; exact e1; exact q1) | (apply zAL; exact e1)
   refine zFf (.inl rfl) g5.wf ?_
   rintro r5 h6 hr5 g6 o5
   replace o2 := g6.keep _ _ o2
   replace o3 := g6.keep _ _ o3
   have g06 := g05.trans g6
   have l5 := g6.wf.lt o5
   repeat with_reducible first | refine zAA ?_ | refine zAC ?_ | refine zAE ?_ | refine zAD ?_ | (apply st_q; exact q1)
   refine zFf (.inl rfl) g6.wf ?_
   rintro r6 h7 (hr6 : h6.next <= r6) g7 o6
   replace o2 := g7.keep _ _ o2
   replace o3 := g7.keep _ _ o3
   replace o5 := g7.keep _ _ o5
   have l6 := g7.wf.lt o6
   refine zFf (.inl rfl) g7.wf ?_
   rintro r7 h8 (hr7 : h7.next <= r7) g8 o7
   replace o2 := g8.keep _ _ o2
   replace o3 := g8.keep _ _ o3
   replace o5 := g8.keep _ _ o5
   replace o6 := g8.keep _ _ o6
   have g08 := (g06.trans g7).trans g8
   repeat with_reducible first | refine zAA ?_ | refine zAC ?_ | refine zAE ?_ | refine zAD ?_ | (apply zJz; exact e1; exact e1) | (apply st_q; exact q1)
   refine zAp (v := .agg [.int .i64 g.root, .int .i64 h.root]) (cs := [.int .i64 g.root, .int .i64 h.root]) (by exact e1) rfl rfl rfl g8.wf ?_
   rintro b8 h9 (hb8 : h8.next <= b8) g9 o8
   have nx5 := g05.next
   have nx6 := g06.next
   have nx8 := g08.next
   have nx67 := g7.next
   have I0 : SInv h0 b2 b3 r5 r6 r7 nv mv g h [(g.root, h.root)] [] [] [] (.slice (some (b8, 0)) 1) h9 :=
    ⟨g08.trans g9, ⟨_, g9.keep _ _ o2⟩, ⟨_, g9.keep _ _ o3⟩, ⟨_, _, _, g9.keep _ _ o5, MP.zero⟩, ⟨_, _, _, g9.keep _ _ o6, FA.zero⟩, ⟨_, _, _, g9.keep _ _ o7, FA.zero⟩, .inr (.inr ⟨b8, _, _, by omega, rfl, o8, by simp [zCb], rfl⟩), by omega, by omega, by omega, by omega, by omega, by omega⟩
   clear o2 o3 o5 o6 o7 o8 g2 g3 g4 g5 g6 g7 g8 g9 g03 g04 g05 g06 g08 hb2 hb3 hr5 hr6 hr7 hb8 nx5 nx6 nx8 nx67 l5 l6 hpart hpart' hck hch
   obtain ⟨hcg⟩ := hcg
   obtain ⟨hchh⟩ := hchh
   obtain ⟨hres⟩ := hres
   have hrg := zAZ hcg
   have hrh := zAZ hchh
   have hroot : (g.root, h.root) ∈ zBn g h := zBH.2 ⟨⟨hrg.1, hrg.2.1⟩, hrh.1, hrh.2.1⟩
   have hsm : zDQ (nxS g h) [] (zBn g h) <= 2 ^ 36 := zMn hg hh fun p _ => by simp [nxS]; omega
   replace hcg := Hid.mk hcg
   replace hchh := Hid.mk hchh
   replace hres := Hid.mk hres
   clear hrg hrh
   repeat with_reducible first | refine zAA ?_ | refine zAC ?_ | refine zAE ?_ | (apply st_q; exact q1)
   with_reducible refine zBy ?_
   refine zDM (fun m a hp => ∃ w met vw, SInv h0 b2 b3 r5 r6 r7 nv mv g h w met (flM g met) ((flM g met).map swP) vw hp /\ w.length + zDQ (nxS g h) met (zBn g h) < m /\ w.length + zDQ (nxS g h) met (zBn g h) <= 1 + zDQ (nxS g h) [] (zBn g h) /\ Hid (zFJ g h = zEp (okS g h) (nxS g h) (badS g) m w met) /\ (∀ q ∈ w, q ∈ zBn g h) /\ a.defers = [] ∧
    ev a (.tmp 2) = some (.ptr (some (b2, 0))) /\ ev a (.tmp 3) = some (.ptr (some (b3, 0))) /\ ev a (.tmp 5) = some (.map (some r5)) /\ ev a (.tmp 6) = some (.map (some r6)) /\ ev a (.tmp 7) = some (.map (some r7)) /\ ev a (.tmp 8) = some vw) ?_ (n := 2 + zDQ (nxS g h) [] (zBn g h))
    ⟨_, _, _, I0, by simp, by simp, hres, by simpa using hroot, by exact n1, by exact e1, by exact e1, by exact e1, by exact e1, by exact e1, by exact e1⟩
   clear I0 hres hroot
   rintro m a hp ⟨w, met, vw, I, hm, hB, hres, hwp, hd, h2', h3', h5', h6', h7', h8'⟩
   have hlw := I.bw.len
   obtain ⟨m, rfl⟩ : ∃ m', m = m' + 1 := ⟨m - 1, by omega⟩
   cases w with
   | nil =>
    have hz : decide (Int.ofNat 0 > 0) = false := rfl
    simp only [zlN] at hlw
    repeat' with_reducible first | refine zAA ?_ | refine zBg ?_ | refine zBf ?_ | refine zAC ?_ | refine zAE ?_ | refine zAD ?_ | refine zCF ?_ | refine zAO ?_ | (apply st_q; exact q1) | (apply zAL; exact e1) | (apply zAI; exact n1; exact r1)
    exact ⟨by rw [hres.out]; rfl, I.grow⟩
   | cons p w =>
    have hpp := hwp p (by simp)
    have hwp' : ∀ q ∈ w, q ∈ zBn g h := fun q hq => hwp q (by simp [hq])
    obtain ⟨⟨a0, a1⟩, b0, b1⟩ := zBH.1 hpp
    obtain ⟨ka, hka, hkaN, hna⟩ := zJk a0 a1
    obtain ⟨kb, hkb, hkbN, hnb⟩ := zJk b0 b1
    have hB36 : w.length <= 2 ^ 36 := by simp only [zlC] at hB; omega
    have e36 : (2 : Nat) ^ 36 = 68719476736 := by decide
    simp only [zlC] at hlw hm hB
    have hz : decide (Int.ofNat (w.length + 1) > 0) = true := by simp
    have hw1 : IntKind.i64.wrap (Int.ofNat (w.length + 1) - 1) = (w.length : Int) := by
     simp only [Int.ofNat_eq_natCast]
     rw [zAq (by omega) (by omega)]; omega
    obtain ⟨bw, verw, vsw, rfl, hgw, hbw, ⟨hpl, hpw⟩, Bw⟩ := zOJ I.bw
    have hix : slA (.slice (some (bw, 0)) (w.length + 1)) 2 w.length = some (bw, w.length * 2) := by simp [slA]
    have hpc : zCb p = [.int .i64 (ka : Nat), .int .i64 (kb : Nat)] := by rw [zCb, hka, hkb]
    have hpe : p = ((ka : Int), (kb : Int)) := by ext <;> assumption
    rw [hpc] at hpw
    have ht2 : ∀ x y : AVal, List.take 2 [x, y] = [x, y] := fun _ _ => rfl
    clear a0 a1 b0 b1 hwp
    repeat with_reducible first | refine zAA ?_ | refine zAC ?_ | refine zAE ?_ | refine zAD ?_ | refine zAP ?_ | refine zAT ?_ | (apply st_q; exact q1) | (apply zAJ; exact e1)
    refine zAY I.grow.wf ?_
    rintro b9 h6 hb9 g6 o9
    refine zAG (by exact e1) (by exact e1) (cs := [.int .i64 (ka : Nat), .int .i64 (kb : Nat)]) rfl rfl g6.wf o9 (by simp) rfl ?_
    rintro v7 h7 p7 o9'
    simp only [zlY, zlA, zlC, zlN, zlD, zlZ, zlE, Nat.zero_add, Nat.reduceAdd, zlX, zlK] at o9'
    have g7 : Grow hp h7 := p7.grow hp I.grow.wf g6 hb9
    have I7 := (I.row Bw).other g7
    have hp9 : zBC (some 2) [AVal.int .i64 (ka : Nat), .int .i64 (kb : Nat)] 0 = some (.agg [.int .i64 (ka : Nat), .int .i64 (kb : Nat)]) := rfl
    clear o9 p7 g6 I Bw hgw hpw hpl hix
    repeat with_reducible first | refine zAA ?_ | refine zAC ?_ | refine zAE ?_ | refine zAD ?_ | (apply st_q; exact q1)
    refine zJI (by exact e1) (by exact e1) (by omega) ?_
    obtain ⟨v5, es5, c5, o5, f5⟩ := I7.o5
    have hlk5 := f5.look o5 p
    rw [hpc] at hlk5
    cases hmet : met.contains p
    ·rw [hmet] at hlk5
     have hnm : p ∉ met := by simpa using hmet
     repeat with_reducible first | refine zAA ?_ | refine zAC ?_ | refine zAE ?_ | refine zAD ?_ | refine zAT ?_ | (apply st_q; exact q1) | (apply zAL; exact e1)
     have hf5 := f5.none hnm
     rw [hpc] at hf5
     refine zIP (by exact e1) (by exact e1) (by exact e1) (by intro hh; cases hh) rfl g7.wf o5 hf5 ?_
     rintro vy h8 py oy
     have fy := f5.put (c := c5) hnm
     rw [hpc] at fy
     have I8 := I7.put5 hw py oy fy
     have o9y := py.kp o5 o9' rfl
     obtain ⟨v2, o2⟩ := I8.o2
     obtain ⟨v3, o3⟩ := I8.o3
     obtain ⟨bn, on, vern, ron, en, vsn, av, lv, hixn, hgn0, hvl, hv5, _, _, _, _, _, hav, hlv⟩ := hN.at (List.getElem?_eq_getElem hkaN)
     obtain ⟨bm, om, verm, rom, em, vsm, bv, mv', hixm, hgm0, hvlm, hv5m, _, _, _, _, _, hbv, hmv⟩ := hM.at (List.getElem?_eq_getElem hkbN)
     have hgn := I8.grow.keep _ _ hgn0
     have hgm := I8.grow.keep _ _ hgm0
     have hmem := List.getElem_mem hkaN
     have hmem' := List.getElem_mem hkbN
     have hla := hav.len
     have hll := hlv.len
     have hlb := hbv.len
     have hlm := hmv.len
     clear hlk5 hf5 o5 o9' hgn0 hgm0 py oy
     repeat with_reducible first | refine zAA ?_ | refine zAC ?_ | refine zAE ?_ | refine zBQ ?_ | (apply dr_q; exact q1) | (apply zCs; exact q1; exact og1)
     refine zBD (zAY I8.grow.wf ?_)
     rintro b10 h10 hb10 g10 o10
     have w10 := g10.wf
     refine zAC ⟨by simp [zAf, g10.keep _ _ o2, g10.keep _ _ o9y, g10.keep _ _ hgn, g10.keep _ _ o3, g10.keep _ _ hgm], ?_⟩
     refine zBD (zAY w10 ?_)
     rintro b11 h11 (hb11 : h10.next <= b11) g11 o11
     have g811 := g10.trans g11
     refine zAC ⟨by simp [zAf, g811.keep _ _ o2, g811.keep _ _ o9y, g811.keep _ _ hgn, g811.keep _ _ o3, g811.keep _ _ hgm], ?_⟩
     have l10 := g10.wf.lt o10
     replace o10 := g11.keep _ _ o10
     have nx8 := g10.next
     refine zBD (zAG (by exact e1) (by exact e1) (cs := [.int .i64 g.nodes[ka].kind, .str g.nodes[ka].name, av, lv, .bool g.nodes[ka].isOpen]) rfl rfl g11.wf o10 (by simp) (zCP hla hll) ?_)
     rintro v12 h12 p12 o12
     simp only [zlY, zlA, zlC, zlN, zlD, zlZ, zlE, Nat.zero_add, Nat.reduceAdd, zlX, zlK] at o12
     have g12 : Grow h8 h12 := p12.grow h8 I8.grow.wf g811 hb10
     have o11' := p12.keep b11 (by omega) _ o11
     refine zAC ⟨by simp [zAf, g12.keep _ _ o2, g12.keep _ _ o9y, g12.keep _ _ hgn, g12.keep _ _ o3, g12.keep _ _ hgm], ?_⟩
     refine zBD (zAG (by exact e1) (by exact e1) (cs := [.int .i64 h.nodes[kb].kind, .str h.nodes[kb].name, bv, mv', .bool h.nodes[kb].isOpen]) rfl rfl g12.wf o11' (by simp) (zCP hlb hlm) ?_)
     rintro v13 h13 p13 o13
     simp only [zlY, zlA, zlC, zlN, zlD, zlZ, zlE, Nat.zero_add, Nat.reduceAdd, zlX, zlK] at o13
     have g13 : Grow h8 h13 := p13.grow h8 I8.grow.wf g12 (by omega)
     have o10' := p13.keep b10 (by omega) _ o12
     refine zAC ⟨by simp [zAf, Nat.testBit], ?_⟩
     have o9z := g13.keep _ _ o9y
     have I13 := I8.other g13
     have ha13 := hav.mono I13.grow
     have hl13 := hlv.mono I13.grow
     have hb13 := hbv.mono I13.grow
     have hm13 := hmv.mono I13.grow
     have hp10 : zBC (some 5) [.int .i64 g.nodes[ka].kind, .str g.nodes[ka].name, av, lv, .bool g.nodes[ka].isOpen] 0 = some (zEj g.nodes[ka] av lv) := rfl
     have hp11 : zBC (some 5) [.int .i64 h.nodes[kb].kind, .str h.nodes[kb].name, bv, mv', .bool h.nodes[kb].isOpen] 0 = some (zEj h.nodes[kb] bv mv') := rfl
     clear o2 o3 hgn hgm o9y o10 o11 o12 o11' p12 p13 g10 g11 g12 g811 hixn hixm hvl hv5 hvlm hv5m w10 hb10 hb11 l10 nx8 I7 I8
     repeat with_reducible first | refine zAA ?_ | refine zAE ?_ | refine zAD ?_ | refine zBz ?_ | (apply st_q; exact q1)
     refine zAb (by exact s1) ((alike_ok H g.nodes[ka] h.nodes[kb] (hg.all _ hmem) av lv bv mv' h13 I13.grow.wf ha13 hl13 hb13 hm13).mono ?_)
     rintro _ h14 ⟨rfl, g14⟩
     have I14 := I13.other g14
     replace o9z := g14.keep _ _ o9z
     replace o10' := g14.keep _ _ o10'
     replace o13 := g14.keep _ _ o13
     have hokp : okS g h p = zEx g.nodes[ka] h.nodes[kb] := by rw [okS, hna, hnb]
     cases hal : zEx g.nodes[ka] h.nodes[kb]
     ·repeat' with_reducible first | refine zAA ?_ | refine zAa ?_ | refine zBP ?_ | refine zAC ?_ | refine zAE ?_ | refine zAD ?_ | refine zAO ?_ | (apply st_q; exact q1) | (apply zAJ; exact e1) | (apply zAI; exact n1; exact r1)
      refine ⟨?_, I14.grow⟩
      rw [hres.out, zEp, hmet, hokp, hal]; rfl
     ·repeat with_reducible first | refine zAA ?_ | refine zAC ?_ | refine zAE ?_ | refine zAD ?_ | refine zAT ?_ | (apply st_q; exact q1) | (apply zAL; exact e1)
      refine zAb (by exact s1) ((gfree_ok H g.nodes[ka] av lv h14 I14.grow.wf).mono ?_)
      rintro _ h15 ⟨rfl, g15⟩
      have I15 := I14.other g15
      replace o9z := g15.keep _ _ o9z
      replace o10' := g15.keep _ _ o10'
      replace o13 := g15.keep _ _ o13
      have hxy : Hid (g.nodes[ka].args.length = h.nodes[kb].args.length) := ⟨by
       simp only [zEx, Bool.and_eq_true, beq_iff_eq] at hal
       exact hal.1.2⟩
      have hokt := Hid.mk (hokp.trans hal)
      clear I13 I14 g14 g15 ha13 hl13 hb13 hm13 hal hokp
      have hfre : zEu (zAB g p.1) = zEu g.nodes[ka] := by rw [hna]
      refine zAC (zAA ?_)
      refine zEa (fun a hq => SInv h0 b2 b3 r5 r6 r7 nv mv g h w (met ++ [p]) (flM g (met ++ [p])) ((flM g (met ++ [p])).map swP) (.slice (some (bw, 0)) w.length) hq /\ met.any (badS g p) = false /\ (∃ ver, hq.objs.get b10 = some (ver, .cells false 36 [.int .i64 g.nodes[ka].kind, .str g.nodes[ka].name, av, lv, .bool g.nodes[ka].isOpen])) /\ (∃ ver, hq.objs.get b11 = some (ver, .cells false 36 [.int .i64 h.nodes[kb].kind, .str h.nodes[kb].name, bv, mv', .bool h.nodes[kb].isOpen])) /\ a.defers = [] ∧
       ev a (.tmp 2) = some (.ptr (some (b2, 0))) /\ ev a (.tmp 3) = some (.ptr (some (b3, 0))) /\ ev a (.tmp 5) = some (.map (some r5)) /\ ev a (.tmp 6) = some (.map (some r6)) /\ ev a (.tmp 7) = some (.map (some r7)) /\ ev a (.tmp 8) = some (.slice (some (bw, 0)) w.length) /\ ev a (.tmp 10) = some (.ptr (some (b10, 0))) /\ ev a (.tmp 11) = some (.ptr (some (b11, 0)))) ?_ ?_
      ·cases hf : zEu g.nodes[ka]
       ·rw [hf] at hfre
        have hfl : flM g (met ++ [p]) = flM g met := by rw [zNn, hfre]; simp
        have hbad := bad_none (met := met) hfre
        repeat with_reducible first | refine zAA ?_ | refine zAT ?_ | (apply zAL; exact e1)
        exact ⟨by rw [hfl]; exact I15, hbad, ⟨_, o10'⟩, ⟨_, o13⟩, by exact n1, by exact e1, by exact e1, by exact e1, by exact e1, by exact e1, by exact e1, by exact e1, by exact e1⟩
       ·rw [hf] at hfre
        have hfl : flM g (met ++ [p]) = flM g met ++ [p] := by rw [zNn, hfre]; simp
        have hany := bad_any hnm hfre
        obtain ⟨v6, es6, c6, o6, f6⟩ := I15.o6
        obtain ⟨v7', es7, c7, o7, f7⟩ := I15.o7
        obtain ⟨xb, hlk6, hxb⟩ := f6.look o6 p.1
        obtain ⟨xa, hlk7, hxa⟩ := f7.look o7 p.2
        cases hb1 : (flM g met).any fun q => q.1 == p.1
        ·cases hb2 : ((flM g met).map swP).any fun q => q.1 == p.2
         ·rw [hb1, hka] at hlk6
          rw [hb2, hkb] at hlk7
          rw [hb1, hb2] at hany
          have hn6 := f6.none (a := p.1) fun q hq hh => by
           have := List.any_eq_false.1 hb1 q hq
           simp [hh] at this
          have hn7 := f7.none (a := p.2) fun q hq hh => by
           have := List.any_eq_false.1 hb2 q hq
           simp [hh] at this
          rw [hka] at hn6
          rw [hkb] at hn7
          have F6 := f6.put (c := c6) (p := p) fun q hq hh => by
           have := List.any_eq_false.1 hb1 q hq
           simp [hh] at this
          have F7 := f7.put (c := c7) (p := swP p) fun q hq hh => by
           have := List.any_eq_false.1 hb2 q hq
           simp [hh, swP] at this
          simp only [swP] at F7
          rw [hka, hkb] at F6 F7
          replace hany := Hid.mk hany
          clear hb1 hb2 hxa hxb f6 f7
          repeat with_reducible first | refine zAA ?_ | refine zAC ?_ | refine zAE ?_ | refine zAD ?_ | refine zAT ?_ | refine zBQ ?_ | (apply dr_q; exact q1) | (apply zCs; exact q1; exact og1) | (apply st_q; exact q1) | (apply zBW; exact e1; exact q1) | (apply zDV; exact e1) | (apply zAJ; exact e1) | (apply zAL; exact e1)
          refine zBD (zIP (by exact e1) (by exact e1) (by exact e1) (by intro hh; cases hh) rfl I15.grow.wf o6 hn6 ?_)
          rintro vy hy py oy
          have o7y := py.keep _ (Ne.symm I15.low.2.2.2.2.2) _ o7
          have Iy := I15.put6 hw py oy F6
          have o9q := py.kp o6 o9z rfl
          refine zAC ⟨by simp [zAf, Nat.testBit, o9q], ?_⟩
          refine zBD (zIP (by exact e1) (by exact e1) (by exact e1) (by intro hh; cases hh) rfl Iy.grow.wf o7y hn7 ?_)
          rintro vz hz' pz oz
          have Iz := Iy.put7 hw pz oz F7
          refine zAC ⟨by simp [zAf, Nat.testBit], ?_⟩
          have o10z := pz.kp o7y (py.kp o6 o10' rfl) rfl
          have o13z := pz.kp o7y (py.kp o6 o13 rfl) rfl
          clear o9q o7y py pz oy oz hn6 hn7 hlk6 hlk7 F6 F7
          repeat with_reducible first | refine zAA ?_ | refine zBz ?_
          refine ⟨?_, by rw [hany.out]; rfl, ⟨_, o10z⟩, ⟨_, o13z⟩, by exact n1, by exact e1, by exact e1, by exact e1, by exact e1, by exact e1, by exact e1, by exact e1, by exact e1⟩
          rw [hfl, List.map_append]
          have hps : List.map swP [p] = [((kb : Int), (ka : Int))] := by rw [hpe]; rfl
          rw [hps]
          exact Iz
         ·rw [hb1, hka] at hlk6
          rw [hb2, hkb] at hlk7
          have hne : (xa != (ka : Int)) = true := by
           obtain ⟨q, hq, hq1, hq2⟩ := hxa hb2
           obtain ⟨q', hq', rfl⟩ := List.mem_map.1 hq
           simp only [swP] at hq1 hq2
           rw [bne_iff_ne]
           rintro rfl
           refine hnm ?_
           have : q' = p := by ext <;> simp_all
           rw [<- this]; exact (List.mem_filter.1 hq').1
          have hne2 : met.any (badS g p) = true := by rw [hany, hb2]; simp
          clear hany hb1 hb2 hxa hxb f6 f7
          replace hne2 := Hid.mk hne2
          repeat' with_reducible first | refine zAA ?_ | refine zAa ?_ | refine zBP ?_ | refine zAC ?_ | refine zAE ?_ | refine zAD ?_ | refine zAO ?_ | (apply st_q; exact q1) | (apply zBW; exact e1; exact q1) | (apply zDV; exact e1) | (apply zAJ; exact e1) | (apply zAI; exact n1; exact r1)
          refine ⟨?_, I15.grow⟩
          rw [hres.out, zEp, hmet, hne2.out]; simp
        ·rw [hb1, hka] at hlk6
         rw [hkb] at hlk7
         have hne : (xb != (kb : Int)) = true := by
          obtain ⟨q, hq, hq1, hq2⟩ := hxb hb1
          rw [bne_iff_ne]
          rintro rfl
          refine hnm ?_
          have : q = p := by ext <;> simp_all
          rw [<- this]; exact (List.mem_filter.1 hq).1
         have hne2 : met.any (badS g p) = true := by rw [hany, hb1]; simp
         clear hany hb1 hxa hxb f6 f7
         replace hne2 := Hid.mk hne2
         generalize (((flM g met).map swP).any fun q => q.1 == p.2) = hb2 at hlk7
         repeat' with_reducible first | refine zAA ?_ | refine zAa ?_ | refine zBP ?_ | refine zAC ?_ | refine zAE ?_ | refine zAD ?_ | refine zAO ?_ | (apply st_q; exact q1) | (apply zBW; exact e1; exact q1) | (apply zDV; exact e1) | (apply st_qU; exact e1) | (apply zAJ; exact e1) | (apply zAI; exact n1; exact r1)
         refine ⟨?_, I15.grow⟩
         rw [hres.out, zEp, hmet, hne2.out]; simp
      ·clear I15 o9z o10' o13 hd h2' h3' h5' h6' h7' h8'
       rintro a hq ⟨I, hbad, o10, o11, hd, h2', h3', h5', h6', h7', h8', h10', h11'⟩
       refine zAA ?_
       have hax : g.nodes[ka].args.length <= 4096 := by
        have := hg.tinyA _ hmem
        omega
       refine push_ok hw I o10 o11 hav hbv hxy.out hax hB36 hd h2' h3' h5' h6' h7' h8' h10' h11' ?_
       clear I o10 o11 hd h2' h3' h5' h6' h7' h8' h10' h11' hax
       intro a hr vw' I hd h2' h3' h5' h6' h7' h8'
       have hnx : nxS g h p = (List.zip g.nodes[ka].args h.nodes[kb].args).reverse := by rw [nxS, hna, hnb]
       have hput := zHq (nxS g h) hmet hpp
       rw [<- hnx] at I
       repeat with_reducible first | refine zAA ?_ | refine zAQ ?_
       refine ⟨m, by omega, _, _, vw', I, by rw [List.length_append]; omega, by rw [List.length_append]; omega, ⟨?_⟩, ?_, by exact n1, by exact e1, by exact e1, by exact e1, by exact e1, by exact e1, by exact e1⟩
       ·rw [hres.out, zEp, hmet, hokt.out, hbad]; rfl
       ·intro q hq'
        rcases List.mem_append.1 hq' with hq' | hq'
        ·exact nxS_in hcg.out hchh.out hpp q hq'
        ·exact hwp' q hq'
    ·rw [hmet] at hlk5
     repeat with_reducible first | refine zAA ?_ | refine zBg ?_ | refine zBf ?_ | refine zAC ?_ | refine zAE ?_ | refine zAD ?_ | refine zCF ?_ | (apply st_q; exact q1) | (apply zAJ; exact e1)
     refine ⟨m, by omega, w, met, _, I7, by omega, by omega, ⟨by rw [hres.out, zEp, hmet]; rfl⟩, hwp', by exact n1, by exact e1, by exact e1, by exact e1, by exact e1, by exact e1, by exact e1⟩
  ·repeat' with_reducible first | refine zAA ?_ | refine zAa ?_ | refine zAC ?_ | refine zAE ?_ | refine zAD ?_ | refine zAO ?_ | (apply st_q; exact q1) | (apply zBW; exact e1; exact q1) | (apply zAJ; exact e1) | (apply zAI; exact n1; exact r1)
   refine ⟨?_, g05⟩
   have h2 : (zAF h == 0) = false := by simpa using hch
   rw [zFJ, h2]; simp
 ·repeat' with_reducible first | refine zAA ?_ | refine zAa ?_ | refine zAC ?_ | refine zAE ?_ | refine zAD ?_ | refine zAO ?_ | (apply st_q; exact q1) | (apply zDV; exact e1) | (apply zFN; exact e1) | (apply zAJ; exact e1) | (apply zAI; exact n1; exact r1)
  refine ⟨?_, g04⟩
  have h1 : (zAF g == 0) = false := by simpa using hck
  rw [zFJ, h1]; rfl
end
end Go.Ab.S
end
section
namespace Go.Ab.S
open Go Go.Ab
set_option maxHeartbeats 8000000
def tP : List Nat := [105, 110, 116, 32, 45, 62, 32, 39, 97]
def tQ : List Nat := [39, 98, 32, 45, 62, 32, 39, 98]
def tI : List Nat := [105, 110, 116, 32, 45, 62, 32, 105, 110, 116]
def tM : List Nat := [60, 32, 109, 32, 58, 32, 105, 110, 116, 32, 59, 32, 46, 46, 32, 62]
def tN : List Nat := [60, 32, 110, 32, 58, 32, 105, 110, 116, 32, 62]
structure HasRead (summ : SumT) : Prop where
 read : ∀ s G, (s, G) ∈ [(tP, gP), (tQ, gQb), (tI, gI), (tM, gM), (tN, gN)] -> ∀ h, WF h -> ∃ v h', summ 23 [.str s] h = some (.ret (.tuple [v, .int .i64 0], h')) /\ GraphAt h' v G /\ Grow h h'
theorem zFW {h : AHeap} {v : AVal} {g : Graph} (k : GraphAt h v g) : ∃ nv, v = .agg [nv, .int .i64 g.root] /\ NodesAt h nv g.nodes /\ one nv = true := by
 obtain ⟨nv, rfl, hN⟩ := k
 exact ⟨nv, rfl, hN, zAR hN.len⟩
def MeetR (g h : Graph) (h0 h' : AHeap) (r : AVal) : Prop := ∃ uv code, r = .tuple [uv, .int .i64 code] /\ ((code = 0 /\ ∃ x, MR g h x /\ OwnG h' h0.next uv x) \/ (code ≠ 0 /\ uv = .agg [.slice none 0, .int .i64 0] /\ (zAF g = 0 -> zAF h = 0 -> code = 8 /\ ¬ Consi (zAw g h) (zBa g h))))
theorem meetR_of {g h : Graph} {h0 h' : AHeap} {uv : AVal} {code : Int} (hz : code ≠ 0 -> uv = .agg [.slice none 0, .int .i64 0]) (hc : (zAF g ≠ 0 /\ code = zAF g) \/ (zAF g = 0 /\ zAF h ≠ 0 /\ code = zAF h) \/ (zAF g = 0 /\ zAF h = 0 /\ code = 8 /\ ¬ Consi (zAw g h) (zBa g h)) \/ (zAF g = 0 /\ zAF h = 0 /\ code = 0 /\ ∃ U R, UOut (zAw g h) (zBa g h) U R /\ OwnG h' h0.next uv (zCE U))) :
  MeetR g h h0 h' (.tuple [uv, .int .i64 code]) := by
 refine ⟨uv, code, rfl, ?_⟩
 rcases hc with ⟨k1, k2⟩ | ⟨k1, k2, k3⟩ | ⟨k1, k2, k3, k4⟩ | ⟨k1, k2, k3, U, R, O, own⟩
 ·have : code ≠ 0 := by omega
  exact .inr ⟨this, hz this, fun h => absurd h k1⟩
 ·have : code ≠ 0 := by omega
  exact .inr ⟨this, hz this, fun _ h => absurd h k2⟩
 ·have : code ≠ 0 := by omega
  exact .inr ⟨this, hz this, fun _ _ => ⟨k3, k4⟩⟩
 ·exact .inl ⟨k3, _, ⟨U, R, O, rfl⟩, own⟩
section
variable {fns : FnsT} {summ : SumT} {ro : Option Nat}
theorem zIN {l : List Step} {a : AAct} {h : AHeap} {K : AAct -> AHeap -> Prop} (I : AAct -> Prop) (hi : I a) (k : ∀ A, I A -> St fns summ ro l A h K) : St fns summ ro l a h K := k a hi
end
section
variable {fns : FnsT} {summ : SumT}
variable (H : Has fns summ) (HS : HasSort summ) (HA : HasAs summ)
include H HS HA
theorem Meet' (g h : Graph) (sm : MeetSm g h) {gv hv' : AVal} {h0 : AHeap} (w0 : WF h0) (hv : GraphAt h0 gv g) (hu : GraphAt h0 hv' h) :
  Cl fns summ 16 [gv, hv'] h0 fun r h' => Grow h0 h' /\ MeetR g h h0 h' r := (Meet_ok H HS HA g h sm.g1 sm.h1 sm.b sm.l sm.s w0 hv hu).mono fun r h' ⟨h1, uv, code, h2, h3, h4⟩ => ⟨h1, by rw [h2]; exact meetR_of h3 h4⟩
variable (HR : HasRead summ)
include HR
theorem zMb (h : AHeap) (hw : WF h) : Cl fns summ 10 [] h fun r h' => r = .bool true /\ Grow h h' := by
 have ht2 : ∀ x y : AVal, List.take 2 [x, y] = [x, y] := fun _ _ => rfl
 refine H.go (fn := F_alive08) rfl (by decide) rfl rfl ?_
 unfold F_alive08
 dsimp only [qQ, qE, qN, gQ, gE, vi, tm, mt, lo, fa]
 repeat with_reducible first | refine zAA ?_ | refine zAC ?_ | refine zAE ?_ | refine zAD ?_ | (apply st_q; exact q1)
 obtain ⟨vP, h1, rP, gP1, G1⟩ := HR.read tP gP (by simp) h hw
 refine zAb (by exact s1) (zDh rP ?_)
 rw [D.sat_ret]
 dsimp only
 obtain ⟨nP, rfl, NP, oP⟩ := zFW gP1
 repeat with_reducible (apply st_q; exact q1)
 refine zAY G1.wf ?_
 rintro b1 h2 hb1 g2 o1
 refine zAG (v := .agg [nP, .int .i64 gP.root]) (by exact e1) (by exact e1) (cs := [nP, .int .i64 gP.root]) rfl rfl g2.wf o1 (by simp) (by simp only [List.all_cons, List.all_nil, oP, Bool.and_true]; rfl) ?_
 rintro v3 h3 p3 o1'
 simp only [zlY, zlA, zlC, zlN, zlD, zlZ, zlE, Nat.zero_add, Nat.reduceAdd, zlX, zlK] at o1'
 have G3 := p3.grow h hw (G1.trans g2) (by have := G1.next; omega)
 have NP' := Hid.mk (NP.mono (p3.grow h1 G1.wf g2 hb1))
 clear o1
 have o1 := o1'
 have G := G3
 have n1x := G1.next
 clear p3 o1' G3 g2 NP gP1 rP G1
 repeat with_reducible first | refine zAA ?_ | refine zAC ?_ | refine zAE ?_ | refine zAD ?_ | (apply st_q; exact q1)
 obtain ⟨vQ, h4, rQ, gQ1, G1⟩ := HR.read tQ gQb (by simp) h3 G.wf
 refine zAb (by exact s1) (zDh rQ ?_)
 rw [D.sat_ret]
 dsimp only
 obtain ⟨nQ, rfl, NQ, oQ⟩ := zFW gQ1
 repeat with_reducible (apply st_q; exact q1)
 refine zAY G1.wf ?_
 rintro b3 h5 hb g2 oo
 refine zAG (v := .agg [nQ, .int .i64 gQb.root]) (by exact e1) (by exact e1) (cs := [nQ, .int .i64 gQb.root]) rfl rfl g2.wf oo (by simp) (by simp only [List.all_cons, List.all_nil, oQ, Bool.and_true]; rfl) ?_
 rintro vv h6 pp o3
 simp only [zlY, zlA, zlC, zlN, zlD, zlZ, zlE, Nat.zero_add, Nat.reduceAdd, zlX, zlK] at o3
 have gC : Grow h3 h6 := pp.grow h3 G.wf (G1.trans g2) (by have := G1.next; omega)
 have NQ' := Hid.mk (NQ.mono (pp.grow h4 G1.wf g2 hb))
 clear pp oo g2 NQ gQ1 rQ G1 hb
 replace o1 := gC.keep _ _ o1
 replace NP' := Hid.mk (NP'.out.mono gC)
 replace G := G.trans gC
 clear gC
 repeat with_reducible first | refine zAA ?_ | refine zAC ?_ | refine zAE ?_ | refine zAD ?_ | (apply st_q; exact q1)
 obtain ⟨vI, h7, rI, gI1, G1⟩ := HR.read tI gI (by simp) h6 G.wf
 refine zAb (by exact s1) (zDh rI ?_)
 rw [D.sat_ret]
 dsimp only
 obtain ⟨nI, rfl, NI, oI⟩ := zFW gI1
 repeat with_reducible (apply st_q; exact q1)
 refine zAY G1.wf ?_
 rintro b5 h8 hb g2 oo
 refine zAG (v := .agg [nI, .int .i64 gI.root]) (by exact e1) (by exact e1) (cs := [nI, .int .i64 gI.root]) rfl rfl g2.wf oo (by simp) (by simp only [List.all_cons, List.all_nil, oI, Bool.and_true]; rfl) ?_
 rintro vv h9 pp o5
 simp only [zlY, zlA, zlC, zlN, zlD, zlZ, zlE, Nat.zero_add, Nat.reduceAdd, zlX, zlK] at o5
 have gC : Grow h6 h9 := pp.grow h6 G.wf (G1.trans g2) (by have := G1.next; omega)
 have NI' := Hid.mk (NI.mono (pp.grow h7 G1.wf g2 hb))
 clear pp oo g2 NI gI1 rI G1 hb
 replace o1 := gC.keep _ _ o1
 replace o3 := gC.keep _ _ o3
 replace NP' := Hid.mk (NP'.out.mono gC)
 replace NQ' := Hid.mk (NQ'.out.mono gC)
 replace G := G.trans gC
 clear gC
 repeat with_reducible first | refine zAA ?_ | refine zAC ?_ | refine zAE ?_ | refine zAD ?_ | (apply st_q; exact q1)
 refine zAb (by exact s1) ((Meet' H HS HA gP gQb sm_PQ G.wf ⟨nP, rfl, NP'.out⟩ ⟨nQ, rfl, NQ'.out⟩).mono ?_)
 rintro _ h10 ⟨G1, uv, code, rfl, hc⟩
 obtain ⟨x, rfl, hx, own⟩ : ∃ x, code = 0 /\ MR gP gQb x /\ OwnG h10 h9.next uv x := by
  rcases hc with ⟨rfl, x, hx, own⟩ | ⟨_, _, k⟩
  ·exact ⟨x, rfl, hx, own⟩
  ·exact absurd al_can (k ok_P ok_Q).2
 obtain ⟨nX, rfl, NX, oX⟩ := zFW own.graph
 have hX : Hid (GTi x /\ zFJ x gI = true) := ⟨al_gti hx, by
  obtain ⟨U, R, O, rfl⟩ := hx
  exact (zNG O).1⟩
 have zX : decide (Int.ofNat x.nodes.length > 1) = true := by
  obtain ⟨U, R, O, rfl⟩ := hx
  have := (zNG O).2
  simp; omega
 have lX := NX.len
 clear hc own hx
 repeat with_reducible (apply st_q; exact q1)
 refine zAY G1.wf ?_
 rintro b7 h11 hb g2 oo
 refine zAG (v := .agg [nX, .int .i64 x.root]) (by exact e1) (by exact e1) (cs := [nX, .int .i64 x.root]) rfl rfl g2.wf oo (by simp) (by simp only [List.all_cons, List.all_nil, oX, Bool.and_true]; rfl) ?_
 rintro vv h12 pp o7
 simp only [zlY, zlA, zlC, zlN, zlD, zlZ, zlE, Nat.zero_add, Nat.reduceAdd, zlX, zlK] at o7
 have gC : Grow h9 h12 := pp.grow h9 G.wf (G1.trans g2) (by have := G1.next; omega)
 have NX' := Hid.mk (NX.mono (pp.grow h10 G1.wf g2 hb))
 clear pp oo g2 NX G1 hb
 replace o1 := gC.keep _ _ o1
 replace o3 := gC.keep _ _ o3
 replace o5 := gC.keep _ _ o5
 replace NP' := Hid.mk (NP'.out.mono gC)
 replace NQ' := Hid.mk (NQ'.out.mono gC)
 replace NI' := Hid.mk (NI'.out.mono gC)
 replace G := G.trans gC
 clear gC
 repeat with_reducible first | refine zAA ?_ | refine zAC ?_ | refine zAE ?_ | refine zAD ?_ | (apply st_q; exact q1)
 refine zIN (fun A => A.defers = [] /\ ev A (.tmp 1) = some (.ptr (some (b1, 0))) /\ ev A (.tmp 3) = some (.ptr (some (b3, 0))) /\ ev A (.tmp 5) = some (.ptr (some (b5, 0))) /\ ev A (.tmp 7) = some (.ptr (some (b7, 0))) /\ ev A (.tmp 2) = some (.int .i64 0) /\ ev A (.tmp 4) = some (.int .i64 0) /\ ev A (.tmp 6) = some (.int .i64 0) /\ ev A (.tmp 8) = some (.int .i64 0)) ⟨by exact n1, by exact e1, by exact e1, by exact e1, by exact e1, by exact e1, by exact e1, by exact e1, by exact e1⟩ ?_
 rintro a ⟨hd, ta0, ta1, ta2, ta3, ta4, ta5, ta6, ta7⟩
 obtain ⟨vM, h13, rM, gM1, G1⟩ := HR.read tM gM (by simp) h12 G.wf
 refine zAb (by exact s1) (zDh rM ?_)
 rw [D.sat_ret]
 dsimp only
 obtain ⟨nM, rfl, NM, oM⟩ := zFW gM1
 repeat with_reducible (apply st_q; exact q1)
 refine zAY G1.wf ?_
 rintro b9 h14 hb g2 oo
 refine zAG (v := .agg [nM, .int .i64 gM.root]) (by exact e1) (by exact e1) (cs := [nM, .int .i64 gM.root]) rfl rfl g2.wf oo (by simp) (by simp only [List.all_cons, List.all_nil, oM, Bool.and_true]; rfl) ?_
 rintro vv h15 pp o9
 simp only [zlY, zlA, zlC, zlN, zlD, zlZ, zlE, Nat.zero_add, Nat.reduceAdd, zlX, zlK] at o9
 have gC : Grow h12 h15 := pp.grow h12 G.wf (G1.trans g2) (by have := G1.next; omega)
 have NM' := Hid.mk (NM.mono (pp.grow h13 G1.wf g2 hb))
 clear pp oo g2 NM gM1 rM G1 hb
 replace o1 := gC.keep _ _ o1
 replace o3 := gC.keep _ _ o3
 replace o5 := gC.keep _ _ o5
 replace o7 := gC.keep _ _ o7
 replace NP' := Hid.mk (NP'.out.mono gC)
 replace NQ' := Hid.mk (NQ'.out.mono gC)
 replace NI' := Hid.mk (NI'.out.mono gC)
 replace NX' := Hid.mk (NX'.out.mono gC)
 replace G := G.trans gC
 clear gC
 repeat with_reducible first | refine zAA ?_ | refine zAC ?_ | refine zAE ?_ | refine zAD ?_ | (apply st_q; exact q1)
 obtain ⟨vN, h16, rN, gN1, G1⟩ := HR.read tN gN (by simp) h15 G.wf
 refine zAb (by exact s1) (zDh rN ?_)
 rw [D.sat_ret]
 dsimp only
 obtain ⟨nN, rfl, NN, oN⟩ := zFW gN1
 repeat with_reducible (apply st_q; exact q1)
 refine zAY G1.wf ?_
 rintro b11 h17 hb g2 oo
 refine zAG (v := .agg [nN, .int .i64 gN.root]) (by exact e1) (by exact e1) (cs := [nN, .int .i64 gN.root]) rfl rfl g2.wf oo (by simp) (by simp only [List.all_cons, List.all_nil, oN, Bool.and_true]; rfl) ?_
 rintro vv h18 pp o11
 simp only [zlY, zlA, zlC, zlN, zlD, zlZ, zlE, Nat.zero_add, Nat.reduceAdd, zlX, zlK] at o11
 have gC : Grow h15 h18 := pp.grow h15 G.wf (G1.trans g2) (by have := G1.next; omega)
 have NN' := Hid.mk (NN.mono (pp.grow h16 G1.wf g2 hb))
 clear pp oo g2 NN gN1 rN G1 hb
 replace o1 := gC.keep _ _ o1
 replace o3 := gC.keep _ _ o3
 replace o5 := gC.keep _ _ o5
 replace o7 := gC.keep _ _ o7
 replace o9 := gC.keep _ _ o9
 replace NP' := Hid.mk (NP'.out.mono gC)
 replace NQ' := Hid.mk (NQ'.out.mono gC)
 replace NI' := Hid.mk (NI'.out.mono gC)
 replace NX' := Hid.mk (NX'.out.mono gC)
 replace NM' := Hid.mk (NM'.out.mono gC)
 replace G := G.trans gC
 clear gC
 repeat with_reducible first | refine zAA ?_ | refine zAC ?_ | refine zAE ?_ | refine zAD ?_ | (apply st_q; exact q1)
 refine zAb (by exact s1) ((Meet' H HS HA gM gN sm_MN G.wf ⟨nM, rfl, NM'.out⟩ ⟨nN, rfl, NN'.out⟩).mono ?_)
 rintro _ h19 ⟨G1, uv, code, rfl, hc⟩
 obtain ⟨rfl, rfl⟩ : code = 8 /\ uv = .agg [.slice none 0, .int .i64 0] := by
  rcases hc with ⟨_, x, ⟨U, R, O, _⟩, _⟩ | ⟨_, k1, k2⟩
  ·exact absurd ⟨U, R, O⟩ al_not
  ·exact ⟨(k2 ok_M ok_N).1, k1⟩
 clear hc
 repeat with_reducible (apply st_q; exact q1)
 refine zAY G1.wf ?_
 rintro b13 h20 hb g2 oo
 refine zAG (by exact e1) (by exact e1) (by exact cc) rfl g2.wf oo (by simp) rfl ?_
 rintro vv h21 pp o13
 simp only [zlY, zlA, zlC, zlN, zlD, zlZ, zlE, Nat.zero_add, Nat.reduceAdd, zlX, zlK] at o13
 have gC : Grow h18 h21 := pp.grow h18 G.wf (G1.trans g2) (by have := G1.next; omega)
 clear pp oo g2 G1 hb o13
 replace o1 := gC.keep _ _ o1
 replace o3 := gC.keep _ _ o3
 replace o5 := gC.keep _ _ o5
 replace o7 := gC.keep _ _ o7
 replace o9 := gC.keep _ _ o9
 replace o11 := gC.keep _ _ o11
 replace NP' := Hid.mk (NP'.out.mono gC)
 replace NQ' := Hid.mk (NQ'.out.mono gC)
 replace NI' := Hid.mk (NI'.out.mono gC)
 replace NX' := Hid.mk (NX'.out.mono gC)
 replace NM' := Hid.mk (NM'.out.mono gC)
 replace NN' := Hid.mk (NN'.out.mono gC)
 replace G := G.trans gC
 clear gC
 refine zIN (fun A => A.defers = [] /\ ev A (.tmp 1) = some (.ptr (some (b1, 0))) /\ ev A (.tmp 3) = some (.ptr (some (b3, 0))) /\ ev A (.tmp 5) = some (.ptr (some (b5, 0))) /\ ev A (.tmp 7) = some (.ptr (some (b7, 0))) /\ ev A (.tmp 2) = some (.int .i64 0) /\ ev A (.tmp 4) = some (.int .i64 0) /\ ev A (.tmp 6) = some (.int .i64 0) /\ ev A (.tmp 8) = some (.int .i64 0) /\ ev A (.tmp 10) = some (.int .i64 0) /\ ev A (.tmp 12) = some (.int .i64 0) /\ ev A (.tmp 46) = some (.int .i64 8)) ⟨by exact n1, by exact e1, by exact e1, by exact e1, by exact e1, by exact e1, by exact e1, by exact e1, by exact e1, by exact e1, by exact e1, by exact e1⟩ ?_
 rintro a ⟨hd, tbx, tb0, tb1, tb2, tb3, tb4, tb5, tb6, tb7, tb8, tb9⟩
 clear ta0 ta1 ta2 ta3 ta4 ta5 ta6 ta7
 repeat with_reducible first | refine zAA ?_ | refine zAC ?_ | refine zAE ?_ | refine zAD ?_ | (apply st_q; exact q1) | (apply zBW; exact e1; exact q1)
 refine zBi (by exact e1) (by exact s1) ((Same_ok H x gI hX.out.1 zOX _ _ _ G.wf ⟨nX, rfl, NX'.out⟩ ⟨nI, rfl, NI'.out⟩).mono ?_)
 rintro _ hZ ⟨rfl, gZ⟩
 have G' := Hid.mk (G.trans gZ)
 have hs := hX.out.2
 clear G gZ o1 o3 o5 o7 o9 o11 NP' NQ' NI' NX' NM' NN' hX
 rw [hs]
 repeat' with_reducible first | refine zAA ?_ | refine zAC ?_ | refine zAO ?_ | (apply st_q; exact q1) | (apply zIO; exact e1; exact e2) | (apply zBW; exact e1; exact q1) | (apply zGE; exact e1; exact g1; exact q2) | (apply zAI; exact n1; exact r1)
 exact ⟨rfl, G'.out⟩
end
end Go.Ab.S
end
section
namespace Go.Ab
open Go.RowKit (Below)

mutual
def mapV (f : Nat -> Nat) : AVal -> AVal
 | .ptr (some p) => .ptr (some (f p.1, p.2))
 | .slice (some p) n => .slice (some (f p.1, p.2)) n
 | .agg l => .agg (zEv f l)
 | .tuple l => .tuple (zEv f l)
 | .iface t v => .iface t (mapV f v)
 | v => v
def zEv (f : Nat -> Nat) : List AVal -> List AVal
 | [] => []
 | x :: r => mapV f x :: zEv f r
end
mutual
def zGZ (k : Nat) : AVal -> Bool
 | .ptr (some p) => Nat.blt p.1 k
 | .slice (some p) _ => Nat.blt p.1 k
 | .agg l => zDT k l
 | .tuple l => zDT k l
 | .iface _ v => zGZ k v
 | .map (some _) => false
 | .func _ _ _ => false
 | .yield _ => false
 | _ => true
def zDT (k : Nat) : List AVal -> Bool
 | [] => true
 | x :: r => zGZ k x && zDT k r
end
theorem zDa (f : Nat -> Nat) : ∀ l : List AVal, (zEv f l).length = l.length
 | [] => rfl
 | _ :: r => congrArg (· + 1) (zDa f r)

section
variable {P : Program} {G G' : GM} {f g : Nat -> Nat} {k : Nat}
mutual
theorem VR.ren (hG : ∀ i, i < k -> ∀ gi, G (f i) = some gi -> G' (g i) = some gi) : ∀ {x : AVal} {v : Value}, zGZ k x = true -> VR P G (mapV f x) v -> VR P G' (mapV g x) v
 | .bool _, _, _, e => e
 | .int _ _, _, _, e => e
 | .str _, _, _, e => e
 | .ptr none, _, _, e => e
 | .ptr (some p), _, h, ⟨gi, e, r⟩ => ⟨gi, hG _ (Nat.blt_eq.mp h) _ e, r⟩
 | .slice none _, _, _, e => e
 | .slice (some p) _, _, h, ⟨gi, c, e, r⟩ => ⟨gi, c, hG _ (Nat.blt_eq.mp h) _ e, r⟩
 | .slice0, _, _, e => e
 | .sliceE, _, _, e => e
 | .map none, _, _, e => e
 | .map (some _), _, h, _ => by cases h
 | .func _ _ _, _, h, _ => by cases h
 | .yield _, _, h, _ => by cases h
 | .nilFunc, _, _, e => e
 | .iface _ _, _, h, ⟨y, e, r⟩ => ⟨y, e, VR.ren hG h r⟩
 | .nilIface, _, _, e => e
 | .agg _, _, h, ⟨L, e, r⟩ => ⟨L, e, VsR.ren hG h r⟩
 | .tuple _, _, h, ⟨L, e, r⟩ => ⟨L, e, VsR.ren hG h r⟩
theorem VsR.ren (hG : ∀ i, i < k -> ∀ gi, G (f i) = some gi -> G' (g i) = some gi) : ∀ {xs : List AVal} {vs : List Value}, zDT k xs = true -> VsR P G (zEv f xs) vs -> VsR P G' (zEv g xs) vs
 | [], _, _, e => e
 | _ :: _, _, h, ⟨y, ys, e, a, b⟩ => by
  simp only [zDT, Bool.and_eq_true] at h
  exact ⟨y, ys, e, VR.ren hG h.1 a, VsR.ren hG h.2 b⟩
end
end

def layH (n : Nat) : List (TypeId × List AVal) -> AHeap -> AHeap
 | [], h => h
 | (e, vs) :: r, h => layH n r (newA h (.cells false e (zEv (n + ·) vs)))
theorem zFE (n : Nat) : ∀ (os : List (TypeId × List AVal)) (h : AHeap), (layH n os h).next = h.next + os.length
 | [], h => rfl
 | (e, vs) :: r, h => by rw [layH, zFE n r]; simp only [newA, zlC]; omega
theorem zJe (n : Nat) : ∀ (os : List (TypeId × List AVal)) (h : AHeap) (b : Nat), b < h.next \/ h.next + os.length <= b -> (layH n os h).objs.get b = h.objs.get b
 | [], h, _, _ => rfl
 | (e, vs) :: r, h, b, hb => by
  simp only [zlC] at hb
  rw [layH, zJe n r _ b (by simp only [newA]; omega)]
  simp only [newA, T.get_set]
  rw [if_neg (by omega)]
theorem zCB (n : Nat) : ∀ (os : List (TypeId × List AVal)) (h : AHeap) (i : Nat) (e : TypeId) (vs : List AVal), os[i]? = some (e, vs) -> (layH n os h).objs.get (h.next + i) = some (h.next + i, .cells false e (zEv (n + ·) vs))
 | [], h, _, _, _, hi => by simp at hi
 | (e, vs) :: r, h, 0, e', vs', hi => by
  simp only [List.getElem?_cons_zero, oI, Prod.mk.injEq] at hi
  obtain ⟨rfl, rfl⟩ := hi
  rw [layH, zJe n r _ _ (by simp only [newA]; omega)]
  simp only [newA, T.get_set, Nat.add_zero, if_true]
 | (e, vs) :: r, h, i + 1, e', vs', hi => by
  simp only [List.getElem?_cons_succ] at hi
  have := zCB n r (newA h (.cells false e (zEv (n + ·) vs))) i e' vs' hi
  rw [layH, show h.next + (i + 1) = (newA h (.cells false e (zEv (n + ·) vs))).next + i by simp only [newA]; omega]
  exact this

section
variable {P : Program} {N : Nat} {w0 w w' : World} {G GA GA' : GM} {h hA hA' : AHeap}

theorem Rel.beside (R1 : Rel P N w0 G h w) (R2 : Rel P N w0 GA' hA' w') (E2 : Ext GA hA w GA' hA' w') (hro : ∀ id x, hA.objs.get id = some x -> x.2.ro = true)
  {os : List (TypeId × List AVal)} {keep : List Nat} (hk : keep.length = os.length) (hnd : keep.Nodup) (hpl : ∀ o ∈ os, zDT os.length o.2 = true)
  (hos : ∀ (i : Nat) e vs, os[i]? = some (e, vs) -> ∃ ver, hA'.objs.get (keep.getD i 0) = some (ver, .cells false e (zEv (fun j => keep.getD j 0) vs))) {v0 : AVal} {cv : Value} (hv0 : zGZ os.length v0 = true) (hv : VR P GA' (mapV (fun j => keep.getD j 0) v0) cv) :
  ∃ G'', Rel P N w0 G'' (layH h.next os h) w' /\ Ext G h w G'' (layH h.next os h) w' /\ VR P G'' (mapV (h.next + ·) v0) cv := by
 have hfr : ∀ b, b < w.heap.size -> w'.heap[b]? = w.heap[b]? := fun b hb => E2.frame b hb fun id x gi hx hf _ => by rw [hro id x hx] at hf; cases hf
 have hnew : ∀ (i : Nat) e vs, os[i]? = some (e, vs) -> ∃ ver gi ob, hA'.objs.get (keep.getD i 0) = some (ver, .cells false e (zEv (fun j => keep.getD j 0) vs)) /\ GA' (keep.getD i 0) = some gi /\ w'.heap[gi.blk]? = some ob /\ OR P GA' gi (.cells false e (zEv (fun j => keep.getD j 0) vs)) ob /\ w.heap.size <= gi.blk := by
  intro i e vs hi
  obtain ⟨ver, h1⟩ := hos i e vs hi
  obtain ⟨gi, h2, ob, h3, h4⟩ := R2.obj _ _ _ h1
  refine ⟨ver, gi, ob, h1, h2, h3, h4, ?_⟩
  rcases E2.owned _ _ gi h1 rfl h2 with h5 | ⟨id0, x0, _, h5, h6, _⟩
  ·exact h5
  ·rw [hro id0 x0 h5] at h6; cases h6
 let G'' : GM := fun i => if h.next <= i /\ i < h.next + os.length then GA' (keep.getD (i - h.next) 0) else G i
 have hG1 : ∀ i, i < os.length -> G'' (h.next + i) = GA' (keep.getD i 0) := fun i hi => by
  show (if _ then _ else _) = _
  rw [if_pos (by omega), show h.next + i - h.next = i by omega]
 have hG2 : ∀ i, i < h.next -> G'' i = G i := fun i hi => by
  show (if _ then _ else _) = _
  rw [if_neg (by omega)]
 have hle : GLe G G'' := fun i gi hi => by
  rcases Nat.lt_or_ge i h.next with hl | hl
  ·rw [hG2 i hl]; exact hi
  ·rw [R1.fresh i hl] at hi; cases hi
 have hren : ∀ i, i < os.length -> ∀ gi, GA' (keep.getD i 0) = some gi -> G'' (h.next + i) = some gi := fun i hi gi hg => by rw [hG1 i hi]; exact hg
 have hcase : ∀ id x, (layH h.next os h).objs.get id = some x -> (id < h.next /\ h.objs.get id = some x) \/ ∃ i e vs, id = h.next + i /\ i < os.length /\ os[i]? = some (e, vs) /\ x = (h.next + i, .cells false e (zEv (h.next + ·) vs)) := by
  intro id x hx
  by_cases hr : h.next <= id /\ id < h.next + os.length
  ·obtain ⟨i, rfl⟩ : ∃ i, id = h.next + i := ⟨id - h.next, by omega⟩
   have hi : i < os.length := by omega
   have := zCB h.next os h i os[i].1 os[i].2 (List.getElem?_eq_getElem hi)
   rw [this] at hx
   simp only [oI] at hx
   exact .inr ⟨i, os[i].1, os[i].2, rfl, hi, List.getElem?_eq_getElem hi, hx.symm⟩
  ·rw [zJe _ _ _ _ (by omega)] at hx
   rcases Nat.lt_or_ge id h.next with hl | hl
   ·exact .inl ⟨hl, hx⟩
   ·obtain ⟨gi, hgi, _⟩ := R1.obj id x.1 x.2 hx
    rw [R1.fresh id hl] at hgi; cases hgi
 have hblk : ∀ id x gi, h.objs.get id = some x -> G id = some gi -> gi.blk < w.heap.size := fun id x gi hx hg => by
  obtain ⟨gi', h1, ob, h2, _⟩ := R1.obj id x.1 x.2 hx
  rw [hg] at h1; cases h1
  exact zAs h2
 have hown : ∀ (id : Nat) (x : Nat × AObj) gi, (layH h.next os h).objs.get id = some x -> x.2.ro = false -> G'' id = some gi -> w.heap.size <= gi.blk \/ ∃ id0 x0 gi0, h.objs.get id0 = some x0 /\ x0.2.ro = false /\ G id0 = some gi0 /\ gi0.blk = gi.blk := by
  intro id x gi hx hf hg
  rcases hcase id x hx with ⟨hl, h1⟩ | ⟨i, e, vs, rfl, hi, h1, rfl⟩
  ·rw [hG2 id hl] at hg
   exact .inr ⟨id, x, gi, h1, hf, hg, rfl⟩
  ·obtain ⟨ver, gi', ob, k1, k2, k3, k4, k5⟩ := hnew i e vs h1
   rw [hG1 i hi, k2] at hg; cases hg
   exact .inl k5
 refine ⟨G'', ⟨?_, ?_, ?_, ?_, ?_, ?_, ?_, R2.below, R2.size, ?_⟩, ⟨hle, ?_, ?_, ?_, hown, E2.size⟩, VR.ren hren hv0 hv⟩
 ·intro id ver o hx
  rcases hcase id _ hx with ⟨hl, h1⟩ | ⟨i, e, vs, rfl, hi, h1, h2⟩
  ·obtain ⟨gi, k1, ob, k2, k3⟩ := R1.obj id ver o h1
   exact ⟨gi, hle _ _ k1, ob, by rw [hfr _ (zAs k2)]; exact k2, k3.mono hle⟩
  ·simp only [Prod.mk.injEq] at h2
   obtain ⟨rfl, rfl⟩ := h2
   obtain ⟨ver, gi', ob, k1, k2, k3, k4, k5⟩ := hnew i e vs h1
   refine ⟨gi', hren i hi _ k2, ob, k3, ?_⟩
   obtain ⟨c, t, fr, q1, q2, q3, q4, q5, q6⟩ := k4
   rw [zDa] at q5 q6
   refine ⟨c, t, fr, q1, q2, q3, q4, by rw [zDa]; exact q5, ?_⟩
   rw [zDa]
   exact VsR.ren hren (hpl (e, vs) (List.mem_of_getElem? h1)) q6
 ·intro id id' x x' gi gi' hx hx' hf hg hg' hb
  rcases hcase id _ hx with ⟨hl, h1⟩ | ⟨i, e, vs, rfl, hi, h1, rfl⟩
  ·rw [hG2 id hl] at hg
   have hlt := hblk id x gi h1 hg
   rcases hcase id' _ hx' with ⟨hl', h1'⟩ | ⟨i', e', vs', rfl, hi', h1', rfl⟩
   ·rw [hG2 id' hl'] at hg'
    exact R1.inj id id' x x' gi gi' h1 h1' hf hg hg' hb
   ·obtain ⟨ver, gi2, ob, k1, k2, k3, k4, k5⟩ := hnew i' e' vs' h1'
    rw [hG1 i' hi', k2] at hg'; cases hg'
    omega
  ·obtain ⟨ver, gi1, ob, k1, k2, k3, k4, k5⟩ := hnew i e vs h1
   rw [hG1 i hi, k2] at hg; cases hg
   rcases hcase id' _ hx' with ⟨hl', h1'⟩ | ⟨i', e', vs', rfl, hi', h1', rfl⟩
   ·rw [hG2 id' hl'] at hg'
    have hlt := hblk id' x' gi' h1' hg'
    omega
   ·obtain ⟨ver', gi2, ob', k1', k2', k3', k4', k5'⟩ := hnew i' e' vs' h1'
    rw [hG1 i' hi', k2'] at hg'; cases hg'
    have he := R2.inj _ _ _ _ gi gi' k1 k1' rfl k2 k2' hb
    have e1 : keep.getD i 0 = keep[i]'(by omega) := by simp [List.getD, List.getElem?_eq_getElem (show i < keep.length by omega)]
    have e2 : keep.getD i' 0 = keep[i']'(by omega) := by simp [List.getD, List.getElem?_eq_getElem (show i' < keep.length by omega)]
    rw [e1, e2] at he
    have := (List.getElem_inj hnd).1 he
    rw [this]
 ·intro id ver o gi hx hg hf
  rcases hcase id _ hx with ⟨hl, h1⟩ | ⟨i, e, vs, rfl, hi, h1, h2⟩
  ·rw [hG2 id hl] at hg
   exact R1.own id ver o gi h1 hg hf
  ·obtain ⟨ver', gi1, ob, k1, k2, k3, k4, k5⟩ := hnew i e vs h1
   rw [hG1 i hi, k2] at hg; cases hg
   exact R2.own _ _ _ _ k1 k2 rfl
 ·intro id hid
  rw [zFE] at hid
  show (if _ then _ else _) = _
  rw [if_neg (by omega)]
  exact R1.fresh id (by omega)
 ·intro id ver o hx
  rw [zFE]
  rcases hcase id _ hx with ⟨hl, h1⟩ | ⟨i, e, vs, rfl, hi, h1, h2⟩
  ·have := R1.vers id ver o h1; omega
  ·simp only [Prod.mk.injEq] at h2; omega
 ·intro g hg
  have := R1.low
  rw [hG2 g (by omega)]; exact R1.glob g hg
 ·rw [zFE]; have := R1.low; omega
 ·intro id ver o gi hx hg hr
  rcases hcase id _ hx with ⟨hl, h1⟩ | ⟨i, e, vs, rfl, hi, h1, h2⟩
  ·rw [hG2 id hl] at hg
   exact R1.rolow id ver o gi h1 hg hr
  ·simp only [Prod.mk.injEq] at h2
   rw [h2.2] at hr; cases hr
 ·rw [zFE]; omega
 ·intro id ver o hx
  rcases hcase id _ hx with ⟨hl, h1⟩ | ⟨i, e, vs, rfl, hi, h1, h2⟩
  ·refine .inr ⟨h1, fun gi hg => hfr _ (hblk id _ gi h1 hg)⟩
  ·simp only [Prod.mk.injEq] at h2; exact .inl (by omega)
 ·intro b hb _
  exact hfr b hb
end
end Go.Ab
end
section
namespace Go.Ab
open Go.RowKit (Below)

def eqO : Option (Nat × Nat) -> Option (Nat × Nat) -> Bool
 | none, none => true
 | some p, some q => Nat.beq p.1 q.1 && Nat.beq p.2 q.2
 | _, _ => false
theorem zKU : ∀ {a b : Option (Nat × Nat)}, eqO a b = true -> a = b
 | none, none, _ => rfl
 | some (p1, p2), some (q1, q2), h => by
  simp only [eqO, Bool.and_eq_true] at h
  rw [Nat.eq_of_beq_eq_true h.1, Nat.eq_of_beq_eq_true h.2]
 | none, some _, h => by cases h
 | some _, none, h => by cases h
mutual
def eqV : AVal -> AVal -> Bool
 | .bool a, .bool b => a == b
 | .int k a, .int k' b => decide (k = k') && a == b
 | .str s, .str t => decide (s = t)
 | .ptr x, .ptr y => eqO x y
 | .slice x n, .slice y m => eqO x y && Nat.beq n m
 | .slice0, .slice0 => true
 | .sliceE, .sliceE => true
 | .agg l, .agg m => eqVs l m
 | .tuple l, .tuple m => eqVs l m
 | _, _ => false
def eqVs : List AVal -> List AVal -> Bool
 | [], [] => true
 | x :: r, y :: s => eqV x y && eqVs r s
 | _, _ => false
end
mutual
theorem zKV : ∀ {a b : AVal}, eqV a b = true -> a = b := by
 intro a b h
 cases a with
 | bool x => cases b <;> simp [eqV] at h; rw [h]
 | int k x => cases b <;> simp [eqV] at h; rw [h.1, h.2]
 | str x => cases b <;> simp [eqV] at h; rw [h]
 | ptr x => cases b <;> simp only [eqV, Bool.false_eq_true] at h; rw [zKU h]
 | slice x n => cases b <;> simp only [eqV, Bool.false_eq_true, Bool.and_eq_true] at h; rw [zKU h.1, Nat.eq_of_beq_eq_true h.2]
 | slice0 => cases b <;> first | rfl | cases h
 | sliceE => cases b <;> first | rfl | cases h
 | agg l => cases b <;> simp only [eqV, Bool.false_eq_true] at h; rw [zFS h]
 | tuple l => cases b <;> simp only [eqV, Bool.false_eq_true] at h; rw [zFS h]
 | map x => cases b <;> simp [eqV] at h
 | func f l m => cases b <;> simp [eqV] at h
 | yield l => cases b <;> simp [eqV] at h
 | nilFunc => cases b <;> simp [eqV] at h
 | iface t x => cases b <;> simp [eqV] at h
 | nilIface => cases b <;> simp [eqV] at h
theorem zFS : ∀ {a b : List AVal}, eqVs a b = true -> a = b := by
 intro a b h
 cases a with
 | nil => cases b with
  | nil => rfl
  | cons _ _ => simp [eqVs] at h
 | cons x r => cases b with
  | nil => simp [eqVs] at h
  | cons y s =>
   simp only [eqVs, Bool.and_eq_true] at h
   rw [zKV h.1, zFS h.2]
end

def D.all {α : Type} (p : α -> Bool) : D α -> Bool
 | .ret a => p a
 | .fail => false
 | .ask n k => Nat.blt 0 n && (List.range n).all fun i => (k i).all p
theorem D.all_sat {α : Type} {p : α -> Bool} : ∀ {d : D α}, d.all p = true -> d.sat fun a => p a = true
 | .ret _, h => h
 | .fail, h => by cases h
 | .ask n k, h => by
  simp only [D.all, Bool.and_eq_true, List.all_eq_true, List.mem_range] at h
  exact ⟨Nat.blt_eq.mp h.1, fun i hi => D.all_sat (h.2 i hi)⟩

def isAt (keep : List Nat) (v0 : AVal) (os : List (TypeId × List AVal)) (r : AVal × AHeap) : Bool :=
 eqV r.1 (mapV (fun j => keep.getD j 0) v0) && (List.range os.length).all fun i => match os[i]?, r.2.objs.get (keep.getD i 0) with
  | some (e, vs), some (_, .cells false e' vs') => Nat.beq e e' && eqVs vs' (zEv (fun j => keep.getD j 0) vs)
  | _, _ => false
theorem zMl {keep : List Nat} {v0 : AVal} {os : List (TypeId × List AVal)} {r : AVal × AHeap} (h : isAt keep v0 os r = true) :
  r.1 = mapV (fun j => keep.getD j 0) v0 /\ ∀ (i : Nat) e vs, os[i]? = some (e, vs) -> ∃ ver, r.2.objs.get (keep.getD i 0) = some (ver, .cells false e (zEv (fun j => keep.getD j 0) vs)) := by
 simp only [isAt, Bool.and_eq_true, List.all_eq_true, List.mem_range] at h
 refine ⟨zKV h.1, fun i e vs hi => ?_⟩
 have := h.2 i (List.getElem?_eq_some_iff.1 hi).1
 rw [hi] at this
 split at this
 ·rename_i e1 vs1 ver e' vs' h1 h2
  simp only [oI, Prod.mk.injEq] at h1
  obtain ⟨rfl, rfl⟩ := h1
  simp only [Bool.and_eq_true] at this
  obtain ⟨h4, h3⟩ := this
  exact ⟨ver, by rw [h2, Nat.eq_of_beq_eq_true h4, zFS h3]⟩
 ·cases this

mutual
theorem zIy {f : Nat -> Nat} : ∀ {x : AVal}, zGZ 0 x = true -> mapV f x = x
 | .bool _, _ => rfl
 | .int _ _, _ => rfl
 | .str _, _ => rfl
 | .ptr none, _ => rfl
 | .ptr (some p), h => by simp [zGZ, Nat.blt] at h
 | .slice none _, _ => rfl
 | .slice (some p) _, h => by simp [zGZ, Nat.blt] at h
 | .slice0, _ => rfl
 | .sliceE, _ => rfl
 | .map none, _ => rfl
 | .map (some _), h => by cases h
 | .func _ _ _, h => by cases h
 | .yield _, h => by cases h
 | .nilFunc, _ => rfl
 | .iface t v, h => congrArg (AVal.iface t) (zIy (x := v) h)
 | .nilIface, _ => rfl
 | .agg _, h => by simp only [mapV]; rw [zDR h]
 | .tuple _, h => by simp only [mapV]; rw [zDR h]
theorem zDR {f : Nat -> Nat} : ∀ {x : List AVal}, zDT 0 x = true -> zEv f x = x
 | [], _ => rfl
 | _ :: _, h => by
  simp only [zDT, Bool.and_eq_true] at h
  simp only [zEv]
  rw [zIy h.1, zDR h.2]
end

section
variable {P : Program} {fns : FnsT} {summ : SumT} {N : Nat} {w0 : World}

def tblH (t nx : Nat) (tab : List AVal) : AHeap := { objs := (T.leaf : T (Nat × AObj)).set t (some (0, .cells true 0 tab)), next := nx }
theorem zFg {t nx : Nat} {tab : List AVal} {id : Nat} {x : Nat × AObj} (h : (tblH t nx tab).objs.get id = some x) : id = t /\ x = (0, .cells true 0 tab) := by
 simp only [tblH, T.get_set, T.get_leaf] at h
 split at h
 ·rename_i e; simp only [oI] at h; exact ⟨e, h.symm⟩
 ·cases h
def TblOK (P : Program) (N : Nat) (w0 : World) (t nx : Nat) (tab : List AVal) : Prop :=
 t < P.globals.size /\ P.globals.size <= nx /\ P.globals.size <= N /\ 0 < nx /\ ∃ c e fr, w0.heap[t]? = some (.cells c e fr) /\ tab.length <= c.size /\ VsR P (fun _ => none) tab (c.toList.take tab.length)

theorem rel_tbl {G : GM} {h : AHeap} {w : World} {t nx : Nat} {tab : List AVal} (R : Rel P N w0 G h w) (T : TblOK P N w0 t nx tab) : ∃ GA, Rel P N w0 GA (tblH t nx tab) w := by
 obtain ⟨ht, hn, hN, hp, c, e, fr, hc, hl, hv⟩ := T
 have hw : w.heap[t]? = some (.cells c e fr) := by rw [R.below.block t (by omega)]; exact hc
 refine ⟨fun i => if i = t then some ⟨t, c.size, 0, 0⟩ else if i < P.globals.size then some ⟨i, 0, 0, 0⟩ else none, ?_, ?_, ?_, ?_, ?_, ?_, hn, R.below, R.size, ?_⟩
 ·intro id ver o hx
  obtain ⟨rfl, h1⟩ := zFg hx
  simp only [Prod.mk.injEq] at h1
  obtain ⟨rfl, rfl⟩ := h1
  exact ⟨_, if_pos rfl, _, hw, c, e, fr, rfl, (fun hh => by cases hh), by simp, rfl, hl, by rw [zlZ]; exact hv.mono (fun _ _ hh => by cases hh)⟩
 ·intro id id' x x' gi gi' hx _ hf
  obtain ⟨_, rfl⟩ := zFg hx
  cases hf
 ·intro id ver o gi hx _ hf
  obtain ⟨_, h1⟩ := zFg hx
  simp only [Prod.mk.injEq] at h1
  rw [h1.2] at hf; cases hf
 ·intro id hid
  have : nx <= id := hid
  show (if _ then _ else _) = _
  rw [if_neg (by omega), if_neg (by omega)]
 ·intro id ver o hx
  obtain ⟨_, h1⟩ := zFg hx
  simp only [Prod.mk.injEq] at h1
  show ver < nx
  omega
 ·intro g hg
  by_cases hgt : g = t
  ·exact ⟨_, if_pos hgt, by rw [hgt], rfl⟩
  ·exact ⟨⟨g, 0, 0, 0⟩, by simp [hgt, hg], rfl, rfl⟩
 ·intro id ver o gi hx hg _
  obtain ⟨rfl, _⟩ := zFg hx
  simp only [if_true, oI] at hg
  subst hg
  show id < N
  omega

theorem summ_run {n : Nat} {f : FuncId} {args : List AVal} {t nx : Nat} {tab : List AVal} {keep : List Nat} {v0 : AVal} {os : List (TypeId × List AVal)} (hm : P.follows .mixedOrders = true) (hF : FnsOK P fns) (hM : SummOK P N w0 summ) (hT : TblOK P N w0 t nx tab)
  (hpa : zDT 0 args = true) (hk : keep.length = os.length) (hnd : keep.Nodup) (hpl : ∀ o ∈ os, zDT os.length o.2 = true) (hv0 : zGZ os.length v0 = true)
  (he : ((run fns summ n).call f args (tblH t nx tab)).all (isAt keep v0 os) = true) {G : GM} {h : AHeap} {w : World} {argsV : Array Value} {Q : AVal × AHeap -> Prop} (R : Rel P N w0 G h w) (hv : VsR P G args argsV.toList) (hq : Q (mapV (h.next + ·) v0, layH h.next os h)) :
  CallsIn (FR none) 0 P f argsV w (PostC P N w0 G h w Q) := by
 obtain ⟨GA, RA⟩ := rel_tbl R hT
 have hvA : VsR P GA args argsV.toList := by
  have := VsR.ren (G := G) (G' := GA) (f := id) (g := id) (k := 0) (fun i hi => absurd hi (Nat.not_lt_zero i)) hpa (by rw [zDR hpa]; exact hv)
  rwa [zDR hpa] at this
 refine ((zKs hF hM (fun _ hS => zIk hm hS) n).call f args _ GA w argsV _ RA hvA (D.all_sat he)).mono fun e w' hp => ?_
 obtain ⟨v, h', G', cv, rfl, h1, h2, h3, h4⟩ := hp
 obtain ⟨h5, h6⟩ := zMl h1
 simp only at h5 h6
 subst h5
 obtain ⟨G'', k1, k2, k3⟩ := R.beside h2 h3 (fun id x hx => by obtain ⟨_, rfl⟩ := zFg hx; rfl) hk hnd hpl h6 hv0 h4
 exact ⟨_, _, G'', cv, rfl, hq, k1, k2, k3⟩
end
end Go.Ab
end
