import Derived.Test.YtapnoohglfhgeaaGreatDoorP14
import Derived.Test.YtapnoohglfhgeaaGreatDoorP15
import Derived.Test.YtapnoohglfhgeaaGreatDoorP16
/-
  Part 17 of the proof.
-/
set_option linter.all false
section
/-
  Whether two graphs are the same type: the walk.
-/
namespace Go.Ab.S
open Go.Ab
set_option maxHeartbeats 8000000
section
variable {fns : FuncId → Option AFunc} {summ : FuncId → List AVal → AHeap → Option (D (AVal × AHeap))}
variable (H : Has fns summ)
include H
theorem Same_ok (g h : Graph) (hg : GTi g) (hh : GTi h) (v u : AVal) (h0 : AHeap) (hw : WF h0) (hv : GraphAt h0 v g) (hu : GraphAt h0 u h) : Cl fns summ 12 [v, u] h0 fun r h' => r = .bool (sameF g h) ∧ Grow h0 h' := by
  obtain ⟨nv, rfl, hN⟩ := hv
  obtain ⟨mv, rfl, hM⟩ := hu
  have hlen := hN.len
  have hlem := hM.len
  refine H.go (fn := F_Same) rfl (by decide) rfl rfl ?_
  unfold F_Same
  dsimp only [qQ, qE, qN, gQ, gE, vi]
  refine zAC (zAD ?_)
  refine st_box (by exact e1) (by exact cc) hw ?_
  rintro b2 h2 hb2 g2 o2
  refine st_box (by exact e1) (by exact cc) g2.wf ?_
  rintro b3 h3 hb3 g3 o3
  replace o2 := g3.keep _ _ o2
  have g03 := g2.trans g3
  have hpart : partA (some 2) [nv, .int .i64 g.root] 0 = some (.agg [nv, .int .i64 g.root]) := rfl
  have hpart' : partA (some 2) [mv, .int .i64 h.root] 0 = some (.agg [mv, .int .i64 h.root]) := rfl
  repeat with_reducible first | refine zAA ?_ | refine zAB ?_ | refine zAC ?_ | refine zAD ?_ | (apply st_q; exact q1)
  refine zAS (by exact s1) ((Check_ok H g hg.toGraphSm _ h3 g3.wf ⟨nv, rfl, hN.mono g03⟩).mono ?_)
  rintro _ h4 ⟨rfl, g4⟩
  replace o2 := g4.keep _ _ o2
  replace o3 := g4.keep _ _ o3
  have g04 := g03.trans g4
  cases hck : (zAT g != 0)
  · have hcg : zAT g = 0 := by simpa using hck
    replace hcg := Hid.mk hcg
    repeat with_reducible first | (apply st_q; exact q1) | (apply st_qT; exact e1; exact q1)
    refine st_callT (by exact e1) (by exact s1) ((Check_ok H h hh.toGraphSm _ h4 g4.wf ⟨mv, rfl, hM.mono g04⟩).mono ?_)
    rintro _ h5 ⟨rfl, g5⟩
    replace o2 := g5.keep _ _ o2
    replace o3 := g5.keep _ _ o3
    have g05 := g04.trans g5
    cases hch : (zAT h != 0)
    · have hchh : zAT h = 0 := by simpa using hch
      replace hchh := Hid.mk hchh
      have hres : sameF g h = walkG (okS g h) (nxS g h) (badS g) (2 + leftW (nxS g h) [] (pairsS g h)) [(g.root, h.root)] [] := by
        have h1 : (zAT g == 0) = true := by rw [hcg.out]; rfl
        have h2 : (zAT h == 0) = true := by rw [hchh.out]; rfl
        rw [sameF, h1, h2]; rfl
      replace hres := Hid.mk hres
      repeat with_reducible first | refine zAA ?_ | refine zAB ?_ | refine zAC ?_ | refine zAD ?_ | refine zAL ?_ | (apply st_q; exact q1) | (apply st_qT; exact e1; exact q1) | (apply zAI; exact e1)
      refine st_mkmap (.inl rfl) g5.wf ?_
      rintro r5 h6 hr5 g6 o5
      replace o2 := g6.keep _ _ o2
      replace o3 := g6.keep _ _ o3
      have g06 := g05.trans g6
      have l5 := g6.wf.lt o5
      repeat with_reducible first | refine zAA ?_ | refine zAB ?_ | refine zAC ?_ | refine zAD ?_ | (apply st_q; exact q1)
      refine st_mkmap (.inl rfl) g6.wf ?_
      rintro r6 h7 (hr6 : h6.next ≤ r6) g7 o6
      replace o2 := g7.keep _ _ o2
      replace o3 := g7.keep _ _ o3
      replace o5 := g7.keep _ _ o5
      have l6 := g7.wf.lt o6
      refine st_mkmap (.inl rfl) g7.wf ?_
      rintro r7 h8 (hr7 : h7.next ≤ r7) g8 o7
      replace o2 := g8.keep _ _ o2
      replace o3 := g8.keep _ _ o3
      replace o5 := g8.keep _ _ o5
      replace o6 := g8.keep _ _ o6
      have g08 := (g06.trans g7).trans g8
      repeat with_reducible first | refine zAA ?_ | refine zAB ?_ | refine zAC ?_ | refine zAD ?_ | (apply st_pair; exact e1; exact e1) | (apply st_q; exact q1)
      refine st_bslice1 (v := .agg [.int .i64 g.root, .int .i64 h.root]) (cs := [.int .i64 g.root, .int .i64 h.root]) (by exact e1) rfl rfl rfl g8.wf ?_
      rintro b8 h9 (hb8 : h8.next ≤ b8) g9 o8
      have nx5 := g05.next
      have nx6 := g06.next
      have nx8 := g08.next
      have nx67 := g7.next
      have I0 : SInv h0 b2 b3 r5 r6 r7 nv mv g h [(g.root, h.root)] [] [] [] (.slice (some (b8, 0)) 1) h9 :=
        ⟨g08.trans g9, ⟨_, g9.keep _ _ o2⟩, ⟨_, g9.keep _ _ o3⟩, ⟨_, _, _, g9.keep _ _ o5, MP.zero⟩, ⟨_, _, _, g9.keep _ _ o6, FA.zero⟩, ⟨_, _, _, g9.keep _ _ o7, FA.zero⟩, .inr (.inr ⟨b8, _, _, by omega, rfl, o8, by simp [pairC], rfl⟩), by omega, by omega, by omega, by omega, by omega, by omega⟩
      clear o2 o3 o5 o6 o7 o8 g2 g3 g4 g5 g6 g7 g8 g9 g03 g04 g05 g06 g08 hb2 hb3 hr5 hr6 hr7 hb8 nx5 nx6 nx8 nx67 l5 l6 hpart hpart' hck hch
      obtain ⟨hcg⟩ := hcg
      obtain ⟨hchh⟩ := hchh
      obtain ⟨hres⟩ := hres
      have hrg := check_root hcg
      have hrh := check_root hchh
      have hroot : (g.root, h.root) ∈ pairsS g h := mem_pairsS.2 ⟨⟨hrg.1, hrg.2.1⟩, hrh.1, hrh.2.1⟩
      have hsm : leftW (nxS g h) [] (pairsS g h) ≤ 2 ^ 36 := left_small hg hh fun p _ => by simp [nxS]; omega
      replace hcg := Hid.mk hcg
      replace hchh := Hid.mk hchh
      replace hres := Hid.mk hres
      clear hrg hrh
      repeat with_reducible first | refine zAA ?_ | refine zAB ?_ | refine zAC ?_ | (apply st_q; exact q1)
      with_reducible refine cd_block ?_
      refine cd_loop (fun m a hp => ∃ w met vw, SInv h0 b2 b3 r5 r6 r7 nv mv g h w met (flM g met) ((flM g met).map swP) vw hp ∧ w.length + leftW (nxS g h) met (pairsS g h) < m ∧ w.length + leftW (nxS g h) met (pairsS g h) ≤ 1 + leftW (nxS g h) [] (pairsS g h) ∧ Hid (sameF g h = walkG (okS g h) (nxS g h) (badS g) m w met) ∧ (∀ q ∈ w, q ∈ pairsS g h) ∧ a.defers = [] ∧
        ev a (.tmp 2) = some (.ptr (some (b2, 0))) ∧ ev a (.tmp 3) = some (.ptr (some (b3, 0))) ∧ ev a (.tmp 5) = some (.map (some r5)) ∧ ev a (.tmp 6) = some (.map (some r6)) ∧ ev a (.tmp 7) = some (.map (some r7)) ∧ ev a (.tmp 8) = some vw) ?_ (n := 2 + leftW (nxS g h) [] (pairsS g h))
        ⟨_, _, _, I0, by simp, by simp, hres, by simpa using hroot, by exact n1, by exact e1, by exact e1, by exact e1, by exact e1, by exact e1, by exact e1⟩
      clear I0 hres hroot
      rintro m a hp ⟨w, met, vw, I, hm, hB, hres, hwp, hd, h2', h3', h5', h6', h7', h8'⟩
      have hlw := I.bw.len
      obtain ⟨m, rfl⟩ : ∃ m', m = m' + 1 := ⟨m - 1, by omega⟩
      cases w with
      | nil =>
        have hz : decide (Int.ofNat 0 > 0) = false := rfl
        simp only [List.length_nil] at hlw
        repeat' with_reducible first | refine zAA ?_ | refine nxt_exit ?_ | refine blk_same ?_ | refine zAB ?_ | refine zAC ?_ | refine zAD ?_ | refine cd_exit ?_ | refine zAG ?_ | (apply st_q; exact q1) | (apply zAI; exact e1) | (apply zAE; exact n1; exact r1)
        exact ⟨by rw [hres.out]; rfl, I.grow⟩
      | cons p w =>
        have hpp := hwp p (by simp)
        have hwp' : ∀ q ∈ w, q ∈ pairsS g h := fun q hq => hwp q (by simp [hq])
        obtain ⟨⟨a0, a1⟩, b0, b1⟩ := mem_pairsS.1 hpp
        obtain ⟨ka, hka, hkaN, hna⟩ := nodeD_at a0 a1
        obtain ⟨kb, hkb, hkbN, hnb⟩ := nodeD_at b0 b1
        have hB36 : w.length ≤ 2 ^ 36 := by simp only [List.length_cons] at hB; omega
        have e36 : (2 : Nat) ^ 36 = 68719476736 := by decide
        simp only [List.length_cons] at hlw hm hB
        have hz : decide (Int.ofNat (w.length + 1) > 0) = true := by simp
        have hw1 : IntKind.i64.wrap (Int.ofNat (w.length + 1) - 1) = (w.length : Int) := by
          simp only [Int.ofNat_eq_natCast]
          rw [wrap_small (by omega) (by omega)]; omega
        obtain ⟨bw, verw, vsw, rfl, hgw, hbw, ⟨hpl, hpw⟩, Bw⟩ := pop_row I.bw
        have hix : slA (.slice (some (bw, 0)) (w.length + 1)) 2 w.length = some (bw, w.length * 2) := by simp [slA]
        have hpc : pairC p = [.int .i64 (ka : Nat), .int .i64 (kb : Nat)] := by rw [pairC, hka, hkb]
        have hpe : p = ((ka : Int), (kb : Int)) := by ext <;> assumption
        rw [hpc] at hpw
        have ht2 : ∀ x y : AVal, List.take 2 [x, y] = [x, y] := fun _ _ => rfl
        clear a0 a1 b0 b1 hwp
        repeat with_reducible first | refine zAA ?_ | refine zAB ?_ | refine zAC ?_ | refine zAD ?_ | refine zAK ?_ | refine zAL ?_ | (apply st_q; exact q1) | (apply zAF; exact e1)
        refine st_alloc I.grow.wf ?_
        rintro b9 h6 hb9 g6 o9
        refine zAP (by exact e1) (by exact e1) (cs := [.int .i64 (ka : Nat), .int .i64 (kb : Nat)]) rfl rfl g6.wf o9 (by simp) rfl ?_
        rintro v7 h7 p7 o9'
        simp only [List.take_zero, List.nil_append, List.length_cons, List.length_nil, List.drop_succ_cons, List.drop_zero, List.append_nil, Nat.zero_add, Nat.reduceAdd, List.drop_nil, List.cons_append] at o9'
        have g7 : Grow hp h7 := p7.grow hp I.grow.wf g6 hb9
        have I7 := (I.row Bw).other g7
        have hp9 : partA (some 2) [AVal.int .i64 (ka : Nat), .int .i64 (kb : Nat)] 0 = some (.agg [.int .i64 (ka : Nat), .int .i64 (kb : Nat)]) := rfl
        clear o9 p7 g6 I Bw hgw hpw hpl hix
        repeat with_reducible first | refine zAA ?_ | refine zAB ?_ | refine zAC ?_ | refine zAD ?_ | (apply st_q; exact q1)
        refine st_sliceHi (by exact e1) (by exact e1) (by omega) ?_
        obtain ⟨v5, es5, c5, o5, f5⟩ := I7.o5
        have hlk5 := f5.look o5 p
        rw [hpc] at hlk5
        cases hmet : met.contains p
        · rw [hmet] at hlk5
          have hnm : p ∉ met := by simpa using hmet
          repeat with_reducible first | refine zAA ?_ | refine zAB ?_ | refine zAC ?_ | refine zAD ?_ | refine zAL ?_ | (apply st_q; exact q1) | (apply zAI; exact e1)
          have hf5 := f5.none hnm
          rw [hpc] at hf5
          refine st_put (by exact e1) (by exact e1) (by exact e1) (by intro hh; cases hh) rfl g7.wf o5 hf5 ?_
          rintro vy h8 py oy
          have fy := f5.put (c := c5) hnm
          rw [hpc] at fy
          have I8 := I7.put5 hw py oy fy
          have o9y := py.kp o5 o9' rfl
          obtain ⟨v2, o2⟩ := I8.o2
          obtain ⟨v3, o3⟩ := I8.o3
          obtain ⟨bn, on, vern, ron, en, vsn, av, lv, hixn, hgn0, hvl, hv5, _, _, _, _, _, hav, hlv⟩ := hN.at (List.getElem?_eq_getElem hkaN)
          obtain ⟨bm, om, verm, rom, em, vsm, bv, mv', hixm, hgm0, hvlm, hv5m, _, _, _, _, _, hbv, hmv⟩ := hM.at (List.getElem?_eq_getElem hkbN)
          have hgn := I8.grow.keep _ _ hgn0
          have hgm := I8.grow.keep _ _ hgm0
          have hmem := List.getElem_mem hkaN
          have hmem' := List.getElem_mem hkbN
          have hla := hav.len
          have hll := hlv.len
          have hlb := hbv.len
          have hlm := hmv.len
          clear hlk5 hf5 o5 o9' hgn0 hgm0 py oy
          repeat with_reducible first | refine zAA ?_ | refine zAB ?_ | refine zAC ?_ | refine cd_draw ?_ | (apply dr_q; exact q1) | (apply dr_ql; exact q1; exact og1)
          refine dr_st (st_alloc I8.grow.wf ?_)
          rintro b10 h10 hb10 g10 o10
          have w10 := g10.wf
          refine zAB ⟨by simp [heldOk, g10.keep _ _ o2, g10.keep _ _ o9y, g10.keep _ _ hgn, g10.keep _ _ o3, g10.keep _ _ hgm], ?_⟩
          refine dr_st (st_alloc w10 ?_)
          rintro b11 h11 (hb11 : h10.next ≤ b11) g11 o11
          have g811 := g10.trans g11
          refine zAB ⟨by simp [heldOk, g811.keep _ _ o2, g811.keep _ _ o9y, g811.keep _ _ hgn, g811.keep _ _ o3, g811.keep _ _ hgm], ?_⟩
          have l10 := g10.wf.lt o10
          replace o10 := g11.keep _ _ o10
          have nx8 := g10.next
          refine dr_st (zAP (by exact e1) (by exact e1) (cs := [.int .i64 g.nodes[ka].kind, .str g.nodes[ka].name, av, lv, .bool g.nodes[ka].isOpen]) rfl rfl g11.wf o10 (by simp) (ones_node hla hll) ?_)
          rintro v12 h12 p12 o12
          simp only [List.take_zero, List.nil_append, List.length_cons, List.length_nil, List.drop_succ_cons, List.drop_zero, List.append_nil, Nat.zero_add, Nat.reduceAdd, List.drop_nil, List.cons_append] at o12
          have g12 : Grow h8 h12 := p12.grow h8 I8.grow.wf g811 hb10
          have o11' := p12.keep b11 (by omega) _ o11
          refine zAB ⟨by simp [heldOk, g12.keep _ _ o2, g12.keep _ _ o9y, g12.keep _ _ hgn, g12.keep _ _ o3, g12.keep _ _ hgm], ?_⟩
          refine dr_st (zAP (by exact e1) (by exact e1) (cs := [.int .i64 h.nodes[kb].kind, .str h.nodes[kb].name, bv, mv', .bool h.nodes[kb].isOpen]) rfl rfl g12.wf o11' (by simp) (ones_node hlb hlm) ?_)
          rintro v13 h13 p13 o13
          simp only [List.take_zero, List.nil_append, List.length_cons, List.length_nil, List.drop_succ_cons, List.drop_zero, List.append_nil, Nat.zero_add, Nat.reduceAdd, List.drop_nil, List.cons_append] at o13
          have g13 : Grow h8 h13 := p13.grow h8 I8.grow.wf g12 (by omega)
          have o10' := p13.keep b10 (by omega) _ o12
          refine zAB ⟨by simp [heldOk, Nat.testBit], ?_⟩
          have o9z := g13.keep _ _ o9y
          have I13 := I8.other g13
          have ha13 := hav.mono I13.grow
          have hl13 := hlv.mono I13.grow
          have hb13 := hbv.mono I13.grow
          have hm13 := hmv.mono I13.grow
          have hp10 : partA (some 5) [.int .i64 g.nodes[ka].kind, .str g.nodes[ka].name, av, lv, .bool g.nodes[ka].isOpen] 0 = some (nodeV g.nodes[ka] av lv) := rfl
          have hp11 : partA (some 5) [.int .i64 h.nodes[kb].kind, .str h.nodes[kb].name, bv, mv', .bool h.nodes[kb].isOpen] 0 = some (nodeV h.nodes[kb] bv mv') := rfl
          clear o2 o3 hgn hgm o9y o10 o11 o12 o11' p12 p13 g10 g11 g12 g811 hixn hixm hvl hv5 hvlm hv5m w10 hb10 hb11 l10 nx8 I7 I8
          repeat with_reducible first | refine zAA ?_ | refine zAC ?_ | refine zAD ?_ | refine dr_nil ?_ | (apply st_q; exact q1)
          refine zAS (by exact s1) ((alike_ok H g.nodes[ka] h.nodes[kb] (hg.all _ hmem) av lv bv mv' h13 I13.grow.wf ha13 hl13 hb13 hm13).mono ?_)
          rintro _ h14 ⟨rfl, g14⟩
          have I14 := I13.other g14
          replace o9z := g14.keep _ _ o9z
          replace o10' := g14.keep _ _ o10'
          replace o13 := g14.keep _ _ o13
          have hokp : okS g h p = alikeF g.nodes[ka] h.nodes[kb] := by rw [okS, hna, hnb]
          cases hal : alikeF g.nodes[ka] h.nodes[kb]
          · repeat' with_reducible first | refine zAA ?_ | refine zAN ?_ | refine blk_ret ?_ | refine zAB ?_ | refine zAC ?_ | refine zAD ?_ | refine zAG ?_ | (apply st_q; exact q1) | (apply zAF; exact e1) | (apply zAE; exact n1; exact r1)
            refine ⟨?_, I14.grow⟩
            rw [hres.out, walkG, hmet, hokp, hal]; rfl
          · repeat with_reducible first | refine zAA ?_ | refine zAB ?_ | refine zAC ?_ | refine zAD ?_ | refine zAL ?_ | (apply st_q; exact q1) | (apply zAI; exact e1)
            refine zAS (by exact s1) ((gfree_ok H g.nodes[ka] av lv h14 I14.grow.wf).mono ?_)
            rintro _ h15 ⟨rfl, g15⟩
            have I15 := I14.other g15
            replace o9z := g15.keep _ _ o9z
            replace o10' := g15.keep _ _ o10'
            replace o13 := g15.keep _ _ o13
            have hxy : Hid (g.nodes[ka].args.length = h.nodes[kb].args.length) := ⟨by
              simp only [alikeF, Bool.and_eq_true, beq_iff_eq] at hal
              exact hal.1.2⟩
            have hokt := Hid.mk (hokp.trans hal)
            clear I13 I14 g14 g15 ha13 hl13 hb13 hm13 hal hokp
            have hfre : freeF (zAH g p.1) = freeF g.nodes[ka] := by rw [hna]
            refine zAB (zAA ?_)
            refine cd_post' (fun a hq => SInv h0 b2 b3 r5 r6 r7 nv mv g h w (met ++ [p]) (flM g (met ++ [p])) ((flM g (met ++ [p])).map swP) (.slice (some (bw, 0)) w.length) hq ∧ met.any (badS g p) = false ∧ (∃ ver, hq.objs.get b10 = some (ver, .cells false 60 [.int .i64 g.nodes[ka].kind, .str g.nodes[ka].name, av, lv, .bool g.nodes[ka].isOpen])) ∧ (∃ ver, hq.objs.get b11 = some (ver, .cells false 60 [.int .i64 h.nodes[kb].kind, .str h.nodes[kb].name, bv, mv', .bool h.nodes[kb].isOpen])) ∧ a.defers = [] ∧
              ev a (.tmp 2) = some (.ptr (some (b2, 0))) ∧ ev a (.tmp 3) = some (.ptr (some (b3, 0))) ∧ ev a (.tmp 5) = some (.map (some r5)) ∧ ev a (.tmp 6) = some (.map (some r6)) ∧ ev a (.tmp 7) = some (.map (some r7)) ∧ ev a (.tmp 8) = some (.slice (some (bw, 0)) w.length) ∧ ev a (.tmp 10) = some (.ptr (some (b10, 0))) ∧ ev a (.tmp 11) = some (.ptr (some (b11, 0)))) ?_ ?_
            · cases hf : freeF g.nodes[ka]
              · rw [hf] at hfre
                have hfl : flM g (met ++ [p]) = flM g met := by rw [flM_put, hfre]; simp
                have hbad := bad_none (met := met) hfre
                repeat with_reducible first | refine zAA ?_ | refine zAL ?_ | (apply zAI; exact e1)
                exact ⟨by rw [hfl]; exact I15, hbad, ⟨_, o10'⟩, ⟨_, o13⟩, by exact n1, by exact e1, by exact e1, by exact e1, by exact e1, by exact e1, by exact e1, by exact e1, by exact e1⟩
              · rw [hf] at hfre
                have hfl : flM g (met ++ [p]) = flM g met ++ [p] := by rw [flM_put, hfre]; simp
                have hany := bad_any hnm hfre
                obtain ⟨v6, es6, c6, o6, f6⟩ := I15.o6
                obtain ⟨v7', es7, c7, o7, f7⟩ := I15.o7
                obtain ⟨xb, hlk6, hxb⟩ := f6.look o6 p.1
                obtain ⟨xa, hlk7, hxa⟩ := f7.look o7 p.2
                cases hb1 : (flM g met).any fun q => q.1 == p.1
                · cases hb2 : ((flM g met).map swP).any fun q => q.1 == p.2
                  · rw [hb1, hka] at hlk6
                    rw [hb2, hkb] at hlk7
                    rw [hb1, hb2] at hany
                    have hn6 := f6.none (a := p.1) fun q hq hh => by
                      have := List.any_eq_false.1 hb1 q hq
                      simp [hh] at this
                    have hn7 := f7.none (a := p.2) fun q hq hh => by
                      have := List.any_eq_false.1 hb2 q hq
                      simp [hh] at this
                    rw [hka] at hn6
                    rw [hkb] at hn7
                    have F6 := f6.put (c := c6) (p := p) fun q hq hh => by
                      have := List.any_eq_false.1 hb1 q hq
                      simp [hh] at this
                    have F7 := f7.put (c := c7) (p := swP p) fun q hq hh => by
                      have := List.any_eq_false.1 hb2 q hq
                      simp [hh, swP] at this
                    simp only [swP] at F7
                    rw [hka, hkb] at F6 F7
                    replace hany := Hid.mk hany
                    clear hb1 hb2 hxa hxb f6 f7
                    repeat with_reducible first | refine zAA ?_ | refine zAB ?_ | refine zAC ?_ | refine zAD ?_ | refine zAL ?_ | refine cd_draw ?_ | (apply dr_q; exact q1) | (apply dr_ql; exact q1; exact og1) | (apply st_q; exact q1) | (apply st_qT; exact e1; exact q1) | (apply st_qF; exact e1) | (apply zAF; exact e1) | (apply zAI; exact e1)
                    refine dr_st (st_put (by exact e1) (by exact e1) (by exact e1) (by intro hh; cases hh) rfl I15.grow.wf o6 hn6 ?_)
                    rintro vy hy py oy
                    have o7y := py.keep _ (Ne.symm I15.low.2.2.2.2.2) _ o7
                    have Iy := I15.put6 hw py oy F6
                    have o9q := py.kp o6 o9z rfl
                    refine zAB ⟨by simp [heldOk, Nat.testBit, o9q], ?_⟩
                    refine dr_st (st_put (by exact e1) (by exact e1) (by exact e1) (by intro hh; cases hh) rfl Iy.grow.wf o7y hn7 ?_)
                    rintro vz hz' pz oz
                    have Iz := Iy.put7 hw pz oz F7
                    refine zAB ⟨by simp [heldOk, Nat.testBit], ?_⟩
                    have o10z := pz.kp o7y (py.kp o6 o10' rfl) rfl
                    have o13z := pz.kp o7y (py.kp o6 o13 rfl) rfl
                    clear o9q o7y py pz oy oz hn6 hn7 hlk6 hlk7 F6 F7
                    repeat with_reducible first | refine zAA ?_ | refine dr_nil ?_
                    refine ⟨?_, by rw [hany.out]; rfl, ⟨_, o10z⟩, ⟨_, o13z⟩, by exact n1, by exact e1, by exact e1, by exact e1, by exact e1, by exact e1, by exact e1, by exact e1, by exact e1⟩
                    rw [hfl, List.map_append]
                    have hps : List.map swP [p] = [((kb : Int), (ka : Int))] := by rw [hpe]; rfl
                    rw [hps]
                    exact Iz
                  · rw [hb1, hka] at hlk6
                    rw [hb2, hkb] at hlk7
                    have hne : (xa != (ka : Int)) = true := by
                      obtain ⟨q, hq, hq1, hq2⟩ := hxa hb2
                      obtain ⟨q', hq', rfl⟩ := List.mem_map.1 hq
                      simp only [swP] at hq1 hq2
                      rw [bne_iff_ne]
                      rintro rfl
                      refine hnm ?_
                      have : q' = p := by ext <;> simp_all
                      rw [← this]; exact (List.mem_filter.1 hq').1
                    have hne2 : met.any (badS g p) = true := by rw [hany, hb2]; simp
                    clear hany hb1 hb2 hxa hxb f6 f7
                    replace hne2 := Hid.mk hne2
                    repeat' with_reducible first | refine zAA ?_ | refine zAN ?_ | refine blk_ret ?_ | refine zAB ?_ | refine zAC ?_ | refine zAD ?_ | refine zAG ?_ | (apply st_q; exact q1) | (apply st_qT; exact e1; exact q1) | (apply st_qF; exact e1) | (apply zAF; exact e1) | (apply zAE; exact n1; exact r1)
                    refine ⟨?_, I15.grow⟩
                    rw [hres.out, walkG, hmet, hne2.out]; simp
                · rw [hb1, hka] at hlk6
                  rw [hkb] at hlk7
                  have hne : (xb != (kb : Int)) = true := by
                    obtain ⟨q, hq, hq1, hq2⟩ := hxb hb1
                    rw [bne_iff_ne]
                    rintro rfl
                    refine hnm ?_
                    have : q = p := by ext <;> simp_all
                    rw [← this]; exact (List.mem_filter.1 hq).1
                  have hne2 : met.any (badS g p) = true := by rw [hany, hb1]; simp
                  clear hany hb1 hxa hxb f6 f7
                  replace hne2 := Hid.mk hne2
                  generalize (((flM g met).map swP).any fun q => q.1 == p.2) = hb2 at hlk7
                  repeat' with_reducible first | refine zAA ?_ | refine zAN ?_ | refine blk_ret ?_ | refine zAB ?_ | refine zAC ?_ | refine zAD ?_ | refine zAG ?_ | (apply st_q; exact q1) | (apply st_qT; exact e1; exact q1) | (apply st_qF; exact e1) | (apply st_qU; exact e1) | (apply zAF; exact e1) | (apply zAE; exact n1; exact r1)
                  refine ⟨?_, I15.grow⟩
                  rw [hres.out, walkG, hmet, hne2.out]; simp
            · clear I15 o9z o10' o13 hd h2' h3' h5' h6' h7' h8'
              rintro a hq ⟨I, hbad, o10, o11, hd, h2', h3', h5', h6', h7', h8', h10', h11'⟩
              refine zAA ?_
              have hax : g.nodes[ka].args.length ≤ 4096 := by
                have := leftG_one g.nodes 0 _ hmem
                have := hg.tiny
                omega
              refine push_ok hw I o10 o11 hav hbv hxy.out hax hB36 hd h2' h3' h5' h6' h7' h8' h10' h11' ?_
              clear I o10 o11 hd h2' h3' h5' h6' h7' h8' h10' h11' hax
              intro a hr vw' I hd h2' h3' h5' h6' h7' h8'
              have hnx : nxS g h p = (List.zip g.nodes[ka].args h.nodes[kb].args).reverse := by rw [nxS, hna, hnb]
              have hput := leftW_put (nxS g h) hmet hpp
              rw [← hnx] at I
              repeat with_reducible first | refine zAA ?_ | refine zAJ ?_
              refine ⟨m, by omega, _, _, vw', I, by rw [List.length_append]; omega, by rw [List.length_append]; omega, ⟨?_⟩, ?_, by exact n1, by exact e1, by exact e1, by exact e1, by exact e1, by exact e1, by exact e1⟩
              · rw [hres.out, walkG, hmet, hokt.out, hbad]; rfl
              · intro q hq'
                rcases List.mem_append.1 hq' with hq' | hq'
                · exact nxS_in hcg.out hchh.out hpp q hq'
                · exact hwp' q hq'
        · rw [hmet] at hlk5
          repeat with_reducible first | refine zAA ?_ | refine nxt_exit ?_ | refine blk_same ?_ | refine zAB ?_ | refine zAC ?_ | refine zAD ?_ | refine cd_exit ?_ | (apply st_q; exact q1) | (apply zAF; exact e1)
          refine ⟨m, by omega, w, met, _, I7, by omega, by omega, ⟨by rw [hres.out, walkG, hmet]; rfl⟩, hwp', by exact n1, by exact e1, by exact e1, by exact e1, by exact e1, by exact e1, by exact e1⟩
    · repeat' with_reducible first | refine zAA ?_ | refine zAN ?_ | refine zAB ?_ | refine zAC ?_ | refine zAD ?_ | refine zAG ?_ | (apply st_q; exact q1) | (apply st_qT; exact e1; exact q1) | (apply zAF; exact e1) | (apply zAE; exact n1; exact r1)
      refine ⟨?_, g05⟩
      have h2 : (zAT h == 0) = false := by simpa using hch
      rw [sameF, h2]; simp
  · repeat' with_reducible first | refine zAA ?_ | refine zAN ?_ | refine zAB ?_ | refine zAC ?_ | refine zAD ?_ | refine zAG ?_ | (apply st_q; exact q1) | (apply st_qF; exact e1) | (apply st_eF; exact e1) | (apply zAF; exact e1) | (apply zAE; exact n1; exact r1)
    refine ⟨?_, g04⟩
    have h1 : (zAT g == 0) = false := by simpa using hck
    rw [sameF, h1]; rfl
end
end Go.Ab.S
end
section
/-
  What is left of a graph, and the least one: what they are to the graph that they came of.
-/
namespace Go.Ab.S
open Go.Ab
set_option maxHeartbeats 1000000
/-- What is reached. -/
inductive Rch (g : Graph) : Int → Prop
  | root : Rch g g.root
  | step {a b : Int} : Rch g a → b ∈ (zAH g a).args → Rch g b
theorem argsN_D (g : Graph) (a : Int) : argsN g.nodes a = (zAH g a).args := by
  unfold argsN zAH
  rw [List.getD]
  cases g.nodes[a.toNat]? <;> rfl
theorem reachG_sound {g : Graph} : ∀ (m : Nat) (st out : List Int), (∀ a ∈ st, Rch g a) → (∀ a ∈ out, Rch g a) → ∀ a ∈ reachG g.nodes m st out, Rch g a
  | 0, _, _, _, h => h
  | _ + 1, [], _, _, h => h
  | m + 1, a :: st, out, h1, h2 => by
    rw [reachG]
    split
    · exact reachG_sound m st out (fun b hb => h1 b (by simp [hb])) h2
    · refine reachG_sound m _ _ (fun b hb => ?_) (fun b hb => ?_)
      · rcases List.mem_append.1 hb with hb | hb
        · rw [argsN_D] at hb; exact .step (h1 a (by simp)) hb
        · exact h1 b (by simp [hb])
      · rcases List.mem_append.1 hb with hb | hb
        · exact h2 b hb
        · rw [List.mem_singleton.1 hb]; exact h1 a (by simp)
theorem reachG_all {g : Graph} (hc : zAT g = 0) : ∀ (m : Nat) (st out : List Int), Ok g.nodes.length st → st.length + leftG out g.nodes 0 ≤ m → (∀ a ∈ out, ∀ b ∈ (zAH g a).args, b ∈ out ∨ b ∈ st) →
    (∀ a ∈ st, a ∈ reachG g.nodes m st out) ∧ (∀ a ∈ out, a ∈ reachG g.nodes m st out) ∧ ∀ a ∈ reachG g.nodes m st out, ∀ b ∈ (zAH g a).args, b ∈ reachG g.nodes m st out
  | 0, st, out, _, hm, h => by
    have : st = [] := List.length_eq_zero_iff.1 (by omega)
    subst this
    exact ⟨fun a ha => (by cases ha), fun a ha => ha, fun a ha b hb => by
      rcases h a ha b hb with h | h
      · exact h
      · cases h⟩
  | m + 1, [], out, _, _, h => ⟨fun a ha => (by cases ha), fun a ha => ha, fun a ha b hb => by
      rcases h a ha b hb with h | h
      · exact h
      · cases h⟩
  | m + 1, a :: st, out, hs, hm, h => by
    have hst : Ok g.nodes.length st := fun b hb => hs b (by simp [hb])
    obtain ⟨a0, a1⟩ := hs a (by simp)
    rw [reachG]
    split
    · rename_i hcon
      have hcon : a ∈ out := by simpa using hcon
      simp only [List.length_cons] at hm
      obtain ⟨h1, h2, h3⟩ := reachG_all hc m st out hst (by omega) (fun b hb c hcc => by
        rcases h b hb c hcc with h | h
        · exact .inl h
        · rcases List.mem_cons.1 h with rfl | h
          · exact .inl hcon
          · exact .inr h)
      exact ⟨fun b hb => by
        rcases List.mem_cons.1 hb with rfl | hb
        · exact h2 _ hcon
        · exact h1 b hb, h2, h3⟩
    · rename_i hcon
      obtain ⟨k, hk, hkN, hnk⟩ : ∃ k : Nat, a = (k : Int) ∧ ∃ hk : k < g.nodes.length, zAH g a = g.nodes[k] := ⟨a.toNat, by omega, by omega, by simp [zAH, List.getElem?_eq_getElem (show a.toNat < g.nodes.length by omega)]⟩
      have hput := (leftG_put out k g.nodes 0).2 (Nat.zero_le _) (by rw [← hk]; simpa using hcon) g.nodes[k] (by simpa using List.getElem?_eq_getElem hkN)
      have hargs : argsN g.nodes a = g.nodes[k].args := by rw [argsN_D, hnk]
      rw [hargs, hk]
      simp only [List.length_cons] at hm
      obtain ⟨h1, h2, h3⟩ := reachG_all hc m (g.nodes[k].args ++ st) (out ++ [(k : Int)]) (fun b hb => by
        rcases List.mem_append.1 hb with hb | hb
        · exact may_args ((check_ns hc).2 _ (List.getElem_mem hkN)) b hb
        · exact hst b hb) (by rw [List.length_append]; omega) (fun b hb c hcc => by
        rcases List.mem_append.1 hb with hb | hb
        · rcases h b hb c hcc with h | h
          · exact .inl (List.mem_append.2 (.inl h))
          · rcases List.mem_cons.1 h with rfl | h
            · exact .inl (by rw [hk]; simp)
            · exact .inr (List.mem_append.2 (.inr h))
        · rw [List.mem_singleton.1 hb, ← hk, hnk] at hcc
          exact .inr (List.mem_append.2 (.inl hcc)))
      exact ⟨fun b hb => by
        rcases List.mem_cons.1 hb with rfl | hb
        · exact h2 _ (by simp)
        · exact h1 b (List.mem_append.2 (.inr hb)), fun b hb => h2 b (List.mem_append.2 (.inl hb)), h3⟩
/-- **What is reached is what is gone through.** -/
theorem reach_iff {g : Graph} (hc : zAT g = 0) (a : Int) : a ∈ zAU g ↔ Rch g a := by
  have hr := check_root hc
  rw [zAU, if_pos hc]
  constructor
  · exact reachG_sound _ _ _ (fun b hb => by rw [List.mem_singleton.1 hb]; exact .root) (fun b hb => by cases hb) a
  · obtain ⟨h1, _, h3⟩ := reachG_all hc (1 + leftG [] g.nodes 0) [g.root] [] (fun b hb => by rw [List.mem_singleton.1 hb]; exact ⟨hr.1, hr.2.1⟩) (by simp) (fun b hb => (by cases hb))
    intro h
    induction h with
    | root => exact h1 _ (by simp)
    | step _ hb ih => exact h3 _ ih _ hb
theorem Rch.ok {g : Graph} (hc : zAT g = 0) {a : Int} (h : Rch g a) : 0 ≤ a ∧ a < g.nodes.length := by
  have := (reach_iff hc a).2 h
  exact (reachF_ok g).1 a this
theorem node_in {g : Graph} {a : Int} (h : 0 ≤ a ∧ a < g.nodes.length) : zAH g a ∈ g.nodes := by
  have hk : a.toNat < g.nodes.length := by omega
  have : zAH g a = g.nodes[a.toNat] := by simp [zAH, List.getElem?_eq_getElem hk]
  rw [this]; exact List.getElem_mem hk
/-- The first is reached first. -/
theorem reach_head {g : Graph} (hc : zAT g = 0) : ∃ l, zAU g = g.root :: l := by
  rw [zAU, if_pos hc, Nat.add_comm, reachG]
  simp only [List.contains_nil, Bool.false_eq_true, if_false, List.nil_append]
  have : ∀ (m : Nat) (st out : List Int), ∃ l, reachG g.nodes m st out = out ++ l := by
    intro m
    induction m with
    | zero => intro st out; exact ⟨[], by simp [reachG]⟩
    | succ m ih =>
      intro st out
      cases st with
      | nil => exact ⟨[], by simp [reachG]⟩
      | cons a st =>
        rw [reachG]
        split
        · exact ih st out
        · obtain ⟨l, hl⟩ := ih (argsN g.nodes a ++ st) (out ++ [a])
          exact ⟨a :: l, by rw [hl]; simp⟩
  obtain ⟨l, hl⟩ := this (leftG [] g.nodes 0) (argsN g.nodes g.root ++ []) [g.root]
  exact ⟨l, by rw [hl]; rfl⟩
/-- One graph is another one's, nodes made one by q. -/
structure Quo (g L : Graph) (q : Int → Int) : Prop where
  root : L.root = q g.root
  node : ∀ i, Rch g i → zAH L (q i) = { zAH g i with args := (zAH g i).args.map q }
  surj : ∀ x : Int, 0 ≤ x → x < L.nodes.length → ∃ i, Rch g i ∧ q i = x
  range : ∀ i, Rch g i → 0 ≤ q i ∧ q i < L.nodes.length
  inj : ∀ i j, Rch g i → Rch g j → cfreeF (zAH g i) = true → q i = q j → i = j
  check : zAT L = 0
theorem idx_lt {l : List Int} {a : Int} (h : a ∈ l) : toIdx l a < l.length ∧ l[toIdx l a]? = some a := by
  have hc : l.contains a = true := by simpa using h
  rw [toIdx, if_pos hc]
  have := List.idxOf_lt_length_of_mem h
  exact ⟨this, by rw [List.getElem?_eq_getElem this]; simp⟩
theorem checkF_ok {g : Graph} (h0 : 0 ≤ g.root) (h1 : g.root < g.nodes.length) (h2 : g.nodes.length ≤ 1048576) (h3 : ∀ n ∈ g.nodes, mayF n g.nodes.length = true) : zAT g = 0 := by
  unfold zAT
  simp only [Int.ofNat_eq_natCast]
  rw [if_neg (by omega), if_neg (by omega), if_neg (by omega), if_neg]
  simp only [List.any_eq_true, not_exists, not_and]
  intro n hn
  rw [h3 n hn]; simp
/-- Other numbers, and as many. -/
theorem may_map {n : Node} {N M : Int} (h : mayF n N = true) (f : Int → Int) (hf : ∀ a ∈ n.args, 0 ≤ f a ∧ f a < M) : mayF { n with args := n.args.map f } M = true := by
  have h1 : (n.args.map f).any (fun a => decide (a < 0) || decide (a ≥ M)) = false := by
    rw [List.any_eq_false]
    intro a ha
    obtain ⟨b, hb, rfl⟩ := List.mem_map.1 ha
    have := hf b hb
    simp; omega
  unfold mayF at h ⊢
  split at h
  · cases h
  rw [h1]
  simpa using h
theorem sum_sub (f : Int → Nat) : ∀ (l r : List Int), l.Nodup → (∀ x ∈ l, x ∈ r) → (l.map f).sum ≤ (r.map f).sum
  | [], r, _, _ => by simp
  | x :: l, r, hn, hs => by
    have hx := hs x (by simp)
    have hp : r.Perm (x :: r.erase x) := List.perm_cons_erase hx
    obtain ⟨h1, h2⟩ := List.nodup_cons.1 hn
    have ih := sum_sub f l (r.erase x) h2 fun y hy => (List.mem_erase_of_ne (by rintro rfl; exact h1 hy)).2 (hs y (by simp [hy]))
    have := (hp.map f).sum_nat
    simp only [List.map_cons, List.sum_cons] at this ⊢
    omega
def allN (n : Nat) : List Int := (List.range n).map fun (i : Nat) => (i : Int)
theorem mem_allN {n : Nat} {a : Int} : a ∈ allN n ↔ 0 ≤ a ∧ a < n := by
  simp only [allN, List.mem_map, List.mem_range]
  constructor
  · rintro ⟨i, hi, rfl⟩; omega
  · rintro ⟨h1, h2⟩; exact ⟨a.toNat, by omega, by omega⟩
theorem trim_len {g : Graph} (_ : zAT g = 0) : (zAU g).length ≤ g.nodes.length := by
  obtain ⟨h1, h2⟩ := reachF_ok g
  have := sum_sub (fun _ => 1) (zAU g) (allN g.nodes.length) h2 fun x hx => mem_allN.2 (h1 x hx)
  have e : ∀ l : List Int, (l.map fun _ => 1).sum = l.length := fun l => by
    induction l with
    | nil => rfl
    | cons a l ih => simp only [List.map_cons, List.sum_cons, ih, List.length_cons]; omega
  rw [e, e] at this
  simpa [allN] using this
/-- **What is left is the graph itself, but for what isn't reached.** -/
theorem trim_quo {g : Graph} (hc : zAT g = 0) : Quo g (trimF g) (fun a => (toIdx (zAU g) a : Int)) := by
  have hmem := reach_iff hc
  have hnode : ∀ i, Rch g i → zAH (trimF g) (toIdx (zAU g) i : Int) = trimN (zAU g) (zAH g i) := by
    intro i hi
    obtain ⟨h1, h2⟩ := idx_lt ((hmem i).2 hi)
    simp only [zAH, trimF, Int.toNat_natCast, List.getD, List.getElem?_map, h2]
    rfl
  obtain ⟨l, hl⟩ := reach_head hc
  have hroot : toIdx (zAU g) g.root = 0 := by rw [hl, toIdx]; simp
  have hlen : (trimF g).nodes.length = (zAU g).length := by simp [trimF]
  refine ⟨by show (0 : Int) = _; rw [hroot]; rfl, hnode, ?_, ?_, ?_, ?_⟩
  · intro x h0 h1
    rw [hlen] at h1
    have hx : x.toNat < (zAU g).length := by omega
    refine ⟨(zAU g)[x.toNat], (hmem _).1 (List.getElem_mem hx), ?_⟩
    have hm := List.getElem_mem hx
    obtain ⟨h3, h4⟩ := idx_lt hm
    rw [List.getElem?_eq_getElem h3] at h4
    have := (List.getElem_inj (reachF_ok g).2).1 (Option.some.inj h4)
    show ((toIdx (zAU g) (zAU g)[x.toNat] : Nat) : Int) = x
    omega
  · intro i hi
    have := (idx_lt ((hmem i).2 hi)).1
    rw [hlen]; exact ⟨by omega, by omega⟩
  · intro i j hi hj _ he
    have he : ((toIdx (zAU g) i : Nat) : Int) = (toIdx (zAU g) j : Nat) := he
    have h1 := (idx_lt ((hmem i).2 hi)).2
    have h2 := (idx_lt ((hmem j).2 hj)).2
    have : toIdx (zAU g) i = toIdx (zAU g) j := by omega
    rw [this, h2] at h1
    exact (Option.some.inj h1).symm
  · refine checkF_ok (by show (0 : Int) ≤ 0; decide) ?_ ?_ ?_
    · show (0 : Int) < _
      rw [hlen, hl]; simp
    · rw [hlen]
      have := trim_len hc
      have := (check_root hc).2.2.1
      omega
    · intro n hn
      obtain ⟨i, hi, rfl⟩ := List.mem_map.1 hn
      have hri := (hmem i).1 hi
      rw [hlen]
      refine may_map ((check_ns hc).2 _ (node_in (hri.ok hc))) (fun a => (toIdx (zAU g) a : Int)) fun a ha => ?_
      have := (idx_lt ((hmem a).2 (hri.step ha))).1
      exact ⟨by omega, by omega⟩
end Go.Ab.S
end
section
/-
  The least graph is the graph itself, nodes that may be one made one; nothing more of it may be.
-/
namespace Go.Ab.S
open Go.Ab
set_option maxHeartbeats 1000000
/-- Nothing of it may be one that isn't. -/
def Least (L : Graph) : Prop := ∀ E : Int → Int → Prop, (∀ x y, E x y → (0 ≤ x ∧ x < L.nodes.length) ∧ (0 ≤ y ∧ y < L.nodes.length) ∧ (x = y ∨ (cfreeF (zAH L x) = false ∧ cfreeF (zAH L y) = false ∧ (zAH L x).kind = (zAH L y).kind ∧ (zAH L x).name = (zAH L y).name ∧ (zAH L x).labels = (zAH L y).labels ∧ (zAH L x).args.length = (zAH L y).args.length ∧
  ∀ (k : Nat) (a b : Int), (zAH L x).args[k]? = some a → (zAH L y).args[k]? = some b → E a b))) → ∀ x y, E x y → x = y
theorem nodeD_nat (g : Graph) (i : Nat) : zAH g (i : Int) = g.nodes.getD i dNode := rfl
/-- The graph of classes. -/
def clsG (g : Graph) : Graph := ⟨g.nodes.map (mapN (zAM g)), clAt (zAM g) g.root⟩
theorem cls_in {g : Graph} (hc : zAT g = 0) {a : Int} (ha : 0 ≤ a ∧ a < g.nodes.length) : 0 ≤ clAt (zAM g) a ∧ clAt (zAM g) a < g.nodes.length ∧ clAt (zAM g) a ≤ a ∧ clAt (zAM g) (clAt (zAM g) a) = clAt (zAM g) a := by
  obtain ⟨k, rfl⟩ : ∃ k : Nat, a = (k : Int) := ⟨a.toNat, by omega⟩
  obtain ⟨j, h1, h2, h3⟩ := (classes_ok hc).2.le k (by omega)
  rw [h1]
  exact ⟨by omega, by omega, by omega, h3⟩
theorem cls_node {g : Graph} {a : Int} (ha : 0 ≤ a ∧ a < g.nodes.length) : zAH (clsG g) a = mapN (zAM g) (zAH g a) := by
  have hk : a.toNat < g.nodes.length := by omega
  simp only [zAH, clsG, List.getD, List.getElem?_map, List.getElem?_eq_getElem hk]
  rfl
theorem cls_check {g : Graph} (hc : zAT g = 0) : zAT (clsG g) = 0 := by
  obtain ⟨h1, h2, h3, h4⟩ := check_root hc
  have hr := cls_in hc ⟨h1, h2⟩
  have hl : (clsG g).nodes.length = g.nodes.length := by simp [clsG]
  refine checkF_ok hr.1 (by rw [hl]; exact hr.2.1) (by rw [hl]; exact h3) fun n hn => ?_
  obtain ⟨m, hm, rfl⟩ := List.mem_map.1 hn
  rw [hl]
  refine may_map (h4 m hm) (clAt (zAM g)) fun a ha => ?_
  have := cls_in hc (may_args (h4 m hm) a ha)
  exact ⟨this.1, this.2.1⟩
theorem cls_same {g : Graph} (hc : zAT g = 0) {a b : Int} (ha : 0 ≤ a ∧ a < g.nodes.length) (hb : 0 ≤ b ∧ b < g.nodes.length) (he : clAt (zAM g) a = clAt (zAM g) b) :
    ((cfreeF (zAH g a) = true ∨ cfreeF (zAH g b) = true) → a = b) ∧ (zAH g a).kind = (zAH g b).kind ∧ (zAH g a).name = (zAH g b).name ∧ (zAH g a).labels = (zAH g b).labels ∧ (zAH g a).args.map (clAt (zAM g)) = (zAH g b).args.map (clAt (zAM g)) ∧ cfreeF (zAH g a) = cfreeF (zAH g b) := by
  obtain ⟨i, rfl⟩ : ∃ k : Nat, a = (k : Int) := ⟨a.toNat, by omega⟩
  obtain ⟨j, rfl⟩ : ∃ k : Nat, b = (k : Int) := ⟨b.toNat, by omega⟩
  obtain ⟨h1, h2⟩ := classes_alike hc (i := i) (j := j) (by omega) (by omega) he
  exact ⟨fun h => by rw [h1 h], h2⟩
theorem open_of {n : Node} {N : Int} (h : mayF n N = true) : cfreeF n = false → n.isOpen = false := by
  intro hf
  simp only [cfreeF, Bool.or_eq_false_iff] at hf
  exact hf.2
/-- All of a class is alike, its arguments' classes too. -/
theorem cls_mapN {g : Graph} (hc : zAT g = 0) {a b : Int} (ha : 0 ≤ a ∧ a < g.nodes.length) (hb : 0 ≤ b ∧ b < g.nodes.length) (he : clAt (zAM g) a = clAt (zAM g) b) : mapN (zAM g) (zAH g a) = mapN (zAM g) (zAH g b) := by
  obtain ⟨h0, h1, h2, h3, h4, h5⟩ := cls_same hc ha hb he
  by_cases hf : cfreeF (zAH g a) = true
  · rw [h0 (.inl hf)]
  · have hfa : cfreeF (zAH g a) = false := by simpa using hf
    have hfb : cfreeF (zAH g b) = false := by rw [← h5]; exact hfa
    have oa := open_of ((check_ns hc).2 _ (node_in ha)) hfa
    have ob := open_of ((check_ns hc).2 _ (node_in hb)) hfb
    generalize zAH g a = n at *
    generalize zAH g b = m at *
    obtain ⟨k, nm, ar, lb, op⟩ := n
    obtain ⟨k', nm', ar', lb', op'⟩ := m
    simp only at *
    subst h1; subst h2; subst h3; subst oa; subst ob
    simp only [mapN, h4]
theorem cls_rch {g : Graph} (hc : zAT g = 0) {a : Int} (h : Rch g a) : Rch (clsG g) (clAt (zAM g) a) := by
  induction h with
  | root => exact .root
  | @step a b ha hb ih =>
    have hra := ha.ok hc
    have hca := cls_in hc hra
    refine .step ih ?_
    rw [cls_node ⟨hca.1, hca.2.1⟩, cls_mapN hc ⟨hca.1, hca.2.1⟩ hra hca.2.2.2]
    exact List.mem_map.2 ⟨b, hb, rfl⟩
theorem cls_back {g : Graph} (hc : zAT g = 0) {x : Int} (h : Rch (clsG g) x) : ∃ a, Rch g a ∧ clAt (zAM g) a = x := by
  induction h with
  | root => exact ⟨_, .root, rfl⟩
  | @step x y hx hy ih =>
    obtain ⟨a, ha, rfl⟩ := ih
    have hra := ha.ok hc
    have hca := cls_in hc hra
    rw [cls_node ⟨hca.1, hca.2.1⟩, cls_mapN hc ⟨hca.1, hca.2.1⟩ hra hca.2.2.2] at hy
    obtain ⟨b, hb, rfl⟩ := List.mem_map.1 hy
    exact ⟨b, ha.step hb, rfl⟩
def qL (g : Graph) (a : Int) : Int := (toIdx (zAU (clsG g)) (clAt (zAM g) a) : Nat)
theorem leastF_eq {g : Graph} (hc : zAT g = 0) : leastF g = trimF (clsG g) := by rw [leastF, if_pos hc]; rfl
/-- **The least graph.** -/
theorem least_quo {g : Graph} (hc : zAT g = 0) : Quo g (leastF g) (qL g) := by
  have T := trim_quo (cls_check hc)
  rw [leastF_eq hc]
  refine ⟨T.root, fun i hi => ?_, fun x h0 h1 => ?_, fun i hi => T.range _ (cls_rch hc hi), fun i j hi hj hf he => ?_, T.check⟩
  · have hri := hi.ok hc
    have hci := cls_in hc hri
    have := T.node _ (cls_rch hc hi)
    rw [cls_node ⟨hci.1, hci.2.1⟩, cls_mapN hc ⟨hci.1, hci.2.1⟩ hri hci.2.2.2] at this
    refine Eq.trans this ?_
    simp only [mapN, List.map_map]
    rfl
  · obtain ⟨y, hy, rfl⟩ := T.surj x h0 h1
    obtain ⟨a, ha, rfl⟩ := cls_back hc hy
    exact ⟨a, ha, rfl⟩
  · have hri := hi.ok hc
    have hrj := hj.ok hc
    have h1 := (idx_lt ((reach_iff (cls_check hc) _).2 (cls_rch hc hi))).2
    have h2 := (idx_lt ((reach_iff (cls_check hc) _).2 (cls_rch hc hj))).2
    have he : ((toIdx (zAU (clsG g)) (clAt (zAM g) i) : Nat) : Int) = (toIdx (zAU (clsG g)) (clAt (zAM g) j) : Nat) := he
    have he' : toIdx (zAU (clsG g)) (clAt (zAM g) i) = toIdx (zAU (clsG g)) (clAt (zAM g) j) := by omega
    rw [he', h2] at h1
    exact (cls_same hc hri hrj (Option.some.inj h1).symm).1 (.inl hf)
theorem qL_inj {g : Graph} (hc : zAT g = 0) {i j : Int} (hi : Rch g i) (hj : Rch g j) (he : qL g i = qL g j) : clAt (zAM g) i = clAt (zAM g) j := by
  have h1 := (idx_lt ((reach_iff (cls_check hc) _).2 (cls_rch hc hi))).2
  have h2 := (idx_lt ((reach_iff (cls_check hc) _).2 (cls_rch hc hj))).2
  have he : ((toIdx (zAU (clsG g)) (clAt (zAM g) i) : Nat) : Int) = (toIdx (zAU (clsG g)) (clAt (zAM g) j) : Nat) := he
  have he' : toIdx (zAU (clsG g)) (clAt (zAM g) i) = toIdx (zAU (clsG g)) (clAt (zAM g) j) := by omega
  rw [he', h2] at h1
  exact (Option.some.inj h1).symm
/-- **Nothing of the least graph may be one that isn't.** -/
theorem least_least {g : Graph} (hc : zAT g = 0) : Least (leastF g) := by
  have Q := least_quo hc
  intro E hE x y hxy
  obtain ⟨⟨x0, x1⟩, ⟨y0, y1⟩, _⟩ := hE x y hxy
  obtain ⟨i, hi, rfl⟩ := Q.surj x x0 x1
  obtain ⟨j, hj, rfl⟩ := Q.surj y y0 y1
  have key : clAt (zAM g) ((i.toNat : Nat) : Int) = clAt (zAM g) ((j.toNat : Nat) : Int) := by
    refine classes_most (E := fun a b => Rch g (a : Int) ∧ Rch g (b : Int) ∧ (qL g (a : Int) = qL g (b : Int) ∨ E (qL g (a : Int)) (qL g (b : Int)))) ?_ ?_
    · rintro a b ⟨ha, hb, hab⟩
      have hra := ha.ok hc
      have hrb := hb.ok hc
      refine ⟨by omega, by omega, ?_⟩
      have h := show _ ∨ _ from (by
        rcases hab with h | h
        · exact .inl h
        · exact (hE _ _ h).2.2)
      have na := Q.node _ ha
      have nb := Q.node _ hb
      rw [← nodeD_nat, ← nodeD_nat]
      by_cases hf : cfreeF (zAH g (a : Int)) = true
      · refine .inl ?_
        rcases h with h | ⟨h, _⟩
        · have := Q.inj _ _ ha hb hf h; omega
        · rw [na] at h
          have : cfreeF (zAH g (a : Int)) = false := h
          rw [hf] at this; cases this
      by_cases hf' : cfreeF (zAH g (b : Int)) = true
      · refine .inl ?_
        rcases h with h | ⟨_, h, _⟩
        · have := Q.inj _ _ hb ha hf' h.symm; omega
        · rw [nb] at h
          have : cfreeF (zAH g (b : Int)) = false := h
          rw [hf'] at this; cases this
      refine .inr ⟨by simpa using hf, by simpa using hf', ?_⟩
      have hsame : (zAH g (a : Int)).kind = (zAH g (b : Int)).kind ∧ (zAH g (a : Int)).name = (zAH g (b : Int)).name ∧ (zAH g (a : Int)).labels = (zAH g (b : Int)).labels ∧ (zAH g (a : Int)).args.length = (zAH g (b : Int)).args.length ∧
          ∀ (k : Nat) (c d : Int), (zAH g (a : Int)).args[k]? = some c → (zAH g (b : Int)).args[k]? = some d → (qL g c = qL g d ∨ E (qL g c) (qL g d)) := by
        rcases h with h | ⟨_, _, h1, h2, h3, h4, h5⟩
        · rw [h] at na
          rw [na] at nb
          have e0 := congrArg Node.kind nb
          have e1' := congrArg Node.name nb
          have e2' := congrArg Node.labels nb
          have e3' := congrArg Node.args nb
          simp only at e0 e1' e2' e3'
          refine ⟨e0, e1', e2', by simpa using congrArg List.length e3', fun k c d hcc hdd => ?_⟩
          have := congrArg (fun l => l[k]?) e3'
          simp only [List.getElem?_map, hcc, hdd, Option.map_some, Option.some.injEq] at this
          exact .inl this
        · rw [na, nb] at h1 h2 h3 h4 h5
          simp only at h1 h2 h3 h4 h5
          refine ⟨h1, h2, h3, by simpa using h4, fun k c d hcc hdd => ?_⟩
          exact .inr <| h5 k _ _ (by rw [List.getElem?_map, hcc]; rfl) (by rw [List.getElem?_map, hdd]; rfl)
      obtain ⟨h1, h2, h3, h4, h5⟩ := hsame
      refine ⟨h1, h2, h3, h4, fun k c d hcc hdd => ?_⟩
      have hc1 := ha.step (List.mem_of_getElem? hcc)
      have hd1 := hb.step (List.mem_of_getElem? hdd)
      have hc2 := hc1.ok hc
      have hd2 := hd1.ok hc
      have e1' : ((c.toNat : Nat) : Int) = c := by omega
      have e2' : ((d.toNat : Nat) : Int) = d := by omega
      show Rch g ((c.toNat : Nat) : Int) ∧ Rch g ((d.toNat : Nat) : Int) ∧ (qL g ((c.toNat : Nat) : Int) = qL g ((d.toNat : Nat) : Int) ∨ E (qL g ((c.toNat : Nat) : Int)) (qL g ((d.toNat : Nat) : Int)))
      rw [e1', e2']
      exact ⟨hc1, hd1, h5 k c d hcc hdd⟩
    · have e1' : ((i.toNat : Nat) : Int) = i := by have := hi.ok hc; omega
      have e2' : ((j.toNat : Nat) : Int) = j := by have := hj.ok hc; omega
      rw [e1', e2']
      exact ⟨hi, hj, .inr hxy⟩
  have e1' : ((i.toNat : Nat) : Int) = i := by have := hi.ok hc; omega
  have e2' : ((j.toNat : Nat) : Int) = j := by have := hj.ok hc; omega
  rw [e1', e2'] at key
  show ((toIdx (zAU (clsG g)) (clAt (zAM g) i) : Nat) : Int) = (toIdx (zAU (clsG g)) (clAt (zAM g) j) : Nat)
  rw [key]
end Go.Ab.S
end
section
/-
  What is left is small if what was there is.
-/
namespace Go.Ab.S
open Go.Ab
set_option maxHeartbeats 1000000
theorem leftG_sum : ∀ (ns : List Node) (i : Nat), leftG [] ns i = (ns.map fun n => n.args.length).sum
  | [], _ => rfl
  | n :: r, i => by simp only [leftG, List.map_cons, List.sum_cons, leftG_sum r (i + 1)]; simp
theorem all_nodes (g : Graph) : (allN g.nodes.length).map (zAH g) = g.nodes := by
  apply List.ext_getElem?
  intro i
  simp only [allN, List.map_map, List.getElem?_map]
  by_cases hi : i < g.nodes.length
  · rw [List.getElem?_range hi]; simp [zAH, hi]
  · rw [List.getElem?_eq_none (by simpa using hi), List.getElem?_eq_none (by simpa using hi)]; rfl
theorem trim_tiny {g : Graph} (hg : GTi g) (hc : zAT g = 0) : GTi (trimF g) := by
  have hlen : (trimF g).nodes.length = (zAU g).length := by simp [trimF]
  have hl := trim_len hc
  have hsum : leftG [] (trimF g).nodes 0 ≤ leftG [] g.nodes 0 := by
    obtain ⟨h1, h2⟩ := reachF_ok g
    have := sum_sub (fun a => (zAH g a).args.length) (zAU g) (allN g.nodes.length) h2 fun x hx => mem_allN.2 (h1 x hx)
    rw [leftG_sum, leftG_sum]
    have e : (g.nodes.map fun n => n.args.length) = (allN g.nodes.length).map fun a => (zAH g a).args.length := by
      conv => lhs; rw [← all_nodes g]
      rw [List.map_map]; rfl
    rw [e]
    simp only [trimF, List.map_map]
    have e2 : ((fun n : Node => n.args.length) ∘ fun i => trimN (zAU g) (zAH g i)) = fun a => (zAH g a).args.length := by
      funext a; simp [trimN]
    rw [e2]; exact this
  have hin : ∀ n ∈ (trimF g).nodes, ∃ m ∈ g.nodes, n.args.length = m.args.length ∧ n.labels = m.labels := by
    intro n hn
    obtain ⟨i, hi, rfl⟩ := List.mem_map.1 hn
    exact ⟨_, node_in ((reachF_ok g).1 i hi), by simp [trimN], rfl⟩
  have ht := hg.tiny
  have hto := hg.total
  refine ⟨⟨⟨by rw [hlen]; have := hg.nodes; omega, fun n hn => ?_⟩, by rw [hlen]; omega, fun n hn => ?_⟩, by rw [hlen]; omega⟩
  · obtain ⟨m, hm, h1, h2⟩ := hin n hn
    have := hg.all m hm
    exact ⟨by rw [h1]; exact this.args, by rw [h2]; exact this.labels, by rw [h2]; exact this.texts⟩
  · obtain ⟨m, hm, h1, h2⟩ := hin n hn
    rw [h2]; exact hg.labs m hm
theorem least_tiny {g : Graph} (hg : GTi g) (hc : zAT g = 0) : GTi (leastF g) := by
  rw [leastF_eq hc]
  exact trim_tiny (hg.map _ _) (cls_check hc)
end Go.Ab.S
end
