import Derived.Test.YtpmndmiohaaokaaGreatDoorP11
import Derived.Test.YtpmndmiohaaokaaGreatDoorP13
import Derived.Test.YtpmndmiohaaokaaGreatDoorP14
import Derived.Test.YtpmndmiohaaokaaGreatDoorP16
import Derived.Test.YtpmndmiohaaokaaGreatDoorP18
/-
  Part 19 of the proof.
-/
set_option linter.all false
section
namespace Go.Ab.S
open Go Go.Ab
set_option maxHeartbeats 8000000
structure HasAs (summ : SumT) : Prop where
 no : ∀ x h, summ 26 [.nilIface, x] h = some (.ret (.bool false, h))
 yes : ∀ r h bw vw, WF h -> ErrAt h r -> h.objs.get bw = some (vw, .cells false 57 [.ptr none]) -> ∃ p, summ 26 [r, .iface 62 (.ptr (some (bw, 0)))] h = some (.ret (.bool true, zAd h bw (.cells false 57 [.ptr p])))
def PrsAt (h : AHeap) (v : AVal) (ps : List Pr) : Prop := SlAt h 2 v (ps.map zCb)
theorem PrsAt.at {h : AHeap} {v : AVal} {ps : List Pr} (k : PrsAt h v ps) {i : Nat} {p : Pr} (hc : ps[i]? = some p) :
  ∃ b o ver ro e vs, slA v 2 i = some (b, o) /\ h.objs.get b = some (ver, .cells ro e vs) /\ (vs.drop o).take 2 = zCb p := by
 obtain ⟨_, b, o, ver, ro, e, vs, h1, h2, h3⟩ := k.2 i (zCb p) (by rw [List.getElem?_map, hc]; rfl)
 exact ⟨b, o, ver, ro, e, vs, h1, h2, h3⟩
def zFB (g : Graph) (p : Pr) : Bool := decide (0 <= p.1 /\ 0 <= p.2 /\ p.1 < g.nodes.length /\ p.2 < g.nodes.length)
section
variable {fns : FnsT} {summ : SumT}
variable (H : Has fns summ)
include H
theorem ClonePr_ok (l : List Pr) (hl : l.length <= 2 ^ 20) (v : AVal) (h : AHeap) (hw : WF h) (hv : PrsAt h v l) : Cl fns summ 25 [v] h fun r h' => Built h' h.next 40 2 r l.reverse.length (rowC l.reverse) /\ Grow h h' := by
 have hrow : rowC l.reverse = (l.map zCb).flatten := by rw [rowC, List.reverse_reverse]
 rw [hrow, List.length_reverse]
 clear hrow
 refine H.go (fn := F_ClonePr) rfl (by decide) rfl rfl ?_
 unfold F_ClonePr
 dsimp only [qQ, qE, qN, gQ, gE, vi, tm, mt, lo, fa]
 by_cases hnil : v = .slice none (l.map zCb).length
 ·have hl0 : l = [] := by
   cases l with
   | nil => rfl
   | cons a r =>
    obtain ⟨_, b, o, ver, ro, e, vs, h1, _⟩ := hv.2 0 (zCb a) rfl
    rw [hnil] at h1; cases h1
  subst hl0
  subst hnil
  repeat' with_reducible first | refine zAA ?_ | refine zAa ?_ | refine zAC ?_ | refine zAE ?_ | refine zAD ?_ | refine zAO ?_ | (apply st_q; exact q1) | (apply zAJ; exact e1) | (apply zAI; exact n1; exact r1)
  exact ⟨.inl ⟨rfl, rfl, rfl⟩, Grow.refl hw⟩
 ·have heq : eqA .slice v (.slice none 0) = some false := by
   rcases zGx hv.1 with h1 | ⟨b, o, rfl⟩ | ⟨rfl, _⟩ | ⟨rfl, _⟩
   ·exact absurd h1 hnil
   ·rfl
   ·rfl
   ·rfl
  have hroom := zDU H (b := 16) (k := l.length) (by decide) (by omega)
  repeat with_reducible first | refine zAA ?_ | refine zAC ?_ | refine zAE ?_ | refine zAD ?_ | (apply st_q; exact q1)
  refine st_q (v := .bool false) (b := none) (by simp only [zDc, zBE, zCA, zBV, Nat.reduceEqDiff, if_true, if_false, heq]; rfl) ?_
  repeat with_reducible first | refine zAA ?_ | refine zAC ?_ | refine zAE ?_ | refine zAD ?_ | refine zAT ?_ | (apply zAL; exact e1)
  refine st_T (by exact tE) (by exact t1) ?_
  repeat with_reducible (apply st_q; exact q1)
  refine zGK (by exact e1) (by exact e1) hv (by decide) (.inl hnil) (by rw [List.all_flatten, List.all_eq_true]; intro x hx; obtain ⟨p, _, rfl⟩ := List.mem_map.1 hx; rfl) (by simpa using hroom) hw ?_
  intro r h' B g
  rw [List.length_map] at B
  repeat' with_reducible first | refine zAA ?_ | refine zAC ?_ | refine zAO ?_ | (apply st_q; exact q1) | (apply zAI; exact n1; exact r1)
  exact ⟨B, g⟩
end
section
variable {fns : FnsT} {summ : SumT}
variable (H : Has fns summ) (HS : HasSort summ) (HA : HasAs summ)
include H HS HA
theorem Unify_ok (g : Graph) (hg : GTi g) (ps : List Pr) (hps : ps.length <= 2 ^ 20) (hL : zAk [] g.nodes 0 <= 2 ^ 20) (hsm : (g.nodes.length + 1) * (zAk [] g.nodes 0 + 1) + ps.length <= 2 ^ 30) {gv pv : AVal} {h0 : AHeap} (w0 : WF h0) (hv : GraphAt h0 gv g) (hpv : PrsAt h0 pv ps) :
  Cl fns summ 12 [gv, pv] h0 fun r h' => Grow h0 h' /\ ∃ uv rv code, r = .tuple [uv, rv, .int .i64 code] /\ (code ≠ 0 -> uv = .agg [.slice none 0, .int .i64 0] /\ rv = .slice none 0) /\ ((code = zAF g /\ code ≠ 0) \/ (zAF g = 0 /\ code = 2 /\ ∃ p ∈ ps, zFB g p = false) \/ (zAF g = 0 /\ code = 8 /\ (∀ p ∈ ps, zFB g p = true) /\ ¬ Consi g ps) \/ (zAF g = 0 /\ code = 0 /\ (∀ p ∈ ps, zFB g p = true) /\ ∃ U R, UOut g ps U R /\ OwnG h' h0.next uv U /\ Built h' h0.next 3 1 rv R.length (R.map (AVal.int .i64)))) := by
 obtain ⟨nv, rfl, hN⟩ := hv
 have hlen := hN.len
 have hlp := hpv.1
 rw [List.length_map] at hlp
 have hpart : zBC (some 2) [nv, .int .i64 g.root] 0 = some (.agg [nv, .int .i64 g.root]) := rfl
 refine H.go (fn := F_SUnify) rfl (by decide) rfl rfl ?_
 unfold F_SUnify
 dsimp only [qQ, qE, qN, gQ, gE, vi, tm, mt, lo, fa]
 refine zAE (zAD ?_)
 refine zBL (by exact e1) (by exact cc) w0 ?_
 rintro b2 h2 hb2 g2 o2
 refine zAY g2.wf ?_
 rintro b4 h4 hb4 g4 o4
 replace o2 := g4.keep _ _ o2
 have g04 := g2.trans g4
 have n2 := g2.next
 repeat with_reducible first | refine zAA ?_ | refine zAC ?_ | refine zAE ?_ | refine zAD ?_ | (apply st_q; exact q1)
 refine zAb (by exact s1) ((Check_ok H g hg.toGraphSm _ h4 g4.wf ⟨nv, rfl, hN.mono g04⟩).mono ?_)
 rintro _ h5 ⟨rfl, g5⟩
 replace o2 := g5.keep _ _ o2
 replace o4 := g5.keep _ _ o4
 have g05 := g04.trans g5
 cases hck : (zAF g != 0)
 ·have hcg : zAF g = 0 := by simpa using hck
  replace hcg := Hid.mk hcg
  repeat with_reducible first | refine zAA ?_ | refine zAC ?_ | refine zAE ?_ | refine zAD ?_ | refine zAT ?_ | (apply st_q; exact q1) | (apply zAL; exact e1)
  have ht2 : ∀ x y : AVal, List.take 2 [x, y] = [x, y] := fun _ _ => rfl
  refine zAz (N := ps.length) (by omega) (fun j a hp => Grow h0 hp /\ (∃ v, hp.objs.get b2 = some (v, .cells false 24 [nv, .int .i64 g.root])) /\ (∃ v, hp.objs.get b4 = some (v, .cells false 24 [.slice none 0, .int .i64 0])) /\ Hid (∀ p ∈ ps.take j, zFB g p = true) /\ a.defers = [] /\ ev a (.tmp 1) = some pv /\ ev a (.tmp 2) = some (.ptr (some (b2, 0))) /\ ev a (.tmp 4) = some (.ptr (some (b4, 0))) /\ ev a (.tmp 26) = some pv)
   (by rintro j a hp t w (rfl | rfl | rfl) ⟨m1, m2, m3, m4, m5, m6, m7, m8, m9⟩ <;> exact ⟨m1, m2, m3, m4, by rw [zAc]; exact m5, by exact e1, by exact e1, by exact e1, by exact e1⟩) (by decide) ?_ ?_ ⟨g05, ⟨_, o2⟩, ⟨_, o4⟩, ⟨fun p hp => by simp at hp⟩, by exact n1, by exact e1, by exact e1, by exact e1, by exact e1⟩ (by exact e1) (by exact e1)
  ·clear o2 o4 g2 g4 g5 g04 g05
   rintro j a hp hj ⟨G, ⟨v2, o2⟩, ⟨v4, o4⟩, hok, hd, t1', t2', t4', t26'⟩ hi hn
   obtain ⟨bp, op, vp, rp, ep, vsp, hix, hgp0, hvp⟩ := hpv.at (List.getElem?_eq_getElem hj)
   have hgp := G.keep _ _ hgp0
   have hl2 : op + 2 <= vsp.length := by
    have := congrArg List.length hvp
    simp [zCb] at this; omega
   have hpc : zCb ps[j] = [.int .i64 ps[j].1, .int .i64 ps[j].2] := rfl
   rw [hpc] at hvp
   have hb42 : h0.next <= b4 := by have := hb4; have := n2; omega
   have hrng : decide ((if ps[j].2 < ps[j].1 then ps[j].2 else ps[j].1) < 0) = false -> decide ((if ps[j].2 > ps[j].1 then ps[j].2 else ps[j].1) >= Int.ofNat g.nodes.length) = false -> zFB g ps[j] = true := fun h1 h2 => by
    simp only [decide_eq_false_iff_not, Int.ofNat_eq_natCast] at h1 h2
    simp only [zFB, decide_eq_true_eq]
    split at h1 <;> split at h2 <;> omega
   have hbad1 : decide ((if ps[j].2 < ps[j].1 then ps[j].2 else ps[j].1) < 0) = true -> zFB g ps[j] = false := fun h1 => by
    simp only [decide_eq_true_eq] at h1
    simp only [zFB, decide_eq_false_iff_not]
    split at h1 <;> omega
   have hbad2 : decide ((if ps[j].2 > ps[j].1 then ps[j].2 else ps[j].1) >= Int.ofNat g.nodes.length) = true -> zFB g ps[j] = false := fun h1 => by
    simp only [decide_eq_true_eq, Int.ofNat_eq_natCast] at h1
    simp only [zFB, decide_eq_false_iff_not]
    split at h1 <;> omega
   replace hrng := Hid.mk hrng
   replace hbad1 := Hid.mk hbad1
   replace hbad2 := Hid.mk hbad2
   repeat with_reducible first | refine zAE ?_ | refine zAD ?_ | refine zAP ?_ | (apply st_q; exact q1)
   refine zAY G.wf ?_
   rintro b9 h6 hb9 g6 o9
   refine zAG (by exact e1) (by exact e1) (by exact cc) rfl g6.wf o9 (by simp) rfl ?_
   rintro v7 h7 p7 o9'
   simp only [zlY, zlA, zlC, zlN, zlD, zlZ, zlE, Nat.zero_add, Nat.reduceAdd, zlX, zlK] at o9'
   have g7 : Grow hp h7 := p7.grow hp G.wf g6 hb9
   have o27 := g7.keep _ _ o2
   have o47 := g7.keep _ _ o4
   have G7 := G.trans g7
   clear o9 g6 p7 hgp hix hgp0 hvp o2 o4
   repeat with_reducible first | refine zAA ?_ | refine zAC ?_ | refine zAE ?_ | refine zAD ?_
   refine st_q (v := .ptr (some (b9, 0))) (b := none) (by rw [zBI]; simp only [zBE, zBS, zBV, Nat.reduceEqDiff, if_true, if_false]; rfl) ?_
   repeat with_reducible (apply st_q; exact q1)
   refine st_q (v := .ptr (some (b9, 1))) (b := none) (by rw [zBI]; simp only [zBE, zBS, zBV, Nat.reduceEqDiff, if_true, if_false]; rfl) ?_
   repeat with_reducible (apply st_q; exact q1)
   cases hz : decide ((if ps[j].2 < ps[j].1 then ps[j].2 else ps[j].1) < 0)
   ·have hz' := Hid.mk hz
    clear hz
    refine zBW (by exact e1) (v := .ptr (some (b9, 0))) (b := none) (by rw [zBI]; simp only [zBE, zBS, zBV, Nat.reduceEqDiff, if_true, if_false]; rfl) ?_
    repeat with_reducible (apply zBW; exact e1; exact q1)
    refine zBW (by exact e1) (v := .ptr (some (b9, 1))) (b := none) (by rw [zBI]; simp only [zBE, zBS, zBV, Nat.reduceEqDiff, if_true, if_false]; rfl) ?_
    repeat with_reducible first | refine zAA ?_ | refine zAC ?_ | (apply st_q; exact q1) | (apply zBW; exact e1; exact q1)
    cases hy : decide ((if ps[j].2 > ps[j].1 then ps[j].2 else ps[j].1) >= Int.ofNat g.nodes.length)
    ·have hok' : Hid (∀ p ∈ ps.take (j + 1), zFB g p = true) := ⟨fun p hp => by
      rw [List.take_succ_eq_append_getElem hj] at hp
      rcases List.mem_append.1 hp with hp | hp
      ·exact hok.out p hp
      ·rw [List.mem_singleton.1 hp]
       exact (hrng.out hz'.out hy)⟩
     clear hy
     repeat with_reducible first | refine zAA ?_ | refine zAQ ?_ | refine zAT ?_ | (apply zAL; exact e1)
     exact ⟨⟨G7, ⟨_, o27⟩, ⟨_, o47⟩, hok', by exact n1, by exact e1, by exact e1, by exact e1, by exact e1⟩, by exact e1, by exact e1⟩
    ·have hbad : Hid (∃ p ∈ ps, zFB g p = false) := ⟨_, List.getElem_mem hj, hbad2.out hy⟩
     clear hy
     repeat with_reducible first | refine zAE ?_ | refine zAD ?_ | (apply st_q; exact q1) | (apply zAJ; exact e1)
     refine zAG (by exact e1) (by exact e1) (by exact cc) rfl G7.wf o47 (by simp) rfl ?_
     rintro v8 h8 p8 o8
     simp only [zlY, zlA, zlC, zlN, zlD, zlZ, zlE, Nat.zero_add, Nat.reduceAdd, zlX, zlK] at o8
     have g8 := p8.grow h0 w0 G7 (by omega)
     clear o27 o47 p8
     repeat' with_reducible first | refine zAA ?_ | refine zAa ?_ | refine zBP ?_ | refine zAC ?_ | refine zAO ?_ | (apply st_q; exact q1) | (apply zAI; exact n1; exact r1)
     exact ⟨g8, _, _, 2, rfl, fun _ => ⟨rfl, rfl⟩, .inr (.inl ⟨hcg.out, rfl, hbad.out⟩)⟩
   ·have hbad : Hid (∃ p ∈ ps, zFB g p = false) := ⟨_, List.getElem_mem hj, hbad1.out hz⟩
    clear hz
    repeat with_reducible first | refine zAA ?_ | refine zAC ?_ | refine zAE ?_ | refine zAD ?_ | (apply st_q; exact q1) | (apply zDV; exact e1) | (apply zAJ; exact e1)
    refine zAG (by exact e1) (by exact e1) (by exact cc) rfl G7.wf o47 (by simp) rfl ?_
    rintro v8 h8 p8 o8
    simp only [zlY, zlA, zlC, zlN, zlD, zlZ, zlE, Nat.zero_add, Nat.reduceAdd, zlX, zlK] at o8
    have g8 := p8.grow h0 w0 G7 (by omega)
    clear o27 o47 p8
    repeat' with_reducible first | refine zAA ?_ | refine zAa ?_ | refine zBP ?_ | refine zAC ?_ | refine zAO ?_ | (apply st_q; exact q1) | (apply zAI; exact n1; exact r1)
    exact ⟨g8, _, _, 2, rfl, fun _ => ⟨rfl, rfl⟩, .inr (.inl ⟨hcg.out, rfl, hbad.out⟩)⟩
  ·clear o2 o4 g2 g4 g5
   rintro a hp ⟨G, ⟨v2, o2⟩, ⟨v4, o4⟩, hok, hd, t1', t2', t4', t26'⟩
   rw [List.take_length] at hok
   have o2p := Hid.mk o2
   have o4p := Hid.mk o4
   refine zAA ?_
   repeat with_reducible first | refine zAE ?_ | refine zAD ?_ | (apply st_q; exact q1)
   refine zAb (by exact s1) ((start_ok H g hg hcg.out _ hp G.wf ⟨nv, rfl, hN.mono G⟩).mono ?_)
   rintro _ h6 ⟨bs, rfl, SI⟩
   have k2 := SI.grow.keep _ _ o2
   have k4 := SI.grow.keep _ _ o4
   have g6 := SI.grow
   clear o2 o4
   skip
   refine zAY g6.wf ?_
   rintro b10 h7 hb10 g7 o10
   refine zAG (by exact e1) (by exact e1) (by exact cc) rfl g7.wf o10 (by simp) rfl ?_
   rintro v8 h8 p8 o10'
   simp only [zlY, zlA, zlC, zlN, zlD, zlZ, zlE, Nat.zero_add, Nat.reduceAdd, zlX, zlK] at o10'
   have g68 : Grow h6 h8 := p8.grow h6 g6.wf g7 hb10
   have k28 := g68.keep _ _ k2
   have k48 := g68.keep _ _ k4
   have hnN : 0 < g.nodes.length := by
    have h1 := (zAZ hcg.out).1
    have h2 := (zAZ hcg.out).2.1
    omega
   obtain ⟨bo, br, bh, hc, SX0⟩ := SI.sx hnN
   have SX8 := SX0.other g68
   have lows := SX0.low
   have lts := SX0.lt
   clear SI SX0 k2 k4 o10 p8 g7
   repeat with_reducible first | refine zAA ?_ | refine zAC ?_ | refine zAE ?_ | refine zBQ ?_ | (apply dr_q; exact q1) | (apply zCs; exact q1; exact og1)
   refine zBD (zAb (by exact s1) ((ClonePr_ok H ps hps pv h8 g68.wf (hpv.mono (G.trans (g6.trans g68)))).mono ?_))
   rintro rv h9 ⟨Bps, g9⟩
   have o109 := g9.keep _ _ o10'
   refine zAC ⟨by simp [zAf, Nat.testBit, o109], ?_⟩
   have S9 := SX8.other g9
   obtain ⟨vs9, os9⟩ := S9.s
   have rlen := Bps.len
   have n6 := g6.next
   have n8 := g68.next
   have B9 := zBG Bps (b' := hp.next) (by omega)
   have k29 := g9.keep _ _ k28
   have k49 := g9.keep _ _ k48
   have w9 := g9.wf
   have lk2 := G.wf.lt o2p.out
   clear k28 k48 o10' Bps SX8
   repeat with_reducible (apply dr_q; exact q1)
   refine zBD (zAG (by exact e1) (by exact e1) (zAg rlen) rfl w9 os9 (by simp) (by simp only [List.all_cons, List.all_nil, zAR rlen, Bool.and_true]) ?_)
   rintro v10 h10 p10 o11
   refine zAC ⟨by simp [zAf, Nat.testBit], ?_⟩
   simp only [zlT, zlY, zlA, zlC, zlN, zlD, zlZ, zlE, Nat.zero_add, Nat.reduceAdd, zlX, zlK] at o11
   have S10 := S9.pop G.wf p10 o11 (zAS B9 p10 os9 (fun vs hh => by cases hh))
   have lk4 := G.wf.lt (show hp.objs.get b4 = _ from o4p.out)
   have o1010 := p10.keep b10 (by omega) _ o109
   have k210 := p10.keep b2 (by omega) _ k29
   have k410 := p10.keep b4 (by omega) _ k49
   have w10 := p10.wf w9
   have n9 := g9.next
   have n10 := p10.next
   clear o109 k29 k49 os9 S9 o11 p10 B9 g9 g68
   repeat with_reducible first | refine zAA ?_ | refine zAE ?_ | refine zAD ?_ | refine zBz ?_
   refine zAY w10 ?_
   rintro b11 h11 hb11 g11 o11
   have o1011 := g11.keep _ _ o1010
   have k211 := g11.keep _ _ k210
   have k411 := g11.keep _ _ k410
   have hInG : ∀ p ∈ ps, InG g p.1 /\ InG g p.2 := fun p hp => by
    have := hok.out p hp
    simp only [zFB, decide_eq_true_eq] at this
    exact ⟨⟨this.1, this.2.2.1⟩, this.2.1, this.2.2.2⟩
   have U0 : Sol g ps hp bs bo br bh (zGS g.nodes.length) (List.replicate g.nodes.length 0) id (fun r => zFx (zAB g r)) ps.reverse 0 rv hc h11 :=
    ⟨S10.other g11, UF.start _, (UInv.start hcg.out hInG).perm fun p => List.mem_reverse, by rw [Nat.zero_add]; exact zIH _⟩
   have hrun := Hid.mk (run_ok H g ps hcg.out G.wf U0 (by
    rw [List.length_reverse]
    have h1 := Nat.mul_le_mul_right (zAk [] g.nodes 0 + 1) (zIH g.nodes.length)
    rw [Nat.succ_mul] at hsm
    omega))
   have n11 := g11.next
   clear U0 S10 hInG o1010 k210 k410 g11
   repeat with_reducible first | refine zAA ?_ | refine zAC ?_ | refine zAE ?_ | refine zAD ?_ | (apply st_q; exact q1)
   refine zAb (by exact s1) (hrun.out.mono ?_)
   rintro r h12 ⟨G12, ky12, hres⟩
   have k1012 := ky12 _ _ _ _ _ (by decide) o1011
   have k212 := ky12 _ _ _ _ _ (by decide) k211
   have k412 := ky12 _ _ _ _ _ (by decide) k411
   have k1112 := ky12 _ _ _ _ _ (by decide) o11
   have G012 := G.trans G12
   replace hres := Hid.mk hres
   clear ky12 o1011 k211 k411 o11 hrun
   repeat with_reducible (apply st_q; exact q1)
   have lt12 := G12.next
   rcases hres.out with ⟨rfl, on, rk, rt, has, K, wv, hc', SO⟩ | ⟨hE, hnc⟩
   ·have hno := HA.no (.iface 62 (.ptr (some (b11, 0)))) h12
    have SO' := Hid.mk SO
    have k1012p := Hid.mk k1012
    have k212p := Hid.mk k212
    have k412p := Hid.mk k412
    clear SO hres k1112
    refine zAb (by exact s1) (zDh hno ?_)
    rw [D.sat_ret]
    dsimp only
    clear hno
    repeat with_reducible first | refine zAA ?_ | refine zAC ?_ | refine zAE ?_ | refine zAD ?_ | refine zAT ?_ | (apply zAL; exact e1)
    refine zFf (.inl rfl) G012.wf ?_
    rintro rm h13 hrm g13 om
    refine zAY g13.wf ?_
    rintro b12 h14 hb12 g14 o12
    refine zAG (by exact e1) (by exact e1) (by exact cc) rfl g14.wf o12 (by simp) rfl ?_
    rintro v15 h15 p15 o15
    simp only [zlY, zlA, zlC, zlN, zlD, zlZ, zlE, Nat.zero_add, Nat.reduceAdd, zlX, zlK] at o15
    have g15 : Grow h13 h15 := p15.grow h13 g13.wf g14 hb12
    have g125 := g13.trans g15
    have om15 := g15.keep _ _ om
    have k1015 := g125.keep _ _ k1012
    have k215 := g125.keep _ _ k212
    have k415 := g125.keep _ _ k412
    have S15 := Hid.mk (SO'.out.sx.other g125)
    have G15 := G012.trans g125
    have lrm := g15.wf.lt om15
    have g125n := g125.next
    have lrm13 := g13.wf.lt om
    have hNt : g.nodes.length <= 4096 := hg.tinyN
    clear o12 p15 om g13 g14 g15 k1012 k212 k412
    repeat with_reducible first | refine zAA ?_ | refine zAC ?_ | refine zAE ?_ | refine zAD ?_ | (apply st_q; exact q1)
    have hro15 := S15.out.on
    have hbne := S15.out.bne
    have K15 : Hid (KM bo rm g.nodes.length K rk rt h15 h15) := ⟨KM.refl G15.wf hro15 SO'.out.uf⟩
    obtain ⟨vs15, os15⟩ := S15.out.s
    have lts15 := SO'.out.sx.lt
    have l10 := G012.wf.lt (show h12.objs.get b10 = _ from k1012p.out)
    have l2 := G012.wf.lt (show h12.objs.get b2 = _ from k212p.out)
    have l4 := G012.wf.lt (show h12.objs.get b4 = _ from k412p.out)
    have hnrm : bo ≠ rm := by omega
    have k1015h := Hid.mk k1015
    have o15h := Hid.mk o15
    have os15h := Hid.mk os15
    have k215h := Hid.mk k215
    have k415h := Hid.mk k415
    have om15h := Hid.mk om15
    clear k1015 o15 os15 k415 hro15 om15 k1012p k212p k412p
    refine zAz (N := g.nodes.length) (by omega) (fun j a hq => Hid (KM bo rm g.nodes.length K rk rt h15 hq) /\ (∃ vm es c l, Hid (hq.objs.get rm = some (vm, .map es c) /\ FA es l /\ LE l rt j)) /\ a.defers = [] /\ ev a (.tmp 2) = some (.ptr (some (b2, 0))) /\ ev a (.tmp 4) = some (.ptr (some (b4, 0))) /\ ev a (.tmp 10) = some (.ptr (some (b10, 0))) /\ ev a (.tmp 12) = some (.ptr (some (b12, 0))))
     (by rintro j a hq t w (rfl | rfl | rfl) ⟨m1, m2, m3, m4, m5, m6, m7⟩ <;> exact ⟨m1, m2, by rw [zAc]; exact m3, by exact e1, by exact e1, by exact e1, by exact e1⟩) (by decide) ?_ ?_ ⟨K15, ⟨_, _, _, [], ⟨om15h.out, FA.zero, LE.zero rt⟩⟩, by exact n1, by exact e1, by exact e1, by exact e1, by exact e1⟩ (by exact e1) (by exact e1)
    ·clear K15
     rintro j a hq hj ⟨Kj, ⟨vm, es, c, l, hfl⟩, hd, t2', t4', t10', t12'⟩ hi hn
     have k12 := Kj.out.keep b12 _ (by omega) (by omega) o15h.out
     have k10 := Kj.out.keep b10 _ (by omega) (by omega) k1015h.out
     have ks := Kj.out.keep bs _ hbne.1 (by omega) os15h.out
     obtain ⟨on1, ho, u⟩ := Kj.out.row
     have hfind := Hid.mk (zGn H u hj hbne.1 hq Kj.out.wf ks ho)
     clear ho u ks
     repeat with_reducible first | refine zAA ?_ | refine zAC ?_ | refine zAE ?_ | refine zAD ?_ | refine zAP ?_ | refine zBQ ?_ | (apply dr_q; exact q1) | (apply zCs; exact q1; exact og1) | (apply st_q; exact q1)
     refine zBD (zAb (by exact s1) (hfind.out.mono ?_))
     rintro _ hr ⟨rfl, B, on', ho', u'⟩
     have k12r := B.keep b12 (by omega) _ k12
     have k10r := B.keep b10 (by omega) _ k10
     have oqr := B.keep rm (Ne.symm hnrm) _ hfl.out.1
     refine zAC ⟨by simp [zAf, Nat.testBit, k12r, k10r], ?_⟩
     have Kr := Hid.mk (Kj.out.find B ho' u')
     obtain ⟨x, hlk, hmem⟩ := FA.look oqr hfl.out.2.1 (rt (j : Int))
     replace hmem := Hid.mk hmem
     clear B ho' u' hfind k12 k10
     have oqrh := Hid.mk oqr
     cases hz : l.any fun q => q.1 == rt (j : Int)
     ·have hnone : Hid (∀ q ∈ l, q.1 ≠ rt (j : Int)) := ⟨fun q hq he => by
       have := List.any_eq_false.1 hz q hq
       simp [he] at this⟩
      rw [hz] at hlk
      clear hz hmem
      repeat with_reducible first | refine zAA ?_ | refine zAC ?_ | refine zAE ?_ | refine zAD ?_ | refine zBz ?_ | refine zBQ ?_ | (apply dr_q; exact q1) | (apply zCs; exact q1; exact og1) | (apply st_q; exact q1) | (apply zAJ; exact e1)
      obtain ⟨on2, ho2, u2⟩ := Kr.out.row
      have ks2 := Kr.out.keep bs _ hbne.1 (by omega) os15h.out
      have hfind2 := Hid.mk (zGn H u2 hj hbne.1 hr Kr.out.wf ks2 ho2)
      clear ho2 u2 ks2 oqr hlk
      refine zBD (zAb (by exact s1) (hfind2.out.mono ?_))
      rintro _ hs ⟨rfl, B, on', ho', u'⟩
      have k12s := B.keep b12 (by omega) _ k12r
      have k10s := B.keep b10 (by omega) _ k10r
      have oqs := B.keep rm (Ne.symm hnrm) _ oqrh.out
      refine zAC ⟨by simp [zAf, Nat.testBit, k12s, k10s], ?_⟩
      have Ks := Hid.mk (Kr.out.find B ho' u')
      have hfd := Hid.mk (hfl.out.2.1.none (a := rt (j : Int)) hnone.out)
      have wks := Ks.out.wf
      clear B ho' u' hfind2 k12r k10r
      skip
      refine zBD (zIP (by exact e1) (by exact e1) (by exact e1) (by intro hh; cases hh) rfl wks oqs hfd.out ?_)
      rintro v6 h6' p6 o6
      have k126 := p6.keep b12 (by omega) _ k12s
      have k106 := p6.keep b10 (by omega) _ k10s
      refine zAC ⟨by simp [zAf, Nat.testBit, k126, k106], ?_⟩
      have K6 := Hid.mk (Ks.out.put p6 hnrm)
      have hfl6 : Hid (h6'.objs.get rm = some (v6, .map (es ++ [(.int .i64 (rt (j : Int)), .int .i64 ((j : Nat) : Int), c)]) (c + 1)) /\ FA (es ++ [(.int .i64 (rt (j : Int)), .int .i64 ((j : Nat) : Int), c)]) (l ++ [(rt (j : Int), (j : Int))]) /\ LE (l ++ [(rt (j : Int), (j : Int))]) rt (j + 1)) := ⟨o6, FA.put (p := (rt (j : Int), (j : Int))) hfl.out.2.1 hnone.out, hfl.out.2.2.put hnone.out⟩
      clear p6 o6 oqs k12s k10s
      repeat with_reducible first | refine zAA ?_ | refine zAQ ?_ | refine zBz ?_
      exact ⟨⟨K6, ⟨_, _, _, _, hfl6⟩, by exact n1, by exact e1, by exact e1, by exact e1, by exact e1⟩, by exact e1, by exact e1⟩
     ·have hsome : Hid (∃ q ∈ l, q.1 = rt (j : Int)) := ⟨by
       obtain ⟨q, h1, h2, _⟩ := hmem.out hz
       exact ⟨q, h1, h2⟩⟩
      rw [hz] at hlk
      clear hz hmem
      repeat with_reducible first | refine zAA ?_ | refine zAQ ?_ | refine zAC ?_ | refine zAE ?_ | refine zAD ?_ | refine zAT ?_ | refine zBz ?_ | (apply dr_q; exact q1) | (apply zCs; exact q1; exact og1) | (apply st_q; exact q1) | (apply zAL; exact e1)
      exact ⟨⟨Kr, ⟨_, _, _, l, ⟨oqrh.out, hfl.out.2.1, hfl.out.2.2.stay hsome.out⟩⟩, by exact n1, by exact e1, by exact e1, by exact e1, by exact e1⟩, by exact e1, by exact e1⟩
    ·clear K15
     rintro a h16 ⟨K16, ⟨vm, es, c, l, hfl⟩, hd, t2', t4', t10', t12'⟩
     have k12 := K16.out.keep b12 _ (by omega) (by omega) o15h.out
     have k10 := K16.out.keep b10 _ (by omega) (by omega) k1015h.out
     have k2 := K16.out.keep b2 _ (by omega) (by omega) k215h.out
     have k4 := K16.out.keep b4 _ (by omega) (by omega) k415h.out
     have ks := K16.out.keep bs _ hbne.1 (by omega) os15h.out
     obtain ⟨on1, ho, u⟩ := K16.out.row
     have w16 := K16.out.wf
     have LI : Hid (LeI h16 b12 b10 bs bo g.nodes.length l rt) := ⟨⟨⟨_, _, rm, k12, vm, es, c, hfl.out.1, hfl.out.2.1⟩, ⟨_, _, k10⟩, ⟨_, _, _, ks⟩, by omega, by omega, hbne.1⟩⟩
     have L := Hid.mk hfl.out.2.2
     have n1615 := K16.out.next
     have n1512 := g125n
     have hbo16 : bo < h16.next := by omega
     have hroA : ∃ v e vs, h16.objs.get bo = some (v, .cells false e vs) := by
      obtain ⟨v, vs, o, _⟩ := ho
      exact ⟨v, _, vs, o⟩
     have S16 : Hid (∀ i : Nat, i < g.nodes.length -> rt (i : Int) = i -> ∃ cl vb vs, hc'[i]? = some cl /\ ClzAt hp h16 cl (has i) /\ h16.objs.get bh = some (vb, .cells false 68 vs) /\ g.nodes.length * 5 <= vs.length /\ (vs.drop (i * 5)).take 5 = cl /\ cl.length = 5) := ⟨fun i hi hr => by
      obtain ⟨cl, h1, h2⟩ := SO'.out.sx.cls i hi hr (fun h => h)
      obtain ⟨hkl, vb, vs, ob, hl5, hk5⟩ := S15.out.hs
      have hne := S15.out.bne
      obtain ⟨q1', q2'⟩ := hk5 i cl h1
      exact ⟨cl, vb, vs, h1, h2.keep fun r p _ _ hp hn => K16.out.keep r _ (by
       rintro rfl
       obtain ⟨v, vs, o, _⟩ := SO'.out.sx.on
       rw [o] at hp; cases hp; exact hn _ _ _ rfl) (by
       have := G012.wf.lt hp
       omega) (g125.keep _ _ hp), K16.out.keep bh _ (Ne.symm hne.2.2.2.1) (by omega) ob, hl5, zJt q1' q2', q1'⟩⟩
     have G16 := Hid.mk (K16.out.grow w0 G15 (by have := S15.out.low; have := G.next; omega) (by omega))
     have ask := Hid.mk (KM.ask (K := K) (rk := rk) H w16 LI.out L.out hbo16 hroA)
     have K17 : Hid (KM bo bo g.nodes.length K rk rt h16 h16) := ⟨KM.refl w16 ho u⟩
     have k1016 := Hid.mk k10
     have ks16 := Hid.mk ks
     have k416 := Hid.mk k4
     have k216 := Hid.mk k2
     have hroA' := Hid.mk hroA
     clear ho u ks k12 k10 hfl hroA k4
     refine zAA ?_
     repeat with_reducible first | refine zAA ?_ | refine zAC ?_ | refine zAE ?_ | refine zAD ?_ | (apply st_q; exact q1)
     have hgr := zAZ hcg.out
     have hrt := Hid.mk (ask.out.call g.root ⟨hgr.1, hgr.2.1⟩ h16 w16 K17.out)
     clear hgr
     refine zFe (by exact e1) (by exact s1) (hrt.out.mono ?_)
     rintro _ h17 ⟨rfl, B17, K17'⟩
     have w17 := K17'.wf
     have k217 := B17.keep b2 (by omega) _ k2
     have n17 := B17.next
     generalize hrv : lsP l (rt g.root) = rootv at *
     clear k2 hrt K17 B17
     refine st_q (v := .agg [.slice none 0, .int .i64 rootv]) (b := none) (by rw [zBh]; simp only [zCw, zBE, zBS, zBV, if_true, if_false, Nat.reduceEqDiff, zAi]; rfl) ?_
     refine zAY w17 ?_
     rintro b17 h18 hb17 g18 o18
     refine zAG (by exact e1) (by exact e1) (by exact cc) rfl g18.wf o18 (by simp) rfl ?_
     rintro v19 h19 p19 o19
     simp only [zlY, zlA, zlC, zlN, zlD, zlZ, zlE, Nat.zero_add, Nat.reduceAdd, zlX, zlK] at o19
     have g19 : Grow h17 h19 := p19.grow h17 w17 g18 hb17
     have K19 := Hid.mk (K17'.more g19)
     have k219 := g19.keep _ _ k217
     have I0 : Hid (UL h16 b17 rootv l rt has 0 0 (.slice none 0) h19) := ⟨⟨by omega, ⟨_, .slice none 0, [], [], o19, .inl ⟨rfl, rfl, rfl⟩, rfl, rfl, fun i c n hc => by simp at hc, fun i n hn => by simp at hn, fun i c hc => by simp at hc⟩, .inl ⟨rfl, rfl, rfl⟩⟩⟩
     have hb1716 : h16.next <= b17 := by omega
     clear K17' g18 o18 p19 o19 k217 g19 hb17
     repeat with_reducible first | refine zAA ?_ | refine zAC ?_ | refine zAE ?_ | refine zAD ?_ | (apply st_q; exact q1)
     refine zAz (N := g.nodes.length) (by omega) (fun j a hq => Hid (KM bo bo g.nodes.length K rk rt h16 hq) /\ (∃ rv, Hid (UL h16 b17 rootv l rt has j j rv hq) /\ ev a (.tmp 18) = some rv) /\ a.defers = [] /\ ev a (.tmp 2) = some (.ptr (some (b2, 0))) /\ ev a (.tmp 4) = some (.ptr (some (b4, 0))) /\ ev a (.tmp 10) = some (.ptr (some (b10, 0))) /\ ev a (.tmp 16) = some (.func 29 [] [.ptr (some (b12, 0)), .ptr (some (b10, 0))]) /\ ev a (.tmp 17) = some (.ptr (some (b17, 0))))
      (by rintro j a hq t w (rfl | rfl | rfl) ⟨m1, ⟨rv, m2, m3⟩, m4, m5, m6, m7, m8, m9⟩ <;> exact ⟨m1, ⟨rv, m2, by exact e1⟩, by rw [zAc]; exact m4, by exact e1, by exact e1, by exact e1, by exact e1, by exact e1⟩) (by decide) ?_ ?_ ⟨K19, ⟨_, I0, by exact e1⟩, by exact n1, by exact e1, by exact e1, by exact e1, by exact e1, by exact e1⟩ (by exact e1) (by exact e1)
     ·clear K19 I0 k219
      rintro j a hq hj ⟨Kj, ⟨rv, Ij, t18'⟩, hd, t2', t4', t10', t16', t17'⟩ hi hn
      have k10 := Kj.out.keep b10 _ (by omega) (by omega) k1016.out
      have ks := Kj.out.keep bs _ hbne.1 hbne.1 ks16.out
      obtain ⟨on1, ho, u⟩ := Kj.out.row
      have hrng := SO'.out.inv.rng (j : Int) ⟨by omega, by omega⟩
      obtain ⟨x0, hx0⟩ : ∃ i : Nat, rt (j : Int) = i := ⟨(rt (j : Int)).toNat, by have := hrng.1.1; omega⟩
      have hx0N : x0 < g.nodes.length := by have := hrng.1.2; omega
      have kx0 : rt (x0 : Int) = x0 := by rw [<- hx0]; exact hrng.2
      have hfind := zGn H u hj hbne.1 hq Kj.out.wf ks ho
      rw [hx0] at hfind
      replace hfind := Hid.mk hfind
      replace hx0 := Hid.mk hx0
      replace kx0 := Hid.mk kx0
      obtain ⟨ver17, vo, cs, ns, o17, Bvo, lcs, lns, hown, hnz, hdis⟩ := Ij.out.o
      have lvo := Bvo.len
      have lrv := Ij.out.r.len
      obtain ⟨cl, vb, vs, hcl, hCl, obh16, hl5, hraw, hcl5⟩ := S16.out x0 hx0N kx0.out
      have hjx : slA (.slice (some (bh, 0)) g.nodes.length) 5 x0 = some (bh, x0 * 5) := by simp [slA, hx0N]
      have hlx : x0 * 5 + 5 <= vs.length := by omega
      have Bvo' := Hid.mk Bvo
      have hCl' := Hid.mk hCl
      have hown' := Hid.mk hown
      have hnz' := Hid.mk hnz
      have hdis' := Hid.mk hdis
      have obh16' := Hid.mk obh16
      clear ho u Bvo hCl hown hnz hdis obh16 hrng hcl
      repeat with_reducible first | refine zAA ?_ | refine zAC ?_ | refine zAE ?_ | refine zAD ?_ | refine zAP ?_ | refine zBQ ?_ | (apply dr_q; exact q1) | (apply zCs; exact q1; exact og1) | (apply st_q; exact q1)
      refine zBD (zAb (by exact s1) (hfind.out.mono ?_))
      rintro _ hr ⟨rfl, B, on', ho', u'⟩
      have k10r := B.keep b10 (by omega) _ k10
      have ksr := B.keep bs hbne.1 _ ks
      have o17r := B.keep b17 (by omega) _ o17
      refine zAC ⟨by simp [zAf, Nat.testBit, k10r, ksr, o17r], ?_⟩
      have Kr := Hid.mk (Kj.out.find B ho' u')
      have Ir := Hid.mk (Ij.out.but B hbo16)
      have wr := Kr.out.wf
      have nr := Kr.out.next
      have obr := Kr.out.keep bh _ (by omega) (by omega) obh16'.out
      have Ghr : Hid (Grow hp hr) := ⟨Kr.out.grow G.wf (K16.out.grow G.wf S15.out.grow (by omega) (by omega)) (by omega) (by omega)⟩
      have hror : Hid (∃ v e vs, hr.objs.get bo = some (v, .cells false e vs)) := ⟨by
       obtain ⟨v, vs, o, _⟩ := ho'
       exact ⟨v, _, vs, o⟩⟩
      have askr : Hid (Ask fns summ bo hr 29 [.ptr (some (b12, 0)), .ptr (some (b10, 0))] (fun a => lsP l (rt a)) (fun a => 0 <= a /\ a < g.nodes.length) (KM bo bo g.nodes.length K rk rt hr)) := ⟨KM.ask H wr (LI.out.km hroA'.out Kr.out) L.out (by omega) hror.out⟩
      have CC := SO'.out.inv.cls (x0 : Int) ⟨by omega, by omega⟩ kx0.out
      have hClr := hCl'.out.keep (hq := hr) fun r p _ _ hp hn => Kr.out.keep r _ (by
       rintro rfl
       obtain ⟨v, e, vs, o⟩ := hroA'.out
       rw [o] at hp; cases hp; exact hn _ _ _ rfl) (by
       rintro rfl
       obtain ⟨v, e, vs, o⟩ := hroA'.out
       rw [o] at hp; cases hp; exact hn _ _ _ rfl) hp
      have ck := zNT hcg.out CC
      have hnode := Hid.mk (node_ok H HS (has (x0 : Int)) (fun h => (CC.nofields h).1) CC.nodup (CC.bytes hcg.out) (by have := ck.args; omega) (by have := ck.fields; omega) G.wf Ghr.out (bo := bo) (by omega) (by omega) hClr hror.out askr.out (CC.inA hcg.out) (CC.inF hcg.out) (KM.refl wr ho' u'))
      clear B ho' u' hfind k10 ks o17 hClr CC ck
      repeat with_reducible first | (apply dr_q; exact q1) | (apply zCs; exact q1; exact og1)
      refine zBD (zAb (by exact s1) (hnode.out.mono ?_))
      rintro _ hs ⟨ls, av, lv, rfl, hrises, hlm, Bav, Blv, Bs, ws, Ps⟩
      have kbh := Bs.keep bh (by omega) _ obr
      have k10s := Bs.keep b10 (by omega) _ k10r
      have kss := Bs.keep bs hbne.1 _ ksr
      have o17s := Bs.keep b17 (by omega) _ o17r
      refine zAC ⟨by simp [zAf, Nat.testBit, kbh, k10s, kss, o17s], ?_⟩
      have Is := Hid.mk (Ir.out.but Bs hbo16)
      obtain ⟨ver17', vo2, cs2, ns2, q17, qvo, qlc, qln, qown, qnz, qdis⟩ := Is.out.o
      have hvo : vo2 = vo := by
       rw [o17s] at q17
       simp only [oI, Prod.mk.injEq, AObj.cells.injEq, List.cons.injEq, and_true, true_and] at q17
       exact q17.2.symm
      subst hvo
      have qall := Hid.mk (And.intro q17 (And.intro qvo (And.intro qlc (And.intro qln (And.intro qown (And.intro qnz qdis))))))
      clear q17 qvo qlc qln qown qnz qdis
      have Ks := Hid.mk (Kr.out.trans Ps)
      have nbs := Bs.next
      have lbs := Hid.mk (fun c m (hh : rv = .slice (some (c, 0)) m) => zHN Ir.out.r wr hh)
      generalize hnz0 : zGo (has (x0 : Int)) (fun a => lsP l (rt a)) ls = n at *
      have hnz0' := Hid.mk hnz0
      have hlsr : Hid (Rises ls /\ ∀ s, s ∈ ls ↔ ∃ a, (s, a) ∈ (has (rt (j : Int))).fields) := ⟨hrises, by rw [hx0.out]; exact hlm⟩
      have lav := Bav.len
      have llv := Blv.len
      have hnl : n.labels = ls := by rw [<- hnz0]; rfl
      have Bav' := Hid.mk Bav
      have Blv' := Hid.mk Blv
      clear hnode obr k10r ksr o17r Bav Blv Ps hrises hlm askr hnz0
      refine zBD (zAp (by exact e1) (cs := [.int .i64 n.kind, .str n.name, av, lv, .bool n.isOpen]) rfl rfl rfl ws ?_)
      rintro bx h12 hbx g12 ox
      have kbhx := g12.keep _ _ kbh
      have k10x := g12.keep _ _ k10s
      have ksx := g12.keep _ _ kss
      have o17x := g12.keep _ _ o17s
      refine zAC ⟨by simp [zAf, Nat.testBit, kbhx, k10x, ksx, o17x], ?_⟩
      have Bx : Built h12 h16.next 36 5 vo2 j cs2.flatten := qall.out.2.1.grow g12
      have n12 := g12.next
      refine zBD (zAy (by exact e1) (by exact e1) Bx ox rfl (zCP lav llv) (zDU H (by decide) (le31 (by omega))) g12.wf (by omega) ?_)
      rintro vo' h13 B13 f13 w13 n13 gr13 kp13
      have kbh' := kp13 _ _ kbhx (zAK Bx kbhx fun vs hh => by cases hh)
      have k10' := kp13 _ _ k10x (zAK Bx k10x fun vs hh => by cases hh)
      have ks' := kp13 _ _ ksx (zAK Bx ksx fun vs hh => by cases hh)
      have o17' := kp13 _ _ o17x (zAK Bx o17x fun vs hh => by cases hh)
      refine zAC ⟨by simp [zAf, Nat.testBit, kbh', k10', ks', o17'], ?_⟩
      have lvo' := B13.len
      have kpx := Hid.mk (fun c p (hc : hs.objs.get c = some p) hn => kp13 c p (g12.keep _ _ hc) hn)
      have B13' := Hid.mk B13
      have Bx' := Hid.mk Bx
      have hne17 : b17 ≠ b10 /\ b17 ≠ bs /\ b17 ≠ bh := ⟨by omega, by omega, by omega⟩
      clear kbhx k10x ksx o17x kbh k10s kss ox g12 f13 gr13 kp13 B13 Bx
      repeat with_reducible (apply dr_q; exact q1)
      refine zBD (zAG (by exact e1) (by exact e1) (zAg lvo') rfl w13 o17' (by simp) (by simp only [List.all_cons, List.all_nil, zAR lvo', Bool.and_true]) ?_)
      rintro v14 h14 p14 o14
      have kbh4 := p14.keep bh (Ne.symm hne17.2.2) _ kbh'
      have k104 := p14.keep b10 (Ne.symm hne17.1) _ k10'
      have ks4 := p14.keep bs (Ne.symm hne17.2.1) _ ks'
      refine zAC ⟨by simp [zAf, Nat.testBit, kbh4, k104, ks4], ?_⟩
      simp only [zlT, zlY, zlA, zlC, zlN, zlD, zlZ, zlE, Nat.zero_add, Nat.reduceAdd, zlX, zlK] at o14
      have w14 := p14.wf w13
      have n14 := p14.next
      have n1213 := n13
      have oq17 := qall.out.1
      obtain ⟨q17, qvo, qlc, qln, qown, qnz, qdis⟩ := qall.out
      have I14 : Hid (UL h16 b17 rootv l rt has (j + 1) j rv h14) := ⟨UL.put (av := av) (lv := lv) (n := n) (ls := ls) (vo := vo2) (vo' := vo') (hr := hr) (hB := hr) wr qvo qlc qln qown qnz qdis Is.out.r hb1716 lbs.out (fun c m hh => zDK Bav'.out hh) hlsr.out (by rw [hx0.out]; exact hnz0'.out.symm) (zBG Bav'.out (by omega)) (zBG (by rw [hnl]; exact Blv'.out) (by omega)) o14 (by
       rw [List.flatten_append]
       exact zAS (by simpa using B13'.out) p14 o17' (fun vs hh => by cases hh)) (fun c p hc hp hne => p14.keep c hne _ (kpx.out c p hc (zAK qvo hc hp))) ⟨_, _, q17⟩⟩
      have K14 : Hid (KM bo bo g.nodes.length K rk rt h16 h14) := ⟨Ks.out.fresh w16 (by omega) w14 hbo16 fun c p hl hp => p14.keep c (by omega) p (kpx.out c p hp fun m hh => by
       have := zDK Bx'.out hh
       omega)⟩
      clear q17 qvo qlc qln qown qnz qdis oq17 qall o17s o14 p14 kbh' k10' ks' o17' kbh4 k104 ks4
      repeat with_reducible first | refine zAA ?_ | refine zAD ?_ | refine zBz ?_ | (apply st_q; exact q1)
      have hcall := Hid.mk (ask.out.call (j : Int) ⟨by omega, by omega⟩ h14 w14 K14.out)
      refine zFe (by exact e1) (by exact s1) (hcall.out.mono ?_)
      rintro _ h15' ⟨rfl, B15, K15⟩
      have I15 := Hid.mk (I14.out.but B15 hbo16)
      have w15 := K15.wf
      have n15 := K15.next
      have K15' := Hid.mk K15
      clear hcall B15 K15 I14 K14
      refine zAp (by exact e1) (cs := [.int .i64 (lsP l (rt (j : Int)))]) rfl rfl rfl w15 ?_
      rintro by' h18' hby g18' oy
      have r18 := I15.out.r.grow g18'
      have n18 := g18'.next
      refine zAy (by exact e1) (by exact e1) r18 oy rfl rfl (zDU H (by decide) (le31 (by omega))) g18'.wf (by omega) ?_
      rintro rv' h19' B19 f19 w19 n19 gr19 kp19
      have I19 : Hid (UL h16 b17 rootv l rt has (j + 1) (j + 1) rv' h19') := ⟨UL.rep I15.out w15 g18' kp19 (by rw [reps_put, List.map_append]; exact B19) f19⟩
      have K20 : Hid (KM bo bo g.nodes.length K rk rt h16 h19') := ⟨(K15'.out.more g18').fresh w16 n19 w19 hbo16 fun c p hl hp => kp19 c p hp fun m hh => by
       have := zDK r18 hh
       omega⟩
      clear g18' oy r18 B19 f19 gr19 kp19 I15 K15'
      repeat with_reducible first | refine zAA ?_ | refine zAQ ?_ | refine zAC ?_ | (apply st_q; exact q1)
      exact ⟨⟨K20, ⟨_, I19, by exact e1⟩, by exact n1, by exact e1, by exact e1, by exact e1, by exact e1, by exact e1⟩, by exact e1, by exact e1⟩
     ·clear K19 I0 k219
      rintro a h21 ⟨K21, ⟨rv, I21, t18'⟩, hd, t2', t4', t10', t16', t17'⟩
      have k4 := K21.out.keep b4 _ (by omega) (by omega) k416.out
      obtain ⟨ver17, vo, cs, ns, o17, Bvo, _⟩ := I21.out.o
      have lvo := Bvo.len
      have lrv := I21.out.r.len
      have hnd := Hid.mk (I21.out.nd o17)
      have G21 := K21.out.grow w0 G16.out (by omega) (by omega)
      have one1 := zAR lvo
      have lh16 : b4 < h16.next := by omega
      have hrr := Hid.mk I21.out.r
      clear Bvo
      refine zAA ?_
      repeat with_reducible first | refine zAE ?_ | refine zAD ?_ | (apply st_q; exact q1)
      refine zAG (by exact e1) (by exact e1) (by exact cc) rfl G21.wf k4 (by simp) (by simp only [List.all_cons, List.all_nil, one1, Bool.true_and, Bool.and_true]; rfl) ?_
      rintro v22 h22 p22 o22
      simp only [zlY, zlA, zlC, zlN, zlD, zlZ, zlE, Nat.zero_add, Nat.reduceAdd, zlX, zlK] at o22
      have hfin : Hid (Grow h0 h22 /\ ∃ U R, UOut g ps U R /\ OwnG h22 h0.next (.agg [vo, .int .i64 rootv]) U /\ Built h22 h0.next 3 1 rv R.length (R.map (AVal.int .i64))) := ⟨by
       obtain ⟨ns', hl, hnz, hown⟩ := hnd.out
       have hU := uni_out hcg.out SO'.out.inv L.out hl hnz
       rw [hrv] at hU
       refine ⟨p22.grow h0 w0 G21 (by omega), _, _, hU, (hown.stay fun c p hc hp _ => p22.keep c (by omega) _ hp).base (by omega), ?_⟩
       rw [zMQ]
       exact zBG (zAS hrr.out p22 k4 (fun vs hh => by cases hh)) (by omega)⟩
      have hpv2 : zBC (some 2) [vo, .int .i64 rootv] 0 = some (.agg [vo, .int .i64 rootv]) := rfl
      clear p22 k4 o17 hnd hrr
      repeat' with_reducible first | refine zAA ?_ | refine zAC ?_ | refine zAO ?_ | (apply st_q; exact q1) | (apply zAI; exact n1; exact r1)
      exact ⟨hfin.out.1, _, _, 0, rfl, fun h => absurd rfl h, .inr (.inr (.inr ⟨hcg.out, rfl, hok.out, hfin.out.2⟩))⟩
   ·obtain ⟨p, hs⟩ := HA.yes r h12 b11 _ G12.wf hE k1112
    have pb := zEY G12.wf k1112 (.cells false 57 [.ptr p])
    have k413 := pb.keep b4 (by omega) _ k412
    have gb := pb.grow h0 w0 G012 (by omega)
    have hfin : Hid ((∀ p ∈ ps, zFB g p = true) /\ ¬ Consi g ps) := ⟨hok.out, hnc⟩
    clear hres hE hnc k1112 k412
    refine zAb (by exact s1) (zDh hs ?_)
    rw [D.sat_ret]
    dsimp only
    clear hs
    repeat with_reducible first | refine zAA ?_ | refine zAC ?_ | refine zAE ?_ | refine zAD ?_ | (apply st_q; exact q1) | (apply zAJ; exact e1)
    refine zAG (by exact e1) (by exact e1) (by exact cc) rfl gb.wf k413 (by simp) rfl ?_
    rintro v14 h14 p14 o14
    simp only [zlY, zlA, zlC, zlN, zlD, zlZ, zlE, Nat.zero_add, Nat.reduceAdd, zlX, zlK] at o14
    have g14 := p14.grow h0 w0 gb (by omega)
    clear p14 k413 pb gb
    repeat' with_reducible first | refine zAA ?_ | refine zAa ?_ | refine zAC ?_ | refine zAO ?_ | (apply st_q; exact q1) | (apply zAI; exact n1; exact r1)
    exact ⟨g14, _, _, 8, rfl, fun _ => ⟨rfl, rfl⟩, .inr (.inr (.inl ⟨hcg.out, rfl, hfin.out.1, hfin.out.2⟩))⟩
 ·have hne : zAF g ≠ 0 := by simpa using hck
  replace hne := Hid.mk hne
  repeat with_reducible first | refine zAA ?_ | refine zAC ?_ | refine zAE ?_ | refine zAD ?_ | (apply st_q; exact q1) | (apply zAJ; exact e1)
  refine zAG (by exact e1) (by exact e1) (by exact cc) rfl g5.wf o4 (by simp) rfl ?_
  rintro v6 h6 p6 o6
  simp only [zlY, zlA, zlC, zlN, zlD, zlZ, zlE, Nat.zero_add, Nat.reduceAdd, zlX, zlK] at o6
  have g6 := p6.grow h0 w0 g05 (by have := g2.next; omega)
  have ht2 : ∀ x y : AVal, List.take 2 [x, y] = [x, y] := fun _ _ => rfl
  clear o2 o4 p6
  repeat' with_reducible first | refine zAA ?_ | refine zAa ?_ | refine zAC ?_ | refine zAO ?_ | (apply st_q; exact q1) | (apply zAI; exact n1; exact r1)
  exact ⟨g6, _, _, zAF g, rfl, fun _ => ⟨rfl, rfl⟩, .inl ⟨rfl, hne.out⟩⟩
end
end Go.Ab.S
end
section
namespace Go.Ab.S
open Go.Ab
set_option maxHeartbeats 4000000
section
variable {fns : FnsT} {summ : SumT} {ro : Option Nat}
theorem dr_gT {i p : Nat} {d : Option Tmp} {t : Tmp} {w : Bool} {op : AOp} {l : List DStep} {hs : List Held} {a : AAct} {h : AHeap} {K : AAct -> AHeap -> Prop} (hg : ev a (.tmp t) = some (.bool w)) (k : Dr fns summ ro (⟨i, p, ⟨d, none, op⟩⟩ :: l) hs a h K) : Dr fns summ ro (⟨i, p, ⟨d, some (t, w), op⟩⟩ :: l) hs a h K :=
 dr_g (s := ⟨i, p, ⟨d, some (t, w), op⟩⟩) rfl hg (fun _ => k) (fun hc => by rcases hc with hc | hc <;> (cases w <;> cases hc)) (.inl rfl)
end
end Go.Ab.S
end
section
namespace Go.Ab.S
open Go.Ab
set_option maxHeartbeats 8000000
theorem zIz {h : AHeap} : ∀ (cs : List (List AVal)) (l : List Node), cs.length = l.length -> (∀ (i : Nat) (n : Node) (c : List AVal), l[i]? = some n -> cs[i]? = some c -> NodeAt h c n) -> cs.flatten.all one = true
 | [], _, _, _ => rfl
 | c :: cs, [], hl, _ => by simp at hl
 | c :: cs, n :: l, hl, hc => by
  obtain ⟨av, lv, h1, h2, h3⟩ := hc 0 n c rfl rfl
  rw [List.flatten_cons, List.all_append, zIz cs l (by simpa using hl) (fun i m d hm hd => hc (i + 1) m d (by simpa using hm) (by simpa using hd)), h1, zCP h2.len h3.len]; rfl
section
variable {fns : FnsT} {summ : SumT}
variable (H : Has fns summ)
include H
theorem CloneNode_ok (l : List Node) (hl : l.length <= 2 ^ 31) (v : AVal) (h : AHeap) (hw : WF h) (hv : NodesAt h v l) : Cl fns summ 36 [v] h fun r h' => ∃ cs : List (List AVal), Built h' h.next 36 5 r l.length cs.flatten /\ cs.length = l.length /\ (∀ (i : Nat) (n : Node) (c : List AVal), l[i]? = some n -> cs[i]? = some c -> NodeAt h c n) /\ Grow h h' := by
 obtain ⟨cs, hS, hcl, hcn⟩ := hv
 have hone := zIz cs l hcl hcn
 refine H.go (fn := F_CloneNode) rfl (by decide) rfl rfl ?_
 unfold F_CloneNode
 dsimp only [qQ, qE, qN, gQ, gE, vi, tm, mt, lo, fa]
 by_cases hnil : v = .slice none cs.length
 ·have hl0 : cs = [] := by
   cases cs with
   | nil => rfl
   | cons a r =>
    obtain ⟨_, b, o, ver, ro, e, vs, h1, _⟩ := hS.2 0 a rfl
    rw [hnil] at h1; cases h1
  subst hl0
  subst hnil
  have hln : l = [] := List.length_eq_zero_iff.1 hcl.symm
  subst hln
  repeat' with_reducible first | refine zAA ?_ | refine zAa ?_ | refine zAC ?_ | refine zAE ?_ | refine zAD ?_ | refine zAO ?_ | (apply st_q; exact q1) | (apply zAJ; exact e1) | (apply zAI; exact n1; exact r1)
  exact ⟨[], .inl ⟨rfl, rfl, rfl⟩, rfl, fun i n c hn _ => by simp at hn, Grow.refl hw⟩
 ·have heq : eqA .slice v (.slice none 0) = some false := by
   rcases zGx hS.1 with h1 | ⟨b, o, rfl⟩ | ⟨rfl, _⟩ | ⟨rfl, _⟩
   ·exact absurd h1 hnil
   ·rfl
   ·rfl
   ·rfl
  have hroom := zDU H (b := 80) (by decide) hl
  rw [<- hcl] at hroom
  repeat with_reducible first | refine zAA ?_ | refine zAC ?_ | refine zAE ?_ | refine zAD ?_ | (apply st_q; exact q1)
  refine st_q (v := .bool false) (b := none) (by simp only [zDc, zBE, zCA, zBV, Nat.reduceEqDiff, if_true, if_false, heq]; rfl) ?_
  repeat with_reducible first | refine zAA ?_ | refine zAC ?_ | refine zAE ?_ | refine zAD ?_ | refine zAT ?_ | (apply zAL; exact e1)
  refine st_T (by exact tE) (by exact t1) ?_
  repeat with_reducible (apply st_q; exact q1)
  refine zGK (by exact e1) (by exact e1) hS (by decide) (.inl hnil) hone hroom hw ?_
  intro r h' B g
  rw [hcl] at B
  repeat' with_reducible first | refine zAA ?_ | refine zAC ?_ | refine zAO ?_ | (apply st_q; exact q1) | (apply zAI; exact n1; exact r1)
  exact ⟨cs, B, hcl, hcn, g⟩
end
end Go.Ab.S
end
section
namespace Go.Ab.S
open Go Go.Ab
set_option maxHeartbeats 1000000
def Fits (S : Int -> Int -> Prop) (x y : Node) : Prop := x.kind = 1 \/ (x.kind ≠ 1 /\ x.kind = y.kind /\ x.name = y.name /\ (x.isOpen = true \/ (y.isOpen = false /\ x.labels = y.labels)) /\ (x.kind = 3 -> ∀ s ∈ x.labels, s ∈ y.labels) ∧
 ∀ i, i < x.args.length -> idxI x y i < y.args.length /\ S (x.args.getD i 0) (y.args.getD (idxI x y i) 0))
structure InstB (g h : Graph) (S : Int -> Int -> Prop) : Prop where
 root : S g.root h.root
 range : ∀ a b, S a b -> (0 <= a /\ a < g.nodes.length) /\ Rch h b
 node : ∀ a b, S a b -> Fits S (zAB g a) (zAB h b)
 one : ∀ a b c, S a b -> S a c -> zAU (zAB g a) = true -> clAt (zAH h) b = clAt (zAH h) c
theorem zGR {g h : Graph} (cg : zAF g = 0) (ch : zAF h = 0) : (∃ S, InstR g (zAv h) S) ↔ ∃ S, InstB g h S := by
 have Q := zCa ch
 constructor
 ·rintro ⟨S, K⟩
  refine ⟨fun a b => Rch h b /\ S a (qL h b), ⟨.root, by rw [<- Q.root]; exact K.root⟩, fun a b hab => ⟨(K.range _ _ hab.2).1, hab.1⟩, fun a b hab => ?_, fun a b c h1 h2 hf => qL_inj ch h1.1 h2.1 (K.one a _ _ h1.2 h2.2 hf)⟩
  rcases zEF cg ch K hab.1 hab.2 with h1 | ⟨h1, h2, h3, h4, h5, h6⟩
  ·exact .inl h1
  ·exact .inr ⟨h1, h2, h3, h4, h5, fun i hi => ⟨(h6 i hi).1, zDA hab.1 (h6 i hi).1, (h6 i hi).2⟩⟩
 ·rintro ⟨S, K⟩
  refine ⟨fun a z => ∃ b, S a b /\ z = qL h b, ⟨_, K.root, Q.root⟩, ?_, ?_, ?_⟩
  ·rintro a _ ⟨b, h1, rfl⟩
   exact ⟨(K.range a b h1).1, Q.range b (K.range a b h1).2⟩
  ·rintro a _ ⟨b, h1, rfl⟩
   have hb := (K.range a b h1).2
   have hn := Q.node b hb
   have mh := zAl ch (hb.ok ch)
   rcases K.node a b h1 with k1 | ⟨k1, k2, k3, k4, k5, k6⟩
   ·exact .inl k1
   have hlab : (zAB (zAv h) (qL h b)).labels = (zAB h b).labels := by rw [hn]
   have eidx : ∀ i, idxI (zAB g a) (zAB (zAv h) (qL h b)) i = idxI (zAB g a) (zAB h b) i := fun i => by rw [idxI, idxI, hlab]
   refine .inr ⟨k1, by rw [hn]; exact k2, by rw [hn]; exact k3, by rw [hn]; exact k4, ?_, fun i hi => ?_⟩
   ·rw [zGG, hlab]
    split
    ·rename_i hk
     have hk' : (zAB g a).kind = 3 := by simpa using hk
     rcases zAN mh with ⟨k', _⟩ | ⟨k', _⟩ | ⟨_, _, _, hr⟩
     ·omega
     ·omega
     rw [List.all_eq_true]
     intro s hs
     obtain ⟨i, hi, rfl⟩ := List.mem_iff_getElem.1 (k5 hk' s hs)
     exact (zJM (zBF hr) (List.getElem?_eq_getElem hi)).2
    ·rfl
   ·rw [eidx, zLR Q hb (k6 i hi).1]
    exact ⟨_, (k6 i hi).2, rfl⟩
  ·rintro a _ _ ⟨b, h1, rfl⟩ ⟨c, h2, rfl⟩ hf
   unfold qL
   rw [K.one a b c h1 h2 hf]
theorem zMF {g h : Graph} (hg : GTi g) (hh : GTi h) (cg : zAF g = 0) (ch : zAF h = 0) : isF g h = true ↔ ∃ S, InstB g h S := by rw [isF_iff hg hh cg ch, zGR cg ch]
def shN (k : Int) (n : Node) : Node := { n with args := n.args.map (· + k) }
theorem sh0 (n : Node) : shN 0 n = n := by
 have : n.args.map (· + (0 : Int)) = n.args := by
  conv => rhs; rw [<- List.map_id n.args]
  exact List.map_congr_left fun a _ => by simp
 rw [shN, this]
theorem sh_may {n : Node} {N M k : Int} (h : mayF n N = true) (hk : 0 <= k) (hM : N + k <= M) : mayF (shN k n) M = true :=
 zJh h (· + k) fun a ha => by have := zAu h a ha; omega
theorem zLk {k : Int} {x : Node} {i : Nat} (hi : i < x.args.length) : (shN k x).args.getD i 0 = x.args.getD i 0 + k := by
 simp only [shN, List.getD, List.getElem?_map, List.getElem?_eq_getElem hi]; rfl
end Go.Ab.S
end
