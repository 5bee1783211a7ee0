import Derived.Test.YtpmndmiohaaokaaGreatDoorP22
import Derived.Test.YtpmndmiohaaokaaGreatDoorP26
import Derived.LaidHandle
import Derived.Lay
import Derived.Deep.DeepWitnessRowRef
import Derived.ProofKit
import Derived.KernelRfl
import Derived.JoinedCond
import Derived.SevenTiedAt
/-
  Part 28 of the proof.
-/
set_option linter.all false
section
namespace Go.Ab.S
open Go Go.Ab
set_option maxHeartbeats 8000000
structure RgI (hb : AHeap) (b3 : Nat) (root : Int) (ns : List Node) (hq : AHeap) : Prop where
 low : hb.next <= b3
 o : ∃ (ver : Nat) (vo : AVal) (cs : List (List AVal)), hq.objs.get b3 = some (ver, .cells false 24 [vo, .int .i64 root]) /\ Built hq hb.next 36 5 vo ns.length cs.flatten /\ cs.length = ns.length /\ ∀ (i : Nat) c n, cs[i]? = some c -> ns[i]? = some n -> OwnN hq hb.next c n
theorem RgI.other {hb : AHeap} {b3 : Nat} {root : Int} {ns : List Node} {hq hr : AHeap} (I : RgI hb b3 root ns hq) (g : Grow hq hr) : RgI hb b3 root ns hr := by
 obtain ⟨ver, vo, cs, h1, h2, h3, h4⟩ := I.o
 exact ⟨I.low, ver, vo, cs, g.keep _ _ h1, h2.grow g, h3, fun i c n hc hn => OwnN_stay (h4 i c n hc hn) fun b p hb _ => g.keep _ _ hb⟩
theorem RgI.own {hb : AHeap} {b3 : Nat} {root : Int} {ns : List Node} {hq : AHeap} (I : RgI hb b3 root ns hq) : ∃ ver vo, hq.objs.get b3 = some (ver, .cells false 24 [vo, .int .i64 root]) /\ OwnG hq hb.next (.agg [vo, .int .i64 root]) ⟨ns, root⟩ := by
 obtain ⟨ver, vo, cs, h1, h2, h3, h4⟩ := I.o
 exact ⟨ver, vo, h1, vo, cs, rfl, h2, h3, h4⟩
theorem RgI.put {hb : AHeap} {b3 ver : Nat} {root : Int} {ns : List Node} {n : Node} {vo vo' av lv : AVal} {cs : List (List AVal)} {hq hs : AHeap} (low : hb.next <= b3) (h2 : Built hq hb.next 36 5 vo ns.length cs.flatten) (h3 : cs.length = ns.length) (h5 : ∀ (i : Nat) c n, cs[i]? = some c -> ns[i]? = some n -> OwnN hq hb.next c n)
  (ka : Built hq hb.next 3 1 av n.args.length (n.args.map (AVal.int .i64))) (kl : Built hq hb.next 9 1 lv n.labels.length (n.labels.map AVal.str))
  (hs3 : hs.objs.get b3 = some (ver, .cells false 24 [vo', .int .i64 root])) (B : Built hs hb.next 36 5 vo' (ns.length + 1) (cs ++ [[.int .i64 n.kind, .str n.name, av, lv, .bool n.isOpen]]).flatten)
  (hk : ∀ c p, hq.objs.get c = some p -> (∀ vs, p.2 ≠ .cells false 36 vs) -> c ≠ b3 -> hs.objs.get c = some p) (h17 : ∃ v vs, hq.objs.get b3 = some (v, .cells false 24 vs)) : RgI hb b3 root (ns ++ [n]) hs := by
 obtain ⟨v17, vs17, o17⟩ := h17
 have hown : ∀ {e : TypeId} {w : AVal} {k base : Nat} {cells : List AVal}, e ≠ 36 -> e ≠ 24 -> Built hq base e 1 w k cells -> Built hs base e 1 w k cells := fun he he' kk => zBM kk fun b p hb ⟨vs, hp⟩ _ => hk b p hb (fun vs' hh => by rw [hp] at hh; cases hh; exact he rfl) (by
  rintro rfl
  rw [o17] at hb
  simp only [oI] at hb
  rw [<- hb] at hp; cases hp; exact he' rfl)
 refine ⟨low, ver, vo', cs ++ [[.int .i64 n.kind, .str n.name, av, lv, .bool n.isOpen]], hs3, by rw [List.length_append]; exact B, by simp [h3], fun i c m hc hm => ?_⟩
 rcases Nat.lt_or_ge i ns.length with hij | hij
 ·rw [List.getElem?_append_left (by omega)] at hc hm
  obtain ⟨av', lv', q1, q2, q3⟩ := h5 i c m hc hm
  exact ⟨av', lv', q1, hown (by decide) (by decide) q2, hown (by decide) (by decide) q3⟩
 ·rw [List.getElem?_append_right (by omega), h3] at hc
  rw [List.getElem?_append_right (by omega)] at hm
  obtain rfl : i = ns.length := by
   have := (List.getElem?_eq_some_iff.1 hc).1
   simp only [zlC, zlN] at this
   omega
  rw [Nat.sub_self, List.getElem?_cons_zero, oI] at hc hm
  subst hc; subst hm
  exact ⟨av, lv, rfl, hown (by decide) (by decide) ka, hown (by decide) (by decide) kl⟩
theorem ring_to (n : Nat) {j : Nat} : ((List.range (j + 1)).map (zIc n)) = (List.range j).map (zIc n) ++ [zIc n j] := by rw [List.range_succ, List.map_append]; rfl
section
variable {fns : FnsT} {summ : SumT}
variable (H : Has fns summ)
include H
theorem SRat1_ok (n : Nat) (hn0 : 0 < n) (hn1 : n <= 12) (h0 : AHeap) (w0 : WF h0) : Cl fns summ 21 [.int .i64 (n : Nat)] h0 fun r h' => Grow h0 h' /\ OwnG h' h0.next r (zCu n) := by
 refine H.go (fn := F_SRat1) rfl (by decide) rfl rfl ?_
 unfold F_SRat1
 dsimp only [qQ, qE, qN, gQ, gE, vi, tm, mt, lo, fa]
 repeat with_reducible first | refine zAE ?_ | refine zAD ?_
 refine zAY w0 ?_
 rintro b2 h1 hb2 g1' o2
 repeat with_reducible first | refine zAA ?_ | refine zAC ?_ | refine zAE ?_ | refine zAD ?_
 refine zAY g1'.wf ?_
 rintro b3 h2 hb3 g2' o3
 have o22 := g2'.keep _ _ o2
 have G2 := g1'.trans g2'
 have n1' := g1'.next
 have I0 : Hid (Grow h0 h2 /\ RgI h0 b3 0 ((List.range 0).map (zIc n)) h2) := ⟨G2, by omega, _, .slice none 0, [], o3, .inl ⟨rfl, rfl, rfl⟩, rfl, fun i c n hc => by simp at hc⟩
 have l2 := g1'.wf.lt o2
 have low : h0.next <= b3 := by omega
 clear o3 g2' g1' G2 o2
 repeat with_reducible first | refine zAA ?_ | refine zAC ?_ | refine zAE ?_ | refine zAD ?_ | (apply st_q; exact q1)
 refine zAz (N := n) (by omega) (fun j a hp => Hid (Grow h0 hp /\ RgI h0 b3 0 ((List.range j).map (zIc n)) hp) /\ (∃ v, hp.objs.get b2 = some (v, .cells false 24 [.slice none 0, .int .i64 0])) /\ a.defers = [] /\ ev a (.tmp 0) = some (.int .i64 (n : Nat)) /\ ev a (.tmp 2) = some (.ptr (some (b2, 0))) /\ ev a (.tmp 3) = some (.ptr (some (b3, 0))))
  (by rintro j a hp t w (rfl | rfl | rfl) ⟨m1, m2, m3, m4, m5, m6⟩ <;> exact ⟨m1, m2, by rw [zAc]; exact m3, by exact e1, by exact e1, by exact e1⟩) (by decide) ?_ ?_ ⟨I0, ⟨_, o22⟩, by exact n1, by exact e1, by exact e1, by exact e1⟩ (by exact e1) (by exact e1)
 ·clear I0 o22
  rintro j a hp hj ⟨I, ⟨v2, o2⟩, hd, t0', t2', t3'⟩ hi hn
  obtain ⟨ver, vo, cs, o3, Bo, lcs, hown⟩ := I.out.2.o
  have lvo := Bo.len
  have wp := I.out.1.wf
  have hw1 : IntKind.i64.wrap (((j : Nat) : Int) + 1) = ((j + 1 : Nat) : Int) := by rw [zAq (by omega) (by omega)]; rfl
  have Bo' := Hid.mk Bo
  have hown' := Hid.mk hown
  clear Bo hown
  repeat with_reducible first | refine zAA ?_ | refine zAC ?_ | refine zAE ?_ | refine zAD ?_ | refine zAP ?_ | refine zBQ ?_ | (apply dr_q; exact q1) | (apply zCs; exact q1; exact og1) | (apply st_q; exact q1)
  have hrm : Int.tmod ((j + 1 : Nat) : Int) ((n : Nat) : Int) = (((j + 1) % n : Nat) : Int) := rfl
  have hnz : ((n : Nat) : Int) ≠ 0 := by omega
  refine dr_q (v := .int .i64 (((j + 1) % n : Nat) : Int)) (by simp only [zFr, zBE, zBS, zBV, Nat.reduceEqDiff, if_true, if_false, numA, zEG]; rw [if_neg hnz, hrm]) ?_
  refine zBD (zLb (u := .str [109]) (v := .str [110, 101, 120, 116]) rfl rfl rfl rfl wp ?_)
  rintro bl h5 hbl g5 ol
  have o35 := g5.keep _ _ o3
  refine zAC ⟨by simp [zAf, Nat.testBit, o35], ?_⟩
  refine zBD (zLb (u := .int .i64 (n : Nat)) (v := .int .i64 (((j + 1) % n : Nat) : Int)) (by exact e1) (by exact e1) rfl rfl g5.wf ?_)
  rintro ba h6 hba g6 oa
  have o36 := g6.keep _ _ o35
  have ol6 := g6.keep _ _ ol
  have g56 := g5.trans g6
  have o26 := g56.keep _ _ o2
  refine zAC ⟨by simp [zAf, Nat.testBit, o36], ?_⟩
  have nx := I.out.1.next
  have n5 := g5.next
  have Ba : Built h6 h0.next 3 1 (.slice (some (ba, 0)) 2) (zIc n j).args.length ((zIc n j).args.map (AVal.int .i64)) := .inr (.inr ⟨ba, _, _, by omega, rfl, oa, by simp [zIc], rfl⟩)
  have Bl : Built h6 h0.next 9 1 (.slice (some (bl, 0)) 2) (zIc n j).labels.length ((zIc n j).labels.map AVal.str) := .inr (.inr ⟨bl, _, _, by omega, rfl, ol6, by simp [zIc], rfl⟩)
  have I6 := Hid.mk (I.out.2.other g56)
  have G6 := Hid.mk (I.out.1.trans g56)
  obtain ⟨ver6, vo6, cs6, q1, q2, q3, q4⟩ := I6.out.o
  have hvo : vo6 = vo := by
   rw [o36] at q1
   simp only [oI, Prod.mk.injEq, AObj.cells.injEq, List.cons.injEq, and_true, true_and] at q1
   exact q1.2.symm
  subst hvo
  have Bo6 := Hid.mk q2
  have q4' := Hid.mk q4
  clear q1 q2 q4
  have w6 := g56.wf
  have Ba' := Hid.mk Ba
  have Bl' := Hid.mk Bl
  clear o35 o3 ol ol6 oa g5 g6 Ba Bl o2 g56
  refine dr_q (v := .agg [.int .i64 3, .str [], .slice (some (ba, 0)) 2, .slice (some (bl, 0)) 2, .bool false]) (by rw [zBh]; simp only [zCw, zBE, zBS, zBV, if_true, if_false, Nat.reduceEqDiff, zAi]; rfl) ?_
  refine zBD (zAp (by exact e1) (cs := [.int .i64 3, .str [], .slice (some (ba, 0)) 2, .slice (some (bl, 0)) 2, .bool false]) rfl rfl rfl w6 ?_)
  rintro bx h12 hbx g12 ox
  have o312 := g12.keep _ _ o36
  have o212 := g12.keep _ _ o26
  refine zAC ⟨by simp [zAf, Nat.testBit, o312], ?_⟩
  have lns : ((List.range j).map (zIc n)).length = j := by simp
  have B12 : Built h12 h0.next 36 5 vo6 j cs6.flatten := by have := Bo6.out.grow g12; rw [lns] at this; exact this
  have n12 := g12.next
  have nn : h0.next <= h12.next := by have := G6.out.next; omega
  refine zBD (zAy (by exact e1) (by exact e1) B12 ox rfl rfl (zDU H (by decide) (le31 (by omega))) g12.wf nn ?_)
  rintro vo' h13 B13 f13 w13 n13 gr13 kp13
  have o313 := kp13 _ _ o312 (zAK B12 o312 fun vs hh => by cases hh)
  have o213 := kp13 _ _ o212 (zAK B12 o212 fun vs hh => by cases hh)
  refine zAC ⟨by simp [zAf, Nat.testBit, o313], ?_⟩
  have lvo' := B13.len
  have g13 := Hid.mk (gr13 h0 w0 (G6.out.trans g12) (Nat.le_refl _))
  have B13' := Hid.mk B13
  have B12' := Hid.mk B12
  have kpx := Hid.mk (fun c p (hc : h6.objs.get c = some p) hn => kp13 c p (g12.keep _ _ hc) hn)
  clear o312 o212 ox g12 f13 gr13 kp13 B13 B12
  repeat with_reducible (apply dr_q; exact q1)
  refine zBD (zAG (by exact e1) (by exact e1) (zAg lvo') rfl w13 o313 (by simp) (by simp only [List.all_cons, List.all_nil, zAR lvo', Bool.and_true]) ?_)
  rintro v14 h14 p14 o14
  refine zAC ⟨by simp [zAf, Nat.testBit], ?_⟩
  simp only [zlT, zlY, zlA, zlC, zlN, zlD, zlZ, zlE, Nat.zero_add, Nat.reduceAdd, zlX, zlK] at o14
  have o214 := p14.keep b2 (by omega) _ o213
  have I14 : Hid (Grow h0 h14 /\ RgI h0 b3 0 ((List.range (j + 1)).map (zIc n)) h14) := ⟨p14.grow h0 w0 g13.out low, by
   rw [ring_to]
   exact RgI.put low Bo6.out q3 q4'.out Ba'.out Bl'.out o14 (by
    rw [List.flatten_append, lns]
    exact zAS (by simpa [zIc] using B13'.out) p14 o313 (fun vs hh => by cases hh)) (fun c p hc hp hne => p14.keep c hne _ (kpx.out c p hc (zAK Bo6.out hc hp))) ⟨_, _, o36⟩⟩
  clear o14 p14 o313 o213 o36 o26 g13
  repeat with_reducible first | refine zAA ?_ | refine zAQ ?_ | refine zBz ?_
  exact ⟨⟨I14, ⟨_, o214⟩, by exact n1, by exact e1, by exact e1, by exact e1⟩, by exact e1, by exact e1⟩
 ·clear I0 o22
  rintro a hp ⟨I, ⟨v2, o2⟩, hd, t0', t2', t3'⟩
  obtain ⟨ver, vo, cs, o3, Bo, lcs, hown⟩ := I.out.2.o
  have lvo := Bo.len
  have wp := I.out.1.wf
  have Bo' := Hid.mk Bo
  have hown' := Hid.mk hown
  have nx := I.out.1.next
  clear Bo hown
  refine zAA ?_
  repeat with_reducible first | refine zAE ?_ | refine zAD ?_ | (apply st_q; exact q1)
  refine st_q (v := .agg [.int .i64 2, .str [105, 110, 116], .slice none 0, .slice none 0, .bool false]) (b := none) (by rw [zBh]; simp only [zCw, zBE, zBS, zBV, if_true, if_false, Nat.reduceEqDiff, zAi]; rfl) ?_
  refine zAp (by exact e1) (cs := [.int .i64 2, .str [105, 110, 116], .slice none 0, .slice none 0, .bool false]) rfl rfl rfl wp ?_
  rintro bx h12 hbx g12 ox
  have o312 := g12.keep _ _ o3
  have o212 := g12.keep _ _ o2
  have lns : ((List.range n).map (zIc n)).length = n := by simp
  have B12 : Built h12 h0.next 36 5 vo n cs.flatten := by have := Bo'.out.grow g12; rw [lns] at this; exact this
  have n12 := g12.next
  refine zAy (by exact e1) (by exact e1) B12 ox rfl rfl (zDU H (by decide) (le31 (by omega))) g12.wf (by omega) ?_
  rintro vo' h13 B13 f13 w13 n13 gr13 kp13
  have o313 := kp13 _ _ o312 (zAK B12 o312 fun vs hh => by cases hh)
  have o213 := kp13 _ _ o212 (zAK B12 o212 fun vs hh => by cases hh)
  have lvo' := B13.len
  have g13 := Hid.mk (gr13 h0 w0 (I.out.1.trans g12) (Nat.le_refl _))
  have B13' := Hid.mk B13
  have kpx := Hid.mk (fun c p (hc : hp.objs.get c = some p) hn => kp13 c p (g12.keep _ _ hc) hn)
  have o3' := Hid.mk o3
  clear o312 o212 ox g12 f13 gr13 kp13 B13 B12 o3 o2
  repeat with_reducible (apply st_q; exact q1)
  refine zAG (by exact e1) (by exact e1) (zAg lvo') rfl w13 o313 (by simp) (by simp only [List.all_cons, List.all_nil, zAR lvo', Bool.and_true]) ?_
  rintro v14 h14 p14 o14
  simp only [zlT, zlY, zlA, zlC, zlN, zlD, zlZ, zlE, Nat.zero_add, Nat.reduceAdd, zlX, zlK] at o14
  have o214 := p14.keep b2 (by omega) _ o213
  have w14 := p14.wf w13
  have I14 : Hid (Grow h0 h14 /\ RgI h0 b3 0 (zCu n).nodes h14) := ⟨p14.grow h0 w0 g13.out low, RgI.put low Bo'.out lcs hown'.out (n := zMw) (av := .slice none 0) (lv := .slice none 0) (.inl ⟨rfl, rfl, rfl⟩) (.inl ⟨rfl, rfl, rfl⟩) o14 (by
    rw [List.flatten_append, lns]
    exact zAS (by simpa [zMw, intL] using B13'.out) p14 o313 (fun vs hh => by cases hh)) (fun c p hc hp hne => p14.keep c hne _ (kpx.out c p hc (zAK Bo'.out hc hp))) ⟨_, _, o3'.out⟩⟩
  have hown14 := Hid.mk I14.out.2.own
  clear p14 o313 o213 g13
  have ht2 : ∀ x y : AVal, List.take 2 [x, y] = [x, y] := fun _ _ => rfl
  repeat with_reducible first | refine zAA ?_ | refine zAC ?_ | refine zAE ?_ | refine zAD ?_ | (apply st_q; exact q1)
  refine zAG (by exact e1) (by exact e1) (by exact cc) rfl w14 o214 (by simp) (by simp only [List.all_cons, List.all_nil, zAR lvo', Bool.true_and, Bool.and_true]; rfl) ?_
  rintro v15 h15 p15 o15
  simp only [zlY, zlA, zlC, zlN, zlD, zlZ, zlE, Nat.zero_add, Nat.reduceAdd, zlX, zlK] at o15
  have hfin : Hid (Grow h0 h15 /\ OwnG h15 h0.next (.agg [vo', .int .i64 0]) (zCu n)) := ⟨p15.grow h0 w0 I14.out.1 (by omega), by
   obtain ⟨ver', vo2, q1, q2⟩ := hown14.out
   rw [o14] at q1
   simp only [oI, Prod.mk.injEq, AObj.cells.injEq, List.cons.injEq, and_true, true_and] at q1
   obtain ⟨_, rfl⟩ := q1
   have h3 : ∀ c p, h14.objs.get c = some p -> ((∃ vs, p.2 = .cells false 36 vs) \/ (∃ vs, p.2 = .cells false 3 vs) \/ ∃ vs, p.2 = .cells false 9 vs) -> c ≠ b2 := fun c p hc hp => by
    rintro rfl
    rw [o214] at hc
    simp only [oI] at hc
    subst hc
    rcases hp with ⟨_, hp⟩ | ⟨_, hp⟩ | ⟨_, hp⟩ <;> cases hp
   exact q2.stay fun c p _ hc hp => p15.keep c (h3 c p hc hp) _ hc⟩
  have hp2 : zBC (some 2) [vo', .int .i64 0] 0 = some (.agg [vo', .int .i64 0]) := rfl
  clear p15 o14 o214
  repeat' with_reducible first | refine zAA ?_ | refine zAC ?_ | refine zAO ?_ | (apply zAI; exact n1; exact r1)
  exact hfin.out
end
end Go.Ab.S
end
section
namespace Go.Ab.S
open Go Go.Ab
set_option maxHeartbeats 8000000
theorem ring_left (n : Nat) : zAk [] (zCu n).nodes 0 = n * 2 := by
 rw [zCO, zCu, List.map_append, List.sum_append, List.map_map]
 have h1 : ((List.range n).map ((fun m : Node => m.args.length) ∘ zIc n)) = (List.range n).map fun _ => 2 := List.map_congr_left fun i _ => by simp [zIc]
 rw [h1, zOb]
 simp [zMw]
theorem ring_sm {a b : Nat} (ha : a <= 12) (hb : b <= 12) : MeetSm (zCu a) (zCu b) := .of (N := 26) (L := 48) (ring_tiny ha) (ring_tiny hb) (by rw [zFc, zFc]; omega) (by rw [ring_left, ring_left]; omega) (by decide) (by decide) (by decide)
theorem ring_gti {a b : Nat} (a0 : 0 < a) (b0 : 0 < b) (ha : a <= 12) (hb : b <= 12) {m : Graph} (h : MR (zCu a) (zCu b) m) : GTi m := h.gti (N := 26) (L := 48) (zGs a0 (by omega)) (zGs b0 (by omega)) (ring_tiny ha) (ring_tiny hb) (by rw [zFc, zFc]; omega) (by rw [ring_left, ring_left]; omega) (by decide) (by decide)
section
variable {fns : FnsT} {summ : SumT}
variable (H : Has fns summ) (HS : HasSort summ) (HA : HasAs summ) (HR : HasRead summ)
include H HS HA HR
theorem SolveRational_ok (x y : Nat) (hx : x < 256) (hy : y < 256) (h0 : AHeap) (w0 : WF h0) : Cl fns summ 7 [.int .u8 (x : Nat), .int .u8 (y : Nat)] h0 fun r h' => r = .bool true /\ Grow h0 h' := by
 have ht2 : ∀ x y : AVal, List.take 2 [x, y] = [x, y] := fun _ _ => rfl
 refine H.go (fn := F_SolveRational) rfl (by decide) rfl rfl ?_
 unfold F_SolveRational
 dsimp only [qQ, qE, qN, gQ, gE, vi, tm, mt, lo, fa]
 repeat with_reducible first | refine zAA ?_ | refine zAC ?_ | refine zAE ?_ | refine zAD ?_ | (apply st_q; exact q1)
 refine zAb (by exact s1) ((zMb H HS HA HR h0 w0).mono ?_)
 rintro _ h1 ⟨rfl, G⟩
 obtain ⟨a, ha⟩ : ∃ a, a = x % 12 + 1 := ⟨_, rfl⟩
 obtain ⟨b, hb⟩ : ∃ b, b = y % 12 + 1 := ⟨_, rfl⟩
 have a0 : 0 < a := by omega
 have a1 : a <= 12 := by omega
 have b0 : 0 < b := by omega
 have b1 : b <= 12 := by omega
 have wx : IntKind.i64.wrap ((x : Nat) : Int) = ((x : Nat) : Int) := zAq (by omega) (by omega)
 have wy : IntKind.i64.wrap ((y : Nat) : Int) = ((y : Nat) : Int) := zAq (by omega) (by omega)
 have hax : IntKind.i64.wrap (((x % 12 : Nat) : Int) + 1) = ((a : Nat) : Int) := by rw [zAq (by omega) (by omega)]; omega
 have hby : IntKind.i64.wrap (((y % 12 : Nat) : Int) + 1) = ((b : Nat) : Int) := by rw [zAq (by omega) (by omega)]; omega
 clear ha hb
 repeat with_reducible first | refine zAA ?_ | refine zAC ?_ | refine zAE ?_ | refine zAD ?_ | refine zAT ?_ | (apply st_q; exact q1) | (apply zAL; exact e1)
 refine st_q (v := .int .i64 ((x % 12 : Nat) : Int)) (b := none) (by simp only [zFr, zBE, zBS, zBV, Nat.reduceEqDiff, if_true, if_false, numA, zEG]; rw [if_neg (by decide)]; rfl) ?_
 repeat with_reducible (apply st_q; exact q1)
 refine zFe (by exact e1) (by exact s1) ((SRat1_ok H a a0 a1 h1 G.wf).mono ?_)
 rintro rx h2 ⟨g2, own1⟩
 obtain ⟨nx, csx, rfl, kx, _⟩ := id own1
 have onex := zAR kx.len
 have own1' := Hid.mk own1
 clear own1 kx
 replace G := G.trans g2
 have g2' := Hid.mk g2
 clear g2
 repeat with_reducible (apply st_q; exact q1)
 refine st_q (v := .int .i64 ((y % 12 : Nat) : Int)) (b := none) (by simp only [zFr, zBE, zBS, zBV, Nat.reduceEqDiff, if_true, if_false, numA, zEG]; rw [if_neg (by decide)]; rfl) ?_
 repeat with_reducible (apply st_q; exact q1)
 refine zFe (by exact e1) (by exact s1) ((SRat1_ok H b b0 b1 h2 G.wf).mono ?_)
 rintro ry h3 ⟨g3, own2⟩
 obtain ⟨ny, csy, rfl, ky, _⟩ := id own2
 have oney := zAR ky.len
 have own1 := Hid.mk (own1'.out.grow g3)
 have own2' := Hid.mk own2
 clear own2 ky own1'
 replace G := G.trans g3
 clear g3
 skip
 refine zAY G.wf ?_
 rintro b6 h4 hb6 g4 o6
 have l6 := g4.wf.lt o6
 refine zAY g4.wf ?_
 rintro b7 h5 hb7 g5 o7
 replace o6 := g5.keep _ _ o6
 refine zAG (v := .agg [nx, .int .i64 (zCu a).root]) (by exact e1) (by exact e1) (cs := [nx, .int .i64 (zCu a).root]) rfl rfl g5.wf o6 (by simp) (by simp only [List.all_cons, List.all_nil, onex, Bool.true_and, Bool.and_true]; rfl) ?_
 rintro v6 h6 p6 o6'
 simp only [zlY, zlA, zlC, zlN, zlD, zlZ, zlE, Nat.zero_add, Nat.reduceAdd, zlX, zlK] at o6'
 have o76 := p6.keep b7 (by omega) _ o7
 have g6 : Grow h3 h6 := p6.grow h3 G.wf (g4.trans g5) hb6
 refine zAG (v := .agg [ny, .int .i64 (zCu b).root]) (by exact e1) (by exact e1) (cs := [ny, .int .i64 (zCu b).root]) rfl rfl g6.wf o76 (by simp) (by simp only [List.all_cons, List.all_nil, oney, Bool.true_and, Bool.and_true]; rfl) ?_
 rintro v7 h7 p7 o7'
 simp only [zlY, zlA, zlC, zlN, zlD, zlZ, zlE, Nat.zero_add, Nat.reduceAdd, zlX, zlK] at o7'
 have n4 := g4.next
 have g7 : Grow h3 h7 := p7.grow h3 G.wf g6 (by omega)
 have o67 := p7.keep b6 (by omega) _ o6'
 have gx := Hid.mk ((own1.out.grow g7).graph)
 have gy := Hid.mk ((own2'.out.grow g7).graph)
 replace G := G.trans g7
 clear o6 o7 o76 p6 p7 o6' g4 g5 g6 g7 own1 own2' hb6 hb7
 repeat with_reducible first | refine zAA ?_ | refine zAC ?_ | refine zAE ?_ | refine zAD ?_ | (apply st_q; exact q1)
 have rl := rat_law a0 a1 b0 b1
 refine zAb (by exact s1) ((Meet' H HS HA (zCu a) (zCu b) (ring_sm a1 b1) G.wf gx.out gy.out).mono ?_)
 rintro _ h8 ⟨g8, uv, code, rfl, hc⟩
 obtain ⟨m, rfl, hm, own⟩ : ∃ m, code = 0 /\ MR (zCu a) (zCu b) m /\ OwnG h8 h7.next uv m := by
  rcases hc with ⟨rfl, m, hm, own⟩ | ⟨_, _, k⟩
  ·exact ⟨m, rfl, hm, own⟩
  ·exact absurd rl.1 (k (zGs a0 (by omega)) (zGs b0 (by omega))).2
 obtain ⟨nm, rfl, Nm, om⟩ := zFW own.graph
 have hM : Hid (GTi m /\ zFJ m (zCu a) = true /\ zFJ m (zCu b) = true /\ zFJ m (zCu 1) = true) := ⟨ring_gti a0 b0 a1 b1 hm, rl.2 m hm⟩
 replace gx := Hid.mk (show GraphAt h8 (.agg [nx, .int .i64 (zCu a).root]) (zCu a) from by obtain ⟨q, hq, hn⟩ := gx.out; exact ⟨q, hq, hn.mono g8⟩)
 replace gy := Hid.mk (show GraphAt h8 (.agg [ny, .int .i64 (zCu b).root]) (zCu b) from by obtain ⟨q, hq, hn⟩ := gy.out; exact ⟨q, hq, hn.mono g8⟩)
 have gm := Hid.mk own.graph
 replace o7' := g8.keep _ _ o7'
 replace o67 := g8.keep _ _ o67
 replace G := G.trans g8
 clear hc own hm rl g8 Nm
 repeat with_reducible (apply st_q; exact q1)
 refine zAY G.wf ?_
 rintro b8 h9 hb8 g9 o8
 refine zAG (v := .agg [nm, .int .i64 m.root]) (by exact e1) (by exact e1) (cs := [nm, .int .i64 m.root]) rfl rfl g9.wf o8 (by simp) (by simp only [List.all_cons, List.all_nil, om, Bool.true_and, Bool.and_true]; rfl) ?_
 rintro v10 h10 p10 o8'
 simp only [zlY, zlA, zlC, zlN, zlD, zlZ, zlE, Nat.zero_add, Nat.reduceAdd, zlX, zlK] at o8'
 have g10 : Grow h8 h10 := p10.grow h8 G.wf g9 hb8
 replace gx := Hid.mk (show GraphAt h10 (.agg [nx, .int .i64 (zCu a).root]) (zCu a) from by obtain ⟨q, hq, hn⟩ := gx.out; exact ⟨q, hq, hn.mono g10⟩)
 replace gy := Hid.mk (show GraphAt h10 (.agg [ny, .int .i64 (zCu b).root]) (zCu b) from by obtain ⟨q, hq, hn⟩ := gy.out; exact ⟨q, hq, hn.mono g10⟩)
 replace gm := Hid.mk (show GraphAt h10 (.agg [nm, .int .i64 m.root]) m from by obtain ⟨q, hq, hn⟩ := gm.out; exact ⟨q, hq, hn.mono g10⟩)
 replace o7' := g10.keep _ _ o7'
 replace o67 := g10.keep _ _ o67
 replace G := G.trans g10
 clear o8 p10 g9 g10 hb8
 refine zIN (fun A => A.defers = [] /\ ev A (.tmp 5) = some (.func 21 [] []) /\ ev A (.tmp 6) = some (.ptr (some (b6, 0))) /\ ev A (.tmp 7) = some (.ptr (some (b7, 0))) /\ ev A (.tmp 8) = some (.ptr (some (b8, 0))) /\ ev A (.tmp 29) = some (.int .i64 0)) ⟨by exact n1, by exact e1, by exact e1, by exact e1, by exact e1, by exact e1⟩ ?_
 rintro A ⟨hd, t5', t6', t7', t8', t29'⟩
 have h00 : ((0 : Int) == 0) = true := rfl
 repeat with_reducible first | refine zAA ?_ | refine zAC ?_ | refine zAE ?_ | refine zBQ ?_ | (apply dr_gT; exact e1) | (apply dr_q; exact q1) | (apply zCs; exact q1; exact og1) | (apply st_q; exact q1)
 refine zBD (zAb (by exact s1) ((Same_ok H m (zCu a) hM.out.1 (ring_tiny a1) _ _ _ G.wf gm.out gx.out).mono ?_))
 rintro _ h11 ⟨rfl, g11⟩
 replace gx := Hid.mk (show GraphAt h11 (.agg [nx, .int .i64 (zCu a).root]) (zCu a) from by obtain ⟨q, hq, hn⟩ := gx.out; exact ⟨q, hq, hn.mono g11⟩)
 replace gy := Hid.mk (show GraphAt h11 (.agg [ny, .int .i64 (zCu b).root]) (zCu b) from by obtain ⟨q, hq, hn⟩ := gy.out; exact ⟨q, hq, hn.mono g11⟩)
 replace gm := Hid.mk (show GraphAt h11 (.agg [nm, .int .i64 m.root]) m from by obtain ⟨q, hq, hn⟩ := gm.out; exact ⟨q, hq, hn.mono g11⟩)
 replace o7' := g11.keep _ _ o7'
 replace o67 := g11.keep _ _ o67
 replace o8' := g11.keep _ _ o8'
 replace G := G.trans g11
 rw [hM.out.2.1]
 refine zAC ⟨by simp [zAf, Nat.testBit, o7', o67, o8'], ?_⟩
 clear g11
 repeat with_reducible first | (apply dr_gT; exact e1) | (apply dr_q; exact q1) | (apply zCs; exact q1; exact og1)
 refine zBD (zAb (by exact s1) ((Same_ok H m (zCu b) hM.out.1 (ring_tiny b1) _ _ _ G.wf gm.out gy.out).mono ?_))
 rintro _ h12 ⟨rfl, g12⟩
 replace gx := Hid.mk (show GraphAt h12 (.agg [nx, .int .i64 (zCu a).root]) (zCu a) from by obtain ⟨q, hq, hn⟩ := gx.out; exact ⟨q, hq, hn.mono g12⟩)
 replace gy := Hid.mk (show GraphAt h12 (.agg [ny, .int .i64 (zCu b).root]) (zCu b) from by obtain ⟨q, hq, hn⟩ := gy.out; exact ⟨q, hq, hn.mono g12⟩)
 replace gm := Hid.mk (show GraphAt h12 (.agg [nm, .int .i64 m.root]) m from by obtain ⟨q, hq, hn⟩ := gm.out; exact ⟨q, hq, hn.mono g12⟩)
 replace o7' := g12.keep _ _ o7'
 replace o67 := g12.keep _ _ o67
 replace o8' := g12.keep _ _ o8'
 replace G := G.trans g12
 rw [hM.out.2.2.1]
 refine zAC ⟨by simp [zAf, Nat.testBit, o7', o67, o8'], ?_⟩
 clear g12
 repeat with_reducible first | (apply dr_gT; exact e1) | (apply dr_q; exact q1) | (apply zCs; exact q1; exact og1)
 refine zBD (zFe (by exact e1) (by exact s1) ((SRat1_ok H 1 (by decide) (by decide) h12 G.wf).mono ?_))
 rintro r1 h13 ⟨g13, own3⟩
 replace gx := Hid.mk (show GraphAt h13 (.agg [nx, .int .i64 (zCu a).root]) (zCu a) from by obtain ⟨q, hq, hn⟩ := gx.out; exact ⟨q, hq, hn.mono g13⟩)
 replace gy := Hid.mk (show GraphAt h13 (.agg [ny, .int .i64 (zCu b).root]) (zCu b) from by obtain ⟨q, hq, hn⟩ := gy.out; exact ⟨q, hq, hn.mono g13⟩)
 replace gm := Hid.mk (show GraphAt h13 (.agg [nm, .int .i64 m.root]) m from by obtain ⟨q, hq, hn⟩ := gm.out; exact ⟨q, hq, hn.mono g13⟩)
 replace o7' := g13.keep _ _ o7'
 replace o67 := g13.keep _ _ o67
 replace o8' := g13.keep _ _ o8'
 replace G := G.trans g13
 have o1g := Hid.mk own3.graph
 obtain ⟨n1v, q1v, _, on1v⟩ := zFW own3.graph
 subst q1v
 refine zAC ⟨by simp [zAf, Nat.testBit, o7', o67, o8'], ?_⟩
 clear g13 own3
 repeat with_reducible (apply dr_gT; exact e1)
 refine zBD (zAb (by exact s1) ((Same_ok H m (zCu 1) hM.out.1 (ring_tiny (by decide)) _ _ _ G.wf gm.out o1g.out).mono ?_))
 rintro _ h14 ⟨rfl, g14⟩
 replace o7' := g14.keep _ _ o7'
 replace o67 := g14.keep _ _ o67
 replace o8' := g14.keep _ _ o8'
 replace G := G.trans g14
 rw [hM.out.2.2.2]
 refine zAC ⟨by simp [zAf, Nat.testBit, o7', o67, o8'], ?_⟩
 clear g14 gm gx gy o1g
 repeat' with_reducible first | refine zAA ?_ | refine zAO ?_ | refine zBz ?_ | (apply dr_q; exact q1) | (apply zAI; exact n1; exact r1)
 exact ⟨rfl, G⟩
end
end Go.Ab.S
end
section
namespace Go.Proofs.YtpmndmiohaaokaaGreatDoor
open Go
noncomputable def zNq (os : Os) : World :=
 { World.holding Tryz.prog os ⟨#[], #[], []⟩ with heap := (World.holding Tryz.prog os ⟨#[], #[], []⟩).heap.modify 0 fun
   | .cells _ t frozen => .cells #[.iface 157 (.agg #[.pointer (some ⟨12, 60, none⟩)])] t frozen
   | o => o }
def zEN : List (String × DataW Unit) := zNy.filter fun x => x.2.handleName?.isNone
noncomputable def laidW (os : Os) : World := (zNq os).layVars Tryz.prog zEN
theorem laidW_os (os : Os) : (laidW os).os = os := World.layVars_os _ _ _
noncomputable abbrev zNt (os : Os) (args : Array Value) : World := (laidW os).forCall (fun _ _ => 0) ⟨#[], args, []⟩
theorem noGreat : (zEN.filter fun x => !(zEN.map (·.1)).contains x.1) = [] := by kernel_rfl
set_option maxRecDepth 100000 in
theorem laid_met (os : Os) (args : Array Value) : laidMetH Tryz.prog zNy (zNt os args).memory := by
 refine laidMetH_of_parts ?_ (by kernel_rfl)
 have h : laidMet Tryz.prog zEN (laidW os) := laidMet_layVars (w0 := zNq os) (zEN.map (·.1)) [] (by kernel_rfl) (by kernel_rfl) (by kernel_rfl) (by rw [noGreat]; exact LaidIn.none)
 exact h.of_heap (by simp [zNt, World.memory, World.forCall, Input.heap])
set_option maxRecDepth 100000 in
theorem w_vars (os : Os) (args : Array Value) : (zNt os args).variablesRefB Tryz.prog = true := by kernel_rfl
set_option maxRecDepth 100000 in
theorem w_rest (os : Os) (args : Array Value) : ((zNt os args).heap.toList.drop Tryz.prog.globals.size).take ((begin Tryz.prog (fun _ _ => 0) default).world.heap.size - Tryz.prog.globals.size) =
      (begin Tryz.prog (fun _ _ => 0) default).world.heap.toList.drop Tryz.prog.globals.size := by kernel_rfl
end Go.Proofs.YtpmndmiohaaokaaGreatDoor
end
section
namespace Go.Proofs.YtpmndmiohaaokaaGreatDoor
open Go
open Go.ChangeShapes Go.WideShapes Go.ChangeAt Go.RowKit
theorem own : ownKnob Tryz.prog.godebug = none := by kernel_rfl
def Contract : Prop := ∀ (H : Type) (enc : TypeId × Value -> H) (W : World) (base : Nat) (args : Array Value) (ds gs : List (DataW H)) (before : List MemPlace),
  (∀ (j : Nat) t v, Tryz.f7.params[j]? = some t -> args[j]? = some v -> Value.okWide Tryz.prog W .any base t v) →
  (DataW.Whole enc Tryz.prog Tryz.f7.params.toList Rows.solveRationalSpec.vars false W args.toList ds gs before) -> (laidMetH Tryz.prog zNy W) -> (W.ShapedOpen Tryz.prog) →
  Calls Tryz.prog 7 args W fun e W' => ∃ v, e = .returned v /\ Rows.solveRationalSpec.post enc Tryz.prog Tryz.f7 false true false false W args v W'
def noneV : Array Value := #[.int .u8 0, .int .u8 0]
theorem reads (os : Os) {H : Type} (enc : TypeId × Value -> H) : ∃ places, DataW.whole enc Tryz.prog (zNt os noneV).memory Tryz.f7.params.toList Rows.solveRationalSpec.vars false noneV.toList 8 = some ([.lit (.int .u8 0), .lit (.int .u8 0)], [], places) :=
 ⟨[], by kernel_rfl⟩
set_option maxRecDepth 100000 in
theorem lifted (os : Os) (started : os.Started) (H : Type) (enc : TypeId × Value -> H) (F : Stop.Interp) (hC : Contract) :
  ReturnsInHanded {} Tryz.checked os 7 .any ((OpenSpec.ofChange Rows.solveRationalSpec).preRow enc Tryz.prog Tryz.f7 Rows.solveRationalRow.domain false Rows.solveRationalRow.laid) (((OpenSpec.ofChange Rows.solveRationalSpec).at F).post enc Tryz.prog Tryz.f7 false true false false) := by
 obtain ⟨places, hx⟩ := reads os enc
 refine returnsInHanded_of_row (C := Tryz.checked) (s := OpenSpec.ofChange Rows.solveRationalSpec) own started (by kernel_rfl) Tryz.func7
  (witness_row_atRef (enc := enc) (C := Tryz.checked) false (laidW os) noneV (laidW_os os) (w_vars os _) (w_rest os _) (by kernel_rfl)
   (OpenSpec.preRow_of_cond 8 hx (by kernel_rfl) (fun k hk => by cases hk) (by kernel_rfl) (laid_met os _))) ?_
 intro W base args ds gs before hval hW _ _ _ hL hS _
 exact hC H enc W base args ds gs before hval hW hL hS
theorem said (hC : Contract) : Rows.SolveRationalSaid :=
 OpenClaim.holds_of_cond 7 Tryz.f7 rfl rfl rfl rfl rfl rfl rfl ⟨rfl, rfl, rfl, rfl, rfl⟩ rfl rfl rfl rfl rfl (by kernel_rfl) Tryz.func7 (by kernel_rfl)
  (of_decide_eq_true (by kernel_rfl)) (by unfold Func.isWrapper; first | (rw [if_pos (by decide +kernel)]; kernel_rfl) | (rw [if_neg (by decide +kernel)]; exact ⟨rfl, rfl⟩))
  (fun os started H enc _ F => by rw [OpenClaim.pre_eq_preRow]; exact lifted os started H enc F hC)
theorem plain (f : FuncId) (fn : Func) (hf : Tryz.pinned.checked.prog.funcNamed "trefoil/trefoillaw08.SolveRational" = some f) (hfn : Tryz.pinned.checked.prog.funcs[f]? = some fn) :
  true = Tryz.pinned.checked.prog.looks [] /\ ∀ (j : Nat) t, fn.params[j]? = some t -> Tryz.pinned.checked.prog.wantsStandIn t = false := by
 obtain rfl : f = 7 := Option.some.inj ((show Tryz.prog.funcNamed "trefoil/trefoillaw08.SolveRational" = some 7 by kernel_rfl).symm.trans hf) |>.symm
 obtain rfl : fn = Tryz.f7 := (Option.some.inj (Tryz.func7.symm.trans hfn)).symm
 refine ⟨by kernel_rfl, fun j t ht => ?_⟩
 rw [Tryz.params7] at ht
 match j, ht with
 | 0, ht =>
  obtain rfl : t = 5 := by simpa using ht.symm
  exact (show Tryz.prog.wantsStandIn 5 = false by kernel_rfl)
 | 1, ht =>
  obtain rfl : t = 5 := by simpa using ht.symm
  exact (show Tryz.prog.wantsStandIn 5 = false by kernel_rfl)
 | j + 2, ht => simp at ht
theorem cardOf (hC : Contract) : Rows.SolveRationalCardSaid :=
 Claim7.holds_tied_plain_at .later [] _ _ _ _ (said hC) (fun _ h => by cases h) (by kernel_rfl) (fun _ h => by cases h) solveRational_row_tie rfl ⟨rfl, rfl⟩ (by kernel_rfl) rfl plain (by kernel_rfl)
end Go.Proofs.YtpmndmiohaaokaaGreatDoor
end
