import Derived.Test.YtpmndmiohaaokaaGreatDoorP17
/-
  Part 18 of the proof.
-/
set_option linter.all false
section
namespace Go.Ab.S
open Go Go.Ab
set_option maxHeartbeats 8000000
theorem But.of {bo : Nat} {h hp hq : AHeap} (w : WF h) (B : But bo h hp) (wq : WF hq) (n : h.next <= hq.next) (kp : ∀ c p, c < h.next -> hp.objs.get c = some p -> hq.objs.get c = some p) : But bo h hq :=
 ⟨n, fun c hc p hg => kp c p (w.lt hg) (B.keep c hc p hg), fun h0 w0 g hb => ⟨wq, Nat.le_trans g.next n, fun c p hg => by
  have hl := w0.lt hg
  have h1 := g.keep _ _ hg
  exact kp c p (w.lt h1) (B.keep c (by omega) p h1)⟩, fun _ => wq⟩
section
variable {fns : FnsT} {summ : SumT} {ro : Option Nat}
theorem zFe {d : Option Tmp} {f : FuncId} {x : AOpd} {first caps : List AVal} {xs : List AOpd} {l : List Step} {a : AAct} {h : AHeap} {K : AAct -> AHeap -> Prop} {vs : List AVal} (hx : ev a x = some (.func f first caps)) (hv : evs a xs = some vs) (k : Cl fns summ f (first ++ vs ++ caps) h fun v h => St fns summ ro l (putA a d v) h K) :
  St fns summ ro (⟨d, none, .e (.call x xs)⟩ :: l) a h K := st_e (zFy hx hv (zGm k))
end
structure Ask (fns : FnsT) (summ : SumT) (bo : Nat) (h : AHeap) (f : FuncId) (caps : List AVal) (F : Int -> Int) (A : Int -> Prop) (P : AHeap -> Prop) : Prop where
 keep : ∀ hp hq, P hp -> WF hq -> hp.next <= hq.next -> (∀ c p, c < h.next -> hp.objs.get c = some p -> hq.objs.get c = some p) -> P hq
 call : ∀ a, A a -> ∀ hp, WF hp -> P hp -> Cl fns summ f ([] ++ [.int .i64 a] ++ caps) hp fun r h' => r = .int .i64 (F a) /\ But bo hp h' /\ P h'
structure NoI (bo : Nat) (h : AHeap) (P : AHeap -> Prop) (b5 : Nat) (c : Clz) (as : List Int) (ls : List (List Nat)) (hp : AHeap) : Prop where
 wf : WF hp
 but : But bo h hp
 p : P hp
 low : h.next <= b5
 o : ∃ ver va vl, hp.objs.get b5 = some (ver, .cells false 36 [.int .i64 c.kind, .str c.name, va, vl, .bool c.isOpen]) /\ Built hp h.next 3 1 va as.length (as.map (AVal.int .i64)) /\ Built hp h.next 9 1 vl ls.length (ls.map AVal.str)
theorem zDK {h : AHeap} {base : Nat} {e : TypeId} {sz n k c : Nat} {v : AVal} {cells : List AVal} (B : Built h base e sz v n cells) (hv : v = .slice (some (c, 0)) k) : base <= c := by
 subst hv
 rcases B with ⟨h1, _⟩ | ⟨h1, _⟩ | ⟨b, vs, ver, h0, h1, _⟩
 ·cases h1
 ·cases h1
 ·cases h1; exact h0
theorem zMz {summ : SumT} (HS : HasSort summ) {l : List (List Nat)} (hb8 : BytesL l) (hl : l.length <= 2 ^ 31) {hp : AHeap} {base : Nat} {v : AVal} (w : WF hp) (B : Built hp base 9 1 v l.length (l.map AVal.str)) :
  ∃ hq, summ 56 [v] hp = some (.ret (.tuple [], hq)) /\ Built hq base 9 1 v (zET l).length ((zET l).map AVal.str) /\ WF hq /\ hp.next <= hq.next /\ ∀ c p, hp.objs.get c = some p -> (∀ n, v ≠ .slice (some (c, 0)) n) -> hq.objs.get c = some p := by
 have hsn : l.length = 0 -> (zET l).length = 0 /\ (zET l).map AVal.str = [] := fun h => by
  have h1 := zGe l
  refine ⟨by omega, ?_⟩
  rw [List.length_eq_zero_iff.1 (show (zET l).length = 0 by omega)]; rfl
 rcases B with ⟨rfl, h0, _⟩ | ⟨rfl, h0, _⟩ | ⟨b, vs, ver, hb, rfl, ob, hlen, htk⟩
 ·exact ⟨hp, HS.none hp, .inl ⟨rfl, hsn h0⟩, w, Nat.le_refl _, fun _ _ h _ => h⟩
 ·exact ⟨hp, HS.zero hp, .inr (.inl ⟨rfl, hsn h0⟩), w, Nat.le_refl _, fun _ _ h _ => h⟩
 ·rw [Nat.mul_one] at hlen htk
  have pb := zEY w ob (.cells false 9 ((zET l).map AVal.str ++ vs.drop l.length))
  refine ⟨_, HS.some l hb8 hl hp b ver vs w ob hlen htk, .inr (.inr ⟨b, _, _, hb, by rw [zGe], zAh _ _ _, by simp [zGe], by simp⟩), pb.wf w, pb.next, fun c p hc hn => pb.keep c (by rintro rfl; exact hn _ rfl) p hc⟩
section
variable {fns : FnsT} {summ : SumT} {bo b5 : Nat} {h hp hq : AHeap} {f : FuncId} {caps : List AVal} {F : Int -> Int} {A : Int -> Prop} {P : AHeap -> Prop} {c : Clz} {as : List Int} {ls : List (List Nat)}
theorem NoI.more (I : NoI bo h P b5 c as ls hp) (w : WF h) (K : Ask fns summ bo h f caps F A P) (g : Grow hp hq) : NoI bo h P b5 c as ls hq := by
 obtain ⟨ver, va, vl, o5, Ba, Bl⟩ := I.o
 have n := I.but.next
 have kk : ∀ c p, c < h.next -> hp.objs.get c = some p -> hq.objs.get c = some p := fun c p _ hc => g.keep _ _ hc
 exact ⟨g.wf, But.of w I.but g.wf (Nat.le_trans n g.next) kk, K.keep hp hq I.p g.wf g.next kk, I.low, ver, va, vl, g.keep _ _ o5, Ba.grow g, Bl.grow g⟩
theorem NoI.iter (I : NoI bo h P b5 c as ls hp) (w : WF h) (K : Ask fns summ bo h f caps F A P) {bi : Nat} {p : Nat × AObj} (hi : hp.objs.get bi = some p) (hl : h.next <= bi) (hn : ∀ ro e vs, p.2 ≠ .cells ro e vs) (B : But bi hp hq) : NoI bo h P b5 c as ls hq := by
 obtain ⟨ver, va, vl, o5, Ba, Bl⟩ := I.o
 have n := I.but.next
 have wq := B.wf I.wf
 have kk : ∀ c p, c < h.next -> hp.objs.get c = some p -> hq.objs.get c = some p := fun c p hc hg => B.keep _ (by omega) _ hg
 exact ⟨wq, But.of w I.but wq (Nat.le_trans n B.next) kk, K.keep hp hq I.p wq B.next kk, I.low, ver, va, vl, B.keep _ (by rintro rfl; rw [hi] at o5; cases o5; exact hn _ _ _ rfl) _ o5, zAS Ba B hi (fun vs => hn _ _ _), zAS Bl B hi (fun vs => hn _ _ _)⟩
end
section
variable {fns : FnsT} {summ : SumT}
variable (H : Has fns summ)
include H
theorem node_ok (HS : HasSort summ) (c : Clz) (hk : c.kind ≠ 3 -> c.fields = []) (nd : (c.fields.map (·.1)).Nodup) (by8 : BytesL (c.fields.map (·.1))) (hla : c.args.length <= 2 ^ 20) (hlf : c.fields.length <= 2 ^ 20) {h0 h : AHeap} (w0 : WF h0) (G : Grow h0 h) {bo : Nat} (hbo : h0.next <= bo) (hbo' : bo < h.next)
  {cs : List AVal} (hc : ClzAt h0 h cs c) (hcl : ∃ ver e vs, h.objs.get bo = some (ver, .cells false e vs)) {f : FuncId} {caps : List AVal} {F : Int -> Int} {A : Int -> Prop} {P : AHeap -> Prop} (K : Ask fns summ bo h f caps F A P) (hA : ∀ a ∈ c.args, A a) (hAf : ∀ p ∈ c.fields, A p.2) (hP : P h) :
  Cl fns summ 30 [.agg cs, .func f [] caps] h fun r h' => ∃ ls av lv, r = zEj (zGo c F ls) av lv /\ Rises ls /\ (∀ l, l ∈ ls ↔ ∃ a, (l, a) ∈ c.fields) /\ Built h' h.next 3 1 av (zGo c F ls).args.length ((zGo c F ls).args.map (AVal.int .i64)) /\ Built h' h.next 9 1 lv ls.length (ls.map AVal.str) /\ But bo h h' /\ WF h' /\ P h' := by
 obtain ⟨av, mv, rfl, hav, hm0, hm3⟩ := hc
 have w := G.wf
 have hlav := hav.len
 unfold clzC
 refine H.go (fn := F_snode) rfl (by decide) rfl rfl ?_
 unfold F_snode
 dsimp only [qQ, qE, qN, gQ, gE, vi, tm, mt, lo, fa]
 refine zAE (zAD ?_)
 refine zBL (by exact e1) (by exact cc) w ?_
 rintro b2 h1 hb2 g1' o2
 refine zAY g1'.wf ?_
 rintro b4 h2 hb4 g2' o4
 have l2 := g1'.wf.lt o2
 have l4 := g2'.wf.lt o4
 replace o2 := g2'.keep _ _ o2
 have ht5 : ∀ p q r s t : AVal, List.take 5 [p, q, r, s, t] = [p, q, r, s, t] := fun _ _ _ _ _ => rfl
 repeat with_reducible first | refine zAA ?_ | refine zAC ?_ | refine zAE ?_ | refine zAD ?_ | (apply st_q; exact q1)
 refine st_q (v := .agg [.int .i64 c.kind, .str c.name, .slice none 0, .slice none 0, .bool c.isOpen]) (b := none) (by rw [zBh]; simp only [zCw, zBE, zBS, zBV, if_true, if_false, Nat.reduceEqDiff, zAi]; rfl) ?_
 refine zAY g2'.wf ?_
 rintro b5 h3 hb5 g3' o5
 replace o2 := g3'.keep _ _ o2
 replace o4 := g3'.keep _ _ o4
 refine zAG (by exact e1) (by exact e1) (by exact cc) rfl g3'.wf o5 (by simp) rfl ?_
 rintro v5 h4 p4 o5'
 simp only [zlY, zlA, zlC, zlN, zlD, zlZ, zlE, Nat.zero_add, Nat.reduceAdd, zlX, zlK] at o5'
 have g03 : Grow h h3 := (g1'.trans g2').trans g3'
 have n1' := g1'.next
 have n2' := g2'.next
 have n3' := g3'.next
 have w4 := p4.wf g3'.wf
 have nx4 : h.next <= h4.next := by have := p4.next; omega
 have hkp : ∀ c' p, c' < h.next -> h.objs.get c' = some p -> h4.objs.get c' = some p := fun c' p hl hg => p4.keep c' (by omega) p (g03.keep _ _ hg)
 have I0 : NoI bo h P b5 c [] [] h4 := ⟨w4, But.of w (zLo _ _) w4 nx4 hkp, K.keep h h4 hP w4 nx4 hkp, by omega, _, _, _, o5', .inl ⟨rfl, rfl, rfl⟩, .inl ⟨rfl, rfl, rfl⟩⟩
 have k2 := p4.keep b2 (by omega) _ o2
 have k4 := p4.keep b4 (by omega) _ o4
 clear o2 o4 o5 o5' p4 g03 g1' g2' g3' hkp
 repeat with_reducible first | refine zAA ?_ | refine zAC ?_ | refine zAE ?_ | refine zAD ?_ | (apply st_q; exact q1)
 refine zAz (N := c.args.length) (by omega) (fun j a hp => NoI bo h P b5 c ((c.args.take j).map F) [] hp /\ (∃ v, hp.objs.get b2 = some (v, .cells false 68 [.int .i64 c.kind, .str c.name, av, mv, .bool c.isOpen])) /\ (∃ v, hp.objs.get b4 = some (v, .cells false 36 [.int .i64 0, .str [], .slice none 0, .slice none 0, .bool false])) /\ a.defers = [] /\ ev a (.tmp 1) = some (.func f [] caps) /\ ev a (.tmp 2) = some (.ptr (some (b2, 0))) /\ ev a (.tmp 4) = some (.ptr (some (b4, 0))) /\ ev a (.tmp 5) = some (.ptr (some (b5, 0))) /\ ev a (.tmp 19) = some av)
  (by rintro j a hp t w (rfl | rfl | rfl) ⟨m1, m2, m3, m4, m5, m6, m7, m8, m9⟩ <;> exact ⟨m1, m2, m3, by rw [zAc]; exact m4, by exact e1, by exact e1, by exact e1, by exact e1, by exact e1⟩) (by decide) ?_ ?_ ⟨I0, ⟨_, k2⟩, ⟨_, k4⟩, by exact n1, by exact e1, by exact e1, by exact e1, by exact e1, by exact e1⟩ (by exact e1) (by exact e1)
 ·clear I0 k2 k4
  rintro j a hp hj ⟨I, ⟨vb2, k2⟩, ⟨vb4, k4⟩, hd, t1', t2', t4', t5', t19'⟩ hi hn
  obtain ⟨ver, va, vl, o5, Ba, Bl⟩ := I.o
  have low := I.low
  have nxp := I.but.next
  obtain ⟨ba, oa, vera, ra, ea, vsa, hixa, hga0, hva⟩ := hav.at (List.getElem?_eq_getElem hj)
  have hga := I.but.keep ba (by have := w0.lt hga0; omega) _ (G.keep _ _ hga0)
  have hcall := Hid.mk (K.call c.args[j] (hA _ (List.getElem_mem hj)) hp I.wf I.p)
  have room := Hid.mk (zDU H (b := 8) (k := ((c.args.take j).map F).length + 1) (by decide) (by rw [List.length_map, List.length_take]; omega))
  have hone := zAR Bl.len
  replace Bl := Hid.mk Bl
  replace Ba := Hid.mk Ba
  have hva0 := Ba.out.len
  clear hga0
  repeat with_reducible first | refine zAA ?_ | refine zAC ?_ | refine zAE ?_ | refine zAD ?_ | refine zAP ?_ | refine zBQ ?_ | (apply dr_q; exact q1) | (apply zCs; exact q1; exact og1) | (apply st_q; exact q1)
  refine zBD (zFe (by exact e1) (by exact s1) (hcall.out.mono ?_))
  rintro _ hq ⟨rfl, B1, P1⟩
  have wq := B1.wf I.wf
  have o5q := B1.keep b5 (by omega) _ o5
  have k2q := B1.keep b2 (by omega) _ k2
  have k4q := B1.keep b4 (by omega) _ k4
  have nq := B1.next
  refine zAC ⟨by simp [zAf, Nat.testBit, o5q], ?_⟩
  have low0 : ∀ {e : TypeId} {sz n : Nat} {v : AVal} {cells : List AVal}, Built hp h.next e sz v n cells -> Built hq h.next e sz v n cells := fun B => zAX B fun c' p hb hc _ => B1.keep c' (by omega) p hc
  have Baq := Hid.mk (low0 Ba.out)
  have Blq := Hid.mk (low0 Bl.out)
  clear low0 k2 k4 o5 hga hcall
  refine zBD (zAp (by exact e1) (cs := [.int .i64 (F c.args[j])]) rfl rfl rfl wq ?_)
  rintro bx h12 hbx g12 ox
  have a5 := g12.keep _ _ o5q
  have a2 := g12.keep _ _ k2q
  have a4 := g12.keep _ _ k4q
  refine zAC ⟨by simp [zAf, Nat.testBit, a5], ?_⟩
  have n12 := g12.next
  have AA := Baq.out.grow g12
  refine zBD (zAy (by exact e1) (by exact e1) AA ox rfl rfl room.out g12.wf (by omega) ?_)
  rintro va' h13 B13 f13 w13 n13 gr13 kp13
  have b5' := kp13 _ _ a5 (zAK AA a5 fun vs hh => by cases hh)
  have b2' := kp13 _ _ a2 (zAK AA a2 fun vs hh => by cases hh)
  have b4' := kp13 _ _ a4 (zAK AA a4 fun vs hh => by cases hh)
  have Bl13 : Built h13 h.next 9 1 vl ([] : List (List Nat)).length (([] : List (List Nat)).map AVal.str) := zAX (Blq.out.grow g12) fun c' p _ hc ⟨vs, hp⟩ => kp13 c' p hc (zAK AA hc fun vs' hh => by rw [hp] at hh; cases hh)
  have kold : ∀ c' p, c' < h.next -> hq.objs.get c' = some p -> h13.objs.get c' = some p := fun c' p hl hc => kp13 c' p (g12.keep _ _ hc) fun n hh => by
   have := zDK AA hh
   omega
  refine zAC ⟨by simp [zAf, Nat.testBit, b5'], ?_⟩
  have hlen13 := B13.len
  have hone13 := zAR B13.len
  replace B13 := Hid.mk B13
  replace Bl13 := Hid.mk Bl13
  replace kold := Hid.mk kold
  clear a5 a2 a4 ox g12 AA f13 gr13 kp13 o5q k2q k4q Baq Blq
  repeat with_reducible (apply dr_q; exact q1)
  refine zBD (zAG (by exact e1) (by exact e1) (zAg hlen13) rfl w13 b5' (by simp) (by simp only [List.all_cons, List.all_nil, hone13, Bool.and_true]) ?_)
  rintro v14 h14 p14 o14
  refine zAC ⟨by simp [zAf, Nat.testBit], ?_⟩
  simp only [zlT, zlY, zlA, zlC, zlN, zlD, zlZ, zlE, Nat.zero_add, Nat.reduceAdd, zlX, zlK] at o14
  have w14 := p14.wf w13
  have n14 := p14.next
  have I14 : NoI bo h P b5 c ((c.args.take (j + 1)).map F) [] h14 := by
   have kk : ∀ c' p, c' < h.next -> hq.objs.get c' = some p -> h14.objs.get c' = some p := fun c' p hl hc => p14.keep c' (by omega) p (kold.out c' p hl hc)
   have sB : ∀ {e : TypeId} {sz n : Nat} {v : AVal} {cells : List AVal}, Built h13 h.next e sz v n cells -> e ≠ 36 -> Built h14 h.next e sz v n cells := fun B he => zAX B fun c' p _ hc ⟨vs, hp⟩ => p14.keep c' (by
    rintro rfl
    rw [b5'] at hc
    simp only [oI] at hc
    rw [<- hc] at hp
    simp only [AObj.cells.injEq] at hp
    exact he hp.2.1.symm) p hc
   refine ⟨w14, But.of w (I.but.trans B1) w14 (by omega) kk, K.keep hq h14 P1 w14 (by omega) kk, low, _, _, _, o14, ?_, sB Bl13.out (by decide)⟩
   have := sB B13.out (by decide)
   rw [List.take_succ_eq_append_getElem hj, List.map_append, List.map_append, List.length_append]
   exact this
  have c2 := p14.keep b2 (by omega) _ b2'
  have c4 := p14.keep b4 (by omega) _ b4'
  clear o14 p14 b5' b2' b4' B13 Bl13 kold
  repeat with_reducible first | refine zAA ?_ | refine zAQ ?_ | refine zBz ?_
  exact ⟨⟨I14, ⟨_, c2⟩, ⟨_, c4⟩, by exact n1, by exact e1, by exact e1, by exact e1, by exact e1, by exact e1⟩, by exact e1, by exact e1⟩
 ·clear I0 k2 k4
  rintro a hp ⟨I, ⟨vb2, k2⟩, ⟨vb4, k4⟩, hd, t1', t2', t4', t5', t19'⟩
  rw [List.take_length] at I
  have hrk : ∀ r vr, h.objs.get r = some (vr, .map (fEs 0 c.fields) c.fields.length) -> r ≠ bo := by
   rintro r vr hr rfl
   obtain ⟨_, _, _, hb⟩ := hcl
   rw [hr] at hb; cases hb
  have hkl : (c.fields.map (·.1)).length = c.fields.length := List.length_map _
  refine zAA (zAE ?_)
  refine zEa (fun a hq => ∃ s : List Nat, Hid (s.Nodup /\ ∀ i, i ∈ s ↔ i < c.fields.length) /\ NoI bo h P b5 c (c.args.map F) (zEM (c.fields.map (·.1)) s) hq /\ (∃ v, hq.objs.get b2 = some (v, .cells false 68 [.int .i64 c.kind, .str c.name, av, mv, .bool c.isOpen])) /\ (∃ v, hq.objs.get b4 = some (v, .cells false 36 [.int .i64 0, .str [], .slice none 0, .slice none 0, .bool false])) /\ a.defers = [] /\ ev a (.tmp 1) = some (.func f [] caps) /\ ev a (.tmp 2) = some (.ptr (some (b2, 0))) /\ ev a (.tmp 4) = some (.ptr (some (b4, 0))) /\ ev a (.tmp 5) = some (.ptr (some (b5, 0)))) ?_ ?_
  ·clear t19'
   by_cases h3 : c.kind = 3
   ·obtain ⟨r, vr, rfl, hr0, hr⟩ := hm3 h3
    have hrb := hrk r vr hr
    have hrp := I.but.keep r hrb _ hr
    have lr := w.lt hr
    have low := I.low
    have nxp := I.but.next
    repeat with_reducible first | refine zAE ?_ | refine zAD ?_ | (apply st_q; exact q1)
    refine zMT (by exact e1) hrp I.wf ?_
    rintro bi h5 hbi g5 oi
    have I5 := I.more w K g5
    have k25 := g5.keep _ _ k2
    have k45 := g5.keep _ _ k4
    have hb2' := I.wf.lt k2
    have hb4' := I.wf.lt k4
    clear I k2 k4 g5 hrp
    repeat with_reducible first | refine zAA ?_ | refine zAC ?_
    refine zBy ?_
    refine zDM (fun m a hq => ∃ s : List Nat, Hid (m + s.length = c.fields.length /\ s.Nodup /\ ∀ i ∈ s, i < c.fields.length) /\ NoI bo h P b5 c (c.args.map F) (zEM (c.fields.map (·.1)) s) hq /\ (∃ v, hq.objs.get b2 = some (v, .cells false 68 [.int .i64 c.kind, .str c.name, av, .map (some r), .bool c.isOpen])) /\ (∃ v, hq.objs.get b4 = some (v, .cells false 36 [.int .i64 0, .str [], .slice none 0, .slice none 0, .bool false])) /\ (∃ ver, hq.objs.get bi = some (ver, .iter r c.fields.length s c.fields.length)) /\ a.defers = [] /\ ev a (.tmp 1) = some (.func f [] caps) /\ ev a (.tmp 2) = some (.ptr (some (b2, 0))) /\ ev a (.tmp 4) = some (.ptr (some (b4, 0))) /\ ev a (.tmp 5) = some (.ptr (some (b5, 0))) /\ ev a (.tmp 36) = some (.ptr (some (bi, 0)))) ?_ (n := c.fields.length)
     ⟨[], ⟨rfl, List.nodup_nil, fun i hi => (by cases hi)⟩, I5, ⟨_, k25⟩, ⟨_, k45⟩, ⟨_, oi⟩, by exact n1, by exact e1, by exact e1, by exact e1, by exact e1, by exact e1⟩
    have lbi : h.next <= bi := by omega
    have nb2 : b2 ≠ bi := by omega
    have nb4 : b4 ≠ bi := by omega
    have nbr : r ≠ bi := by omega
    clear I5 k25 k45 oi hbi nxp
    rintro m a hp' ⟨s, hS, I, ⟨vb2, k2⟩, ⟨vb4, k4⟩, ⟨vi, oi⟩, hd, t1', t2', t4', t5', t36'⟩
    have hrp := I.but.keep r hrb _ hr
    have hes : ∀ e ∈ fEs 0 c.fields, e.2.2 < c.fields.length := fun e he => by
     obtain ⟨k, hk, rfl⟩ := zHg he
     show 0 + k < _; omega
    repeat with_reducible first | refine zAE ?_ | refine zAD ?_
    refine zOQ (by exact e1) oi hrp hes I.wf (fun hall => ?_) fun e he hns ver' h6 p6 o6 => ?_
    ·have hfin : Hid (s.Nodup /\ ∀ i, i ∈ s ↔ i < c.fields.length) := ⟨hS.out.2.1, fun i => ⟨hS.out.2.2 i, fun hi => by
      have := hall _ (zNg (i := 0) hi)
      simpa using this⟩⟩
     clear hall hes oi hrp
     repeat with_reducible first | refine zAA ?_ | refine zBg ?_ | refine zBf ?_ | refine zAC ?_ | refine zAE ?_ | refine zCF ?_ | (apply st_q; exact q1) | (apply zAL; exact e1)
     exact ⟨s, hfin, I, ⟨_, k2⟩, ⟨_, k4⟩, by exact n1, by exact e1, by exact e1, by exact e1, by exact e1⟩
    ·obtain ⟨i, hi, rfl⟩ := zHg he
     rw [Nat.zero_add] at hns o6
     simp only at hns o6
     have I6 := I.iter w K oi lbi (by intro _ _ _ hh; cases hh) p6
     have k26 := p6.keep b2 nb2 _ k2
     have k46 := p6.keep b4 nb4 _ k4
     have hr6 := p6.keep r nbr _ hrp
     have hfind := zNf (l := c.fields) (i := 0) hi
     rw [Nat.zero_add] at hfind
     obtain ⟨hm, hnd, hlt⟩ := hS.out
     have hnd' : (s ++ [i]).Nodup := by
      rw [List.nodup_append]
      exact ⟨hnd, by simp, fun a ha b hb => by simp only [List.mem_singleton] at hb; subst hb; rintro rfl; exact hns ha⟩
     have hlt' : ∀ j ∈ s ++ [i], j < c.fields.length := fun j hj => by
      rcases List.mem_append.1 hj with hj | hj
      ·exact hlt j hj
      ·rw [List.mem_singleton.1 hj]; exact hi
     have hln := zJj hnd' hlt'
     rw [List.length_append, List.length_singleton] at hln
     have hS' : Hid (m - 1 + (s ++ [i]).length = c.fields.length /\ (s ++ [i]).Nodup /\ ∀ j ∈ s ++ [i], j < c.fields.length) := ⟨by rw [List.length_append, List.length_singleton]; omega, hnd', hlt'⟩
     have hm1 : m - 1 < m := by omega
     obtain ⟨ver, va, vl, o5, Ba, Bl⟩ := I6.o
     have low := I6.low
     have n6 := I6.but.next
     have hpl : (zEM (c.fields.map (·.1)) s).length = s.length := List.length_map _
     have hput : zEM (c.fields.map (·.1)) (s ++ [i]) = zEM (c.fields.map (·.1)) s ++ [c.fields[i].1] := by
      rw [zOI (by rw [List.length_map]; exact hi), List.getElem_map]
     have room := Hid.mk (zDU H (b := 16) (k := (zEM (c.fields.map (·.1)) s).length + 1) (by decide) (by omega))
     have hone := zAR Ba.len
     have w6 := I6.wf
     have hlvl := Bl.len
     have nb5 : b5 ≠ bi := by
      rintro rfl
      rw [o6] at o5; cases o5
     replace Bl := Hid.mk Bl
     replace Ba := Hid.mk Ba
     replace hput := Hid.mk hput
     clear hes oi hrp hS hm hnd hlt hnd' hlt' hns he k2 k4 I p6
     repeat with_reducible first | refine zAA ?_ | refine zAC ?_ | refine zAE ?_ | refine zAD ?_ | refine zAP ?_ | refine zAT ?_ | (apply st_q; exact q1) | (apply zAJ; exact e1)
     refine zMS (by exact e1) o6 hr6 hfind ?_
     repeat with_reducible first | refine zAA ?_ | refine zAC ?_ | refine zAD ?_ | (apply st_q; exact q1)
     refine zAp (by exact e1) (cs := [.str c.fields[i].1]) rfl rfl rfl w6 ?_
     rintro bx h12 hbx g12 ox
     have a5 := g12.keep _ _ o5
     have a2 := g12.keep _ _ k26
     have a4 := g12.keep _ _ k46
     have ai := g12.keep _ _ o6
     have n12 := g12.next
     have AA := Bl.out.grow g12
     have I12 := I6.more w K g12
     have P12 := I12.p
     refine zAy (by exact e1) (by exact e1) AA ox rfl rfl room.out g12.wf (by omega) ?_
     rintro vl' h13 B13 f13 w13 n13 gr13 kp13
     have b5' := kp13 _ _ a5 (zAK AA a5 fun vs hh => by cases hh)
     have b2' := kp13 _ _ a2 (zAK AA a2 fun vs hh => by cases hh)
     have b4' := kp13 _ _ a4 (zAK AA a4 fun vs hh => by cases hh)
     have bi' := kp13 _ _ ai (zAK AA ai fun vs hh => by cases hh)
     have Ba13 : Built h13 h.next 3 1 va (c.args.map F).length ((c.args.map F).map (AVal.int .i64)) := zAX (Ba.out.grow g12) fun c' p _ hc ⟨vs, hp⟩ => kp13 c' p hc (zAK AA hc fun vs' hh => by rw [hp] at hh; cases hh)
     have kold : ∀ c' p, c' < h.next -> h12.objs.get c' = some p -> h13.objs.get c' = some p := fun c' p hl hc => kp13 c' p hc fun n hh => by
      have := zDK AA hh
      omega
     have hlen13 := B13.len
     have hone13 := zAR B13.len
     replace B13 := Hid.mk B13
     replace Ba13 := Hid.mk Ba13
     replace kold := Hid.mk kold
     clear a5 a2 a4 ai ox g12 AA f13 gr13 kp13 o5 k26 k46 o6 Ba Bl hr6 hfind
     repeat with_reducible (apply st_q; exact q1)
     refine zAG (by exact e1) (by exact e1) (zAg hlen13) rfl w13 b5' (by simp) (by simp only [List.all_cons, List.all_nil, hone13, Bool.and_true]) ?_
     rintro v14 h14 p14 o14
     simp only [zlT, zlY, zlA, zlC, zlN, zlD, zlZ, zlE, Nat.zero_add, Nat.reduceAdd, zlX, zlK] at o14
     have w14 := p14.wf w13
     have n14 := p14.next
     have I14 : NoI bo h P b5 c (c.args.map F) (zEM (c.fields.map (·.1)) (s ++ [i])) h14 := by
      have kk : ∀ c' p, c' < h.next -> h12.objs.get c' = some p -> h14.objs.get c' = some p := fun c' p hl hc => p14.keep c' (by omega) p (kold.out c' p hl hc)
      have sB : ∀ {e : TypeId} {sz n : Nat} {v : AVal} {cells : List AVal}, Built h13 h.next e sz v n cells -> e ≠ 36 -> Built h14 h.next e sz v n cells := fun B he => zAX B fun c' p _ hc ⟨vs, hp⟩ => p14.keep c' (by
       rintro rfl
       rw [b5'] at hc
       simp only [oI] at hc
       rw [<- hc] at hp
       simp only [AObj.cells.injEq] at hp
       exact he hp.2.1.symm) p hc
      refine ⟨w14, But.of w I12.but w14 (by omega) kk, K.keep h12 h14 P12 w14 (by omega) kk, low, _, _, _, o14, sB Ba13.out (by decide), ?_⟩
      have := sB B13.out (by decide)
      rw [hput.out, List.map_append, List.length_append]
      exact this
     have c2 := p14.keep b2 (by omega) _ b2'
     have c4 := p14.keep b4 (by omega) _ b4'
     have ci := p14.keep bi (Ne.symm nb5) _ bi'
     clear o14 p14 b5' b2' b4' bi' B13 Ba13 kold I12
     repeat with_reducible first | refine zAA ?_ | refine zAQ ?_ | refine zAC ?_
     exact ⟨m - 1, hm1, s ++ [i], hS', I14, ⟨_, c2⟩, ⟨_, c4⟩, ⟨_, ci⟩, by exact n1, by exact e1, by exact e1, by exact e1, by exact e1, by exact e1⟩
   ·obtain rfl := hm0 h3
    have hf0 := hk h3
    repeat with_reducible first | refine zAE ?_ | refine zAD ?_ | (apply st_q; exact q1)
    refine zOR (by exact e1) I.wf ?_
    rintro bi h5 hbi g5 oi
    have I5 := I.more w K g5
    have k25 := g5.keep _ _ k2
    have k45 := g5.keep _ _ k4
    clear I k2 k4 g5
    have hfin : Hid (([] : List Nat).Nodup /\ ∀ i, i ∈ ([] : List Nat) ↔ i < c.fields.length) := ⟨List.nodup_nil, fun i => by rw [hf0]; simp⟩
    repeat with_reducible first | refine zAA ?_ | refine zAC ?_
    refine zBy ?_
    refine zDM (fun m a hq => hq = h5 /\ a.defers = [] /\ ev a (.tmp 1) = some (.func f [] caps) /\ ev a (.tmp 2) = some (.ptr (some (b2, 0))) /\ ev a (.tmp 4) = some (.ptr (some (b4, 0))) /\ ev a (.tmp 5) = some (.ptr (some (b5, 0))) /\ ev a (.tmp 36) = some (.ptr (some (bi, 0)))) ?_ (n := 0)
     ⟨rfl, by exact n1, by exact e1, by exact e1, by exact e1, by exact e1, by exact e1⟩
    rintro m a _ ⟨rfl, hd, t1', t2', t4', t5', t36'⟩
    repeat with_reducible first | refine zAE ?_ | refine zAD ?_
    refine st_next0 (by exact e1) oi ?_
    repeat with_reducible first | refine zAA ?_ | refine zBg ?_ | refine zBf ?_ | refine zAC ?_ | refine zAE ?_ | refine zCF ?_ | (apply st_q; exact q1) | (apply zAL; exact e1)
    exact ⟨[], hfin, I5, ⟨_, k25⟩, ⟨_, k45⟩, by exact n1, by exact e1, by exact e1, by exact e1, by exact e1⟩
  ·clear I k2 k4 hd t1' t2' t4' t5' t19' vb2 vb4
   rintro a hq ⟨s, hS, I, ⟨vb2, k2⟩, ⟨vb4, k4⟩, hd, t1', t2', t4', t5'⟩
   have hks : Hid (Rises (zET (zEM (c.fields.map (·.1)) s)) /\ ∀ l, l ∈ zET (zEM (c.fields.map (·.1)) s) ↔ ∃ a, (l, a) ∈ c.fields) := by
    obtain ⟨h1, h2⟩ := hS.out
    have h2' : ∀ i, i ∈ s ↔ i < (c.fields.map (·.1)).length := fun i => by rw [hkl]; exact h2 i
    refine ⟨zLa (zMu nd h1 fun i hi => (h2' i).1 hi), fun l => zOP.trans ((zML h2' l).trans ?_)⟩
    rw [List.mem_map]
    exact ⟨fun ⟨p, hp, he⟩ => ⟨p.2, by rw [<- he]; exact hp⟩, fun ⟨a, ha⟩ => ⟨_, ha, rfl⟩⟩
   have hb8 : BytesL (zEM (c.fields.map (·.1)) s) := fun x hx => by
    have h2' : ∀ i, i ∈ s ↔ i < (c.fields.map (·.1)).length := fun i => by rw [hkl]; exact hS.out.2 i
    exact by8 x ((zML h2' x).1 hx)
   have hsl : (zEM (c.fields.map (·.1)) s).length <= c.fields.length := by
    rw [zEM, List.length_map]
    exact zJj hS.out.1 fun i hi => (hS.out.2 i).1 hi
   generalize zEM (c.fields.map (·.1)) s = kl at *
   obtain ⟨ver, va, vl, o5, Ba, Bl⟩ := I.o
   obtain ⟨h6, hsrt, Bl6, w6, n6, kp6⟩ := zMz HS hb8 (by omega) I.wf Bl
   have o56 := kp6 _ _ o5 (zAK Bl o5 fun vs hh => by cases hh)
   have k26 := kp6 _ _ k2 (zAK Bl k2 fun vs hh => by cases hh)
   have k46 := kp6 _ _ k4 (zAK Bl k4 fun vs hh => by cases hh)
   have I6 : NoI bo h P b5 c (c.args.map F) (zET kl) h6 := by
    have kk : ∀ c' p, c' < h.next -> hq.objs.get c' = some p -> h6.objs.get c' = some p := fun c' p hl hc => kp6 c' p hc fun n hh => by
     have := zDK Bl hh
     omega
    exact ⟨w6, But.of w I.but w6 (Nat.le_trans I.but.next n6) kk, K.keep hq h6 I.p w6 n6 kk, I.low, _, _, _, o56, zAX Ba fun c' p _ hc ⟨vs, hp⟩ => kp6 c' p hc (zAK Bl hc fun vs' hh => by rw [hp] at hh; cases hh), Bl6⟩
   have hsl2 : (zET kl).length <= 2 ^ 20 := by rw [zGe]; omega
   generalize zET kl = ls at *
   have hlvl := Bl6.len
   have hlv0 := Bl.len
   replace hsrt := Hid.mk hsrt
   have o56' := Hid.mk o56
   clear hS hb8 hsl Ba Bl kp6 k2 k4 I n6 Bl6
   refine zAA ?_
   repeat with_reducible first | refine zAE ?_ | refine zAD ?_ | (apply st_q; exact q1)
   refine zAb (by exact s1) (zDh hsrt.out ?_)
   rw [D.sat_ret]
   clear hsrt o5
   repeat with_reducible first | refine zAA ?_ | refine zAC ?_ | refine zAE ?_ | refine zAD ?_ | (apply st_q; exact q1)
   have fo : Hid (c.kind = 3 -> ∀ hp, But bo h hp -> ∃ r vr, mv = .map (some r) /\ r < h.next /\ r ≠ bo /\ hp.objs.get r = some (vr, .map (fEs 0 c.fields) c.fields.length)) := ⟨fun h3 hp B => by
    obtain ⟨r, vr, hr1, _, hr⟩ := hm3 h3
    exact ⟨r, vr, hr1, w.lt hr, hrk r vr hr, B.keep r (hrk r vr hr) _ hr⟩⟩
   refine zAz (N := ls.length) (by omega) (fun j a hp => NoI bo h P b5 c (c.args.map F ++ (ls.take j).map fun l => F (zDl c.fields l)) ls hp /\ Hid (∃ ver va, hp.objs.get b5 = some (ver, .cells false 36 [.int .i64 c.kind, .str c.name, va, vl, .bool c.isOpen])) /\ (∃ v, hp.objs.get b2 = some (v, .cells false 68 [.int .i64 c.kind, .str c.name, av, mv, .bool c.isOpen])) /\ (∃ v, hp.objs.get b4 = some (v, .cells false 36 [.int .i64 0, .str [], .slice none 0, .slice none 0, .bool false])) /\ a.defers = [] /\ ev a (.tmp 1) = some (.func f [] caps) /\ ev a (.tmp 2) = some (.ptr (some (b2, 0))) /\ ev a (.tmp 4) = some (.ptr (some (b4, 0))) /\ ev a (.tmp 5) = some (.ptr (some (b5, 0))) /\ ev a (.tmp 51) = some vl)
    (by rintro j a hp t w (rfl | rfl | rfl) ⟨m1, m2, m3, m4, m5, m6, m7, m8, m9, m10⟩ <;> exact ⟨m1, m2, m3, m4, by rw [zAc]; exact m5, by exact e1, by exact e1, by exact e1, by exact e1, by exact e1⟩) (by decide) ?_ ?_ ⟨by simpa using I6, ⟨_, _, o56'.out⟩, ⟨_, k26⟩, ⟨_, k46⟩, by exact n1, by exact e1, by exact e1, by exact e1, by exact e1, by exact e1⟩ (by exact e1) (by exact e1)
   ·clear I6 k26 k46 o56 o56' hd t1' t2' t4' t5' hlv0 w6
    rintro j a hp hj ⟨I, o5h, ⟨vb2, k2⟩, ⟨vb4, k4⟩, hd, t1', t2', t4', t5', t51'⟩ hi hn
    obtain ⟨ver, va, vl', o5, Ba, Bl⟩ := I.o
    obtain rfl : vl' = vl := by
     obtain ⟨_, _, o5'⟩ := o5h.out
     rw [o5] at o5'
     simp only [oI, Prod.mk.injEq, AObj.cells.injEq, List.cons.injEq, true_and, and_true] at o5'
     exact o5'.2.2
    obtain ⟨al, hal⟩ := (hks.out.2 ls[j]).1 (List.getElem_mem hj)
    have h3 : c.kind = 3 := Decidable.byContradiction fun h => by rw [hk h] at hal; cases hal
    obtain ⟨r, vr, hmv, lr, hrb, hr⟩ := fo.out h3 hp I.but
    rw [hmv] at k2
    have hlook := zNh hr ls[j]
    rw [<- zIx] at hlook
    have hAl : A (zDl c.fields ls[j]) := by rw [zEL nd hal]; exact hAf _ hal
    have hcall := Hid.mk (K.call (zDl c.fields ls[j]) hAl hp I.wf I.p)
    obtain ⟨bl, ol, verl, rl, el, vsl, hixl, hgl, hvl'⟩ := (zIg Bl).at (List.getElem?_eq_getElem hj)
    have low := I.low
    have nxp := I.but.next
    have hal' : (c.args.map F ++ (ls.take j).map fun l => F (zDl c.fields l)).length <= 2 ^ 21 := by
     rw [List.length_append, List.length_map, List.length_map, List.length_take]; omega
    have hput : Hid ((c.args.map F ++ (ls.take (j + 1)).map fun l => F (zDl c.fields l)) = (c.args.map F ++ (ls.take j).map fun l => F (zDl c.fields l)) ++ [F (zDl c.fields ls[j])]) := ⟨by
     rw [List.take_succ_eq_append_getElem hj, List.map_append, List.append_assoc]; rfl⟩
    generalize (c.args.map F ++ (ls.take j).map fun l => F (zDl c.fields l)) = as at *
    have room := Hid.mk (zDU H (b := 8) (k := as.length + 1) (by decide) (by omega))
    have hone := zAR Bl.len
    replace Bl := Hid.mk Bl
    replace Ba := Hid.mk Ba
    have hva0 := Ba.out.len
    clear hal h3 hAl o5h hal'
    repeat with_reducible first | refine zAA ?_ | refine zAC ?_ | refine zAE ?_ | refine zAD ?_ | refine zAP ?_ | refine zBQ ?_ | (apply dr_q; exact q1) | (apply zCs; exact q1; exact og1) | (apply st_q; exact q1)
    refine zBD (zFe (by exact e1) (by exact s1) (hcall.out.mono ?_))
    rintro _ hq ⟨rfl, B1, P1⟩
    have wq := B1.wf I.wf
    have o5q := B1.keep b5 (by omega) _ o5
    have k2q := B1.keep b2 (by omega) _ k2
    have k4q := B1.keep b4 (by omega) _ k4
    have hrq := B1.keep r hrb _ hr
    have nq := B1.next
    refine zAC ⟨by simp [zAf, Nat.testBit, o5q, k2q, hrq], ?_⟩
    have low0 : ∀ {e : TypeId} {sz n : Nat} {v : AVal} {cells : List AVal}, Built hp h.next e sz v n cells -> Built hq h.next e sz v n cells := fun B => zAX B fun c' p hb hc _ => B1.keep c' (by omega) p hc
    have Baq := Hid.mk (low0 Ba.out)
    have Blq := Hid.mk (low0 Bl.out)
    clear low0 k2 k4 o5 hgl hcall hr hlook hixl hvl'
    refine zBD (zAp (by exact e1) (cs := [.int .i64 (F (zDl c.fields ls[j]))]) rfl rfl rfl wq ?_)
    rintro bx h12 hbx g12 ox
    have a5 := g12.keep _ _ o5q
    have a2 := g12.keep _ _ k2q
    have a4 := g12.keep _ _ k4q
    refine zAC ⟨by simp [zAf, Nat.testBit, a5], ?_⟩
    have n12 := g12.next
    have AA := Baq.out.grow g12
    refine zBD (zAy (by exact e1) (by exact e1) AA ox rfl rfl room.out g12.wf (by omega) ?_)
    rintro va' h13 B13 f13 w13 n13 gr13 kp13
    have b5' := kp13 _ _ a5 (zAK AA a5 fun vs hh => by cases hh)
    have b2' := kp13 _ _ a2 (zAK AA a2 fun vs hh => by cases hh)
    have b4' := kp13 _ _ a4 (zAK AA a4 fun vs hh => by cases hh)
    have Bl13 : Built h13 h.next 9 1 _ ls.length (ls.map AVal.str) := zAX (Blq.out.grow g12) fun c' p _ hc ⟨vs, hp⟩ => kp13 c' p hc (zAK AA hc fun vs' hh => by rw [hp] at hh; cases hh)
    have kold : ∀ c' p, c' < h.next -> hq.objs.get c' = some p -> h13.objs.get c' = some p := fun c' p hl hc => kp13 c' p (g12.keep _ _ hc) fun n hh => by
     have := zDK AA hh
     omega
    refine zAC ⟨by simp [zAf, Nat.testBit, b5'], ?_⟩
    have hlen13 := B13.len
    have hone13 := zAR B13.len
    replace B13 := Hid.mk B13
    replace Bl13 := Hid.mk Bl13
    replace kold := Hid.mk kold
    clear a5 a2 a4 ox g12 AA f13 gr13 kp13 o5q k2q k4q Baq Blq hrq
    repeat with_reducible (apply dr_q; exact q1)
    refine zBD (zAG (by exact e1) (by exact e1) (zAg hlen13) rfl w13 b5' (by simp) (by simp only [List.all_cons, List.all_nil, hone13, Bool.and_true]) ?_)
    rintro v14 h14 p14 o14
    refine zAC ⟨by simp [zAf, Nat.testBit], ?_⟩
    simp only [zlT, zlY, zlA, zlC, zlN, zlD, zlZ, zlE, Nat.zero_add, Nat.reduceAdd, zlX, zlK] at o14
    have w14 := p14.wf w13
    have n14 := p14.next
    have I14 : NoI bo h P b5 c (c.args.map F ++ (ls.take (j + 1)).map fun l => F (zDl c.fields l)) ls h14 := by
     have kk : ∀ c' p, c' < h.next -> hq.objs.get c' = some p -> h14.objs.get c' = some p := fun c' p hl hc => p14.keep c' (by omega) p (kold.out c' p hl hc)
     have sB : ∀ {e : TypeId} {sz n : Nat} {v : AVal} {cells : List AVal}, Built h13 h.next e sz v n cells -> e ≠ 36 -> Built h14 h.next e sz v n cells := fun B he => zAX B fun c' p _ hc ⟨vs, hp⟩ => p14.keep c' (by
      rintro rfl
      rw [b5'] at hc
      simp only [oI] at hc
      rw [<- hc] at hp
      simp only [AObj.cells.injEq] at hp
      exact he hp.2.1.symm) p hc
     refine ⟨w14, But.of w (I.but.trans B1) w14 (by omega) kk, K.keep hq h14 P1 w14 (by omega) kk, low, _, _, _, o14, ?_, sB Bl13.out (by decide)⟩
     have := sB B13.out (by decide)
     rw [hput.out, List.map_append, List.length_append]
     exact this
    have o14' : Hid (∃ ver va, h14.objs.get b5 = some (ver, .cells false 36 [.int .i64 c.kind, .str c.name, va, _, .bool c.isOpen])) := ⟨_, _, o14⟩
    have c2 := p14.keep b2 (by omega) _ b2'
    have c4 := p14.keep b4 (by omega) _ b4'
    rw [<- hmv] at c2
    clear o14 p14 b5' b2' b4' B13 Bl13 kold
    repeat with_reducible first | refine zAA ?_ | refine zAQ ?_ | refine zBz ?_
    exact ⟨⟨I14, o14', ⟨_, c2⟩, ⟨_, c4⟩, by exact n1, by exact e1, by exact e1, by exact e1, by exact e1, by exact e1⟩, by exact e1, by exact e1⟩
   ·clear I6 k26 k46 o56 o56' hd t1' t2' t4' t5' hlv0 w6
    rintro a hp ⟨I, -, ⟨vb2, k2⟩, ⟨vb4, k4⟩, hd, t1', t2', t4', t5', t51'⟩
    rw [List.take_length] at I
    obtain ⟨ver, va, vl', o5, Ba, Bl⟩ := I.o
    have hlo := Ba.len
    have hll := Bl.len
    have nb45 : b4 ≠ b5 := by omega
    repeat with_reducible first | refine zAA ?_ | refine zAE ?_ | refine zAD ?_ | (apply st_q; exact q1)
    refine zAG (by exact e1) (by exact e1) (by exact cc) rfl I.wf k4 (by simp) (by simp only [List.all_cons, List.all_nil, zAR hlo, zAR hll, Bool.and_true]; rfl) ?_
    rintro v7 h7 p7 o7
    simp only [zlY, zlA, zlC, zlN, zlD, zlZ, zlE, Nat.zero_add, Nat.reduceAdd, zlX, zlK] at o7
    have w7 := p7.wf I.wf
    have kk : ∀ c' p, c' < h.next -> hp.objs.get c' = some p -> h7.objs.get c' = some p := fun c' p hl hc => p7.keep c' (by omega) p hc
    have hfin : Hid (But bo h h7 /\ WF h7 /\ P h7) := ⟨But.of w I.but w7 (Nat.le_trans I.but.next p7.next) kk, w7, K.keep hp h7 I.p w7 p7.next kk⟩
    have BaF := Hid.mk (zAS Ba p7 k4 (fun vs hh => by cases hh))
    have BlF := Hid.mk (zAS Bl p7 k4 (fun vs hh => by cases hh))
    have hp7 : zBC (some 5) [.int .i64 c.kind, .str c.name, va, vl', .bool c.isOpen] 0 = some (.agg [.int .i64 c.kind, .str c.name, va, vl', .bool c.isOpen]) := rfl
    clear kk Ba Bl I p7 k2 k4 o5
    repeat' with_reducible first | refine zAA ?_ | refine zAC ?_ | refine zAO ?_ | (apply zAI; exact n1; exact r1)
    exact ⟨ls, va, vl', rfl, hks.out.1, hks.out.2, BaF.out, BlF.out, hfin.out⟩
end
end Go.Ab.S
end
section
namespace Go.Ab.S
open Go Go.Ab
set_option maxHeartbeats 8000000
section
variable {g : Graph} {ps : List Pr} {rt : Int -> Int} {has : Int -> Clz}
theorem UInv.perm {ws ws' : List Pr} (I : UInv g ps rt has ws) (h : ∀ p, p ∈ ws' ↔ p ∈ ws) : UInv g ps rt has ws' := by
 have D : ∀ {a b}, Due g rt ws a b -> Due g rt ws' a b := fun k E hE h1 h2 => k E hE h1 fun p hp => h2 p ((h p).2 hp)
 exact ⟨I.rng, I.cls, I.sound, fun p hp => I.waits p ((h p).1 hp), fun p hp => D (I.prs p hp), fun m hm hk i hi => D (I.con m hm hk i hi), fun m i l a hm hk hl ha => D (I.obj m i l a hm hk hl ha)⟩
theorem zLO {c : Clz} {f f' : Int -> Int} {ls : List (List Nat)} (nd : (c.fields.map (·.1)).Nodup) (ha : ∀ a ∈ c.args, f a = f' a) (hf : ∀ p ∈ c.fields, f p.2 = f' p.2) (hl : ∀ l ∈ ls, ∃ a, (l, a) ∈ c.fields) : zGo c f ls = zGo c f' ls := by
 have h1 : c.args.map f = c.args.map f' := List.map_congr_left ha
 have h2 : (ls.map fun l => f (zDl c.fields l)) = ls.map fun l => f' (zDl c.fields l) := List.map_congr_left fun l h => by
  obtain ⟨a, k⟩ := hl l h
  rw [zEL nd k]; exact hf _ k
 rw [zGo, zGo, h1, h2]
theorem ClzOK.inA (hc : zAF g = 0) {r : Int} {c : Clz} (C : ClzOK g rt r c) : ∀ a ∈ c.args, InG g a := by
 intro a ha
 by_cases hk : c.kind = 2
 ·obtain ⟨m, m1, _, _, m4⟩ := C.args hk
  rw [m4] at ha
  exact zAu (zAl hc m1) a ha
 ·rw [C.noargs hk] at ha; cases ha
theorem ClzOK.inF (hc : zAF g = 0) {r : Int} {c : Clz} (C : ClzOK g rt r c) : ∀ p ∈ c.fields, InG g p.2 := by
 rintro ⟨l, a⟩ hp
 obtain ⟨m, i, m1, _, m3, m4, m5⟩ := C.vals l a hp
 have h1 := (List.getElem?_eq_some_iff.1 m4).1
 have h2 := (zCX hc m1 m3).1
 show InG g a
 rw [<- m5]
 exact zAu (zAl hc m1) _ (zCL (by omega))
theorem ClzOK.bytes (hc : zAF g = 0) {r : Int} {c : Clz} (C : ClzOK g rt r c) : BytesL (c.fields.map (·.1)) := by
 intro s hs
 obtain ⟨⟨l, a⟩, hp, rfl⟩ := List.mem_map.1 hs
 obtain ⟨m, m1, _, m3, m4⟩ := (C.keys l).1 ⟨a, hp⟩
 rcases zAN (zAl hc m1) with ⟨q, _⟩ | ⟨q, _⟩ | ⟨_, _, _, q⟩
 ·omega
 ·omega
 ·intro c hc
  have := zHu (zGb q _ m4) c hc
  omega
def zHK (l : List Pr) (rt : Int -> Int) (n : Nat) : List Int := (List.range n).map fun i => lsP l (rt ((i : Nat) : Int))
theorem zMQ (l : List Pr) (rt : Int -> Int) (n : Nat) : (zHK l rt n).length = n := by simp [zHK]
theorem reps_put (l : List Pr) (rt : Int -> Int) (n : Nat) : zHK l rt (n + 1) = zHK l rt n ++ [lsP l (rt (n : Int))] := by simp [zHK, List.range_succ]
theorem reps_at (l : List Pr) (rt : Int -> Int) {n : Nat} {a : Int} (h : 0 <= a /\ a < n) : clAt (zHK l rt n) a = lsP l (rt a) := by
 obtain ⟨k, rfl⟩ : ∃ k : Nat, a = k := ⟨a.toNat, by omega⟩
 have hk : k < n := by omega
 rw [zCn, List.getD, zHK, List.getElem?_map, List.getElem?_range hk]; rfl
def NodesZ (l : List Pr) (rt : Int -> Int) (has : Int -> Clz) (ns : List Node) : Prop := ∀ (i : Nat) n, ns[i]? = some n -> ∃ ls, Rises ls /\ (∀ s, s ∈ ls ↔ ∃ a, (s, a) ∈ (has (rt (i : Int))).fields) /\ n = zGo (has (rt (i : Int))) (fun a => lsP l (rt a)) ls
theorem uni_out (hc : zAF g = 0) (I : UInv g ps rt has []) {l : List Pr} (L : LE l rt g.nodes.length) {ns : List Node} (hl : ns.length = g.nodes.length) (hn : NodesZ l rt has ns) :
  UOut g ps ⟨ns, lsP l (rt g.root)⟩ (zHK l rt g.nodes.length) := by
 have hR : ∀ a, InG g a -> clAt (zHK l rt g.nodes.length) a = lsP l (rt a) := fun a h => reps_at l rt h
 refine I.out hc (zMQ _ _ _) hl ?_ ?_ ?_
 ·have h1 := (zAZ hc).1
  have h2 := (zAZ hc).2.1
  exact (hR _ ⟨h1, h2⟩).symm
 ·intro i hi
  obtain ⟨k, rfl⟩ : ∃ k : Nat, i = k := ⟨i.toNat, by have := hi.1; omega⟩
  have hk : k < g.nodes.length := by have := hi.2; omega
  obtain ⟨m, m1, m2, m3, m4⟩ := L.rep hk
  rw [hR _ hi, m2]
  refine ⟨⟨by omega, by omega⟩, m3, fun j hj he => ?_⟩
  obtain ⟨q, rfl⟩ : ∃ q : Nat, j = q := ⟨j.toNat, by have := hj.1; omega⟩
  have := m4 q (by have := hj.2; omega) he
  omega
 ·intro i hi
  obtain ⟨k, rfl⟩ : ∃ k : Nat, i = k := ⟨i.toNat, by have := hi.1; omega⟩
  have hk : k < ns.length := by have := hi.2; omega
  obtain ⟨ls, h1, h2, h3⟩ := hn k _ (List.getElem?_eq_getElem hk)
  have hr := I.rng _ hi
  have C := I.cls _ hr.1 hr.2
  refine ⟨ls, h1, h2, ?_⟩
  have : zAB ⟨ns, lsP l (rt g.root)⟩ (k : Int) = ns[k] := by simp [zAB, hk]
  rw [this, h3]
  exact zLO C.nodup (fun a ha => (hR a (C.inA hc a ha)).symm) (fun p hp => (hR _ (C.inF hc p hp)).symm) fun s hs => (h2 s).1 hs
end
structure KM (bo rm N K : Nat) (rk : List Int) (rt : Int -> Int) (h hq : AHeap) : Prop where
 wf : WF hq
 next : h.next <= hq.next
 keep : ∀ c p, c ≠ bo -> c ≠ rm -> h.objs.get c = some p -> hq.objs.get c = some p
 row : ∃ on, RowI hq bo N on /\ UF N on rk rt K
section
variable {bo rm N K : Nat} {rk : List Int} {rt : Int -> Int} {h hq hr : AHeap}
theorem RowI.grow {l : List Int} (r : RowI hq bo N l) (k : ∀ p, hq.objs.get bo = some p -> hr.objs.get bo = some p) : RowI hr bo N l := by
 obtain ⟨v, vs, o, q⟩ := r
 exact ⟨v, vs, k _ o, q⟩
theorem KM.refl (w : WF h) {on : List Int} (r : RowI h bo N on) (u : UF N on rk rt K) : KM bo rm N K rk rt h h := ⟨w, Nat.le_refl _, fun _ _ _ _ k => k, on, r, u⟩
theorem KM.grow (k : KM bo rm N K rk rt h hq) {h0 : AHeap} (w0 : WF h0) (g : Grow h0 h) (h1 : h0.next <= bo) (h2 : h0.next <= rm) : Grow h0 hq :=
 ⟨k.wf, Nat.le_trans g.next k.next, fun c p hg => by have := w0.lt hg; exact k.keep c p (by omega) (by omega) (g.keep _ _ hg)⟩
theorem KM.more (k : KM bo rm N K rk rt h hq) (g : Grow hq hr) : KM bo rm N K rk rt h hr := by
 obtain ⟨on, r, u⟩ := k.row
 exact ⟨g.wf, Nat.le_trans k.next g.next, fun c p h1 h2 h3 => g.keep _ _ (k.keep c p h1 h2 h3), on, r.grow fun p => g.keep _ p, u⟩
theorem KM.find (k : KM bo rm N K rk rt h hq) (B : But bo hq hr) {on : List Int} (r : RowI hr bo N on) (u : UF N on rk rt K) : KM bo rm N K rk rt h hr :=
 ⟨B.wf k.wf, Nat.le_trans k.next B.next, fun c p h1 h2 h3 => B.keep c h1 p (k.keep c p h1 h2 h3), on, r, u⟩
theorem KM.fresh (k : KM bo rm N K rk rt h hq) (w : WF h) (n : hq.next <= hr.next) (wr : WF hr) (hb : bo < h.next) (kp : ∀ c p, c < h.next -> hq.objs.get c = some p -> hr.objs.get c = some p) : KM bo rm N K rk rt h hr := by
 obtain ⟨on, r, u⟩ := k.row
 exact ⟨wr, Nat.le_trans k.next n, fun c p h1 h2 h3 => kp c p (w.lt h3) (k.keep c p h1 h2 h3), on, r.grow fun p hp => kp _ _ hb hp, u⟩
theorem KM.put (k : KM bo rm N K rk rt h hq) (B : But rm hq hr) (hne : bo ≠ rm) : KM bo rm N K rk rt h hr := by
 obtain ⟨on, r, u⟩ := k.row
 exact ⟨B.wf k.wf, Nat.le_trans k.next B.next, fun c p h1 h2 h3 => B.keep c h2 p (k.keep c p h1 h2 h3), on, r.grow fun p hp => B.keep _ hne p hp, u⟩
theorem LeI.km {b12 b10 bs : Nat} {l : List Pr} (I : LeI h b12 b10 bs bo N l rt) (hro : ∃ v e vs, h.objs.get bo = some (v, .cells false e vs)) (k : KM bo bo N K rk rt h hq) : LeI hq b12 b10 bs bo N l rt := by
 obtain ⟨v12, e12, r, o12, vm, es, c, om, f⟩ := I.c12
 obtain ⟨v10, e10, o10⟩ := I.c10
 obtain ⟨vs, e, rest, os⟩ := I.cs
 obtain ⟨n1', n2', n3'⟩ := I.ne
 obtain ⟨v, eb, vb, ob⟩ := hro
 have hne : r ≠ bo := by
  rintro rfl
  rw [om] at ob; cases ob
 exact ⟨⟨v12, e12, r, k.keep _ _ n1' n1' o12, vm, es, c, k.keep _ _ hne hne om, f⟩, ⟨v10, e10, k.keep _ _ n2' n2' o10⟩, ⟨vs, e, rest, k.keep _ _ n3' n3' os⟩, I.ne⟩
end
section
variable {fns : FnsT} {summ : SumT}
theorem KM.ask (H : Has fns summ) {b12 b10 bs bo N K : Nat} {rk : List Int} {rt : Int -> Int} {l : List Pr} {h : AHeap} (w : WF h) (I : LeI h b12 b10 bs bo N l rt) (L : LE l rt N) (hbo : bo < h.next) (hro : ∃ v e vs, h.objs.get bo = some (v, .cells false e vs)) :
  Ask fns summ bo h 29 [.ptr (some (b12, 0)), .ptr (some (b10, 0))] (fun a => lsP l (rt a)) (fun a => 0 <= a /\ a < N) (KM bo bo N K rk rt h) := by
 refine ⟨fun hp hq k wq n kp => k.fresh w n wq hbo kp, fun a ha hp wp k => ?_⟩
 obtain ⟨i, rfl⟩ : ∃ i : Nat, a = i := ⟨a.toNat, by omega⟩
 obtain ⟨on, r, u⟩ := k.row
 refine (least_ok H u (i := i) (by omega) hp wp (I.km hro k) L (by omega) r).mono ?_
 rintro r' h' ⟨h1, B, on', ho', u'⟩
 exact ⟨h1, B, k.find B ho' u'⟩
end
structure UL (hb : AHeap) (b17 : Nat) (root : Int) (l : List Pr) (rt : Int -> Int) (has : Int -> Clz) (j k : Nat) (rv : AVal) (hq : AHeap) : Prop where
 low : hb.next <= b17
 o : ∃ (ver : Nat) (vo : AVal) (cs : List (List AVal)) (ns : List Node), hq.objs.get b17 = some (ver, .cells false 24 [vo, .int .i64 root]) /\ Built hq hb.next 36 5 vo j cs.flatten /\ cs.length = j /\ ns.length = j /\ (∀ (i : Nat) c n, cs[i]? = some c -> ns[i]? = some n -> OwnN hq hb.next c n) /\ NodesZ l rt has ns /\ ∀ (i : Nat) c, cs[i]? = some c -> ∀ d k m, c[2]? = some (.slice (some (d, 0)) k) -> rv ≠ .slice (some (d, 0)) m
 r : Built hq hb.next 3 1 rv k ((zHK l rt k).map (AVal.int .i64))
theorem UL.stay {hb : AHeap} {b17 : Nat} {root : Int} {l : List Pr} {rt : Int -> Int} {has : Int -> Clz} {j k' : Nat} {rv : AVal} {hq hr : AHeap} (I : UL hb b17 root l rt has j k' rv hq) (k : ∀ c p, hb.next <= c -> hq.objs.get c = some p -> hr.objs.get c = some p) : UL hb b17 root l rt has j k' rv hr := by
 obtain ⟨ver, vo, cs, ns, h1, h2, h3, h4, h5, h6, h7⟩ := I.o
 refine ⟨I.low, ⟨ver, vo, cs, ns, k _ _ I.low h1, zAX h2 fun c p hc hp _ => k c p hc hp, h3, h4, fun i c n hc hn => ?_, h6, h7⟩, zAX I.r fun c p hc hp _ => k c p hc hp⟩
 obtain ⟨av, lv, q1, q2, q3⟩ := h5 i c n hc hn
 exact ⟨av, lv, q1, zAX q2 fun c p hc hp _ => k c p hc hp, zAX q3 fun c p hc hp _ => k c p hc hp⟩
theorem UL.other {hb : AHeap} {b17 : Nat} {root : Int} {l : List Pr} {rt : Int -> Int} {has : Int -> Clz} {j k' : Nat} {rv : AVal} {hq hr : AHeap} (I : UL hb b17 root l rt has j k' rv hq) (g : Grow hq hr) : UL hb b17 root l rt has j k' rv hr := I.stay fun c p _ h => g.keep c p h
theorem UL.but {hb : AHeap} {b17 bo : Nat} {root : Int} {l : List Pr} {rt : Int -> Int} {has : Int -> Clz} {j k' : Nat} {rv : AVal} {hq hr : AHeap} (I : UL hb b17 root l rt has j k' rv hq) (B : But bo hq hr) (h : bo < hb.next) : UL hb b17 root l rt has j k' rv hr := I.stay fun c p hc hp => B.keep c (by omega) p hp
theorem UL.nd {hb : AHeap} {b17 k' : Nat} {root : Int} {l : List Pr} {rt : Int -> Int} {has : Int -> Clz} {rv : AVal} {hq : AHeap} {g : Graph} (I : UL hb b17 root l rt has g.nodes.length k' rv hq) {vo : AVal} {ver : Nat} (ho : hq.objs.get b17 = some (ver, .cells false 24 [vo, .int .i64 root])) :
  ∃ ns, ns.length = g.nodes.length /\ NodesZ l rt has ns /\ OwnG hq hb.next (.agg [vo, .int .i64 root]) ⟨ns, root⟩ := by
 obtain ⟨ver', vo', cs, ns, h1, h2, h3, h4, h5, h6, h7⟩ := I.o
 rw [ho] at h1
 simp only [oI, Prod.mk.injEq, AObj.cells.injEq, List.cons.injEq, and_true, true_and] at h1
 obtain ⟨_, rfl⟩ := h1
 exact ⟨ns, h4, h6, vo, cs, rfl, by rw [h4]; exact h2, by rw [h4]; exact h3, h5⟩
theorem UL.put {hb hA hB : AHeap} {b17 : Nat} {root : Int} {l : List Pr} {rt : Int -> Int} {has : Int -> Clz} {j ver : Nat} {rv vo vo' av lv : AVal} {hq hr hs : AHeap} {cs : List (List AVal)} {ns : List Node} {n : Node} {ls : List (List Nat)} (wA : WF hA)
  (h2 : Built hq hb.next 36 5 vo j cs.flatten) (h3 : cs.length = j) (h4 : ns.length = j) (h5 : ∀ (i : Nat) c n, cs[i]? = some c -> ns[i]? = some n -> OwnN hq hb.next c n) (h6 : NodesZ l rt has ns) (h7 : ∀ (i : Nat) c, cs[i]? = some c -> ∀ d k m, c[2]? = some (.slice (some (d, 0)) k) -> rv ≠ .slice (some (d, 0)) m)
  (hr' : Built hq hb.next 3 1 rv j ((zHK l rt j).map (AVal.int .i64))) (low : hb.next <= b17)
  (hrv : ∀ c m, rv = .slice (some (c, 0)) m -> c < hA.next) (hav : ∀ c m, av = .slice (some (c, 0)) m -> hA.next <= c)
  (hls : Rises ls /\ ∀ s, s ∈ ls ↔ ∃ a, (s, a) ∈ (has (rt (j : Int))).fields) (hn : n = zGo (has (rt (j : Int))) (fun a => lsP l (rt a)) ls)
  (ka : Built hq hb.next 3 1 av n.args.length (n.args.map (AVal.int .i64))) (kl : Built hq hb.next 9 1 lv n.labels.length (n.labels.map AVal.str))
  (hs17 : hs.objs.get b17 = some (ver, .cells false 24 [vo', .int .i64 root])) (B : Built hs hb.next 36 5 vo' (j + 1) (cs ++ [[.int .i64 n.kind, .str n.name, av, lv, .bool n.isOpen]]).flatten)
  (hk : ∀ c p, hq.objs.get c = some p -> (∀ vs, p.2 ≠ .cells false 36 vs) -> c ≠ b17 -> hs.objs.get c = some p) (h17 : ∃ v vs, hq.objs.get b17 = some (v, .cells false 24 vs)) :
  UL hb b17 root l rt has (j + 1) j rv hs := by
 obtain ⟨v17, vs17, o17⟩ := h17
 have hown : ∀ {e : TypeId} {w : AVal} {k base : Nat} {cells : List AVal}, e ≠ 36 -> e ≠ 24 -> Built hq base e 1 w k cells -> Built hs base e 1 w k cells := fun he he' kk => zBM kk fun b p hb ⟨vs, hp⟩ _ => hk b p hb (fun vs' hh => by rw [hp] at hh; cases hh; exact he rfl) (by
  rintro rfl
  rw [o17] at hb
  simp only [oI] at hb
  rw [<- hb] at hp; cases hp; exact he' rfl)
 refine ⟨low, ⟨ver, vo', _, ns ++ [n], hs17, B, by simp [h3], by simp [h4], fun i c m hc hm => ?_, fun i m hm => ?_, fun i c hc d k m hd hh => ?_⟩, hown (by decide) (by decide) hr'⟩
 ·rcases Nat.lt_or_ge i j with hij | hij
  ·rw [List.getElem?_append_left (by omega)] at hc hm
   obtain ⟨av', lv', q1, q2, q3⟩ := h5 i c m hc hm
   exact ⟨av', lv', q1, hown (by decide) (by decide) q2, hown (by decide) (by decide) q3⟩
  ·rw [List.getElem?_append_right (by omega), h3] at hc
   rw [List.getElem?_append_right (by omega), h4] at hm
   obtain rfl : i = j := by
    have := (List.getElem?_eq_some_iff.1 hc).1
    simp only [zlC, zlN] at this
    omega
   rw [Nat.sub_self, List.getElem?_cons_zero, oI] at hc hm
   subst hc; subst hm
   exact ⟨av, lv, rfl, hown (by decide) (by decide) ka, hown (by decide) (by decide) kl⟩
 ·rcases Nat.lt_or_ge i j with hij | hij
  ·rw [List.getElem?_append_left (by omega)] at hm
   exact h6 i m hm
  ·rw [List.getElem?_append_right (by omega), h4] at hm
   obtain rfl : i = j := by
    have := (List.getElem?_eq_some_iff.1 hm).1
    simp only [zlC, zlN] at this
    omega
   rw [Nat.sub_self, List.getElem?_cons_zero, oI] at hm
   subst hm
   exact ⟨ls, hls.1, hls.2, hn⟩
 ·rcases Nat.lt_or_ge i j with hij | hij
  ·rw [List.getElem?_append_left (by omega)] at hc
   exact h7 i c hc d k m hd hh
  ·rw [List.getElem?_append_right (by omega), h3] at hc
   obtain rfl : i = j := by
    have := (List.getElem?_eq_some_iff.1 hc).1
    simp only [zlC, zlN] at this
    omega
   rw [Nat.sub_self, List.getElem?_cons_zero, oI] at hc
   subst hc
   simp only [List.getElem?_cons_succ, List.getElem?_cons_zero, oI] at hd
   have h1 := hav d k hd
   have h2 := hrv d m hh
   omega
theorem UL.rep {hb : AHeap} {b17 : Nat} {root : Int} {l : List Pr} {rt : Int -> Int} {has : Int -> Clz} {j k : Nat} {rv rv' : AVal} {hq hr hs : AHeap} (I : UL hb b17 root l rt has j k rv hq) (wq : WF hq) (g : Grow hq hr) (kp : ∀ c p, hr.objs.get c = some p -> (∀ n, rv ≠ .slice (some (c, 0)) n) -> hs.objs.get c = some p)
  (B : Built hs hb.next 3 1 rv' (k + 1) ((zHK l rt (k + 1)).map (AVal.int .i64))) (f : ∀ c n, rv' = .slice (some (c, 0)) n -> hr.next <= c) : UL hb b17 root l rt has j (k + 1) rv' hs := by
 obtain ⟨ver, vo, cs, ns, h1, h2, h3, h4, h5, h6, h7⟩ := I.o
 have hne : ∀ {c : Nat} {p : Nat × AObj}, hq.objs.get c = some p -> (∀ vs, p.2 ≠ .cells false 3 vs) -> hs.objs.get c = some p := fun hc hp => kp _ _ (g.keep _ _ hc) (zAK I.r hc hp)
 refine ⟨I.low, ⟨ver, vo, cs, ns, hne h1 (fun vs hh => by cases hh), zAX h2 fun c p _ hc ⟨vs, hp⟩ => hne hc (fun vs' hh => by rw [hp] at hh; cases hh), h3, h4, fun i c n hc hn => ?_, h6, fun i c hc d m m' hd hh => ?_⟩, B⟩
 ·obtain ⟨av, lv, q1, q2, q3⟩ := h5 i c n hc hn
  refine ⟨av, lv, q1, zBM q2 fun c' p hc' _ ⟨m, hm⟩ => kp c' p (g.keep _ _ hc') fun m' => h7 i c hc c' m m' (by rw [q1, <- hm]; rfl), zAX q3 fun c' p _ hc' ⟨vs, hp⟩ => hne hc' fun vs' hh => by rw [hp] at hh; cases hh⟩
 ·have hi := (List.getElem?_eq_some_iff.1 hc).1
  obtain ⟨av, lv, q1, q2, q3⟩ := h5 i c _ hc (List.getElem?_eq_getElem (show i < ns.length by omega))
  rw [q1] at hd
  simp only [List.getElem?_cons_succ, List.getElem?_cons_zero, oI] at hd
  have k1 := zHN q2 wq hd
  have k2 := f d m' hh
  have := g.next
  omega
theorem KM.trans {bo N K : Nat} {rk : List Int} {rt : Int -> Int} {h hq hr : AHeap} (k : KM bo bo N K rk rt h hq) (k' : KM bo bo N K rk rt hq hr) : KM bo bo N K rk rt h hr :=
 ⟨k'.wf, Nat.le_trans k.next k'.next, fun c p h1 h2 h3 => k'.keep c p h1 h2 (k.keep c p h1 h2 h3), k'.row⟩
end Go.Ab.S
end
