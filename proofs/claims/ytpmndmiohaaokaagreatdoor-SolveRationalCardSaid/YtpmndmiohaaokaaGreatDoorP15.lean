import Derived.Test.YtpmndmiohaaokaaGreatDoorP14
/-
  Part 15 of the proof.
-/
set_option linter.all false
section
namespace Go.Ab.S
open Go Go.Ab
set_option maxHeartbeats 4000000
theorem zLo (b : Nat) (h : AHeap) : But b h h := ⟨Nat.le_refl _, fun _ _ _ k => k, fun _ _ g _ => g, fun w => w⟩
def RowI (h : AHeap) (b N : Nat) (l : List Int) : Prop := ∃ ver vs, h.objs.get b = some (ver, .cells false 3 vs) /\ vs.take N = l.map (AVal.int .i64) /\ N <= vs.length
theorem zGC {vs : List AVal} {N : Nat} {l : List Int} (h : vs.take N = l.map (AVal.int .i64)) {i : Nat} (hi : i < N) (hl : N <= vs.length) : vs[i]? = some (.int .i64 (clAt l (i : Int))) := by
 have e : (vs.take N)[i]? = vs[i]? := by rw [List.getElem?_take, if_pos hi]
 have hll : l.length = N := by have := congrArg List.length h; simp at this; omega
 rw [<- e, h, List.getElem?_map, zCn, List.getD, List.getElem?_eq_getElem (by omega)]; rfl
theorem zLW {vs : List AVal} {N : Nat} {l : List Int} (h : vs.take N = l.map (AVal.int .i64)) {i : Nat} (hi : i < N) (hl : N <= vs.length) (x : Int) : (vs.take i ++ [AVal.int .i64 x] ++ vs.drop (i + 1)).take N = (l.set i x).map (AVal.int .i64) := by
 rw [zJx hi hl, h, List.map_set]
section
variable {fns : FnsT} {summ : SumT}
variable (H : Has fns summ)
include H
theorem zGn {N K : Nat} {on rk : List Int} {rt : Int -> Int} (u : UF N on rk rt K) {i : Nat} (hi : i < N) {b bo : Nat} (hne : b ≠ bo) {e : TypeId} {rest : List AVal} {ver : Nat} (h : AHeap) (hw : WF h) (hb : h.objs.get b = some (ver, .cells false e (.slice (some (bo, 0)) N :: rest))) (ho : RowI h bo N on) :
  Cl fns summ 28 [.ptr (some (b, 0)), .int .i64 (i : Nat)] h fun r h' => r = .int .i64 (rt i) /\ But bo h h' /\ ∃ on', RowI h' bo N on' /\ UF N on' rk rt K := by
 obtain ⟨vo, vs, ho, hvs, hvl⟩ := ho
 refine H.go (fn := F_sfind) rfl (by decide) rfl rfl ?_
 unfold F_sfind
 dsimp only [qQ, qE, qN, gQ, gE, vi, tm, mt, lo, fa]
 repeat with_reducible first | refine zAA ?_ | refine zAC ?_ | refine zAE ?_ | refine zAD ?_ | (apply st_q; exact q1)
 refine zBy ?_
 refine zDM (fun m a hp => ∃ (j : Nat) (on : List Int) (vo : Nat) (vs : List AVal), Hid (j < N /\ rt j = rt i /\ ((K : Int) - clAt rk j).toNat <= m) /\ UF N on rk rt K /\ But bo h hp /\ hp.objs.get b = some (ver, .cells false e (.slice (some (bo, 0)) N :: rest)) /\ hp.objs.get bo = some (vo, .cells false 3 vs) /\ vs.take N = on.map (AVal.int .i64) /\ N <= vs.length /\ a.defers = [] /\ ev a (.tmp 0) = some (.ptr (some (b, 0))) /\ ev a (.tmp 1) = some (.int .i64 (j : Nat))) ?_ (n := ((K : Int) - clAt rk i).toNat)
  ⟨i, on, vo, vs, ⟨hi, rfl, Nat.le_refl _⟩, u, zLo _ _, hb, ho, hvs, hvl, by exact n1, by exact e1, by exact e1⟩
 clear u hb ho hvs hvl
 rintro m a hp ⟨j, on, vo, vs, hj, u, B, hb, ho, hvs, hvl, hd, h0', h1'⟩
 obtain ⟨hjN, hjr, hjm⟩ := hj.out
 have inj : InN N (j : Int) := ⟨by omega, by omega⟩
 have r1' := u.rng _ inj
 obtain ⟨k, hk⟩ : ∃ k : Nat, clAt on (j : Int) = k := ⟨(clAt on (j : Int)).toNat, by have := r1'.1; omega⟩
 have hvj := zGC hvs hjN hvl
 rw [hk] at hvj r1'
 have hij : slA (.slice (some (bo, 0)) N) 1 j = some (bo, j) := by simp [slA, hjN]
 by_cases hz : k = j
 ·subst hz
  have hbn : (((k : Nat) : Int) != ((k : Nat) : Int)) = false := by simp
  have hroot := (u.fix _ inj).1 hk
  have hres : rt (i : Int) = (k : Int) := by rw [<- hjr, hroot]
  have hfin : But bo h hp /\ ∃ on', RowI hp bo N on' /\ UF N on' rk rt K := ⟨B, on, ⟨vo, vs, ho, hvs, hvl⟩, u⟩
  replace hfin := Hid.mk hfin
  replace hres := Hid.mk hres
  clear hj hjr hjm inj r1' hk hroot u B hvs
  repeat' with_reducible first | refine zAA ?_ | refine zBg ?_ | refine zBf ?_ | refine zAC ?_ | refine zAE ?_ | refine zAD ?_ | refine zCF ?_ | refine zAO ?_ | (apply st_q; exact q1) | (apply zAL; exact e1) | (apply zAI; exact n1; exact r1)
  exact ⟨by rw [hres.out], hfin.out⟩
 ·have hbn : (((k : Nat) : Int) != ((j : Nat) : Int)) = true := by simp; omega
  have hkN : k < N := by have := r1'.2; omega
  have ink : InN N (k : Int) := ⟨by omega, by omega⟩
  have r2' := u.rng _ ink
  obtain ⟨l, hl⟩ : ∃ l : Nat, clAt on (k : Int) = l := ⟨(clAt on (k : Int)).toNat, by have := r2'.1; omega⟩
  have hvk := zGC hvs hkN hvl
  rw [hl] at hvk r2'
  have hik : slA (.slice (some (bo, 0)) N) 1 k = some (bo, k) := by simp [slA, hkN]
  have hlN : l < N := by have := r2'.2; omega
  have hne1 : clAt on (j : Int) ≠ j := by rw [hk]; omega
  have u' := u.squash hjN hne1
  rw [hk, hl] at u'
  have hset := zLW hvs hjN hvl (l : Int)
  have hup : (((K : Int) - clAt rk (l : Int)).toNat <= m - 1 /\ m - 1 < m) /\ rt l = rt i := by
   have inl' : InN N (l : Int) := ⟨by omega, by omega⟩
   have s1' := u.up _ inj hne1
   rw [hk] at s1'
   refine ⟨?_, ?_⟩
   ·have hlt : clAt rk (j : Int) < clAt rk (l : Int) := by
     by_cases hq : (l : Int) = k
     ·rw [hq]; exact s1'
     ·have := u.up _ ink (by rw [hl]; exact hq)
      rw [hl] at this; omega
    have := (u.rk _ inl').2
    omega
   ·rw [<- hl, u.same _ ink, <- hk, u.same _ inj, hjr]
  have w := B.wf hw
  replace hup := Hid.mk hup
  replace u' := Hid.mk u'
  replace hset := Hid.mk hset
  have hlen : (vs.take j ++ [AVal.int .i64 (l : Int)] ++ vs.drop (j + 1)).length = vs.length := by
   simp only [List.length_append, List.length_take, zlC, zlN, List.length_drop]; omega
  have hgl : (vs.take j ++ [AVal.int .i64 (l : Int)] ++ vs.drop (j + 1))[j]? = some (.int .i64 (l : Nat)) := by
   rw [zGC hset.out hjN (by omega), zHO (by rw [u.lo]; exact hjN) _ _ (by omega), if_pos rfl]
  replace hgl := Hid.mk hgl
  replace hlen := Hid.mk hlen
  clear hj hjr hk hl hne1 u hvs r1' r2' inj ink hz
  repeat with_reducible first | refine zAA ?_ | refine zAC ?_ | refine zAE ?_ | refine zAD ?_ | refine zAP ?_ | refine zAT ?_ | refine zBQ ?_ | (apply dr_q; exact q1) | (apply zCs; exact q1; exact og1) | (apply st_q; exact q1) | (apply zAJ; exact e1)
  refine zBD (zAG (by exact e1) (by exact e1) (cs := [.int .i64 (l : Nat)]) rfl rfl w ho (by simp only [zlC, zlN]; omega) rfl ?_)
  rintro v4 h4 p4 o4
  refine zAC ⟨by simp [zAf, Nat.testBit], ?_⟩
  have hb4 := p4.keep _ hne _ hb
  simp only [Nat.zero_add, Nat.mul_one, zlC, zlN] at o4
  have hgl := hgl.out
  clear hb ho hvj hvk hik
  generalize hV : (vs.take j ++ [AVal.int .i64 (l : Int)] ++ vs.drop (j + 1)) = V at *
  repeat with_reducible first | refine zAA ?_ | refine zAQ ?_ | refine zAC ?_ | refine zAD ?_ | refine zBz ?_ | (apply st_q; exact q1)
  exact ⟨m - 1, hup.out.1.2, l, _, v4, V, ⟨hlN, hup.out.2, hup.out.1.1⟩, u'.out, B.trans p4, hb4, o4, hset.out, by have := hlen.out; omega, by exact n1, by exact e1, by exact e1⟩
end
end Go.Ab.S
end
section
namespace Go.Ab.S
open Go.Ab
set_option maxHeartbeats 4000000
section
variable {fns : FnsT} {summ : SumT} {ro : Option Nat}
theorem zMT {d : Option Tmp} {x : AOpd} {l : List Step} {a : AAct} {h : AHeap} {K : AAct -> AHeap -> Prop} {r ver c : Nat} {es : List (AVal × AVal × Nat)} (hx : ev a x = some (.map (some r))) (hr : h.objs.get r = some (ver, .map es c)) (w : WF h)
  (k : ∀ b h', h.next <= b -> Grow h h' -> h'.objs.get b = some (b, .iter r c [] c) -> St fns summ ro l (putA a d (.ptr (some (b, 0)))) h' K) : St fns summ ro (⟨d, none, .e (.range x)⟩ :: l) a h K :=
 st_t (by intro _ _ hh; cases hh) (by intro _ _ hh; cases hh) (v := .ptr (some (h.next, 0))) (h' := newA h (.iter r c [] c)) (by simp only [zBU, hx, hr]) (k _ _ (Nat.le_refl _) ((Grow.refl w).new _) (zAV _ _))
theorem zOQ {d : Option Tmp} {x : AOpd} {l : List Step} {a : AAct} {h : AHeap} {K : AAct -> AHeap -> Prop} {b r ver verr c : Nat} {seen : List Nat} {es : List (AVal × AVal × Nat)} (hx : ev a x = some (.ptr (some (b, 0)))) (hb : h.objs.get b = some (ver, .iter r c seen c)) (hr : h.objs.get r = some (verr, .map es c)) (hes : ∀ e ∈ es, e.2.2 < c) (w : WF h)
  (k0 : (∀ e ∈ es, e.2.2 ∈ seen) -> St fns summ ro l (putA a d (.tuple [.bool false])) h K)
  (k1 : ∀ e ∈ es, e.2.2 ∉ seen -> ∀ ver' h', But b h h' -> h'.objs.get b = some (ver', .iter r c (seen ++ [e.2.2]) c) -> St fns summ ro l (putA a d (.tuple [.bool true, e.1, e.2.1])) h' K) : St fns summ ro (⟨d, none, .e (.next x)⟩ :: l) a h K := by
 refine st_e (ex_turns (by intro _ _ hh; cases hh) (by intro _ _ hh; cases hh) ?_)
 have hall : es.all (fun e => Nat.blt e.2.2 c) = true := List.all_eq_true.2 fun e he => by simpa using hes e he
 simp only [zBU, hx, hb, hr, hall, and_self, if_true]
 have hmem : ∀ e, e ∈ es.filter (fun e => !seen.contains e.2.2) ↔ e ∈ es /\ e.2.2 ∉ seen := fun e => by simp
 generalize es.filter (fun e => !seen.contains e.2.2) = left at hmem
 cases left with
 | nil =>
  refine k0 fun e he => ?_
  by_cases hs : e.2.2 ∈ seen
  ·exact hs
  ·exact absurd ((hmem e).2 ⟨he, hs⟩) (by simp)
 | cons y rest =>
  refine ⟨by simp, fun i hi => ?_⟩
  obtain ⟨k, v, born⟩ : AVal × AVal × Nat := (y :: rest)[i]
  have hi' : i < (y :: rest).length := hi
  obtain ⟨e, he⟩ : ∃ e, (y :: rest)[i]? = some e := ⟨_, List.getElem?_eq_getElem hi'⟩
  obtain ⟨m1, m2⟩ := (hmem e).1 (List.mem_of_getElem? he)
  simp only [he]
  exact k1 e m1 m2 _ _ (zEY w hb _) (zAh _ _ _)
theorem zMS {d : Option Tmp} {x : AOpd} {l : List Step} {a : AAct} {h : AHeap} {K : AAct -> AHeap -> Prop} {b r ver verr c s : Nat} {seen : List Nat} {es : List (AVal × AVal × Nat)} {k v : AVal} {n : Nat} (hx : ev a x = some (.ptr (some (b, 0)))) (hb : h.objs.get b = some (ver, .iter r c (seen ++ [s]) c)) (hr : h.objs.get r = some (verr, .map es c)) (hf : es.find? (fun e => Nat.beq e.2.2 s) = some (k, v, n))
  (kk : St fns summ ro l (putA a d (.tuple [k, v])) h K) : St fns summ ro (⟨d, none, .e (.entry x)⟩ :: l) a h K :=
 st_t (by intro _ _ hh; cases hh) (by intro _ _ hh; cases hh) (v := .tuple [k, v]) (h' := h) (by
  have hl : (seen ++ [s]).getLast? = some s := by simp
  simp only [zBU, hx, hb, hr, hl, if_true, hf]) kk
end
end Go.Ab.S
end
section
namespace Go.Ab.S
open Go Go.Ab
set_option maxHeartbeats 8000000
def clzC (c : Clz) (av mv : AVal) : List AVal := [.int .i64 c.kind, .str c.name, av, mv, .bool c.isOpen]
def Kp (b r : Nat) (h h' : AHeap) : Prop := ∀ c p, c ≠ b -> c ≠ r -> h.objs.get c = some p -> (∀ ro vs, p.2 ≠ .cells ro 40 vs) -> h'.objs.get c = some p
theorem Kp.trans {b r : Nat} {h h' h'' : AHeap} (k : Kp b r h h') (l : Kp b r h' h'') : Kp b r h h'' := fun c p h1 h2 h3 h4 => l c p h1 h2 (k c p h1 h2 h3 h4) h4
theorem Kp.grow {b r : Nat} {h h' : AHeap} (g : Grow h h') : Kp b r h h' := fun c p _ _ h3 _ => g.keep c p h3
theorem Kp.but {b r c : Nat} {h h' h'' : AHeap} (k : Kp b r h h') (p : But c h' h'') (w : WF h) (hc : c = b \/ c = r \/ h.next <= c) : Kp b r h h'' := fun d q h1 h2 h3 h4 => p.keep d (by
 rintro rfl
 rcases hc with rfl | rfl | hc
 ·exact h1 rfl
 ·exact h2 rfl
 ·have := w.lt h3; omega) q (k d q h1 h2 h3 h4)
structure OInv (h0 h : AHeap) (b rY : Nat) (ov rv hv : AVal) (fX fY : List Fld) (ws : List Pr) (seen : List Nat) (wv : AVal) (hp : AHeap) : Prop where
 grow : Grow h0 hp
 nx : h.next <= hp.next
 kp : Kp b rY h hp
 s : ∃ ver, hp.objs.get b = some (ver, .cells false 56 [ov, rv, hv, wv])
 w : Built hp h0.next 40 2 wv ((newW fX fY seen).reverse ++ ws).length (rowC ((newW fX fY seen).reverse ++ ws))
 y : ∃ ver, hp.objs.get rY = some (ver, .map (fEs 0 (fY ++ zCg fX fY seen)) (fY ++ zCg fX fY seen).length)
section
variable {h0 h : AHeap} {b rY : Nat} {ov rv hv wv : AVal} {fX fY : List Fld} {ws : List Pr} {seen : List Nat} {hp hq : AHeap}
theorem OInv.side {c : Nat} {p : Nat × AObj} (I : OInv h0 h b rY ov rv hv fX fY ws seen wv hp) (w0 : WF h0) (w : WF h) (q : But c hp hq) (hc : hp.objs.get c = some p) (h1 : ∀ ro e vs, p.2 ≠ .cells ro e vs) (hr : c ≠ rY) (hl : h.next <= c) (h0l : h0.next <= c) : OInv h0 h b rY ov rv hv fX fY ws seen wv hq := by
 obtain ⟨v1, s1'⟩ := I.s
 obtain ⟨v2, y1⟩ := I.y
 refine ⟨q.grow h0 w0 I.grow h0l, Nat.le_trans I.nx q.next, I.kp.but q w (.inr (.inr hl)), ⟨v1, q.keep _ ?_ _ s1'⟩, zAS I.w q hc (fun vs hh => h1 _ _ vs hh), ⟨v2, q.keep _ (Ne.symm hr) _ y1⟩⟩
 rintro rfl
 rw [s1'] at hc; cases hc
 exact h1 _ _ _ rfl
theorem OInv.other (I : OInv h0 h b rY ov rv hv fX fY ws seen wv hp) (g : Grow hp hq) : OInv h0 h b rY ov rv hv fX fY ws seen wv hq := by
 obtain ⟨v1, s1'⟩ := I.s
 obtain ⟨v2, y1⟩ := I.y
 exact ⟨I.grow.trans g, Nat.le_trans I.nx g.next, I.kp.trans (.grow g), ⟨v1, g.keep _ _ s1'⟩, I.w.grow g, ⟨v2, g.keep _ _ y1⟩⟩
theorem OInv.push {wv' : AVal} {h13 h14 : AHeap} {q : Pr} {v14 : Nat} {seen' : List Nat} (I : OInv h0 h b rY ov rv hv fX fY ws seen wv hp) (w0 : WF h0) (w : WF h) (hb0 : h0.next <= b) {h12 : AHeap} (g12 : Grow hp h12) (B13 : Built h13 h0.next 40 2 wv' (((newW fX fY seen).reverse ++ ws).length + 1) (rowC ((newW fX fY seen).reverse ++ ws) ++ zCb q))
  (gr13 : ∀ h, WF h -> Grow h h12 -> h.next <= h0.next -> Grow h h13) (n13 : h12.next <= h13.next) (kp13 : ∀ b p, h12.objs.get b = some p -> (∀ k, wv ≠ .slice (some (b, 0)) k) -> h13.objs.get b = some p) (p14 : But b h13 h14) {pb : Nat × AObj} (hb13 : h13.objs.get b = some pb) (hpb : ∀ vs, pb.2 ≠ .cells false 40 vs) (o14 : h14.objs.get b = some (v14, .cells false 56 [ov, rv, hv, wv']))
  (hN : newW fX fY seen' = newW fX fY seen ++ [q]) (hA : zCg fX fY seen' = zCg fX fY seen) : OInv h0 h b rY ov rv hv fX fY ws seen' wv' h14 := by
 have I12 := I.other g12
 obtain ⟨v2, y1⟩ := I12.y
 have ne : ∀ {c p}, h12.objs.get c = some p -> (∀ vs, p.2 ≠ .cells false 40 vs) -> ∀ k, wv ≠ .slice (some (c, 0)) k := fun hc hp => zAK I12.w hc hp
 have hyb : rY ≠ b := by
  rintro rfl
  obtain ⟨v1, s1'⟩ := I12.s
  rw [s1'] at y1; cases y1
 refine ⟨p14.grow h0 w0 (gr13 h0 w0 I12.grow (Nat.le_refl _)) hb0, by have := I12.nx; have := p14.next; omega, fun c p h1 h2 h3 h4 => p14.keep c h1 p (kp13 c p (I12.kp c p h1 h2 h3 h4) (ne (I12.kp c p h1 h2 h3 h4) fun vs hh => h4 _ vs hh)), ⟨v14, o14⟩, ?_, ⟨v2, by rw [hA]; exact p14.keep _ hyb _ (kp13 _ _ y1 (ne y1 fun vs hh => by cases hh))⟩⟩
 rw [hN, List.reverse_append, List.reverse_singleton, List.singleton_append, zlK, zEQ, zlC]
 exact zAS B13 p14 hb13 hpb
theorem OInv.label {i : Nat} {v14 : Nat} (I : OInv h0 h b rY ov rv hv fX fY ws seen wv hp) (w0 : WF h0) (w : WF h) (hy0 : h0.next <= rY) (p14 : But rY hp hq) (hi : i < fX.length) (hf : zBq fY fX[i].1 = none) (o14 : hq.objs.get rY = some (v14, .map (fEs 0 (fY ++ zCg fX fY seen) ++ [(.str fX[i].1, .int .i64 fX[i].2, (fY ++ zCg fX fY seen).length)]) ((fY ++ zCg fX fY seen).length + 1))) : OInv h0 h b rY ov rv hv fX fY ws (seen ++ [i]) wv hq := by
 obtain ⟨v1, s1'⟩ := I.s
 obtain ⟨v2, y1⟩ := I.y
 obtain ⟨hA, hN⟩ := adds_new hi hf (seen := seen)
 refine ⟨p14.grow h0 w0 I.grow hy0, Nat.le_trans I.nx p14.next, I.kp.but p14 w (.inr (.inl rfl)), ⟨v1, p14.keep _ ?_ _ s1'⟩, by rw [hN]; exact zAS I.w p14 y1 (fun vs hh => by cases hh), ⟨v14, ?_⟩⟩
 ·rintro rfl
  rw [s1'] at y1; cases y1
 ·rw [hA, <- List.append_assoc, zLK, Nat.zero_add, List.length_append (as := fY ++ zCg fX fY seen), List.length_singleton]; exact o14
end
section
variable {fns : FnsT} {summ : SumT}
variable (H : Has fns summ)
include H
theorem zMr (cX cY : Clz) (kX : cX.kind = 3) (kY : cY.kind = 3) (hn : cX.name = cY.name) (nX : (cX.fields.map (·.1)).Nodup) (nY : (cY.fields.map (·.1)).Nodup) (aY : cY.args = []) {h0 h : AHeap} (w0 : WF h0) (G : Grow h0 h) {b rX rY ver vx vy : Nat} (hXY : rX ≠ rY) (lb : h0.next <= b) (ly : h0.next <= rY) {ov rv hv wv : AVal} {ws : List Pr}
  (hs : h.objs.get b = some (ver, .cells false 56 [ov, rv, hv, wv])) (hB : Built h h0.next 40 2 wv ws.length (rowC ws)) (hx : h.objs.get rX = some (vx, .map (fEs 0 cX.fields) cX.fields.length)) (hy : h.objs.get rY = some (vy, .map (fEs 0 cY.fields) cY.fields.length))
  (hw : ws.length + cX.fields.length <= 2 ^ 36) (ax ay : AVal) (h1a : one ax = true) (h1b : one ay = true) :
  Cl fns summ 101 [.ptr (some (b, 0)), .agg (clzC cX ax (.map (some rX))), .agg (clzC cY ay (.map (some rY)))] h fun r h' => Grow h0 h' /\ Kp b rY h h' /\ ((∃ c new wv' ver', Merge cX cY c new /\ new.length <= cX.fields.length /\ r = .tuple [.agg (clzC c ay (.map (some rY))), .bool true] /\ h'.objs.get b = some (ver', .cells false 56 [ov, rv, hv, wv']) /\ Built h' h0.next 40 2 wv' (new.reverse ++ ws).length (rowC (new.reverse ++ ws)) ∧
   (∃ vy', h'.objs.get rY = some (vy', .map (fEs 0 c.fields) c.fields.length)) /\ c.kind = 3) \/ (Clash cX cY /\ ∃ cs, r = .tuple [.agg cs, .bool false] /\ cs.length = 5 /\ cs.all one = true)) := by
 unfold clzC
 have w := G.wf
 refine H.go (fn := F_sobjects) rfl (by decide) rfl rfl ?_
 unfold F_sobjects
 dsimp only [qQ, qE, qN, gQ, gE, vi, tm, mt, lo, fa]
 refine zAE (zAD ?_)
 refine zBL (by exact e1) (by exact cc) w ?_
 rintro b4 h1 hb4 g1' o4
 have l41 := g1'.wf.lt o4
 refine zBL (by exact e1) (by exact cc) g1'.wf ?_
 rintro b5 h2 hb5 g2' o5
 have l52 := g2'.wf.lt o5
 replace o4 := g2'.keep _ _ o4
 refine zAY g2'.wf ?_
 rintro b6 h3 hb6 g3' o6
 replace o4 := g3'.keep _ _ o4
 replace o5 := g3'.keep _ _ o5
 have g03 := (g1'.trans g2').trans g3'
 have G3 := G.trans g03
 have w3 := g3'.wf
 have n01 := g1'.next
 have n00 := G.next
 have ht5 : ∀ p q r s t : AVal, List.take 5 [p, q, r, s, t] = [p, q, r, s, t] := fun _ _ _ _ _ => rfl
 have n02 := g2'.next
 have hx3 := g03.keep _ _ hx
 have lx3 := w.lt hx
 have ly3 := w.lt hy
 have lb3 := w.lt hs
 have l4 := w3.lt o4
 have l5 := w3.lt o5
 have l6 := w3.lt o6
 have e36 : (2 : Nat) ^ 36 = 68719476736 := by decide
 have I0 : OInv h0 h3 b rY ov rv hv cX.fields cY.fields ws [] wv h3 := by
  refine ⟨G3, Nat.le_refl _, fun c p _ _ k _ => k, ⟨ver, g03.keep _ _ hs⟩, by simpa [newW, zIb] using hB.grow g03, ⟨vy, ?_⟩⟩
  have : zCg cX.fields cY.fields [] = [] := rfl
  rw [this, zlE]; exact g03.keep _ _ hy
 have hkx : Kp b rY h h3 := .grow g03
 have hxe := zLJ cX.fields 0
 have hbxe : b ≠ rX := by rintro rfl; rw [hs] at hx; cases hx
 have hbye : b ≠ rY := by rintro rfl; rw [hs] at hy; cases hy
 clear hs hB hx hy
 repeat with_reducible first | refine zAA ?_ | refine zAC ?_ | refine zAE ?_ | refine zAD ?_ | (apply st_q; exact q1)
 refine zMT (by exact e1) hx3 w3 ?_
 rintro bi h4 hbi g4 oi
 have I4 := I0.other g4
 clear I0
 repeat with_reducible first | refine zAA ?_ | refine zAC ?_
 refine zBy ?_
 refine zDM (fun m a hp => ∃ seen wv, Hid (m + seen.length = cX.fields.length /\ seen.Nodup /\ (∀ i ∈ seen, i < cX.fields.length) /\ (∀ i ∈ seen, (hi : i < cX.fields.length) -> cY.isOpen = true \/ (zBq cY.fields cX.fields[i].1).isSome = true)) /\ OInv h0 h3 b rY ov rv hv cX.fields cY.fields ws seen wv hp /\ (∃ ver, hp.objs.get bi = some (ver, .iter rX cX.fields.length seen cX.fields.length)) /\ a.defers = [] /\ ev a (.tmp 0) = some (.ptr (some (b, 0))) /\ ev a (.tmp 4) = some (.ptr (some (b4, 0))) /\ ev a (.tmp 5) = some (.ptr (some (b5, 0))) /\ ev a (.tmp 6) = some (.ptr (some (b6, 0))) /\ ev a (.tmp 14) = some (.ptr (some (bi, 0)))) ?_ (n := cX.fields.length)
  ⟨[], wv, ⟨rfl, List.nodup_nil, fun i hi => (by cases hi), fun i hi => (by cases hi)⟩, I4, ⟨_, oi⟩, by exact n1, by exact e1, by exact e1, by exact e1, by exact e1, by exact e1⟩
 clear I4 oi
 rintro m a hp ⟨seen, wv, hS, I, ⟨vi, oi⟩, hd, t0', t4', t5', t6', t14'⟩
 obtain ⟨vs, os⟩ := I.s
 obtain ⟨vy2, oy⟩ := I.y
 have orx := I.kp rX _ (Ne.symm hbxe) hXY hx3 (by intro _ _ hh; cases hh)
 have o4p := I.kp b4 _ (by omega) (by omega) o4 (by intro _ _ hh; cases hh)
 have o5p := I.kp b5 _ (by omega) (by omega) o5 (by intro _ _ hh; cases hh)
 have o6p := I.kp b6 _ (by omega) (by omega) o6 (by intro _ _ hh; cases hh)
 have hes : ∀ e ∈ fEs 0 cX.fields, e.2.2 < cX.fields.length := fun e he => by
  obtain ⟨k, hk, rfl⟩ := zHg he
  show 0 + k < _; omega
 have o4' := Hid.mk o4
 have o5' := Hid.mk o5
 have o6' := Hid.mk o6
 have hx3' := Hid.mk hx3
 clear o4 o5 o6 hx3
 repeat with_reducible first | refine zAE ?_ | refine zAD ?_
 refine zOQ (by exact e1) oi orx hes I.grow.wf (fun hall => ?_) fun e he hns ver' h5 p5 o5n => ?_
 ·obtain ⟨hm, hnd, hlt, hop⟩ := hS.out
  have hall' : ∀ i, i < cX.fields.length -> i ∈ seen := fun i hi => by
   have := hall _ (zNg (i := 0) hi)
   simpa using this
  obtain ⟨mc, mm⟩ := zOG kX kY hn nX nY aY hnd hall' fun i hi => hop i (hall' i hi) hi
  have hye := zLJ (cY.fields ++ zCg cX.fields cY.fields seen) 0
  have hBw := Hid.mk I.w
  have hkp := Hid.mk (hkx.trans I.kp)
  have gI := I.grow
  have wI := gI.wf
  have nI := I.nx
  have hones : ∀ (k : Int) (n : List Nat) (x : AVal) (r : Nat) (o : Bool), one x = true -> ([.int .i64 k, .str n, x, .map (some r), .bool o] : List AVal).all one = true := fun k n x r o hx => by simp only [List.all_cons, hx]; rfl
  replace hones := Hid.mk hones
  have hWl : Hid ((newW cX.fields cY.fields seen).length <= cX.fields.length) := ⟨by have := zOE (fX := cX.fields) (fY := cY.fields) (seen := seen); omega⟩
  generalize hF : cY.fields ++ zCg cX.fields cY.fields seen = F at oy hye mc mm
  generalize hW : newW cX.fields cY.fields seen = W at hBw mm hWl
  clear hall hes oi hS hop hall' hlt hm I hF hW
  by_cases hcl : cX.isOpen = false /\ cX.fields.length < F.length
  ·have hc := Hid.mk (mc hcl)
   have hdec : decide ((Int.ofNat cX.fields.length : Int) < Int.ofNat F.length) = true := by simp [hcl.2]
   rw [hcl.1] at o4p
   clear mc mm hcl
   repeat with_reducible first | refine zAA ?_ | refine zBg ?_ | refine zBf ?_ | refine zAC ?_ | refine zAE ?_ | refine zAD ?_ | refine zCF ?_ | (apply st_q; exact q1) | (apply zBW; exact e1; exact q1) | (apply zAJ; exact e1) | (apply zAL; exact e1)
   refine zAG (by exact e1) (by exact e1) (by exact cc) rfl wI o6p (by simp) (hones.out _ _ _ _ _ h1a) ?_
   rintro v7 h7 p7 o7
   simp only [zlY, zlA, zlC, zlN, zlD, zlZ, zlE, Nat.zero_add, Nat.reduceAdd, zlX, zlK] at o7
   clear o4p o5p o6p oy os orx
   repeat' with_reducible first | refine zAA ?_ | refine zAa ?_ | refine zAC ?_ | refine zAO ?_ | (apply st_q; exact q1) | (apply zAI; exact n1; exact r1)
   exact ⟨p7.grow h0 w0 gI (by omega), hkp.out.but p7 w (.inr (.inr (by omega))), .inr ⟨hc.out, _, rfl, rfl, hones.out _ _ _ _ _ h1a⟩⟩
  ·have hM := Hid.mk (mm hcl)
   cases hoX : cX.isOpen
   ·have hdec : decide ((Int.ofNat cX.fields.length : Int) < Int.ofNat F.length) = false := by
     simp only [hoX, true_and] at hcl
     simpa using hcl
    rw [hoX] at o4p hM
    clear mc mm hcl hoX
    repeat with_reducible first | refine zAA ?_ | refine zBg ?_ | refine zBf ?_ | refine zAC ?_ | refine zAE ?_ | refine zAD ?_ | refine zAT ?_ | refine zCF ?_ | (apply st_q; exact q1) | (apply zIO; exact e1; exact e2) | (apply zBW; exact e1; exact q1) | (apply zGE; exact e1; exact g1; exact q2) | (apply zAL; exact e1)
    refine zAG (by exact e1) (by exact e1) (by exact cc) rfl wI o5p (by simp) rfl ?_
    rintro v7 h7 p7 o7
    simp only [zlT, zlY, zlA, zlC, zlN, zlD, zlZ, zlE, Nat.zero_add, Nat.reduceAdd, zlX, zlK] at o7
    have w7 := p7.wf wI
    have o6q := p7.keep b6 (by omega) _ o6p
    have oyq := p7.keep rY (by omega) _ oy
    have osq := p7.keep b (by omega) _ os
    have hBq : Hid (Built h7 h0.next 40 2 wv (W.reverse ++ ws).length (rowC (W.reverse ++ ws))) := ⟨zAS hBw.out p7 o5p (fun vs hh => by cases hh)⟩
    have hkq : Hid (Kp b rY h h7) := ⟨hkp.out.but p7 w (.inr (.inr (by omega)))⟩
    have g7 := p7.grow h0 w0 gI (by omega)
    clear o4p o5p o6p oy os orx hBw hkp
    repeat with_reducible first | refine zAA ?_ | refine zAC ?_ | refine zAE ?_ | refine zAD ?_ | (apply st_q; exact q1)
    refine zAG (by exact e1) (by exact e1) (by exact cc) rfl w7 o6q (by simp) (hones.out _ _ _ _ _ h1b) ?_
    rintro v8 h8 p8 o8
    simp only [zlY, zlA, zlC, zlN, zlD, zlZ, zlE, Nat.zero_add, Nat.reduceAdd, zlX, zlK] at o8
    have oyr := p8.keep rY (by omega) _ oyq
    have osr := p8.keep b (by omega) _ osq
    have hBr := Hid.mk (zAS hBq.out p8 o6q (fun vs hh => by cases hh))
    have hkr := Hid.mk (hkq.out.but p8 w (.inr (.inr (by omega))))
    have g8 := p8.grow h0 w0 g7 (by omega)
    clear oyq osq hBq hkq o6q o7 hones
    repeat' with_reducible first | refine zAA ?_ | refine zAC ?_ | refine zAO ?_ | (apply st_q; exact q1) | (apply zAI; exact n1; exact r1)
    exact ⟨g8, hkr.out, .inl ⟨_, W, wv, _, hM.out, hWl.out, by simp only [clzC, kY, Bool.and_true, Bool.and_false], osr, hBr.out, ⟨_, oyr⟩, rfl⟩⟩
   ·rw [hoX] at o4p hM
    clear mc mm hcl hoX
    repeat with_reducible first | refine zAA ?_ | refine zBg ?_ | refine zBf ?_ | refine zAC ?_ | refine zAE ?_ | refine zAD ?_ | refine zAT ?_ | refine zCF ?_ | (apply st_q; exact q1) | (apply zIO; exact e1; exact e2) | (apply zDV; exact e1) | (apply zGE; exact e1; exact g1; exact q2) | (apply zAL; exact e1)
    refine zAG (by exact e1) (by exact e1) (by exact cc) rfl wI o5p (by simp) rfl ?_
    rintro v7 h7 p7 o7
    simp only [zlT, zlY, zlA, zlC, zlN, zlD, zlZ, zlE, Nat.zero_add, Nat.reduceAdd, zlX, zlK] at o7
    have w7 := p7.wf wI
    have o6q := p7.keep b6 (by omega) _ o6p
    have oyq := p7.keep rY (by omega) _ oy
    have osq := p7.keep b (by omega) _ os
    have hBq : Hid (Built h7 h0.next 40 2 wv (W.reverse ++ ws).length (rowC (W.reverse ++ ws))) := ⟨zAS hBw.out p7 o5p (fun vs hh => by cases hh)⟩
    have hkq : Hid (Kp b rY h h7) := ⟨hkp.out.but p7 w (.inr (.inr (by omega)))⟩
    have g7 := p7.grow h0 w0 gI (by omega)
    clear o4p o5p o6p oy os orx hBw hkp
    repeat with_reducible first | refine zAA ?_ | refine zAC ?_ | refine zAE ?_ | refine zAD ?_ | (apply st_q; exact q1)
    refine zAG (by exact e1) (by exact e1) (by exact cc) rfl w7 o6q (by simp) (hones.out _ _ _ _ _ h1b) ?_
    rintro v8 h8 p8 o8
    simp only [zlY, zlA, zlC, zlN, zlD, zlZ, zlE, Nat.zero_add, Nat.reduceAdd, zlX, zlK] at o8
    have oyr := p8.keep rY (by omega) _ oyq
    have osr := p8.keep b (by omega) _ osq
    have hBr := Hid.mk (zAS hBq.out p8 o6q (fun vs hh => by cases hh))
    have hkr := Hid.mk (hkq.out.but p8 w (.inr (.inr (by omega))))
    have g8 := p8.grow h0 w0 g7 (by omega)
    clear oyq osq hBq hkq o6q o7 hones
    repeat' with_reducible first | refine zAA ?_ | refine zAC ?_ | refine zAO ?_ | (apply st_q; exact q1) | (apply zAI; exact n1; exact r1)
    exact ⟨g8, hkr.out, .inl ⟨_, W, wv, _, hM.out, hWl.out, by simp only [clzC, kY, Bool.and_true, Bool.and_false], osr, hBr.out, ⟨_, oyr⟩, rfl⟩⟩
 ·obtain ⟨i, hi, he'⟩ := zHg he
  rw [Nat.zero_add] at he'
  subst he'
  simp only at hns o5n
  obtain ⟨hm, hnd, hlt, hop⟩ := hS.out
  have hfind : (fEs 0 cX.fields).find? (fun e => Nat.beq e.2.2 i) = some (.str cX.fields[i].1, .int .i64 cX.fields[i].2, i) := by
   have := zNf (i := 0) hi
   rw [Nat.zero_add] at this; exact this
  have hgr := zMi (fY := cY.fields) nX hi hns
  have hS2 : seen.length < cX.fields.length /\ (seen ++ [i]).Nodup /\ (∀ j ∈ seen ++ [i], j < cX.fields.length) := by
   have h1 : (seen ++ [i]).Nodup := by
    rw [List.nodup_append]
    exact ⟨hnd, by simp, fun a ha b hb => by simp only [List.mem_singleton] at hb; subst hb; rintro rfl; exact hns ha⟩
   have h2 : ∀ j ∈ seen ++ [i], j < cX.fields.length := fun j hj => by
    rcases List.mem_append.1 hj with hj | hj
    ·exact hlt j hj
    ·rw [List.mem_singleton.1 hj]; exact hi
   have h3 := zCm (seen ++ [i]) (List.range cX.fields.length) h1 fun j hj => List.mem_range.2 (h2 j hj)
   rw [List.length_range, List.length_append, List.length_singleton] at h3
   exact ⟨by omega, h1, h2⟩
  have I5 := I.side w0 w3 p5 oi (fun _ _ _ hh => by cases hh) (by omega) hbi (by omega)
  replace hS2 := Hid.mk hS2
  replace hop := Hid.mk hop
  replace hm := Hid.mk hm
  replace hfind := Hid.mk hfind
  clear hS hnd hlt he hes oi oy os orx o4p o5p o6p hxe
  obtain ⟨vs5, os⟩ := I5.s
  obtain ⟨vy5, oy⟩ := I5.y
  have orx := I5.kp rX _ (Ne.symm hbxe) hXY hx3'.out (by intro _ _ hh; cases hh)
  have o4p := I5.kp b4 _ (by omega) (by omega) o4'.out (by intro _ _ hh; cases hh)
  have o5p := I5.kp b5 _ (by omega) (by omega) o5'.out (by intro _ _ hh; cases hh)
  have o6p := I5.kp b6 _ (by omega) (by omega) o6'.out (by intro _ _ hh; cases hh)
  have w5 := I5.grow.wf
  have n5 := I5.nx
  have hlk := fEs_look oy cX.fields[i].1
  rw [hgr] at hlk
  generalize hl : cX.fields[i].1 = l at hfind hlk
  generalize ha : cX.fields[i].2 = x at hfind
  have hia : cX.fields[i] = (l, x) := by rw [<- hl, <- ha]
  repeat with_reducible first | refine zAA ?_ | refine zAC ?_ | refine zAE ?_ | refine zAD ?_ | refine zAP ?_ | refine zAT ?_ | (apply st_q; exact q1) | (apply zAJ; exact e1)
  refine zMS (by exact e1) o5n orx hfind.out ?_
  clear orx
  cases hf : zBq cY.fields l with
  | some y =>
   rw [hf] at hlk
   simp only [Option.getD_some, Option.isSome_some] at hlk
   have hroom := roomP (k := ((newW cX.fields cY.fields seen).reverse ++ ws).length + 1) (by
    have := zOE (fX := cX.fields) (fY := cY.fields) (seen := seen)
    have e37 : (2 : Nat) ^ 37 = 137438953472 := by decide
    have := hS2.out.1
    simp only [List.length_append, List.length_reverse]; omega)
   replace hroom := Hid.mk hroom
   clear o4p o6p
   repeat with_reducible first | refine zAA ?_ | refine zAC ?_ | refine zAE ?_ | refine zAD ?_ | refine zAP ?_ | (apply zJz; exact e1; exact e1) | (apply st_q; exact q1) | (apply zAJ; exact e1)
   refine zAp (by exact e1) (cs := [.int .i64 x, .int .i64 y]) rfl rfl rfl w5 ?_
   rintro bx h12 hbx g12 ox
   refine zAy (by exact e1) (by exact e1) (I5.w.grow g12) ox rfl rfl hroom.out g12.wf (by have := I5.grow.next; have := g12.next; omega) ?_
   rintro wv' h13 B13 f13 w13 n13 gr13 kp13
   have os13 := kp13 _ _ (g12.keep _ _ os) (zAK (I5.w.grow g12) (g12.keep _ _ os) fun vs hh => by cases hh)
   have oi13 := kp13 _ _ (g12.keep _ _ o5n) (zAK (I5.w.grow g12) (g12.keep _ _ o5n) fun vs hh => by cases hh)
   clear ox os oy o5p hlk
   repeat with_reducible (apply st_q; exact q1)
   refine zAG (by exact e1) (by exact e1) (zAg B13.len) rfl w13 os13 (by simp) (by simp only [List.all_cons, List.all_nil, zAR B13.len, Bool.and_true]) ?_
   rintro v14 h14 p14 o14
   simp only [zlT, zlY, zlA, zlC, zlN, zlD, zlZ, zlE, Nat.zero_add, Nat.reduceAdd, zlX, zlK] at o14
   obtain ⟨hA, hN⟩ := adds_old (fX := cX.fields) (fY := cY.fields) (seen := seen) hi (b := y) (by rw [hia]; exact hf)
   have I14 := I5.push (seen' := seen ++ [i]) w0 w3 lb g12 (q := (x, y)) B13 gr13 n13 kp13 p14 os13 (fun vs hh => by cases hh) o14 (by rw [hN, hia]) hA
   have oi14 := p14.keep bi (by omega) _ oi13
   clear os13 oi13 o14 B13 kp13 gr13 hA hN
   repeat with_reducible first | refine zAA ?_ | refine zAQ ?_ | refine zAC ?_
   exact ⟨m - 1, by have := hm.out; have := hS2.out.1; omega, seen ++ [i], wv', ⟨by have := hm.out; have := hS2.out.1; rw [List.length_append, List.length_singleton]; omega, hS2.out.2.1, hS2.out.2.2, fun j hj hjl => by
    rcases List.mem_append.1 hj with hj | hj
    ·exact hop.out j hj hjl
    ·obtain rfl := List.mem_singleton.1 hj
     exact .inr (by rw [hia, hf]; rfl)⟩, I14, ⟨_, oi14⟩, by exact n1, by exact e1, by exact e1, by exact e1, by exact e1, by exact e1⟩
  | none =>
   rw [hf] at hlk
   simp only [Option.getD_none, Option.isSome_none] at hlk
   cases hoY : cY.isOpen with
   | false =>
    rw [hoY] at o5p
    have hcl : Hid (Clash cX cY) := ⟨by omega, by omega, .inr (.inr ⟨kX, kY, .inl ⟨hoY, l, x, by rw [<- hia]; exact List.getElem_mem hi, zCk.1 hf⟩⟩)⟩
    have hones : ([.int .i64 3, .str cY.name, ax, .map (some rX), .bool cX.isOpen] : List AVal).all one = true := by simp only [List.all_cons, h1a]; rfl
    have gI := I5.grow
    have hkp5 := Hid.mk (hkx.trans I5.kp)
    replace hones := Hid.mk hones
    clear hoY hf oy os
    repeat with_reducible first | refine zAA ?_ | refine zAC ?_ | refine zAE ?_ | refine zAD ?_ | refine zAP ?_ | (apply st_q; exact q1) | (apply zAJ; exact e1) | (apply zAL; exact e1)
    refine zAG (by exact e1) (by exact e1) (by exact cc) rfl w5 o6p (by simp) hones.out ?_
    rintro v7 h7 p7 o7
    simp only [zlY, zlA, zlC, zlN, zlD, zlZ, zlE, Nat.zero_add, Nat.reduceAdd, zlX, zlK] at o7
    clear o4p o5p o6p o5n
    repeat' with_reducible first | refine zAA ?_ | refine zAa ?_ | refine zBP ?_ | refine zAC ?_ | refine zAO ?_ | (apply st_q; exact q1) | (apply zAI; exact n1; exact r1)
    exact ⟨p7.grow h0 w0 gI (by omega), hkp5.out.but p7 w (.inr (.inr (by omega))), .inr ⟨hcl.out, _, rfl, rfl, hones.out⟩⟩
   | true =>
    rw [hoY] at o5p
    have hgn : zBq (cY.fields ++ zCg cX.fields cY.fields seen) l = none := by rw [<- hl, hgr, hl, hf]
    replace hgn := Hid.mk hgn
    clear hoY o4p o6p
    repeat with_reducible first | refine zAA ?_ | refine zAC ?_ | refine zAE ?_ | refine zAD ?_ | refine zAP ?_ | (apply st_q; exact q1) | (apply zAL; exact e1)
    refine zIP (kk := .str) (by exact e1) (by exact e1) (by exact e1) (by intro hh; cases hh) rfl w5 oy (zMB hgn.out) ?_
    rintro v14 h14 p14 o14
    have I14 := I5.label w0 w3 ly p14 hi (by rw [hia]; exact hf) (by rw [hia]; exact o14)
    have hbiY : bi ≠ rY := by omega
    have oi14 := p14.keep bi hbiY _ o5n
    clear o14 oy os o5p hlk o5n hf
    repeat with_reducible first | refine zAA ?_ | refine zAQ ?_ | refine zAC ?_
    exact ⟨m - 1, by have := hm.out; have := hS2.out.1; omega, seen ++ [i], wv, ⟨by have := hm.out; have := hS2.out.1; rw [List.length_append, List.length_singleton]; omega, hS2.out.2.1, hS2.out.2.2, fun j _ _ => .inl rfl⟩, I14, ⟨_, oi14⟩, by exact n1, by exact e1, by exact e1, by exact e1, by exact e1, by exact e1⟩
end
end Go.Ab.S
end
section
namespace Go.Ab.S
open Go Go.Ab
set_option maxHeartbeats 8000000
def ClzAt (h0 hp : AHeap) (cs : List AVal) (c : Clz) : Prop := ∃ av mv, cs = clzC c av mv /\ IntsAt h0 av c.args /\ (c.kind ≠ 3 -> mv = .map none) /\ (c.kind = 3 -> ∃ r ver, mv = .map (some r) /\ h0.next <= r /\ hp.objs.get r = some (ver, .map (fEs 0 c.fields) c.fields.length))
structure CK (A : Nat) (c : Clz) : Prop where
 kind : c.kind = 1 \/ c.kind = 2 \/ c.kind = 3
 noargs : c.kind ≠ 2 -> c.args = []
 nodup : (c.fields.map (·.1)).Nodup
 args : c.args.length <= A
 fields : c.fields.length <= A
def Kq (b : Nat) (my : AVal) (h h' : AHeap) : Prop := ∀ c p, c ≠ b -> my ≠ .map (some c) -> h.objs.get c = some p -> (∀ ro vs, p.2 ≠ .cells ro 40 vs) -> h'.objs.get c = some p
theorem Kq.trans {b : Nat} {my : AVal} {h h' h'' : AHeap} (k : Kq b my h h') (l : Kq b my h' h'') : Kq b my h h'' := fun c p h1 h2 h3 h4 => l c p h1 h2 (k c p h1 h2 h3 h4) h4
theorem Kq.grow {b : Nat} {my : AVal} {h h' : AHeap} (g : Grow h h') : Kq b my h h' := fun c p _ _ h3 _ => g.keep c p h3
theorem Kq.of {b r : Nat} {h h' : AHeap} (k : Kp b r h h') : Kq b (.map (some r)) h h' := fun c p h1 h2 h3 h4 => k c p h1 (by rintro rfl; exact h2 rfl) h3 h4
theorem Kq.but {b c : Nat} {my : AVal} {h h' h'' : AHeap} (k : Kq b my h h') (p : But c h' h'') (w : WF h) (hc : c = b \/ h.next <= c) : Kq b my h h'' := fun d q h1 h2 h3 h4 => p.keep d (by
 rintro rfl
 rcases hc with rfl | hc
 ·exact h1 rfl
 ·have := w.lt h3; omega) q (k d q h1 h2 h3 h4)
theorem zGL {h0 hp : AHeap} {cs : List AVal} {c : Clz} (k : ClzAt h0 hp cs c) : cs.all one = true /\ cs.length = 5 := by
 obtain ⟨av, mv, rfl, h1, h2, h3⟩ := k
 refine ⟨?_, rfl⟩
 have hm : one mv = true := by
  by_cases hk : c.kind = 3
  ·obtain ⟨r, _, rfl, _⟩ := h3 hk; rfl
  ·rw [h2 hk]; rfl
 simp only [clzC, List.all_cons, zAR h1.len, hm]; rfl
theorem ClzAt.keep {h0 hp hq : AHeap} {cs : List AVal} {c : Clz} (k : ClzAt h0 hp cs c) (hk : ∀ r p, cs[3]? = some (.map (some r)) -> h0.next <= r -> hp.objs.get r = some p -> (∀ ro e vs, p.2 ≠ .cells ro e vs) -> hq.objs.get r = some p) : ClzAt h0 hq cs c := by
 obtain ⟨av, mv, rfl, h1, h2, h3⟩ := k
 refine ⟨av, mv, rfl, h1, h2, fun h => ?_⟩
 obtain ⟨r, ver, rfl, q1', q2'⟩ := h3 h
 exact ⟨r, ver, rfl, q1', hk r _ rfl q1' q2' (fun _ _ _ hh => by cases hh)⟩
def zIe (a b : List Int) (i : Nat) : List Pr := (List.range i).map fun j => (a.getD j 0, b.getD j 0)
theorem zOd (a b : List Int) (i : Nat) : zIe a b (i + 1) = zIe a b i ++ [(a.getD i 0, b.getD i 0)] := by simp [zIe, List.range_succ]
structure WInv (h0 h : AHeap) (b : Nat) (ov rv hv : AVal) (ws : List Pr) (wv : AVal) (hp : AHeap) : Prop where
 grow : Grow h0 hp
 nx : h.next <= hp.next
 kq : Kq b (.map none) h hp
 s : ∃ ver, hp.objs.get b = some (ver, .cells false 56 [ov, rv, hv, wv])
 w : Built hp h0.next 40 2 wv ws.length (rowC ws)
theorem WInv.push {h0 h : AHeap} {b : Nat} {ov rv hv wv : AVal} {ws : List Pr} {hp : AHeap} {wv' : AVal} {h13 h14 : AHeap} {q : Pr} {v14 : Nat} (I : WInv h0 h b ov rv hv ws wv hp) (w0 : WF h0) (hb0 : h0.next <= b) {h12 : AHeap} (g12 : Grow hp h12) (B13 : Built h13 h0.next 40 2 wv' (ws.length + 1) (rowC ws ++ zCb q))
  (gr13 : ∀ h, WF h -> Grow h h12 -> h.next <= h0.next -> Grow h h13) (n13 : h12.next <= h13.next) (kp13 : ∀ b p, h12.objs.get b = some p -> (∀ k, wv ≠ .slice (some (b, 0)) k) -> h13.objs.get b = some p) (p14 : But b h13 h14) {pb : Nat × AObj} (hb13 : h13.objs.get b = some pb) (hpb : ∀ vs, pb.2 ≠ .cells false 40 vs) (o14 : h14.objs.get b = some (v14, .cells false 56 [ov, rv, hv, wv'])) :
  WInv h0 h b ov rv hv (q :: ws) wv' h14 := by
 have ne : ∀ {c p}, h12.objs.get c = some p -> (∀ vs, p.2 ≠ .cells false 40 vs) -> ∀ k, wv ≠ .slice (some (c, 0)) k := fun hc hp => zAK (I.w.grow g12) hc hp
 refine ⟨p14.grow h0 w0 (gr13 h0 w0 (I.grow.trans g12) (Nat.le_refl _)) hb0, by have := I.nx; have := g12.next; have := p14.next; omega, fun c p h1 h2 h3 h4 => ?_, ⟨v14, o14⟩, ?_⟩
 ·have k := g12.keep _ _ (I.kq c p h1 h2 h3 h4)
  exact p14.keep c h1 p (kp13 c p k (ne k fun vs hh => h4 _ vs hh))
 ·rw [zEQ, zlC]
  exact zAS B13 p14 hb13 hpb
section
variable {fns : FnsT} {summ : SumT}
variable (H : Has fns summ)
include H
theorem both_ok (A : Nat) (cX cY : Clz) (hX : CK A cX) (hY : CK A cY) (hlen : cX.kind = 2 -> cY.kind = 2 -> cX.name = cY.name -> cX.args.length = cY.args.length) {h0 h : AHeap} (w0 : WF h0) (G : Grow h0 h) {b ver : Nat} (lb : h0.next <= b) {ov rv hv wv : AVal} {ws : List Pr}
  (hs : h.objs.get b = some (ver, .cells false 56 [ov, rv, hv, wv])) (hB : Built h h0.next 40 2 wv ws.length (rowC ws)) {ax mx ay my : AVal} (KX : ClzAt h0 h (clzC cX ax mx) cX) (KY : ClzAt h0 h (clzC cY ay my) cY) (hne : ∀ r, mx = .map (some r) -> my ≠ .map (some r))
  (hw : ws.length + A <= 2 ^ 30) :
  Cl fns summ 79 [.ptr (some (b, 0)), .agg (clzC cX ax mx), .agg (clzC cY ay my)] h fun r h' => Grow h0 h' /\ ((∃ c new wv' ver' cs, Merge cX cY c new /\ new.length <= A /\ r = .tuple [.agg cs, .bool true] /\ ClzAt h0 h' cs c /\ (cs[3]? = some mx \/ cs[3]? = some my) /\ h'.objs.get b = some (ver', .cells false 56 [ov, rv, hv, wv']) /\ Built h' h0.next 40 2 wv' (new.reverse ++ ws).length (rowC (new.reverse ++ ws)) ∧
   Kq b my h h') \/ (Clash cX cY /\ ∃ cs, r = .tuple [.agg cs, .bool false] /\ cs.length = 5 /\ cs.all one = true /\ Kq b my h h')) := by
 have onX := (zGL KX).1
 have onY := (zGL KY).1
 obtain ⟨_, _, hq, iX, m3X, mX⟩ := KX
 simp only [clzC, List.cons.injEq, and_true, true_and] at hq
 obtain ⟨rfl, rfl⟩ := hq
 obtain ⟨_, _, hq, iY, m3Y, mY⟩ := KY
 simp only [clzC, List.cons.injEq, and_true, true_and] at hq
 obtain ⟨rfl, rfl⟩ := hq
 have lX := iX.len
 have lY := iY.len
 have KX : Hid (ClzAt h0 h (clzC cX ax mx) cX) := ⟨_, _, rfl, iX, m3X, mX⟩
 have KY : Hid (ClzAt h0 h (clzC cY ay my) cY) := ⟨_, _, rfl, iY, m3Y, mY⟩
 unfold clzC at onX onY
 unfold clzC
 have w := G.wf
 have ht5 : ∀ p q r s t : AVal, List.take 5 [p, q, r, s, t] = [p, q, r, s, t] := fun _ _ _ _ _ => rfl
 have kX := Hid.mk hX.kind
 have kY := Hid.mk hY.kind
 have n00 := G.next
 refine H.go (fn := F_sboth) rfl (by decide) rfl rfl ?_
 unfold F_sboth
 dsimp only [qQ, qE, qN, gQ, gE, vi, tm, mt, lo, fa]
 refine zAE (zAD ?_)
 refine zBL (by exact e1) (by exact cc) w ?_
 rintro b4 h1 hb4 g1' o4
 have l41 := g1'.wf.lt o4
 refine zBL (by exact e1) (by exact cc) g1'.wf ?_
 rintro b5 h2 hb5 g2' o5
 have l52 := g2'.wf.lt o5
 replace o4 := g2'.keep _ _ o4
 refine zAY g2'.wf ?_
 rintro b6 h3 hb6 g3' o6
 replace o4 := g3'.keep _ _ o4
 replace o5 := g3'.keep _ _ o5
 have g03 := (g1'.trans g2').trans g3'
 have G3 := G.trans g03
 have w3 := g3'.wf
 have n01 := g1'.next
 have n02 := g2'.next
 have l4 := w3.lt o4
 have l5 := w3.lt o5
 have l6 := w3.lt o6
 have lb3 := w.lt hs
 have hs3 := g03.keep _ _ hs
 have hB3 := Hid.mk (hB.grow g03)
 -- one of the two as it is
 have fin : ∀ {v8 : Nat} {h8 : AHeap}, But b6 h3 h8 -> Grow h0 h8 /\ (∀ c p, h.objs.get c = some p -> h8.objs.get c = some p) /\ (h8.objs.get b = some (ver, .cells false 56 [ov, rv, hv, wv]) /\ Built h8 h0.next 40 2 wv ws.length (rowC ws)) := by
  intro v8 h8 p8
  exact ⟨p8.grow h0 w0 G3 (by omega), fun c p hc => p8.keep c (by have := w.lt hc; omega) _ (g03.keep _ _ hc), p8.keep _ (by omega) _ hs3, zAS hB3.out p8 o6 (fun vs hh => by cases hh)⟩
 replace fin := Hid.mk (@fin 0)
 by_cases k1 : cX.kind = 1
 ·have z1 : (cX.kind == (1 : Int)) = true := by simp [k1]
  replace k1 := Hid.mk k1
  clear hs hB g1' g2' g3' g03
  repeat with_reducible first | refine zAA ?_ | refine zAC ?_ | refine zAE ?_ | refine zAD ?_ | refine zAP ?_ | (apply st_q; exact q1) | (apply zAJ; exact e1)
  refine zAG (by exact e1) (by exact e1) (by exact cc) rfl w3 o6 (by simp) onY ?_
  rintro v8 h8 p8 o8
  simp only [zlY, zlA, zlC, zlN, zlD, zlZ, zlE, Nat.zero_add, Nat.reduceAdd, zlX, zlK] at o8
  obtain ⟨f1, f2, f3, f4⟩ := fin.out p8
  replace f2 := Hid.mk f2
  replace f4 := Hid.mk f4
  clear fin hB3 hs3 o4 o5 o6
  repeat' with_reducible first | refine zAA ?_ | refine zAa ?_ | refine zBP ?_ | refine zAC ?_ | refine zAO ?_ | (apply st_q; exact q1) | (apply zAI; exact n1; exact r1)
  exact ⟨f1, .inl ⟨cY, [], wv, _, clzC cY ay my, .varY k1.out, Nat.zero_le _, rfl, KY.out.keep fun r p _ _ hr _ => f2.out r p hr, .inr rfl, f3, f4.out, fun c p _ _ hc _ => f2.out c p hc⟩⟩
 by_cases k2 : cY.kind = 1
 ·have z1 : (cX.kind == (1 : Int)) = false := by simp [k1]
  have z2 : (cY.kind == (1 : Int)) = true := by simp [k2]
  replace k1 := Hid.mk k1
  replace k2 := Hid.mk k2
  clear hs hB g1' g2' g3' g03
  repeat with_reducible first | refine zAA ?_ | refine zAC ?_ | refine zAE ?_ | refine zAD ?_ | refine zAP ?_ | (apply st_q; exact q1) | (apply zAJ; exact e1) | (apply zAL; exact e1)
  refine zAG (by exact e1) (by exact e1) (by exact cc) rfl w3 o6 (by simp) onX ?_
  rintro v8 h8 p8 o8
  simp only [zlY, zlA, zlC, zlN, zlD, zlZ, zlE, Nat.zero_add, Nat.reduceAdd, zlX, zlK] at o8
  obtain ⟨f1, f2, f3, f4⟩ := fin.out p8
  replace f2 := Hid.mk f2
  replace f4 := Hid.mk f4
  clear fin hB3 hs3 o4 o5 o6
  repeat' with_reducible first | refine zAA ?_ | refine zAa ?_ | refine zBP ?_ | refine zAC ?_ | refine zAO ?_ | (apply st_q; exact q1) | (apply zAI; exact n1; exact r1)
  exact ⟨f1, .inl ⟨cX, [], wv, _, clzC cX ax mx, .varX k1.out k2.out, Nat.zero_le _, rfl, KX.out.keep fun r p _ _ hr _ => f2.out r p hr, .inl rfl, f3, f4.out, fun c p _ _ hc _ => f2.out c p hc⟩⟩
 have z1 : (cX.kind == (1 : Int)) = false := by simp [k1]
 have z2 : (cY.kind == (1 : Int)) = false := by simp [k2]
 by_cases k3 : cX.kind ≠ cY.kind \/ cX.name ≠ cY.name
 ·have hcl : Hid (Clash cX cY) := ⟨k1, k2, by rcases k3 with h | h <;> simp [h]⟩
  have hcase : ((cX.kind != cY.kind) = true) \/ ((cX.kind != cY.kind) = false /\ (!eqL cX.name cY.name) = true) := by
   by_cases hk : cX.kind = cY.kind
   ·rcases k3 with h | h
    ·exact absurd hk h
    ·refine .inr ⟨by simp [hk], ?_⟩
     cases he : eqL cX.name cY.name
     ·rfl
     ·exact absurd (zBJ.1 he) h
   ·exact .inl (by simpa using hk)
  replace k1 := Hid.mk k1
  replace k2 := Hid.mk k2
  clear hs hB g1' g2' g3' g03 k3
  rcases hcase with hz | ⟨hz, hz2⟩
  all_goals
   repeat with_reducible first | refine zAA ?_ | refine zAC ?_ | refine zAE ?_ | refine zAD ?_ | refine zAP ?_ | (apply st_q; exact q1) | (apply zBW; exact e1; exact q1) | (apply zDV; exact e1) | (apply zAJ; exact e1) | (apply zAL; exact e1)
   refine zAG (by exact e1) (by exact e1) (by exact cc) rfl w3 o6 (by simp) onX ?_
   rintro v8 h8 p8 o8
   simp only [zlY, zlA, zlC, zlN, zlD, zlZ, zlE, Nat.zero_add, Nat.reduceAdd, zlX, zlK] at o8
   obtain ⟨f1, f2, _⟩ := fin.out p8
   replace f2 := Hid.mk f2
   clear fin hB3 hs3 o4 o5 o6
   repeat' with_reducible first | refine zAA ?_ | refine zAa ?_ | refine zBP ?_ | refine zAC ?_ | refine zAO ?_ | (apply st_q; exact q1) | (apply zAI; exact n1; exact r1)
   exact ⟨f1, .inr ⟨hcl.out, _, rfl, rfl, onX, fun c p _ _ h3 _ => f2.out c p h3⟩⟩
 simp only [not_or, Classical.not_not] at k3
 obtain ⟨k3, k4⟩ := k3
 have z3 : (cX.kind != cY.kind) = false := by simp [k3]
 have z4 : (!eqL cX.name cY.name) = false := by rw [zBJ.2 k4]; rfl
 by_cases k5 : cX.kind = 3
 ·have z5 : (cX.kind == (3 : Int)) = true := by simp [k5]
  obtain ⟨rX, vX, rfl, lrX, hrX⟩ := mX k5
  obtain ⟨rY, vY, rfl, lrY, hrY⟩ := mY (by omega)
  have hXf := hX.fields
  have e36 : (2 : Nat) ^ 36 = 68719476736 := by decide
  have e30 : (2 : Nat) ^ 30 = 1073741824 := by decide
  have lrY' := w.lt hrY
  have hob := zMr H cX cY k5 (by omega) k4 hX.nodup hY.nodup (hY.noargs (by omega)) w0 G3 (b := b) (rX := rX) (rY := rY) (fun e => hne rX rfl (by rw [e])) lb lrY hs3 hB3.out (g03.keep _ _ hrX) (g03.keep _ _ hrY) (by omega) ax ay (zAR lX) (zAR lY)
  unfold clzC at hob
  replace hob := Hid.mk hob
  have iY' := Hid.mk iY
  have hk0 : Hid (Kp b rY h h3) := ⟨.grow g03⟩
  have na := Hid.mk (hY.noargs (by omega))
  replace k1 := Hid.mk k1
  replace k2 := Hid.mk k2
  replace k3 := Hid.mk k3
  replace k4 := Hid.mk k4
  replace k5 := Hid.mk k5
  clear hs hB g1' g2' g3' g03 fin KX KY hB3 hrX hrY mX mY iX iY m3X m3Y onX onY hne
  repeat with_reducible first | refine zAA ?_ | refine zAC ?_ | refine zAE ?_ | refine zAD ?_ | refine zAP ?_ | (apply st_q; exact q1) | (apply zBW; exact e1; exact q1) | (apply zAJ; exact e1) | (apply zAL; exact e1)
  refine zAb (by exact s1) (hob.out.mono ?_)
  rintro _ h7 ⟨G7, kp7, ⟨c, new, wv', ver', hm, hnl, rfl, hs7, hB7, ⟨vy', hy7⟩, kc⟩ | ⟨hcl, cs, rfl, hcs, hco⟩⟩
  ·have o6' := kp7 b6 _ (by omega) (by omega) o6 (by intro _ _ hh; cases hh)
   have hones : (clzC c ay (.map (some rY))).all one = true := by simp only [clzC, List.all_cons, zAR lY]; rfl
   have hac : c.args = [] := by
    cases hm with
    | varY k => exact absurd k k1.out
    | varX _ k => exact absurd k k2.out
    | con k => have := k5.out; omega
    | obj _ _ _ _ _ k => exact k
   unfold clzC at hones
   replace hm := Hid.mk hm
   replace hac := Hid.mk hac
   replace kc := Hid.mk kc
   replace kp7 := Hid.mk kp7
   replace hB7 := Hid.mk hB7
   clear o4 o5 o6 hs3 hob
   repeat with_reducible (apply st_q; exact q1)
   refine zAG (by exact e1) (by exact e1) (by exact cc) rfl G7.wf o6' (by simp) hones ?_
   rintro v8 h8 p8 o8
   simp only [zlY, zlA, zlC, zlN, zlD, zlZ, zlE, Nat.zero_add, Nat.reduceAdd, zlX, zlK] at o8
   have hs8 := p8.keep b (by omega) _ hs7
   have hy8 := p8.keep rY (by rintro rfl; rw [hy7] at o6'; cases o6') _ hy7
   have hB8 := Hid.mk (zAS hB7.out p8 o6' (fun vs hh => by cases hh))
   have hk8 := Hid.mk ((Kq.of (hk0.out.trans kp7.out)).but p8 w (.inr (by omega)))
   have G8 := p8.grow h0 w0 G7 (by omega)
   clear o6' hs7 hy7 hB7
   repeat' with_reducible first | refine zAA ?_ | refine zAa ?_ | refine zBP ?_ | refine zAC ?_ | refine zAO ?_ | (apply st_q; exact q1) | (apply zAI; exact n1; exact r1)
   exact ⟨G8, .inl ⟨c, new, wv', ver', clzC c ay (.map (some rY)), hm.out, by omega, rfl, ⟨ay, _, rfl, by rw [hac.out, <- na.out]; exact iY'.out, fun h => absurd kc.out h, fun _ => ⟨rY, _, rfl, lrY, hy8⟩⟩, .inr rfl, hs8, hB8.out, hk8.out⟩⟩
  ·have o6' := kp7 b6 _ (by omega) (by omega) o6 (by intro _ _ hh; cases hh)
   replace hcl := Hid.mk hcl
   replace kp7 := Hid.mk kp7
   clear o4 o5 o6 hs3 hob
   repeat with_reducible (apply st_q; exact q1)
   refine zAG (by exact e1) (by exact e1) (by exact cc) hcs G7.wf o6' (by simp [hcs]) hco ?_
   rintro v8 h8 p8 o8
   rw [hcs] at o8
   simp only [zlY, zlA, zlC, zlN, zlD, zlZ, zlE, Nat.zero_add, Nat.reduceAdd, zlX, zlK] at o8
   have G8 := p8.grow h0 w0 G7 (by omega)
   have hk8 := Hid.mk ((Kq.of (hk0.out.trans kp7.out)).but p8 w (.inr (by omega)))
   have hres : zBC (some 5) cs 0 = some (.agg cs) := by rw [zBC, if_pos (by omega), zlZ, List.take_of_length_le (by omega)]
   clear o6'
   repeat' with_reducible first | refine zAA ?_ | refine zAa ?_ | refine zBP ?_ | refine zAC ?_ | refine zAO ?_ | (apply st_q; exact q1) | (apply zAI; exact n1; exact r1)
   exact ⟨G8, .inr ⟨hcl.out, cs, by rw [List.take_of_length_le (by omega)], hcs, hco, hk8.out⟩⟩
 ·have z5 : (cX.kind == (3 : Int)) = false := by simp [k5]
  have kX2 : cX.kind = 2 := by have := kX.out; omega
  have kY2 : cY.kind = 2 := by omega
  have hl := hlen kX2 kY2 k4
  obtain rfl := m3X k5
  have hXa := hX.args
  have hcon : Hid (Merge cX cY cX ((List.range cX.args.length).map fun i => (cX.args.getD i 0, cY.args.getD i 0))) := ⟨.con kX2 kY2 k4⟩
  have I0 : WInv h0 h3 b ov rv hv ((zIe cX.args cY.args 0).reverse ++ ws) wv h3 := ⟨G3, Nat.le_refl _, fun c p _ _ k _ => k, ⟨ver, hs3⟩, hB3.out⟩
  have hk0 : Hid (Kq b my h h3) := ⟨.grow g03⟩
  have g0 := G.trans g03
  replace k1 := Hid.mk k1
  replace k2 := Hid.mk k2
  replace k3 := Hid.mk k3
  replace k4 := Hid.mk k4
  replace k5 := Hid.mk k5
  replace kX2 := Hid.mk kX2
  replace kY2 := Hid.mk kY2
  have e30 : (2 : Nat) ^ 30 = 1073741824 := by decide
  have e31 : (2 : Nat) ^ 31 = 2147483648 := by decide
  have o4' := Hid.mk o4
  have o5' := Hid.mk o5
  have o6' := Hid.mk o6
  clear hs hB g1' g2' g3' g03 fin KY hB3 hs3 mX mY m3X m3Y onY hne
  repeat with_reducible first | refine zAA ?_ | refine zAQ ?_ | refine zAC ?_ | refine zAE ?_ | refine zAD ?_ | refine zAP ?_ | refine zAT ?_ | (apply st_q; exact q1) | (apply zBW; exact e1; exact q1) | (apply zAL; exact e1)
  clear o4 o5 o6
  refine zAz (N := cX.args.length) (by omega) (fun j a hp => (∃ wv, WInv h0 h3 b ov rv hv ((zIe cX.args cY.args j).reverse ++ ws) wv hp) /\ a.defers = [] /\ ev a (.tmp 0) = some (.ptr (some (b, 0))) /\ ev a (.tmp 4) = some (.ptr (some (b4, 0))) /\ ev a (.tmp 5) = some (.ptr (some (b5, 0))) /\ ev a (.tmp 6) = some (.ptr (some (b6, 0))))
   (by rintro j a hp t w (rfl | rfl | rfl) ⟨m1, m2, m3, m4, m5, m6⟩ <;> exact ⟨m1, by rw [zAc]; exact m2, by exact e1, by exact e1, by exact e1, by exact e1⟩) (by decide) ?_ ?_ ⟨⟨wv, I0⟩, by exact n1, by exact e1, by exact e1, by exact e1, by exact e1⟩ (by exact e1) (by exact e1)
  ·clear I0
   rintro j a hp hj ⟨⟨wv, I⟩, hd, t0', t4', t5', t6'⟩ hi hn
   obtain ⟨vs, os⟩ := I.s
   have o4p := I.kq b4 _ (by omega) (by intro hh; cases hh) o4'.out (by intro _ _ hh; cases hh)
   have o5p := I.kq b5 _ (by omega) (by intro hh; cases hh) o5'.out (by intro _ _ hh; cases hh)
   obtain ⟨bb, ob, verb, rb, eb, vsb, hix, hget', hvo⟩ := iX.at (List.getElem?_eq_getElem hj)
   have hj' : j < cY.args.length := by omega
   obtain ⟨bb', ob', verb', rb', eb', vsb', hix', hget'', hvo'⟩ := iY.at (List.getElem?_eq_getElem hj')
   have hget := I.grow.keep _ _ hget'
   have hgetb := I.grow.keep _ _ hget''
   have hzl : (zIe cX.args cY.args j).length = j := by simp [zIe]
   have hroom := Hid.mk (roomP (k := ((zIe cX.args cY.args j).reverse ++ ws).length + 1) (by
    have e37 : (2 : Nat) ^ 37 = 137438953472 := by decide
    simp only [List.length_append, List.length_reverse, hzl]; omega))
   have hput : Hid ((zIe cX.args cY.args (j + 1)).reverse ++ ws = (cX.args[j], cY.args[j]) :: ((zIe cX.args cY.args j).reverse ++ ws)) := ⟨by
    rw [zOd, List.reverse_append, List.reverse_singleton, List.singleton_append, zlK, List.getD, List.getD, List.getElem?_eq_getElem hj, List.getElem?_eq_getElem hj']; rfl⟩
   replace hget' := Hid.mk hget'
   replace hget'' := Hid.mk hget''
   clear hzl
   repeat with_reducible first | refine zAA ?_ | refine zAC ?_ | refine zAE ?_ | refine zAD ?_ | refine zAP ?_ | refine zBQ ?_ | (apply zNV; exact e1; exact e1) | (apply dr_q; exact q1) | (apply zCs; exact q1; exact og1) | (apply st_q; exact q1)
   refine zBD (zAp (by exact e1) (cs := [.int .i64 cX.args[j], .int .i64 cY.args[j]]) rfl rfl rfl I.grow.wf ?_)
   rintro bx h12 hbx g12 ox
   have k4 := g12.keep _ _ o4p
   have k5 := g12.keep _ _ o5p
   have k6 := g12.keep _ _ os
   have k7 := g12.keep _ _ hget
   have k8 := g12.keep _ _ hgetb
   refine zAC ⟨by simp [zAf, Nat.testBit, k4, k5, k6, k7, k8], ?_⟩
   refine zBD (zAy (by exact e1) (by exact e1) (I.w.grow g12) ox rfl rfl hroom.out g12.wf (by have := I.grow.next; have := g12.next; omega) ?_)
   rintro wv' h13 B13 f13 w13 n13 gr13 kp13
   have os13 := kp13 _ _ k6 (zAK (I.w.grow g12) k6 fun vs hh => by cases hh)
   have k4' := kp13 _ _ k4 (zAK (I.w.grow g12) k4 fun vs hh => by cases hh)
   have k5' := kp13 _ _ k5 (zAK (I.w.grow g12) k5 fun vs hh => by cases hh)
   have k7' := (gr13 h0 w0 (I.grow.trans g12) (Nat.le_refl _)).keep _ _ hget'.out
   have k8' := (gr13 h0 w0 (I.grow.trans g12) (Nat.le_refl _)).keep _ _ hget''.out
   refine zAC ⟨by simp [zAf, Nat.testBit, os13, k4', k5', k7', k8'], ?_⟩
   clear os o4p o5p hget hgetb k4 k5 k6 k7 k8 k4' k5' k7' k8' ox hix hix' hvo hvo'
   repeat with_reducible (apply dr_q; exact q1)
   refine zBD (zAG (by exact e1) (by exact e1) (zAg B13.len) rfl w13 os13 (by simp) (by simp only [List.all_cons, List.all_nil, zAR B13.len, Bool.and_true]) ?_)
   rintro v14 h14 p14 o14
   simp only [zlT, zlY, zlA, zlC, zlN, zlD, zlZ, zlE, Nat.zero_add, Nat.reduceAdd, zlX, zlK] at o14
   refine zAC ⟨by simp [zAf, Nat.testBit], ?_⟩
   have I14 := I.push w0 lb g12 (q := (cX.args[j], cY.args[j])) B13 gr13 n13 kp13 p14 os13 (fun vs hh => by cases hh) o14
   rw [<- hput.out] at I14
   clear os13 o14 B13 kp13 gr13 I
   repeat with_reducible first | refine zAA ?_ | refine zAQ ?_ | refine zBz ?_
   exact ⟨⟨⟨_, I14⟩, by exact n1, by exact e1, by exact e1, by exact e1, by exact e1⟩, by exact e1, by exact e1⟩
  ·clear I0
   rintro a hp ⟨⟨wv, I⟩, hd, t0', t4', t5', t6'⟩
   obtain ⟨vs, os⟩ := I.s
   have o4p := I.kq b4 _ (by omega) (by intro hh; cases hh) o4'.out (by intro _ _ hh; cases hh)
   have o6p := I.kq b6 _ (by omega) (by intro hh; cases hh) o6'.out (by intro _ _ hh; cases hh)
   have w9 := I.grow.wf
   have hB := Hid.mk I.w
   repeat with_reducible first | refine zAA ?_ | refine zAE ?_ | refine zAD ?_ | (apply st_q; exact q1)
   refine zAG (by exact e1) (by exact e1) (by exact cc) rfl w9 o6p (by simp) onX ?_
   rintro v8 h8 p8 o8
   simp only [zlY, zlA, zlC, zlN, zlD, zlZ, zlE, Nat.zero_add, Nat.reduceAdd, zlX, zlK] at o8
   have os8 := p8.keep b (by omega) _ os
   have hB8 := Hid.mk (zAS hB.out p8 o6p (fun vs hh => by cases hh))
   have kq8 : Hid (Kq b my h h8) := ⟨(hk0.out.trans fun c p h1 _ h3 h4 => I.kq c p h1 (by intro hh; cases hh) h3 h4).but p8 w (.inr (by omega))⟩
   have G8 := p8.grow h0 w0 I.grow (by omega)
   clear o4p o6p I hB os
   repeat' with_reducible first | refine zAA ?_ | refine zAC ?_ | refine zAO ?_ | (apply st_q; exact q1) | (apply zAI; exact n1; exact r1)
   exact ⟨G8, .inl ⟨cX, _, wv, _, clzC cX ax (.map none), hcon.out, by rw [List.length_map, List.length_range]; exact hXa, rfl, ⟨ax, _, rfl, iX, fun _ => rfl, fun h => absurd h k5.out⟩, .inl rfl, os8, hB8.out, kq8.out⟩⟩
end
end Go.Ab.S
end
