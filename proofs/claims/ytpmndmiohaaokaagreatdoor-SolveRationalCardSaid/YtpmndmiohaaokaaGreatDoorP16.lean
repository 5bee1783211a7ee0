import Derived.Test.YtpmndmiohaaokaaGreatDoorP14
import Derived.Test.YtpmndmiohaaokaaGreatDoorP15
/-
  Part 16 of the proof.
-/
set_option linter.all false
section
namespace Go.Ab.S
open Go Go.Ab
set_option maxHeartbeats 8000000
def ErrAt (h : AHeap) (r : AVal) : Prop := ∃ bj vj be ve vs b1 b2, r = .iface 201 (.ptr (some (bj, 0))) /\ h.objs.get bj = some (vj, .cells false 203 [.slice (some (be, 0)) 2]) /\ h.objs.get be = some (ve, .cells false 60 vs) /\ vs.take 2 = [.iface 204 (.ptr (some (b1, 0))), .iface 57 (.ptr (some (b2, 0)))]
section
variable {fns : FnsT} {summ : SumT} {ro : Option Nat}
theorem zLc {d : Option Tmp} {e : TypeId} {bytes n : Nat} {z : AVal} {y : AOpd} {l : List Step} {a : AAct} {h : AHeap} {K : AAct -> AHeap -> Prop} (hy : ev a y = some (.int .i64 (n : Nat))) (hn : n <= 2 ^ 30) (hr : zCv bytes n = true) (w : WF h)
  (k : ∀ b h', h.next <= b -> Grow h h' -> h'.objs.get b = some (b, .cells false e (List.replicate n z)) -> St fns summ ro l (putA a d (.slice (some (b, 0)) 0)) h' K) : St fns summ ro (⟨d, none, .e (.mkslice e 1 bytes [z] (.val (.int .i64 0)) y)⟩ :: l) a h K := by
 refine st_t (by intro _ _ hh; cases hh) (by intro _ _ hh; cases hh) (v := .slice (some (h.next, 0)) 0) (h' := newA h (.cells false e (List.replicate n z))) ?_ (k _ _ (Nat.le_refl _) ((Grow.refl w).new _) (zAV _ _))
 have h1 : zCU (.int .i64 (n : Nat)) = some n := by simp [zCU]
 have h2 : zCU (.int .i64 0) = some 0 := by simp [zCU]
 have h30 : (2 : Nat) ^ 30 <= 2 ^ 40 := by decide
 have hc : 0 <= n /\ n <= 2 ^ 40 /\ zCv bytes n = true := ⟨Nat.zero_le _, Nat.le_trans hn h30, hr⟩
 simp only [zBU, hy, zBV, h1, h2, if_pos hc, zLU]
variable (H : Has fns summ)
include H
theorem zNe (s : List Nat) (h : AHeap) (hw : WF h) : Cl fns summ 81 [.str s] h fun r h' => ∃ b, r = .iface 204 (.ptr (some (b, 0))) /\ Grow h h' := by
 refine H.go (fn := F_errNew) rfl (by decide) rfl rfl ?_
 unfold F_errNew
 dsimp only [qQ, qE, qN, gQ, gE, vi, tm, mt, lo, fa]
 repeat with_reducible first | refine zAA ?_ | refine zAC ?_ | refine zAE ?_ | refine zAD ?_ | (apply st_q; exact q1)
 refine zBL (by exact e1) (by exact cc) hw ?_
 rintro b h1 hb g1' o1
 clear o1
 repeat' with_reducible first | refine zAA ?_ | refine zAC ?_ | refine zAO ?_ | (apply st_q; exact q1) | (apply zAI; exact n1; exact r1)
 exact ⟨b, rfl, g1'⟩
theorem zMg (x y : AVal) (hx : ∃ t v, x = .iface t v) (hy : ∃ t v, y = .iface t v) (ba ver : Nat) (rb : Bool) (eb : TypeId) (h : AHeap) (hw : WF h) (ha : h.objs.get ba = some (ver, .cells rb eb [x, y])) :
  Cl fns summ 80 [.slice (some (ba, 0)) 2] h fun r h' => Grow h h' /\ ∃ bj vj be ve vs, r = .iface 201 (.ptr (some (bj, 0))) /\ h'.objs.get bj = some (vj, .cells false 203 [.slice (some (be, 0)) 2]) /\ h'.objs.get be = some (ve, .cells false 60 vs) /\ vs.take 2 = [x, y] := by
 have hat : ∀ j : Nat, j < 2 -> ∃ t v, ([x, y] : List AVal)[j]? = some (.iface t v) /\ ([x, y] : List AVal).take (j + 1) = ([x, y] : List AVal).take j ++ [.iface t v] := by
  obtain ⟨t, v, rfl⟩ := hx
  obtain ⟨t', v', rfl⟩ := hy
  intro j hj
  match j, hj with
  | 0, _ => exact ⟨t, v, rfl, rfl⟩
  | 1, _ => exact ⟨t', v', rfl, rfl⟩
 replace hat := Hid.mk hat
 have hix : ∀ j : Nat, j < 2 -> slA (.slice (some (ba, 0)) 2) 1 j = some (ba, j) := fun j hj => by simp [slA, hj]
 replace hix := Hid.mk hix
 generalize hvs : ([x, y] : List AVal) = l at ha hat
 have hln : lenO (.slice (some (ba, 0)) 2) = some 2 := rfl
 have hxo : (true ^^ false) = true := rfl
 refine H.go (fn := F_errJoin) rfl (by decide) rfl rfl ?_
 unfold F_errJoin
 dsimp only [qQ, qE, qN, gQ, gE, vi, tm, mt, lo, fa]
 repeat with_reducible first | refine zAA ?_ | refine zAC ?_ | refine zAE ?_ | refine zAD ?_ | (apply st_q; exact q1)
 refine zAz (N := 2) (by decide) (fun j a hp => hp = h /\ a.defers = [] /\ ev a (.tmp 0) = some (.slice (some (ba, 0)) 2) /\ ev a (.tmp 9) = some (.slice (some (ba, 0)) 2) /\ ev a (.tmp 3) = some (.int .i64 (j : Nat)))
  (by rintro j a hp t w (rfl | rfl | rfl) ⟨m1, m2, m3, m4, m5⟩ <;> exact ⟨m1, by rw [zAc]; exact m2, by exact e1, by exact e1, by exact e1⟩) (by decide) ?_ ?_ ⟨rfl, by exact n1, by exact e1, by exact e1, by exact e1⟩ (by exact e1) (by exact e1)
 ·rintro j a hp hj ⟨rfl, hd, t0', t9', t3'⟩ hi hn
  obtain ⟨t, v, hlj, _⟩ := hat.out j hj
  have hixj := hix.out j hj
  have hw1 : IntKind.i64.wrap (((j : Nat) : Int) + 1) = ((j + 1 : Nat) : Int) := by
   rw [zAq (by omega) (by omega)]; simp
  repeat with_reducible first | refine zAA ?_ | refine zAQ ?_ | refine zAC ?_ | refine zAE ?_ | refine zAD ?_ | refine zAP ?_ | (apply st_q; exact q1) | (apply zAJ; exact e1)
  exact ⟨⟨rfl, by exact n1, by exact e1, by exact e1, by exact e1⟩, by exact e1, by exact e1⟩
 ·rintro a hp ⟨rfl, hd, t0', t9', t3'⟩
  clear t9'
  have z0 : ((((2 : Nat) : Int)) == (0 : Int)) = false := by decide
  have hroom := zDU H (b := 16) (k := 2) (by decide) (by decide)
  repeat with_reducible first | refine zAA ?_ | refine zAC ?_ | refine zAE ?_ | refine zAD ?_ | refine zAT ?_ | (apply st_q; exact q1) | (apply zAL; exact e1)
  refine zLc (by exact e1) (by decide) hroom hw ?_
  rintro be h1 hbe g1' o1
  skip
  refine st_q (v := .agg [.slice (some (be, 0)) 0]) (b := none) (by rw [zBh]; simp only [zCw, zBE, zBS, zBV, if_true, if_false, Nat.reduceEqDiff, zAi]; rfl) ?_
  refine zBL (by exact e1) (by exact cc) g1'.wf ?_
  rintro bj h2 hbj g2' o2
  have g02 := g1'.trans g2'
  have B0 : Built h2 hp.next 60 1 (.slice (some (be, 0)) 0) 0 (l.take 0) := .inr (.inr ⟨be, _, _, hbe, rfl, g2'.keep _ _ o1, by simp, by simp⟩)
  have ha2 := g02.keep _ _ ha
  have lbe := g1'.wf.lt o1
  have lbj := g2'.wf.lt o2
  have n01 := g1'.next
  clear o1 g1' g2'
  repeat with_reducible first | refine zAA ?_ | refine zAC ?_ | refine zAE ?_ | refine zAD ?_ | (apply st_q; exact q1)
  refine zAz (N := 2) (by decide) (fun j a hq => Grow hp hq /\ (∃ ver ev', hq.objs.get bj = some (ver, .cells false 203 [ev']) /\ Built hq hp.next 60 1 ev' j (l.take j)) /\ a.defers = [] /\ ev a (.tmp 26) = some (.slice (some (ba, 0)) 2) /\ ev a (.tmp 6) = some (.ptr (some (bj, 0))))
   (by rintro j a hp t w (rfl | rfl | rfl) ⟨m1, m2, m3, m4, m5⟩ <;> exact ⟨m1, m2, by rw [zAc]; exact m3, by exact e1, by exact e1⟩) (by decide) ?_ ?_ ⟨g02, ⟨_, _, o2, B0⟩, by exact n1, by exact e1, by exact e1⟩ (by exact e1) (by exact e1)
  ·clear g02 B0 ha2 o2 hd t0' t3' z0 hroom
   rintro j a hq hj ⟨gq, ⟨ver, ev', oj, B⟩, hd, t26', t6'⟩ hi hn
   obtain ⟨t, v, hlj, htk⟩ := hat.out j hj
   have hixj := hix.out j hj
   have haq := gq.keep _ _ ha
   have e31 : (2 : Nat) ^ 31 = 2147483648 := by decide
   have hroom := zDU H (b := 16) (k := j + 1) (by decide) (by omega)
   repeat with_reducible first | refine zAA ?_ | refine zAC ?_ | refine zAE ?_ | refine zAD ?_ | refine zAP ?_ | (apply st_q; exact q1) | (apply zAJ; exact e1)
   refine zAp (by exact e1) (cs := [.iface t v]) rfl rfl rfl gq.wf ?_
   rintro bx h12 hbx g12 ox
   refine zAy (by exact e1) (by exact e1) (B.grow g12) ox rfl rfl hroom g12.wf (by have := gq.next; have := g12.next; omega) ?_
   rintro ew h13 B13 f13 w13 n13 gr13 kp13
   have oj13 := kp13 _ _ (g12.keep _ _ oj) (zAK (B.grow g12) (g12.keep _ _ oj) fun vs hh => by cases hh)
   clear ox oj haq
   repeat with_reducible (apply st_q; exact q1)
   refine zAG (by exact e1) (by exact e1) (zAg B13.len) rfl w13 oj13 (by simp) (by simp only [List.all_cons, List.all_nil, zAR B13.len, Bool.and_true]) ?_
   rintro v14 h14 p14 o14
   simp only [zlT, zlY, zlA, zlC, zlN, zlD, zlZ, zlE, Nat.zero_add, Nat.reduceAdd, zlX, zlK] at o14
   have G14 : Grow hp h14 := p14.grow hp hw (gr13 hp hw (gq.trans g12) (Nat.le_refl _)) (by omega)
   have B14 : Built h14 hp.next 60 1 ew (j + 1) (l.take (j + 1)) := by
    rw [htk]; exact zAS B13 p14 oj13 fun vs hh => by cases hh
   clear oj13 kp13 gr13 B13 B
   repeat with_reducible first | refine zAA ?_ | refine zAQ ?_ | refine zAC ?_
   exact ⟨⟨G14, ⟨_, _, o14, B14⟩, by exact n1, by exact e1, by exact e1⟩, by exact e1, by exact e1⟩
  ·clear g02 B0 ha2 o2 hd t0' t3' z0 hroom
   rintro a hq ⟨gq, ⟨ver, ev', oj, B⟩, hd, t26', t6'⟩
   have hres : ∃ be ve vs, ev' = .slice (some (be, 0)) 2 /\ hq.objs.get be = some (ve, .cells false 60 vs) /\ vs.take 2 = l := by
    rcases B with ⟨_, h0, _⟩ | ⟨_, h0, _⟩ | ⟨b, vs, ver, _, h1, h2, h3, h4⟩
    ·cases h0
    ·cases h0
    ·refine ⟨b, ver, vs, h1, h2, ?_⟩
     rw [Nat.mul_one] at h4
     rw [h4, <- hvs]; rfl
   replace hres := Hid.mk hres
   clear B
   repeat' with_reducible first | refine zAA ?_ | refine zAC ?_ | refine zAE ?_ | refine zAD ?_ | refine zAO ?_ | (apply st_q; exact q1) | (apply zAI; exact n1; exact r1)
   obtain ⟨be, ve, vs, rfl, k1, k2⟩ := hres.out
   exact ⟨gq, bj, _, be, ve, vs, rfl, oj, k1, by rw [k2]⟩
end
end Go.Ab.S
end
section
namespace Go.Ab.S
open Go Go.Ab
set_option maxHeartbeats 8000000
theorem zMO {vs cs : List AVal} {o : Nat} (h : o + cs.length <= vs.length) (i : Nat) : (vs.take o ++ cs ++ vs.drop (o + cs.length))[i]? = if o <= i /\ i < o + cs.length then cs[i - o]? else vs[i]? := by
 have ho : (vs.take o).length = o := by rw [List.length_take]; omega
 rcases Nat.lt_or_ge i o with h1 | h1
 ·rw [if_neg (by omega), List.append_assoc, List.getElem?_append_left (by omega), List.getElem?_take, if_pos h1]
 ·rcases Nat.lt_or_ge i (o + cs.length) with h2 | h2
  ·rw [if_pos ⟨h1, h2⟩, List.append_assoc, List.getElem?_append_right (by omega), ho, List.getElem?_append_left (by omega)]
  ·rw [if_neg (by omega), List.getElem?_append_right (by rw [List.length_append]; omega), List.length_append, ho, List.getElem?_drop]
   congr 1; omega
theorem put_len' {vs cs : List AVal} {o : Nat} (h : o + cs.length <= vs.length) : (vs.take o ++ cs ++ vs.drop (o + cs.length)).length = vs.length := by
 simp only [List.length_append, List.length_take, List.length_drop]; omega
def RowK (h : AHeap) (b N : Nat) (hc : List (List AVal)) : Prop := hc.length = N /\ ∃ ver vs, h.objs.get b = some (ver, .cells false 68 vs) /\ N * 5 <= vs.length /\ ∀ i c, hc[i]? = some c -> c.length = 5 /\ ∀ k, k < 5 -> vs[i * 5 + k]? = c[k]?
theorem zJt {vs : List AVal} {c : List AVal} {o : Nat} (hc : c.length = 5) (hk : ∀ k, k < 5 -> vs[o + k]? = c[k]?) : (vs.drop o).take 5 = c := by
 apply List.ext_getElem?
 intro k
 rw [List.getElem?_take]
 split
 ·rename_i h; rw [List.getElem?_drop]; exact hk k h
 ·rename_i h; rw [List.getElem?_eq_none (by omega)]
theorem rowK_set {vs : List AVal} {hc : List (List AVal)} {N : Nat} {c' : List AVal} {x : Nat} (hx : x < N) (hN : hc.length = N) (hl : N * 5 <= vs.length) (h : ∀ i c, hc[i]? = some c -> c.length = 5 /\ ∀ k, k < 5 -> vs[i * 5 + k]? = c[k]?) (hc' : c'.length = 5) :
  N * 5 <= (vs.take (x * 5) ++ c' ++ vs.drop (x * 5 + c'.length)).length /\ ∀ i c, (hc.set x c')[i]? = some c -> c.length = 5 /\ ∀ k, k < 5 -> (vs.take (x * 5) ++ c' ++ vs.drop (x * 5 + c'.length))[i * 5 + k]? = c[k]? := by
 have hle : x * 5 + c'.length <= vs.length := by omega
 refine ⟨by rw [put_len' hle]; exact hl, fun i c hi => ?_⟩
 rw [List.getElem?_set] at hi
 by_cases hxi : x = i
 ·subst hxi
  rw [if_pos rfl, if_pos (by omega), oI] at hi
  subst hi
  refine ⟨hc', fun k hk => ?_⟩
  rw [zMO hle, if_pos ⟨by omega, by omega⟩]
  congr 1; omega
 ·rw [if_neg hxi] at hi
  obtain ⟨h1, h2⟩ := h i c hi
  refine ⟨h1, fun k hk => ?_⟩
  rw [zMO hle, if_neg (by omega)]
  exact h2 k hk
structure SX (E : Nat -> Prop) (h0 : AHeap) (b N : Nat) (on rk : List Int) (rt : Int -> Int) (has : Int -> Clz) (ws : List Pr) (bo br bh : Nat) (wv : AVal) (hc : List (List AVal)) (hp : AHeap) : Prop where
 grow : Grow h0 hp
 low : h0.next <= b /\ h0.next <= bo /\ h0.next <= br /\ h0.next <= bh
 ne : bo ≠ br
 s : ∃ ver, hp.objs.get b = some (ver, .cells false 56 [.slice (some (bo, 0)) N, .slice (some (br, 0)) N, .slice (some (bh, 0)) N, wv])
 on : RowI hp bo N on
 rk : RowI hp br N rk
 hs : RowK hp bh N hc
 w : Built hp h0.next 40 2 wv ws.length (rowC ws)
 cls : ∀ i : Nat, i < N -> rt (i : Int) = (i : Int) -> ¬ E i -> ∃ c, hc[i]? = some c /\ ClzAt h0 hp c (has (i : Int))
 ap : ∀ i j : Nat, i < N -> j < N -> i ≠ j -> rt (i : Int) = (i : Int) -> rt (j : Int) = (j : Int) -> ∀ c d r, hc[i]? = some c -> hc[j]? = some d -> c[3]? = some (.map (some r)) -> d[3]? ≠ some (.map (some r))
section
variable {E : Nat -> Prop} {h0 : AHeap} {b N : Nat} {on rk : List Int} {rt : Int -> Int} {has : Int -> Clz} {ws : List Pr} {bo br bh : Nat} {wv : AVal} {hc : List (List AVal)} {hp hq : AHeap}
theorem SX.bne (S : SX E h0 b N on rk rt has ws bo br bh wv hc hp) : b ≠ bo /\ b ≠ br /\ b ≠ bh /\ bo ≠ bh /\ br ≠ bh := by
 obtain ⟨v, s⟩ := S.s
 obtain ⟨v1, vs1, o1, _⟩ := S.on
 obtain ⟨v2, vs2, o2, _⟩ := S.rk
 obtain ⟨_, v3, vs3, o3, _⟩ := S.hs
 refine ⟨?_, ?_, ?_, ?_, ?_⟩ <;> rintro rfl
 ·rw [s] at o1; cases o1
 ·rw [s] at o2; cases o2
 ·rw [s] at o3; cases o3
 ·rw [o1] at o3; cases o3
 ·rw [o2] at o3; cases o3
theorem SX.lt (S : SX E h0 b N on rk rt has ws bo br bh wv hc hp) : b < hp.next /\ bo < hp.next /\ br < hp.next /\ bh < hp.next := by
 obtain ⟨v, s⟩ := S.s
 obtain ⟨v1, vs1, o1, _⟩ := S.on
 obtain ⟨v2, vs2, o2, _⟩ := S.rk
 obtain ⟨_, v3, vs3, o3, _⟩ := S.hs
 exact ⟨S.grow.wf.lt s, S.grow.wf.lt o1, S.grow.wf.lt o2, S.grow.wf.lt o3⟩
theorem SX.stay (S : SX E h0 b N on rk rt has ws bo br bh wv hc hp) (G : Grow h0 hq) (k : ∀ c p, h0.next <= c -> hp.objs.get c = some p -> (c = b \/ c = bo \/ c = br \/ c = bh \/ ∀ ro e vs, p.2 = .cells ro e vs -> e = 40) -> hq.objs.get c = some p) : SX E h0 b N on rk rt has ws bo br bh wv hc hq := by
 obtain ⟨l1, l2, l3, l4⟩ := S.low
 obtain ⟨v, s⟩ := S.s
 obtain ⟨v1, vs1, o1, q1'⟩ := S.on
 obtain ⟨v2, vs2, o2, q2'⟩ := S.rk
 obtain ⟨kl, v3, vs3, o3, q3'⟩ := S.hs
 refine ⟨G, S.low, S.ne, ⟨v, k _ _ l1 s (.inl rfl)⟩, ⟨v1, vs1, k _ _ l2 o1 (.inr (.inl rfl)), q1'⟩, ⟨v2, vs2, k _ _ l3 o2 (.inr (.inr (.inl rfl))), q2'⟩, ⟨kl, v3, vs3, k _ _ l4 o3 (.inr (.inr (.inr (.inl rfl)))), q3'⟩, zAX S.w fun c p hb hc ⟨vs, hp⟩ => k c p hb hc (.inr (.inr (.inr (.inr fun ro e vs' hh => by rw [hp] at hh; cases hh; rfl)))), fun i hi hr hE => ?_, S.ap⟩
 obtain ⟨c, h1, h2⟩ := S.cls i hi hr hE
 exact ⟨c, h1, h2.keep fun r p _ hl hp hn => k r p hl hp (.inr (.inr (.inr (.inr fun ro e vs hh => absurd hh (hn ro e vs)))))⟩
theorem SX.other (S : SX E h0 b N on rk rt has ws bo br bh wv hc hp) (g : Grow hp hq) : SX E h0 b N on rk rt has ws bo br bh wv hc hq := S.stay (S.grow.trans g) fun c p _ h _ => g.keep c p h
theorem SX.side {c : Nat} {p : Nat × AObj} (S : SX E h0 b N on rk rt has ws bo br bh wv hc hp) (w0 : WF h0) (q : But c hp hq) (hcp : hp.objs.get c = some p) (hl : h0.next <= c) (hn : c ≠ b /\ c ≠ bo /\ c ≠ br /\ c ≠ bh) (he : ∃ ro e vs, p.2 = .cells ro e vs /\ e ≠ 40) : SX E h0 b N on rk rt has ws bo br bh wv hc hq :=
 S.stay (q.grow h0 w0 S.grow hl) fun d x _ hd hx => q.keep d (by
  rintro rfl
  rw [hcp] at hd; cases hd
  rcases hx with rfl | rfl | rfl | rfl | hx
  ·exact hn.1 rfl
  ·exact hn.2.1 rfl
  ·exact hn.2.2.1 rfl
  ·exact hn.2.2.2 rfl
  ·obtain ⟨ro, e, vs, h1, h2⟩ := he
   exact h2 (hx ro e vs h1)) x hd
theorem SX.onto (S : SX E h0 b N on rk rt has ws bo br bh wv hc hp) (w0 : WF h0) (q : But bo hp hq) {on' : List Int} (ho : RowI hq bo N on') : SX E h0 b N on' rk rt has ws bo br bh wv hc hq := by
 obtain ⟨l1, l2, l3, l4⟩ := S.low
 obtain ⟨n1', n2', n3', n4', n5'⟩ := S.bne
 obtain ⟨v, s⟩ := S.s
 obtain ⟨v1, vs1, o1, q1'⟩ := S.on
 obtain ⟨v2, vs2, o2, q2'⟩ := S.rk
 obtain ⟨kl, v3, vs3, o3, q3'⟩ := S.hs
 refine ⟨q.grow h0 w0 S.grow l2, S.low, S.ne, ⟨v, q.keep _ n1' _ s⟩, ho, ⟨v2, vs2, q.keep _ (Ne.symm S.ne) _ o2, q2'⟩, ⟨kl, v3, vs3, q.keep _ (Ne.symm n4') _ o3, q3'⟩, zAS S.w q o1 (fun vs hh => by cases hh), fun i hi hr hE => ?_, S.ap⟩
 obtain ⟨c, h1, h2⟩ := S.cls i hi hr hE
 exact ⟨c, h1, h2.keep fun r p _ hl hp hn => q.keep r (by rintro rfl; rw [o1] at hp; cases hp; exact hn _ _ _ rfl) p hp⟩
theorem SX.ranks (S : SX E h0 b N on rk rt has ws bo br bh wv hc hp) (w0 : WF h0) (q : But br hp hq) {rk' : List Int} (ho : RowI hq br N rk') : SX E h0 b N on rk' rt has ws bo br bh wv hc hq := by
 obtain ⟨l1, l2, l3, l4⟩ := S.low
 obtain ⟨n1', n2', n3', n4', n5'⟩ := S.bne
 obtain ⟨v, s⟩ := S.s
 obtain ⟨v1, vs1, o1, q1'⟩ := S.on
 obtain ⟨v2, vs2, o2, q2'⟩ := S.rk
 obtain ⟨kl, v3, vs3, o3, q3'⟩ := S.hs
 refine ⟨q.grow h0 w0 S.grow l3, S.low, S.ne, ⟨v, q.keep _ n2' _ s⟩, ⟨v1, vs1, q.keep _ S.ne _ o1, q1'⟩, ho, ⟨kl, v3, vs3, q.keep _ (Ne.symm n5') _ o3, q3'⟩, zAS S.w q o2 (fun vs hh => by cases hh), fun i hi hr hE => ?_, S.ap⟩
 obtain ⟨c, h1, h2⟩ := S.cls i hi hr hE
 exact ⟨c, h1, h2.keep fun r p _ hl hp hn => q.keep r (by rintro rfl; rw [o2] at hp; cases hp; exact hn _ _ _ rfl) p hp⟩
theorem SX.both {x y : Nat} (S : SX (fun _ => False) h0 b N on rk rt has ws bo br bh wv hc hp) (G : Grow h0 hq) {my wv' : AVal} {ws' : List Pr} {ver : Nat} (kq : Kq b my hp hq) (hs : hq.objs.get b = some (ver, .cells false 56 [.slice (some (bo, 0)) N, .slice (some (br, 0)) N, .slice (some (bh, 0)) N, wv'])) (hB : Built hq h0.next 40 2 wv' ws'.length (rowC ws'))
  {cx : List AVal} (hx : x < N) (kx : rt (x : Int) = x) (hcx : hc[x]? = some cx) (hmy : cx[3]? = some my) : SX (fun i => i = x \/ i = y) h0 b N on rk rt has ws' bo br bh wv' hc hq := by
 obtain ⟨n1', n2', n3', n4', n5'⟩ := S.bne
 obtain ⟨v1, vs1, o1, q1'⟩ := S.on
 obtain ⟨v2, vs2, o2, q2'⟩ := S.rk
 obtain ⟨kl, v3, vs3, o3, q3'⟩ := S.hs
 have nm : ∀ {c : Nat} {p : Nat × AObj}, hp.objs.get c = some p -> (∃ ro e vs, p.2 = .cells ro e vs) -> my ≠ .map (some c) := by
  intro c p hcp ⟨ro, e, vs, he⟩ hh
  obtain ⟨d, h1, h2⟩ := S.cls x hx kx (fun h => h)
  rw [hcx] at h1; cases h1
  obtain ⟨av, mv, rfl, _, h3, h4⟩ := h2
  have hmv : mv = my := by simpa [clzC] using hmy
  by_cases hk : (has x).kind = 3
  ·obtain ⟨r, v, hr, _, hr2⟩ := h4 hk
   rw [hmv, hh] at hr; cases hr
   rw [hcp] at hr2; cases hr2; cases he
  ·rw [<- hmv, h3 hk] at hh; cases hh
 have cel : ∀ {c v : Nat} {ro : Bool} {e : TypeId} {vs : List AVal}, hp.objs.get c = some (v, .cells ro e vs) -> c ≠ b -> e ≠ 40 -> hq.objs.get c = some (v, .cells ro e vs) := fun h hb he => kq _ _ hb (nm h ⟨_, _, _, rfl⟩) h fun ro vs hh => by cases hh; exact he rfl
 refine ⟨G, S.low, S.ne, ⟨ver, hs⟩, ⟨v1, vs1, cel o1 (Ne.symm n1') (by decide), q1'⟩, ⟨v2, vs2, cel o2 (Ne.symm n2') (by decide), q2'⟩, ⟨kl, v3, vs3, cel o3 (Ne.symm n3') (by decide), q3'⟩, hB, fun i hi hr hE => ?_, S.ap⟩
 obtain ⟨c, h1, h2⟩ := S.cls i hi hr (fun h => h)
 simp only [not_or] at hE
 refine ⟨c, h1, h2.keep fun r p hm hl hp' hn => kq r p ?_ ?_ hp' fun ro vs hh => hn _ _ _ hh⟩
 ·rintro rfl
  obtain ⟨v, s⟩ := S.s
  rw [s] at hp'; cases hp'
  exact hn _ _ _ rfl
 ·intro hh
  exact S.ap i x hi hx hE.1 hr kx c cx r h1 hcx hm (by rw [hmy, hh])
theorem SX.link {x y : Nat} {hr : AHeap} (S : SX (fun i => i = x \/ i = y) h0 b N on rk rt has ws bo br bh wv hc hp) (w0 : WF h0) (hx : x < N) (hy : y < N) (hxy : x ≠ y) (kx : rt (x : Int) = x) (ky : rt (y : Int) = y) {on' : List Int} (q : But bo hp hq) (ho : RowI hq bo N on') (q' : But bh hq hr) {cs cx cy : List AVal} {c : Clz} (hcx : hc[x]? = some cx) (hcy : hc[y]? = some cy)
  (hk : RowK hr bh N (hc.set x cs)) (hn : ClzAt h0 hp cs c) (hm : cs[3]? = cy[3]? \/ cs[3]? = cx[3]?) : SX (fun _ => False) h0 b N on' rk (fun a => if rt a = (y : Int) then (x : Int) else rt a) (fun r => if r = (x : Int) then c else has r) ws bo br bh wv (hc.set x cs) hr := by
 have S1 := S.onto w0 q ho
 obtain ⟨l1, l2, l3, l4⟩ := S1.low
 obtain ⟨n1', n2', n3', n4', n5'⟩ := S1.bne
 obtain ⟨v, s⟩ := S1.s
 obtain ⟨v1, vs1, o1, q1'⟩ := S1.on
 obtain ⟨v2, vs2, o2, q2'⟩ := S1.rk
 obtain ⟨kl, v3, vs3, o3, q3'⟩ := S1.hs
 obtain ⟨_, _, o1p, _⟩ := S.on
 have root : ∀ {i : Nat}, (if rt (i : Int) = (y : Int) then (x : Int) else rt (i : Int)) = (i : Int) -> i ≠ x -> rt (i : Int) = i /\ i ≠ y := fun {i} h hi => by
  split at h
  ·omega
  ·rename_i h2; exact ⟨h, fun e => h2 (by rw [e]; exact ky)⟩
 have xl : x < hc.length := by rw [kl]; exact hx
 refine ⟨q'.grow h0 w0 S1.grow l4, S1.low, S1.ne, ⟨v, q'.keep _ n3' _ s⟩, ⟨v1, vs1, q'.keep _ n4' _ o1, q1'⟩, ⟨v2, vs2, q'.keep _ n5' _ o2, q2'⟩, hk, zAS S1.w q' o3 (fun vs hh => by cases hh), fun i hi hri _ => ?_, fun i j hi hj hij hri hrj d e r hd he hm1 => ?_⟩
 ·by_cases hix : i = x
  ·subst hix
   refine ⟨cs, by rw [List.getElem?_set, if_pos rfl, if_pos xl], ?_⟩
   rw [if_pos rfl]
   exact (hn.keep fun r p _ _ hp hne => q.keep r (by rintro rfl; rw [o1p] at hp; cases hp; exact hne _ _ _ rfl) p hp).keep fun r p _ _ hp hne => q'.keep r (by rintro rfl; rw [o3] at hp; cases hp; exact hne _ _ _ rfl) p hp
  ·obtain ⟨h1, h2⟩ := root hri hix
   obtain ⟨d, k1, k2⟩ := S1.cls i hi h1 (by simp [hix, h2])
   refine ⟨d, by rw [List.getElem?_set, if_neg (Ne.symm hix)]; exact k1, ?_⟩
   rw [if_neg (by omega)]
   exact k2.keep fun r p _ _ hp hne => q'.keep r (by rintro rfl; rw [o3] at hp; cases hp; exact hne _ _ _ rfl) p hp
 ·rw [List.getElem?_set] at hd he
  by_cases hix : i = x
  ·subst hix
   rw [if_pos rfl, if_pos xl, oI] at hd
   subst hd
   rw [if_neg hij] at he
   obtain ⟨h1, h2⟩ := root hrj (Ne.symm hij)
   intro hm2
   rcases hm with hm | hm
   ·exact S1.ap j y hj hy h2 h1 ky e cy r he hcy hm2 (by rw [<- hm, hm1])
   ·exact S1.ap j i hj hi (Ne.symm hij) h1 kx e cx r he hcx hm2 (by rw [<- hm, hm1])
  ·rw [if_neg (Ne.symm hix)] at hd
   obtain ⟨h1, h2⟩ := root hri hix
   by_cases hjx : j = x
   ·subst hjx
    rw [if_pos rfl, if_pos xl, oI] at he
    subst he
    intro hm2
    rcases hm with hm | hm
    ·exact S1.ap i y hi hy h2 h1 ky d cy r hd hcy hm1 (by rw [<- hm, hm2])
    ·exact S1.ap i j hi hj hij h1 kx d cx r hd hcx hm1 (by rw [<- hm, hm2])
   ·rw [if_neg (Ne.symm hjx)] at he
    obtain ⟨h3, _⟩ := root hrj hjx
    exact S1.ap i j hi hj hij h1 h3 d e r hd he hm1
end
theorem zNi {g : Graph} (hg : zAF g = 0) {rt : Int -> Int} {r : Int} {c : Clz} (C : ClzOK g rt r c) : c.fields.length <= zAk [] g.nodes 0 := by
 have h1 := zCm (c.fields.map (·.1)) (g.nodes.flatMap fun n => if n.kind = 3 then n.labels else []) C.nodup fun l hl => by
  obtain ⟨⟨k, a⟩, hp, rfl⟩ := List.mem_map.1 hl
  obtain ⟨m, m1, _, m3, m4⟩ := (C.keys k).1 ⟨a, hp⟩
  refine List.mem_flatMap.2 ⟨_, zFG m1, ?_⟩
  rw [if_pos m3]; exact m4
 rw [List.length_map] at h1
 refine Nat.le_trans h1 ?_
 rw [zCO, List.length_flatMap]
 have : ∀ ns : List Node, (∀ n ∈ ns, mayF n g.nodes.length = true) -> (ns.map fun n => (if n.kind = 3 then n.labels else []).length).sum <= (ns.map fun n => n.args.length).sum := by
  intro ns
  induction ns with
  | nil => intro _; exact Nat.le_refl _
  | cons n r ih =>
   intro h
   have h2 := ih fun n hn => h n (by simp [hn])
   have h3 : (if n.kind = 3 then n.labels else []).length <= n.args.length := by
    split
    ·rename_i hk
     rcases zAN (h n (by simp)) with ⟨q, _⟩ | ⟨q, _⟩ | ⟨_, _, q, _⟩ <;> omega
    ·simp
   simp only [List.map_cons, List.sum_cons]; omega
 exact this g.nodes (zBA hg).2
theorem zNT {g : Graph} (hg : zAF g = 0) {rt : Int -> Int} {r : Int} {c : Clz} (C : ClzOK g rt r c) : CK (zAk [] g.nodes 0) c := by
 refine ⟨?_, C.noargs, C.nodup, ?_, zNi hg C⟩
 ·obtain ⟨m, m1, _, m3, _⟩ := C.one
  rw [<- m3]
  rcases zAN (zAl hg m1) with ⟨q, _⟩ | ⟨q, _⟩ | ⟨q, _⟩ <;> simp [q]
 ·by_cases hk : c.kind = 2
  ·obtain ⟨m, m1, _, _, m4⟩ := C.args hk
   rw [m4]; exact zDP _ _ _ (zFG m1)
  ·rw [C.noargs hk]; simp
theorem clz_len {g : Graph} (hg : zAF g = 0) {rt : Int -> Int} {r s : Int} {c d : Clz} (C : ClzOK g rt r c) (D : ClzOK g rt s d) (kc : c.kind = 2) (kd : d.kind = 2) (hn : c.name = d.name) : c.args.length = d.args.length := by
 obtain ⟨m, m1, m2, m3, m4⟩ := C.args kc
 obtain ⟨n, n1, n2, n3, n4⟩ := D.args kd
 rw [m4, n4]
 refine zGl hg m1 n1 m3 n3 ?_
 rcases C.like m m1 m2 with q | ⟨_, q⟩
 ·omega
 rcases D.like n n1 n2 with q' | ⟨_, q'⟩
 ·omega
 rw [q, q', hn]
end Go.Ab.S
end
section
namespace Go.Ab.S
open Go Go.Ab
def solT (e : TypeId) : Bool := e == 3 || e == 68 || e == 56 || e == 40
def Ky (h h' : AHeap) : Prop := ∀ c ver ro e vs, solT e = false -> h.objs.get c = some (ver, .cells ro e vs) -> h'.objs.get c = some (ver, .cells ro e vs)
theorem Ky.refl (h : AHeap) : Ky h h := fun _ _ _ _ _ _ k => k
theorem Ky.trans {h h' h'' : AHeap} (k : Ky h h') (l : Ky h' h'') : Ky h h'' := fun c v r e vs h1 h2 => l c v r e vs h1 (k c v r e vs h1 h2)
theorem Ky.grow {h h' : AHeap} (g : Grow h h') : Ky h h' := fun c _ _ _ _ _ k => g.keep c _ k
theorem Ky.but {c ver : Nat} {ro : Bool} {e : TypeId} {vs : List AVal} {h h' : AHeap} (B : But c h h') (hc : h.objs.get c = some (ver, .cells ro e vs)) (he : solT e = true) : Ky h h' := fun d _ _ e' _ h1 h2 => B.keep d (by
 rintro rfl
 rw [hc] at h2
 simp only [oI, Prod.mk.injEq, AObj.cells.injEq] at h2
 rw [h2.2.2.1, h1] at he; cases he) _ h2
theorem Ky.new {c : Nat} {h0 h h' : AHeap} (w : WF h0) (k : Ky h0 h) (B : But c h h') (hc : h0.next <= c) : Ky h0 h' := fun d _ _ e' _ h1 h2 => B.keep d (by
 rintro rfl
 have := w.lt h2
 omega) _ (k d _ _ e' _ h1 h2)
end Go.Ab.S
end
section
namespace Go.Ab.S
open Go Go.Ab
set_option maxHeartbeats 8000000
structure Sol (g : Graph) (ps : List Pr) (h0 : AHeap) (b bo br bh : Nat) (on rk : List Int) (rt : Int -> Int) (has : Int -> Clz) (ws : List Pr) (K : Nat) (wv : AVal) (hc : List (List AVal)) (hp : AHeap) : Prop where
 sx : SX (fun _ => False) h0 b g.nodes.length on rk rt has ws bo br bh wv hc hp
 uf : UF g.nodes.length on rk rt K
 inv : UInv g ps rt has ws
 few : K + zDd g.nodes.length rt <= g.nodes.length
theorem Sol.find {g : Graph} {ps : List Pr} {h0 : AHeap} {b bo br bh : Nat} {on rk : List Int} {rt : Int -> Int} {has : Int -> Clz} {ws : List Pr} {K : Nat} {wv : AVal} {hc : List (List AVal)} {hp hq : AHeap} (S : Sol g ps h0 b bo br bh on rk rt has ws K wv hc hp) (w0 : WF h0) (q : But bo hp hq) {on' : List Int} (ho : RowI hq bo g.nodes.length on') (u : UF g.nodes.length on' rk rt K) : Sol g ps h0 b bo br bh on' rk rt has ws K wv hc hq :=
 ⟨S.sx.onto w0 q ho, u, S.inv, S.few⟩
theorem SX.ky {h0 : AHeap} {b N : Nat} {on rk : List Int} {rt : Int -> Int} {has : Int -> Clz} {ws : List Pr} {bo br bh : Nat} {wv : AVal} {hc : List (List AVal)} {hp hq : AHeap} {x : Nat} (S : SX (fun _ => False) h0 b N on rk rt has ws bo br bh wv hc hp) {my : AVal} (kq : Kq b my hp hq) {cx : List AVal} (hx : x < N) (kx : rt (x : Int) = x) (hcx : hc[x]? = some cx) (hmy : cx[3]? = some my) : Ky hp hq := by
 intro c ver ro e vs he hcp
 obtain ⟨v, s⟩ := S.s
 refine kq c _ (by rintro rfl; rw [s] at hcp; cases hcp; exact absurd he (by decide)) ?_ hcp fun ro vs hh => by cases hh; exact absurd he (by decide)
 intro hh
 obtain ⟨d, h1, h2⟩ := S.cls x hx kx (fun h => h)
 rw [hcx] at h1; cases h1
 obtain ⟨av, mv, rfl, _, h3, h4⟩ := h2
 have hmv : mv = my := by simpa [clzC] using hmy
 by_cases hk : (has x).kind = 3
 ·obtain ⟨r, v, hr, _, hr2⟩ := h4 hk
  rw [hmv, hh] at hr; cases hr
  rw [hcp] at hr2; cases hr2
 ·rw [<- hmv, h3 hk] at hh; cases hh
section
variable {fns : FnsT} {summ : SumT} {ro : Option Nat}
theorem zLb {d : Option Tmp} {e : TypeId} {z : AVal} {u v : AVal} {x y : AOpd} {l : List Step} {a : AAct} {h : AHeap} {K : AAct -> AHeap -> Prop} (hx : ev a x = some u) (hy : ev a y = some v) (hu : zAi u = [u]) (hv : zAi v = [v]) (w : WF h)
  (k : ∀ b h', h.next <= b -> Grow h h' -> h'.objs.get b = some (b, .cells false e [u, v]) -> St fns summ ro l (putA a d (.slice (some (b, 0)) 2)) h' K) : St fns summ ro (⟨d, none, .e (.bslice e 1 2 [z] [(0, x), (1, y)])⟩ :: l) a h K := by
 refine st_t (by intro _ _ hh; cases hh) (by intro _ _ hh; cases hh) (v := .slice (some (h.next, 0)) 2) (h' := newA h (.cells false e [u, v])) ?_ (k _ _ (Nat.le_refl _) ((Grow.refl w).new _) (zAV _ _))
 simp [zBU, rep, rowA, hx, hy, hu, hv]
end
section
variable {fns : FnsT} {summ : SumT}
variable (H : Has fns summ)
include H
theorem join_ok (g : Graph) (ps : List Pr) (hg : zAF g = 0) {h0 h : AHeap} (w0 : WF h0) {b bo br bh : Nat} {on rk : List Int} {rt : Int -> Int} {has : Int -> Clz} {ws : List Pr} {K : Nat} {wv : AVal} {hc : List (List AVal)} {p : Pr}
  (S : SX (fun _ => False) h0 b g.nodes.length on rk rt has ws bo br bh wv hc h) (u : UF g.nodes.length on rk rt K) (I : UInv g ps rt has (p :: ws)) (few : K + zDd g.nodes.length rt <= g.nodes.length) (hw : ws.length + zAk [] g.nodes 0 <= 2 ^ 30) :
  Cl fns summ 55 [.ptr (some (b, 0)), .int .i64 p.1, .int .i64 p.2] h fun r h' => Grow h0 h' /\ Ky h h' /\ ((r = .nilIface /\ ∃ on' rk' rt' has' ws' K' wv' hc', Sol g ps h0 b bo br bh on' rk' rt' has' ws' K' wv' hc' h' /\ ((rt' = rt /\ ws' = ws) \/ (zDd g.nodes.length rt' < zDd g.nodes.length rt /\ ws'.length <= ws.length + zAk [] g.nodes 0))) \/ (ErrAt h' r /\ ¬ Consi g ps)) := by
 obtain ⟨hpa, hpb⟩ := (I.waits p (by simp)).inG hg
 obtain ⟨ia, hia⟩ : ∃ i : Nat, p.1 = i := ⟨p.1.toNat, by have := hpa.1; omega⟩
 obtain ⟨ib, hib⟩ : ∃ i : Nat, p.2 = i := ⟨p.2.toNat, by have := hpb.1; omega⟩
 have hiaN : ia < g.nodes.length := by have := hpa.2; omega
 have hibN : ib < g.nodes.length := by have := hpb.2; omega
 rw [hia, hib]
 have rga := I.rng _ hpa
 have rgb := I.rng _ hpb
 rw [hia] at rga
 rw [hib] at rgb
 obtain ⟨x0, hx0⟩ : ∃ i : Nat, rt (ia : Int) = i := ⟨(rt (ia : Int)).toNat, by have := rga.1.1; omega⟩
 obtain ⟨y0, hy0⟩ : ∃ i : Nat, rt (ib : Int) = i := ⟨(rt (ib : Int)).toNat, by have := rgb.1.1; omega⟩
 have hx0N : x0 < g.nodes.length := by have := rga.1.2; rw [hx0] at this; omega
 have hy0N : y0 < g.nodes.length := by have := rgb.1.2; rw [hy0] at this; omega
 have kx0 : rt (x0 : Int) = x0 := by rw [<- hx0]; exact rga.2
 have ky0 : rt (y0 : Int) = y0 := by rw [<- hy0]; exact rgb.2
 have I' := Hid.mk I
 have few' := Hid.mk few
 have hp12 : Hid (rt p.1 = x0 /\ rt p.2 = y0) := ⟨by rw [hia, hx0], by rw [hib, hy0]⟩
 obtain ⟨hbo, hbr, hbh, hobh, hrbh⟩ := S.bne
 obtain ⟨ver, os⟩ := S.s
 have ofind := zGn H u hiaN hbo h S.grow.wf os S.on
 rw [hx0] at ofind
 replace ofind := Hid.mk ofind
 clear hia hib hpa hpb rga rgb hx0 I few
 refine H.go (fn := F_sjoin) rfl (by decide) rfl rfl ?_
 unfold F_sjoin
 dsimp only [qQ, qE, qN, gQ, gE, vi, tm, mt, lo, fa]
 clear os
 repeat with_reducible first | refine zAA ?_ | refine zAC ?_ | refine zAE ?_ | refine zAD ?_ | (apply st_q; exact q1)
 refine zAb (by exact s1) (ofind.out.mono ?_)
 rintro _ h1 ⟨rfl, B1, on1, ho1, u1⟩
 have S1 := S.onto w0 B1 ho1
 have ky1 : Hid (Ky h h1) := ⟨by obtain ⟨_, _, o, _⟩ := S.on; exact Ky.but B1 o (by decide)⟩
 obtain ⟨ver1, os1⟩ := S1.s
 have ofind2 := zGn H u1 hibN hbo h1 S1.grow.wf os1 S1.on
 rw [hy0] at ofind2
 replace ofind2 := Hid.mk ofind2
 clear S u B1 ho1 ofind hy0 os1
 repeat with_reducible (apply st_q; exact q1)
 refine zAb (by exact s1) (ofind2.out.mono ?_)
 rintro _ h2 ⟨rfl, B2, on2, ho2, u2⟩
 have S2 := S1.onto w0 B2 ho2
 have ky2 : Hid (Ky h h2) := ⟨ky1.out.trans (by obtain ⟨_, _, o, _⟩ := S1.on; exact Ky.but B2 o (by decide))⟩
 clear ky1 S1 u1 B2 ho2 ofind2
 by_cases hxy0 : x0 = y0
 ·have z0 : (((x0 : Nat) : Int) == ((y0 : Nat) : Int)) = true := by simp [hxy0]
  have hfin : Hid (Sol g ps h0 b bo br bh on2 rk rt has ws K wv hc h2) := ⟨S2, u2, I'.out.drop hg (by rw [hp12.out.1, hp12.out.2, hxy0]), few'.out⟩
  have G2 := S2.grow
  clear S2 u2 hxy0
  repeat' with_reducible first | refine zAA ?_ | refine zAa ?_ | refine zAC ?_ | refine zAE ?_ | refine zAD ?_ | refine zAO ?_ | (apply st_q; exact q1) | (apply zAJ; exact e1) | (apply zAI; exact n1; exact r1)
  exact ⟨G2, ky2.out, .inl ⟨rfl, on2, rk, rt, has, ws, K, wv, hc, hfin.out, .inl ⟨rfl, rfl⟩⟩⟩
 have z0 : (((x0 : Nat) : Int) == ((y0 : Nat) : Int)) = false := by simp; omega
 obtain ⟨vs2, os2⟩ := S2.s
 obtain ⟨vr, rvs, or2, hrt, hrl⟩ := S2.rk
 have hrx := zGC hrt hx0N hrl
 have hry := zGC hrt hy0N hrl
 have hix : slA (.slice (some (br, 0)) g.nodes.length) 1 x0 = some (br, x0) := by simp [slA, hx0N]
 have hiy : slA (.slice (some (br, 0)) g.nodes.length) 1 y0 = some (br, y0) := by simp [slA, hy0N]
 repeat with_reducible first | refine zAA ?_ | refine zAC ?_ | refine zAE ?_ | refine zAD ?_ | refine zAT ?_ | refine zBz ?_ | refine zBQ ?_ | (apply dr_q; exact q1) | (apply zCs; exact q1; exact og1) | (apply st_q; exact q1) | (apply zAL; exact e1)
 refine zEa (fun a hq => hq = h2 /\ (∃ x y : Nat, Hid (x < g.nodes.length /\ y < g.nodes.length /\ rt (x : Int) = x /\ rt (y : Int) = y /\ x ≠ y /\ clAt rk (y : Int) <= clAt rk (x : Int) /\ ((x = x0 /\ y = y0) \/ (x = y0 /\ y = x0))) /\ ev a (.tmp 7) = some (.int .i64 (x : Nat)) /\ ev a (.tmp 8) = some (.int .i64 (y : Nat))) /\ a.defers = [] /\ ev a (.tmp 0) = some (.ptr (some (b, 0))) /\ ev a (.tmp 1) = some (.int .i64 (ia : Nat)) /\ ev a (.tmp 2) = some (.int .i64 (ib : Nat))) ?_ ?_
 ·by_cases hlt : clAt rk (x0 : Int) < clAt rk (y0 : Int)
  ·have z1 : decide (clAt rk (x0 : Int) < clAt rk (y0 : Int)) = true := by simp [hlt]
   repeat with_reducible first | refine zAA ?_ | refine zAC ?_ | refine zAD ?_ | (apply st_q; exact q1) | (apply zAJ; exact e1)
   exact ⟨rfl, ⟨y0, x0, ⟨hy0N, hx0N, ky0, kx0, by omega, by omega, .inr ⟨rfl, rfl⟩⟩, by exact e1, by exact e1⟩, by exact n1, by exact e1, by exact e1, by exact e1⟩
  ·have z1 : decide (clAt rk (x0 : Int) < clAt rk (y0 : Int)) = false := by simp; omega
   repeat with_reducible first | refine zAA ?_ | refine zAT ?_ | (apply zAL; exact e1)
   exact ⟨rfl, ⟨x0, y0, ⟨hx0N, hy0N, kx0, ky0, by omega, by omega, .inl ⟨rfl, rfl⟩⟩, by exact e1, by exact e1⟩, by exact n1, by exact e1, by exact e1, by exact e1⟩
 rintro a hq ⟨rfl, ⟨x, y, hxy, t7', t8'⟩, hd, t0', t1', t2'⟩
 obtain ⟨hxN, hyN, kx, ky, hne, hle, hcase⟩ := hxy.out
 obtain ⟨hcl, vh, hvs, oh2, hhl, hhk⟩ := S2.hs
 obtain ⟨cx, hcx, Kx⟩ := S2.cls x hxN kx (fun h => h)
 obtain ⟨cy, hcy, KY⟩ := S2.cls y hyN ky (fun h => h)
 obtain ⟨avx, mvx, rfl, ix1, ix2, ix3⟩ := Kx
 obtain ⟨avy, mvy, rfl, iy1, iy2, iy3⟩ := KY
 have Cx := I'.out.cls x ⟨by omega, by omega⟩ kx
 have Cy := I'.out.cls y ⟨by omega, by omega⟩ ky
 have hpx := zJt (hhk _ _ hcx).1 (hhk _ _ hcx).2
 have hpy := zJt (hhk _ _ hcy).1 (hhk _ _ hcy).2
 have hlx : x * 5 + 5 <= hvs.length := by omega
 have hly : y * 5 + 5 <= hvs.length := by omega
 have hjx : slA (.slice (some (bh, 0)) g.nodes.length) 5 x = some (bh, x * 5) := by simp [slA, hxN]
 have hjy : slA (.slice (some (bh, 0)) g.nodes.length) 5 y = some (bh, y * 5) := by simp [slA, hyN]
 have hboth := both_ok H (zAk [] g.nodes 0) (has y) (has x) (zNT hg Cy) (zNT hg Cx) (clz_len hg Cy Cx) w0 S2.grow S2.low.1 os2 S2.w (ax := avy) (mx := mvy) (ay := avx) (my := mvx) ⟨_, _, rfl, iy1, iy2, iy3⟩ ⟨_, _, rfl, ix1, ix2, ix3⟩ (fun r hr => S2.ap y x hyN hxN (Ne.symm hne) ky kx _ _ r hcy hcx (by rw [hr]; rfl) |> fun q hh => q (by rw [hh]; rfl)) (by omega)
 have S2' := Hid.mk S2
 have u2' := Hid.mk u2
 replace hboth := Hid.mk hboth
 have hcx' := Hid.mk hcx
 have hcy' := Hid.mk hcy
 clear hrx hry hix hiy or2 hrt hrl ix1 ix2 ix3 iy1 iy2 iy3 Cx Cy hhk hcx hcy S2 u2 hxy0 z0 kx0 ky0 hx0N hy0N
 repeat with_reducible first | refine zAA ?_ | refine zAE ?_ | refine zBQ ?_ | (apply dr_q; exact q1) | (apply zCs; exact q1; exact og1)
 refine dr_e (ex_callF (by exact s1) (hboth.out.mono ?_))
 have nres : ∀ {c : Clz} {new : List Pr}, Merge (has y) (has x) c new -> UInv g ps (fun a => if rt a = (y : Int) then (x : Int) else rt a) (fun r => if r = (x : Int) then c else has r) (new.reverse ++ ws) := by
  intro c new hm
  refine I'.out.join hg ⟨by omega, by omega⟩ ⟨by omega, by omega⟩ kx ky (by omega) ?_ hm fun q => by rw [List.mem_append, List.mem_reverse]; exact Or.comm
  rw [hp12.out.1, hp12.out.2]
  rcases hcase with ⟨rfl, rfl⟩ | ⟨rfl, rfl⟩
  ·exact .inl ⟨rfl, rfl⟩
  ·exact .inr ⟨rfl, rfl⟩
 rintro _ h7 ⟨G7, ⟨c, new, wv', ver7, cs, hm, hnl, rfl, Kc, hmp, os7, B7, kq7⟩ | ⟨hcl', cs, rfl, hcs, hco, kqf⟩⟩
 ·have S7 := Hid.mk (S2'.out.both (x := x) (y := y) G7 kq7 os7 B7 hxN kx hcx'.out (my := mvx) rfl)
  have ky7 : Hid (Ky h h7) := ⟨ky2.out.trans (S2'.out.ky kq7 hxN kx hcx'.out (my := mvx) rfl)⟩
  have hnU := Hid.mk (nres hm)
  have ocs := zGL Kc
  have ho1 := ocs.1
  have hl5 := ocs.2
  have ht5 : List.take 5 cs = cs := List.take_of_length_le (by omega)
  have Kc' := Hid.mk Kc
  have hmp' := Hid.mk hmp
  have slt := S7.out.lt
  have n07 := G7.next
  replace hnl := Hid.mk hnl
  replace ho1 := Hid.mk ho1
  clear Kc hmp hm B7 kq7 hboth os7 ocs nres hpx hpy hjx hjy hlx hly oh2 os2
  refine ⟨by simp [zAf, Nat.testBit], ?_⟩
  repeat with_reducible (apply dr_q; exact q1)
  refine zBD (zAY G7.wf ?_)
  rintro b9 h8 hb9 g8 o9
  refine zAC ⟨by simp [zAf, Nat.testBit], ?_⟩
  refine zBD (zAG (by exact e1) (by exact e1) (by exact cc) hl5 g8.wf o9 (by simp [hl5]) ho1.out ?_)
  rintro v9 h9 p9 o9'
  refine zAC ⟨by simp [zAf, Nat.testBit], ?_⟩
  have S9 := (S7.out.other g8).side w0 p9 o9 (by omega) ⟨by omega, by omega, by omega, by omega⟩ ⟨_, _, _, rfl, by decide⟩
  have ky9 : Hid (Ky h h9) := ⟨(ky7.out.trans (Ky.grow g8)).trans (Ky.but p9 o9 (by decide))⟩
  have Kc9 := Hid.mk ((Kc'.out.keep fun r p _ _ hp _ => g8.keep _ _ hp).keep fun r p _ _ hp hn => p9.keep r (by rintro rfl; rw [o9] at hp; cases hp; exact hn _ _ _ rfl) p hp)
  rw [hl5] at o9'
  simp only [zlY, zlA, zlC, zlN, zlD, zlZ, zlE, Nat.zero_add, Nat.reduceAdd, zlX] at o9'
  obtain ⟨vs9, os9⟩ := S9.s
  obtain ⟨vr9, rvs9, or9, hrt9, hrl9⟩ := S9.rk
  have hrx := zGC hrt9 hxN hrl9
  have hry := zGC hrt9 hyN hrl9
  have hix : slA (.slice (some (br, 0)) g.nodes.length) 1 x = some (br, x) := by simp [slA, hxN]
  have hiy : slA (.slice (some (br, 0)) g.nodes.length) 1 y = some (br, y) := by simp [slA, hyN]
  have slt9 := S9.lt
  have S9' := Hid.mk S9
  have uu := u2'.out.rk x ⟨by omega, by omega⟩
  have hK := few'.out
  have hNN := (zAZ hg).2.2.1
  have hw1 : IntKind.i64.wrap (clAt rk (x : Int) + 1) = clAt rk (x : Int) + 1 := zAq (by omega) (by omega)
  have hb9n : b9 ≠ b /\ b9 ≠ bo /\ b9 ≠ br /\ b9 ≠ bh := ⟨by omega, by omega, by omega, by omega⟩
  clear o9 g8 p9 S9 S7 hb9 slt Kc'
  repeat with_reducible first | refine zAA ?_ | refine zAC ?_ | refine zAE ?_ | refine zAD ?_ | refine zAT ?_ | refine zBz ?_ | refine zBQ ?_ | (apply dr_q; exact q1) | (apply zCs; exact q1; exact og1) | (apply st_q; exact q1) | (apply zAL; exact e1)
  refine zEa (fun a hq => (∃ rk', Hid ((clAt rk (y : Int) < clAt rk (x : Int) /\ rk' = rk) \/ (clAt rk (y : Int) = clAt rk (x : Int) /\ rk' = rk.set x (clAt rk (x : Int) + 1))) /\ Hid (SX (fun i => i = x \/ i = y) h0 b g.nodes.length on2 rk' rt has (new.reverse ++ ws) bo br bh wv' hc hq) /\ Hid (ClzAt h0 hq cs c /\ Ky h hq)) /\ (∃ v9, hq.objs.get b9 = some (v9, .cells false 68 cs)) /\ a.defers = [] /\ ev a (.tmp 0) = some (.ptr (some (b, 0))) /\ ev a (.tmp 7) = some (.int .i64 (x : Nat)) /\ ev a (.tmp 8) = some (.int .i64 (y : Nat)) /\ ev a (.tmp 9) = some (.ptr (some (b9, 0)))) ?_ ?_
  ·by_cases heq : clAt rk (x : Int) = clAt rk (y : Int)
   ·have z1 : ((clAt rk (x : Int)) == (clAt rk (y : Int))) = true := by simp [heq]
    have hset := zLW hrt9 hxN hrl9 (clAt rk (x : Int) + 1)
    have hlen : g.nodes.length <= (rvs9.take x ++ [AVal.int .i64 (clAt rk (x : Int) + 1)] ++ rvs9.drop (x + 1)).length := by
     simp only [List.length_append, List.length_take, zlC, zlN, List.length_drop]; omega
    replace heq := Hid.mk heq
    replace hset := Hid.mk hset
    replace hlen := Hid.mk hlen
    clear uu
    repeat with_reducible first | refine zAD ?_ | (apply st_q; exact q1) | (apply zAJ; exact e1)
    refine zAG (by exact e1) (by exact e1) (by exact cc) rfl S9'.out.grow.wf or9 (by simp only [zlC, zlN]; omega) rfl ?_
    rintro v10 h10 p10 o10
    simp only [zlC, zlN, Nat.zero_add] at o10
    have S10 := S9'.out.ranks w0 p10 ⟨v10, _, o10, hset.out, hlen.out⟩
    have o9n := p10.keep b9 hb9n.2.2.1 _ o9'
    have Kc10 := Kc9.out.keep fun r p _ _ hp hn => p10.keep r (by rintro rfl; rw [or9] at hp; cases hp; exact hn _ _ _ rfl) p hp
    have ky10 := ky9.out.trans (Ky.but p10 or9 (by decide))
    replace ky10 := Hid.mk ky10
    clear o10 or9 os9 hrx hry o9'
    repeat with_reducible first | refine zAA ?_ | refine zAC ?_
    exact ⟨⟨_, ⟨.inr ⟨heq.out.symm, rfl⟩⟩, ⟨S10⟩, ⟨Kc10, ky10.out⟩⟩, ⟨_, o9n⟩, by exact n1, by exact e1, by exact e1, by exact e1, by exact e1⟩
   ·have z1 : ((clAt rk (x : Int)) == (clAt rk (y : Int))) = false := by simp [heq]
    have hlt : clAt rk (y : Int) < clAt rk (x : Int) := by omega
    replace hlt := Hid.mk hlt
    clear heq uu
    repeat with_reducible first | refine zAA ?_ | refine zAT ?_ | (apply zAL; exact e1)
    exact ⟨⟨rk, ⟨.inl ⟨hlt.out, rfl⟩⟩, S9', ⟨Kc9.out, ky9.out⟩⟩, ⟨_, o9'⟩, by exact n1, by exact e1, by exact e1, by exact e1, by exact e1⟩
  clear o9' os9 or9 hrx hry hix hiy S9' Kc9 hrt9 hrl9
  rintro a hq ⟨⟨rk', hrk, S10, Kc10k⟩, ⟨v9, o9⟩, hd, t0', t7', t8', t9'⟩
  have Kc10 := Hid.mk Kc10k.out.1
  have ky10 := Hid.mk Kc10k.out.2
  clear Kc10k
  obtain ⟨vs10, os10⟩ := S10.out.s
  obtain ⟨vo, ovs, oo, hot, hol⟩ := S10.out.on
  obtain ⟨hcl2, vh2, hvs2, oh3, hhl2, hhk2⟩ := S10.out.hs
  have hiy : slA (.slice (some (bo, 0)) g.nodes.length) 1 y = some (bo, y) := by simp [slA, hyN]
  have hjx : slA (.slice (some (bh, 0)) g.nodes.length) 5 x = some (bh, x * 5) := by simp [slA, hxN]
  have hset := zLW hot hyN hol (x : Int)
  have hlen : g.nodes.length <= (ovs.take y ++ [AVal.int .i64 (x : Int)] ++ ovs.drop (y + 1)).length := by
   simp only [List.length_append, List.length_take, zlC, zlN, List.length_drop]; omega
  have hks := rowK_set hxN hcl2 hhl2 hhk2 hl5
  have hxl : x * 5 + 5 <= hvs2.length := by omega
  obtain ⟨k1, k2, k3, k4, k5⟩ := S10.out.bne
  replace hset := Hid.mk hset
  replace hlen := Hid.mk hlen
  replace hks := Hid.mk hks
  have hcl2' := Hid.mk hcl2
  have w10 := S10.out.grow.wf
  clear hot hhk2 hcl2
  repeat with_reducible first | refine zAA ?_ | refine zAE ?_ | refine zBQ ?_ | (apply dr_q; exact q1) | (apply zCs; exact q1; exact og1)
  refine zBD (zAG (by exact e1) (by exact e1) (by exact cc) rfl w10 oo (by simp only [zlC, zlN]; omega) rfl ?_)
  rintro v11 h11 p11 o11
  have ky11 := Hid.mk (ky10.out.trans (Ky.but p11 oo (by decide)))
  have oh11 := p11.keep bh (Ne.symm k4) _ oh3
  have os11 := p11.keep b k1 _ os10
  have o9k := p11.keep b9 hb9n.2.1 _ o9
  refine zAC ⟨by simp [zAf, Nat.testBit, os11, o9k], ?_⟩
  simp only [zlC, zlN, Nat.zero_add] at o11
  clear oo os10 oh3 o9 o9k
  repeat with_reducible (apply dr_q; exact q1)
  refine zBD (zAG (by exact e1) (by exact e1) (by exact cc) hl5 (p11.wf w10) oh11 (by rw [hl5]; exact hxl) ho1.out ?_)
  rintro v12 h12 p12 o12
  refine zAC ⟨by simp [zAf, Nat.testBit], ?_⟩
  have S12 := S10.out.link w0 hxN hyN hne kx ky p11 (on' := on2.set y (x : Int)) ⟨v11, _, o11, hset.out, hlen.out⟩ p12 hcx'.out hcy'.out (cs := cs) (c := c) ⟨by rw [List.length_set, hcl2'.out], v12, _, o12, hks.out⟩ Kc10.out (by
   rcases hmp'.out with h | h
   ·exact .inl (by rw [h]; rfl)
   ·exact .inr (by rw [h]; rfl))
  have ky12 := Hid.mk (ky11.out.trans (Ky.but p12 oh11 (by decide)))
  have hless := zMy (N := g.nodes.length) hyN ky kx hne
  have hfin : Hid (Sol g ps h0 b bo br bh (on2.set y (x : Int)) rk' (fun a => if rt a = (y : Int) then (x : Int) else rt a) (fun r => if r = (x : Int) then c else has r) (new.reverse ++ ws) (K + 1) wv' (hc.set x cs) h12) := ⟨S12, u2'.out.link hxN hyN kx ky hne hrk.out, hnU.out, by have := few'.out; omega⟩
  have G12 := S12.grow
  have hless' := Hid.mk hless
  clear S12 o12 oh11 os11 o11 p11 p12 S10 Kc10 hless
  repeat' with_reducible first | refine zAA ?_ | refine zAC ?_ | refine zAE ?_ | refine zAD ?_ | refine zAO ?_ | refine zBz ?_ | (apply st_q; exact q1) | (apply zAI; exact n1; exact r1)
  exact ⟨G12, ky12.out, .inl ⟨rfl, _, _, _, _, _, _, _, _, hfin.out, .inr ⟨hless'.out, by have := hnl.out; rw [List.length_append, List.length_reverse]; omega⟩⟩⟩
 ·have hbad : Hid (¬ Consi g ps) := ⟨by
   have hU : Uni g ps (x : Int) (y : Int) := by
    have hpu := I'.out.waits p (by simp)
    have hin := hpu.inG hg
    have ix : InG g (x : Int) := ⟨by omega, by omega⟩
    have iy : InG g (y : Int) := ⟨by omega, by omega⟩
    obtain ⟨e1', e2'⟩ := hp12.out
    rcases hcase with ⟨rfl, rfl⟩ | ⟨rfl, rfl⟩
    ·exact (I'.out.sound _ p.1 ix hin.1 (by rw [e1', kx])).trans (hpu.trans (I'.out.sound p.2 _ hin.2 iy (by rw [e2', ky])))
    ·exact (I'.out.sound _ p.2 ix hin.2 (by rw [e2', kx])).trans (hpu.symm.trans (I'.out.sound p.1 _ hin.1 iy (by rw [e1', ky])))
   exact I'.out.clash (p := p) (by simp) ⟨by omega, by omega⟩ ⟨by omega, by omega⟩ kx ky hU hcl'⟩
  have n07 := G7.next
  clear nres hcl' hboth
  refine ⟨by simp [zAf, Nat.testBit], ?_⟩
  clear os2 oh2 hpx hpy hjx hjy hlx hly
  repeat with_reducible (apply dr_q; exact q1)
  refine zBD (zAY G7.wf ?_)
  rintro b9 h8 hb9 g8 o9
  refine zAC ⟨by simp [zAf, Nat.testBit], ?_⟩
  refine zBD (zAG (by exact e1) (by exact e1) (by exact cc) hcs g8.wf o9 (by simp [hcs]) hco ?_)
  rintro v9 h9 p9 o9'
  refine zAC ⟨by simp [zAf, Nat.testBit], ?_⟩
  have ky9 : Hid (Ky h h9) := ⟨((ky2.out.trans (S2'.out.ky kqf hxN kx hcx'.out (my := mvx) rfl)).trans (Ky.grow g8)).trans (Ky.but p9 o9 (by decide))⟩
  have G9 := p9.grow h0 w0 (G7.trans g8) (by omega)
  clear o9 o9' p9 g8 hcs hco
  repeat with_reducible first | refine zAA ?_ | refine zAC ?_ | refine zAE ?_ | refine zAD ?_ | refine zBz ?_ | (apply dr_q; exact q1) | (apply st_q; exact q1) | (apply zAJ; exact e1)
  refine zAb (by exact s1) ((zNe H _ h9 G9.wf).mono ?_)
  rintro _ h10 ⟨b1', rfl, g10⟩
  repeat with_reducible first | (apply zJz; exact e1; exact e1) | (apply st_q; exact q1)
  refine zBL (by exact e1) (by exact cc) g10.wf ?_
  rintro b62 h11 hb62 g11 o11
  clear o11
  repeat with_reducible (apply st_q; exact q1)
  refine zLb (u := .iface 204 (.ptr (some (b1', 0)))) (v := .iface 57 (.ptr (some (b62, 0)))) (by exact e1) (by exact e1) rfl rfl g11.wf ?_
  rintro ba h12 hba g12 oa
  skip
  refine zAb (by exact s1) ((zMg H _ _ ⟨_, _, rfl⟩ ⟨_, _, rfl⟩ ba _ _ _ h12 g12.wf oa).mono ?_)
  rintro _ h13 ⟨g13, bj, vj, be, ve, evs', rfl, j1, j2, j3⟩
  have G13 := G9.trans (((g10.trans g11).trans g12).trans g13)
  clear oa
  repeat' with_reducible first | refine zAA ?_ | refine zAa ?_ | refine zAC ?_ | refine zAO ?_ | (apply st_q; exact q1) | (apply zAI; exact n1; exact r1)
  have ky13 := ky9.out.trans (Ky.grow (((g10.trans g11).trans g12).trans g13))
  exact ⟨G13, ky13, .inr ⟨⟨bj, vj, be, ve, evs', _, _, rfl, j1, j2, j3⟩, hbad.out⟩⟩
end
end Go.Ab.S
end
section
namespace Go.Ab.S
open Go Go.Ab
set_option maxHeartbeats 8000000
theorem SX.pop {E : Nat -> Prop} {h0 : AHeap} {b N : Nat} {on rk : List Int} {rt : Int -> Int} {has : Int -> Clz} {ws ws' : List Pr} {bo br bh ver : Nat} {wv wv' : AVal} {hc : List (List AVal)} {hp hq : AHeap} (S : SX E h0 b N on rk rt has ws bo br bh wv hc hp) (w0 : WF h0) (q : But b hp hq)
  (hs : hq.objs.get b = some (ver, .cells false 56 [.slice (some (bo, 0)) N, .slice (some (br, 0)) N, .slice (some (bh, 0)) N, wv'])) (hB : Built hq h0.next 40 2 wv' ws'.length (rowC ws')) : SX E h0 b N on rk rt has ws' bo br bh wv' hc hq := by
 obtain ⟨l1, l2, l3, l4⟩ := S.low
 obtain ⟨n1', n2', n3', n4', n5'⟩ := S.bne
 obtain ⟨v, s⟩ := S.s
 obtain ⟨v1, vs1, o1, q1'⟩ := S.on
 obtain ⟨v2, vs2, o2, q2'⟩ := S.rk
 obtain ⟨kl, v3, vs3, o3, q3'⟩ := S.hs
 refine ⟨q.grow h0 w0 S.grow l1, S.low, S.ne, ⟨ver, hs⟩, ⟨v1, vs1, q.keep _ (Ne.symm n1') _ o1, q1'⟩, ⟨v2, vs2, q.keep _ (Ne.symm n2') _ o2, q2'⟩, ⟨kl, v3, vs3, q.keep _ (Ne.symm n3') _ o3, q3'⟩, hB, fun i hi hr hE => ?_, S.ap⟩
 obtain ⟨c, h1, h2⟩ := S.cls i hi hr hE
 exact ⟨c, h1, h2.keep fun r p _ hl hp hn => q.keep r (by rintro rfl; rw [s] at hp; cases hp; exact hn _ _ _ rfl) p hp⟩
section
variable {fns : FnsT} {summ : SumT} {ro : Option Nat}
theorem zLG {i pp : Nat} {d : Option Tmp} {e : TypeId} {sz b o n m : Nat} {kd : IntKind} {x y : AOpd} {l : List DStep} {hs : List Held} {a : AAct} {h : AHeap} {K : AAct -> AHeap -> Prop} (hx : ev a x = some (.slice (some (b, o)) n)) (hy : ev a y = some (.int kd (m : Nat))) (hm : m <= n) (k : Dr fns summ ro l hs (putA a d (.slice (some (b, o)) m)) h K) :
  Dr fns summ ro (⟨i, pp, ⟨d, none, .q (.slice e sz x none (some y))⟩⟩ :: l) hs a h K := by
 refine dr_q (v := .slice (some (b, o)) m) ?_ k
 simp only [zCT, hx, zBj, hy, Int.toNat_natCast]
 rw [if_pos (show (0 : Int) <= (m : Nat) /\ m <= n from ⟨by omega, hm⟩)]
end
section
variable {fns : FnsT} {summ : SumT}
variable (H : Has fns summ)
include H
theorem run_ok (g : Graph) (ps : List Pr) (hg : zAF g = 0) {h0 h : AHeap} (w0 : WF h0) {b bo br bh : Nat} {on rk : List Int} {rt : Int -> Int} {has : Int -> Clz} {ws : List Pr} {K : Nat} {wv : AVal} {hc : List (List AVal)}
  (S : Sol g ps h0 b bo br bh on rk rt has ws K wv hc h) (hw : zDd g.nodes.length rt * (zAk [] g.nodes 0 + 1) + ws.length + zAk [] g.nodes 0 <= 2 ^ 30) :
  Cl fns summ 27 [.ptr (some (b, 0))] h fun r h' => Grow h0 h' /\ Ky h h' /\ ((r = .nilIface /\ ∃ on' rk' rt' has' K' wv' hc', Sol g ps h0 b bo br bh on' rk' rt' has' [] K' wv' hc' h') \/ (ErrAt h' r /\ ¬ Consi g ps)) := by
 have S0 := Hid.mk S
 have kr := Hid.mk (Ky.refl h)
 have hw' := Hid.mk hw
 clear S hw
 refine H.go (fn := F_srun) rfl (by decide) rfl rfl ?_
 unfold F_srun
 dsimp only [qQ, qE, qN, gQ, gE, vi, tm, mt, lo, fa]
 repeat with_reducible first | refine zAA ?_ | refine zAC ?_ | refine zAE ?_ | refine zAD ?_ | (apply st_q; exact q1)
 refine zBy ?_
 refine zDM (fun m a hp => ∃ on rk rt has ws K wv hc, Hid (Sol g ps h0 b bo br bh on rk rt has ws K wv hc hp) /\ Hid (m = zDd g.nodes.length rt * (zAk [] g.nodes 0 + 1) + ws.length /\ m + zAk [] g.nodes 0 <= 2 ^ 30) /\ Hid (Ky h hp) /\ a.defers = [] /\ ev a (.tmp 0) = some (.ptr (some (b, 0)))) ?_ (n := zDd g.nodes.length rt * (zAk [] g.nodes 0 + 1) + ws.length)
  ⟨on, rk, rt, has, ws, K, wv, hc, S0, ⟨rfl, hw'.out⟩, kr, by exact n1, by exact e1⟩
 clear S0 hw' kr
 rintro m a hp ⟨on, rk, rt, has, ws, K, wv, hc, S, hm, kl, hd, t0'⟩
 obtain ⟨vs, os⟩ := S.out.sx.s
 have hlw := S.out.sx.w.len
 cases ws with
 | nil =>
  have z0 : decide ((Int.ofNat 0 : Int) > 0) = false := by decide
  have G := S.out.sx.grow
  repeat' with_reducible first | refine zAA ?_ | refine zBg ?_ | refine zBf ?_ | refine zAC ?_ | refine zAE ?_ | refine zAD ?_ | refine zCF ?_ | refine zAO ?_ | (apply st_q; exact q1) | (apply zAL; exact e1) | (apply zAI; exact n1; exact r1)
  exact ⟨G, kl.out, .inl ⟨rfl, on, rk, rt, has, K, wv, hc, S.out⟩⟩
 | cons p ws =>
  have z0 : decide ((Int.ofNat (ws.length + 1) : Int) > 0) = true := by simp; try omega
  obtain ⟨bw, vw, wvs, rfl, ow, lbw, ⟨hw1, hw2⟩, hB⟩ := zOJ S.out.sx.w
  have hlen : (p :: ws).length = ws.length + 1 := rfl
  have hwm := hm.out.1
  have hwb := hm.out.2
  have e30 : (2 : Nat) ^ 30 = 1073741824 := by decide
  have hlb : ws.length <= 2 ^ 30 := by rw [hlen] at hwm; omega
  have hsub : IntKind.i64.wrap ((Int.ofNat (ws.length + 1) : Int) - 1) = ((ws.length : Nat) : Int) := by
   rw [zAq (by simp only [Int.ofNat_eq_natCast]; omega) (by simp only [Int.ofNat_eq_natCast]; omega)]; simp
  have hix : slA (.slice (some (bw, 0)) (ws.length + 1)) 2 ws.length = some (bw, ws.length * 2) := by simp [slA]
  have w := S.out.sx.grow.wf
  have slt := S.out.sx.lt
  have low := S.out.sx.low
  have hpc : zCb p = [.int .i64 p.1, .int .i64 p.2] := rfl
  rw [hpc] at hw2
  have lbw' := w.lt ow
  have n0 := S.out.sx.grow.next
  replace hB := Hid.mk hB
  replace hwb := Hid.mk hwb
  replace hwm := Hid.mk hwm
  have ht2 : ∀ x y : AVal, List.take 2 [x, y] = [x, y] := fun _ _ => rfl
  clear hlb
  repeat with_reducible first | refine zAA ?_ | refine zAC ?_ | refine zAE ?_ | refine zAD ?_ | refine zAP ?_ | refine zAT ?_ | refine zBQ ?_ | (apply dr_q; exact q1) | (apply zCs; exact q1; exact og1) | (apply st_q; exact q1) | (apply zAJ; exact e1)
  refine zBD (zAY w ?_)
  rintro b3 h1 hb3 g1' o3
  refine zAC ⟨by simp [zAf, Nat.testBit, g1'.keep _ _ os, g1'.keep _ _ ow], ?_⟩
  refine zBD (zAG (by exact e1) (by exact e1) (by exact cc) rfl g1'.wf o3 (by simp) rfl ?_)
  rintro v3 h2 p2 o3'
  refine zAC ⟨by simp [zAf, Nat.testBit], ?_⟩
  simp only [zlY, zlA, zlC, zlN, zlD, zlZ, zlE, Nat.zero_add, Nat.reduceAdd, zlX, zlK] at o3'
  have G2 := p2.grow hp w g1' hb3
  have S2 := Hid.mk (S.out.sx.other G2)
  have os2 := G2.keep _ _ os
  have hB2 := Hid.mk (hB.out.grow G2)
  have l3 : b3 ≠ b := by omega
  have w2 := G2.wf
  clear os ow o3 p2 g1' hw1 hw2 hix
  repeat with_reducible first | refine zAA ?_ | refine zAE ?_ | refine zBz ?_ | refine zBQ ?_ | (apply dr_q; exact q1) | (apply zCs; exact q1; exact og1)
  refine zLG (by exact e1) (by exact e1) (by omega) ?_
  repeat with_reducible (apply dr_q; exact q1)
  refine zBD (zAG (by exact e1) (by exact e1) (by exact cc) rfl w2 os2 (by simp) rfl ?_)
  rintro v4 h4 p4 o4
  refine zAC ⟨by simp [zAf, Nat.testBit], ?_⟩
  simp only [zlT, zlY, zlA, zlC, zlN, zlD, zlZ, zlE, Nat.zero_add, Nat.reduceAdd, zlX, zlK] at o4
  have o34 := p4.keep b3 l3 _ o3'
  have S4 := S2.out.pop w0 p4 o4 (zAS hB2.out p4 os2 (fun vs hh => by cases hh))
  have hjoin := join_ok H g ps hg w0 (p := p) S4 S.out.uf S.out.inv S.out.few (by have h1 := hwb.out; have h2 := hwm.out; rw [hlen] at h2; omega)
  replace hjoin := Hid.mk hjoin
  have hmm : Hid (zDd g.nodes.length rt * (zAk [] g.nodes 0 + 1) + ws.length < m /\ ∀ r' n', r' < zDd g.nodes.length rt -> n' <= ws.length + zAk [] g.nodes 0 -> r' * (zAk [] g.nodes 0 + 1) + n' < m) := by
   have h2 := hwm.out
   rw [hlen] at h2
   refine ⟨by omega, fun r' n' hr hn => ?_⟩
   have h3 := Nat.mul_le_mul_right (zAk [] g.nodes 0 + 1) (show r' + 1 <= zDd g.nodes.length rt from hr)
   rw [Nat.succ_mul] at h3
   omega
  have ky4 := Hid.mk ((kl.out.trans (Ky.grow G2)).trans (Ky.but p4 os2 (by decide)))
  clear os2 o3' p4 o4 S2 hB hB2 S4 hsub hwm hm w2 S hlw
  have hxo : (true ^^ true) = false := rfl
  have hxo2 : (true ^^ false) = true := rfl
  repeat with_reducible first | refine zAA ?_ | refine zAE ?_ | refine zAD ?_ | refine zBz ?_ | (apply st_q; exact q1)
  refine st_q (v := .ptr (some (b3, 0))) (b := none) (by rw [zBI]; simp only [zBE, zBS, zBV, Nat.reduceEqDiff, if_true, if_false]; rfl) ?_
  repeat with_reducible (apply st_q; exact q1)
  refine st_q (v := .ptr (some (b3, 1))) (b := none) (by rw [zBI]; simp only [zBE, zBS, zBV, Nat.reduceEqDiff, if_true, if_false]; rfl) ?_
  repeat with_reducible (apply st_q; exact q1)
  refine zAb (by exact s1) (hjoin.out.mono ?_)
  rintro _ h5 ⟨G5, ky5, ⟨rfl, on', rk', rt', has', ws', K', wv', hc', S5, hdec⟩ | ⟨hE, hnc⟩⟩
  ·have S5' := Hid.mk S5
   have ky5' := Hid.mk (ky4.out.trans ky5)
   clear ky5
   have hdec' : Hid (zDd g.nodes.length rt' * (zAk [] g.nodes 0 + 1) + ws'.length < m) := by
    rcases hdec with ⟨rfl, rfl⟩ | ⟨h1, h2⟩
    ·exact ⟨hmm.out.1⟩
    ·exact ⟨hmm.out.2 _ _ h1 h2⟩
   clear S5 hdec hjoin
   repeat with_reducible first | refine zAA ?_ | refine zAQ ?_ | refine zAC ?_ | refine zAE ?_ | refine zAD ?_ | refine zAT ?_ | (apply st_q; exact q1) | (apply zAL; exact e1)
   exact ⟨_, hdec'.out, on', rk', rt', has', ws', K', wv', hc', S5', ⟨rfl, by have := hdec'.out; have := hwb.out; omega⟩, ky5', by exact n1, by exact e1⟩
  ·have hE' := Hid.mk hE
   have ky5' := Hid.mk (ky4.out.trans ky5)
   clear ky5
   have hnc' := Hid.mk hnc
   obtain ⟨bj, vj, be, ve, vs, b1, b2, rfl, _⟩ := hE
   clear hnc hjoin
   repeat' with_reducible first | refine zAA ?_ | refine zAa ?_ | refine zBP ?_ | refine zAC ?_ | refine zAE ?_ | refine zAD ?_ | refine zAO ?_ | (apply st_q; exact q1) | (apply zAJ; exact e1) | (apply zAI; exact n1; exact r1)
   exact ⟨G5, ky5'.out, .inr ⟨hE'.out, hnc'.out⟩⟩
end
end Go.Ab.S
end
