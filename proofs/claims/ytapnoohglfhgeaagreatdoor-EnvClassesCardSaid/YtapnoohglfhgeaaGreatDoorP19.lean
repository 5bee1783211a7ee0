import Derived.Test.YtapnoohglfhgeaaGreatDoorP16
import Derived.Test.YtapnoohglfhgeaaGreatDoorP18
/-
  Part 19 of the proof.
-/
set_option linter.all false
section
/-
  Going through a map, in whatever order; what is there from the start.
-/
namespace Go.Ab.S
open Go.Ab
set_option maxHeartbeats 4000000
section
variable {fns : FuncId → Option AFunc} {summ : FuncId → List AVal → AHeap → Option (D (AVal × AHeap))} {ro : Option Nat}
theorem st_range {d : Option Tmp} {x : AOpd} {l : List Step} {a : AAct} {h : AHeap} {K : AAct → AHeap → Prop} {r ver c : Nat} {es : List (AVal × AVal × Nat)} (hx : ev a x = some (.map (some r))) (hr : h.objs.get r = some (ver, .map es c)) (w : WF h)
    (k : ∀ b h', h.next ≤ b → Grow h h' → h'.objs.get b = some (b, .iter r c [] c) → St fns summ ro l (putA a d (.ptr (some (b, 0)))) h' K) : St fns summ ro (⟨d, none, .e (.range x)⟩ :: l) a h K :=
  st_t (by intro _ _ hh; cases hh) (by intro _ _ hh; cases hh) (v := .ptr (some (h.next, 0))) (h' := newA h (.iter r c [] c)) (by simp only [turnA, hx, hr]) (k _ _ (Nat.le_refl _) ((Grow.refl w).new _) (zAQ _ _))
theorem st_next {d : Option Tmp} {x : AOpd} {l : List Step} {a : AAct} {h : AHeap} {K : AAct → AHeap → Prop} {b r ver verr c : Nat} {seen : List Nat} {es : List (AVal × AVal × Nat)} (hx : ev a x = some (.ptr (some (b, 0)))) (hb : h.objs.get b = some (ver, .iter r c seen c)) (hr : h.objs.get r = some (verr, .map es c)) (hes : ∀ e ∈ es, e.2.2 < c) (w : WF h)
    (k0 : (∀ e ∈ es, e.2.2 ∈ seen) → St fns summ ro l (putA a d (.tuple [.bool false])) h K)
    (k1 : ∀ e ∈ es, e.2.2 ∉ seen → ∀ ver' h', But b h h' → h'.objs.get b = some (ver', .iter r c (seen ++ [e.2.2]) c) → St fns summ ro l (putA a d (.tuple [.bool true, e.1, e.2.1])) h' K) : St fns summ ro (⟨d, none, .e (.next x)⟩ :: l) a h K := by
  refine st_e (ex_turns (by intro _ _ hh; cases hh) (by intro _ _ hh; cases hh) ?_)
  have hall : es.all (fun e => Nat.blt e.2.2 c) = true := List.all_eq_true.2 fun e he => by simpa using hes e he
  simp only [turnA, hx, hb, hr, hall, and_self, if_true]
  have hmem : ∀ e, e ∈ es.filter (fun e => !seen.contains e.2.2) ↔ e ∈ es ∧ e.2.2 ∉ seen := fun e => by simp
  generalize es.filter (fun e => !seen.contains e.2.2) = left at hmem
  cases left with
  | nil =>
    refine k0 fun e he => ?_
    by_cases hs : e.2.2 ∈ seen
    · exact hs
    · exact absurd ((hmem e).2 ⟨he, hs⟩) (by simp)
  | cons y rest =>
    refine ⟨by simp, fun i hi => ?_⟩
    obtain ⟨k, v, born⟩ : AVal × AVal × Nat := (y :: rest)[i]
    have hi' : i < (y :: rest).length := hi
    obtain ⟨e, he⟩ : ∃ e, (y :: rest)[i]? = some e := ⟨_, List.getElem?_eq_getElem hi'⟩
    obtain ⟨m1, m2⟩ := (hmem e).1 (List.mem_of_getElem? he)
    simp only [he]
    exact k1 e m1 m2 _ _ (but_put w hb _) (zAR _ _ _)
theorem st_entry {d : Option Tmp} {x : AOpd} {l : List Step} {a : AAct} {h : AHeap} {K : AAct → AHeap → Prop} {b r ver verr c s : Nat} {seen : List Nat} {es : List (AVal × AVal × Nat)} {k v : AVal} {n : Nat} (hx : ev a x = some (.ptr (some (b, 0)))) (hb : h.objs.get b = some (ver, .iter r c (seen ++ [s]) c)) (hr : h.objs.get r = some (verr, .map es c)) (hf : es.find? (fun e => Nat.beq e.2.2 s) = some (k, v, n))
    (kk : St fns summ ro l (putA a d (.tuple [k, v])) h K) : St fns summ ro (⟨d, none, .e (.entry x)⟩ :: l) a h K :=
  st_t (by intro _ _ hh; cases hh) (by intro _ _ hh; cases hh) (v := .tuple [k, v]) (h' := h) (by
    have hl : (seen ++ [s]).getLast? = some s := by simp
    simp only [turnA, hx, hb, hr, hl, if_true, hf]) kk
end
/-! ### What lies in cells stays if they do -/
def CellsKeep (h h' : AHeap) : Prop := ∀ c ver ro e vs, h.objs.get c = some (ver, .cells ro e vs) → h'.objs.get c = some (ver, .cells ro e vs)
section
variable {h h' : AHeap} (ck : CellsKeep h h')
include ck
theorem sl_stay {sz : Nat} {v : AVal} {xs : List (List AVal)} (k : SlAt h sz v xs) : SlAt h' sz v xs :=
  ⟨k.1, fun i x hx => by obtain ⟨h1, b, o, ver, ro, e, vs, h2, h3, h4⟩ := k.2 i x hx; exact ⟨h1, b, o, ver, ro, e, vs, h2, ck _ _ _ _ _ h3, h4⟩⟩
theorem nodes_stay {v : AVal} {l : List Node} (k : NodesAt h v l) : NodesAt h' v l := by
  obtain ⟨cs, h1, h2, h3⟩ := k
  exact ⟨cs, sl_stay ck h1, h2, fun i n c hn hc => by obtain ⟨av, lv, q1, q2, q3⟩ := h3 i n c hn hc; exact ⟨av, lv, q1, sl_stay ck q2, sl_stay ck q3⟩⟩
theorem val_stay {v : AVal} {o : Option Graph} (k : ValAt h v o) : ValAt h' v o := by
  cases o with
  | none => exact k
  | some x => obtain ⟨b, ver, ro, e, nv, h1, h2, h3⟩ := k; exact ⟨b, ver, ro, e, nv, h1, ck _ _ _ _ _ h2, nodes_stay ck h3⟩
theorem cd_stay {v : AVal} {o : Option CDef} (k : CDAt h v o) : CDAt h' v o := by
  cases o with
  | none => exact k
  | some x => obtain ⟨b, ver, ro, e, nv, cv, vv, h1, h2, h3, h4, h5⟩ := k; exact ⟨b, ver, ro, e, nv, cv, vv, h1, ck _ _ _ _ _ h2, nodes_stay ck h3, sl_stay ck h4, sl_stay ck h5⟩
theorem env_stay : ∀ {l : List Mean} {v : AVal}, EnvAt h v l → EnvAt h' v l
  | [], _, k => k
  | _ :: _, _, ⟨b, ver, ro, e, pv, pc, pa, h1, h2, h3, h4, h5⟩ => ⟨b, ver, ro, e, pv, pc, pa, h1, ck _ _ _ _ _ h2, val_stay ck h3, cd_stay ck h4, env_stay h5⟩
end
/-! ### What is there from the start -/
def nF : List Nat := [102, 115, 116]
def nS : List Nat := [115, 110, 100]
def nN : List Nat := [110, 111, 116]
def tF : List Nat := [39, 97, 32, 42, 32, 39, 98, 32, 45, 62, 32, 39, 97]
def tS : List Nat := [39, 97, 32, 42, 32, 39, 98, 32, 45, 62, 32, 39, 98]
def tN : List Nat := [98, 111, 111, 108, 32, 45, 62, 32, 98, 111, 111, 108]
def varN : Node := ⟨1, [], [], [], false⟩
def boolN : Node := ⟨2, [98, 111, 111, 108], [], [], false⟩
def gF : Graph := ⟨[⟨2, [45, 62], [1, 2], [], false⟩, ⟨2, [42], [2, 3], [], false⟩, varN, varN], 0⟩
def gS : Graph := ⟨[⟨2, [45, 62], [1, 3], [], false⟩, ⟨2, [42], [2, 3], [], false⟩, varN, varN], 0⟩
def gN : Graph := ⟨[⟨2, [45, 62], [1, 2], [], false⟩, boolN, boolN], 0⟩
structure HasRead (summ : FuncId → List AVal → AHeap → Option (D (AVal × AHeap))) : Prop where
  read : ∀ s G, (s, G) ∈ [(tF, gF), (tS, gS), (tN, gN)] → ∀ h, WF h → ∃ v h', summ 25 [.str s] h = some (.ret (.tuple [v, .int .i64 0], h')) ∧ GraphAt h' v G ∧ Grow h h'
theorem tiny_of {g : Graph} (h1 : g.nodes.length + leftG [] g.nodes 0 ≤ 4096) (h2 : ∀ n ∈ g.nodes, n.labels.length ≤ 4096 ∧ ∀ s ∈ n.labels, s.length < 2 ^ 60) : GTi g := by
  have e30 : (2 : Nat) ^ 30 = 1073741824 := by decide
  have e60 : (2 : Nat) ^ 60 = 1152921504606846976 := by decide
  refine ⟨⟨⟨by omega, fun n hn => ⟨?_, ?_, (h2 n hn).2⟩⟩, by omega, fun n hn => ?_⟩, h1⟩
  · have := leftG_one g.nodes 0 n hn; omega
  · have := (h2 n hn).1; omega
  · have := (h2 n hn).1; omega
theorem tiny_F : GTi gF := tiny_of (by decide) (by decide)
theorem tiny_S : GTi gS := tiny_of (by decide) (by decide)
theorem tiny_N : GTi gN := tiny_of (by decide) (by decide)
theorem ok_F : zAT gF = 0 := by decide
theorem ok_S : zAT gS = 0 := by decide
theorem ok_N : zAT gN = 0 := by decide
def startEs : List (AVal × AVal × Nat) := [(.str nF, .str tF, 0), (.str nS, .str tS, 1), (.str nN, .str tN, 2)]
def startM (i : Nat) : Mean := match i with
  | 0 => ⟨nF, some (leastF gF), none⟩
  | 1 => ⟨nS, some (leastF gS), none⟩
  | _ => ⟨nN, some (leastF gN), none⟩
def baseM : Mean := ⟨[], none, none⟩
theorem three_most : ∀ {l : List Nat}, l.Nodup → (∀ i ∈ l, i < 3) → l.length ≤ 3
  | [], _, _ => by simp
  | [_], _, _ => by simp
  | [_, _], _, _ => by simp
  | [_, _, _], _, _ => by simp
  | a :: b :: c :: d :: r, hn, h => by
    have h1 := h a (by simp)
    have h2 := h b (by simp)
    have h3 := h c (by simp)
    have h4 := h d (by simp)
    simp only [List.nodup_cons, List.mem_cons, not_or] at hn
    omega
/-- What New may make: the three in some order. -/
def NewL (L : List Mean) : Prop := ∃ seen : List Nat, seen.Nodup ∧ (∀ i, i ∈ seen ↔ i < 3) ∧ L = seen.reverse.map startM ++ [baseM]
section
variable {fns : FuncId → Option AFunc} {summ : FuncId → List AVal → AHeap → Option (D (AVal × AHeap))}
variable (H : Has fns summ)
include H
theorem estart_ok (h : AHeap) (hw : WF h) : Cl fns summ 26 [] h fun v h' => ∃ r ver, v = .map (some r) ∧ h.next ≤ r ∧ h'.objs.get r = some (ver, .map startEs 3) ∧ Grow h h' := by
  refine H.go (fn := F_estart) rfl (by decide) rfl rfl ?_
  unfold F_estart
  dsimp only [qQ, qE, qN, gQ, gE, vi]
  repeat with_reducible first | refine zAA ?_ | refine zAB ?_ | refine zAC ?_ | refine zAD ?_ | (apply st_q; exact q1)
  refine st_T (by exact tE) (by exact t1) ?_
  iterate 3 refine st_upd_new (by exact e1) (by exact e1) (by exact e1) (by intro hh; cases hh) rfl (by simp only [zAQ, zAR]; rfl) rfl ?_
  repeat' with_reducible first | refine zAA ?_ | refine zAB ?_ | refine zAG ?_ | (apply st_q; exact q1) | (apply zAE; exact n1; exact r1)
  refine ⟨_, _, rfl, Nat.le_refl _, zAR _ _ _, ?_⟩
  have g := (Grow.refl hw).new (.map [] 0)
  have hp := fun (h1 : AHeap) (o : AObj) (gg : Grow h h1) (hl : h.next < h1.next) => gg.put hw (id := h.next) o (Nat.le_refl _) hl
  refine hp _ _ (hp _ _ (hp _ _ g ?_) ?_) ?_ <;> simp only [new_next, put_next] <;> omega
end
section
variable {fns : FuncId → Option AFunc} {summ : FuncId → List AVal → AHeap → Option (D (AVal × AHeap))}
variable (H : Has fns summ) (HR : HasRead summ)
include H HR
theorem EnvNew_ok (h : AHeap) (hw : WF h) : Cl fns summ 9 [] h fun r h' => (∃ b L, r = .ptr (some (b, 0)) ∧ NewL L ∧ EnvAt h' r L) ∧ Grow h h' := by
  refine H.go (fn := F_EnvNew) rfl (by decide) rfl rfl ?_
  unfold F_EnvNew
  dsimp only [qQ, qE, qN, gQ, gE, vi]
  repeat with_reducible first | refine zAA ?_ | refine zAB ?_ | refine zAC ?_ | refine zAD ?_ | (apply st_q; exact q1)
  refine st_box (by exact e1) (by exact cc) hw ?_
  rintro b0 h1 hb0 g1' o1
  repeat with_reducible first | refine zAA ?_ | refine zAB ?_ | refine zAC ?_ | refine zAD ?_ | (apply st_q; exact q1)
  refine zAS (by exact s1) ((estart_ok H h1 g1'.wf).mono ?_)
  rintro _ h2 ⟨r, ver, rfl, hr, orr, g2⟩
  skip
  have g02 := g1'.trans g2
  have w2 := g2.wf
  have lr := g2.wf.lt orr
  refine st_range (by exact e1) orr g2.wf ?_
  rintro bi h3 hbi g3 oi
  have orr3 := g3.keep _ _ orr
  have hE0 : EnvAt h3 (.ptr (some (b0, 0))) [baseM] := ⟨b0, _, _, _, _, _, _, rfl, g3.keep _ _ (g2.keep _ _ o1), rfl, rfl, rfl⟩
  clear o1 orr3
  repeat with_reducible first | refine zAA ?_ | refine zAB ?_
  with_reducible refine cd_block ?_
  refine cd_loop (fun m a hp => ∃ (seen : List Nat) (bv : Nat), m + seen.length = 3 ∧ seen.Nodup ∧ (∀ i ∈ seen, i < 3) ∧ Grow h2 hp ∧ (∃ ver, hp.objs.get bi = some (ver, .iter r 3 seen 3)) ∧ EnvAt hp (.ptr (some (bv, 0))) (seen.reverse.map startM ++ [baseM]) ∧ a.defers = [] ∧ ev a (.tmp 1) = some (.ptr (some (bv, 0))) ∧ ev a (.tmp 9) = some (.ptr (some (bi, 0)))) ?_ (n := 3)
    ⟨[], b0, rfl, List.nodup_nil, fun i hi => (by cases hi), g3, ⟨_, oi⟩, hE0, by exact n1, by exact e1, by exact e1⟩
  clear hE0 oi g3
  rintro m a hp ⟨seen, bv, hm, hnd, hlt, gp, ⟨vi, oi⟩, hE, hd, e1', e9'⟩
  have orp := gp.keep _ _ orr
  have hes : ∀ e ∈ startEs, e.2.2 < 3 := by decide
  repeat with_reducible first | refine zAC ?_ | refine zAD ?_
  refine st_next (by exact e1) oi orp hes gp.wf (fun hall => ?_) fun e he hns ver' h4 p4 o4 => ?_
  · have hN : NewL (seen.reverse.map startM ++ [baseM]) := ⟨seen, hnd, fun i => ⟨hlt i, fun hi => by
      have h0 := hall _ (show (.str nF, .str tF, 0) ∈ startEs by simp [startEs])
      have h1 := hall _ (show (.str nS, .str tS, 1) ∈ startEs by simp [startEs])
      have h2 := hall _ (show (.str nN, .str tN, 2) ∈ startEs by simp [startEs])
      rcases (by omega : i = 0 ∨ i = 1 ∨ i = 2) with rfl | rfl | rfl
      · exact h0
      · exact h1
      · exact h2⟩, rfl⟩
    replace hN := Hid.mk hN
    clear hall hes oi orp
    repeat' with_reducible first | refine zAA ?_ | refine nxt_exit ?_ | refine blk_same ?_ | refine zAB ?_ | refine zAC ?_ | refine zAD ?_ | refine cd_exit ?_ | refine zAG ?_ | (apply st_q; exact q1) | (apply zAI; exact e1) | (apply zAE; exact n1; exact r1)
    exact ⟨⟨bv, _, rfl, hN.out, hE⟩, g02.trans gp⟩
  · obtain ⟨i, s, t, G, rfl, hi3, hread, hM, tG, cG, hfind⟩ : ∃ (i : Nat) (s t : List Nat) (G : Graph), e = (.str s, .str t, i) ∧ i < 3 ∧ (t, G) ∈ [(tF, gF), (tS, gS), (tN, gN)] ∧ startM i = ⟨s, some (leastF G), none⟩ ∧ GTi G ∧ zAT G = 0 ∧ startEs.find? (fun e => Nat.beq e.2.2 i) = some (.str s, .str t, i) := by
      simp only [startEs, List.mem_cons, List.not_mem_nil, or_false] at he
      rcases he with rfl | rfl | rfl
      · exact ⟨0, nF, tF, gF, rfl, by decide, by simp, rfl, tiny_F, ok_F, rfl⟩
      · exact ⟨1, nS, tS, gS, rfl, by decide, by simp, rfl, tiny_S, ok_S, rfl⟩
      · exact ⟨2, nN, tN, gN, rfl, by decide, by simp, rfl, tiny_N, ok_N, rfl⟩
    have g4 : Grow h2 h4 := p4.grow h2 w2 gp (by omega)
    have or4 := g4.keep _ _ orr
    have hE4 : EnvAt h4 (.ptr (some (bv, 0))) (seen.reverse.map startM ++ [baseM]) := env_stay (fun c ver ro e vs hc => p4.keep c (by rintro rfl; rw [oi] at hc; cases hc) _ hc) hE
    replace hread := Hid.mk hread
    replace hM := Hid.mk hM
    replace tG := Hid.mk tG
    replace cG := Hid.mk cG
    replace hfind := Hid.mk hfind
    replace hns := Hid.mk hns
    clear hE oi orp hes he p4
    simp only at o4 hns
    repeat with_reducible first | refine zAA ?_ | refine zAB ?_ | refine zAC ?_ | refine zAD ?_ | refine zAK ?_ | refine zAL ?_ | (apply st_q; exact q1) | (apply zAF; exact e1)
    refine st_entry (by exact e1) o4 or4 hfind.out ?_
    repeat with_reducible first | refine zAA ?_ | refine zAB ?_ | refine zAC ?_ | refine zAD ?_ | (apply st_q; exact q1)
    obtain ⟨rv, h5, hr5, hG5, g5⟩ := HR.read t G hread.out h4 g4.wf
    refine zAS (by exact s1) (cl_summ hr5 ?_)
    rw [D.sat_ret]
    obtain ⟨rn, rfl, hN5⟩ := hG5
    have hone := one_of_len hN5.len
    have o5 := g5.keep _ _ o4
    have hE5 := hE4.mono g5
    clear hr5 o4 hE4 or4
    repeat with_reducible (apply st_q; exact q1)
    refine st_alloc g5.wf ?_
    rintro b4 h6 hb4 g6 o6
    refine zAP (by exact e1) (by exact e1) (cs := [rn, .int .i64 G.root]) rfl rfl g6.wf o6 (by simp) (by rw [List.all_cons, List.all_cons, hone]; rfl) ?_
    rintro v7 h7 p7 o7
    simp only [List.take_zero, List.nil_append, List.length_cons, List.length_nil, List.drop_succ_cons, List.drop_zero, List.append_nil, Nat.zero_add, Nat.reduceAdd, List.drop_nil, List.cons_append] at o7
    have g57 := p7.grow h5 g5.wf g6 hb4
    have oi7 := g57.keep _ _ o5
    have hN7 := hN5.mono g57
    have hp7 : partA (some 2) [rn, .int .i64 G.root] 0 = some (.agg [rn, .int .i64 G.root]) := rfl
    have ht2 : ∀ x y : AVal, List.take 2 [x, y] = [x, y] := fun _ _ => rfl
    have n57 := g57.next
    have l6 := g6.wf.lt o6
    clear o5 hN5 o6 g6
    repeat with_reducible first | refine zAA ?_ | refine zAB ?_ | refine zAC ?_ | refine zAD ?_ | (apply st_q; exact q1)
    refine zAS (by exact s1) ((Least_ok H G tG.out cG.out _ h7 g57.wf ⟨rn, rfl, hN7⟩).mono ?_)
    rintro lv h8 ⟨hO, g8⟩
    have hO' := Hid.mk hO
    obtain ⟨ln, cs, rfl, kB, kl, kn⟩ := hO
    have hln := one_of_len kB.len
    have o78 := g8.keep _ _ o7
    have oi8 := g8.keep _ _ oi7
    have l7 := g57.wf.lt o7
    have li7 := g57.wf.lt oi7
    clear kB kl kn o7 oi7 hN7
    skip
    refine zAP (by exact e1) (by exact e1) (cs := [ln, .int .i64 (leastF G).root]) rfl rfl g8.wf o78 (by simp) (by rw [List.all_cons, List.all_cons, hln]; rfl) ?_
    rintro v9 h9 p9 o9
    simp only [List.take_zero, List.nil_append, List.length_cons, List.length_nil, List.drop_succ_cons, List.drop_zero, List.append_nil, Nat.zero_add, Nat.reduceAdd, List.drop_nil, List.cons_append] at o9
    have g59 : Grow h5 h9 := p9.grow h5 g5.wf (g57.trans g8) hb4
    have hO9 := (hO'.out.stay fun c p hcb hp _ => p9.keep c (by omega) _ hp).graph
    have oi9 := p9.keep bi (by rintro rfl; rw [o78] at oi8; cases oi8) _ oi8
    have hE9 := hE5.mono g59
    have g29 : Grow h2 h9 := (g4.trans g5).trans g59
    clear o78 oi8 hE5 hO'
    obtain ⟨ln', hq, hLN⟩ := hO9
    cases hq
    have hln3 : seen.length < 3 := by
      have h1 : (seen ++ [i]).Nodup := by
        rw [List.nodup_append]
        exact ⟨hnd, by simp, fun a ha b hb => by simp only [List.mem_singleton] at hb; subst hb; rintro rfl; exact hns.out ha⟩
      have h2 := three_most h1 fun j hj => by
        rcases List.mem_append.1 hj with hj | hj
        · exact hlt j hj
        · rw [List.mem_singleton.1 hj]; exact hi3
      rw [List.length_append, List.length_singleton] at h2
      omega
    repeat with_reducible first | refine zAA ?_ | refine zAB ?_ | refine zAD ?_ | (apply st_q; exact q1)
    refine st_q (v := .agg [.str s, .ptr (some (b4, 0)), .ptr none, .ptr (some (bv, 0))]) (b := none) (by rw [qA_build]; simp only [fillA, ev_put, ev_none, ev_val, if_true, if_false, Nat.reduceEqDiff, cellsA, e1']; rfl) ?_
    refine st_box (by exact e1) (by exact cc) g29.wf ?_
    rintro bz h10 hbz g10 o10
    have hEz : EnvAt h10 (.ptr (some (bz, 0))) ((seen ++ [i]).reverse.map startM ++ [baseM]) := by
      rw [List.reverse_append, List.reverse_singleton, List.singleton_append, List.map_cons, hM.out]
      exact ⟨bz, _, _, _, _, _, _, rfl, o10, ⟨b4, _, _, _, ln, rfl, g10.keep _ _ o9, hLN.mono g10⟩, rfl, hE9.mono g10⟩
    have oi10 := g10.keep _ _ oi9
    have hnd' : (seen ++ [i]).Nodup := by
      rw [List.nodup_append]
      exact ⟨hnd, by simp, fun a ha b hb => by simp only [List.mem_singleton] at hb; subst hb; rintro rfl; exact hns.out ha⟩
    have hlt' : ∀ j ∈ seen ++ [i], j < 3 := fun j hj => by
      rcases List.mem_append.1 hj with hj | hj
      · exact hlt j hj
      · rw [List.mem_singleton.1 hj]; exact hi3
    replace hEz := Hid.mk hEz
    replace hnd' := Hid.mk hnd'
    replace hlt' := Hid.mk hlt'
    clear o9 oi9 hLN hE9 o10
    repeat with_reducible first | refine zAA ?_ | refine zAJ ?_ | refine zAB ?_ | (apply st_q; exact q1)
    exact ⟨m - 1, by omega, seen ++ [i], bz, by rw [List.length_append, List.length_singleton]; omega, hnd'.out, hlt'.out, g29.trans g10, ⟨_, oi10⟩, hEz.out, by exact n1, by exact e1, by exact e1⟩
end
end Go.Ab.S
end
section
/-
  Names, rising: a map's keys in whatever order, sorted.
-/
namespace Go.Ab.S
open Go.Ab
set_option maxHeartbeats 4000000
def ksE : Nat → List (List Nat) → List (AVal × AVal × Nat)
  | _, [] => []
  | i, a :: r => (.str a, .bool true, i) :: ksE (i + 1) r
theorem ksE_put : ∀ (l : List (List Nat)) (i : Nat) (a : List Nat), ksE i (l ++ [a]) = ksE i l ++ [(.str a, .bool true, i + l.length)]
  | [], i, a => rfl
  | b :: l, i, a => by
    simp only [List.cons_append, ksE, ksE_put l (i + 1) a, List.length_cons, show i + 1 + l.length = i + (l.length + 1) by omega]
theorem ksE_find (a : List Nat) : ∀ (l : List (List Nat)) (i j : Nat), findA .str (.str a) (ksE i l) j = some (if l.contains a then some (j + l.idxOf a, .bool true) else none)
  | [], _, _ => rfl
  | b :: l, i, j => by
    simp only [ksE, findA, keyA, eqL_eq]
    by_cases h : a = b
    · subst h; simp
    · have h1 : (a == b) = false := by simpa using h
      have h2 : (b == a) = false := by simpa using Ne.symm h
      have ih := ksE_find a l (i + 1) (j + 1)
      rw [h1]
      simp only [ih, List.contains_cons, h1, Bool.false_or, List.idxOf_cons, h2, cond_false]
      split
      · congr 2
        exact Prod.ext (by simp; omega) rfl
      · rfl
theorem ksE_set : ∀ (l : List (List Nat)) (i k : Nat), setVal (ksE i l) k (.bool true) = ksE i l
  | [], _, _ => rfl
  | _ :: _, _, 0 => rfl
  | _ :: l, i, k + 1 => by simp only [ksE, setVal, ksE_set l (i + 1) k]
theorem ksE_mem : ∀ {l : List (List Nat)} {i : Nat} {e : AVal × AVal × Nat}, e ∈ ksE i l → ∃ k, ∃ hk : k < l.length, e = (.str l[k], .bool true, i + k)
  | a :: l, i, e, h => by
    simp only [ksE, List.mem_cons] at h
    rcases h with rfl | h
    · exact ⟨0, by simp, rfl⟩
    · obtain ⟨k, hk, rfl⟩ := ksE_mem h
      exact ⟨k + 1, by simpa using hk, by simp only [List.getElem_cons_succ]; congr 2; omega⟩
theorem ksE_at : ∀ {l : List (List Nat)} {i k : Nat} (hk : k < l.length), (ksE i l).find? (fun e => Nat.beq e.2.2 (i + k)) = some (.str l[k], .bool true, i + k)
  | a :: l, i, 0, _ => by simp [ksE, List.find?]
  | a :: l, i, k + 1, hk => by
    have hne : Nat.beq i (i + (k + 1)) = false := by
      cases h : Nat.beq i (i + (k + 1))
      · rfl
      · have := Nat.eq_of_beq_eq_true h; omega
    have ih := ksE_at (l := l) (i := i + 1) (k := k) (by simpa using hk)
    rw [show i + 1 + k = i + (k + 1) by omega] at ih
    simp only [ksE, List.find?, hne]
    exact ih
theorem ksE_in : ∀ {l : List (List Nat)} {i k : Nat} (hk : k < l.length), (.str l[k], .bool true, i + k) ∈ ksE i l
  | a :: l, i, 0, _ => by simp [ksE]
  | a :: l, i, k + 1, hk => by
    have := ksE_in (l := l) (i := i + 1) (k := k) (by simpa using hk)
    rw [show i + 1 + k = i + (k + 1) by omega] at this
    simp only [ksE, List.getElem_cons_succ]
    exact List.mem_cons_of_mem _ this
theorem nat_most : ∀ {n : Nat} {l : List Nat}, l.Nodup → (∀ i ∈ l, i < n) → l.length ≤ n
  | 0, [], _, _ => Nat.le_refl _
  | 0, a :: l, _, h => absurd (h a (by simp)) (by omega)
  | n + 1, l, hn, h => by
    have h1 := nat_most (n := n) (l := l.erase n) (hn.erase n) fun i hi => by
      have := (List.Nodup.mem_erase_iff hn).1 hi
      have := h i this.2
      omega
    by_cases hm : n ∈ l
    · rw [List.length_erase_of_mem hm] at h1; omega
    · rw [List.erase_of_not_mem hm] at h1; omega
/-- A set of names. -/
def SetAt (h : AHeap) (r : Nat) (ks : List (List Nat)) : Prop := ∃ ver, h.objs.get r = some (ver, .map (ksE 0 ks) ks.length)
def sortL (l : List (List Nat)) : List (List Nat) := l.mergeSort fun x y => !lessL y x
structure HasSort (summ : FuncId → List AVal → AHeap → Option (D (AVal × AHeap))) : Prop where
  none : ∀ h, summ 37 [.slice none 0] h = some (.ret (.tuple [], h))
  zero : ∀ h, summ 37 [.slice0] h = some (.ret (.tuple [], h))
  some : ∀ (l : List (List Nat)), (∀ s ∈ l, ∀ c ∈ s, c < 256) → l.length ≤ 2 ^ 31 → ∀ h b ver vs, WF h → h.objs.get b = some (ver, .cells false 9 vs) → l.length ≤ vs.length → vs.take l.length = l.map AVal.str →
    summ 37 [.slice (some (b, 0)) l.length] h = some (.ret (.tuple [], putObjA h b (.cells false 9 ((sortL l).map AVal.str ++ vs.drop l.length))))
section
variable {fns : FuncId → Option AFunc} {summ : FuncId → List AVal → AHeap → Option (D (AVal × AHeap))}
variable (H : Has fns summ)
include H
theorem MKeys_ok (rm : Nat) (h : AHeap) (hw : WF h) : Cl fns summ 68 [.map (some rm)] h fun r h' => ∃ b ver, r = .func 101 [] [.ptr (some (b, 0))] ∧ h.next ≤ b ∧ h'.objs.get b = some (ver, .cells false 117 [.map (some rm)]) ∧ Grow h h' := by
  refine H.go (fn := F_MKeys) rfl (by decide) rfl rfl ?_
  unfold F_MKeys
  dsimp only [qQ, qE, qN, gQ, gE, vi]
  refine zAC (zAD ?_)
  refine st_box (by exact e1) (by exact cc) hw ?_
  rintro b h1 hb g1 o1
  repeat' with_reducible first | refine zAA ?_ | refine zAB ?_ | refine zAC ?_ | refine zAD ?_ | refine zAG ?_ | (apply st_q; exact q1) | (apply zAE; exact n1; exact r1)
  exact ⟨b, _, rfl, hb, o1, g1⟩
/-- Each key is handed on, in whatever order. -/
theorem MKeys1_ok (ks : List (List Nat)) (rm bk : Nat) (h0 : AHeap) (hbk : ∃ ver ro e, h0.objs.get bk = some (ver, .cells ro e [.map (some rm)])) (hrm : SetAt h0 rm ks) (y : AVal) (P : List Nat → AHeap → Prop) (hP : ∀ s h, P s h → Grow h0 h)
    (hst : ∀ s h h' bi, P s h → (h.next ≤ bi ∨ ∃ ver r c q d, h.objs.get bi = some (ver, .iter r c q d)) → h0.next ≤ bi → (∀ c p, h.objs.get c = some p → c ≠ bi → h'.objs.get c = some p) → WF h' → h.next ≤ h'.next → P s h')
    (hy : ∀ s h (i : Nat) (hi : i < ks.length), P s h → s.Nodup → i ∉ s → s.length < ks.length → Cv fns summ y [.str ks[i]] h fun r h' => r = .bool true ∧ P (s ++ [i]) h' ∧ ∀ c ver r a b d, h.objs.get c = some (ver, .iter r a b d) → h'.objs.get c = some (ver, .iter r a b d))
    (h : AHeap) (hI : P [] h) : Cl fns summ 101 [y, .ptr (some (bk, 0))] h fun _ h' => ∃ s, s.Nodup ∧ (∀ i, i ∈ s ↔ i < ks.length) ∧ P s h' := by
  obtain ⟨verk, rok, ek, obk⟩ := hbk
  obtain ⟨verm, orm⟩ := hrm
  refine H.go (fn := F_MKeys1) rfl (by decide) rfl rfl ?_
  unfold F_MKeys1
  dsimp only [qQ, qE, qN, gQ, gE, vi]
  have obk' := (hP _ _ hI).keep _ _ obk
  have orm' := (hP _ _ hI).keep _ _ orm
  repeat with_reducible first | refine zAC ?_ | refine zAD ?_ | (apply st_q; exact q1)
  refine st_range (by exact e1) orm' (hP _ _ hI).wf ?_
  rintro bi h1 hbi g1 oi
  have hbi0 : h0.next ≤ bi := Nat.le_trans (hP _ _ hI).next hbi
  have hI1 : P [] h1 := hst _ _ _ bi hI (.inl hbi) hbi0 (fun c p hc _ => g1.keep _ _ hc) g1.wf g1.next
  clear hI obk' orm' g1
  repeat with_reducible first | refine zAA ?_ | refine zAB ?_
  with_reducible refine cd_block ?_
  refine cd_loop (fun m a hp => ∃ s : List Nat, m + s.length = ks.length ∧ s.Nodup ∧ (∀ i ∈ s, i < ks.length) ∧ P s hp ∧ (∃ ver, hp.objs.get bi = some (ver, .iter rm ks.length s ks.length)) ∧ a.defers = [] ∧ ev a (.tmp 0) = some y ∧ ev a (.tmp 5) = some (.ptr (some (bi, 0)))) ?_ (n := ks.length)
    ⟨[], rfl, List.nodup_nil, fun i hi => (by cases hi), hI1, ⟨_, oi⟩, by exact n1, by exact e1, by exact e1⟩
  clear hI1 oi hbi
  rintro m a hp ⟨s, hm, hnd, hlt, hI, ⟨vi, oi⟩, hd, e0', e5'⟩
  have ormp := (hP _ _ hI).keep _ _ orm
  have wp := (hP _ _ hI).wf
  have hes : ∀ e ∈ ksE 0 ks, e.2.2 < ks.length := fun e he => by
    obtain ⟨k, hk, rfl⟩ := ksE_mem he
    show 0 + k < _
    omega
  repeat with_reducible first | refine zAC ?_ | refine zAD ?_
  refine st_next (by exact e1) oi ormp hes wp (fun hall => ?_) fun e he hns ver' h4 p4 o4 => ?_
  · have hfin : ∃ s : List Nat, s.Nodup ∧ (∀ i, i ∈ s ↔ i < ks.length) ∧ P s hp := ⟨s, hnd, fun i => ⟨hlt i, fun hi => by
      have := hall _ (ksE_in (i := 0) hi)
      simpa using this⟩, hI⟩
    clear hall hes oi ormp
    repeat with_reducible first | refine zAA ?_ | refine nxt_exit ?_ | refine blk_same ?_ | refine zAB ?_ | refine zAC ?_ | refine cd_exit ?_ | (apply st_q; exact q1) | (apply zAI; exact e1)
    refine fin_normal (by exact n1) (v := .tuple []) (by exact r1) hfin
  · obtain ⟨i, hi, rfl⟩ := ksE_mem he
    rw [Nat.zero_add] at hns o4
    simp only at hns o4
    have hI4 : P s h4 := hst _ _ _ bi hI (.inr ⟨_, _, _, _, _, oi⟩) hbi0 (fun c p hc hne => p4.keep c hne _ hc) (p4.wf wp) p4.next
    have orm4 := (hP _ _ hI4).keep _ _ orm
    have hfind := ksE_at (l := ks) (i := 0) hi
    rw [Nat.zero_add] at hfind
    have hlen : s.length < ks.length := by
      have h1 : (s ++ [i]).Nodup := by
        rw [List.nodup_append]
        exact ⟨hnd, by simp, fun a ha b hb => by simp only [List.mem_singleton] at hb; subst hb; rintro rfl; exact hns ha⟩
      have h2 := nat_most (n := ks.length) h1 fun j hj => by
        rcases List.mem_append.1 hj with hj | hj
        · exact hlt j hj
        · rw [List.mem_singleton.1 hj]; exact hi
      rw [List.length_append, List.length_singleton] at h2
      omega
    have hstep := Hid.mk (hy s h4 i hi hI4 hnd hns hlen)
    have hnd' : Hid ((s ++ [i]).Nodup) := ⟨by
        rw [List.nodup_append]
        exact ⟨hnd, by simp, fun a ha b hb => by simp only [List.mem_singleton] at hb; subst hb; rintro rfl; exact hns ha⟩⟩
    have hlt' : Hid (∀ j ∈ s ++ [i], j < ks.length) := ⟨fun j hj => by
        rcases List.mem_append.1 hj with hj | hj
        · exact hlt j hj
        · rw [List.mem_singleton.1 hj]; exact hi⟩
    replace hfind := Hid.mk hfind
    replace hns := Hid.mk hns
    clear he hes oi ormp hI p4
    repeat with_reducible first | refine zAA ?_ | refine zAB ?_ | refine zAC ?_ | refine zAD ?_ | refine zAK ?_ | refine zAL ?_ | (apply st_q; exact q1) | (apply zAF; exact e1)
    refine st_entry (by exact e1) o4 orm4 hfind.out ?_
    repeat with_reducible first | refine zAA ?_ | refine zAB ?_ | refine zAC ?_ | refine zAD ?_ | (apply st_q; exact q1)
    refine st_e (ex_call (by exact e1) (by exact s1) (hstep.out.mono ?_))
    rintro _ h5 ⟨rfl, hI5, hkeep⟩
    have o5 := hkeep _ _ _ _ _ _ o4
    clear hstep hkeep o4 orm4
    repeat with_reducible first | refine zAA ?_ | refine zAJ ?_ | refine zAB ?_ | refine zAL ?_ | (apply st_q; exact q1) | (apply zAI; exact e1)
    exact ⟨m - 1, by omega, s ++ [i], by rw [List.length_append, List.length_singleton]; omega, hnd'.out, hlt'.out, hI5, ⟨_, o5⟩, by exact n1, by exact e1, by exact e1⟩
end
end Go.Ab.S
end
section
/-
  Keys collected, and sorted.
-/
namespace Go.Ab.S
open Go.Ab
set_option maxHeartbeats 4000000
def pickK (ks : List (List Nat)) (s : List Nat) : List (List Nat) := s.map fun i => ks.getD i []
theorem pick_put {ks : List (List Nat)} {s : List Nat} {i : Nat} (hi : i < ks.length) : pickK ks (s ++ [i]) = pickK ks s ++ [ks[i]] := by
  simp [pickK, List.getD, List.getElem?_eq_getElem hi]
theorem pick_mem {ks : List (List Nat)} {s : List Nat} (h : ∀ i, i ∈ s ↔ i < ks.length) (x : List Nat) : x ∈ pickK ks s ↔ x ∈ ks := by
  simp only [pickK, List.mem_map]
  constructor
  · rintro ⟨i, hi, rfl⟩
    have := (h i).1 hi
    rw [List.getD, List.getElem?_eq_getElem this]; exact List.getElem_mem _
  · intro hx
    obtain ⟨i, hi, rfl⟩ := List.mem_iff_getElem.1 hx
    exact ⟨i, (h i).2 hi, by rw [List.getD, List.getElem?_eq_getElem hi]; rfl⟩
theorem pick_nodup {ks : List (List Nat)} (hk : ks.Nodup) {s : List Nat} (hs : s.Nodup) (h : ∀ i ∈ s, i < ks.length) : (pickK ks s).Nodup := by
  rw [pickK, List.nodup_iff_pairwise_ne, List.pairwise_map]
  refine List.Pairwise.imp_of_mem ?_ (List.nodup_iff_pairwise_ne.1 hs)
  intro a b ha hb hne he
  have h1 := h a ha
  have h2 := h b hb
  simp only [List.getD, List.getElem?_eq_getElem h1, List.getElem?_eq_getElem h2, Option.getD_some] at he
  exact hne ((List.getElem_inj hk).1 he)
section
variable {fns : FuncId → Option AFunc} {summ : FuncId → List AVal → AHeap → Option (D (AVal × AHeap))}
variable (H : Has fns summ)
include H
theorem AppendSeq_ok (ks : List (List Nat)) (hks : ks.length ≤ 2 ^ 20) (rm bk : Nat) (h : AHeap) (hw : WF h) (hbk : ∃ ver ro e, h.objs.get bk = some (ver, .cells ro e [.map (some rm)])) (hrm : SetAt h rm ks) :
    Cl fns summ 135 [.slice none 0, .func 101 [] [.ptr (some (bk, 0))]] h fun r h' => ∃ s : List Nat, s.Nodup ∧ (∀ i, i ∈ s ↔ i < ks.length) ∧ Built h' h.next 9 1 r s.length ((pickK ks s).map AVal.str) ∧ Grow h h' := by
  have e20 : (2 : Nat) ^ 20 = 1048576 := by decide
  have e31 : (2 : Nat) ^ 31 = 2147483648 := by decide
  refine H.go (fn := F_AppendSeq) rfl (by decide) rfl rfl ?_
  unfold F_AppendSeq
  dsimp only [qQ, qE, qN, gQ, gE, vi]
  refine zAC (zAD ?_)
  refine st_box (by exact e1) (by exact cc) hw ?_
  rintro b2 h2 hb2 g2 o2
  have l2 := g2.wf.lt o2
  repeat with_reducible first | refine zAA ?_ | refine zAB ?_ | refine zAC ?_ | refine zAD ?_ | (apply st_q; exact q1)
  refine cd_gen (fun A => A.defers = [] ∧ ev A (.tmp 2) = some (.ptr (some (b2, 0))) ∧ ev A (.tmp 6) = some (.func 101 [] [.ptr (some (bk, 0))])) ⟨by exact n1, by exact e1, by exact e1⟩ ?_
  rintro A ⟨hd, t2, t6⟩
  refine cd_block ?_
  generalize hB : ACode.block 1 _ = B
  generalize hA : ACode.ops [⟨some 5, none, .q (.mov (.tmp 7))⟩] = As
  refine rangeF_K t6 g2.wf ?_
  intro l d h3 hdn hld g3 ol od
  have n2 := g2.next
  refine (MKeys1_ok H ks rm bk h hbk hrm (.yield l) (fun s hp => Grow h hp ∧ (l < hp.next ∧ b2 < hp.next) ∧ (∃ ver, hp.objs.get l = some (ver, .loop .ready none A.tmps [7] As B d)) ∧ (∃ ver, hp.objs.get d = some (ver, .dfr false)) ∧ s.length ≤ ks.length ∧ ∃ ver vo, hp.objs.get b2 = some (ver, .cells false 38 [vo]) ∧ Built hp h.next 9 1 vo s.length ((pickK ks s).map AVal.str))
    (fun s hp p => p.1) ?_ ?_ h3 ⟨g2.trans g3, ⟨by obtain ⟨_, ol⟩ := ol; exact g3.wf.lt ol, Nat.lt_of_lt_of_le l2 g3.next⟩, ol, od, Nat.zero_le _, _, _, g3.keep _ _ o2, .inl ⟨rfl, rfl, rfl⟩⟩).mono ?_
  · rintro s hp hp' bi ⟨gp, ⟨ll, lb2⟩, ⟨vl, ol⟩, ⟨vd, od⟩, hsl, ver, vo, o2p, B2⟩ hbi hb0 hkp w' hn
    have hne : ∀ {c : Nat} {p : Nat × AObj}, hp.objs.get c = some p → (∀ r a b d, p.2 ≠ .iter r a b d) → c ≠ bi := by
      rintro c p hc hp' rfl
      rcases hbi with hbi | ⟨ver, r, a, b, d, ho⟩
      · have := gp.wf.lt hc; omega
      · rw [ho] at hc
        simp only [Option.some.injEq] at hc
        exact hp' _ _ _ _ (by rw [← hc])
    refine ⟨⟨w', Nat.le_trans gp.next hn, fun c p hc => hkp c p (gp.keep _ _ hc) (by have := hw.lt hc; omega)⟩, ⟨by omega, by omega⟩, ⟨_, hkp _ _ ol (hne ol fun _ _ _ _ hh => by cases hh)⟩, ⟨_, hkp _ _ od (hne od fun _ _ _ _ hh => by cases hh)⟩, hsl, ver, vo, hkp _ _ o2p (hne o2p fun _ _ _ _ hh => by cases hh), built_stay B2 fun c p hc ⟨vs, hp2⟩ _ => hkp _ _ hc (hne hc fun _ _ _ _ hh => by rw [hp2] at hh; cases hh)⟩
  · clear ol od
    rintro s hp i hi ⟨gp, ⟨ll, lb2⟩, ⟨vl, ol⟩, ⟨vd, od⟩, hsl, ver, vo, o2p, B2⟩ hnd hns hlen
    have T2 : ev { tmps := A.tmps, defers := [] } (.tmp 2) = some (.ptr (some (b2, 0))) := t2
    refine yield_K ol gp.wf rfl (fun a1 => a1.defers = [] ∧ ev a1 (.tmp 5) = some (.str ks[i]) ∧ ev a1 (.tmp 2) = some (.ptr (some (b2, 0)))) ?_ ?_
    · subst hA
      clear hd t2 t6
      repeat with_reducible first | refine zAA ?_ | refine zAB ?_ | refine zAD ?_ | (apply st_q; exact q1)
      exact ⟨rfl, by exact n1, by exact e1, by exact e1⟩
    · rintro a1 hq ⟨hd1, t5, t2'⟩ pL ⟨vlb, olb⟩
      subst hB
      clear hd t2 t6 T2
      have hld' : d ≠ l := by rintro rfl; rw [ol] at od; cases od
      have hbl : b2 ≠ l := by rintro rfl; rw [ol] at o2p; cases o2p
      have gq : Grow h hq := pL.grow h hw gp (by omega)
      have o2q := pL.keep _ hbl _ o2p
      have odq := pL.keep _ hld' _ od
      have Bq := built_but B2 pL ol (fun vs hh => by cases hh)
      have hroom := roomOK H (b := 16) (k := s.length + 1) (by decide) (by omega)
      have nq := gq.next
      have nL := pL.next
      have kpi : ∀ c ver r a b d, hp.objs.get c = some (ver, .iter r a b d) → hq.objs.get c = some (ver, .iter r a b d) := fun c ver r a b d hc => pL.keep c (by rintro rfl; rw [ol] at hc; cases hc) _ hc
      replace kpi := Hid.mk kpi
      clear ol od o2p B2 pL
      repeat with_reducible first | refine cd_blockO ?_ | (apply st_q; exact q1)
      refine st_bslice1 (by exact e1) (by exact cc) rfl rfl gq.wf ?_
      rintro bz h10 hbz g10 oz
      have kB' := Bq.grow g10
      refine st_append1 (by exact e1) (by exact e1) kB' oz rfl rfl hroom g10.wf (by have := g10.next; omega) ?_
      rintro vw' h11 B11 f11 w11 n11 gr11 kp11
      have o211 := kp11 _ _ (g10.keep _ _ o2q) (built_ne kB' (g10.keep _ _ o2q) fun vs hh => by cases hh)
      have ol11 := kp11 _ _ (g10.keep _ _ olb) (built_ne kB' (g10.keep _ _ olb) fun vs hh => by cases hh)
      have od11 := kp11 _ _ (g10.keep _ _ odq) (built_ne kB' (g10.keep _ _ odq) fun vs hh => by cases hh)
      have g11 := gr11 h hw (gq.trans g10) (Nat.le_refl _)
      have kpi11 : ∀ c ver r a b d, hp.objs.get c = some (ver, .iter r a b d) → h11.objs.get c = some (ver, .iter r a b d) := fun c ver r a b d hc => by
        have := g10.keep _ _ (kpi.out _ _ _ _ _ _ hc)
        exact kp11 _ _ this (built_ne kB' this fun vs hh => by cases hh)
      replace kpi11 := Hid.mk kpi11
      have hone := one_of_len B11.len
      have n10 := g10.next
      clear kpi o2q olb odq kp11 gr11 kB' oz Bq
      skip
      refine zAP (by exact e1) (by exact e1) (cells_of_len B11.len) rfl w11 o211 (by simp) (by simp only [List.all_cons, List.all_nil, hone, Bool.and_true]) ?_
      rintro v12 h12 p12 o12
      simp only [List.take_zero, List.nil_append, List.length_cons, List.length_nil, List.drop_succ_cons, List.drop_zero, List.append_nil, Nat.zero_add, Nat.reduceAdd, List.drop_nil, List.cons_append] at o12
      have ol12 := p12.keep l (fun e => hbl e.symm) _ ol11
      have od12 := p12.keep d (by rintro rfl; rw [od11] at o211; cases o211) _ od11
      have g12 := p12.grow h hw g11 hb2
      have B12 := built_but B11 p12 o211 (fun vs hh => by cases hh)
      have n12 := p12.next
      have kpi12 : ∀ c ver r a b d, hp.objs.get c = some (ver, .iter r a b d) → h12.objs.get c = some (ver, .iter r a b d) := fun c ver r a b d hc => by
        have h1 := kpi11.out _ _ _ _ _ _ hc
        exact p12.keep c (by rintro rfl; rw [o211] at h1; cases h1) _ h1
      replace kpi12 := Hid.mk kpi12
      clear o211 ol11 od11 kpi11
      repeat with_reducible first | refine zAJ ?_ | refine zAB ?_
      refine ⟨g12.wf, ⟨_, ol12⟩, fun _ h13 p13 o13 => ⟨rfl, ⟨p13.grow h hw g12 (by omega), ⟨by have := p13.next; omega, by have := p13.next; omega⟩, o13, ⟨_, p13.keep d hld' _ od12⟩, by rw [List.length_append, List.length_singleton]; omega, v12, vw', p13.keep b2 hbl _ o12, ?_⟩, fun c ver r a b d hc => ?_⟩, fun hh => absurd rfl hh⟩
      · rw [pick_put hi, List.map_append, List.length_append, List.length_singleton]
        exact built_but B12 p13 ol12 (fun vs hh => by cases hh)
      · have h2 := kpi12.out _ _ _ _ _ _ hc
        exact p13.keep c (by rintro rfl; rw [ol12] at h2; cases h2) _ h2
  · clear ol od
    rintro _ h8 ⟨s, hnd, hall, gp, ⟨ll, lb2⟩, ⟨vl, ol⟩, ⟨vd, od⟩, hsl, ver, vo, o2p, B2⟩
    refine ⟨gp.wf, .inl ⟨⟨_, ol⟩, fun h9 p9 => ?_⟩⟩
    have hld' : d ≠ l := by rintro rfl; rw [ol] at od; cases od
    have hbl : b2 ≠ l := by rintro rfl; rw [ol] at o2p; cases o2p
    have o29 := p9.keep b2 hbl _ o2p
    have od9 := p9.keep d hld' _ od
    have g9 := p9.grow h hw gp (by omega)
    have B9 := built_but B2 p9 ol (fun vs hh => by cases hh)
    have T2 : ev { tmps := A.tmps, defers := [.collected d] } (.tmp 2) = some (.ptr (some (b2, 0))) := t2
    have hdd : (ADef.collected d :: A.defers) = [.collected d] := by rw [hd]
    replace hall := Hid.mk hall
    clear hd t6 ol od o2p B2
    repeat with_reducible first | refine zAA ?_ | refine zAJ ?_ | refine zAB ?_ | refine zAC ?_ | refine zAD ?_ | refine zAG ?_ | (apply st_q; exact q1)
    refine fin_coll (by first | exact hdd | (simp only [zAV]; exact hdd)) g9.wf ⟨_, od9⟩ fun h12 p12 => ?_
    refine ⟨_, by exact r1, s, hnd, hall.out, built_but B9 p12 od9 (fun vs hh => by cases hh), p12.grow h hw g9 (by omega)⟩
end
end Go.Ab.S
end
section
/-
  All names of meanings of a sort, rising.
-/
namespace Go.Ab.S
open Go.Ab
set_option maxHeartbeats 4000000
theorem lessL_asym {x y : List Nat} (h : lessL x y = true) : lessL y x = false := by
  cases h2 : lessL y x
  · rfl
  · have := lessL_trans h h2
    rw [lessL_irr] at this; cases this
theorem sortL_mem {l : List (List Nat)} {s : List Nat} : s ∈ sortL l ↔ s ∈ l := List.mem_mergeSort
theorem sortL_len (l : List (List Nat)) : (sortL l).length = l.length := List.length_mergeSort _
theorem sortL_le (l : List (List Nat)) : (sortL l).Pairwise fun x y => (!lessL y x) = true := by
  refine List.pairwise_mergeSort (fun a b c h1 h2 => ?_) (fun a b => ?_) l
  · simp only [Bool.not_eq_true'] at h1 h2 ⊢
    cases h : lessL c a
    · rfl
    · rcases lessL_tri b c with k | rfl | k
      · have := lessL_trans k h; rw [h1] at this; cases this
      · rw [h1] at h; cases h
      · rw [h2] at k; cases k
  · cases h : lessL b a
    · rfl
    · rw [lessL_asym h]; rfl
theorem sortL_rises {l : List (List Nat)} (hn : l.Nodup) : Rises (sortL l) := by
  have h1 := sortL_le l
  have h2 : (sortL l).Nodup := (List.mergeSort_perm l _).nodup_iff.2 hn
  intro i j hij x y hx hy
  obtain ⟨hi, rfl⟩ := List.getElem?_eq_some_iff.1 hx
  obtain ⟨hj, rfl⟩ := List.getElem?_eq_some_iff.1 hy
  have h3 := List.pairwise_iff_getElem.1 h1 i j hi hj hij
  simp only [Bool.not_eq_true'] at h3
  rcases lessL_tri (sortL l)[i] (sortL l)[j] with k | k | k
  · exact k
  · have := (List.getElem_inj h2).1 k; omega
  · rw [h3] at k; cases k
def BytesL (l : List (List Nat)) : Prop := ∀ s ∈ l, ∀ c ∈ s, c < 256
section
variable {fns : FuncId → Option AFunc} {summ : FuncId → List AVal → AHeap → Option (D (AVal × AHeap))}
variable (H : Has fns summ) (HS : HasSort summ)
include H
theorem Collect_ok (ks : List (List Nat)) (hks : ks.length ≤ 2 ^ 20) (rm bk : Nat) (h : AHeap) (hw : WF h) (hbk : ∃ ver ro e, h.objs.get bk = some (ver, .cells ro e [.map (some rm)])) (hrm : SetAt h rm ks) :
    Cl fns summ 100 [.func 101 [] [.ptr (some (bk, 0))]] h fun r h' => ∃ s : List Nat, s.Nodup ∧ (∀ i, i ∈ s ↔ i < ks.length) ∧ Built h' h.next 9 1 r s.length ((pickK ks s).map AVal.str) ∧ Grow h h' := by
  refine H.go (fn := F_Collect) rfl (by decide) rfl rfl ?_
  unfold F_Collect
  dsimp only [qQ, qE, qN, gQ, gE, vi]
  repeat with_reducible first | refine zAA ?_ | refine zAB ?_ | refine zAC ?_ | refine zAD ?_ | (apply st_q; exact q1)
  refine zAS (by exact s1) ((AppendSeq_ok H ks hks rm bk h hw hbk hrm).mono ?_)
  rintro r h2 hq
  repeat' with_reducible first | refine zAA ?_ | refine zAB ?_ | refine zAG ?_ | (apply st_q; exact q1) | (apply zAE; exact n1; exact r1)
  exact hq
include HS
theorem Sorted_ok (ks : List (List Nat)) (hks : ks.length ≤ 2 ^ 20) (hkb : BytesL ks) (hkn : ks.Nodup) (rm bk : Nat) (h : AHeap) (hw : WF h) (hbk : ∃ ver ro e, h.objs.get bk = some (ver, .cells ro e [.map (some rm)])) (hrm : SetAt h rm ks) :
    Cl fns summ 67 [.func 101 [] [.ptr (some (bk, 0))]] h fun r h' => ∃ out, StrsAt h' r out ∧ Rises out ∧ (∀ s, s ∈ out ↔ s ∈ ks) ∧ out.length ≤ 2 ^ 20 ∧ Grow h h' := by
  have e20 : (2 : Nat) ^ 20 = 1048576 := by decide
  have e31 : (2 : Nat) ^ 31 = 2147483648 := by decide
  refine H.go (fn := F_Sorted) rfl (by decide) rfl rfl ?_
  unfold F_Sorted
  dsimp only [qQ, qE, qN, gQ, gE, vi]
  repeat with_reducible first | refine zAA ?_ | refine zAB ?_ | refine zAC ?_ | refine zAD ?_ | (apply st_q; exact q1)
  refine zAS (by exact s1) ((Collect_ok H ks hks rm bk h hw hbk hrm).mono ?_)
  rintro r h2 ⟨s, hnd, hall, B, g2⟩
  have hpl : (pickK ks s).length = s.length := by simp [pickK]
  have hsl := nat_most hnd fun i hi => (hall i).1 hi
  have hpn := pick_nodup hkn hnd fun i hi => (hall i).1 hi
  have hpm := pick_mem hall
  have fin : ∃ out : List (List Nat), out = sortL (pickK ks s) ∧ Rises out ∧ (∀ x, x ∈ out ↔ x ∈ ks) ∧ out.length ≤ 2 ^ 20 := ⟨_, rfl, sortL_rises hpn, fun x => sortL_mem.trans (hpm x), by rw [sortL_len, hpl]; omega⟩
  obtain ⟨out, ho, f1, f2, f3⟩ := fin
  have hol : out.length = s.length := by rw [ho, sortL_len, hpl]
  replace f1 := Hid.mk f1
  replace f2 := Hid.mk f2
  replace f3 := Hid.mk f3
  have hpb : BytesL (pickK ks s) := fun x hx => hkb x ((hpm x).1 hx)
  replace hpb := Hid.mk hpb
  rcases B with ⟨rfl, h0, hnil⟩ | ⟨rfl, h0, _⟩ | ⟨b, vs, ver, hb, rfl, ob, hlen, htk⟩
  · have hout : out = [] := List.length_eq_zero_iff.1 (by omega)
    have hs := HS.none h2
    clear hall hpm hpn ho
    repeat with_reducible first | refine zAA ?_ | refine zAB ?_ | refine zAC ?_ | refine zAD ?_ | (apply st_q; exact q1)
    refine zAS (by exact s1) (cl_summ hs ?_)
    rw [D.sat_ret]
    repeat' with_reducible first | refine zAA ?_ | refine zAB ?_ | refine zAC ?_ | refine zAD ?_ | refine zAG ?_ | (apply st_q; exact q1) | (apply zAE; exact n1; exact r1)
    exact ⟨out, by rw [hout]; exact ⟨rfl, fun i x hx => by simp at hx⟩, f1.out, f2.out, f3.out, g2⟩
  · have hout : out = [] := List.length_eq_zero_iff.1 (by omega)
    have hs := HS.zero h2
    clear hall hpm hpn ho
    repeat with_reducible first | refine zAA ?_ | refine zAB ?_ | refine zAC ?_ | refine zAD ?_ | (apply st_q; exact q1)
    refine zAS (by exact s1) (cl_summ hs ?_)
    rw [D.sat_ret]
    repeat' with_reducible first | refine zAA ?_ | refine zAB ?_ | refine zAC ?_ | refine zAD ?_ | refine zAG ?_ | (apply st_q; exact q1) | (apply zAE; exact n1; exact r1)
    exact ⟨out, by rw [hout]; exact ⟨rfl, fun i x hx => by simp at hx⟩, f1.out, f2.out, f3.out, g2⟩
  · rw [Nat.mul_one] at hlen htk
    rw [← hpl] at hlen htk
    have hs := HS.some (pickK ks s) hpb.out (by omega) h2 b ver vs g2.wf ob hlen htk
    rw [hpl] at hs
    have pb := but_put g2.wf ob (.cells false 9 ((sortL (pickK ks s)).map AVal.str ++ vs.drop s.length))
    have ob' := zAR h2 b (.cells false 9 ((sortL (pickK ks s)).map AVal.str ++ vs.drop s.length))
    rw [← ho] at hs pb ob'
    replace hs := Hid.mk hs
    have g3 := pb.grow h hw g2 hb
    have hB : Built (putObjA h2 b (.cells false 9 (out.map AVal.str ++ vs.drop s.length))) h.next 9 1 (.slice (some (b, 0)) out.length) out.length (out.map AVal.str) := .inr (.inr ⟨b, _, _, hb, rfl, ob', by simp, by simp⟩)
    have hSt := built_strs hB
    rw [hol] at hSt
    replace hSt := Hid.mk hSt
    clear hall hpm hpn ho ob htk hlen pb ob' hB
    repeat with_reducible first | refine zAA ?_ | refine zAB ?_ | refine zAC ?_ | refine zAD ?_ | (apply st_q; exact q1)
    refine zAS (by exact s1) (cl_summ hs.out ?_)
    rw [D.sat_ret]
    generalize putObjA h2 b _ = h3 at hSt g3 ⊢
    repeat' with_reducible first | refine zAA ?_ | refine zAB ?_ | refine zAC ?_ | refine zAD ?_ | refine zAG ?_ | (apply st_q; exact q1) | (apply zAE; exact n1; exact r1)
    exact ⟨out, hSt.out, f1.out, f2.out, f3.out, g3⟩
end
end Go.Ab.S
end
section
/-
  Whether a class's type may be: the law of it.
-/
namespace Go.Ab.S
open Go.Ab
set_option maxHeartbeats 1000000
def isArrow (n : Node) : Bool := n.kind == 2 && eqL n.name [45, 62]
def isStar (n : Node) : Bool := n.kind == 2 && eqL n.name [42]
/-- Behind so many parameters. -/
def downF (g : Graph) : Nat → Int → Option Int
  | 0, a => some a
  | k + 1, a => if isArrow (zAH g a) then downF g k ((zAH g a).args.getD 1 0) else none
def partF (g : Graph) (a : Int) : Option (Int × Int) :=
  if isStar (zAH g a) then
    (if ((zAH g ((zAH g a).args.getD 0 0)).kind == 3 && !(zAH g ((zAH g a).args.getD 0 0)).isOpen) && (zAH g ((zAH g a).args.getD 1 0)).kind == 3 then some ((zAH g a).args.getD 0 0, (zAH g a).args.getD 1 0) else none)
  else none
/-- A class's fields' node, and its own. -/
def bodyF (c : CDef) : Option (Int × Int) := match downF c.g c.params.toNat c.g.root with
  | none => none
  | some a => partF c.g a
def headOK (c : CDef) : Bool := ((!decide (c.params < 0) && !decide (c.params > 100)) && risingF c.conc) && risingF c.virt
def ckF (c : CDef) : Int :=
  if zAT c.g ≠ 0 then zAT c.g else if headOK c then (match bodyF c with
    | none => 2
    | some p => if eqLL (sortL (c.conc ++ c.virt)) (zAH c.g p.2).labels then 0 else 2) else 2
/-- .. by definition. -/
def allIn (c : CDef) (l : List (List Nat)) : Bool := (c.conc.all fun s => !c.virt.contains s && l.contains s) && ((c.virt.all fun s => l.contains s) && l.length == c.conc.length + c.virt.length)
def rckF (c : CDef) : Int :=
  if zAT c.g ≠ 0 then zAT c.g else if headOK c then (match bodyF c with
    | none => 2
    | some p => if allIn c (zAH c.g p.2).labels then 0 else 2) else 2
def fieldsF (c : CDef) : List (List Nat) := if ckF c = 0 then (match bodyF c with
    | none => []
    | some p => (zAH c.g p.1).labels) else []
theorem rises_nod {l : List (List Nat)} (hr : Rises l) : l.Nodup := by
  rw [List.nodup_iff_pairwise_ne, List.pairwise_iff_getElem]
  intro i j hi hj hij he
  have := hr i j hij _ _ (List.getElem?_eq_getElem hi) (List.getElem?_eq_getElem hj)
  rw [he, lessL_irr] at this
  cases this
theorem all_in : ∀ (a b : List (List Nat)), a.Nodup → (∀ x ∈ a, x ∈ b) → b.length ≤ a.length → ∀ x ∈ b, x ∈ a
  | [], b, _, _, hl => by
    have : b = [] := List.length_eq_zero_iff.1 (by simpa using hl)
    subst this; intro x hx; cases hx
  | y :: a, b, hn, hs, hl => by
    have hn' := List.nodup_cons.1 hn
    have hy : y ∈ b := hs y (by simp)
    have hle : (b.erase y).length ≤ a.length := by
      rw [List.length_erase_of_mem hy]; simp only [List.length_cons] at hl; omega
    have ih := all_in a (b.erase y) hn'.2 (fun x hx => (List.mem_erase_of_ne (by rintro rfl; exact hn'.1 hx)).2 (hs x (by simp [hx]))) hle
    intro x hx
    by_cases h : x = y
    · simp [h]
    · exact List.mem_cons_of_mem _ (ih x ((List.mem_erase_of_ne h).2 hx))
/-- Two rows that rise, sorted together, are a third one: just if they are apart, and are in it, and fill it. -/
theorem sorted_iff {a b l : List (List Nat)} (ha : Rises a) (hb : Rises b) (hl : Rises l) : eqLL (sortL (a ++ b)) l = ((a.all fun s => !b.contains s && l.contains s) && ((b.all fun s => l.contains s) && l.length == a.length + b.length)) := by
  rw [Bool.eq_iff_iff, eqLL_iff]
  simp only [Bool.and_eq_true, List.all_eq_true, Bool.not_eq_true', List.contains_eq_mem, decide_eq_false_iff_not, decide_eq_true_eq, beq_iff_eq]
  constructor
  · intro h
    have hm : ∀ s, s ∈ l ↔ s ∈ a ++ b := fun s => by rw [← h, sortL_mem]
    have hln : l.length = (a ++ b).length := by rw [← h, sortL_len]
    have hnd : (a ++ b).Nodup := by
      have h1 : (sortL (a ++ b)).Nodup := by rw [h]; exact rises_nod hl
      exact (List.mergeSort_perm (a ++ b) _).nodup_iff.1 h1
    rw [List.nodup_append] at hnd
    exact ⟨fun s hs => ⟨fun hs' => hnd.2.2 s hs s hs' rfl, (hm s).2 (List.mem_append_left _ hs)⟩, fun s hs => (hm s).2 (List.mem_append_right _ hs), by rw [hln, List.length_append]⟩
  · rintro ⟨h1, h2, h3⟩
    have hnd : (a ++ b).Nodup := by
      rw [List.nodup_append]
      exact ⟨rises_nod ha, rises_nod hb, fun x hx y hy e => (h1 x hx).1 (by rw [e]; exact hy)⟩
    have hin : ∀ x ∈ a ++ b, x ∈ l := fun x hx => by
      rcases List.mem_append.1 hx with hx | hx
      · exact (h1 x hx).2
      · exact h2 x hx
    have hall := all_in (a ++ b) l hnd hin (by rw [List.length_append]; omega)
    exact rises_ext (sortL_rises hnd) hl fun s => sortL_mem.trans ⟨hin s, hall s⟩
theorem kind_of_name {n : Node} {N : Int} (h : mayF n N = true) (hn : n.name ≠ []) : n.kind = 2 := by
  rcases may_kind h with ⟨_, _, _, q, _⟩ | ⟨q, _⟩ | ⟨_, q, _⟩
  · exact absurd q hn
  · exact q
  · exact absurd q hn
theorem arrow_args {n : Node} {N : Int} (h : mayF n N = true) (ha : isArrow n = true ∨ isStar n = true) : n.args.length = 2 := by
  have hk : n.kind = 2 := by
    rcases ha with ha | ha <;> (simp only [isArrow, isStar, Bool.and_eq_true, beq_iff_eq] at ha; exact ha.1)
  rcases may_kind h with ⟨q, _⟩ | ⟨_, _, _, _, l⟩ | ⟨q, _⟩
  · omega
  · rw [l]
    rcases ha with ha | ha <;> (simp only [isArrow, isStar, Bool.and_eq_true, eqL_iff] at ha; rw [ha.2]; rfl)
  · omega
theorem down_in {g : Graph} (hc : zAT g = 0) : ∀ (k : Nat) (a b : Int), 0 ≤ a ∧ a < g.nodes.length → downF g k a = some b → 0 ≤ b ∧ b < g.nodes.length
  | 0, a, b, ha, h => by cases h; exact ha
  | k + 1, a, b, ha, h => by
    rw [downF] at h
    split at h
    · rename_i hi
      have hm := (check_root hc).2.2.2 _ (node_in ha)
      have hl := arrow_args hm (.inl hi)
      exact down_in hc k _ b (may_args hm _ (getD_mem (by omega))) h
    · cases h
theorem body_in {c : CDef} (hc : zAT c.g = 0) {p : Int × Int} (h : bodyF c = some p) : (0 ≤ p.1 ∧ p.1 < c.g.nodes.length) ∧ (0 ≤ p.2 ∧ p.2 < c.g.nodes.length) ∧ (zAH c.g p.1).kind = 3 ∧ (zAH c.g p.2).kind = 3 := by
  unfold bodyF at h
  split at h
  · cases h
  · rename_i a ha
    have hr := check_root hc
    have hin := down_in hc _ _ a ⟨hr.1, hr.2.1⟩ ha
    have hm := hr.2.2.2 _ (node_in hin)
    unfold partF at h
    split at h
    · rename_i hs
      have hl := arrow_args hm (.inr hs)
      split at h
      · rename_i hk
        cases h
        simp only [Bool.and_eq_true, beq_iff_eq] at hk
        exact ⟨may_args hm _ (getD_mem (by omega)), may_args hm _ (getD_mem (by omega)), hk.1.1, hk.2⟩
      · cases h
    · cases h
theorem ck_eq (c : CDef) : ckF c = rckF c := by
  unfold ckF rckF
  split
  · rfl
  · rename_i hc
    have hc : zAT c.g = 0 := by simpa using hc
    split
    · rename_i hh
      simp only [headOK, Bool.and_eq_true] at hh
      cases hb : bodyF c with
      | none => rfl
      | some p =>
        obtain ⟨_, h2, _, k2⟩ := body_in hc hb
        have hm := (check_root hc).2.2.2 _ (node_in h2)
        have hr : Rises (zAH c.g p.2).labels := by
          rcases may_kind hm with ⟨q, _⟩ | ⟨q, _⟩ | ⟨_, _, _, hr⟩
          · omega
          · omega
          · exact ris_rises hr
        show (if eqLL _ _ = true then (0 : Int) else 2) = if allIn _ _ = true then 0 else 2
        rw [sorted_iff (ris_rises hh.1.2) (ris_rises hh.2) hr]; rfl
    · rfl
theorem ck_facts {c : CDef} (h : ckF c = 0) : zAT c.g = 0 ∧ (0 ≤ c.params ∧ c.params ≤ 100) ∧ ∃ p, bodyF c = some p := by
  unfold ckF at h
  split at h
  · rename_i hc; exact absurd h hc
  · rename_i hc
    split at h
    · rename_i hh
      simp only [headOK, Bool.and_eq_true, Bool.not_eq_true', decide_eq_false_iff_not] at hh
      refine ⟨by simpa using hc, ⟨by omega, by omega⟩, ?_⟩
      cases hb : bodyF c with
      | none => rw [hb] at h; cases h
      | some p => exact ⟨p, rfl⟩
    · cases h
end Go.Ab.S
end
section
/-
  Names, as they are told by definition.
-/
namespace Go.Ab.S
open Go.Ab
set_option maxHeartbeats 1000000
def smallF (c : Nat) : Bool := (97 ≤ c && c ≤ 122) || c == 95
def letterF (c : Nat) : Bool := ((97 ≤ c && c ≤ 122) || (65 ≤ c && c ≤ 90)) || c == 95
def digitF (c : Nat) : Bool := 48 ≤ c && c ≤ 57
def keyWords : List (List Nat) := [[97, 110, 100], [97, 115], [99, 108, 97, 115, 115], [101, 108, 115, 101], [101, 110, 100], [102, 97, 108, 115, 101], [102, 117, 110], [105, 102], [105, 110], [105, 110, 104, 101, 114, 105, 116], [108, 101, 116], [109, 101, 116, 104, 111, 100], [110, 101, 119], [111, 98, 106, 101, 99, 116], [114, 101, 99], [116, 104, 101, 110], [116, 114, 117, 101], [118, 97, 108], [118, 105, 114, 116, 117, 97, 108]]
/-- Words, each with a blank ahead, and one behind all. -/
def rowS : List (List Nat) → List Nat
  | [] => [32]
  | w :: r => 32 :: (w ++ rowS r)
theorem keys_row : keysS = rowS keyWords := by decide
theorem pref_word : ∀ (s w r : List Nat), 32 ∉ s → 32 ∉ w → prefL (s ++ [32]) (w ++ 32 :: r) = decide (s = w)
  | [], [], r, _, _ => by simp [prefL]
  | [], a :: w, r, _, hw => by
    have : ¬ a = 32 := fun e => hw (by simp [e])
    simp [prefL]; omega
  | a :: s, [], r, hs, _ => by
    have : ¬ a = 32 := fun e => hs (by simp [e])
    simp [prefL, this]
  | a :: s, b :: w, r, hs, hw => by
    have ih := pref_word s w r (fun h => hs (by simp [h])) (fun h => hw (by simp [h]))
    simp only [List.cons_append, prefL, ih]
    by_cases h : a = b
    · subst h; simp
    · simp [h]
theorem row_head (ws : List (List Nat)) : ∃ r, rowS ws = 32 :: r := by cases ws <;> exact ⟨_, rfl⟩
/-- Within a word no blank begins. -/
theorem in_word : ∀ (w r p : List Nat), 32 ∉ w → inL (w ++ r) (32 :: p) = inL r (32 :: p)
  | [], _, _, _ => rfl
  | a :: w, r, p, h => by
    have ha : ¬ 32 = a := fun e => h (by simp [e])
    rw [List.cons_append, inL, in_word w r p fun hh => h (by simp [hh])]
    have : ((32 : Nat) == a) = false := by simpa using ha
    simp only [prefL, this, Bool.false_and, Bool.false_or]
theorem in_row : ∀ (ws : List (List Nat)) (s : List Nat), (∀ w ∈ ws, 32 ∉ w) → 32 ∉ s → inL (rowS ws) ([32] ++ s ++ [32]) = ws.contains s
  | [], s, _, _ => by
    show inL [32] (32 :: (s ++ [32])) = _
    cases s <;> simp [inL, prefL]
  | w :: ws, s, h, hs => by
    have hw := h w (by simp)
    have ih := in_row ws s (fun x hx => h x (by simp [hx])) hs
    obtain ⟨r, hr⟩ := row_head ws
    show inL (32 :: (w ++ rowS ws)) (32 :: (s ++ [32])) = _
    rw [inL, in_word _ _ _ hw]
    have ih' : inL (rowS ws) (32 :: (s ++ [32])) = ws.contains s := ih
    rw [ih', prefL, hr, pref_word s w r hs hw]
    simp only [List.contains_cons, beq_self_eq_true, Bool.true_and]
    congr 1
    rw [Bool.eq_iff_iff]; simp
theorem blank_in : ∀ s : List Nat, inL s [32] = decide (32 ∈ s)
  | [] => by simp [inL, prefL]
  | a :: s => by
    rw [inL, blank_in s]
    have : prefL [32] (a :: s) = (32 == a) := by simp [prefL]
    rw [this]
    by_cases h : 32 = a
    · simp [h]
    · simp [h]
theorem isKey_eq (s : List Nat) : isKeyF s = keyWords.contains s := by
  unfold isKeyF
  rw [blank_in]
  by_cases hb : 32 ∈ s
  · have : keyWords.contains s = false := by
      rw [← Bool.not_eq_true, List.contains_iff_mem]
      intro hm
      have : ∀ w ∈ keyWords, 32 ∉ w := by decide
      exact this s hm hb
    rw [this]; simp [hb]
  · rw [keys_row, in_row keyWords s (by decide) hb]
    cases s with
    | nil => decide
    | cons a s =>
      have : eqL (a :: s) [] = false := rfl
      rw [this]; simp [hb]
/-- How many letters of a word a text begins with: the first one, and all that go on. -/
def goS : List Nat → Nat
  | [] => 0
  | c :: r => if letterF c || digitF c then 1 + goS r else 0
def rwordF : List Nat → Nat
  | [] => 0
  | c :: r => if smallF c then 1 + goS r else 0
theorem goes_on (c : Nat) : goesF c false = (letterF c || digitF c) := by
  simp only [goesF, letterF, digitF, Bool.not_false, Bool.and_true]
  cases (decide (48 ≤ c) && decide (c ≤ 57)) <;> cases (decide (65 ≤ c) && decide (c ≤ 90)) <;> cases (decide (97 ≤ c) && decide (c ≤ 122)) <;> cases (c == 95) <;> rfl
theorem goes_start (c : Nat) : goesF c true = smallF c := by
  simp [goesF, smallF]
theorem word_go : ∀ (s : List Nat) (i : Nat), 0 < i → wordG i s = i + goS s
  | [], i, _ => rfl
  | c :: r, i, hi => by
    have hz : (i == 0) = false := by simp; omega
    rw [wordG, goS, hz, goes_on]
    split
    · rw [word_go r (i + 1) (by omega)]; omega
    · rfl
theorem word_eq (s : List Nat) : wordG 0 s = rwordF s := by
  cases s with
  | nil => rfl
  | cons c r =>
    rw [wordG, rwordF, show ((0 : Nat) == 0) = true from rfl, goes_start, word_go r 1 (by omega)]
def rnameF (s : List Nat) : Bool := ((!decide (s.length = 0) && decide (s.length ≤ 100)) && rwordF s == s.length) && !keyWords.contains s
theorem rname_eq (s : List Nat) : rnameF s = isNameF s := by
  unfold rnameF isNameF
  rw [isKey_eq, word_eq]
  cases s with
  | nil => rfl
  | cons a s =>
    have : eqL (a :: s) [] = false := rfl
    rw [this]; simp
/-- A name has letters of a text alone. -/
theorem goS_all : ∀ s : List Nat, goS s = s.length → ∀ c ∈ s, c < 256
  | [], _ => by intro c hc; cases hc
  | c :: r, h => by
    rw [goS] at h
    split at h
    · rename_i hc
      intro x hx
      rcases List.mem_cons.1 hx with rfl | hx
      · simp only [letterF, digitF, Bool.or_eq_true, Bool.and_eq_true, decide_eq_true_eq, beq_iff_eq] at hc; omega
      · exact goS_all r (by simp only [List.length_cons] at h; omega) x hx
    · simp at h
theorem name_bytes {s : List Nat} (h : isNameF s = true) : ∀ c ∈ s, c < 256 := by
  rw [← rname_eq] at h
  simp only [rnameF, Bool.and_eq_true, beq_iff_eq] at h
  have hw := h.1.2
  cases s with
  | nil => intro c hc; cases hc
  | cons a r =>
    rw [rwordF] at hw
    split at hw
    · rename_i hc
      intro x hx
      rcases List.mem_cons.1 hx with rfl | hx
      · simp only [smallF, Bool.or_eq_true, Bool.and_eq_true, decide_eq_true_eq, beq_iff_eq] at hc; omega
      · exact goS_all r (by simp only [List.length_cons] at hw; omega) x hx
    · simp at hw
theorem rising_bytes : ∀ {l : List (List Nat)} {p : Option (List Nat)}, risG p l = true → BytesL l
  | [], _, _ => by intro s hs; cases hs
  | z :: l, p, h => by
    simp only [risG, Bool.and_eq_true] at h
    intro s hs
    rcases List.mem_cons.1 hs with rfl | hs
    · exact name_bytes h.1.1
    · exact rising_bytes h.2 s hs
end Go.Ab.S
end
