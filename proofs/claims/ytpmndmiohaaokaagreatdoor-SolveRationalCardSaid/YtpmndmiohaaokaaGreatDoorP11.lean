import Derived.Test.YtpmndmiohaaokaaGreatDoorP10
/-
  Part 11 of the proof.
-/
set_option linter.all false
section
namespace Go.Ab.S
open Go.Ab
set_option maxHeartbeats 8000000
theorem zBG {h : AHeap} {b b' sz n : Nat} {e : TypeId} {v : AVal} {cells : List AVal} (k : Built h b e sz v n cells) (hb : b' <= b) : Built h b' e sz v n cells := by
 rcases k with k | k | ⟨c, vs, ver, h0, h1⟩
 ·exact .inl k
 ·exact .inr (.inl k)
 ·exact .inr (.inr ⟨c, vs, ver, Nat.le_trans hb h0, h1⟩)
theorem zIg {h : AHeap} {base : Nat} {e : TypeId} {v : AVal} {l : List (List Nat)} (B : Built h base e 1 v l.length (l.map AVal.str)) : StrsAt h v l :=
 B.sl (by decide) (xs := l.map strC) (by rw [zKA]) (by intro c hc; obtain ⟨a, _, rfl⟩ := List.mem_map.1 hc; rfl) (by simp)
def OwnN (h : AHeap) (base : Nat) (c : List AVal) (n : Node) : Prop := ∃ av lv, c = [.int .i64 n.kind, .str n.name, av, lv, .bool n.isOpen] /\ Built h base 3 1 av n.args.length (n.args.map (AVal.int .i64)) /\ Built h base 9 1 lv n.labels.length (n.labels.map AVal.str)
theorem OwnN_at {h : AHeap} {base : Nat} {c : List AVal} {n : Node} (k : OwnN h base c n) : NodeAt h c n := by
 obtain ⟨av, lv, h1, h2, h3⟩ := k
 exact ⟨av, lv, h1, zEC h2, zIg h3⟩
theorem OwnN_stay {h h' : AHeap} {base : Nat} {c : List AVal} {n : Node} (k : OwnN h base c n) (hk : ∀ b p, h.objs.get b = some p -> ((∃ vs, p.2 = .cells false 3 vs) \/ ∃ vs, p.2 = .cells false 9 vs) -> h'.objs.get b = some p) : OwnN h' base c n := by
 obtain ⟨av, lv, h1, h2, h3⟩ := k
 exact ⟨av, lv, h1, zBM h2 fun b p hb hp _ => hk b p hb (.inl hp), zBM h3 fun b p hb hp _ => hk b p hb (.inr hp)⟩
theorem zDP : ∀ (ns : List Node) (i : Nat) (n : Node), n ∈ ns -> n.args.length <= zAk [] ns i
 | [], _, _, h => by cases h
 | m :: r, i, n, h => by
  simp only [zAk]
  rcases List.mem_cons.1 h with rfl | h
  ·simp
  ·have := zDP r (i + 1) n h; omega
theorem zJx {vs : List AVal} {i n : Nat} {x : AVal} (hi : i < n) (hv : n <= vs.length) : (vs.take i ++ [x] ++ vs.drop (i + 1)).take n = (vs.take n).set i x := by
 rw [<- List.take_set, List.set_eq_take_append_cons_drop, if_pos (by omega), List.append_assoc]; rfl
def Lst (l args : List Int) (i : Nat) : List Int := (args.take i).map (fun a => (zBx l a : Int)) ++ args.drop i
theorem Lst_get {l args : List Int} {i : Nat} (h : i < args.length) : (Lst l args i)[i]? = some args[i] := by
 rw [Lst, List.getElem?_append_right (by simp; omega)]
 simp [Nat.min_eq_left (Nat.le_of_lt h), h]
theorem Lst_set {l args : List Int} {i : Nat} (h : i < args.length) : (Lst l args i).set i (zBx l args[i] : Int) = Lst l args (i + 1) := by
 have hl : ((args.take i).map (fun a => (zBx l a : Int))).length = i := by simp; omega
 rw [Lst, List.set_append_right _ _ (by omega), hl, Nat.sub_self, List.drop_eq_getElem_cons h, List.set_cons_zero, Lst, List.take_succ_eq_append_getElem h, List.map_append, List.append_assoc]
 rfl
theorem zAX {h h' : AHeap} {base : Nat} {e : TypeId} {sz n : Nat} {v : AVal} {cells : List AVal} (B : Built h base e sz v n cells) (hk : ∀ c p, base <= c -> h.objs.get c = some p -> (∃ vs, p.2 = .cells false e vs) -> h'.objs.get c = some p) : Built h' base e sz v n cells := by
 rcases B with B | B | ⟨b, vs, ver, h0, h1, h2, h3⟩
 ·exact .inl B
 ·exact .inr (.inl B)
 ·exact .inr (.inr ⟨b, vs, ver, h0, h1, hk _ _ h0 h2 ⟨vs, rfl⟩, h3⟩)
def OwnG (h : AHeap) (base : Nat) (v : AVal) (g : Graph) : Prop := ∃ (nv : AVal) (cs : List (List AVal)), v = .agg [nv, .int .i64 g.root] /\ Built h base 36 5 nv g.nodes.length cs.flatten /\ cs.length = g.nodes.length /\ ∀ (i : Nat) c n, cs[i]? = some c -> g.nodes[i]? = some n -> OwnN h base c n
theorem OwnG.graph {h : AHeap} {base : Nat} {v : AVal} {g : Graph} (k : OwnG h base v g) : GraphAt h v g := by
 obtain ⟨nv, cs, rfl, kB, kl, kn⟩ := k
 refine ⟨nv, rfl, cs, kB.sl (by decide) rfl (fun c hc => ?_) kl, kl, fun i n c hn hc => OwnN_at (kn i c n hc hn)⟩
 obtain ⟨i, hi, rfl⟩ := List.mem_iff_getElem.1 hc
 obtain ⟨_, _, hcs, _⟩ := kn i _ _ (List.getElem?_eq_getElem hi) (List.getElem?_eq_getElem (by omega))
 rw [hcs]; rfl
theorem OwnG.stay {h h' : AHeap} {base : Nat} {v : AVal} {g : Graph} (k : OwnG h base v g) (hk : ∀ c p, base <= c -> h.objs.get c = some p -> ((∃ vs, p.2 = .cells false 36 vs) \/ (∃ vs, p.2 = .cells false 3 vs) \/ ∃ vs, p.2 = .cells false 9 vs) -> h'.objs.get c = some p) : OwnG h' base v g := by
 obtain ⟨nv, cs, rfl, kB, kl, kn⟩ := k
 refine ⟨nv, cs, rfl, zAX kB fun c p hc hp ht => hk c p hc hp (.inl ht), kl, fun i c n hc hn => ?_⟩
 obtain ⟨av, lv, q1, q2, q3⟩ := kn i c n hc hn
 exact ⟨av, lv, q1, zAX q2 fun c p hc hp ht => hk c p hc hp (.inr (.inl ht)), zAX q3 fun c p hc hp ht => hk c p hc hp (.inr (.inr ht))⟩
theorem OwnG.grow {h h' : AHeap} {base : Nat} {v : AVal} {g : Graph} (k : OwnG h base v g) (gr : Grow h h') : OwnG h' base v g := k.stay fun _ _ _ hp _ => gr.keep _ _ hp
theorem OwnG.base {h : AHeap} {base base' : Nat} {v : AVal} {g : Graph} (k : OwnG h base v g) (hb : base' <= base) : OwnG h base' v g := by
 obtain ⟨nv, cs, rfl, kB, kl, kn⟩ := k
 refine ⟨nv, cs, rfl, zBG kB hb, kl, fun i c n hc hn => ?_⟩
 obtain ⟨av, lv, q1, q2, q3⟩ := kn i c n hc hn
 exact ⟨av, lv, q1, zBG q2 hb, zBG q3 hb⟩
structure TInv (h0 : AHeap) (b1 b2 bm : Nat) (nv : AVal) (root : Int) (l : List Int) (ns : List Node) (hp : AHeap) : Prop where
 grow : Grow h0 hp
 o1 : ∃ ver, hp.objs.get b1 = some (ver, .cells false 24 [nv, .int .i64 root])
 om : ∃ ver, hp.objs.get bm = some (ver, .map (toEs 0 l) l.length)
 o2 : ∃ (ver : Nat) (vo : AVal) (cs : List (List AVal)), hp.objs.get b2 = some (ver, .cells false 24 [vo, .int .i64 0]) /\ Built hp h0.next 36 5 vo ns.length cs.flatten /\ cs.length = ns.length /\ ∀ (i : Nat) c n, cs[i]? = some c -> ns[i]? = some n -> OwnN hp h0.next c n
 low : h0.next <= b1 /\ b1 < b2 /\ b2 < hp.next
theorem TInv.other {h0 : AHeap} {b1 b2 bm : Nat} {nv : AVal} {root : Int} {l : List Int} {ns : List Node} {hp hq : AHeap} (I : TInv h0 b1 b2 bm nv root l ns hp) (g : Grow hp hq) : TInv h0 b1 b2 bm nv root l ns hq := by
 obtain ⟨v1, k1⟩ := I.o1
 obtain ⟨vm, km⟩ := I.om
 obtain ⟨v2, vo, cs, k2, kB, kl, kn⟩ := I.o2
 exact ⟨I.grow.trans g, ⟨v1, g.keep _ _ k1⟩, ⟨vm, g.keep _ _ km⟩, ⟨v2, vo, cs, g.keep _ _ k2, kB.grow g, kl, fun i c n hc hn => OwnN_stay (kn i c n hc hn) fun b p hb _ => g.keep _ _ hb⟩, I.low.1, I.low.2.1, Nat.lt_of_lt_of_le I.low.2.2 g.next⟩
section
variable {fns : FnsT} {summ : SumT}
theorem cd_post {ro : Option Nat} {c : ACode} {a : AAct} {h : AHeap} {Q : AExit -> AAct -> AHeap -> Prop} (I : AAct -> AHeap -> Prop) (k1 : Cd fns summ ro c a h (nxt I fun _ _ _ => False)) (k2 : ∀ a h, I a h -> Q .normal a h) : Cd fns summ ro c a h Q :=
 k1.mono fun e a1 h1 hq => by cases e with
  | normal => exact k2 a1 h1 hq
  | ret => exact hq.elim
  | exit i => exact hq.elim
variable (H : Has fns summ)
include H
theorem Trim_ok (g : Graph) (hg : GSm g) (v : AVal) (h : AHeap) (hw : WF h) (hv : GraphAt h v g) : Cl fns summ 38 [v] h fun r h' => OwnG h' h.next r (zCE g) /\ Grow h h' := by
 obtain ⟨nv, rfl, hN⟩ := hv
 obtain ⟨hOk, hNd⟩ := zCc g
 have hlen := hN.len
 refine H.go (fn := F_Trim) rfl (by decide) rfl rfl ?_
 unfold F_Trim
 dsimp only [qQ, qE, qN, gQ, gE, vi, tm, mt, lo, fa]
 refine zAE (zAD ?_)
 refine zBL (by exact e1) (by exact cc) hw ?_
 rintro b1 h1 hb1 g1 o1
 refine zAY g1.wf ?_
 rintro b2 h2 hb2 g2 o2
 have l1 := g1.wf.lt o1
 replace o1 := g2.keep _ _ o1
 have g02 := g1.trans g2
 have hpart : zBC (some 2) [nv, .int .i64 g.root] 0 = some (.agg [nv, .int .i64 g.root]) := rfl
 repeat with_reducible first | refine zAA ?_ | refine zAC ?_ | refine zAE ?_ | refine zAD ?_ | (apply st_q; exact q1)
 refine zAb (by exact s1) ((Reach_ok H g hg _ h2 g2.wf ⟨nv, rfl, hN.mono g02⟩).mono ?_)
 rintro rv h3 ⟨hR, g3⟩
 replace o1 := g3.keep _ _ o1
 replace o2 := g3.keep _ _ o2
 have g03 := g02.trans g3
 have hrl := hR.len
 repeat with_reducible first | refine zAA ?_ | refine zAC ?_ | refine zAE ?_ | refine zAD ?_ | (apply st_q; exact q1)
 refine zFf (.inr ⟨_, _, _, rfl, by exact e1⟩) g3.wf ?_
 rintro bm h4 hbm g4 om
 have l2 := g3.wf.lt o2
 replace o1 := g4.keep _ _ o1
 replace o2 := g4.keep _ _ o2
 have hR4 := zEC (hR.grow g4)
 have hR4B := zBG (hR.grow g4) (b' := h.next) g02.next
 have g04 := g03.trans g4
 have hlr : (zAM g).length < 2 ^ 60 := by
  have := zJD hg
  have e30 : (2 : Nat) ^ 30 = 1073741824 := by decide
  omega
 repeat with_reducible first | refine zAA ?_ | refine zAC ?_ | refine zAE ?_ | refine zAD ?_ | (apply st_q; exact q1)
 refine zAz (N := (zAM g).length) (by omega) (fun j a hp => (∃ ver, hp.objs.get bm = some (ver, .map (toEs 0 ((zAM g).take j)) j)) /\ (hp = h4 \/ But bm h4 hp) /\ a.defers = [] /\ ev a (.tmp 1) = some (.ptr (some (b1, 0))) /\ ev a (.tmp 2) = some (.ptr (some (b2, 0))) /\ ev a (.tmp 3) = some rv /\ ev a (.tmp 4) = some (.map (some bm)) /\ ev a (.tmp 17) = some rv)
  (by rintro j a hp t w (rfl | rfl | rfl) ⟨h1, h2, h3, h4, h5, h6, h7, h8⟩ <;> exact ⟨h1, h2, by rw [zAc]; exact h3, by exact e1, by exact e1, by exact e1, by exact e1, by exact e1⟩) (by decide) ?_ ?_ ⟨⟨_, om⟩, .inl rfl, by exact n1, by exact e1, by exact e1, by exact e1, by exact e1, by exact e1⟩ (by exact e1) (by exact e1)
 ·rintro j a hp hj ⟨⟨ver, o⟩, hb, hd, e1', e2', e3', e4', e17⟩ hi hn
  have hc : (zAM g)[j]? = some (zAM g)[j] := List.getElem?_eq_getElem hj
  have hkp : ∀ c p, h4.objs.get c = some p -> c ≠ bm -> hp.objs.get c = some p := fun c p h1 h2 => by
   rcases hb with rfl | hb
   ·exact h1
   ·exact hb.keep c h2 _ h1
  have hwp : WF hp := by
   rcases hb with rfl | hb
   ·exact g4.wf
   ·exact hb.wf g4.wf
  obtain ⟨bb, ob, verb, rb, eb, vsb, hix, hget', hvo⟩ := hR4.at hc
  have hget := hkp _ _ hget' (by rintro rfl; rw [om] at hget'; cases hget')
  have hnin : ((zAM g).take j).contains (zAM g)[j] = false := by
   rw [Bool.eq_false_iff]
   intro hh
   simp only [List.contains_eq_mem, decide_eq_true_eq] at hh
   obtain ⟨i, hi', he⟩ := List.mem_iff_getElem.1 hh
   rw [List.getElem_take] at he
   have hij := (List.getElem_inj hNd).1 he
   simp only [List.length_take] at hi'
   omega
  have hf : zBm .int (.int .i64 (zAM g)[j]) (toEs 0 ((zAM g).take j)) 0 = some none := by rw [zIV, hnin]; rfl
  clear hget' hkp
  repeat with_reducible first | refine zAA ?_ | refine zAC ?_ | refine zAE ?_ | refine zAD ?_ | refine zAP ?_ | (apply st_q; exact q1)
  refine zIP (by exact e1) (by exact e1) (by exact e1) (by intro hh; cases hh) rfl hwp o hf ?_
  rintro ver' h5 p5 o5
  have ht : toEs 0 ((zAM g).take j) ++ [(.int .i64 (zAM g)[j], .int .i64 (j : Nat), j)] = toEs 0 ((zAM g).take (j + 1)) := by
   rw [List.take_succ_eq_append_getElem hj, zMX, Nat.zero_add, List.length_take, Nat.min_eq_left (Nat.le_of_lt hj)]
  rw [ht] at o5
  have hb5 : But bm h4 h5 := by
   rcases hb with rfl | hb
   ·exact p5
   ·exact hb.trans p5
  repeat with_reducible first | refine zAA ?_ | refine zAQ ?_ | refine zAC ?_
  exact ⟨⟨⟨_, o5⟩, .inr hb5, by exact n1, by exact e1, by exact e1, by exact e1, by exact e1, by exact e1⟩, by exact e1, by exact e1⟩
 ·rintro a h5 ⟨⟨ver5, om5⟩, hb, hd, e1', e2', e3', e4', _⟩
  rw [List.take_length] at om5
  have hkp : ∀ c p, h4.objs.get c = some p -> c ≠ bm -> h5.objs.get c = some p := fun c p h1 h2 => by
   rcases hb with rfl | hb
   ·exact h1
   ·exact hb.keep c h2 _ h1
  have g05 : Grow h h5 := by
   rcases hb with rfl | hb
   ·exact g04
   ·exact hb.grow h hw g04 (by have := g03.next; omega)
  have n4 : h4.next <= h5.next := by
   rcases hb with rfl | hb
   ·exact Nat.le_refl _
   ·exact hb.next
  have hR5 : Built h5 h.next 3 1 rv (zAM g).length ((zAM g).map (AVal.int .i64)) := zBM hR4B fun c p hc ⟨vs, hp⟩ _ => hkp c p hc (by
   rintro rfl
   rw [om] at hc
   simp only [oI] at hc
   rw [<- hc] at hp; cases hp)
  have I0 : TInv h b1 b2 bm nv g.root (zAM g) [] h5 :=
   ⟨g05, ⟨_, hkp _ _ o1 (by rintro rfl; rw [om] at o1; cases o1)⟩, ⟨_, om5⟩, ⟨_, _, [], hkp _ _ o2 (by rintro rfl; rw [om] at o2; cases o2), .inl ⟨rfl, rfl, rfl⟩, rfl, fun i c n hc => by simp at hc⟩, hb1, by omega, by have := g4.next; omega⟩
  clear o1 o2 om om5 hkp hR hR4 hR4B g1 g2 g3 g4 g02 g03 g04 hb n4
  have hsub : ∀ (p q : Nat × AObj) (hp : AHeap), True := fun _ _ _ => trivial
  clear hsub
  repeat with_reducible first | refine zAA ?_ | refine zAC ?_ | refine zAE ?_ | refine zAD ?_ | (apply st_q; exact q1)
  refine zAz (N := (zAM g).length) (by omega) (fun j a hp => TInv h b1 b2 bm nv g.root (zAM g) (((zAM g).take j).map fun i => zEw (zAM g) (zAB g i)) hp /\ Built hp h.next 3 1 rv (zAM g).length ((zAM g).map (AVal.int .i64)) /\ a.defers = [] /\ ev a (.tmp 1) = some (.ptr (some (b1, 0))) /\ ev a (.tmp 2) = some (.ptr (some (b2, 0))) /\ ev a (.tmp 4) = some (.map (some bm)) /\ ev a (.tmp 28) = some rv)
   (by rintro j a hp t w (rfl | rfl | rfl) ⟨h1, h2, h3, h4, h5, h6, h7⟩ <;> exact ⟨h1, h2, by rw [zAc]; exact h3, by exact e1, by exact e1, by exact e1, by exact e1⟩) (by decide) ?_ ?_ ⟨I0, hR5, by exact n1, by exact e1, by exact e1, by exact e1, by exact e1⟩ (by exact e1) (by exact e1)
  ·clear I0 hR5 hd e1' e2' e3' e4'
   rintro j a hp hj ⟨I, hRj, hd, e1', e2', e4', e28⟩ hi hn
   obtain ⟨k0, k1⟩ := hOk _ (List.getElem_mem hj)
   obtain ⟨k, hk⟩ : ∃ k : Nat, (zAM g)[j] = (k : Int) := ⟨_, (Int.toNat_of_nonneg k0).symm⟩
   have hkN : k < g.nodes.length := by rw [hk] at k1; omega
   have hnd : zAB g (zAM g)[j] = g.nodes[k] := by rw [hk]; simp [zAB, List.getElem?_eq_getElem hkN]
   have hc : (zAM g)[j]? = some (k : Int) := by rw [List.getElem?_eq_getElem hj, hk]
   have hmem := List.getElem_mem hkN
   have hlab := hg.labs _ hmem
   have harg : g.nodes[k].args.length <= 2 ^ 30 := by
    have h1 := zDP g.nodes 0 _ hmem
    have h2 := hg.total
    omega
   have e30 : (2 : Nat) ^ 30 = 1073741824 := by decide
   have e31 : (2 : Nat) ^ 31 = 2147483648 := by decide
   obtain ⟨bb, ob, verb, rb, eb, vsb, hix, hget, hvo⟩ := (zEC hRj).at hc
   obtain ⟨bn, on, vern, ron, en, vsn, av, lv, hixn, hgn, hvl, hv5, _, _, _, _, _, ha, hl⟩ := (hN.mono I.grow).at (List.getElem?_eq_getElem hkN)
   have hpart5 : zBC (some 5) vsn on = some (zEj g.nodes[k] av lv) := by rw [zBC, if_pos hvl, hv5]; rfl
   obtain ⟨ver1, o1⟩ := I.o1
   clear hk hnd
   have hnd : zAB g (zAM g)[j] = g.nodes[k] := by
    have : (zAM g)[j] = (k : Int) := by
     rw [List.getElem?_eq_getElem hj] at hc; exact Option.some.inj hc
    rw [this]; simp [zAB, List.getElem?_eq_getElem hkN]
   have hnd' := hnd
   clear hnd
   repeat with_reducible first | refine zAA ?_ | refine zAC ?_ | refine zAE ?_ | refine zAD ?_ | refine zAP ?_ | (apply st_q; exact q1)
   refine zAY I.grow.wf ?_
   rintro b9 h6 hb9 g6 o9
   refine zAG (by exact e1) (by exact e1) (cs := [.int .i64 g.nodes[k].kind, .str g.nodes[k].name, av, lv, .bool g.nodes[k].isOpen]) rfl rfl g6.wf o9 (by simp) (zCP ha.len hl.len) ?_
   rintro v7 h7 p7 o7
   simp only [zlY, zlA, zlC, zlN, zlD, zlZ, zlE, Nat.zero_add, Nat.reduceAdd, zlX, zlK] at o7
   have g7 : Grow hp h7 := p7.grow hp I.grow.wf g6 hb9
   clear o9 p7 g6 hix hget hvo hixn hgn hpart5 hv5 o1
   repeat with_reducible first | refine zAA ?_ | refine zAC ?_ | refine zAE ?_ | refine zAD ?_ | (apply st_q; exact q1)
   refine zAb (by exact s1) ((CloneStr_ok H g.nodes[k].labels (by omega) lv h7 g7.wf (hl.mono g7)).mono ?_)
   rintro cs1 h8 ⟨B8, g8⟩
   replace o7 := g8.keep _ _ o7
   have gg8 := g7.trans g8
   repeat with_reducible (apply st_q; exact q1)
   refine zAG (by exact e1) (by exact e1) (zAg B8.len) rfl g8.wf o7 (by simp) (by simp only [List.all_cons, List.all_nil, zAR B8.len, Bool.and_true]) ?_
   rintro v9 h9 p9 o9
   simp only [zlT, zlY, zlA, zlC, zlN, zlD, zlZ, zlE, Nat.zero_add, Nat.reduceAdd, zlX, zlK] at o9
   have g9 : Grow hp h9 := p9.grow hp I.grow.wf gg8 hb9
   have B9 := zAS B8 p9 o7 (fun vs hh => by cases hh)
   have nx8 := gg8.next
   have nx9 := g9.next
   have nx7 := g7.next
   clear B8 g8 p9 o7 gg8 g7
   repeat with_reducible first | refine zAA ?_ | refine zAC ?_ | refine zAE ?_ | refine zAD ?_ | (apply st_q; exact q1)
   refine zAb (by exact s1) ((CloneInt_ok H g.nodes[k].args (by omega) av h9 g9.wf (ha.mono g9)).mono ?_)
   rintro ci1 h10 ⟨B10, g10⟩
   replace o9 := g10.keep _ _ o9
   have gg10 := g9.trans g10
   replace B9 := B9.grow g10
   repeat with_reducible (apply st_q; exact q1)
   refine zAG (by exact e1) (by exact e1) (zAg B10.len) rfl g10.wf o9 (by simp) (by simp only [List.all_cons, List.all_nil, zAR B10.len, Bool.and_true]) ?_
   rintro v11 h11 p11 o11
   simp only [zlT, zlY, zlA, zlC, zlN, zlD, zlZ, zlE, Nat.zero_add, Nat.reduceAdd, zlX, zlK] at o11
   have g11 : Grow hp h11 := p11.grow hp I.grow.wf gg10 hb9
   have B11 : Built h11 hp.next 9 1 cs1 g.nodes[k].labels.length (g.nodes[k].labels.map AVal.str) := zBG (zAS B9 p11 o9 (fun vs hh => by cases hh)) nx7
   have C11 : Built h11 hp.next 3 1 ci1 g.nodes[k].args.length (g.nodes[k].args.map (AVal.int .i64)) := zBG (zAS B10 p11 o9 (fun vs hh => by cases hh)) nx9
   have hci := C11.len
   clear B9 B10 g10 p11 o9 gg10 g9
   repeat with_reducible first | refine zAA ?_ | refine zAC ?_ | refine zAE ?_ | refine zAD ?_ | (apply st_q; exact q1)
   have hlo : Lst (zAM g) g.nodes[k].args 0 = g.nodes[k].args := by simp [Lst]
   have hle : Lst (zAM g) g.nodes[k].args g.nodes[k].args.length = (zEw (zAM g) g.nodes[k]).args := by simp [Lst, zEw]
   refine cd_post (fun a' hq => (∀ c p, h11.objs.get c = some p -> (∀ n, ci1 ≠ .slice (some (c, 0)) n) -> hq.objs.get c = some p) /\ Grow hp hq /\ h11.next <= hq.next /\ Built hq hp.next 3 1 ci1 g.nodes[k].args.length ((Lst (zAM g) g.nodes[k].args g.nodes[k].args.length).map (AVal.int .i64)) ∧
    a'.defers = [] /\ ev a' (.tmp 1) = some (.ptr (some (b1, 0))) /\ ev a' (.tmp 2) = some (.ptr (some (b2, 0))) /\ ev a' (.tmp 4) = some (.map (some bm)) /\ ev a' (.tmp 28) = some rv /\ ev a' (.tmp 9) = some (.ptr (some (b9, 0))) /\ ev a' (.tmp 30) = some (.int .i64 (j : Nat)) /\ ev a' (.tmp 29) = some (.int .i64 ((zAM g).length : Nat))) ?_ ?_
   ·refine zAz (N := g.nodes[k].args.length) (by omega) (fun i a' hq => (∀ c p, h11.objs.get c = some p -> (∀ n, ci1 ≠ .slice (some (c, 0)) n) -> hq.objs.get c = some p) /\ Grow hp hq /\ h11.next <= hq.next /\ Built hq hp.next 3 1 ci1 g.nodes[k].args.length ((Lst (zAM g) g.nodes[k].args i).map (AVal.int .i64)) ∧
     a'.defers = [] /\ ev a' (.tmp 1) = some (.ptr (some (b1, 0))) /\ ev a' (.tmp 2) = some (.ptr (some (b2, 0))) /\ ev a' (.tmp 4) = some (.map (some bm)) /\ ev a' (.tmp 28) = some rv /\ ev a' (.tmp 9) = some (.ptr (some (b9, 0))) /\ ev a' (.tmp 30) = some (.int .i64 (j : Nat)) /\ ev a' (.tmp 29) = some (.int .i64 ((zAM g).length : Nat)) /\ ev a' (.tmp 48) = some ci1)
     (by rintro i a' hq t w (rfl | rfl | rfl) ⟨m1, m2, m3, m4, m5, m6, m7, m8, m9, m10, m11, m12, m13⟩ <;> exact ⟨m1, m2, m3, m4, by rw [zAc]; exact m5, by exact e1, by exact e1, by exact e1, by exact e1, by exact e1, by exact e1, by exact e1, by exact e1⟩) (by decide) ?_ ?_
     ⟨fun c p hc _ => hc, g11, Nat.le_refl _, by rw [hlo]; exact C11, by exact n1, by exact e1, by exact e1, by exact e1, by exact e1, by exact e1, by exact e1, by exact e1, by exact e1⟩ (by exact e1) (by exact e1)
    ·obtain ⟨verm, om⟩ := (I.other g11).om
     clear hd e1' e2' e4' e28 hi hn
     rintro i a' hq hil ⟨hkp, gq, nq, hB, hd, e1', e2', e4', e28, e9, e30', e29, e48⟩ hi hn
     rcases hB with ⟨_, hh, _⟩ | ⟨_, hh, _⟩ | ⟨ba, vsa, vera, hba, hcq, hga, hla, hta⟩
     ·omega
     ·omega
     rw [Nat.mul_one] at hla hta
     have hixa : slA ci1 1 i = some (ba, i) := by rw [hcq]; simp [slA, hil]
     have hva : vsa[i]? = some (.int .i64 g.nodes[k].args[i]) := by
      have := congrArg (fun l => l[i]?) hta
      simp only [List.getElem?_take, if_pos hil, List.getElem?_map, Lst_get hil, Option.map_some] at this
      exact this
     have o9q := hkp _ _ o11 (zAK C11 o11 fun vs hh => by cases hh)
     have hlk := look_to (hkp _ _ om (zAK C11 om fun vs hh => by cases hh)) g.nodes[k].args[i]
     clear hcq
     repeat with_reducible first | refine zAA ?_ | refine zAC ?_ | refine zAE ?_ | refine zAD ?_ | refine zAP ?_ | (apply st_q; exact q1)
     refine zAG (by exact e1) (by exact e1) (by exact cc) rfl gq.wf hga (by simp; omega) rfl ?_
     rintro vz hz pz oz
     simp only [zlC, zlN, Nat.zero_add] at oz
     have hcq : ci1 = .slice (some (ba, 0)) g.nodes[k].args.length := by
      rcases zGx hci with h1 | ⟨b, o, h1⟩ | ⟨_, hh⟩ | ⟨_, hh⟩
      ·rw [h1] at hixa; cases hixa
      ·rw [h1] at hixa
       simp only [slA, if_pos hil, oI, Prod.mk.injEq] at hixa
       obtain ⟨rfl, h2⟩ := hixa
       rw [h1, show o = 0 by omega]
      ·omega
      ·omega
     repeat with_reducible first | refine zAA ?_ | refine zAQ ?_ | refine zAC ?_
     refine ⟨⟨fun c p hc hne => pz.keep c (by rintro rfl; exact hne _ hcq) _ (hkp c p hc hne), pz.grow hp I.grow.wf gq hba, Nat.le_trans nq pz.next, .inr (.inr ⟨ba, _, _, hba, hcq, oz, by simp; omega, ?_⟩), by exact n1, by exact e1, by exact e1, by exact e1, by exact e1, by exact e1, by exact e1, by exact e1, by exact e1⟩, by exact e1, by exact e1⟩
     rw [Nat.mul_one, zJx hil hla, hta, <- Lst_set hil, List.map_set]
    ·rintro a' hq ⟨m1, m2, m3, m4, m5, m6, m7, m8, m9, m10, m11, m12, _⟩
     exact ⟨m1, m2, m3, m4, m5, m6, m7, m8, m9, m10, m11, m12⟩
   ·clear hd e1' e2' e4' e28 hi hn
    rintro a' hq ⟨hkp, gq, nq, hB, hd, e1', e2', e4', e28, e9, e30', e29⟩
    rw [hle] at hB
    have Iq := I.other gq
    have o9q := hkp _ _ o11 (zAK C11 o11 fun vs hh => by cases hh)
    have B9q : Built hq hp.next 9 1 cs1 g.nodes[k].labels.length (g.nodes[k].labels.map AVal.str) := zBM B11 fun c p hc hcp _ => hkp c p hc (zAK C11 hc fun vs hh => by
     obtain ⟨vs', hcp⟩ := hcp
     rw [hcp] at hh; cases hh)
    obtain ⟨ver2, vo, cs, o2, kB, kl, kn⟩ := Iq.o2
    have nl : (((zAM g).take j).map fun i => zEw (zAM g) (zAB g i)).length = j := by simp; omega
    rw [nl] at kB kl
    have hrf := zJD hg
    repeat with_reducible first | refine zAA ?_ | refine zAD ?_ | (apply st_q; exact q1)
    refine zAp (by exact e1) (cs := [.int .i64 g.nodes[k].kind, .str g.nodes[k].name, ci1, cs1, .bool g.nodes[k].isOpen]) rfl rfl rfl gq.wf ?_
    rintro bx h12 hbx g12 ox
    have kB' := kB.grow g12
    refine zAy (by exact e1) (by exact e1) kB' ox rfl (zCP hci B11.len) (zDU H (by decide) (by omega)) g12.wf (by have := I.grow.next; have := gq.next; have := g12.next; omega) ?_
    rintro vo' h13 B13 f13 w13 n13 gr13 kp13
    have o2' := kp13 _ _ (g12.keep _ _ o2) (zAK kB' (g12.keep _ _ o2) fun vs hh => by cases hh)
    have g13 : Grow h h13 := gr13 h hw (Iq.grow.trans g12) (Nat.le_refl _)
    repeat with_reducible (apply st_q; exact q1)
    refine zAG (by exact e1) (by exact e1) (zAg B13.len) rfl w13 o2' (by simp) (by simp only [List.all_cons, List.all_nil, zAR B13.len, Bool.and_true]) ?_
    rintro v14 h14 p14 o14
    simp only [zlT, zlY, zlA, zlC, zlN, zlD, zlZ, zlE, Nat.zero_add, Nat.reduceAdd, zlX, zlK] at o14
    have hstay : ∀ c p, hq.objs.get c = some p -> (∀ vs, p.2 ≠ .cells false 36 vs) -> c ≠ b2 -> h14.objs.get c = some p := fun c p hc hp hne => p14.keep c hne _ (kp13 _ _ (g12.keep _ _ hc) (zAK kB' (g12.keep _ _ hc) hp))
    obtain ⟨vr1, k1'⟩ := Iq.o1
    obtain ⟨vrm, km'⟩ := Iq.om
    have n14 := p14.next
    have n12 := g12.next
    have hns : ((zAM g).take (j + 1)).map (fun i => zEw (zAM g) (zAB g i)) = ((zAM g).take j).map (fun i => zEw (zAM g) (zAB g i)) ++ [zEw (zAM g) g.nodes[k]] := by
     rw [List.take_succ_eq_append_getElem hj, List.map_append]
     simp only [List.map_cons, List.map_nil, hnd']
    have hown : ∀ {c : List AVal} {n : Node}, OwnN hq h.next c n -> OwnN h14 h.next c n := fun kk => OwnN_stay kk fun b p hb hp => hstay b p hb (fun vs hh => by rcases hp with ⟨vs', hp⟩ | ⟨vs', hp⟩ <;> (rw [hp] at hh; cases hh)) (by
     rintro rfl
     rw [o2] at hb
     simp only [oI] at hb
     rcases hp with ⟨vs', hp⟩ | ⟨vs', hp⟩ <;> (rw [<- hb] at hp; cases hp))
    have I14 : TInv h b1 b2 bm nv g.root (zAM g) (((zAM g).take (j + 1)).map fun i => zEw (zAM g) (zAB g i)) h14 := by
     refine ⟨p14.grow h hw g13 (by have := I.low; omega), ⟨_, hstay _ _ k1' (fun vs hh => by cases hh) (by have := I.low; omega)⟩, ⟨_, hstay _ _ km' (fun vs hh => by cases hh) (by rintro rfl; rw [o2] at km'; cases km')⟩, ⟨_, vo', cs ++ [[.int .i64 g.nodes[k].kind, .str g.nodes[k].name, ci1, cs1, .bool g.nodes[k].isOpen]], o14, ?_, ?_, ?_⟩, I.low.1, I.low.2.1, by have := I.low; have := gq.next; omega⟩
     ·have : (((zAM g).take (j + 1)).map fun i => zEw (zAM g) (zAB g i)).length = j + 1 := by simp; omega
      rw [this, List.flatten_append]
      exact zAS (by simpa using B13) p14 o2' (fun vs hh => by cases hh)
     ·simp [kl]; omega
     ·intro i c n hcc hnn
      rw [hns] at hnn
      rcases Nat.lt_or_ge i j with hij | hij
      ·rw [List.getElem?_append_left (by omega)] at hcc
       rw [List.getElem?_append_left (by omega)] at hnn
       exact hown (kn i c n hcc hnn)
      ·rw [List.getElem?_append_right (by omega), kl] at hcc
       rw [List.getElem?_append_right (by omega), nl] at hnn
       obtain rfl : i = j := by
        have := (List.getElem?_eq_some_iff.1 hcc).1
        simp only [zlC, zlN] at this
        omega
       rw [Nat.sub_self, List.getElem?_cons_zero, oI] at hcc hnn
       subst hcc; subst hnn
       refine hown ⟨ci1, cs1, rfl, ?_, zBG B9q (by have := I.grow.next; omega)⟩
       have hl2 : (zEw (zAM g) g.nodes[k]).args.length = g.nodes[k].args.length := by simp [zEw]
       rw [hl2]
       exact zBG hB (by have := I.grow.next; omega)
    have hR14 : Built h14 h.next 3 1 rv (zAM g).length ((zAM g).map (AVal.int .i64)) := zBM (hRj.grow gq) fun c p hc' ⟨vs, hp'⟩ _ => hstay c p hc' (fun vs' hh => by rw [hp'] at hh; cases hh) (by
     rintro rfl
     rw [o2] at hc'
     simp only [oI] at hc'
     rw [<- hc'] at hp'; cases hp')
    repeat with_reducible first | refine zAA ?_ | refine zAQ ?_ | refine zAC ?_
    exact ⟨⟨I14, hR14, by exact n1, by exact e1, by exact e1, by exact e1, by exact e1⟩, by exact e1, by exact e1⟩
  ·rintro a hp ⟨I, _, hd, e1', e2', _, _⟩
   rw [List.take_length] at I
   obtain ⟨ver2, vo, cs, o2, kB, kl, kn⟩ := I.o2
   repeat with_reducible first | refine zAA ?_ | refine zAE ?_ | refine zAD ?_ | (apply st_q; exact q1)
   have hone := zAR kB.len
   refine zAG (by exact e1) (by exact e1) (cs := [vo, .int .i64 0]) rfl rfl I.grow.wf o2 (by simp) (by simp only [List.all_cons, List.all_nil, hone, Bool.true_and, Bool.and_true]; rfl) ?_
   rintro v9 h9 p9 o9
   simp only [zlY, zlA, zlC, zlN, zlD, zlZ, zlE, Nat.zero_add, Nat.reduceAdd, zlX, zlK] at o9
   repeat with_reducible first | refine zAA ?_ | refine zAC ?_ | refine zAO ?_
   have hl2 := I.low
   refine zAI (v := .agg [vo, .int .i64 0]) (by exact n1) ?_ ⟨?_, p9.grow h hw I.grow (by omega)⟩
   ·have hp2 : zBC (some 2) [vo, .int .i64 0] 0 = some (.agg [vo, .int .i64 0]) := rfl
    simp only [zCD, mapO, zGB, zCd, zDX, zCI, zBE, zBS, Nat.reduceEqDiff, if_false, e2', o9, hp2]
   ·have hB9 := zAS kB p9 o2 (fun vs hh => by cases hh)
    have hlen0 : (zCE g).nodes.length = ((zAM g).map fun i => zEw (zAM g) (zAB g i)).length := rfl
    exact ⟨vo, cs, rfl, hB9, by rw [hlen0]; exact kl, fun i c n hc hn => OwnN_stay (kn i c n hc hn) fun b p hb hp => p9.keep b (by
     rintro rfl
     rw [o2] at hb
     simp only [oI] at hb
     rcases hp with ⟨vs', hp⟩ | ⟨vs', hp⟩ <;> (rw [<- hb] at hp; cases hp)) _ hb⟩
end
end Go.Ab.S
end
section
namespace Go.Ab.S
open Go.Ab
set_option maxHeartbeats 8000000
def eqLL : List (List Nat) -> List (List Nat) -> Bool
 | [], [] => true
 | a :: x, b :: y => eqL a b && eqLL x y
 | _, _ => false
theorem zNc {x y : List (List Nat)} {i : Nat} (hx : i < x.length) (hy : i < y.length) : eqLL (x.drop i) (y.drop i) = (eqL x[i] y[i] && eqLL (x.drop (i + 1)) (y.drop (i + 1))) := by
 rw [List.drop_eq_getElem_cons hx, List.drop_eq_getElem_cons hy, eqLL]
theorem zLy : ∀ {x y : List (List Nat)}, x.length ≠ y.length -> eqLL x y = false
 | [], [], h => absurd rfl h
 | [], _ :: _, _ => rfl
 | _ :: _, [], _ => rfl
 | a :: x, b :: y, h => by
  rw [eqLL, zLy (x := x) (y := y) (by simpa using h), Bool.and_false]
def zEu (n : Node) : Bool := n.kind == 1 || (n.kind == 3 && n.isOpen)
def zEx (a b : Node) : Bool := (((a.kind == b.kind && eqL a.name b.name) && a.isOpen == b.isOpen) && a.args.length == b.args.length) && eqLL a.labels b.labels
section
variable {fns : FnsT} {summ : SumT}
variable (H : Has fns summ)
include H
theorem EqualStr_ok (x y : List (List Nat)) (hx : x.length < 2 ^ 60) (v u : AVal) (h : AHeap) (hv : StrsAt h v x) (hu : StrsAt h u y) : Cl fns summ 64 [v, u] h fun r h' => r = .bool (eqLL x y) /\ h' = h := by
 refine H.go (fn := F_EqualStr) rfl (by decide) rfl rfl ?_
 unfold F_EqualStr
 dsimp only [qQ, qE, qN, gQ, gE, vi, tm, mt, lo, fa]
 have hl1 := hv.len
 have hl2 := hu.len
 by_cases hne : x.length = y.length
 ·have hz : ((Int.ofNat x.length : Int) != Int.ofNat y.length) = false := by rw [hne]; simp
  have hly : ∀ j, j < x.length -> j < y.length := fun j hj => hne ▸ hj
  have hend : eqLL (x.drop x.length) (y.drop x.length) = true := by rw [List.drop_length, hne, List.drop_length]; rfl
  clear hne
  repeat with_reducible first | refine zAA ?_ | refine zAC ?_ | refine zAE ?_ | refine zAD ?_ | refine zAT ?_ | (apply st_q; exact q1) | (apply zAL; exact e1)
  refine zAz (N := x.length) (by omega) (fun j a hp => hp = h /\ a.defers = [] /\ ev a (.tmp 0) = some v /\ ev a (.tmp 1) = some u /\ eqLL x y = eqLL (x.drop j) (y.drop j))
   (by rintro j a hp t w (rfl | rfl | rfl) ⟨h1, h2, h3, h4, h5⟩ <;> exact ⟨h1, by rw [zAc]; exact h2, by exact e1, by exact e1, h5⟩) (by decide) ?_ ?_ ⟨rfl, by exact n1, by exact e1, by exact e1, rfl⟩ (by exact e1) (by exact e1)
  ·rintro j a hp hj ⟨rfl, hd, h0, h1, hr⟩ hi hn
   obtain ⟨b, o, ver, ro, e, vs, hix, hget, hvo⟩ := hv.at (List.getElem?_eq_getElem hj)
   have hyj := hly j hj
   obtain ⟨b', o', ver', ro', e', vs', hix', hget', hvo'⟩ := hu.at (List.getElem?_eq_getElem hyj)
   rw [zNc hj hyj] at hr
   clear hend hly
   cases hc : eqL x[j] y[j]
   ·rw [hc, Bool.false_and] at hr
    repeat' with_reducible first | refine zAA ?_ | refine zAa ?_ | refine zBP ?_ | refine zAC ?_ | refine zAE ?_ | refine zAD ?_ | refine zAP ?_ | refine zAO ?_ | refine zBz ?_ | refine zBQ ?_ | (apply dr_q; exact q1) | (apply zCs; exact q1; exact og1) | (apply st_q; exact q1) | (apply zAJ; exact e1) | (apply zAI; exact n1; exact r1)
    exact ⟨by rw [hr], rfl⟩
   ·rw [hc, Bool.true_and] at hr
    repeat with_reducible first | refine zAA ?_ | refine zAQ ?_ | refine zAC ?_ | refine zAE ?_ | refine zAD ?_ | refine zAP ?_ | refine zAT ?_ | refine zBz ?_ | refine zBQ ?_ | (apply dr_q; exact q1) | (apply zCs; exact q1; exact og1) | (apply st_q; exact q1) | (apply zAL; exact e1)
    exact ⟨⟨rfl, by exact n1, by exact e1, by exact e1, hr⟩, by exact e1, by exact e1⟩
  ·rintro a hp ⟨rfl, hd, h0, h1, hr⟩
   have hr' : eqLL x y = true := by rw [hr, hend]
   clear hr hend
   repeat' with_reducible first | refine zAA ?_ | refine zAC ?_ | refine zAE ?_ | refine zAD ?_ | refine zAO ?_ | (apply st_q; exact q1) | (apply zAI; exact n1; exact r1)
   exact ⟨by rw [hr'], rfl⟩
 ·have hz : ((Int.ofNat x.length : Int) != Int.ofNat y.length) = true := by simp; omega
  have hr := zLy hne
  repeat' with_reducible first | refine zAA ?_ | refine zAa ?_ | refine zAC ?_ | refine zAE ?_ | refine zAD ?_ | refine zAO ?_ | (apply st_q; exact q1) | (apply zAJ; exact e1) | (apply zAI; exact n1; exact r1)
  exact ⟨by rw [hr], rfl⟩

theorem gfree_ok (n : Node) (av lv : AVal) (h : AHeap) (hw : WF h) : Cl fns summ 42 [zEj n av lv] h fun r h' => r = .bool (zEu n) /\ Grow h h' := by
 unfold zEj
 refine H.go (fn := F_gfree) rfl (by decide) rfl rfl ?_
 unfold F_gfree
 dsimp only [qQ, qE, qN, gQ, gE, vi, tm, mt, lo, fa]
 refine zAE (zAD ?_)
 refine zBL (by exact e1) (by exact cc) hw ?_
 rintro b1 h1 hb1 gr1 o1
 repeat' with_reducible first | refine zAA ?_ | refine zAC ?_ | refine zAE ?_ | refine zAD ?_ | refine zAO ?_ | (apply st_q; exact q1) | (apply st_pO; exact e1; exact e2) | (apply zGE; exact e1; exact g1; exact q2) | (apply st_sA; exact e1; exact g1; exact e2; exact e3) | (apply zAI; exact n1; exact r1)
 exact ⟨rfl, gr1⟩
theorem alike_ok (x y : Node) (hx : NodeSm x) (av lv bv mv : AVal) (h : AHeap) (hw : WF h) (ha : IntsAt h av x.args) (hl : StrsAt h lv x.labels) (hb : IntsAt h bv y.args) (hm : StrsAt h mv y.labels) : Cl fns summ 41 [zEj x av lv, zEj y bv mv] h fun r h' => r = .bool (zEx x y) /\ Grow h h' := by
 unfold zEj
 have e1' := ha.len
 have e2' := hb.len
 have hz : ((Int.ofNat x.args.length : Int) == Int.ofNat y.args.length) = (x.args.length == y.args.length) := by rw [Bool.eq_iff_iff]; simp; omega
 refine H.go (fn := F_alike) rfl (by decide) rfl rfl ?_
 unfold F_alike
 dsimp only [qQ, qE, qN, gQ, gE, vi, tm, mt, lo, fa]
 refine zAE (zAD ?_)
 refine zBL (by exact e1) (by exact cc) hw ?_
 rintro b1 h1 hb1 gr1 o1
 refine zBL (by exact e1) (by exact cc) gr1.wf ?_
 rintro b2 h2 hb2 gr2 o2
 replace o1 := gr2.keep _ _ o1
 have gr := gr1.trans gr2
 cases hc : (((x.kind == y.kind && eqL x.name y.name) && x.isOpen == y.isOpen) && x.args.length == y.args.length)
 ·have hr : zEx x y = false := by rw [zEx, hc, Bool.false_and]
  repeat' with_reducible first | refine zAA ?_ | refine zAC ?_ | refine zAE ?_ | refine zAD ?_ | refine zAO ?_ | (apply st_q; exact q1) | (apply zIO; exact e1; exact e2) | (apply zDV; exact e1) | (apply zFN; exact e1) | (apply zGE; exact e1; exact g1; exact q2) | (apply zAI; exact n1; exact r1)
  exact ⟨by rw [hr], gr⟩
 ·have hr : zEx x y = eqLL x.labels y.labels := by rw [zEx, hc, Bool.true_and]
  repeat with_reducible first | refine zAA ?_ | refine zAC ?_ | refine zAE ?_ | refine zAD ?_ | (apply st_q; exact q1) | (apply zIO; exact e1; exact e2) | (apply zBW; exact e1; exact q1) | (apply zGE; exact e1; exact g1; exact q2)
  refine zBi (by exact e1) (by exact s1) ((EqualStr_ok H x.labels y.labels hx.labels lv mv h2 (hl.mono gr) (hm.mono gr)).mono ?_)
  rintro _ _ ⟨rfl, rfl⟩
  repeat' with_reducible first | refine zAA ?_ | refine zAC ?_ | refine zAO ?_ | (apply st_q; exact q1) | (apply zAI; exact n1; exact r1)
  exact ⟨by rw [hr], gr⟩
end
end Go.Ab.S
end
section
namespace Go.Ab.S
open Go.Ab
set_option maxHeartbeats 8000000
def eqII : List Int -> List Int -> Bool
 | [], [] => true
 | a :: x, b :: y => (a == b) && eqII x y
 | _, _ => false
section
variable {fns : FnsT} {summ : SumT}
variable (H : Has fns summ)
include H
end
end Go.Ab.S
end
section
namespace Go.Ab.S
open Go.Ab
set_option maxHeartbeats 8000000
section
variable {fns : FnsT} {summ : SumT}
variable (H : Has fns summ)
include H
omit H
include H
end
end Go.Ab.S
end
section
namespace Go.Ab.S
open Go.Ab
set_option maxHeartbeats 8000000
theorem zNU : ∀ (f n : Nat), digF f n ≠ []
 | 0, _ => by simp [digF]
 | f + 1, n => by rw [digF]; split <;> simp
theorem zLu : ∀ (f n : Nat), ∀ c ∈ digF f n, 48 <= c /\ c <= 57
 | 0, n => by intro c hc; simp only [digF, List.mem_singleton] at hc; omega
 | f + 1, n => by
  rw [digF]
  split
  ·intro c hc; simp only [List.mem_singleton] at hc; omega
  ·intro c hc
   rcases List.mem_append.1 hc with hc | hc
   ·exact zLu f _ c hc
   ·simp only [List.mem_singleton] at hc; omega
def labS (l : List (List Nat)) : List Nat := (l.map fun x => 32 :: x).flatten
def argS (cl : Int -> Int) (l : List Int) : List Nat := (l.map fun a => 44 :: zFD (cl a)).flatten
def zNs (n : Node) : List Nat := zFD n.kind ++ n.name
def zMp (n : Node) (cl : Int -> Int) : List Nat := zNs n ++ labS n.labels ++ argS cl n.args
section
variable {fns : FnsT} {summ : SumT}
variable (H : Has fns summ)
include H
end
end Go.Ab.S
end
section
namespace Go.Ab.S
section
variable {α : Type} [BEq α] [LawfulBEq α] (ok : α -> Bool) (nx : α -> List α) (bad : α -> α -> Bool)
def zEp : Nat -> List α -> List α -> Bool
 | 0, _, _ => false
 | _ + 1, [], _ => true
 | m + 1, p :: w, met => if met.contains p then zEp m w met else if ok p && !(met.any (bad p)) then zEp m (nx p ++ w) (met ++ [p]) else false
def zDQ (met : List α) : List α -> Nat
 | [] => 0
 | p :: r => (if met.contains p then 0 else (nx p).length) + zDQ met r
theorem zMH (met : List α) (p : α) : ∀ ps : List α, zDQ nx (met ++ [p]) ps <= zDQ nx met ps
 | [] => Nat.le_refl _
 | q :: r => by
  have ih := zMH met p r
  simp only [zDQ]
  cases h : met.contains q with
  | true =>
   have : (met ++ [p]).contains q = true := by simp at h ⊢; exact .inl h
   rw [this]; simpa using ih
  | false =>
   cases h2 : (met ++ [p]).contains q <;> simp <;> omega
theorem zHq {met : List α} {p : α} (hp : met.contains p = false) : ∀ {ps : List α}, p ∈ ps -> zDQ nx (met ++ [p]) ps + (nx p).length <= zDQ nx met ps
 | [], h => by cases h
 | q :: r, h => by
  have hle := zMH nx met p r
  simp only [zDQ]
  by_cases hq : q = p
  ·subst hq
   have : (met ++ [q]).contains q = true := by simp
   rw [this, hp]; simp; omega
  ·have hr : p ∈ r := by
    rcases List.mem_cons.1 h with h | h
    ·exact absurd h.symm hq
    ·exact h
   have ih := zHq hp hr
   have : (met ++ [p]).contains q = met.contains q := by
    rw [Bool.eq_iff_iff]; simp [hq]
   rw [this]; omega
theorem zGy (hsym : ∀ p q, bad p q = bad q p) : ∀ (m : Nat) (w met : List α), zEp ok nx bad m w met = true -> (∀ p ∈ met, ok p = true /\ ∀ q ∈ nx p, q ∈ met \/ q ∈ w) -> (∀ p ∈ met, ∀ q ∈ met, p ≠ q -> bad p q = false) →
  ∃ S : List α, (∀ p ∈ met, p ∈ S) /\ (∀ p ∈ w, p ∈ S) /\ (∀ p ∈ S, ok p = true /\ ∀ q ∈ nx p, q ∈ S) /\ ∀ p ∈ S, ∀ q ∈ S, p ≠ q -> bad p q = false
 | 0, _, _, h, _, _ => by simp [zEp] at h
 | m + 1, [], met, h, h1, h2 => ⟨met, fun _ h => h, fun _ h => (by cases h), fun p hp => ⟨(h1 p hp).1, fun q hq => by
   rcases (h1 p hp).2 q hq with h | h
   ·exact h
   ·cases h⟩, h2⟩
 | m + 1, p :: w, met, h, h1, h2 => by
  rw [zEp] at h
  split at h
  ·rename_i hc
   have hc : p ∈ met := by simpa using hc
   obtain ⟨S, s1, s2, s3⟩ := zGy hsym m w met h (fun q hq => ⟨(h1 q hq).1, fun r hr => by
    rcases (h1 q hq).2 r hr with h | h
    ·exact .inl h
    ·rcases List.mem_cons.1 h with rfl | h
     ·exact .inl hc
     ·exact .inr h⟩) h2
   exact ⟨S, s1, fun q hq => by
    rcases List.mem_cons.1 hq with rfl | hq
    ·exact s1 _ hc
    ·exact s2 q hq, s3⟩
  ·rename_i hc
   split at h
   ·rename_i hk
    simp only [Bool.and_eq_true, Bool.not_eq_true', List.any_eq_false] at hk
    obtain ⟨S, s1, s2, s3⟩ := zGy hsym m (nx p ++ w) (met ++ [p]) h (fun q hq => by
     rcases List.mem_append.1 hq with hq | hq
     ·refine ⟨(h1 q hq).1, fun r hr => ?_⟩
      rcases (h1 q hq).2 r hr with h | h
      ·exact .inl (List.mem_append.2 (.inl h))
      ·rcases List.mem_cons.1 h with rfl | h
       ·exact .inl (by simp)
       ·exact .inr (List.mem_append.2 (.inr h))
     ·simp only [List.mem_singleton] at hq
      subst hq
      exact ⟨hk.1, fun r hr => .inr (List.mem_append.2 (.inl hr))⟩) (fun q hq r hr hne => by
     rcases List.mem_append.1 hq with kq | kq <;> rcases List.mem_append.1 hr with kr | kr
     ·exact h2 q kq r kr hne
     ·simp only [List.mem_singleton] at kr; subst kr
      rw [hsym]
      exact Bool.eq_false_iff.2 (hk.2 q kq)
     ·simp only [List.mem_singleton] at kq; subst kq
      exact Bool.eq_false_iff.2 (hk.2 r kr)
     ·simp only [List.mem_singleton] at kq kr; subst kq; exact absurd kr.symm hne)
    exact ⟨S, fun q hq => s1 q (List.mem_append.2 (.inl hq)), fun q hq => by
     rcases List.mem_cons.1 hq with rfl | hq
     ·exact s1 _ (by simp)
     ·exact s2 q (List.mem_append.2 (.inr hq)), s3⟩
   ·cases h
theorem zEq {S : α -> Prop} (hS : ∀ p, S p -> ok p = true /\ ∀ q ∈ nx p, S q) (hb : ∀ p q, S p -> S q -> p ≠ q -> bad p q = false) {ps : List α} (hps : ∀ p, S p -> p ∈ ps) : ∀ (m : Nat) (w met : List α), (∀ p ∈ w, S p) -> (∀ p ∈ met, S p) →
  w.length + zDQ nx met ps < m -> zEp ok nx bad m w met = true
 | 0, _, _, _, _, h => by omega
 | m + 1, [], _, _, _, _ => rfl
 | m + 1, p :: w, met, h1, h2, h => by
  rw [zEp]
  have hp := h1 p (by simp)
  have hw : ∀ q ∈ w, S q := fun q hq => h1 q (by simp [hq])
  cases hc : met.contains p with
  | true =>
   rw [if_pos rfl]
   exact zEq hS hb hps m w met hw h2 (by simp only [zlC] at h; omega)
  | false =>
   have hnb : met.any (bad p) = false := by
    rw [List.any_eq_false]
    intro q hq
    have hne : p ≠ q := by rintro rfl; simp at hc; exact hc hq
    simp [hb p q hp (h2 q hq) hne]
   rw [if_neg (by simp), (hS p hp).1, hnb]
   simp only [Bool.not_false, Bool.and_self, if_true]
   refine zEq hS hb hps m (nx p ++ w) (met ++ [p]) (fun q hq => ?_) (fun q hq => ?_) ?_
   ·rcases List.mem_append.1 hq with hq | hq
    ·exact (hS p hp).2 q hq
    ·exact hw q hq
   ·rcases List.mem_append.1 hq with hq | hq
    ·exact h2 q hq
    ·simp only [List.mem_singleton] at hq; subst hq; exact hp
   ·have := zHq nx hc (hps p hp)
    simp only [List.length_append, zlC] at h ⊢
    omega
theorem zMa (hsym : ∀ p q, bad p q = bad q p) {ps : List α} (r : α) (hr : r ∈ ps) (hps : ∀ p ∈ ps, ok p = true -> ∀ q ∈ nx p, q ∈ ps) :
  zEp ok nx bad (2 + zDQ nx [] ps) [r] [] = true ↔ ∃ S : α -> Prop, S r /\ (∀ p, S p -> p ∈ ps /\ ok p = true /\ ∀ q ∈ nx p, S q) /\ ∀ p q, S p -> S q -> p ≠ q -> bad p q = false := by
 constructor
 ·intro h
  obtain ⟨S, _, s2, s3, s4⟩ := zGy ok nx bad hsym _ _ _ h (by intro p hp; cases hp) (by intro p hp; cases hp)
  exact ⟨fun p => p ∈ S /\ p ∈ ps, ⟨s2 r (by simp), hr⟩, fun p hp => ⟨hp.2, (s3 p hp.1).1, fun q hq => ⟨(s3 p hp.1).2 q hq, hps p hp.2 (s3 p hp.1).1 q hq⟩⟩, fun p q hp hq => s4 p hp.1 q hq.1⟩
 ·rintro ⟨S, h1, h2, h3⟩
  exact zEq ok nx bad (S := S) (fun p hp => (h2 p hp).2) h3 (fun p hp => (h2 p hp).1) _ _ _ (by simpa using h1) (by simp) (by simp only [zlC, zlN]; omega)
end
end Go.Ab.S
end
section
namespace Go.Ab.S
open Go.Ab
set_option maxHeartbeats 1000000
theorem zFd (p : Nat -> Bool) : ∀ {a b r s : List Nat}, (∀ x ∈ a, p x = true) -> (∀ x ∈ b, p x = true) -> (∀ x, r.head? = some x -> p x = false) -> (∀ x, s.head? = some x -> p x = false) -> a ++ r = b ++ s -> a = b /\ r = s
 | [], [], _, _, _, _, _, _, h => ⟨rfl, h⟩
 | [], y :: b, r, s, _, hb, hr, _, h => by
  have h : r = y :: (b ++ s) := h
  have := hr y (by rw [h]; rfl)
  rw [hb y (by simp)] at this; cases this
 | x :: a, [], r, s, ha, _, _, hs, h => by
  have h : x :: (a ++ r) = s := h
  have := hs x (by rw [<- h]; rfl)
  rw [ha x (by simp)] at this; cases this
 | x :: a, y :: b, r, s, ha, hb, hr, hs, h => by
  simp only [zlK, List.cons.injEq] at h
  obtain ⟨h1, h2⟩ := zFd p (fun z hz => ha z (by simp [hz])) (fun z hz => hb z (by simp [hz])) hr hs h.2
  exact ⟨by rw [h.1, h1], h2⟩
def zJb (c : Nat) : Bool := Nat.ble 48 c && Nat.ble c 57
theorem dig_is {n c : Nat} (h : c ∈ digN n) : zJb c = true := by
 have := zLu 19 n c h
 simp only [zJb, Bool.and_eq_true]
 exact ⟨Nat.ble_eq_true_of_le this.1, Nat.ble_eq_true_of_le this.2⟩
theorem zLv : ∀ (f n m : Nat), n < 10 ^ (f + 1) -> m < 10 ^ (f + 1) -> digF f n = digF f m -> n = m
 | 0, n, m, hn, hm, h => by simp only [digF, List.cons.injEq, and_true] at h; omega
 | f + 1, n, m, hn, hm, h => by
  rw [Nat.pow_succ] at hn hm
  rw [digF, digF] at h
  split at h <;> split at h
  ·simp only [List.cons.injEq, and_true] at h; omega
  ·have := congrArg List.length h
   have h0 := zNU f (m / 10)
   have h1 : (digF f (m / 10)).length ≠ 0 := fun e => h0 (List.length_eq_zero_iff.1 e)
   rw [List.length_append] at this
   simp only [List.length_singleton] at this
   omega
  ·have := congrArg List.length h
   have h0 := zNU f (n / 10)
   have h1 : (digF f (n / 10)).length ≠ 0 := fun e => h0 (List.length_eq_zero_iff.1 e)
   rw [List.length_append] at this
   simp only [List.length_singleton] at this
   omega
  ·have h2 := List.append_inj' h rfl
   have := zLv f (n / 10) (m / 10) (by omega) (by omega) h2.1
   simp only [List.cons.injEq, and_true] at h2
   omega
theorem digN_inj {n m : Nat} (hn : n < 2 ^ 60) (hm : m < 2 ^ 60) (h : digN n = digN m) : n = m := by
 have e : (2 : Nat) ^ 60 <= 10 ^ (19 + 1) := by decide
 exact zLv 19 n m (by omega) (by omega) h
def InR (x : Int) : Prop := 0 <= x /\ x < 2 ^ 60
theorem zFX {x : Int} (h : InR x) : ∀ c ∈ zFD x, zJb c = true := by
 unfold zFD
 rw [if_neg (by have := h.1; omega)]
 intro c hc; exact dig_is hc
theorem zJc {x y : Int} (hx : InR x) (hy : InR y) (h : zFD x = zFD y) : x = y := by
 unfold zFD at h
 rw [if_neg (by have := hx.1; omega), if_neg (by have := hy.1; omega)] at h
 have h1 := hx.1; have h2 := hx.2; have h3 := hy.1; have h4 := hy.2
 have := digN_inj (by omega) (by omega) h
 omega
theorem zBJ : ∀ {a b : List Nat}, eqL a b = true ↔ a = b
 | [], [] => by simp [eqL]
 | [], _ :: _ => by simp [eqL]
 | _ :: _, [] => by simp [eqL]
 | x :: a, y :: b => by
  rw [eqL]
  cases h : Nat.beq x y with
  | true =>
   have := Nat.eq_of_beq_eq_true h
   subst this
   simp [zBJ (a := a) (b := b)]
  | false =>
   have : x ≠ y := by rintro rfl; rw [Nat.beq_refl] at h; cases h
   simp [this]
theorem zHQ : ∀ {a b : List (List Nat)}, eqLL a b = true ↔ a = b
 | [], [] => by simp [eqLL]
 | [], _ :: _ => by simp [eqLL]
 | _ :: _, [] => by simp [eqLL]
 | x :: a, y :: b => by simp [eqLL, zBJ, zHQ (a := a) (b := b)]
theorem zJV : ∀ {a b : List Int}, eqII a b = true ↔ a = b
 | [], [] => by simp [eqII]
 | [], _ :: _ => by simp [eqII]
 | _ :: _, [] => by simp [eqII]
 | x :: a, y :: b => by simp [eqII, zJV (a := a) (b := b)]
theorem zJL : ∀ (s : List Nat) (i : Nat), zGh i s = i + s.length -> ∀ c ∈ s, zJY c false = true
 | [], _, _ => by intro c hc; cases hc
 | x :: s, i, h => by
  rw [zGh] at h
  split at h
  ·rename_i hg
   intro c hc
   rcases List.mem_cons.1 hc with rfl | hc
   ·revert hg; simp only [zJY]
    cases (i == 0) <;> simp <;> omega
   ·exact zJL s (i + 1) (by rw [h]; simp only [zlC]; omega) c hc
  ·simp only [zlC] at h; omega
theorem zHu {s : List Nat} (h : zCy s = true) : ∀ c ∈ s, 48 <= c /\ c <= 122 /\ c ≠ 58 := by
 simp only [zCy, Bool.and_eq_true, beq_iff_eq] at h
 intro c hc
 have := zJL s 0 (by rw [Nat.zero_add]; exact h.1.2) c hc
 simp only [zJY, Bool.or_eq_true, Bool.and_eq_true, decide_eq_true_eq, beq_iff_eq] at this
 omega
theorem zGb : ∀ {l : List (List Nat)} {p : Option (List Nat)}, risG p l = true -> ∀ s ∈ l, zCy s = true
 | [], _, _ => by intro s hs; cases hs
 | x :: l, p, h => by
  simp only [risG, Bool.and_eq_true] at h
  intro s hs
  rcases List.mem_cons.1 hs with rfl | hs
  ·exact h.1.1
  ·exact zGb h.2 s hs
theorem zNx : ∀ {a b : List (List Nat)}, (∀ s ∈ a, ∀ c ∈ s, c ≠ 32) -> (∀ s ∈ b, ∀ c ∈ s, c ≠ 32) -> labS a = labS b -> a = b
 | [], [], _, _, _ => rfl
 | [], y :: b, _, _, h => by simp [labS] at h
 | x :: a, [], _, _, h => by simp [labS] at h
 | x :: a, y :: b, ha, hb, h => by
  simp only [labS, List.map_cons, List.flatten_cons, zlK, List.cons.injEq, true_and] at h
  have hh : ∀ (l : List (List Nat)) z, ((l.map fun x => 32 :: x).flatten).head? = some z -> (z != 32) = false := by
   intro l z hz
   cases l with
   | nil => simp at hz
   | cons w l => simp at hz; simp [<- hz]
  obtain ⟨h1, h2⟩ := zFd (fun c => c != 32) (fun c hc => by simpa using ha x (by simp) c hc) (fun c hc => by simpa using hb y (by simp) c hc) (hh a) (hh b) h
  rw [h1, zNx (fun s hs => ha s (by simp [hs])) (fun s hs => hb s (by simp [hs])) h2]
theorem zNH {f g : Int -> Int} : ∀ {a b : List Int}, (∀ x ∈ a, InR (f x)) -> (∀ x ∈ b, InR (g x)) -> argS f a = argS g b -> a.map f = b.map g
 | [], [], _, _, _ => rfl
 | [], y :: b, _, _, h => by simp [argS] at h
 | x :: a, [], _, _, h => by simp [argS] at h
 | x :: a, y :: b, ha, hb, h => by
  simp only [argS, List.map_cons, List.flatten_cons, zlK, List.cons.injEq, true_and] at h
  have hh : ∀ (k : Int -> Int) (l : List Int) z, ((l.map fun a => 44 :: zFD (k a)).flatten).head? = some z -> zJb z = false := by
   intro k l z hz
   cases l with
   | nil => simp at hz
   | cons w l => simp at hz; rw [<- hz]; rfl
  obtain ⟨h1, h2⟩ := zFd zJb (zFX (ha x (by simp))) (zFX (hb y (by simp))) (hh f a) (hh g b) h
  rw [List.map_cons, List.map_cons, zJc (ha x (by simp)) (hb y (by simp)) h1, zNH (fun z hz => ha z (by simp [hz])) (fun z hz => hb z (by simp [hz])) h2]

def zAU (n : Node) : Bool := n.kind == 1 || n.isOpen
def clAt (cl : List Int) (a : Int) : Int := cl.getD a.toNat 0
def keyS (cl : List Int) (i : Nat) (n : Node) : List Nat := zFD (clAt cl i) ++ [58] ++ (if zAU n then 35 :: zFD i else []) ++ zMp n (clAt cl)
theorem zAN {n : Node} {N : Int} (h : mayF n N = true) : (n.kind = 1 /\ n.labels = [] /\ n.isOpen = false /\ n.name = [] /\ n.args = []) \/ (n.kind = 2 /\ n.labels = [] /\ n.isOpen = false /\ arIs n.name = true /\ n.args.length = arK n.name) \/ (n.kind = 3 /\ n.name = [] /\ n.labels.length = n.args.length /\ zEm n.labels = true) := by
 unfold mayF at h
 split at h
 ·cases h
 split at h
 ·rename_i h1
  simp only [Bool.and_eq_true, beq_iff_eq, Bool.not_eq_true', zBJ, List.length_eq_zero_iff] at h h1
  exact .inl ⟨h1, h.1.1.1, h.1.1.2, h.1.2, h.2⟩
 split at h
 ·rename_i h1
  simp only [Bool.and_eq_true, beq_iff_eq, Bool.not_eq_true', zBJ, List.length_eq_zero_iff] at h h1
  exact .inr (.inl ⟨h1, h.1.1.1, h.1.1.2, h.1.2, h.2⟩)
 split at h
 ·rename_i h1
  simp only [Bool.and_eq_true, beq_iff_eq, zBJ] at h h1
  exact .inr (.inr ⟨h1, h.1.1, h.1.2, h.2⟩)
 ·cases h
theorem ar_names {s : List Nat} (h : arIs s = true) : ∀ c ∈ s, c ≠ 44 := by
 simp only [arIs, Bool.or_eq_true, zBJ] at h
 rcases h with ((((h | h) | h) | h) | h) | h <;> subst h <;> decide
theorem key_inj {cl : List Int} {i j : Nat} {n m : Node} {N : Int} (hcl : ∀ a, InR (clAt cl a)) (hi : InR i) (hj : InR j) (hn : mayF n N = true) (hm : mayF m N = true) (h : keyS cl i n = keyS cl j m) :
  clAt cl i = clAt cl j /\ ((zAU n = true \/ zAU m = true) -> i = j) /\ n.kind = m.kind /\ n.name = m.name /\ n.labels = m.labels /\ n.args.map (clAt cl) = m.args.map (clAt cl) /\ zAU n = zAU m := by
 unfold keyS at h
 simp only [List.append_assoc, List.singleton_append] at h
 obtain ⟨h1, h2⟩ := zFd zJb (zFX (hcl _)) (zFX (hcl _)) (by intro x hx; simp at hx; rw [<- hx]; rfl) (by intro x hx; simp at hx; rw [<- hx]; rfl) h
 have e1 := zJc (hcl _) (hcl _) h1
 replace h2 := List.append_cancel_left (as := [58]) h2
 simp only [List.append_eq] at h2
 have hd : ∀ {n : Node}, mayF n N = true -> ∃ d : Nat, d ∈ [49, 50, 51] /\ ∃ r, zMp n (clAt cl) = d :: r /\ n.kind = (d : Int) - 48 /\ r = n.name ++ labS n.labels ++ argS (clAt cl) n.args := by
  intro n hn
  rcases zAN hn with ⟨hk, _⟩ | ⟨hk, _⟩ | ⟨hk, _⟩
  ·exact ⟨49, by simp, _, by simp only [zMp, zNs, hk]; rfl, by rw [hk]; rfl, rfl⟩
  ·exact ⟨50, by simp, _, by simp only [zMp, zNs, hk]; rfl, by rw [hk]; rfl, rfl⟩
  ·exact ⟨51, by simp, _, by simp only [zMp, zNs, hk]; rfl, by rw [hk]; rfl, rfl⟩
 have hr : ∀ {n : Node}, mayF n N = true -> zAU n = true -> ∀ x, (n.name ++ labS n.labels ++ argS (clAt cl) n.args).head? = some x -> zJb x = false := by
  intro n hn hf x hx
  rcases zAN hn with ⟨hk, k1, k2, k3, k4⟩ | ⟨hk, k1, k2, k3, k4⟩ | ⟨hk, k1, k2, k3⟩
  ·rw [k1, k3, k4] at hx; simp [labS, argS] at hx
  ·simp [zAU, hk, k2] at hf
  ·rw [k1, zlA] at hx
   cases hl : n.labels with
   | nil =>
    rw [hl] at hx
    cases ha : n.args with
    | nil => rw [ha] at hx; simp [labS, argS] at hx
    | cons a r => rw [ha] at hx; simp [labS, argS] at hx; rw [<- hx]; rfl
   | cons s r => rw [hl] at hx; simp [labS] at hx; rw [<- hx]; rfl
 obtain ⟨d, hd1, r, hd2, hd3, hd4⟩ := hd hn
 obtain ⟨d', hd1', r', hd2', hd3', hd4'⟩ := hd hm
 rw [hd2, hd2'] at h2
 have key : d :: r = d' :: r' /\ (zAU n = true \/ zAU m = true -> i = j) /\ zAU n = zAU m := by
  cases hfn : zAU n <;> cases hfm : zAU m <;> rw [hfn, hfm] at h2
  ·simp only [Bool.false_eq_true, if_false, zlA] at h2
   exact ⟨h2, by simp, rfl⟩
  ·simp only [Bool.false_eq_true, if_false, if_true, zlA, zlK, List.cons.injEq] at h2
   have := h2.1; revert hd1; subst this; simp
  ·simp only [Bool.false_eq_true, if_false, if_true, zlA, zlK, List.cons.injEq] at h2
   have := h2.1; revert hd1'; subst this; simp
  ·simp only [if_true, zlK, List.cons.injEq, true_and] at h2
   have hdig : ∀ d, d ∈ ([49, 50, 51] : List Nat) -> zJb d = true := by decide
   rw [hd4, hd4'] at h2
   obtain ⟨h3, h4⟩ := zFd zJb (a := zFD i ++ [d]) (b := zFD j ++ [d']) (fun x hx => by
     rcases List.mem_append.1 hx with hx | hx
     ·exact zFX hi x hx
     ·simp only [List.mem_singleton] at hx; subst hx; exact hdig _ hd1) (fun x hx => by
     rcases List.mem_append.1 hx with hx | hx
     ·exact zFX hj x hx
     ·simp only [List.mem_singleton] at hx; subst hx; exact hdig _ hd1') (hr hn hfn) (hr hm hfm) (by simpa using h2)
   obtain ⟨h5, h6⟩ := List.append_inj' h3 rfl
   have := zJc hi hj h5
   simp only [List.cons.injEq, and_true] at h6
   rw [hd4, hd4', h4, h6]
   exact ⟨rfl, fun _ => by omega, rfl⟩
 obtain ⟨k1, k2, k3⟩ := key
 simp only [List.cons.injEq] at k1
 have hkind : n.kind = m.kind := by rw [hd3, hd3', k1.1]
 have hrest := k1.2
 rw [hd4, hd4'] at hrest
 have hno : ∀ {n : Node}, mayF n N = true -> (∀ c ∈ n.name ++ labS n.labels, (c != 44) = true) /\ (∀ s ∈ n.labels, ∀ c ∈ s, c ≠ 32) := by
  intro n hn
  have hlab : zEm n.labels = true -> (∀ c ∈ labS n.labels, c ≠ 44) /\ (∀ s ∈ n.labels, ∀ c ∈ s, c ≠ 32) := by
   intro hri
   have hnm := zGb (p := none) hri
   refine ⟨fun c hc => ?_, fun s hs c hc => ?_⟩
   ·simp only [labS, List.mem_flatten, List.mem_map] at hc
    obtain ⟨_, ⟨s, hs, rfl⟩, hc⟩ := hc
    rcases List.mem_cons.1 hc with rfl | hc
    ·decide
    ·have := zHu (hnm s hs) c hc; omega
   ·have := zHu (hnm s hs) c hc; omega
  rcases zAN hn with ⟨hk, k1, k2, k3, k4⟩ | ⟨hk, k1, k2, k3, k4⟩ | ⟨hk, k1, k2, k3⟩
  ·rw [k1, k3]; exact ⟨fun c hc => by simp [labS] at hc, fun s hs => by cases hs⟩
  ·rw [k1]
   refine ⟨fun c hc => ?_, fun s hs => by cases hs⟩
   simp [labS] at hc
   simpa using ar_names k3 c hc
  ·rw [k1, zlA]
   obtain ⟨h1, h2⟩ := hlab k3
   exact ⟨fun c hc => by simpa using h1 c hc, h2⟩
 have hh : ∀ (l : List Int) z, (argS (clAt cl) l).head? = some z -> (z != 44) = false := by
  intro l z hz
  cases l with
  | nil => simp [argS] at hz
  | cons w l => simp [argS] at hz; simp [<- hz]
 obtain ⟨h5, h6⟩ := zFd (fun c => c != 44) (hno hn).1 (hno hm).1 (hh _) (hh _) hrest
 have hargs := zNH (fun x _ => hcl x) (fun x _ => hcl x) h6
 have hnl : n.name = m.name /\ n.labels = m.labels := by
  rcases zAN hn with ⟨hk, q1, _, q3, _⟩ | ⟨hk, q1, _⟩ | ⟨hk, q1, _⟩
  ·rcases zAN hm with ⟨hk', q1', _, q3', _⟩ | ⟨hk', _⟩ | ⟨hk', _⟩
   ·rw [q1, q1', q3, q3']; exact ⟨rfl, rfl⟩
   ·omega
   ·omega
  ·rcases zAN hm with ⟨hk', _⟩ | ⟨hk', q1', _⟩ | ⟨hk', _⟩
   ·omega
   ·rw [q1, q1']
    rw [q1, q1'] at h5
    simp [labS] at h5
    exact ⟨h5, rfl⟩
   ·omega
  ·rcases zAN hm with ⟨hk', _⟩ | ⟨hk', _⟩ | ⟨hk', q1', _⟩
   ·omega
   ·omega
   ·rw [q1, q1'] at h5 ⊢
    exact ⟨rfl, zNx (hno hn).2 (hno hm).2 (by simpa using h5)⟩
 exact ⟨e1, k2, hkind, hnl.1, hnl.2, hargs, k3⟩
end Go.Ab.S
end
