import Derived.Test.YtapnoohglfhgeaaGreatDoorP12
/-
  Part 13 of the proof.
-/
set_option linter.all false
section
/-
  What is left of a graph.
-/
namespace Go.Ab.S
open Go.Ab
set_option maxHeartbeats 8000000
theorem built_base {h : AHeap} {b b' sz n : Nat} {e : TypeId} {v : AVal} {cells : List AVal} (k : Built h b e sz v n cells) (hb : b' ≤ b) : Built h b' e sz v n cells := by
  rcases k with k | k | ⟨c, vs, ver, h0, h1⟩
  · exact .inl k
  · exact .inr (.inl k)
  · exact .inr (.inr ⟨c, vs, ver, Nat.le_trans hb h0, h1⟩)
theorem built_strs {h : AHeap} {base : Nat} {e : TypeId} {v : AVal} {l : List (List Nat)} (B : Built h base e 1 v l.length (l.map AVal.str)) : StrsAt h v l :=
  B.sl (by decide) (xs := l.map strC) (by rw [strsFlat]) (by intro c hc; obtain ⟨a, _, rfl⟩ := List.mem_map.1 hc; rfl) (by simp)
/-- A node of one's own. -/
def OwnN (h : AHeap) (base : Nat) (c : List AVal) (n : Node) : Prop := ∃ av lv, c = [.int .i64 n.kind, .str n.name, av, lv, .bool n.isOpen] ∧ Built h base 3 1 av n.args.length (n.args.map (AVal.int .i64)) ∧ Built h base 9 1 lv n.labels.length (n.labels.map AVal.str)
theorem OwnN_at {h : AHeap} {base : Nat} {c : List AVal} {n : Node} (k : OwnN h base c n) : NodeAt h c n := by
  obtain ⟨av, lv, h1, h2, h3⟩ := k
  exact ⟨av, lv, h1, built_ints h2, built_strs h3⟩
/-- Rows of nodes aside, all stays. -/
theorem OwnN_stay {h h' : AHeap} {base : Nat} {c : List AVal} {n : Node} (k : OwnN h base c n) (hk : ∀ b p, h.objs.get b = some p → ((∃ vs, p.2 = .cells false 3 vs) ∨ ∃ vs, p.2 = .cells false 9 vs) → h'.objs.get b = some p) : OwnN h' base c n := by
  obtain ⟨av, lv, h1, h2, h3⟩ := k
  exact ⟨av, lv, h1, built_stay h2 fun b p hb hp _ => hk b p hb (.inl hp), built_stay h3 fun b p hb hp _ => hk b p hb (.inr hp)⟩
theorem leftG_one : ∀ (ns : List Node) (i : Nat) (n : Node), n ∈ ns → n.args.length ≤ leftG [] ns i
  | [], _, _, h => by cases h
  | m :: r, i, n, h => by
    simp only [leftG]
    rcases List.mem_cons.1 h with rfl | h
    · simp
    · have := leftG_one r (i + 1) n h; omega
theorem set_take {vs : List AVal} {i n : Nat} {x : AVal} (hi : i < n) (hv : n ≤ vs.length) : (vs.take i ++ [x] ++ vs.drop (i + 1)).take n = (vs.take n).set i x := by
  rw [← List.take_set, List.set_eq_take_append_cons_drop, if_pos (by omega), List.append_assoc]; rfl
/-- A row of which so many are told anew. -/
def Lst (l args : List Int) (i : Nat) : List Int := (args.take i).map (fun a => (toIdx l a : Int)) ++ args.drop i
theorem Lst_len (l args : List Int) (i : Nat) : (Lst l args i).length = args.length := by simp [Lst]; omega
theorem Lst_get {l args : List Int} {i : Nat} (h : i < args.length) : (Lst l args i)[i]? = some args[i] := by
  rw [Lst, List.getElem?_append_right (by simp; omega)]
  simp [Nat.min_eq_left (Nat.le_of_lt h), h]
theorem Lst_set {l args : List Int} {i : Nat} (h : i < args.length) : (Lst l args i).set i (toIdx l args[i] : Int) = Lst l args (i + 1) := by
  have hl : ((args.take i).map (fun a => (toIdx l a : Int))).length = i := by simp; omega
  rw [Lst, List.set_append_right _ _ (by omega), hl, Nat.sub_self, List.drop_eq_getElem_cons h, List.set_cons_zero, Lst, List.take_succ_eq_append_getElem h, List.map_append, List.append_assoc]
  rfl
theorem built_stay' {h h' : AHeap} {base : Nat} {e : TypeId} {sz n : Nat} {v : AVal} {cells : List AVal} (B : Built h base e sz v n cells) (hk : ∀ c p, base ≤ c → h.objs.get c = some p → (∃ vs, p.2 = .cells false e vs) → h'.objs.get c = some p) : Built h' base e sz v n cells := by
  rcases B with B | B | ⟨b, vs, ver, h0, h1, h2, h3⟩
  · exact .inl B
  · exact .inr (.inl B)
  · exact .inr (.inr ⟨b, vs, ver, h0, h1, hk _ _ h0 h2 ⟨vs, rfl⟩, h3⟩)
/-- A graph of one's own. -/
def OwnG (h : AHeap) (base : Nat) (v : AVal) (g : Graph) : Prop := ∃ (nv : AVal) (cs : List (List AVal)), v = .agg [nv, .int .i64 g.root] ∧ Built h base 60 5 nv g.nodes.length cs.flatten ∧ cs.length = g.nodes.length ∧ ∀ (i : Nat) c n, cs[i]? = some c → g.nodes[i]? = some n → OwnN h base c n
theorem OwnG.graph {h : AHeap} {base : Nat} {v : AVal} {g : Graph} (k : OwnG h base v g) : GraphAt h v g := by
  obtain ⟨nv, cs, rfl, kB, kl, kn⟩ := k
  refine ⟨nv, rfl, cs, kB.sl (by decide) rfl (fun c hc => ?_) kl, kl, fun i n c hn hc => OwnN_at (kn i c n hc hn)⟩
  obtain ⟨i, hi, rfl⟩ := List.mem_iff_getElem.1 hc
  obtain ⟨_, _, hcs, _⟩ := kn i _ _ (List.getElem?_eq_getElem hi) (List.getElem?_eq_getElem (by omega))
  rw [hcs]; rfl
theorem OwnG.stay {h h' : AHeap} {base : Nat} {v : AVal} {g : Graph} (k : OwnG h base v g) (hk : ∀ c p, base ≤ c → h.objs.get c = some p → ((∃ vs, p.2 = .cells false 60 vs) ∨ (∃ vs, p.2 = .cells false 3 vs) ∨ ∃ vs, p.2 = .cells false 9 vs) → h'.objs.get c = some p) : OwnG h' base v g := by
  obtain ⟨nv, cs, rfl, kB, kl, kn⟩ := k
  refine ⟨nv, cs, rfl, built_stay' kB fun c p hc hp ht => hk c p hc hp (.inl ht), kl, fun i c n hc hn => ?_⟩
  obtain ⟨av, lv, q1, q2, q3⟩ := kn i c n hc hn
  exact ⟨av, lv, q1, built_stay' q2 fun c p hc hp ht => hk c p hc hp (.inr (.inl ht)), built_stay' q3 fun c p hc hp ht => hk c p hc hp (.inr (.inr ht))⟩
theorem OwnG.grow {h h' : AHeap} {base : Nat} {v : AVal} {g : Graph} (k : OwnG h base v g) (gr : Grow h h') : OwnG h' base v g := k.stay fun _ _ _ hp _ => gr.keep _ _ hp
theorem OwnG.base {h : AHeap} {base base' : Nat} {v : AVal} {g : Graph} (k : OwnG h base v g) (hb : base' ≤ base) : OwnG h base' v g := by
  obtain ⟨nv, cs, rfl, kB, kl, kn⟩ := k
  refine ⟨nv, cs, rfl, built_base kB hb, kl, fun i c n hc hn => ?_⟩
  obtain ⟨av, lv, q1, q2, q3⟩ := kn i c n hc hn
  exact ⟨av, lv, q1, built_base q2 hb, built_base q3 hb⟩
structure TInv (h0 : AHeap) (b1 b2 bm : Nat) (nv : AVal) (root : Int) (l : List Int) (ns : List Node) (hp : AHeap) : Prop where
  grow : Grow h0 hp
  o1 : ∃ ver, hp.objs.get b1 = some (ver, .cells false 24 [nv, .int .i64 root])
  om : ∃ ver, hp.objs.get bm = some (ver, .map (toEs 0 l) l.length)
  o2 : ∃ (ver : Nat) (vo : AVal) (cs : List (List AVal)), hp.objs.get b2 = some (ver, .cells false 24 [vo, .int .i64 0]) ∧ Built hp h0.next 60 5 vo ns.length cs.flatten ∧ cs.length = ns.length ∧ ∀ (i : Nat) c n, cs[i]? = some c → ns[i]? = some n → OwnN hp h0.next c n
  low : h0.next ≤ b1 ∧ b1 < b2 ∧ b2 < hp.next
theorem TInv.other {h0 : AHeap} {b1 b2 bm : Nat} {nv : AVal} {root : Int} {l : List Int} {ns : List Node} {hp hq : AHeap} (I : TInv h0 b1 b2 bm nv root l ns hp) (g : Grow hp hq) : TInv h0 b1 b2 bm nv root l ns hq := by
  obtain ⟨v1, k1⟩ := I.o1
  obtain ⟨vm, km⟩ := I.om
  obtain ⟨v2, vo, cs, k2, kB, kl, kn⟩ := I.o2
  exact ⟨I.grow.trans g, ⟨v1, g.keep _ _ k1⟩, ⟨vm, g.keep _ _ km⟩, ⟨v2, vo, cs, g.keep _ _ k2, kB.grow g, kl, fun i c n hc hn => OwnN_stay (kn i c n hc hn) fun b p hb _ => g.keep _ _ hb⟩, I.low.1, I.low.2.1, Nat.lt_of_lt_of_le I.low.2.2 g.next⟩
section
variable {fns : FuncId → Option AFunc} {summ : FuncId → List AVal → AHeap → Option (D (AVal × AHeap))}
theorem cd_post {ro : Option Nat} {c : ACode} {a : AAct} {h : AHeap} {Q : AExit → AAct → AHeap → Prop} (I : AAct → AHeap → Prop) (k1 : Cd fns summ ro c a h (nxt I fun _ _ _ => False)) (k2 : ∀ a h, I a h → Q .normal a h) : Cd fns summ ro c a h Q :=
  k1.mono fun e a1 h1 hq => by cases e with
    | normal => exact k2 a1 h1 hq
    | ret => exact hq.elim
    | exit i => exact hq.elim
variable (H : Has fns summ)
include H
theorem Trim_ok (g : Graph) (hg : GSm g) (v : AVal) (h : AHeap) (hw : WF h) (hv : GraphAt h v g) : Cl fns summ 54 [v] h fun r h' => OwnG h' h.next r (trimF g) ∧ Grow h h' := by
  obtain ⟨nv, rfl, hN⟩ := hv
  obtain ⟨hOk, hNd⟩ := reachF_ok g
  have hlen := hN.len
  refine H.go (fn := F_Trim) rfl (by decide) rfl rfl ?_
  unfold F_Trim
  dsimp only [qQ, qE, qN, gQ, gE, vi]
  refine zAC (zAD ?_)
  refine st_box (by exact e1) (by exact cc) hw ?_
  rintro b1 h1 hb1 g1 o1
  refine st_alloc g1.wf ?_
  rintro b2 h2 hb2 g2 o2
  have l1 := g1.wf.lt o1
  replace o1 := g2.keep _ _ o1
  have g02 := g1.trans g2
  have hpart : partA (some 2) [nv, .int .i64 g.root] 0 = some (.agg [nv, .int .i64 g.root]) := rfl
  repeat with_reducible first | refine zAA ?_ | refine zAB ?_ | refine zAC ?_ | refine zAD ?_ | (apply st_q; exact q1)
  refine zAS (by exact s1) ((Reach_ok H g hg _ h2 g2.wf ⟨nv, rfl, hN.mono g02⟩).mono ?_)
  rintro rv h3 ⟨hR, g3⟩
  replace o1 := g3.keep _ _ o1
  replace o2 := g3.keep _ _ o2
  have g03 := g02.trans g3
  have hrl := hR.len
  repeat with_reducible first | refine zAA ?_ | refine zAB ?_ | refine zAC ?_ | refine zAD ?_ | (apply st_q; exact q1)
  refine st_mkmap (.inr ⟨_, _, _, rfl, by exact e1⟩) g3.wf ?_
  rintro bm h4 hbm g4 om
  have l2 := g3.wf.lt o2
  replace o1 := g4.keep _ _ o1
  replace o2 := g4.keep _ _ o2
  have hR4 := built_ints (hR.grow g4)
  have hR4B := built_base (hR.grow g4) (b' := h.next) g02.next
  have g04 := g03.trans g4
  have hlr : (zAU g).length < 2 ^ 60 := by
    have := reachF_len hg
    have e30 : (2 : Nat) ^ 30 = 1073741824 := by decide
    omega
  repeat with_reducible first | refine zAA ?_ | refine zAB ?_ | refine zAC ?_ | refine zAD ?_ | (apply st_q; exact q1)
  refine cd_count (N := (zAU g).length) (by omega) (fun j a hp => (∃ ver, hp.objs.get bm = some (ver, .map (toEs 0 ((zAU g).take j)) j)) ∧ (hp = h4 ∨ But bm h4 hp) ∧ a.defers = [] ∧ ev a (.tmp 1) = some (.ptr (some (b1, 0))) ∧ ev a (.tmp 2) = some (.ptr (some (b2, 0))) ∧ ev a (.tmp 3) = some rv ∧ ev a (.tmp 4) = some (.map (some bm)) ∧ ev a (.tmp 17) = some rv)
    (by rintro j a hp t w (rfl | rfl | rfl) ⟨h1, h2, h3, h4, h5, h6, h7, h8⟩ <;> exact ⟨h1, h2, by rw [zAV]; exact h3, by exact e1, by exact e1, by exact e1, by exact e1, by exact e1⟩) (by decide) ?_ ?_ ⟨⟨_, om⟩, .inl rfl, by exact n1, by exact e1, by exact e1, by exact e1, by exact e1, by exact e1⟩ (by exact e1) (by exact e1)
  · rintro j a hp hj ⟨⟨ver, o⟩, hb, hd, e1', e2', e3', e4', e17⟩ hi hn
    have hc : (zAU g)[j]? = some (zAU g)[j] := List.getElem?_eq_getElem hj
    have hkp : ∀ c p, h4.objs.get c = some p → c ≠ bm → hp.objs.get c = some p := fun c p h1 h2 => by
      rcases hb with rfl | hb
      · exact h1
      · exact hb.keep c h2 _ h1
    have hwp : WF hp := by
      rcases hb with rfl | hb
      · exact g4.wf
      · exact hb.wf g4.wf
    obtain ⟨bb, ob, verb, rb, eb, vsb, hix, hget', hvo⟩ := hR4.at hc
    have hget := hkp _ _ hget' (by rintro rfl; rw [om] at hget'; cases hget')
    have hnin : ((zAU g).take j).contains (zAU g)[j] = false := by
      rw [Bool.eq_false_iff]
      intro hh
      simp only [List.contains_eq_mem, decide_eq_true_eq] at hh
      obtain ⟨i, hi', he⟩ := List.mem_iff_getElem.1 hh
      rw [List.getElem_take] at he
      have hij := (List.getElem_inj hNd).1 he
      simp only [List.length_take] at hi'
      omega
    have hf : findA .int (.int .i64 (zAU g)[j]) (toEs 0 ((zAU g).take j)) 0 = some none := by rw [toEs_find, hnin]; rfl
    clear hget' hkp
    repeat with_reducible first | refine zAA ?_ | refine zAB ?_ | refine zAC ?_ | refine zAD ?_ | refine zAK ?_ | (apply st_q; exact q1)
    refine st_put (by exact e1) (by exact e1) (by exact e1) (by intro hh; cases hh) rfl hwp o hf ?_
    rintro ver' h5 p5 o5
    have ht : toEs 0 ((zAU g).take j) ++ [(.int .i64 (zAU g)[j], .int .i64 (j : Nat), j)] = toEs 0 ((zAU g).take (j + 1)) := by
      rw [List.take_succ_eq_append_getElem hj, toEs_put, Nat.zero_add, List.length_take, Nat.min_eq_left (Nat.le_of_lt hj)]
    rw [ht] at o5
    have hb5 : But bm h4 h5 := by
      rcases hb with rfl | hb
      · exact p5
      · exact hb.trans p5
    repeat with_reducible first | refine zAA ?_ | refine zAJ ?_ | refine zAB ?_
    exact ⟨⟨⟨_, o5⟩, .inr hb5, by exact n1, by exact e1, by exact e1, by exact e1, by exact e1, by exact e1⟩, by exact e1, by exact e1⟩
  · rintro a h5 ⟨⟨ver5, om5⟩, hb, hd, e1', e2', e3', e4', _⟩
    rw [List.take_length] at om5
    have hkp : ∀ c p, h4.objs.get c = some p → c ≠ bm → h5.objs.get c = some p := fun c p h1 h2 => by
      rcases hb with rfl | hb
      · exact h1
      · exact hb.keep c h2 _ h1
    have g05 : Grow h h5 := by
      rcases hb with rfl | hb
      · exact g04
      · exact hb.grow h hw g04 (by have := g03.next; omega)
    have n4 : h4.next ≤ h5.next := by
      rcases hb with rfl | hb
      · exact Nat.le_refl _
      · exact hb.next
    have hR5 : Built h5 h.next 3 1 rv (zAU g).length ((zAU g).map (AVal.int .i64)) := built_stay hR4B fun c p hc ⟨vs, hp⟩ _ => hkp c p hc (by
      rintro rfl
      rw [om] at hc
      simp only [Option.some.injEq] at hc
      rw [← hc] at hp; cases hp)
    have I0 : TInv h b1 b2 bm nv g.root (zAU g) [] h5 :=
      ⟨g05, ⟨_, hkp _ _ o1 (by rintro rfl; rw [om] at o1; cases o1)⟩, ⟨_, om5⟩, ⟨_, _, [], hkp _ _ o2 (by rintro rfl; rw [om] at o2; cases o2), .inl ⟨rfl, rfl, rfl⟩, rfl, fun i c n hc => by simp at hc⟩, hb1, by omega, by have := g4.next; omega⟩
    clear o1 o2 om om5 hkp hR hR4 hR4B g1 g2 g3 g4 g02 g03 g04 hb n4
    have hsub : ∀ (p q : Nat × AObj) (hp : AHeap), True := fun _ _ _ => trivial
    clear hsub
    repeat with_reducible first | refine zAA ?_ | refine zAB ?_ | refine zAC ?_ | refine zAD ?_ | (apply st_q; exact q1)
    refine cd_count (N := (zAU g).length) (by omega) (fun j a hp => TInv h b1 b2 bm nv g.root (zAU g) (((zAU g).take j).map fun i => trimN (zAU g) (zAH g i)) hp ∧ Built hp h.next 3 1 rv (zAU g).length ((zAU g).map (AVal.int .i64)) ∧ a.defers = [] ∧ ev a (.tmp 1) = some (.ptr (some (b1, 0))) ∧ ev a (.tmp 2) = some (.ptr (some (b2, 0))) ∧ ev a (.tmp 4) = some (.map (some bm)) ∧ ev a (.tmp 28) = some rv)
      (by rintro j a hp t w (rfl | rfl | rfl) ⟨h1, h2, h3, h4, h5, h6, h7⟩ <;> exact ⟨h1, h2, by rw [zAV]; exact h3, by exact e1, by exact e1, by exact e1, by exact e1⟩) (by decide) ?_ ?_ ⟨I0, hR5, by exact n1, by exact e1, by exact e1, by exact e1, by exact e1⟩ (by exact e1) (by exact e1)
    · clear I0 hR5 hd e1' e2' e3' e4'
      rintro j a hp hj ⟨I, hRj, hd, e1', e2', e4', e28⟩ hi hn
      obtain ⟨k0, k1⟩ := hOk _ (List.getElem_mem hj)
      obtain ⟨k, hk⟩ : ∃ k : Nat, (zAU g)[j] = (k : Int) := ⟨_, (Int.toNat_of_nonneg k0).symm⟩
      have hkN : k < g.nodes.length := by rw [hk] at k1; omega
      have hnd : zAH g (zAU g)[j] = g.nodes[k] := by rw [hk]; simp [zAH, List.getElem?_eq_getElem hkN]
      have hc : (zAU g)[j]? = some (k : Int) := by rw [List.getElem?_eq_getElem hj, hk]
      have hmem := List.getElem_mem hkN
      have hlab := hg.labs _ hmem
      have harg : g.nodes[k].args.length ≤ 2 ^ 30 := by
        have h1 := leftG_one g.nodes 0 _ hmem
        have h2 := hg.total
        omega
      have e30 : (2 : Nat) ^ 30 = 1073741824 := by decide
      have e31 : (2 : Nat) ^ 31 = 2147483648 := by decide
      obtain ⟨bb, ob, verb, rb, eb, vsb, hix, hget, hvo⟩ := (built_ints hRj).at hc
      obtain ⟨bn, on, vern, ron, en, vsn, av, lv, hixn, hgn, hvl, hv5, _, _, _, _, _, ha, hl⟩ := (hN.mono I.grow).at (List.getElem?_eq_getElem hkN)
      have hpart5 : partA (some 5) vsn on = some (nodeV g.nodes[k] av lv) := by rw [partA, if_pos hvl, hv5]; rfl
      obtain ⟨ver1, o1⟩ := I.o1
      clear hk hnd
      have hnd : zAH g (zAU g)[j] = g.nodes[k] := by
        have : (zAU g)[j] = (k : Int) := by
          rw [List.getElem?_eq_getElem hj] at hc; exact Option.some.inj hc
        rw [this]; simp [zAH, List.getElem?_eq_getElem hkN]
      have hnd' := hnd
      clear hnd
      repeat with_reducible first | refine zAA ?_ | refine zAB ?_ | refine zAC ?_ | refine zAD ?_ | refine zAK ?_ | (apply st_q; exact q1)
      refine st_alloc I.grow.wf ?_
      rintro b9 h6 hb9 g6 o9
      refine zAP (by exact e1) (by exact e1) (cs := [.int .i64 g.nodes[k].kind, .str g.nodes[k].name, av, lv, .bool g.nodes[k].isOpen]) rfl rfl g6.wf o9 (by simp) (ones_node ha.len hl.len) ?_
      rintro v7 h7 p7 o7
      simp only [List.take_zero, List.nil_append, List.length_cons, List.length_nil, List.drop_succ_cons, List.drop_zero, List.append_nil, Nat.zero_add, Nat.reduceAdd, List.drop_nil, List.cons_append] at o7
      have g7 : Grow hp h7 := p7.grow hp I.grow.wf g6 hb9
      clear o9 p7 g6 hix hget hvo hixn hgn hpart5 hv5 o1
      repeat with_reducible first | refine zAA ?_ | refine zAB ?_ | refine zAC ?_ | refine zAD ?_ | (apply st_q; exact q1)
      refine zAS (by exact s1) ((CloneStr_ok H g.nodes[k].labels (by omega) lv h7 g7.wf (hl.mono g7)).mono ?_)
      rintro cs1 h8 ⟨B8, g8⟩
      replace o7 := g8.keep _ _ o7
      have gg8 := g7.trans g8
      repeat with_reducible (apply st_q; exact q1)
      refine zAP (by exact e1) (by exact e1) (cells_of_len B8.len) rfl g8.wf o7 (by simp) (by simp only [List.all_cons, List.all_nil, one_of_len B8.len, Bool.and_true]) ?_
      rintro v9 h9 p9 o9
      simp only [List.take_succ_cons, List.take_zero, List.nil_append, List.length_cons, List.length_nil, List.drop_succ_cons, List.drop_zero, List.append_nil, Nat.zero_add, Nat.reduceAdd, List.drop_nil, List.cons_append] at o9
      have g9 : Grow hp h9 := p9.grow hp I.grow.wf gg8 hb9
      have B9 := built_but B8 p9 o7 (fun vs hh => by cases hh)
      have nx8 := gg8.next
      have nx9 := g9.next
      have nx7 := g7.next
      clear B8 g8 p9 o7 gg8 g7
      repeat with_reducible first | refine zAA ?_ | refine zAB ?_ | refine zAC ?_ | refine zAD ?_ | (apply st_q; exact q1)
      refine zAS (by exact s1) ((CloneInt_ok H g.nodes[k].args (by omega) av h9 g9.wf (ha.mono g9)).mono ?_)
      rintro ci1 h10 ⟨B10, g10⟩
      replace o9 := g10.keep _ _ o9
      have gg10 := g9.trans g10
      replace B9 := B9.grow g10
      repeat with_reducible (apply st_q; exact q1)
      refine zAP (by exact e1) (by exact e1) (cells_of_len B10.len) rfl g10.wf o9 (by simp) (by simp only [List.all_cons, List.all_nil, one_of_len B10.len, Bool.and_true]) ?_
      rintro v11 h11 p11 o11
      simp only [List.take_succ_cons, List.take_zero, List.nil_append, List.length_cons, List.length_nil, List.drop_succ_cons, List.drop_zero, List.append_nil, Nat.zero_add, Nat.reduceAdd, List.drop_nil, List.cons_append] at o11
      have g11 : Grow hp h11 := p11.grow hp I.grow.wf gg10 hb9
      have B11 : Built h11 hp.next 9 1 cs1 g.nodes[k].labels.length (g.nodes[k].labels.map AVal.str) := built_base (built_but B9 p11 o9 (fun vs hh => by cases hh)) nx7
      have C11 : Built h11 hp.next 3 1 ci1 g.nodes[k].args.length (g.nodes[k].args.map (AVal.int .i64)) := built_base (built_but B10 p11 o9 (fun vs hh => by cases hh)) nx9
      have hci := C11.len
      clear B9 B10 g10 p11 o9 gg10 g9
      repeat with_reducible first | refine zAA ?_ | refine zAB ?_ | refine zAC ?_ | refine zAD ?_ | (apply st_q; exact q1)
      have hlo : Lst (zAU g) g.nodes[k].args 0 = g.nodes[k].args := by simp [Lst]
      have hle : Lst (zAU g) g.nodes[k].args g.nodes[k].args.length = (trimN (zAU g) g.nodes[k]).args := by simp [Lst, trimN]
      refine cd_post (fun a' hq => (∀ c p, h11.objs.get c = some p → (∀ n, ci1 ≠ .slice (some (c, 0)) n) → hq.objs.get c = some p) ∧ Grow hp hq ∧ h11.next ≤ hq.next ∧ Built hq hp.next 3 1 ci1 g.nodes[k].args.length ((Lst (zAU g) g.nodes[k].args g.nodes[k].args.length).map (AVal.int .i64)) ∧
        a'.defers = [] ∧ ev a' (.tmp 1) = some (.ptr (some (b1, 0))) ∧ ev a' (.tmp 2) = some (.ptr (some (b2, 0))) ∧ ev a' (.tmp 4) = some (.map (some bm)) ∧ ev a' (.tmp 28) = some rv ∧ ev a' (.tmp 9) = some (.ptr (some (b9, 0))) ∧ ev a' (.tmp 30) = some (.int .i64 (j : Nat)) ∧ ev a' (.tmp 29) = some (.int .i64 ((zAU g).length : Nat))) ?_ ?_
      · refine cd_count (N := g.nodes[k].args.length) (by omega) (fun i a' hq => (∀ c p, h11.objs.get c = some p → (∀ n, ci1 ≠ .slice (some (c, 0)) n) → hq.objs.get c = some p) ∧ Grow hp hq ∧ h11.next ≤ hq.next ∧ Built hq hp.next 3 1 ci1 g.nodes[k].args.length ((Lst (zAU g) g.nodes[k].args i).map (AVal.int .i64)) ∧
          a'.defers = [] ∧ ev a' (.tmp 1) = some (.ptr (some (b1, 0))) ∧ ev a' (.tmp 2) = some (.ptr (some (b2, 0))) ∧ ev a' (.tmp 4) = some (.map (some bm)) ∧ ev a' (.tmp 28) = some rv ∧ ev a' (.tmp 9) = some (.ptr (some (b9, 0))) ∧ ev a' (.tmp 30) = some (.int .i64 (j : Nat)) ∧ ev a' (.tmp 29) = some (.int .i64 ((zAU g).length : Nat)) ∧ ev a' (.tmp 48) = some ci1)
          (by rintro i a' hq t w (rfl | rfl | rfl) ⟨m1, m2, m3, m4, m5, m6, m7, m8, m9, m10, m11, m12, m13⟩ <;> exact ⟨m1, m2, m3, m4, by rw [zAV]; exact m5, by exact e1, by exact e1, by exact e1, by exact e1, by exact e1, by exact e1, by exact e1, by exact e1⟩) (by decide) ?_ ?_
          ⟨fun c p hc _ => hc, g11, Nat.le_refl _, by rw [hlo]; exact C11, by exact n1, by exact e1, by exact e1, by exact e1, by exact e1, by exact e1, by exact e1, by exact e1, by exact e1⟩ (by exact e1) (by exact e1)
        · obtain ⟨verm, om⟩ := (I.other g11).om
          clear hd e1' e2' e4' e28 hi hn
          rintro i a' hq hil ⟨hkp, gq, nq, hB, hd, e1', e2', e4', e28, e9, e30', e29, e48⟩ hi hn
          rcases hB with ⟨_, hh, _⟩ | ⟨_, hh, _⟩ | ⟨ba, vsa, vera, hba, hcq, hga, hla, hta⟩
          · omega
          · omega
          rw [Nat.mul_one] at hla hta
          have hixa : slA ci1 1 i = some (ba, i) := by rw [hcq]; simp [slA, hil]
          have hva : vsa[i]? = some (.int .i64 g.nodes[k].args[i]) := by
            have := congrArg (fun l => l[i]?) hta
            simp only [List.getElem?_take, if_pos hil, List.getElem?_map, Lst_get hil, Option.map_some] at this
            exact this
          have o9q := hkp _ _ o11 (built_ne C11 o11 fun vs hh => by cases hh)
          have hlk := look_to (hkp _ _ om (built_ne C11 om fun vs hh => by cases hh)) g.nodes[k].args[i]
          clear hcq
          repeat with_reducible first | refine zAA ?_ | refine zAB ?_ | refine zAC ?_ | refine zAD ?_ | refine zAK ?_ | (apply st_q; exact q1)
          refine zAP (by exact e1) (by exact e1) (by exact cc) rfl gq.wf hga (by simp; omega) rfl ?_
          rintro vz hz pz oz
          simp only [List.length_cons, List.length_nil, Nat.zero_add] at oz
          have hcq : ci1 = .slice (some (ba, 0)) g.nodes[k].args.length := by
            rcases slForms hci with h1 | ⟨b, o, h1⟩ | ⟨_, hh⟩ | ⟨_, hh⟩
            · rw [h1] at hixa; cases hixa
            · rw [h1] at hixa
              simp only [slA, if_pos hil, Option.some.injEq, Prod.mk.injEq] at hixa
              obtain ⟨rfl, h2⟩ := hixa
              rw [h1, show o = 0 by omega]
            · omega
            · omega
          repeat with_reducible first | refine zAA ?_ | refine zAJ ?_ | refine zAB ?_
          refine ⟨⟨fun c p hc hne => pz.keep c (by rintro rfl; exact hne _ hcq) _ (hkp c p hc hne), pz.grow hp I.grow.wf gq hba, Nat.le_trans nq pz.next, .inr (.inr ⟨ba, _, _, hba, hcq, oz, by simp; omega, ?_⟩), by exact n1, by exact e1, by exact e1, by exact e1, by exact e1, by exact e1, by exact e1, by exact e1, by exact e1⟩, by exact e1, by exact e1⟩
          rw [Nat.mul_one, set_take hil hla, hta, ← Lst_set hil, List.map_set]
        · rintro a' hq ⟨m1, m2, m3, m4, m5, m6, m7, m8, m9, m10, m11, m12, _⟩
          exact ⟨m1, m2, m3, m4, m5, m6, m7, m8, m9, m10, m11, m12⟩
      · clear hd e1' e2' e4' e28 hi hn
        rintro a' hq ⟨hkp, gq, nq, hB, hd, e1', e2', e4', e28, e9, e30', e29⟩
        rw [hle] at hB
        have Iq := I.other gq
        have o9q := hkp _ _ o11 (built_ne C11 o11 fun vs hh => by cases hh)
        have B9q : Built hq hp.next 9 1 cs1 g.nodes[k].labels.length (g.nodes[k].labels.map AVal.str) := built_stay B11 fun c p hc hcp _ => hkp c p hc (built_ne C11 hc fun vs hh => by
          obtain ⟨vs', hcp⟩ := hcp
          rw [hcp] at hh; cases hh)
        obtain ⟨ver2, vo, cs, o2, kB, kl, kn⟩ := Iq.o2
        have nl : (((zAU g).take j).map fun i => trimN (zAU g) (zAH g i)).length = j := by simp; omega
        rw [nl] at kB kl
        have hrf := reachF_len hg
        repeat with_reducible first | refine zAA ?_ | refine zAD ?_ | (apply st_q; exact q1)
        refine st_bslice1 (by exact e1) (cs := [.int .i64 g.nodes[k].kind, .str g.nodes[k].name, ci1, cs1, .bool g.nodes[k].isOpen]) rfl rfl rfl gq.wf ?_
        rintro bx h12 hbx g12 ox
        have kB' := kB.grow g12
        refine st_append1 (by exact e1) (by exact e1) kB' ox rfl (ones_node hci B11.len) (roomOK H (by decide) (by omega)) g12.wf (by have := I.grow.next; have := gq.next; have := g12.next; omega) ?_
        rintro vo' h13 B13 f13 w13 n13 gr13 kp13
        have o2' := kp13 _ _ (g12.keep _ _ o2) (built_ne kB' (g12.keep _ _ o2) fun vs hh => by cases hh)
        have g13 : Grow h h13 := gr13 h hw (Iq.grow.trans g12) (Nat.le_refl _)
        repeat with_reducible (apply st_q; exact q1)
        refine zAP (by exact e1) (by exact e1) (cells_of_len B13.len) rfl w13 o2' (by simp) (by simp only [List.all_cons, List.all_nil, one_of_len B13.len, Bool.and_true]) ?_
        rintro v14 h14 p14 o14
        simp only [List.take_succ_cons, List.take_zero, List.nil_append, List.length_cons, List.length_nil, List.drop_succ_cons, List.drop_zero, List.append_nil, Nat.zero_add, Nat.reduceAdd, List.drop_nil, List.cons_append] at o14
        have hstay : ∀ c p, hq.objs.get c = some p → (∀ vs, p.2 ≠ .cells false 60 vs) → c ≠ b2 → h14.objs.get c = some p := fun c p hc hp hne => p14.keep c hne _ (kp13 _ _ (g12.keep _ _ hc) (built_ne kB' (g12.keep _ _ hc) hp))
        obtain ⟨vr1, k1'⟩ := Iq.o1
        obtain ⟨vrm, km'⟩ := Iq.om
        have n14 := p14.next
        have n12 := g12.next
        have hns : ((zAU g).take (j + 1)).map (fun i => trimN (zAU g) (zAH g i)) = ((zAU g).take j).map (fun i => trimN (zAU g) (zAH g i)) ++ [trimN (zAU g) g.nodes[k]] := by
          rw [List.take_succ_eq_append_getElem hj, List.map_append]
          simp only [List.map_cons, List.map_nil, hnd']
        have hown : ∀ {c : List AVal} {n : Node}, OwnN hq h.next c n → OwnN h14 h.next c n := fun kk => OwnN_stay kk fun b p hb hp => hstay b p hb (fun vs hh => by rcases hp with ⟨vs', hp⟩ | ⟨vs', hp⟩ <;> (rw [hp] at hh; cases hh)) (by
          rintro rfl
          rw [o2] at hb
          simp only [Option.some.injEq] at hb
          rcases hp with ⟨vs', hp⟩ | ⟨vs', hp⟩ <;> (rw [← hb] at hp; cases hp))
        have I14 : TInv h b1 b2 bm nv g.root (zAU g) (((zAU g).take (j + 1)).map fun i => trimN (zAU g) (zAH g i)) h14 := by
          refine ⟨p14.grow h hw g13 (by have := I.low; omega), ⟨_, hstay _ _ k1' (fun vs hh => by cases hh) (by have := I.low; omega)⟩, ⟨_, hstay _ _ km' (fun vs hh => by cases hh) (by rintro rfl; rw [o2] at km'; cases km')⟩, ⟨_, vo', cs ++ [[.int .i64 g.nodes[k].kind, .str g.nodes[k].name, ci1, cs1, .bool g.nodes[k].isOpen]], o14, ?_, ?_, ?_⟩, I.low.1, I.low.2.1, by have := I.low; have := gq.next; omega⟩
          · have : (((zAU g).take (j + 1)).map fun i => trimN (zAU g) (zAH g i)).length = j + 1 := by simp; omega
            rw [this, List.flatten_append]
            exact built_but (by simpa using B13) p14 o2' (fun vs hh => by cases hh)
          · simp [kl]; omega
          · intro i c n hcc hnn
            rw [hns] at hnn
            rcases Nat.lt_or_ge i j with hij | hij
            · rw [List.getElem?_append_left (by omega)] at hcc
              rw [List.getElem?_append_left (by omega)] at hnn
              exact hown (kn i c n hcc hnn)
            · rw [List.getElem?_append_right (by omega), kl] at hcc
              rw [List.getElem?_append_right (by omega), nl] at hnn
              obtain rfl : i = j := by
                have := (List.getElem?_eq_some_iff.1 hcc).1
                simp only [List.length_cons, List.length_nil] at this
                omega
              rw [Nat.sub_self, List.getElem?_cons_zero, Option.some.injEq] at hcc hnn
              subst hcc; subst hnn
              refine hown ⟨ci1, cs1, rfl, ?_, built_base B9q (by have := I.grow.next; omega)⟩
              have hl2 : (trimN (zAU g) g.nodes[k]).args.length = g.nodes[k].args.length := by simp [trimN]
              rw [hl2]
              exact built_base hB (by have := I.grow.next; omega)
        have hR14 : Built h14 h.next 3 1 rv (zAU g).length ((zAU g).map (AVal.int .i64)) := built_stay (hRj.grow gq) fun c p hc' ⟨vs, hp'⟩ _ => hstay c p hc' (fun vs' hh => by rw [hp'] at hh; cases hh) (by
          rintro rfl
          rw [o2] at hc'
          simp only [Option.some.injEq] at hc'
          rw [← hc'] at hp'; cases hp')
        repeat with_reducible first | refine zAA ?_ | refine zAJ ?_ | refine zAB ?_
        exact ⟨⟨I14, hR14, by exact n1, by exact e1, by exact e1, by exact e1, by exact e1⟩, by exact e1, by exact e1⟩
    · rintro a hp ⟨I, _, hd, e1', e2', _, _⟩
      rw [List.take_length] at I
      obtain ⟨ver2, vo, cs, o2, kB, kl, kn⟩ := I.o2
      repeat with_reducible first | refine zAA ?_ | refine zAC ?_ | refine zAD ?_ | (apply st_q; exact q1)
      have hone := one_of_len kB.len
      refine zAP (by exact e1) (by exact e1) (cs := [vo, .int .i64 0]) rfl rfl I.grow.wf o2 (by simp) (by simp only [List.all_cons, List.all_nil, hone, Bool.true_and, Bool.and_true]; rfl) ?_
      rintro v9 h9 p9 o9
      simp only [List.take_zero, List.nil_append, List.length_cons, List.length_nil, List.drop_succ_cons, List.drop_zero, List.append_nil, Nat.zero_add, Nat.reduceAdd, List.drop_nil, List.cons_append] at o9
      repeat with_reducible first | refine zAA ?_ | refine zAB ?_ | refine zAG ?_
      have hl2 := I.low
      refine zAE (v := .agg [vo, .int .i64 0]) (by exact n1) ?_ ⟨?_, p9.grow h hw I.grow (by omega)⟩
      · have hp2 : partA (some 2) [vo, .int .i64 0] 0 = some (.agg [vo, .int .i64 0]) := rfl
        simp only [resultsA, mapO, resultA, tmps_put, tmps_ev, tmps_none, ev_put, ev_none, Nat.reduceEqDiff, if_false, e2', o9, hp2]
      · have hB9 := built_but kB p9 o2 (fun vs hh => by cases hh)
        have hlen0 : (trimF g).nodes.length = ((zAU g).map fun i => trimN (zAU g) (zAH g i)).length := rfl
        exact ⟨vo, cs, rfl, hB9, by rw [hlen0]; exact kl, fun i c n hc hn => OwnN_stay (kn i c n hc hn) fun b p hb hp => p9.keep b (by
          rintro rfl
          rw [o2] at hb
          simp only [Option.some.injEq] at hb
          rcases hp with ⟨vs', hp⟩ | ⟨vs', hp⟩ <;> (rw [← hb] at hp; cases hp)) _ hb⟩
end
end Go.Ab.S
end
section
/-
  Rows and nodes held against each other.
-/
namespace Go.Ab.S
open Go.Ab
set_option maxHeartbeats 8000000
def eqLL : List (List Nat) → List (List Nat) → Bool
  | [], [] => true
  | a :: x, b :: y => eqL a b && eqLL x y
  | _, _ => false
theorem eqLL_drop {x y : List (List Nat)} {i : Nat} (hx : i < x.length) (hy : i < y.length) : eqLL (x.drop i) (y.drop i) = (eqL x[i] y[i] && eqLL (x.drop (i + 1)) (y.drop (i + 1))) := by
  rw [List.drop_eq_getElem_cons hx, List.drop_eq_getElem_cons hy, eqLL]
theorem eqLL_len : ∀ {x y : List (List Nat)}, x.length ≠ y.length → eqLL x y = false
  | [], [], h => absurd rfl h
  | [], _ :: _, _ => rfl
  | _ :: _, [], _ => rfl
  | a :: x, b :: y, h => by
    rw [eqLL, eqLL_len (x := x) (y := y) (by simpa using h), Bool.and_false]
def freeF (n : Node) : Bool := n.kind == 1 || (n.kind == 3 && n.isOpen)
def alikeF (a b : Node) : Bool := (((a.kind == b.kind && eqL a.name b.name) && a.isOpen == b.isOpen) && a.args.length == b.args.length) && eqLL a.labels b.labels
section
variable {fns : FuncId → Option AFunc} {summ : FuncId → List AVal → AHeap → Option (D (AVal × AHeap))}
variable (H : Has fns summ)
include H
theorem EqualStr_ok (x y : List (List Nat)) (hx : x.length < 2 ^ 60) (v u : AVal) (h : AHeap) (hv : StrsAt h v x) (hu : StrsAt h u y) : Cl fns summ 38 [v, u] h fun r h' => r = .bool (eqLL x y) ∧ h' = h := by
  refine H.go (fn := F_EqualStr) rfl (by decide) rfl rfl ?_
  unfold F_EqualStr
  dsimp only [qQ, qE, qN, gQ, gE, vi]
  have hl1 := hv.len
  have hl2 := hu.len
  by_cases hne : x.length = y.length
  · have hz : ((Int.ofNat x.length : Int) != Int.ofNat y.length) = false := by rw [hne]; simp
    have hly : ∀ j, j < x.length → j < y.length := fun j hj => hne ▸ hj
    have hend : eqLL (x.drop x.length) (y.drop x.length) = true := by rw [List.drop_length, hne, List.drop_length]; rfl
    clear hne
    repeat with_reducible first | refine zAA ?_ | refine zAB ?_ | refine zAC ?_ | refine zAD ?_ | refine zAL ?_ | (apply st_q; exact q1) | (apply zAI; exact e1)
    refine cd_count (N := x.length) (by omega) (fun j a hp => hp = h ∧ a.defers = [] ∧ ev a (.tmp 0) = some v ∧ ev a (.tmp 1) = some u ∧ eqLL x y = eqLL (x.drop j) (y.drop j))
      (by rintro j a hp t w (rfl | rfl | rfl) ⟨h1, h2, h3, h4, h5⟩ <;> exact ⟨h1, by rw [zAV]; exact h2, by exact e1, by exact e1, h5⟩) (by decide) ?_ ?_ ⟨rfl, by exact n1, by exact e1, by exact e1, rfl⟩ (by exact e1) (by exact e1)
    · rintro j a hp hj ⟨rfl, hd, h0, h1, hr⟩ hi hn
      obtain ⟨b, o, ver, ro, e, vs, hix, hget, hvo⟩ := hv.at (List.getElem?_eq_getElem hj)
      have hyj := hly j hj
      obtain ⟨b', o', ver', ro', e', vs', hix', hget', hvo'⟩ := hu.at (List.getElem?_eq_getElem hyj)
      rw [eqLL_drop hj hyj] at hr
      clear hend hly
      cases hc : eqL x[j] y[j]
      · rw [hc, Bool.false_and] at hr
        repeat' with_reducible first | refine zAA ?_ | refine zAN ?_ | refine blk_ret ?_ | refine zAB ?_ | refine zAC ?_ | refine zAD ?_ | refine zAK ?_ | refine zAG ?_ | refine dr_nil ?_ | refine cd_draw ?_ | (apply dr_q; exact q1) | (apply dr_ql; exact q1; exact og1) | (apply st_q; exact q1) | (apply zAF; exact e1) | (apply zAE; exact n1; exact r1)
        exact ⟨by rw [hr], rfl⟩
      · rw [hc, Bool.true_and] at hr
        repeat with_reducible first | refine zAA ?_ | refine zAJ ?_ | refine zAB ?_ | refine zAC ?_ | refine zAD ?_ | refine zAK ?_ | refine zAL ?_ | refine dr_nil ?_ | refine cd_draw ?_ | (apply dr_q; exact q1) | (apply dr_ql; exact q1; exact og1) | (apply st_q; exact q1) | (apply zAI; exact e1)
        exact ⟨⟨rfl, by exact n1, by exact e1, by exact e1, hr⟩, by exact e1, by exact e1⟩
    · rintro a hp ⟨rfl, hd, h0, h1, hr⟩
      have hr' : eqLL x y = true := by rw [hr, hend]
      clear hr hend
      repeat' with_reducible first | refine zAA ?_ | refine zAB ?_ | refine zAC ?_ | refine zAD ?_ | refine zAG ?_ | (apply st_q; exact q1) | (apply zAE; exact n1; exact r1)
      exact ⟨by rw [hr'], rfl⟩
  · have hz : ((Int.ofNat x.length : Int) != Int.ofNat y.length) = true := by simp; omega
    have hr := eqLL_len hne
    repeat' with_reducible first | refine zAA ?_ | refine zAN ?_ | refine zAB ?_ | refine zAC ?_ | refine zAD ?_ | refine zAG ?_ | (apply st_q; exact q1) | (apply zAF; exact e1) | (apply zAE; exact n1; exact r1)
    exact ⟨by rw [hr], rfl⟩

theorem gfree_ok (n : Node) (av lv : AVal) (h : AHeap) (hw : WF h) : Cl fns summ 33 [nodeV n av lv] h fun r h' => r = .bool (freeF n) ∧ Grow h h' := by
  unfold nodeV
  refine H.go (fn := F_gfree) rfl (by decide) rfl rfl ?_
  unfold F_gfree
  dsimp only [qQ, qE, qN, gQ, gE, vi]
  refine zAC (zAD ?_)
  refine st_box (by exact e1) (by exact cc) hw ?_
  rintro b1 h1 hb1 gr1 o1
  repeat' with_reducible first | refine zAA ?_ | refine zAB ?_ | refine zAC ?_ | refine zAD ?_ | refine zAG ?_ | (apply st_q; exact q1) | (apply st_pO; exact e1; exact e2) | (apply st_qS; exact e1; exact g1; exact q2) | (apply st_sA; exact e1; exact g1; exact e2; exact e3) | (apply zAE; exact n1; exact r1)
  exact ⟨rfl, gr1⟩
theorem cfree_ok (n : Node) (av lv : AVal) (h : AHeap) (hw : WF h) : Cl fns summ 120 [nodeV n av lv] h fun r h' => r = .bool (n.kind == 1 || n.isOpen) ∧ Grow h h' := by
  unfold nodeV
  refine H.go (fn := F_cfree) rfl (by decide) rfl rfl ?_
  unfold F_cfree
  dsimp only [qQ, qE, qN, gQ, gE, vi]
  refine zAC (zAD ?_)
  refine st_box (by exact e1) (by exact cc) hw ?_
  rintro b1 h1 hb1 gr1 o1
  repeat' with_reducible first | refine zAA ?_ | refine zAB ?_ | refine zAC ?_ | refine zAD ?_ | refine zAG ?_ | (apply st_q; exact q1) | (apply st_pO; exact e1; exact e2) | (apply st_qS; exact e1; exact g1; exact q2) | (apply zAE; exact n1; exact r1)
  exact ⟨rfl, gr1⟩
theorem alike_ok (x y : Node) (hx : NodeSm x) (av lv bv mv : AVal) (h : AHeap) (hw : WF h) (ha : IntsAt h av x.args) (hl : StrsAt h lv x.labels) (hb : IntsAt h bv y.args) (hm : StrsAt h mv y.labels) : Cl fns summ 32 [nodeV x av lv, nodeV y bv mv] h fun r h' => r = .bool (alikeF x y) ∧ Grow h h' := by
  unfold nodeV
  have e1' := ha.len
  have e2' := hb.len
  have hz : ((Int.ofNat x.args.length : Int) == Int.ofNat y.args.length) = (x.args.length == y.args.length) := by rw [Bool.eq_iff_iff]; simp; omega
  refine H.go (fn := F_alike) rfl (by decide) rfl rfl ?_
  unfold F_alike
  dsimp only [qQ, qE, qN, gQ, gE, vi]
  refine zAC (zAD ?_)
  refine st_box (by exact e1) (by exact cc) hw ?_
  rintro b1 h1 hb1 gr1 o1
  refine st_box (by exact e1) (by exact cc) gr1.wf ?_
  rintro b2 h2 hb2 gr2 o2
  replace o1 := gr2.keep _ _ o1
  have gr := gr1.trans gr2
  cases hc : (((x.kind == y.kind && eqL x.name y.name) && x.isOpen == y.isOpen) && x.args.length == y.args.length)
  · have hr : alikeF x y = false := by rw [alikeF, hc, Bool.false_and]
    repeat' with_reducible first | refine zAA ?_ | refine zAB ?_ | refine zAC ?_ | refine zAD ?_ | refine zAG ?_ | (apply st_q; exact q1) | (apply st_pA; exact e1; exact e2) | (apply st_qF; exact e1) | (apply st_eF; exact e1) | (apply st_qS; exact e1; exact g1; exact q2) | (apply zAE; exact n1; exact r1)
    exact ⟨by rw [hr], gr⟩
  · have hr : alikeF x y = eqLL x.labels y.labels := by rw [alikeF, hc, Bool.true_and]
    repeat with_reducible first | refine zAA ?_ | refine zAB ?_ | refine zAC ?_ | refine zAD ?_ | (apply st_q; exact q1) | (apply st_pA; exact e1; exact e2) | (apply st_qT; exact e1; exact q1) | (apply st_qS; exact e1; exact g1; exact q2)
    refine st_callT (by exact e1) (by exact s1) ((EqualStr_ok H x.labels y.labels hx.labels lv mv h2 (hl.mono gr) (hm.mono gr)).mono ?_)
    rintro _ _ ⟨rfl, rfl⟩
    repeat' with_reducible first | refine zAA ?_ | refine zAB ?_ | refine zAG ?_ | (apply st_q; exact q1) | (apply zAE; exact n1; exact r1)
    exact ⟨by rw [hr], gr⟩
end
end Go.Ab.S
end
section
/-
  Rows and nodes held against each other, again.
-/
namespace Go.Ab.S
open Go.Ab
set_option maxHeartbeats 8000000
def eqII : List Int → List Int → Bool
  | [], [] => true
  | a :: x, b :: y => (a == b) && eqII x y
  | _, _ => false
theorem eqII_drop {x y : List Int} {i : Nat} (hx : i < x.length) (hy : i < y.length) : eqII (x.drop i) (y.drop i) = ((x[i] == y[i]) && eqII (x.drop (i + 1)) (y.drop (i + 1))) := by
  rw [List.drop_eq_getElem_cons hx, List.drop_eq_getElem_cons hy, eqII]
theorem eqII_len : ∀ {x y : List Int}, x.length ≠ y.length → eqII x y = false
  | [], [], h => absurd rfl h
  | [], _ :: _, _ => rfl
  | _ :: _, [], _ => rfl
  | a :: x, b :: y, h => by
    rw [eqII, eqII_len (x := x) (y := y) (by simpa using h), Bool.and_false]
section
variable {fns : FuncId → Option AFunc} {summ : FuncId → List AVal → AHeap → Option (D (AVal × AHeap))}
variable (H : Has fns summ)
include H
theorem Labels_ok (x y : List (List Nat)) (hx : x.length < 2 ^ 60) (v u : AVal) (h : AHeap) (hv : StrsAt h v x) (hu : StrsAt h u y) : Cl fns summ 16 [v, u] h fun r h' => r = .bool (eqLL x y) ∧ h' = h := by
  refine H.go (fn := F_Labels) rfl (by decide) rfl rfl ?_
  unfold F_Labels
  dsimp only [qQ, qE, qN, gQ, gE, vi]
  have hl1 := hv.len
  have hl2 := hu.len
  by_cases hne : x.length = y.length
  · have hz : ((Int.ofNat x.length : Int) != Int.ofNat y.length) = false := by rw [hne]; simp
    have hly : ∀ j, j < x.length → j < y.length := fun j hj => hne ▸ hj
    have hend : eqLL (x.drop x.length) (y.drop x.length) = true := by rw [List.drop_length, hne, List.drop_length]; rfl
    clear hne
    repeat with_reducible first | refine zAA ?_ | refine zAB ?_ | refine zAC ?_ | refine zAD ?_ | refine zAL ?_ | (apply st_q; exact q1) | (apply zAI; exact e1)
    refine cd_count (N := x.length) (by omega) (fun j a hp => hp = h ∧ a.defers = [] ∧ ev a (.tmp 0) = some v ∧ ev a (.tmp 1) = some u ∧ eqLL x y = eqLL (x.drop j) (y.drop j))
      (by rintro j a hp t w (rfl | rfl | rfl) ⟨h1, h2, h3, h4, h5⟩ <;> exact ⟨h1, by rw [zAV]; exact h2, by exact e1, by exact e1, h5⟩) (by decide) ?_ ?_ ⟨rfl, by exact n1, by exact e1, by exact e1, rfl⟩ (by exact e1) (by exact e1)
    · rintro j a hp hj ⟨rfl, hd, h0, h1, hr⟩ hi hn
      obtain ⟨b, o, ver, ro, e, vs, hix, hget, hvo⟩ := hv.at (List.getElem?_eq_getElem hj)
      have hyj := hly j hj
      obtain ⟨b', o', ver', ro', e', vs', hix', hget', hvo'⟩ := hu.at (List.getElem?_eq_getElem hyj)
      rw [eqLL_drop hj hyj] at hr
      clear hend hly
      cases hc : eqL x[j] y[j]
      · rw [hc, Bool.false_and] at hr
        repeat' with_reducible first | refine zAA ?_ | refine zAN ?_ | refine blk_ret ?_ | refine zAB ?_ | refine zAC ?_ | refine zAD ?_ | refine zAK ?_ | refine zAG ?_ | refine dr_nil ?_ | refine cd_draw ?_ | (apply dr_q; exact q1) | (apply dr_ql; exact q1; exact og1) | (apply st_q; exact q1) | (apply zAF; exact e1) | (apply zAE; exact n1; exact r1)
        exact ⟨by rw [hr], rfl⟩
      · rw [hc, Bool.true_and] at hr
        repeat with_reducible first | refine zAA ?_ | refine zAJ ?_ | refine zAB ?_ | refine zAC ?_ | refine zAD ?_ | refine zAK ?_ | refine zAL ?_ | refine dr_nil ?_ | refine cd_draw ?_ | (apply dr_q; exact q1) | (apply dr_ql; exact q1; exact og1) | (apply st_q; exact q1) | (apply zAI; exact e1)
        exact ⟨⟨rfl, by exact n1, by exact e1, by exact e1, hr⟩, by exact e1, by exact e1⟩
    · rintro a hp ⟨rfl, hd, h0, h1, hr⟩
      have hr' : eqLL x y = true := by rw [hr, hend]
      clear hr hend
      repeat' with_reducible first | refine zAA ?_ | refine zAB ?_ | refine zAC ?_ | refine zAD ?_ | refine zAG ?_ | (apply st_q; exact q1) | (apply zAE; exact n1; exact r1)
      exact ⟨by rw [hr'], rfl⟩
  · have hz : ((Int.ofNat x.length : Int) != Int.ofNat y.length) = true := by simp; omega
    have hr := eqLL_len hne
    repeat' with_reducible first | refine zAA ?_ | refine zAN ?_ | refine zAB ?_ | refine zAC ?_ | refine zAD ?_ | refine zAG ?_ | (apply st_q; exact q1) | (apply zAF; exact e1) | (apply zAE; exact n1; exact r1)
    exact ⟨by rw [hr], rfl⟩

theorem Alike_ok (x y : Node) (hx : NodeSm x) (av lv bv mv : AVal) (h : AHeap) (hw : WF h) (ha : IntsAt h av x.args) (hl : StrsAt h lv x.labels) (hb : IntsAt h bv y.args) (hm : StrsAt h mv y.labels) : Cl fns summ 48 [nodeV x av lv, nodeV y bv mv] h fun r h' => r = .bool (alikeF x y) ∧ Grow h h' := by
  unfold nodeV
  have e1' := ha.len
  have e2' := hb.len
  have hz : ((Int.ofNat x.args.length : Int) == Int.ofNat y.args.length) = (x.args.length == y.args.length) := by rw [Bool.eq_iff_iff]; simp; omega
  refine H.go (fn := F_Alike) rfl (by decide) rfl rfl ?_
  unfold F_Alike
  dsimp only [qQ, qE, qN, gQ, gE, vi]
  refine zAC (zAD ?_)
  refine st_box (by exact e1) (by exact cc) hw ?_
  rintro b1 h1 hb1 gr1 o1
  refine st_box (by exact e1) (by exact cc) gr1.wf ?_
  rintro b2 h2 hb2 gr2 o2
  replace o1 := gr2.keep _ _ o1
  have gr := gr1.trans gr2
  cases hc : (((x.kind == y.kind && eqL x.name y.name) && x.isOpen == y.isOpen) && x.args.length == y.args.length)
  · have hr : alikeF x y = false := by rw [alikeF, hc, Bool.false_and]
    repeat' with_reducible first | refine zAA ?_ | refine zAB ?_ | refine zAC ?_ | refine zAD ?_ | refine zAG ?_ | (apply st_q; exact q1) | (apply st_pA; exact e1; exact e2) | (apply st_qF; exact e1) | (apply st_eF; exact e1) | (apply st_qS; exact e1; exact g1; exact q2) | (apply zAE; exact n1; exact r1)
    exact ⟨by rw [hr], gr⟩
  · have hr : alikeF x y = eqLL x.labels y.labels := by rw [alikeF, hc, Bool.true_and]
    repeat with_reducible first | refine zAA ?_ | refine zAB ?_ | refine zAC ?_ | refine zAD ?_ | (apply st_q; exact q1) | (apply st_pA; exact e1; exact e2) | (apply st_qT; exact e1; exact q1) | (apply st_qS; exact e1; exact g1; exact q2)
    refine st_callT (by exact e1) (by exact s1) ((Labels_ok H x.labels y.labels hx.labels lv mv h2 (hl.mono gr) (hm.mono gr)).mono ?_)
    rintro _ _ ⟨rfl, rfl⟩
    repeat' with_reducible first | refine zAA ?_ | refine zAB ?_ | refine zAG ?_ | (apply st_q; exact q1) | (apply zAE; exact n1; exact r1)
    exact ⟨by rw [hr], gr⟩
theorem EqualInt_ok (x y : List Int) (hx : x.length < 2 ^ 60) (v u : AVal) (h : AHeap) (hv : IntsAt h v x) (hu : IntsAt h u y) : Cl fns summ 78 [v, u] h fun r h' => r = .bool (eqII x y) ∧ h' = h := by
  refine H.go (fn := F_EqualInt) rfl (by decide) rfl rfl ?_
  unfold F_EqualInt
  dsimp only [qQ, qE, qN, gQ, gE, vi]
  have hl1 := hv.len
  have hl2 := hu.len
  by_cases hne : x.length = y.length
  · have hz : ((Int.ofNat x.length : Int) != Int.ofNat y.length) = false := by rw [hne]; simp
    have hly : ∀ j, j < x.length → j < y.length := fun j hj => hne ▸ hj
    have hend : eqII (x.drop x.length) (y.drop x.length) = true := by rw [List.drop_length, hne, List.drop_length]; rfl
    clear hne
    repeat with_reducible first | refine zAA ?_ | refine zAB ?_ | refine zAC ?_ | refine zAD ?_ | refine zAL ?_ | (apply st_q; exact q1) | (apply zAI; exact e1)
    refine cd_count (N := x.length) (by omega) (fun j a hp => hp = h ∧ a.defers = [] ∧ ev a (.tmp 0) = some v ∧ ev a (.tmp 1) = some u ∧ eqII x y = eqII (x.drop j) (y.drop j))
      (by rintro j a hp t w (rfl | rfl | rfl) ⟨h1, h2, h3, h4, h5⟩ <;> exact ⟨h1, by rw [zAV]; exact h2, by exact e1, by exact e1, h5⟩) (by decide) ?_ ?_ ⟨rfl, by exact n1, by exact e1, by exact e1, rfl⟩ (by exact e1) (by exact e1)
    · rintro j a hp hj ⟨rfl, hd, h0, h1, hr⟩ hi hn
      obtain ⟨b, o, ver, ro, e, vs, hix, hget, hvo⟩ := hv.at (List.getElem?_eq_getElem hj)
      have hyj := hly j hj
      obtain ⟨b', o', ver', ro', e', vs', hix', hget', hvo'⟩ := hu.at (List.getElem?_eq_getElem hyj)
      rw [eqII_drop hj hyj] at hr
      clear hend hly
      cases hc : (x[j] == y[j])
      · rw [hc, Bool.false_and] at hr
        have hcb : (x[j] != y[j]) = true := by simp only [bne, hc, Bool.not_false]
        repeat' with_reducible first | refine zAA ?_ | refine zAN ?_ | refine blk_ret ?_ | refine zAB ?_ | refine zAC ?_ | refine zAD ?_ | refine zAK ?_ | refine zAG ?_ | refine dr_nil ?_ | refine cd_draw ?_ | (apply dr_q; exact q1) | (apply dr_ql; exact q1; exact og1) | (apply st_q; exact q1) | (apply zAF; exact e1) | (apply zAE; exact n1; exact r1)
        exact ⟨by rw [hr], rfl⟩
      · rw [hc, Bool.true_and] at hr
        have hcb : (x[j] != y[j]) = false := by simp only [bne, hc, Bool.not_true]
        repeat with_reducible first | refine zAA ?_ | refine zAJ ?_ | refine zAB ?_ | refine zAC ?_ | refine zAD ?_ | refine zAK ?_ | refine zAL ?_ | refine dr_nil ?_ | refine cd_draw ?_ | (apply dr_q; exact q1) | (apply dr_ql; exact q1; exact og1) | (apply st_q; exact q1) | (apply zAI; exact e1)
        exact ⟨⟨rfl, by exact n1, by exact e1, by exact e1, hr⟩, by exact e1, by exact e1⟩
    · rintro a hp ⟨rfl, hd, h0, h1, hr⟩
      have hr' : eqII x y = true := by rw [hr, hend]
      clear hr hend
      repeat' with_reducible first | refine zAA ?_ | refine zAB ?_ | refine zAC ?_ | refine zAD ?_ | refine zAG ?_ | (apply st_q; exact q1) | (apply zAE; exact n1; exact r1)
      exact ⟨by rw [hr'], rfl⟩
  · have hz : ((Int.ofNat x.length : Int) != Int.ofNat y.length) = true := by simp; omega
    have hr := eqII_len hne
    repeat' with_reducible first | refine zAA ?_ | refine zAN ?_ | refine zAB ?_ | refine zAC ?_ | refine zAD ?_ | refine zAG ?_ | (apply st_q; exact q1) | (apply zAF; exact e1) | (apply zAE; exact n1; exact r1)
    exact ⟨by rw [hr], rfl⟩

theorem Ints_ok (x y : List Int) (hx : x.length < 2 ^ 60) (v u : AVal) (h : AHeap) (hv : IntsAt h v x) (hu : IntsAt h u y) : Cl fns summ 49 [v, u] h fun r h' => r = .bool (eqII x y) ∧ h' = h := by
  refine H.go (fn := F_Ints) rfl (by decide) rfl rfl ?_
  unfold F_Ints
  dsimp only [qQ, qE, qN, gQ, gE, vi]
  have hl1 := hv.len
  have hl2 := hu.len
  by_cases hne : x.length = y.length
  · have hz : ((Int.ofNat x.length : Int) != Int.ofNat y.length) = false := by rw [hne]; simp
    have hly : ∀ j, j < x.length → j < y.length := fun j hj => hne ▸ hj
    have hend : eqII (x.drop x.length) (y.drop x.length) = true := by rw [List.drop_length, hne, List.drop_length]; rfl
    clear hne
    repeat with_reducible first | refine zAA ?_ | refine zAB ?_ | refine zAC ?_ | refine zAD ?_ | refine zAL ?_ | (apply st_q; exact q1) | (apply zAI; exact e1)
    refine cd_count (N := x.length) (by omega) (fun j a hp => hp = h ∧ a.defers = [] ∧ ev a (.tmp 0) = some v ∧ ev a (.tmp 1) = some u ∧ eqII x y = eqII (x.drop j) (y.drop j))
      (by rintro j a hp t w (rfl | rfl | rfl) ⟨h1, h2, h3, h4, h5⟩ <;> exact ⟨h1, by rw [zAV]; exact h2, by exact e1, by exact e1, h5⟩) (by decide) ?_ ?_ ⟨rfl, by exact n1, by exact e1, by exact e1, rfl⟩ (by exact e1) (by exact e1)
    · rintro j a hp hj ⟨rfl, hd, h0, h1, hr⟩ hi hn
      obtain ⟨b, o, ver, ro, e, vs, hix, hget, hvo⟩ := hv.at (List.getElem?_eq_getElem hj)
      have hyj := hly j hj
      obtain ⟨b', o', ver', ro', e', vs', hix', hget', hvo'⟩ := hu.at (List.getElem?_eq_getElem hyj)
      rw [eqII_drop hj hyj] at hr
      clear hend hly
      cases hc : (x[j] == y[j])
      · rw [hc, Bool.false_and] at hr
        have hcb : (x[j] != y[j]) = true := by simp only [bne, hc, Bool.not_false]
        repeat' with_reducible first | refine zAA ?_ | refine zAN ?_ | refine blk_ret ?_ | refine zAB ?_ | refine zAC ?_ | refine zAD ?_ | refine zAK ?_ | refine zAG ?_ | refine dr_nil ?_ | refine cd_draw ?_ | (apply dr_q; exact q1) | (apply dr_ql; exact q1; exact og1) | (apply st_q; exact q1) | (apply zAF; exact e1) | (apply zAE; exact n1; exact r1)
        exact ⟨by rw [hr], rfl⟩
      · rw [hc, Bool.true_and] at hr
        have hcb : (x[j] != y[j]) = false := by simp only [bne, hc, Bool.not_true]
        repeat with_reducible first | refine zAA ?_ | refine zAJ ?_ | refine zAB ?_ | refine zAC ?_ | refine zAD ?_ | refine zAK ?_ | refine zAL ?_ | refine dr_nil ?_ | refine cd_draw ?_ | (apply dr_q; exact q1) | (apply dr_ql; exact q1; exact og1) | (apply st_q; exact q1) | (apply zAI; exact e1)
        exact ⟨⟨rfl, by exact n1, by exact e1, by exact e1, hr⟩, by exact e1, by exact e1⟩
    · rintro a hp ⟨rfl, hd, h0, h1, hr⟩
      have hr' : eqII x y = true := by rw [hr, hend]
      clear hr hend
      repeat' with_reducible first | refine zAA ?_ | refine zAB ?_ | refine zAC ?_ | refine zAD ?_ | refine zAG ?_ | (apply st_q; exact q1) | (apply zAE; exact n1; exact r1)
      exact ⟨by rw [hr'], rfl⟩
  · have hz : ((Int.ofNat x.length : Int) != Int.ofNat y.length) = true := by simp; omega
    have hr := eqII_len hne
    repeat' with_reducible first | refine zAA ?_ | refine zAN ?_ | refine zAB ?_ | refine zAC ?_ | refine zAD ?_ | refine zAG ?_ | (apply st_q; exact q1) | (apply zAF; exact e1) | (apply zAE; exact n1; exact r1)
    exact ⟨by rw [hr], rfl⟩

end
end Go.Ab.S
end
section
/-
  Builders of texts; classes by number.
-/
namespace Go.Ab.S
open Go.Ab
set_option maxHeartbeats 8000000
section
variable {fns : FuncId → Option AFunc} {summ : FuncId → List AVal → AHeap → Option (D (AVal × AHeap))}
variable (H : Has fns summ)
include H
theorem refine1_ok (cl : List Int) (i : Nat) (x : Int) (hi : cl[i]? = some x) (cv : AVal) (b ver : Nat) (rb : Bool) (eb : TypeId) (h : AHeap) (hb : h.objs.get b = some (ver, .cells rb eb [cv])) (hc : IntsAt h cv cl) : Cl fns summ 122 [.int .i64 (i : Nat), .ptr (some (b, 0))] h fun r h' => r = .int .i64 x ∧ h' = h := by
  obtain ⟨b', o', ver', ro', e', vs', hix, hget, hvo⟩ := hc.at hi
  refine H.go (fn := F_refine1) rfl (by decide) rfl rfl ?_
  unfold F_refine1
  dsimp only [qQ, qE, qN, gQ, gE, vi]
  repeat' with_reducible first | refine zAA ?_ | refine zAB ?_ | refine zAC ?_ | refine zAD ?_ | refine zAG ?_ | (apply st_q; exact q1) | (apply zAE; exact n1; exact r1)
  exact ⟨rfl, rfl⟩
omit H
def byteC (l : List Nat) : List AVal := l.map fun x => AVal.int .u8 (x : Nat)
/-- A builder of texts. -/
def BAt (h : AHeap) (base b : Nat) (l : List Nat) : Prop := base ≤ b ∧ ∃ ver p v, h.objs.get b = some (ver, .cells false 252 [p, v]) ∧ (p = .ptr none ∨ p = .ptr (some (b, 0))) ∧ Built h base 5 1 v l.length (byteC l)
include H
theorem WriteString_ok (s l : List Nat) (hs0 : s ≠ []) (hl : l.length + s.length ≤ 1000000) (base b : Nat) (h h0 : AHeap) (hb : BAt h base b l) (hw : WF h) (w0 : WF h0) (hg : Grow h0 h) (hbase : h0.next ≤ base) (hbn : base ≤ h.next) :
    Cl fns summ 152 [.ptr (some (b, 0)), .str s] h fun _ h' => BAt h' base b (l ++ s) ∧ Grow h0 h' ∧ base ≤ h'.next := by
  obtain ⟨hbb, ver, p, v, o, hp, B⟩ := hb
  have hone := one_of_len B.len
  -- behind the check
  have key : ∃ h1 ver1, Cl fns summ 176 [.ptr (some (b, 0))] h (fun _ h' => h' = h1) ∧ h1.objs.get b = some (ver1, .cells false 252 [.ptr (some (b, 0)), v]) ∧ (h1 = h ∨ But b h h1) := by
    rcases hp with rfl | rfl
    · exact ⟨_, _, cl_summ (H.checkNew b ver v h o hone) rfl, zAR _ _ _, .inr (but_put hw o _)⟩
    · exact ⟨h, ver, cl_summ (H.checkOld b ver v h o) rfl, o, .inl rfl⟩
  obtain ⟨h1, ver1, hcall, o1, hb1⟩ := key
  have w1 : WF h1 := by
    rcases hb1 with rfl | hb1
    · exact hw
    · exact hb1.wf hw
  have gr1 : Grow h0 h1 := by
    rcases hb1 with rfl | hb1
    · exact hg
    · exact hb1.grow h0 w0 hg (Nat.le_trans hbase hbb)
  have nx1 : h.next ≤ h1.next := by
    rcases hb1 with rfl | hb1
    · exact Nat.le_refl _
    · exact hb1.next
  have kp1 : ∀ c p, h.objs.get c = some p → c ≠ b → h1.objs.get c = some p := fun c p hc hne => by
    rcases hb1 with rfl | hb1
    · exact hc
    · exact hb1.keep c hne _ hc
  have B1 : Built h1 base 5 1 v l.length (byteC l) := built_stay B fun c p hc ⟨vs, hcp⟩ _ => kp1 c p hc (by
    rintro rfl
    rw [o] at hc
    simp only [Option.some.injEq] at hc
    rw [← hc] at hcp; cases hcp)
  clear kp1 hb1 hp
  refine H.go (fn := F_WriteString) rfl (by decide) rfl rfl ?_
  unfold F_WriteString
  dsimp only [qQ, qE, qN, gQ, gE, vi]
  repeat with_reducible first | refine zAA ?_ | refine zAB ?_ | refine zAC ?_ | refine zAD ?_ | (apply st_q; exact q1)
  refine zAS (by exact s1) (hcall.mono ?_)
  rintro _ _ rfl
  repeat with_reducible first | refine zAA ?_ | refine zAB ?_ | refine zAC ?_ | refine zAD ?_ | (apply st_q; exact q1)
  refine st_append (m := s.length) (new := byteC s) (xv := .str s) (by exact e1) (by exact e1) B1 rfl (List.length_pos_iff.2 hs0) (by simp [cellsOfA, byteC]) ?_ ?_ (by simp [byteC]) w1 (by omega) ?_
  · simp only [byteC, List.all_map, List.all_eq_true]; intro x hx; rfl
  · simp only [roomA]; rw [Bool.and_eq_true, Nat.ble_eq, Nat.ble_eq]; omega
  rintro v' h2 B2 hv2 w2 nx2 gr2 kp2
  have gr2 := gr2 h0 w0 gr1 hbase
  have o2 := kp2 _ _ o1 (built_ne B1 o1 fun vs hh => by cases hh)

  repeat with_reducible (apply st_q; exact q1)
  refine zAP (by exact e1) (by exact e1) (cells_of_len B2.len) rfl w2 o2 (by simp) (by simp only [List.all_cons, List.all_nil, one_of_len B2.len, Bool.and_true]) ?_
  intro ver3 h3 bt3 o3
  have gr3 := bt3.grow h0 w0 gr2 (by omega)
  have B3 : Built h3 base 5 1 v' (l.length + s.length) (byteC l ++ byteC s) := built_stay B2 fun c p hc ⟨vs, hcp⟩ _ => bt3.keep c (by
    rintro rfl
    rw [o2] at hc
    simp only [Option.some.injEq] at hc
    rw [← hc] at hcp; cases hcp) _ hc
  have nx3 := bt3.next
  clear B1 B2 bt3
  repeat' with_reducible first | refine zAA ?_ | refine zAB ?_ | refine zAC ?_ | refine zAD ?_ | refine zAG ?_ | (apply st_q; exact q1) | (apply zAE; exact n1; exact r1)
  refine ⟨⟨hbb, ver3, _, v', o3, .inr rfl, ?_⟩, gr3, by omega⟩
  have hbc : byteC (l ++ s) = byteC l ++ byteC s := List.map_append
  rw [hbc, List.length_append]; exact B3
end
end Go.Ab.S
end
