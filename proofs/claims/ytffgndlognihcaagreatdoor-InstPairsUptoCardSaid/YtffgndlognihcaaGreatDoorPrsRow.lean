/-
  The statement InstPairs holds of the given program: at every four graphs it answers true and never panics.
  Conditions: those of the given row InstPairsUptoCardSaid alone (what is handed in reads as at most 1048576 values and letters).
-/
import Derived.Test.YtffgndlognihcaaGreatDoorP18
import Derived.Test.YtffgndlognihcaaGreatDoorP21
import Derived.Test.YtffgndlognihcaaGreatDoorP22
import Derived.Test.YtffgndlognihcaaGreatDoorP23
import Derived.OpenShut
import Derived.LaidHandle
import Derived.JoinedCond
import Derived.SevenTiedAt
set_option linter.all false
section
/-
  Sizes of pairs.
-/
namespace Go.Ab.S
open Go Go.Ab
set_option maxHeartbeats 1000000
theorem trim_size {g : Graph} (hc : checkF g = 0) : (trimF g).nodes.length ≤ g.nodes.length ∧ leftG [] (trimF g).nodes 0 ≤ leftG [] g.nodes 0 := by
  have hlen : (trimF g).nodes.length = (reachF g).length := by simp [trimF]
  refine ⟨by rw [hlen]; exact trim_len hc, ?_⟩
  obtain ⟨h1, h2⟩ := reachF_ok g
  have := sum_sub (fun a => (nodeD g a).args.length) (reachF g) (allN g.nodes.length) h2 fun x hx => mem_allN.2 (h1 x hx)
  rw [leftG_sum, leftG_sum]
  have e : (g.nodes.map fun n => n.args.length) = (allN g.nodes.length).map fun a => (nodeD g a).args.length := by
    conv => lhs; rw [← all_nodes g]
    rw [List.map_map]; rfl
  rw [e]
  simp only [trimF, List.map_map]
  have e2 : ((fun n : Node => n.args.length) ∘ fun i => trimN (reachF g) (nodeD g i)) = fun a => (nodeD g a).args.length := by
    funext a; simp [trimN]
  rw [e2]; exact this
theorem close_size {g : Graph} (hc : checkF g = 0) : (closeF g).nodes.length + leftG [] (closeF g).nodes 0 ≤ g.nodes.length + leftG [] g.nodes 0 := by
  rw [closeF_eq hc]
  obtain ⟨h1, h2⟩ := trim_size (close_check hc)
  have e : (closeG g).nodes.length = g.nodes.length := by simp [closeG]
  have hlf : leftG [] (closeG g).nodes 0 = leftG [] g.nodes 0 := by
    show leftG [] (g.nodes.map closeN) 0 = _
    rw [leftG_sum, leftG_sum, List.map_map]
    refine congrArg List.sum (List.map_congr_left fun n hn => ?_)
    show (closeN n).args.length = _
    rw [close_args ((check_ns hc).2 n hn)]
  omega
theorem pair_size (g h : Graph) : (pairG g h).nodes.length + leftG [] (pairG g h).nodes 0 = (g.nodes.length + leftG [] g.nodes 0) + (h.nodes.length + leftG [] h.nodes 0) + 3 := by
  rw [pair_len, leftG_sum, leftG_sum, leftG_sum]
  simp only [pairG, List.map_append, List.sum_append, List.map_map, List.map_cons, List.map_nil, List.sum_cons, List.sum_nil]
  have e : ((fun n : Node => n.args.length) ∘ shN g.nodes.length) = fun n => n.args.length := by funext n; simp [shN]
  rw [e]
  simp only [topN, List.length_cons, List.length_nil]
  omega
theorem pair_tiny {g h : Graph} (hg : GTi g) (hh : GTi h) (hs : (g.nodes.length + leftG [] g.nodes 0) + (h.nodes.length + leftG [] h.nodes 0) + 3 ≤ 4096) : GTi (pairG g h) := by
  have e30 : (2 : Nat) ^ 30 = 1073741824 := by decide
  have e60 : (2 : Nat) ^ 60 = 1152921504606846976 := by decide
  have hz := pair_size g h
  have hm : ∀ n ∈ (pairG g h).nodes, (∃ m, (m ∈ g.nodes ∨ m ∈ h.nodes) ∧ n.args.length = m.args.length ∧ n.labels = m.labels) ∨ n = topN g.root (g.nodes.length + h.root) := by
    intro n hn
    simp only [pairG, List.mem_append, List.mem_map, List.mem_singleton] at hn
    rcases hn with (hn | ⟨m, hm, rfl⟩) | rfl
    · exact .inl ⟨n, .inl hn, rfl, rfl⟩
    · exact .inl ⟨m, .inr hm, by simp [shN], rfl⟩
    · exact .inr rfl
  have hsm : ∀ m, m ∈ g.nodes ∨ m ∈ h.nodes → NodeSm m ∧ m.labels.length ≤ 2 ^ 30 := fun m hm => by
    rcases hm with hm | hm
    · exact ⟨hg.all m hm, hg.labs m hm⟩
    · exact ⟨hh.all m hm, hh.labs m hm⟩
  refine ⟨⟨⟨by omega, fun n hn => ?_⟩, by omega, fun n hn => ?_⟩, by omega⟩
  · rcases hm n hn with ⟨m, h1, h2, h3⟩ | rfl
    · have := (hsm m h1).1
      exact ⟨by rw [h2]; exact this.args, by rw [h3]; exact this.labels, by rw [h3]; exact this.texts⟩
    · exact ⟨by simp [topN], by simp [topN], fun s hs => by simp [topN] at hs⟩
  · rcases hm n hn with ⟨m, h1, h2, h3⟩ | rfl
    · rw [h3]; exact (hsm m h1).2
    · simp [topN]
theorem twice_tiny : GTi twiceG := tiny_of (by decide) (by decide)
/-- **The law of pairs.** -/
theorem pairs_law {g h a b : Graph} (hg : GTi g) (hh : GTi h) (ha : GTi a) (hb : GTi b) (cg : checkF g = 0) (ch : checkF h = 0) (ca : checkF a = 0) (cb : checkF b = 0)
    (zg : g.nodes.length + leftG [] g.nodes 0 ≤ 100) (zh : h.nodes.length + leftG [] h.nodes 0 ≤ 100) (za : a.nodes.length + leftG [] a.nodes 0 ≤ 100) (zb : b.nodes.length + leftG [] b.nodes 0 ≤ 100) :
    GTi (closeF a) ∧ GTi (closeF b) ∧ checkF (closeF a) = 0 ∧ checkF (closeF b) = 0 ∧ GTi (pairG g h) ∧ GTi (pairG (closeF a) (closeF b)) ∧ isF (pairG g h) (pairG (closeF a) (closeF b)) = (isF g (closeF a) && isF h (closeF b)) ∧ isF twiceG (pairG (closeF a) (closeF b)) = sameF (closeF a) (closeF b) := by
  have ta := close_tiny ha ca
  have tb := close_tiny hb cb
  have ka := (close_quo ca).check
  have kb := (close_quo cb).check
  have xa := close_size ca
  have xb := close_size cb
  have t1 := pair_tiny hg hh (by omega)
  have t2 := pair_tiny ta tb (by omega)
  exact ⟨ta, tb, ka, kb, t1, t2, is_pair hg hh ta tb cg ch ka kb t1 t2 (by omega) (by omega), is_twice twice_tiny ka kb t2 (by omega) ((closed_iff ka).1 (close_closed ca)) ((closed_iff kb).1 (close_closed cb))⟩
end Go.Ab.S
end
section
/-
  Pairs are instances just if their parts are: the law's walk.
-/
namespace Go.Ab.S
open Go.Ab
set_option maxHeartbeats 8000000
section
variable {fns : FuncId → Option AFunc} {summ : FuncId → List AVal → AHeap → Option (D (AVal × AHeap))} {ro : Option Nat}
theorem st_bslice2w {d : Option Tmp} {e : TypeId} {sz : Nat} {z cs ds : List AVal} {u v : AVal} {x y : AOpd} {l : List Step} {a : AAct} {h : AHeap} {K : AAct → AHeap → Prop} (hx : ev a x = some u) (hy : ev a y = some v) (hu : cellsA u = cs) (hv : cellsA v = ds) (hcs : cs.length = sz) (hds : ds.length = sz) (hz : z.length = sz) (w : WF h)
    (k : ∀ b h', h.next ≤ b → Grow h h' → h'.objs.get b = some (b, .cells false e (cs ++ ds)) → St fns summ ro l (putA a d (.slice (some (b, 0)) 2)) h' K) : St fns summ ro (⟨d, none, .e (.bslice e sz 2 z [(0, x), (1, y)])⟩ :: l) a h K := by
  refine st_t (by intro _ _ hh; cases hh) (by intro _ _ hh; cases hh) (v := .slice (some (h.next, 0)) 2) (h' := newA h (.cells false e (cs ++ ds))) ?_ (k _ _ (Nat.le_refl _) ((Grow.refl w).new _) (new_get_same _ _))
  have hr : rep z 2 = z ++ z := by simp [rep]
  have h1 : cs.length = sz ∧ 0 * sz + sz ≤ (z ++ z).length := ⟨hcs, by rw [List.length_append]; omega⟩
  have h2 : List.take (0 * sz) (z ++ z) ++ cs ++ List.drop (0 * sz + sz) (z ++ z) = cs ++ z := by
    rw [Nat.zero_mul, Nat.zero_add, List.take_zero, List.nil_append, ← hz, List.drop_left]
  have h3 : ds.length = sz ∧ 1 * sz + sz ≤ (cs ++ z).length := ⟨hds, by rw [List.length_append]; omega⟩
  have h4 : List.take (1 * sz) (cs ++ z) ++ ds ++ List.drop (1 * sz + sz) (cs ++ z) = cs ++ ds := by
    rw [Nat.one_mul, ← hcs, List.take_left, List.drop_of_length_le (by rw [List.length_append]; omega), List.append_nil]
  simp only [turnA, hr, rowA, hx, hy, hu, hv, if_pos h1, h2, if_pos h3, h4]
end
theorem twice_at {h : AHeap} {bu bt ver ver' : Nat} {ro ro' : Bool} {e e' : TypeId} (hu : h.objs.get bu = some (ver, .cells ro e ([.int .i64 1, .str [], .slice none 0, .slice none 0, .bool false] ++ [.int .i64 2, .str [42], .slice (some (bt, 0)) 2, .slice none 0, .bool false]))) (ht : h.objs.get bt = some (ver', .cells ro' e' [.int .i64 0, .int .i64 0])) : GraphAt h (.agg [.slice (some (bu, 0)) 2, .int .i64 1]) twiceG := by
  have hnil : ∀ (hh : AHeap), SlAt hh 1 (.slice none 0) [] := fun hh => ⟨rfl, fun i x hx => by simp at hx⟩
  have hab : IntsAt h (.slice (some (bt, 0)) 2) [0, 0] := ⟨rfl, fun i x hx => by
    have hi : i < 2 := (List.getElem?_eq_some_iff.1 hx).1
    rcases (by omega : i = 0 ∨ i = 1) with rfl | rfl
    · simp only [List.map_cons, List.getElem?_cons_zero, Option.some.injEq] at hx
      subst hx
      exact ⟨rfl, bt, 0, ver', ro', e', _, rfl, ht, rfl⟩
    · simp only [List.map_cons, List.getElem?_cons_succ, List.getElem?_cons_zero, Option.some.injEq] at hx
      subst hx
      exact ⟨rfl, bt, 1, ver', ro', e', _, rfl, ht, rfl⟩⟩
  refine ⟨_, rfl, [[.int .i64 1, .str [], .slice none 0, .slice none 0, .bool false], [.int .i64 2, .str [42], .slice (some (bt, 0)) 2, .slice none 0, .bool false]], ⟨rfl, fun i x hx => ?_⟩, rfl, fun i n c hn hc => ?_⟩
  · have hi : i < 2 := (List.getElem?_eq_some_iff.1 hx).1
    rcases (by omega : i = 0 ∨ i = 1) with rfl | rfl
    · simp only [List.getElem?_cons_zero, Option.some.injEq] at hx
      subst hx
      exact ⟨rfl, bu, 0, ver, ro, e, _, rfl, hu, rfl⟩
    · simp only [List.getElem?_cons_succ, List.getElem?_cons_zero, Option.some.injEq] at hx
      subst hx
      exact ⟨rfl, bu, 5, ver, ro, e, _, rfl, hu, rfl⟩
  · have hi : i < 2 := (List.getElem?_eq_some_iff.1 hc).1
    rcases (by omega : i = 0 ∨ i = 1) with rfl | rfl
    · simp only [List.getElem?_cons_zero, Option.some.injEq, twiceG] at hn hc
      subst hc; subst hn
      exact ⟨_, _, rfl, hnil h, hnil h⟩
    · simp only [List.getElem?_cons_succ, List.getElem?_cons_zero, Option.some.injEq, twiceG, topN] at hn hc
      subst hc; subst hn
      exact ⟨_, _, rfl, hab, hnil h⟩
section
variable {fns : FuncId → Option AFunc} {summ : FuncId → List AVal → AHeap → Option (D (AVal × AHeap))}
variable (H : Has fns summ) (HR : HasRead summ)
include H HR
theorem InstPairs_ok (g h a b : Graph) (hg : Sane g) (hh : Sane h) (ha : Sane a) (hb : Sane b) (nv mv av bv : AVal) (h0 : AHeap) (hw : WF h0) (hN : NodesAt h0 nv g.nodes) (hM : NodesAt h0 mv h.nodes) (hA : NodesAt h0 av a.nodes) (hB : NodesAt h0 bv b.nodes) :
    Cl fns summ 5 [.agg [nv, .int .i64 g.root, mv, .int .i64 h.root, av, .int .i64 a.root, bv, .int .i64 b.root]] h0 fun r h' => r = .bool true ∧ Grow h0 h' := by
  have p1 : one nv = true := one_of_len hN.len
  have p2 : one mv = true := one_of_len hM.len
  have p3 : one av = true := one_of_len hA.len
  have p4 : one bv = true := one_of_len hB.len
  refine H.go (fn := F_InstPairs) rfl (by decide) rfl rfl ?_
  unfold F_InstPairs
  dsimp only
  refine cd_seq (cd_ops ?_)
  refine st_box (by exact e1) (by exact cc) hw ?_
  rintro b1 h1 hb1 G o1
  clear hb1
  repeat with_reducible first | refine nxt_normal ?_ | refine st_nil ?_ | refine cd_seq ?_ | refine cd_ops ?_ | (apply st_q; exact q1)
  refine st_call (by exact s1) ((alive11_ok H HR h1 G.wf).mono ?_)
  rintro _ h2 ⟨rfl, g2⟩
  replace o1 := g2.keep _ _ o1
  replace G := G.trans g2
  clear g2
  repeat with_reducible first | refine nxt_normal ?_ | refine st_nil ?_ | refine cd_seq ?_ | refine cd_skip ?_ | refine cd_draw ?_ | (apply dr_q; exact q1) | (apply dr_ql; exact q1; exact og1) | (apply st_q; exact q1) | (apply cd_condF; exact e1)
  have l1 := G.wf.lt o1
  have n0 := G.next
  refine dr_st (st_alloc G.wf ?_)
  rintro b3 h3 hb3 g3 o3
  have l3 := g3.wf.lt o3
  replace o1 := g3.keep _ _ o1
  replace G := G.trans g3
  refine st_nil ⟨by simp [heldOk, Nat.testBit, o1], ?_⟩
  refine dr_st (st_alloc G.wf ?_)
  rintro b4 h4 hb4 g4 o4
  have l4 := g4.wf.lt o4
  replace o1 := g4.keep _ _ o1
  replace o3 := g4.keep _ _ o3
  replace G := G.trans g4
  refine st_nil ⟨by simp [heldOk, Nat.testBit, o1], ?_⟩
  refine dr_st (st_alloc G.wf ?_)
  rintro b5 h5 hb5 g5 o5
  have l5 := g5.wf.lt o5
  replace o1 := g5.keep _ _ o1
  replace o3 := g5.keep _ _ o3
  replace o4 := g5.keep _ _ o4
  replace G := G.trans g5
  refine st_nil ⟨by simp [heldOk, Nat.testBit, o1], ?_⟩
  refine dr_st (st_alloc G.wf ?_)
  rintro b6 h6 hb6 g6 o6
  have l6 := g6.wf.lt o6
  replace o1 := g6.keep _ _ o1
  replace o3 := g6.keep _ _ o3
  replace o4 := g6.keep _ _ o4
  replace o5 := g6.keep _ _ o5
  replace G := G.trans g6
  refine st_nil ⟨by simp [heldOk, Nat.testBit, o1], ?_⟩
  refine dr_st (st_store (by exact e1) (by exact e1) (cs := [nv, .int .i64 g.root]) rfl rfl G.wf o3 (by simp) (by rw [List.all_cons, List.all_cons, p1]; rfl) ?_)
  rintro v7 h7 q7 r3
  simp only [List.take_zero, List.nil_append, List.length_cons, List.length_nil, List.drop_succ_cons, List.drop_zero, List.append_nil, Nat.zero_add, Nat.reduceAdd, List.drop_nil, List.cons_append] at r3
  replace G := q7.grow h0 hw G (by omega)
  replace o1 := q7.keep _ (by omega) _ o1
  replace o4 := q7.keep _ (by omega) _ o4
  replace o5 := q7.keep _ (by omega) _ o5
  replace o6 := q7.keep _ (by omega) _ o6
  clear o3 q7
  refine st_nil ⟨by simp [heldOk, Nat.testBit, o1], ?_⟩
  refine dr_st (st_store (by exact e1) (by exact e1) (cs := [mv, .int .i64 h.root]) rfl rfl G.wf o4 (by simp) (by rw [List.all_cons, List.all_cons, p2]; rfl) ?_)
  rintro v8 h8 q8 r4
  simp only [List.take_zero, List.nil_append, List.length_cons, List.length_nil, List.drop_succ_cons, List.drop_zero, List.append_nil, Nat.zero_add, Nat.reduceAdd, List.drop_nil, List.cons_append] at r4
  replace G := q8.grow h0 hw G (by omega)
  replace o1 := q8.keep _ (by omega) _ o1
  replace r3 := q8.keep _ (by omega) _ r3
  replace o5 := q8.keep _ (by omega) _ o5
  replace o6 := q8.keep _ (by omega) _ o6
  clear o4 q8
  refine st_nil ⟨by simp [heldOk, Nat.testBit, o1], ?_⟩
  refine dr_st (st_store (by exact e1) (by exact e1) (cs := [av, .int .i64 a.root]) rfl rfl G.wf o5 (by simp) (by rw [List.all_cons, List.all_cons, p3]; rfl) ?_)
  rintro v9 h9 q9 r5
  simp only [List.take_zero, List.nil_append, List.length_cons, List.length_nil, List.drop_succ_cons, List.drop_zero, List.append_nil, Nat.zero_add, Nat.reduceAdd, List.drop_nil, List.cons_append] at r5
  replace G := q9.grow h0 hw G (by omega)
  replace o1 := q9.keep _ (by omega) _ o1
  replace r3 := q9.keep _ (by omega) _ r3
  replace r4 := q9.keep _ (by omega) _ r4
  replace o6 := q9.keep _ (by omega) _ o6
  clear o5 q9
  refine st_nil ⟨by simp [heldOk, Nat.testBit, o1], ?_⟩
  refine dr_st (st_store (by exact e1) (by exact e1) (cs := [bv, .int .i64 b.root]) rfl rfl G.wf o6 (by simp) (by rw [List.all_cons, List.all_cons, p4]; rfl) ?_)
  rintro v10 h10 q10 r6
  simp only [List.take_zero, List.nil_append, List.length_cons, List.length_nil, List.drop_succ_cons, List.drop_zero, List.append_nil, Nat.zero_add, Nat.reduceAdd, List.drop_nil, List.cons_append] at r6
  replace G := q10.grow h0 hw G (by omega)
  replace o1 := q10.keep _ (by omega) _ o1
  replace r3 := q10.keep _ (by omega) _ r3
  replace r4 := q10.keep _ (by omega) _ r4
  replace r5 := q10.keep _ (by omega) _ r5
  clear o6 q10
  refine st_nil ⟨by simp [heldOk, Nat.testBit, o1], ?_⟩
  have hlo : h0.next ≤ b3 ∧ b3 < b4 ∧ b4 < b5 ∧ b5 < b6 ∧ b6 < h10.next := ⟨by omega, by omega, by omega, by omega, G.wf.lt r6⟩
  clear o1 l1 hb3 hb4 hb5 hb6 g3 g4 g5 g6
  have hN0 := hN
  have hM0 := hM
  replace hN := hN.mono G
  replace hM := hM.mono G
  replace hA := hA.mono G
  replace hB := hB.mono G
  have w10 := G.wf
  repeat with_reducible first | refine nxt_normal ?_ | refine cd_seq ?_ | refine cd_ops ?_ | refine dr_nil ?_ | (apply st_q; exact q1)
  refine st_q (v := .agg [nv, .int .i64 g.root, mv, .int .i64 h.root, av, .int .i64 a.root, bv, .int .i64 b.root]) (b := none) (by rw [qA_build]; simp only [fillA, ev_put, if_true, if_false, Nat.reduceEqDiff, cellsA]; rfl) ?_
  repeat with_reducible first | refine nxt_normal ?_ | refine st_nil ?_ | (apply st_q; exact q1)
  have key : ∀ j : Nat, j < 4 → ∃ X xv, [g, h, a, b][j]? = some X ∧ Sane X ∧ NodesAt h10 xv X.nodes ∧ ∀ A hh, ev A (.tmp 26) = some (.agg [nv, .int .i64 g.root, mv, .int .i64 h.root, av, .int .i64 a.root, bv, .int .i64 b.root]) → ev A (.tmp 27) = some (.int .i64 (j : Nat)) → qA A hh (.indexV 4 2 true (.tmp 26) (.tmp 27)) = some (.agg [xv, .int .i64 X.root], none) := by
    intro j hj
    rcases (by omega : j = 0 ∨ j = 1 ∨ j = 2 ∨ j = 3) with rfl | rfl | rfl | rfl
    · exact ⟨g, nv, rfl, hg, hN, fun A hh k1 k2 => by simp only [qA_indexV, k1, k2]; rfl⟩
    · exact ⟨h, mv, rfl, hh, hM, fun A hh k1 k2 => by simp only [qA_indexV, k1, k2]; rfl⟩
    · exact ⟨a, av, rfl, ha, hA, fun A hh k1 k2 => by simp only [qA_indexV, k1, k2]; rfl⟩
    · exact ⟨b, bv, rfl, hb, hB, fun A hh k1 k2 => by simp only [qA_indexV, k1, k2]; rfl⟩
  with_reducible refine cd_block ?_
  refine cd_loop (fun m A hp => ∃ j : Nat, m + j = 4 ∧ Grow h10 hp ∧ Hid (∀ i X, i < j → [g, h, a, b][i]? = some X → greatF X ≤ 100 ∧ checkF X = 0) ∧ A.defers = [] ∧ ev A (.tmp 3) = some (.ptr (some (b3, 0))) ∧ ev A (.tmp 4) = some (.ptr (some (b4, 0))) ∧ ev A (.tmp 5) = some (.ptr (some (b5, 0))) ∧ ev A (.tmp 6) = some (.ptr (some (b6, 0))) ∧ ev A (.tmp 26) = some (.agg [nv, .int .i64 g.root, mv, .int .i64 h.root, av, .int .i64 a.root, bv, .int .i64 b.root]) ∧ ev A (.tmp 27) = some (.int .i64 (j : Nat))) ?_ (n := 4)
    ⟨0, rfl, Grow.refl w10, ⟨fun i X hi => by omega⟩, by exact n1, by exact e1, by exact e1, by exact e1, by exact e1, by exact e1, by exact e1⟩
  rintro m A hp ⟨j, hm, gp, hok, hd, e3', e4', e5', e6', e26, e27⟩
  by_cases hj : j < 4
  · have hlt : decide ((j : Int) < 4) = true := by simp; omega
    obtain ⟨X, xv, hX, sX, nX, hq⟩ := key j hj
    have ox : one xv = true := one_of_len nX.len
    have hm' : ∃ m', m' < m ∧ m' + (j + 1) = 4 := ⟨m - 1, by omega, by omega⟩
    replace sX := Hid.mk sX
    replace hX := Hid.mk hX
    replace hq := Hid.mk hq
    replace hm' := Hid.mk hm'
    clear key hm hj hN hM hA hB r3 r4 r5 r6 hg hh ha hb p1 p2 p3 p4
    repeat with_reducible first | refine nxt_normal ?_ | refine st_nil ?_ | refine cd_seq ?_ | refine cd_ops ?_ | refine cd_blockS ?_ | refine cd_skip ?_ | (apply st_q; exact q1) | (apply cd_condT; exact e1)
    refine st_q (v := .agg [xv, .int .i64 X.root]) (b := none) (hq.out _ _ (by exact e1) (by exact e1)) ?_
    refine st_alloc gp.wf ?_
    rintro b8 h11 hb8 g11 o8
    refine st_store (by exact e1) (by exact e1) (cs := [xv, .int .i64 X.root]) rfl rfl g11.wf o8 (by simp) (by rw [List.all_cons, List.all_cons, ox]; rfl) ?_
    rintro v12 h12 q12 r12
    simp only [List.take_zero, List.nil_append, List.length_cons, List.length_nil, List.drop_succ_cons, List.drop_zero, List.append_nil, Nat.zero_add, Nat.reduceAdd, List.drop_nil, List.cons_append] at r12
    have k12 := gp.trans (q12.grow hp gp.wf g11 hb8)
    clear g11 o8 q12
    have hpx : partA (some 2) [xv, .int .i64 X.root] 0 = some (.agg [xv, .int .i64 X.root]) := rfl
    have ht2 : ∀ x y : AVal, List.take 2 [x, y] = [x, y] := fun _ _ => rfl
    repeat with_reducible first | refine nxt_normal ?_ | refine st_nil ?_ | refine cd_seq ?_ | refine cd_ops ?_ | (apply st_q; exact q1)
    refine st_call (by exact s1) ((Great_ok H X sX.out.great _ h12 k12.wf ⟨xv, rfl, nX.mono k12⟩).mono ?_)
    rintro _ h13 ⟨rfl, g13⟩
    have r13 := g13.keep _ _ r12
    have k13 := k12.trans g13
    clear r12
    cases c1 : decide ((greatF X : Int) > 100)
    rotate_left
    · repeat' with_reducible first | refine nxt_normal ?_ | refine nxt_ret ?_ | refine blk_ret ?_ | refine st_nil ?_ | refine cd_seq ?_ | refine cd_ops ?_ | refine cd_ret ?_ | (apply st_q; exact q1) | (apply st_qF; exact e1) | (apply st_eF; exact e1) | (apply cd_condT; exact e1) | (apply fin_ret; exact n1; exact r1)
      exact ⟨rfl, G.trans k13⟩
    have hgx : Hid (greatF X ≤ 100) := ⟨by simp at c1; omega⟩
    repeat with_reducible first | (apply st_q; exact q1) | (apply st_qT; exact e1; exact q1)
    refine st_callT (by exact e1) (by exact s1) ((Check_ok H X sX.out.sm _ h13 k13.wf ⟨xv, rfl, nX.mono k13⟩).mono ?_)
    rintro _ h14 ⟨rfl, g14⟩
    have k14 := k13.trans g14
    clear r13
    cases c2 : (checkF X != 0)
    rotate_left
    · repeat' with_reducible first | refine nxt_normal ?_ | refine nxt_ret ?_ | refine blk_ret ?_ | refine st_nil ?_ | refine cd_seq ?_ | refine cd_ops ?_ | refine cd_ret ?_ | (apply st_q; exact q1) | (apply st_qT; exact e1; exact q1) | (apply cd_condT; exact e1) | (apply fin_ret; exact n1; exact r1)
      exact ⟨rfl, G.trans k14⟩
    have cgx : Hid (checkF X = 0) := ⟨by simpa using c2⟩
    have hok' : Hid (∀ i X, i < j + 1 → [g, h, a, b][i]? = some X → greatF X ≤ 100 ∧ checkF X = 0) := ⟨fun i Y hi hY => by
      rcases Nat.lt_or_ge i j with h1 | h1
      · exact hok.out i Y h1 hY
      · obtain rfl : i = j := by omega
        rw [hX.out, Option.some.injEq] at hY
        subst hY
        exact ⟨hgx.out, cgx.out⟩⟩
    have hw1 : IntKind.i64.wrap ((j : Int) + 1) = ((j + 1 : Nat) : Int) := by
      obtain ⟨m', _, hmj⟩ := hm'.out
      rw [wrap_small (by omega) (by omega)]; omega
    obtain ⟨m', hmm, hmj⟩ := hm'.out
    clear hm' hlt
    repeat with_reducible first | refine nxt_normal ?_ | refine blk_normal ?_ | refine st_nil ?_ | refine cd_ops ?_ | refine cd_skip ?_ | (apply st_q; exact q1) | (apply st_qT; exact e1; exact q1) | (apply cd_condF; exact e1)
    exact ⟨m', hmm, j + 1, hmj, k14, hok', by exact n1, by exact e1, by exact e1, by exact e1, by exact e1, by exact e1, by exact e1⟩
  · obtain rfl : j = 4 := by omega
    have hlt : decide (((4 : Nat) : Int) < 4) = false := rfl
    obtain ⟨zg, cg⟩ := hok.out 0 g (by omega) rfl
    obtain ⟨zh, ch⟩ := hok.out 1 h (by omega) rfl
    obtain ⟨za, ca⟩ := hok.out 2 a (by omega) rfl
    obtain ⟨zb, cb⟩ := hok.out 3 b (by omega) rfl
    have tg := Hid.mk (hg.tiny (by omega))
    have th := Hid.mk (hh.tiny (by omega))
    have ta := Hid.mk (ha.tiny (by omega))
    have tb := Hid.mk (hb.tiny (by omega))
    obtain ⟨f1, f2, f3, f4, f5, f6, f7, f8⟩ := pairs_law tg.out th.out ta.out tb.out cg ch ca cb (by have := great_len g; omega) (by have := great_len h; omega) (by have := great_len a; omega) (by have := great_len b; omega)
    replace f1 := Hid.mk f1
    replace f2 := Hid.mk f2
    replace f3 := Hid.mk f3
    replace f4 := Hid.mk f4
    replace f5 := Hid.mk f5
    replace f6 := Hid.mk f6
    replace f7 := Hid.mk f7
    replace f8 := Hid.mk f8
    replace cg := Hid.mk cg
    replace ch := Hid.mk ch
    clear key hm hj hok zg zh za zb ca cb hg hh ha hb
    replace r3 := gp.keep _ _ r3
    replace r4 := gp.keep _ _ r4
    replace r5 := gp.keep _ _ r5
    replace r6 := gp.keep _ _ r6
    have n10 := gp.next
    have G' := G.trans gp
    clear hN hM
    replace hA := hA.mono gp
    replace hB := hB.mono gp
    have wp := gp.wf
    clear gp G w10
    have ht2 : ∀ x y : AVal, List.take 2 [x, y] = [x, y] := fun _ _ => rfl
    repeat with_reducible first | refine nxt_normal ?_ | refine nxt_exit ?_ | refine blk_same ?_ | refine st_nil ?_ | refine cd_seq ?_ | refine cd_ops ?_ | refine cd_exit ?_ | refine cd_draw ?_ | (apply dr_ql; exact q1; exact og1) | (apply st_q; exact q1) | (apply cd_condF; exact e1)
    refine dr_e (ex_callF (by exact s1) ((Close_own H a ta.out _ hp wp ⟨av, rfl, hA⟩).mono ?_))
    rintro rc h11 ⟨hC, k11⟩
    replace r3 := k11.keep _ _ r3
    replace r4 := k11.keep _ _ r4
    replace r5 := k11.keep _ _ r5
    replace r6 := k11.keep _ _ r6
    refine ⟨by simp [heldOk, Nat.testBit, r5, r6], ?_⟩
    skip
    refine dr_e (ex_callF (by exact s1) ((Close_own H b tb.out _ h11 k11.wf ⟨bv, rfl, hB.mono k11⟩).mono ?_))
    rintro rd h12 ⟨hD, k12⟩
    replace r3 := k12.keep _ _ r3
    replace r4 := k12.keep _ _ r4
    replace r5 := k12.keep _ _ r5
    replace r6 := k12.keep _ _ r6
    refine ⟨by simp [heldOk, Nat.testBit, r5, r6], ?_⟩
    have K := k11.trans k12
    have hC' : OwnG h12 hp.next rc (closeF a) := hC.stay fun c p _ hcp _ => k12.keep _ _ hcp
    have n11 := k11.next
    have hD' : OwnG h12 hp.next rd (closeF b) := hD.base n11
    clear hC hD k11 k12 hA hB
    generalize closeF a = C at *
    generalize closeF b = D at *
    have hCg := hC'.graph
    have hDg := hD'.graph
    obtain ⟨cn, rfl, hCN⟩ := hCg
    obtain ⟨dn, rfl, hDN⟩ := hDg
    have oc : one cn = true := one_of_len hCN.len
    have od : one dn = true := one_of_len hDN.len
    clear hCN hDN
    refine dr_st (st_store (by exact e1) (by exact e1) (cs := [cn, .int .i64 C.root]) rfl rfl K.wf r5 (by simp) (by rw [List.all_cons, List.all_cons, oc]; rfl) ?_)
    rintro v13 h13 q13 s5
    simp only [List.take_zero, List.nil_append, List.length_cons, List.length_nil, List.drop_succ_cons, List.drop_zero, List.append_nil, Nat.zero_add, Nat.reduceAdd, List.drop_nil, List.cons_append] at s5
    have G13 := q13.grow h0 hw (G'.trans K) (by omega)
    have y3 := q13.keep _ (by omega) _ r3
    have y4 := q13.keep _ (by omega) _ r4
    have y6 := q13.keep _ (by omega) _ r6
    have hC13 := hC'.stay fun c p hc hcp _ => q13.keep c (by omega) _ hcp
    have hD13 := hD'.stay fun c p hc hcp _ => q13.keep c (by omega) _ hcp
    clear r3 r4 r5 r6 hC' hD' K q13 G'
    refine st_nil ⟨by simp [heldOk, Nat.testBit, y6], ?_⟩
    refine dr_st (st_store (by exact e1) (by exact e1) (cs := [dn, .int .i64 D.root]) rfl rfl G13.wf y6 (by simp) (by rw [List.all_cons, List.all_cons, od]; rfl) ?_)
    rintro v14 h14 q14 s6
    simp only [List.take_zero, List.nil_append, List.length_cons, List.length_nil, List.drop_succ_cons, List.drop_zero, List.append_nil, Nat.zero_add, Nat.reduceAdd, List.drop_nil, List.cons_append] at s6
    have G14 := q14.grow h0 hw G13 (by omega)
    replace y3 := q14.keep _ (by omega) _ y3
    replace y4 := q14.keep _ (by omega) _ y4
    replace s5 := q14.keep _ (by omega) _ s5
    have hC14 := (hC13.stay fun c p hc hcp _ => q14.keep c (by omega) _ hcp).graph
    have hD14 := (hD13.stay fun c p hc hcp _ => q14.keep c (by omega) _ hcp).graph
    clear y6 hC13 hD13 G13 q14
    refine st_nil ⟨by simp [heldOk, Nat.testBit], ?_⟩
    have hN14 : GraphAt h14 (.agg [nv, .int .i64 g.root]) g := ⟨nv, rfl, hN0.mono G14⟩
    have hM14 : GraphAt h14 (.agg [mv, .int .i64 h.root]) h := ⟨mv, rfl, hM0.mono G14⟩
    have w14 := G14.wf
    clear hN0 hM0
    repeat with_reducible first | refine nxt_normal ?_ | refine st_nil ?_ | refine cd_seq ?_ | refine cd_ops ?_ | refine dr_nil ?_ | (apply st_q; exact q1)
    refine st_e (ex_call (by exact e1) (by exact s1) (cv_func ?_))
    refine (InstPairs1_ok H C D f1.out f2.out f3.out f4.out _ _ h14 w14 hC14 hD14).mono ?_
    rintro rp h15 ⟨⟨pn, rfl, hP⟩, k15⟩
    have op : one pn = true := one_of_len hP.len
    skip
    refine st_alloc k15.wf ?_
    rintro b10 h16 hb10 g16 o10
    refine st_store (by exact e1) (by exact e1) (cs := [pn, .int .i64 (pairG C D).root]) rfl rfl g16.wf o10 (by simp) (by rw [List.all_cons, List.all_cons, op]; rfl) ?_
    rintro v17 h17 q17 s10
    simp only [List.take_zero, List.nil_append, List.length_cons, List.length_nil, List.drop_succ_cons, List.drop_zero, List.append_nil, Nat.zero_add, Nat.reduceAdd, List.drop_nil, List.cons_append] at s10
    have g57 : Grow h15 h17 := q17.grow h15 k15.wf g16 hb10
    have hP17 : GraphAt h17 (.agg [pn, .int .i64 (pairG C D).root]) (pairG C D) := ⟨pn, rfl, hP.mono g57⟩
    have k17 := k15.trans g57
    clear o10 g16 q17 g57 hP hb10 k15
    repeat with_reducible first | refine nxt_normal ?_ | refine st_nil ?_ | refine cd_seq ?_ | refine cd_ops ?_
    refine st_q (v := .agg [.int .i64 1, .str [], .slice none 0, .slice none 0, .bool false]) (b := none) (by rw [qA_build]; simp only [fillA, ev_val, cellsA]; rfl) ?_
    refine st_bslice2 (u := .int .i64 0) (v := .int .i64 0) (by exact e1) (by exact e1) rfl rfl k17.wf ?_
    rintro bt h18 hbt g18 ot
    refine st_q (v := .agg [.int .i64 2, .str [42], .slice (some (bt, 0)) 2, .slice none 0, .bool false]) (b := none) (by rw [qA_build]; simp only [fillA, ev_put, ev_val, if_true, cellsA]; rfl) ?_
    refine st_bslice2w (cs := [.int .i64 1, .str [], .slice none 0, .slice none 0, .bool false]) (ds := [.int .i64 2, .str [42], .slice (some (bt, 0)) 2, .slice none 0, .bool false]) (by exact e1) (by exact e1) rfl rfl rfl rfl rfl g18.wf ?_
    rintro bu h19 hbu g19 ou
    have hT := twice_at ou (g19.keep _ _ ot)
    refine st_q (v := .agg [.slice (some (bu, 0)) 2, .int .i64 1]) (b := none) (by rw [qA_build]; simp only [fillA, ev_put, ev_val, if_true, cellsA]; rfl) ?_
    refine st_alloc g19.wf ?_
    rintro b11 h20 hb11 g20 o11
    refine st_store (by exact e1) (by exact e1) (cs := [.slice (some (bu, 0)) 2, .int .i64 1]) rfl rfl g20.wf o11 (by simp) rfl ?_
    rintro v21 h21 q21 s11
    simp only [List.take_zero, List.nil_append, List.length_cons, List.length_nil, List.drop_succ_cons, List.drop_zero, List.append_nil, Nat.zero_add, Nat.reduceAdd, List.drop_nil, List.cons_append] at s11
    have g921 : Grow h19 h21 := q21.grow h19 g19.wf g20 hb11
    obtain ⟨tn, htq, hTN⟩ := hT
    cases htq
    have hT21 : GraphAt h21 (.agg [.slice (some (bu, 0)) 2, .int .i64 1]) twiceG := ⟨_, rfl, hTN.mono g921⟩
    have k721 : Grow h17 h21 := (g18.trans g19).trans g921
    have k21 := k17.trans k721
    replace s10 := k721.keep _ _ s10
    replace y3 := k21.keep _ _ y3
    replace y4 := k21.keep _ _ y4
    replace s5 := k21.keep _ _ s5
    replace s6 := k21.keep _ _ s6
    have mono : ∀ {v X}, GraphAt h14 v X → GraphAt h21 v X := fun k => by obtain ⟨z, hz, hzn⟩ := k; exact ⟨z, hz, hzn.mono k21⟩
    have hP21 : GraphAt h21 (.agg [pn, .int .i64 (pairG C D).root]) (pairG C D) := by obtain ⟨z, hz, hzn⟩ := hP17; exact ⟨z, hz, hzn.mono k721⟩
    have hg21 := mono hN14
    have hh21 := mono hM14
    have hc21 := mono hC14
    have hd21 := mono hD14
    have G21 := G14.trans k21
    clear mono hN14 hM14 hC14 hD14 hP17 k17 k721 k21 g18 g19 g20 g921 o11 q21 ot ou hTN hbt hbu hb11 G14 w14
    have pT : partA (some 2) [.slice (some (bu, 0)) 2, .int .i64 1] 0 = some (.agg [.slice (some (bu, 0)) 2, .int .i64 1]) := rfl
    repeat with_reducible first | refine nxt_normal ?_ | refine st_nil ?_ | refine cd_seq ?_ | refine cd_draw ?_ | (apply dr_q; exact q1) | (apply dr_ql; exact q1; exact og1)
    have gm : ∀ {h h' : AHeap} {v : AVal} {X : Graph}, Grow h h' → GraphAt h v X → GraphAt h' v X := fun k q => by obtain ⟨z, hz, hzn⟩ := q; exact ⟨z, hz, hzn.mono k⟩
    refine dr_e (ex_call (by exact e1) (by exact s1) (cv_func ((InstPairs1_ok H g h tg.out th.out cg.out ch.out _ _ h21 G21.wf hg21 hh21).mono ?_)))
    rintro _ h22 ⟨⟨qn, rfl, hQN⟩, k22⟩
    replace y3 := k22.keep _ _ y3
    replace y4 := k22.keep _ _ y4
    replace s5 := k22.keep _ _ s5
    replace s6 := k22.keep _ _ s6
    replace s10 := k22.keep _ _ s10
    replace s11 := k22.keep _ _ s11
    refine ⟨by simp [heldOk, Nat.testBit, y3, y4, s5, s6, s10, s11], ?_⟩
    skip
    refine dr_e (ex_callF (by exact s1) ((Is_ok H _ _ f5.out f6.out _ _ h22 k22.wf ⟨qn, rfl, hQN⟩ (gm k22 hP21)).mono ?_))
    rw [f7.out]
    rintro _ h23 ⟨rfl, k23⟩
    replace y3 := k23.keep _ _ y3
    replace y4 := k23.keep _ _ y4
    replace s5 := k23.keep _ _ s5
    replace s6 := k23.keep _ _ s6
    replace s10 := k23.keep _ _ s10
    replace s11 := k23.keep _ _ s11
    refine ⟨by simp [heldOk, Nat.testBit, y3, y4, s5, s6, s10, s11], ?_⟩
    have k3 := k22.trans k23
    clear hQN k22 k23
    skip
    refine dr_e (ex_callF (by exact s1) ((Is_ok H g C tg.out f1.out _ _ h23 k3.wf (gm k3 hg21) (gm k3 hc21)).mono ?_))
    rintro _ h24 ⟨rfl, k24⟩
    replace y3 := k24.keep _ _ y3
    replace y4 := k24.keep _ _ y4
    replace s5 := k24.keep _ _ s5
    replace s6 := k24.keep _ _ s6
    replace s10 := k24.keep _ _ s10
    replace s11 := k24.keep _ _ s11
    refine ⟨by simp [heldOk, Nat.testBit, y3, y4, s5, s6, s10, s11], ?_⟩
    have k4 := k3.trans k24
    clear k3 k24
    have hbb : ∀ b : Bool, (b == b) = true := fun b => by cases b <;> rfl
    cases i1 : isF g C
    · have hff : (false == false) = true := rfl
      repeat with_reducible first | (apply dr_gT; exact e1) | (apply dr_gF; exact e1) | (apply dr_q; exact q1) | (apply dr_ql; exact q1; exact og1)
      refine dr_e (ex_callF (by exact s1) ((Is_ok H _ _ twice_tiny f6.out _ _ h24 k4.wf (gm k4 hT21) (gm k4 hP21)).mono ?_))
      rw [f8.out]
      rintro _ h26 ⟨rfl, k26⟩
      replace y3 := k26.keep _ _ y3
      replace y4 := k26.keep _ _ y4
      replace s5 := k26.keep _ _ s5
      replace s6 := k26.keep _ _ s6
      replace s10 := k26.keep _ _ s10
      replace s11 := k26.keep _ _ s11
      refine ⟨by simp [heldOk, Nat.testBit, y3, y4, s5, s6, s10, s11], ?_⟩
      have k6 := k4.trans k26
      clear k26
      repeat with_reducible (apply dr_gT; exact e1)
      refine dr_e (ex_callF (by exact s1) ((Same_ok H C D f1.out f2.out _ _ h26 k6.wf (gm k6 hc21) (gm k6 hd21)).mono ?_))
      rintro _ h27 ⟨rfl, k27⟩
      replace y3 := k27.keep _ _ y3
      replace y4 := k27.keep _ _ y4
      replace s5 := k27.keep _ _ s5
      replace s6 := k27.keep _ _ s6
      replace s10 := k27.keep _ _ s10
      replace s11 := k27.keep _ _ s11
      refine ⟨by simp [heldOk, Nat.testBit, y3, y4, s5, s6, s10, s11], ?_⟩
      have k7 := k6.trans k27
      clear k27
      generalize sameF C D = bs at *
      repeat' with_reducible first | refine nxt_normal ?_ | refine cd_ret ?_ | refine dr_nil ?_ | (apply dr_gT; exact e1) | (apply dr_q; exact q1) | (apply fin_ret; exact n1; exact r1)
      exact ⟨rfl, G21.trans k7⟩
    · repeat with_reducible first | (apply dr_gT; exact e1) | (apply dr_q; exact q1) | (apply dr_ql; exact q1; exact og1)
      refine dr_e (ex_callF (by exact s1) ((Is_ok H h D th.out f2.out _ _ h24 k4.wf (gm k4 hh21) (gm k4 hd21)).mono ?_))
      rintro _ h25 ⟨rfl, k25⟩
      replace y3 := k25.keep _ _ y3
      replace y4 := k25.keep _ _ y4
      replace s5 := k25.keep _ _ s5
      replace s6 := k25.keep _ _ s6
      replace s10 := k25.keep _ _ s10
      replace s11 := k25.keep _ _ s11
      refine ⟨by simp [heldOk, Nat.testBit, y3, y4, s5, s6, s10, s11], ?_⟩
      have k5 := k4.trans k25
      clear k25
      have hta : ∀ b : Bool, ((true && b) == b) = true := fun b => by cases b <;> rfl
      generalize isF h D = bh at *
      repeat with_reducible first | (apply dr_gT; exact e1) | (apply dr_q; exact q1) | (apply dr_ql; exact q1; exact og1)
      refine dr_e (ex_callF (by exact s1) ((Is_ok H _ _ twice_tiny f6.out _ _ h25 k5.wf (gm k5 hT21) (gm k5 hP21)).mono ?_))
      rw [f8.out]
      rintro _ h26 ⟨rfl, k26⟩
      replace y3 := k26.keep _ _ y3
      replace y4 := k26.keep _ _ y4
      replace s5 := k26.keep _ _ s5
      replace s6 := k26.keep _ _ s6
      replace s10 := k26.keep _ _ s10
      replace s11 := k26.keep _ _ s11
      refine ⟨by simp [heldOk, Nat.testBit, y3, y4, s5, s6, s10, s11], ?_⟩
      have k6 := k5.trans k26
      clear k26
      repeat with_reducible (apply dr_gT; exact e1)
      refine dr_e (ex_callF (by exact s1) ((Same_ok H C D f1.out f2.out _ _ h26 k6.wf (gm k6 hc21) (gm k6 hd21)).mono ?_))
      rintro _ h27 ⟨rfl, k27⟩
      replace y3 := k27.keep _ _ y3
      replace y4 := k27.keep _ _ y4
      replace s5 := k27.keep _ _ s5
      replace s6 := k27.keep _ _ s6
      replace s10 := k27.keep _ _ s10
      replace s11 := k27.keep _ _ s11
      refine ⟨by simp [heldOk, Nat.testBit, y3, y4, s5, s6, s10, s11], ?_⟩
      have k7 := k6.trans k27
      clear k27
      generalize sameF C D = bs at *
      repeat' with_reducible first | refine nxt_normal ?_ | refine cd_ret ?_ | refine dr_nil ?_ | (apply dr_gT; exact e1) | (apply dr_q; exact q1) | (apply fin_ret; exact n1; exact r1)
      exact ⟨rfl, G21.trans k7⟩
end
end Go.Ab.S
end
section
/-
  Four graphs that a call is handed in one struct, laid out.
-/
namespace Go.Ab
open Go.RowKit (Below)
section
variable {H : Type} {enc : TypeId × Value → H} {P : Program} {W : World} {G : GM} {h : AHeap}
theorem lay_part {tG tNs tN tI tS tB tIs tSs : TypeId} (T : GTypes P tG tNs tN tI tS tB tIs tSs) {μ : DataW H → Nat} (hμ : Meas μ) {fuel : Nat} {u0 u1 : Value} {y : DataW H × List MemPlace} (k : DataW.trod enc P W 0 (fun _ => true) true fuel tG [u0, u1] = some y) (R : Rel P W.heap.size W G h W) (hw : WF h) :
    Laid P W G h fun G' h' => ∃ (nv : AVal) (g : Graph), VR P G' nv u0 ∧ u1 = .int .i64 g.root ∧ NodesAt h' nv g.nodes ∧ gsize g ≤ μ y.1 := by
  have hx : DataW.Trod enc P W 0 (fun _ => true) true tG (.agg #[u0, u1]) y.1 y.2 := ⟨fuel, k⟩
  obtain ⟨G1, h1, R1, g1, w1, v, g, hv, ⟨nv, rfl, hN⟩, hz⟩ := lay_graph T hμ hx R hw
  obtain ⟨cs, hcs, x0, xs, e0, v0, x1, xs1, e1, v1, e2⟩ := hv
  simp only [Value.agg.injEq] at hcs
  subst hcs
  simp only [List.cons.injEq] at e0
  obtain ⟨rfl, rfl⟩ := e0
  simp only [List.cons.injEq] at e1
  obtain ⟨rfl, rfl⟩ := e1
  exact ⟨G1, h1, R1, g1, w1, nv, g, v0, v1, hN, hz⟩
theorem lay_four {tF tG tNs tN tI tS tB tIs tSs : TypeId} (T : GTypes P tG tNs tN tI tS tB tIs tSs) (hF : ∃ f0 f1 f2 f3, P.underlying tF = some (.struct #[f0, f1, f2, f3]) ∧ (f0.type = tG ∧ f0.offset = 0) ∧ (f1.type = tG ∧ f1.offset = 2) ∧ (f2.type = tG ∧ f2.offset = 4) ∧ (f3.type = tG ∧ f3.offset = 6)) (cF : P.cellsOf tF = 8)
    {μ : DataW H → Nat} (hμ : Meas μ) {cs : Array Value} {d : DataW H} {ps : List MemPlace} (hx : DataW.Trod enc P W 0 (fun _ => true) true tF (.agg cs) d ps) (R : Rel P W.heap.size W G h W) (hw : WF h) :
    Laid P W G h fun G' h' => ∃ (nv mv av bv : AVal) (g k a b : Graph), VR P G' (.agg [nv, .int .i64 g.root, mv, .int .i64 k.root, av, .int .i64 a.root, bv, .int .i64 b.root]) (.agg cs) ∧ NodesAt h' nv g.nodes ∧ NodesAt h' mv k.nodes ∧ NodesAt h' av a.nodes ∧ NodesAt h' bv b.nodes ∧ gsize g ≤ μ d ∧ gsize k ≤ μ d ∧ gsize a ≤ μ d ∧ gsize b ≤ μ d := by
  obtain ⟨fuel, hx⟩ := hx
  obtain ⟨f0, f1, f2, f3, hs, ⟨t0, o0⟩, ⟨t1, o1⟩, ⟨t2, o2⟩, ⟨t3, o3⟩⟩ := hF
  obtain ⟨xs, n, _, hx1, hl, hxs, hf⟩ := DataW.trod_struct hs hx
  rw [cF] at hl
  have hl : cs.toList.length = 8 := hl
  have k0 := hf 0 f0 rfl
  have k1 := hf 1 f1 rfl
  have k2 := hf 2 f2 rfl
  have k3 := hf 3 f3 rfl
  have hcs : (Value.agg cs).cells.toList = cs.toList := rfl
  rw [hcs] at k0 k1 k2 k3
  rw [t0, o0, T.cG] at k0
  rw [t1, o1, T.cG] at k1
  rw [t2, o2, T.cG] at k2
  rw [t3, o3, T.cG] at k3
  match xs, hxs with
  | [y0, y1, y2, y3], _ =>
    simp only [List.getElem?_cons_zero, List.getElem?_cons_succ] at k0 k1 k2 k3
    match hh : cs.toList, hl with
    | [u0, u1, u2, u3, u4, u5, u6, u7], _ =>
      rw [hh] at k0 k1 k2 k3
      obtain ⟨G1, h1, R1, g1, w1, nv, g, v0, r0, N0, z0⟩ := lay_part (u0 := u0) (u1 := u1) T hμ k0 R hw
      obtain ⟨G2, h2, R2, g2, w2, mv, k, v1, r1, N1, z1⟩ := lay_part (u0 := u2) (u1 := u3) T hμ k1 R1 w1.wf
      obtain ⟨G3, h3, R3, g3, w3, av, a, v2, r2, N2, z2⟩ := lay_part (u0 := u4) (u1 := u5) T hμ k2 R2 w2.wf
      obtain ⟨G4, h4, R4, g4, w4, bv, b, v3, r3, N3, z3⟩ := lay_part (u0 := u6) (u1 := u7) T hμ k3 R3 w3.wf
      refine ⟨G4, h4, R4, ((g1.trans g2).trans g3).trans g4, ((w1.trans w2).trans w3).trans w4, nv, mv, av, bv, g, k, a, b, ⟨cs, rfl, ?_⟩, N0.mono ((w2.trans w3).trans w4), N1.mono (w3.trans w4), N2.mono w4, N3, ?_⟩
      · rw [hh]
        exact ⟨_, _, rfl, v0.mono ((g2.trans g3).trans g4), _, _, rfl, r0, _, _, rfl, v1.mono (g3.trans g4), _, _, rfl, r1, _, _, rfl, v2.mono g4, _, _, rfl, r2, _, _, rfl, v3, _, _, rfl, r3, rfl⟩
      · simp only [Prod.mk.injEq] at hx1
        rw [hx1.1]
        have := hμ.agg ([y0, y1, y2, y3].map (·.1))
        simp only [List.map_cons, List.map_nil, List.sum_cons, List.sum_nil] at this ⊢
        omega
end
end Go.Ab
end
section
/-
  InstPairs: the contract.
-/
namespace Go.Proofs.YtffgndlognihcaaGreatDoor
open Go Go.Ab Go.Ab.S
open Go.ChangeShapes Go.WideShapes Go.ChangeAt Go.RowKit
theorem laidOut : laidOutB Tryz.prog = true := by kernel_rfl
theorem own : ownKnob Tryz.prog.godebug = none := by kernel_rfl
theorem stays {H : Type} {enc : TypeId × Value → H} {W W' : World} {v : Value} {d : DataW H} {ps : List MemPlace} (h : DataW.Trod enc Tryz.prog W 0 (fun _ => true) true 39 v d ps) (hb : Below W.heap.size W W') (hlt : ∀ x ∈ ps, x.block < W.heap.size) (sp : Nat → Bool) (hs : ∀ p ∈ ps, sp p.block = true) : DataW.Trod enc Tryz.prog W' 0 sp true 39 v d ps :=
  WideElems.Trod_stays laidOut (by kernel_rfl) (of_decide_eq_true (by kernel_rfl)) h (fun x hx => hb.same (hlt x hx)) hs
set_option maxRecDepth 100000 in
/-- A struct is an aggregate. -/
theorem agg_of {W : World} {base : Nat} {v : Value} (h : Value.okWide Tryz.prog W .any base 39 v) : ∃ cs, v = .agg cs := by
  obtain ⟨cs, h, _⟩ := okWide_struct Tryz.underlying39 h
  exact ⟨cs, h⟩
set_option maxRecDepth 100000 in
theorem contract (H : Type) (enc : TypeId × Value → H) (W : World) (base : Nat) (args : Array Value) (ds gs : List (DataW H)) (before : List MemPlace)
    (hval : ∀ (j : Nat) t v, Tryz.f5.params[j]? = some t → args[j]? = some v → Value.okWide Tryz.prog W .any base t v)
    (hW : DataW.Whole enc Tryz.prog Tryz.f5.params.toList Rows.instPairsSpec.vars false W args.toList ds gs before) (hk : Rows.uptoSmall H (ds ++ gs) = true) (hL : laidMetH Tryz.prog laids W) (hS : W.ShapedOpen Tryz.prog) :
    Calls Tryz.prog 5 args W fun e W' => ∃ v, e = .returned v ∧ Rows.instPairsSpec.post enc Tryz.prog Tryz.f5 false true false false W args v W' := by
  have hW' := hW
  have hlt := hW.lt
  obtain ⟨p, q, hA0, hV, rfl, _, _⟩ := hW
  have hA : DataW.TrodAll enc Tryz.prog W 0 (fun _ => true) true Tryz.f5.params.toList args.toList ds p := hA0
  have hval' := hval
  rw [Tryz.params5] at hA hval'
  obtain ⟨v, d, rfl, rfl, h0⟩ := trodAll_one hA
  obtain ⟨rfl, rfl⟩ := trodVars_none hV
  obtain ⟨c0, rfl⟩ := agg_of (hval' 0 39 v rfl rfl)
  have hk := of_decide_eq_true hk
  simp only [List.append_nil, Rows.uptoBulkAll] at hk
  have hN := globs_le hS
  obtain ⟨G1, k1, R1, g1, w1, nv, mv, av, bv, x0, x1, x2, x3, b0, e0, e1, e2, e3, s0, s1, s2, s3⟩ := lay_four gtypes ⟨_, _, _, _, Tryz.underlying39, ⟨rfl, rfl⟩, ⟨rfl, rfl⟩, ⟨rfl, rfl⟩, rfl, rfl⟩ (by kernel_rfl) (meas H) h0 (rel_zero hN) wf_zero
  have walk : Calls Tryz.prog 5 #[.agg c0] W (Tells W) := by
    refine tells_of (args := [.agg [nv, .int .i64 x0.root, mv, .int .i64 x1.root, av, .int .i64 x2.root, bv, .int .i64 x3.root]]) (wok hL hS hN) R1 ⟨_, _, rfl, b0, rfl⟩ ?_
    exact (InstPairs_ok hasTab hasRead x0 x1 x2 x3 (sane_of (by omega)) (sane_of (by omega)) (sane_of (by omega)) (sane_of (by omega)) nv mv av bv k1 w1.wf e0 e1 e2 e3).mono fun _ _ h => h.1
  refine walk.mono fun e W' ⟨he, hb⟩ => ?_
  subst he
  refine ⟨_, rfl, post_of_tells (pa := p) (pv := []) hW' (fun _ _ _ => trodAll_cons_mk (shut_bool Tryz.underlying4 _) trodAll_mk0) (fun sp hs => ?_) (fun _ _ => rfl) (by simp) hb (RowKit.ok_one (by kernel_rfl) rfl (okWide_bool_mk Tryz.underlying4 _))⟩
  exact trodAll_mk1 (stays h0 hb (fun x hx => hlt x (by simp [hx])) sp fun x hx => hs x (by simp [hx]))
end Go.Proofs.YtffgndlognihcaaGreatDoor
end
section
/-
  The world that the rows' condition is met in.
-/
namespace Go.Proofs.YtffgndlognihcaaGreatDoor
open Go
noncomputable def handleW (os : Os) : World :=
  { World.holding Tryz.prog os ⟨#[], #[], []⟩ with heap := (World.holding Tryz.prog os ⟨#[], #[], []⟩).heap.modify 0 fun
      | .cells _ t frozen => .cells #[.iface 185 (.agg #[.pointer (some ⟨12, 102, none⟩)])] t frozen
      | o => o }
def plainLaids : List (String × DataW Unit) := laids.filter fun x => x.2.handleName?.isNone
noncomputable def laidW (os : Os) : World := (handleW os).layVars Tryz.prog plainLaids
theorem laidW_os (os : Os) : (laidW os).os = os := World.layVars_os _ _ _
noncomputable abbrev heldW (os : Os) (args : Array Value) : World := (laidW os).forCall (fun _ _ => 0) ⟨#[], args, []⟩
theorem noGreat : (plainLaids.filter fun x => !(plainLaids.map (·.1)).contains x.1) = [] := by kernel_rfl
set_option maxRecDepth 100000 in
theorem laid_met (os : Os) (args : Array Value) : laidMetH Tryz.prog laids (heldW os args).memory := by
  refine laidMetH_of_parts ?_ (by kernel_rfl)
  have h : laidMet Tryz.prog plainLaids (laidW os) := laidMet_layVars (w0 := handleW os) (plainLaids.map (·.1)) [] (by kernel_rfl) (by kernel_rfl) (by kernel_rfl) (by rw [noGreat]; exact LaidIn.none)
  exact h.of_heap (by simp [heldW, World.memory, World.forCall, Input.heap])
set_option maxRecDepth 100000 in
theorem w_vars (os : Os) (args : Array Value) : (heldW os args).variablesRefB Tryz.prog = true := by kernel_rfl
set_option maxRecDepth 100000 in
theorem w_rest (os : Os) (args : Array Value) : ((heldW os args).heap.toList.drop Tryz.prog.globals.size).take ((begin Tryz.prog (fun _ _ => 0) default).world.heap.size - Tryz.prog.globals.size) =
      (begin Tryz.prog (fun _ _ => 0) default).world.heap.toList.drop Tryz.prog.globals.size := by kernel_rfl
end Go.Proofs.YtffgndlognihcaaGreatDoor
end
section
/-
  InstPairs: the row and the card.
-/
namespace Go.Proofs.YtffgndlognihcaaGreatDoor
open Go Go.Ab Go.Ab.S
open Go.ChangeShapes Go.WideShapes Go.ChangeAt Go.RowKit
def none0 : Value := .agg #[.slice none 0 0, .int .i64 0, .slice none 0 0, .int .i64 0, .slice none 0 0, .int .i64 0, .slice none 0 0, .int .i64 0]
def noneD {H : Type} : DataW H := .agg [.agg [.nil, .lit (.int .i64 0)], .agg [.nil, .lit (.int .i64 0)], .agg [.nil, .lit (.int .i64 0)], .agg [.nil, .lit (.int .i64 0)]]
def prsArgs : Array Value := #[none0]
theorem reads (os : Os) {H : Type} (enc : TypeId × Value → H) : ∃ places, DataW.whole enc Tryz.prog (heldW os prsArgs).memory Tryz.f5.params.toList Rows.instPairsSpec.vars false prsArgs.toList 8 = some ([noneD], [], places) :=
  ⟨[], by kernel_rfl⟩
set_option maxRecDepth 100000 in
theorem lifted (os : Os) (started : os.Started) (H : Type) (enc : TypeId × Value → H) (F : Stop.Interp) :
    ReturnsInHanded {} Tryz.checked os 5 .any ((Rows.OpenSpec.upto Rows.instPairsSpec).preRow enc Tryz.prog Tryz.f5 Rows.instPairsUptoRow.domain false Rows.instPairsUptoRow.laid) (((Rows.OpenSpec.upto Rows.instPairsSpec).at F).post enc Tryz.prog Tryz.f5 false true false false) := by
  obtain ⟨places, hx⟩ := reads os enc
  refine returnsInHanded_of_row (C := Tryz.checked) (s := Rows.OpenSpec.upto Rows.instPairsSpec) own started (by kernel_rfl) Tryz.func5
    (witness_row_atRef (enc := enc) (C := Tryz.checked) false (laidW os) prsArgs (laidW_os os) (w_vars os _) (w_rest os _) (by kernel_rfl)
      (OpenSpec.preRow_of_cond 8 hx (by kernel_rfl) (fun k hk => by cases hk; kernel_rfl) (by kernel_rfl) (laid_met os _))) ?_
  intro W base args ds gs before hval hW _ hcond _ hL hS _
  exact contract H enc W base args ds gs before hval hW (hcond _ rfl) hL hS
theorem saidUpto : Rows.InstPairsUptoSaid :=
  OpenClaim.holds_of_cond 5 Tryz.f5 rfl rfl rfl rfl rfl rfl rfl ⟨rfl, rfl, rfl, rfl, rfl⟩ rfl rfl rfl rfl rfl (by kernel_rfl) Tryz.func5 (by kernel_rfl)
    (of_decide_eq_true (by kernel_rfl)) (by unfold Func.isWrapper; first | (rw [if_pos (by decide +kernel)]; kernel_rfl) | (rw [if_neg (by decide +kernel)]; exact ⟨rfl, rfl⟩))
    (fun os started H enc _ F => by rw [OpenClaim.pre_eq_preRow]; exact lifted os started H enc F)
theorem plain (f : FuncId) (fn : Func) (hf : Tryz.pinned.checked.prog.funcNamed "trefoil/trefoillaw11.InstPairs" = some f) (hfn : Tryz.pinned.checked.prog.funcs[f]? = some fn) :
    true = Tryz.pinned.checked.prog.looks [] ∧ ∀ (j : Nat) t, fn.params[j]? = some t → Tryz.pinned.checked.prog.wantsStandIn t = false := by
  obtain rfl : f = 5 := Option.some.inj ((show Tryz.prog.funcNamed "trefoil/trefoillaw11.InstPairs" = some 5 by kernel_rfl).symm.trans hf) |>.symm
  obtain rfl : fn = Tryz.f5 := (Option.some.inj (Tryz.func5.symm.trans hfn)).symm
  refine ⟨by kernel_rfl, fun j t ht => ?_⟩
  rw [Tryz.params5] at ht
  obtain rfl : t = 39 := by simpa using Array.mem_of_getElem? ht
  exact (show Tryz.prog.wantsStandIn 39 = false by kernel_rfl)
/-- The card. -/
theorem cardUpto : Rows.InstPairsUptoCardSaid :=
  Claim7.holds_tied_plain_at .later [] _ _ _ _ saidUpto (fun _ h => by cases h) (by kernel_rfl) (fun _ h => by cases h) instPairsUpto_row_tie rfl ⟨rfl, rfl⟩ (by kernel_rfl) rfl plain (by kernel_rfl)
#print axioms cardUpto
end Go.Proofs.YtffgndlognihcaaGreatDoor
end
