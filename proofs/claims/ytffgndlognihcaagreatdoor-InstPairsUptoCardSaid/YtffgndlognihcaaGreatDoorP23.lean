import Derived.Test.YtffgndlognihcaaGreatDoorP19
import Derived.Test.YtffgndlognihcaaGreatDoorP22
/-
  Part 23 of the proof.
-/
set_option linter.all false
section
/-
  Pairs of types.
-/
namespace Go.Ab.S
open Go Go.Ab
set_option maxHeartbeats 1000000
/-- One node may be matched with another one, their arguments being matched so. -/
def Fits (S : Int → Int → Prop) (x y : Node) : Prop := x.kind = 1 ∨ (x.kind ≠ 1 ∧ x.kind = y.kind ∧ x.name = y.name ∧ (x.isOpen = true ∨ (y.isOpen = false ∧ x.labels = y.labels)) ∧ (x.kind = 3 → ∀ s ∈ x.labels, s ∈ y.labels) ∧
  ∀ i, i < x.args.length → idxI x y i < y.args.length ∧ S (x.args.getD i 0) (y.args.getD (idxI x y i) 0))
/-- .. the nodes of one graph with those of another one. -/
structure InstB (g h : Graph) (S : Int → Int → Prop) : Prop where
  root : S g.root h.root
  range : ∀ a b, S a b → (0 ≤ a ∧ a < g.nodes.length) ∧ Rch h b
  node : ∀ a b, S a b → Fits S (nodeD g a) (nodeD h b)
  one : ∀ a b c, S a b → S a c → cfreeF (nodeD g a) = true → clAt (classesF h) b = clAt (classesF h) c
theorem isF_iffB {g h : Graph} (hg : GTi g) (hh : GTi h) (cg : checkF g = 0) (ch : checkF h = 0) : isF g h = true ↔ ∃ S, InstB g h S := by
  have Q := least_quo ch
  rw [isF_iff hg hh cg ch]
  constructor
  · rintro ⟨S, K⟩
    refine ⟨fun a b => Rch h b ∧ S a (qL h b), ⟨.root, by rw [← Q.root]; exact K.root⟩, fun a b hab => ⟨(K.range _ _ hab.2).1, hab.1⟩, fun a b hab => ?_, fun a b c h1 h2 hf => qL_inj ch h1.1 h2.1 (K.one a _ _ h1.2 h2.2 hf)⟩
    rcases inst_node cg ch K hab.1 hab.2 with h1 | ⟨h1, h2, h3, h4, h5, h6⟩
    · exact .inl h1
    · exact .inr ⟨h1, h2, h3, h4, h5, fun i hi => ⟨(h6 i hi).1, rch_arg hab.1 (h6 i hi).1, (h6 i hi).2⟩⟩
  · rintro ⟨S, K⟩
    refine ⟨fun a z => ∃ b, S a b ∧ z = qL h b, ⟨_, K.root, Q.root⟩, ?_, ?_, ?_⟩
    · rintro a _ ⟨b, h1, rfl⟩
      exact ⟨(K.range a b h1).1, Q.range b (K.range a b h1).2⟩
    · rintro a _ ⟨b, h1, rfl⟩
      have hb := (K.range a b h1).2
      have hn := Q.node b hb
      have mh := may_at ch (hb.ok ch)
      rcases K.node a b h1 with k1 | ⟨k1, k2, k3, k4, k5, k6⟩
      · exact .inl k1
      have hlab : (nodeD (leastF h) (qL h b)).labels = (nodeD h b).labels := by rw [hn]
      have eidx : ∀ i, idxI (nodeD g a) (nodeD (leastF h) (qL h b)) i = idxI (nodeD g a) (nodeD h b) i := fun i => by rw [idxI, idxI, hlab]
      refine .inr ⟨k1, by rw [hn]; exact k2, by rw [hn]; exact k3, by rw [hn]; exact k4, ?_, fun i hi => ?_⟩
      · rw [argsOk, hlab]
        split
        · rename_i hk
          have hk' : (nodeD g a).kind = 3 := by simpa using hk
          rcases may_kind mh with ⟨k', _⟩ | ⟨k', _⟩ | ⟨_, _, _, hr⟩
          · omega
          · omega
          rw [List.all_eq_true]
          intro s hs
          obtain ⟨i, hi, rfl⟩ := List.mem_iff_getElem.1 (k5 hk' s hs)
          exact (bs_of (ris_rises hr) (List.getElem?_eq_getElem hi)).2
        · rfl
      · rw [eidx, quo_arg Q hb (k6 i hi).1]
        exact ⟨_, (k6 i hi).2, rfl⟩
    · rintro a _ _ ⟨b, h1, rfl⟩ ⟨c, h2, rfl⟩ hf
      unfold qL
      rw [K.one a b c h1 h2 hf]
/-! ### A pair -/
def shN (k : Int) (n : Node) : Node := { n with args := n.args.map (· + k) }
def topN (a b : Int) : Node := ⟨2, [42], [a, b], [], false⟩
def pairG (g h : Graph) : Graph := ⟨g.nodes ++ h.nodes.map (shN g.nodes.length) ++ [topN g.root (g.nodes.length + h.root)], g.nodes.length + h.nodes.length⟩
theorem pair_len (g h : Graph) : (pairG g h).nodes.length = g.nodes.length + h.nodes.length + 1 := by simp [pairG]; omega
theorem top_kind {a b : Int} : (topN a b).kind = 2 := rfl
theorem pair_getl (g h : Graph) {i : Nat} (hi : i < g.nodes.length) : (pairG g h).nodes.getD i dNode = g.nodes.getD i dNode := by
  simp only [pairG, List.getD, List.append_assoc]
  rw [List.getElem?_append_left hi]
theorem pair_getr (g h : Graph) {i : Nat} (hi : i < h.nodes.length) : (pairG g h).nodes.getD (i + g.nodes.length) dNode = shN g.nodes.length (h.nodes.getD i dNode) := by
  simp only [pairG, List.getD, List.append_assoc]
  rw [List.getElem?_append_right (by omega), List.getElem?_append_left (by simp; omega), Nat.add_sub_cancel, List.getElem?_map, List.getElem?_eq_getElem hi]; rfl
theorem pair_l {g h : Graph} {a : Int} (ha : 0 ≤ a ∧ a < g.nodes.length) : nodeD (pairG g h) a = nodeD g a := pair_getl g h (by omega)
theorem pair_r {g h : Graph} {a : Int} (ha : 0 ≤ a ∧ a < h.nodes.length) : nodeD (pairG g h) (a + g.nodes.length) = shN g.nodes.length (nodeD h a) := by
  have := pair_getr g h (i := a.toNat) (by omega)
  rw [show a.toNat + g.nodes.length = (a + g.nodes.length).toNat by omega] at this
  exact this
theorem pair_t (g h : Graph) : nodeD (pairG g h) (pairG g h).root = topN g.root (g.nodes.length + h.root) := by
  simp only [nodeD, pairG, List.getD]
  rw [List.getElem?_append_right (by simp; omega)]
  have : ((g.nodes.length : Int) + h.nodes.length).toNat - (g.nodes ++ h.nodes.map (shN g.nodes.length)).length = 0 := by simp
  rw [this]; rfl
theorem sh0 (n : Node) : shN 0 n = n := by
  have : n.args.map (· + (0 : Int)) = n.args := by
    conv => rhs; rw [← List.map_id n.args]
    exact List.map_congr_left fun a _ => by simp
  rw [shN, this]
theorem sh_may {n : Node} {N M k : Int} (h : mayF n N = true) (hk : 0 ≤ k) (hM : N + k ≤ M) : mayF (shN k n) M = true :=
  may_map h (· + k) fun a ha => by have := may_args h a ha; omega
theorem pair_check {g h : Graph} (cg : checkF g = 0) (ch : checkF h = 0) (hs : g.nodes.length + h.nodes.length < 1048576) : checkF (pairG g h) = 0 := by
  obtain ⟨g0, g1, g2, g3⟩ := check_root cg
  obtain ⟨h0, h1, h2, h3⟩ := check_root ch
  have hl := pair_len g h
  refine checkF_ok (by show 0 ≤ ((g.nodes.length : Int) + h.nodes.length); omega) (by rw [hl]; show ((g.nodes.length : Int) + h.nodes.length) < _; omega) (by omega) fun n hn => ?_
  rw [hl]
  simp only [pairG, List.mem_append, List.mem_map, List.mem_singleton] at hn
  rcases hn with (hn | ⟨m, hm, rfl⟩) | rfl
  · rw [← sh0 n]; exact sh_may (g3 n hn) (by omega) (by omega)
  · exact sh_may (h3 m hm) (by omega) (by omega)
  · have e1 : decide (g.root < 0) = false := by simp; omega
    have e2 : decide (g.root ≥ ((g.nodes.length + h.nodes.length + 1 : Nat) : Int)) = false := by simp; omega
    have e3 : decide ((g.nodes.length : Int) + h.root < 0) = false := by simp; omega
    have e4 : decide ((g.nodes.length : Int) + h.root ≥ ((g.nodes.length + h.nodes.length + 1 : Nat) : Int)) = false := by simp; omega
    simp only [topN, mayF, List.any_cons, List.any_nil, e1, e2, e3, e4]
    rfl
theorem rch_l {g h : Graph} (cg : checkF g = 0) {a : Int} (ha : Rch g a) : Rch (pairG g h) a := by
  induction ha with
  | root => exact .step .root (by rw [pair_t]; simp [topN])
  | step hr hb ih => exact .step ih (by rw [pair_l (hr.ok cg)]; exact hb)
theorem rch_r {g h : Graph} (ch : checkF h = 0) {a : Int} (ha : Rch h a) : Rch (pairG g h) (a + g.nodes.length) := by
  induction ha with
  | root => exact .step .root (by rw [pair_t]; simp [topN]; omega)
  | step hr hb ih => exact .step ih (by rw [pair_r (hr.ok ch)]; exact List.mem_map.2 ⟨_, hb, rfl⟩)
/-! ### Classes of a graph within another one -/
theorem sh_free (k : Int) (n : Node) : cfreeF (shN k n) = cfreeF n := rfl
theorem cls_emb {G H : Graph} (cG : checkF G = 0) (cH : checkF H = 0) (k : Nat) (he : ∀ i, i < G.nodes.length → i + k < H.nodes.length ∧ H.nodes.getD (i + k) dNode = shN k (G.nodes.getD i dNode)) {i j : Nat} (hi : i < G.nodes.length) (hj : j < G.nodes.length) :
    clAt (classesF H) ((i + k : Nat) : Int) = clAt (classesF H) ((j + k : Nat) : Int) ↔ clAt (classesF G) (i : Int) = clAt (classesF G) (j : Int) := by
  have inG : ∀ (i : Nat), i < G.nodes.length → ∀ (m : Nat) (a : Int), (G.nodes.getD i dNode).args[m]? = some a → 0 ≤ a ∧ a < G.nodes.length := fun i hi m a ha => may_args ((check_ns cG).at hi) a (List.mem_of_getElem? ha)
  constructor
  · intro h
    refine classes_most (E := fun i j => i < G.nodes.length ∧ j < G.nodes.length ∧ clAt (classesF H) ((i + k : Nat) : Int) = clAt (classesF H) ((j + k : Nat) : Int)) ?_ ⟨hi, hj, h⟩
    rintro i j ⟨hi, hj, h⟩
    refine ⟨hi, hj, ?_⟩
    obtain ⟨q1, q2, q3, q4, q5, q6⟩ := classes_alike cH (he i hi).1 (he j hj).1 h
    rw [(he i hi).2, (he j hj).2] at q1 q2 q3 q4 q5 q6
    rw [sh_free, sh_free] at q1 q6
    cases cf : cfreeF (G.nodes.getD i dNode)
    · refine .inr ⟨rfl, by rw [← q6, cf], q2, q3, q4, by have := congrArg List.length q5; simpa [shN] using this, fun m a b ha hb => ?_⟩
      have ra := inG i hi m a ha
      have rb := inG j hj m b hb
      refine ⟨by omega, by omega, ?_⟩
      have := congrArg (fun l => l[m]?) q5
      simp only [shN, List.map_map, List.getElem?_map, ha, hb, Option.map_some, Option.some.injEq, Function.comp_apply] at this
      rw [show ((a.toNat + k : Nat) : Int) = a + k by omega, show ((b.toNat + k : Nat) : Int) = b + k by omega]
      exact this
    · have := q1 (.inl cf)
      exact .inl (by omega)
  · intro h
    refine classes_most (E := fun x y => ∃ i j, x = i + k ∧ y = j + k ∧ i < G.nodes.length ∧ j < G.nodes.length ∧ clAt (classesF G) (i : Int) = clAt (classesF G) (j : Int)) ?_ ⟨i, j, rfl, rfl, hi, hj, h⟩
    rintro _ _ ⟨i, j, rfl, rfl, hi, hj, h⟩
    refine ⟨(he i hi).1, (he j hj).1, ?_⟩
    obtain ⟨q1, q2, q3, q4, q5, q6⟩ := classes_alike cG hi hj h
    rw [(he i hi).2, (he j hj).2, sh_free, sh_free]
    cases cf : cfreeF (G.nodes.getD i dNode)
    · refine .inr ⟨rfl, by rw [← q6, cf], q2, q3, q4, by have := congrArg List.length q5; simpa [shN] using this, fun m a b ha hb => ?_⟩
      simp only [shN, List.getElem?_map, Option.map_eq_some_iff] at ha hb
      obtain ⟨a, ha, rfl⟩ := ha
      obtain ⟨b, hb, rfl⟩ := hb
      have ra := inG i hi m a ha
      have rb := inG j hj m b hb
      refine ⟨a.toNat, b.toNat, by omega, by omega, by omega, by omega, ?_⟩
      have := congrArg (fun l => l[m]?) q5
      simp only [List.getElem?_map, ha, hb, Option.map_some, Option.some.injEq] at this
      rw [show (a.toNat : Int) = a by omega, show (b.toNat : Int) = b by omega]
      exact this
    · exact .inl (by rw [q1 (.inl cf)])
section
variable {g h : Graph} (cg : checkF g = 0) (ch : checkF h = 0) (hs : g.nodes.length + h.nodes.length < 1048576)
include cg ch hs
theorem cls_l {a b : Int} (ha : 0 ≤ a ∧ a < g.nodes.length) (hb : 0 ≤ b ∧ b < g.nodes.length) : clAt (classesF (pairG g h)) a = clAt (classesF (pairG g h)) b ↔ clAt (classesF g) a = clAt (classesF g) b := by
  have := cls_emb cg (pair_check cg ch hs) 0 (fun i hi => ⟨by rw [pair_len]; omega, by rw [show ((0 : Nat) : Int) = 0 from rfl, sh0]; exact pair_getl g h hi⟩) (i := a.toNat) (j := b.toNat) (by omega) (by omega)
  rw [show ((a.toNat + 0 : Nat) : Int) = a by omega, show ((b.toNat + 0 : Nat) : Int) = b by omega, show (a.toNat : Int) = a by omega, show (b.toNat : Int) = b by omega] at this
  exact this
theorem cls_r {a b : Int} (ha : 0 ≤ a ∧ a < h.nodes.length) (hb : 0 ≤ b ∧ b < h.nodes.length) : clAt (classesF (pairG g h)) (a + g.nodes.length) = clAt (classesF (pairG g h)) (b + g.nodes.length) ↔ clAt (classesF h) a = clAt (classesF h) b := by
  have := cls_emb ch (pair_check cg ch hs) g.nodes.length (fun i hi => ⟨by rw [pair_len]; omega, pair_getr g h hi⟩) (i := a.toNat) (j := b.toNat) (by omega) (by omega)
  rw [show ((a.toNat + g.nodes.length : Nat) : Int) = a + g.nodes.length by omega, show ((b.toNat + g.nodes.length : Nat) : Int) = b + g.nodes.length by omega, show (a.toNat : Int) = a by omega, show (b.toNat : Int) = b by omega] at this
  exact this
end
theorem idx_sh (j k : Int) (x y : Node) (i : Nat) : idxI (shN j x) (shN k y) i = idxI x y i := rfl
theorem arg_sh {k : Int} {x : Node} {i : Nat} (hi : i < x.args.length) : (shN k x).args.getD i 0 = x.args.getD i 0 + k := by
  simp only [shN, List.getD, List.getElem?_map, List.getElem?_eq_getElem hi]; rfl
theorem arg_in {g : Graph} (cg : checkF g = 0) {a : Int} (ha : 0 ≤ a ∧ a < g.nodes.length) {i : Nat} (hi : i < (nodeD g a).args.length) : 0 ≤ (nodeD g a).args.getD i 0 ∧ (nodeD g a).args.getD i 0 < g.nodes.length := may_args (may_at cg ha) _ (getD_mem hi)
/-- **A pair is an instance of a pair just if each part is of its own.** -/
theorem is_pair {g h a b : Graph} (hg : GTi g) (hh : GTi h) (ha : GTi a) (hb : GTi b) (cg : checkF g = 0) (ch : checkF h = 0) (ca : checkF a = 0) (cb : checkF b = 0) (t1 : GTi (pairG g h)) (t2 : GTi (pairG a b)) (s1 : g.nodes.length + h.nodes.length < 1048576) (s2 : a.nodes.length + b.nodes.length < 1048576) :
    isF (pairG g h) (pairG a b) = (isF g a && isF h b) := by
  rw [Bool.eq_iff_iff, Bool.and_eq_true, isF_iffB t1 t2 (pair_check cg ch s1) (pair_check ca cb s2), isF_iffB hg ha cg ca, isF_iffB hh hb ch cb]
  have rg := check_root cg
  have rh := check_root ch
  constructor
  · rintro ⟨S, K⟩
    have hroot := K.node _ _ K.root
    rw [pair_t, pair_t] at hroot
    rcases hroot with q | ⟨_, _, _, _, _, q⟩
    · rw [top_kind] at q; cases q
    have r0 : S g.root a.root := (q 0 (by simp [topN])).2
    have r1 : S (g.nodes.length + h.root) (a.nodes.length + b.root) := (q 1 (by simp [topN])).2
    constructor
    · refine ⟨fun x y => S x y ∧ (0 ≤ x ∧ x < g.nodes.length) ∧ Rch a y, ⟨r0, ⟨rg.1, rg.2.1⟩, .root⟩, fun x y h => h.2, ?_, ?_⟩
      · rintro x y ⟨h1, h2, h3⟩
        have hn := K.node x y h1
        rw [pair_l h2, pair_l (h3.ok ca)] at hn
        rcases hn with q | ⟨q1, q2, q3, q4, q5, q6⟩
        · exact .inl q
        · exact .inr ⟨q1, q2, q3, q4, q5, fun i hi => ⟨(q6 i hi).1, (q6 i hi).2, arg_in cg h2 hi, rch_arg h3 (q6 i hi).1⟩⟩
      · rintro x y z ⟨h1, h2, h3⟩ ⟨h4, _, h6⟩ hf
        exact (cls_l ca cb s2 (h3.ok ca) (h6.ok ca)).1 (K.one x y z h1 h4 (by rw [pair_l h2]; exact hf))
    · refine ⟨fun x y => S (x + g.nodes.length) (y + a.nodes.length) ∧ (0 ≤ x ∧ x < h.nodes.length) ∧ Rch b y, ⟨by rw [Int.add_comm, Int.add_comm b.root]; exact r1, ⟨rh.1, rh.2.1⟩, .root⟩, fun x y h => h.2, ?_, ?_⟩
      · rintro x y ⟨h1, h2, h3⟩
        have hn := K.node _ _ h1
        rw [pair_r h2, pair_r (h3.ok cb)] at hn
        rcases hn with q | ⟨q1, q2, q3, q4, q5, q6⟩
        · exact .inl q
        · refine .inr ⟨q1, q2, q3, q4, q5, fun i hi => ?_⟩
          obtain ⟨z1, z2⟩ := q6 i (by simpa [shN] using hi)
          rw [idx_sh] at z1 z2
          have z1' : idxI (nodeD h x) (nodeD b y) i < (nodeD b y).args.length := by simpa [shN] using z1
          rw [arg_sh hi, arg_sh z1'] at z2
          exact ⟨z1', z2, arg_in ch h2 hi, rch_arg h3 z1'⟩
      · rintro x y z ⟨h1, h2, h3⟩ ⟨h4, _, h6⟩ hf
        exact (cls_r ca cb s2 (h3.ok cb) (h6.ok cb)).1 (K.one _ _ _ h1 h4 (by rw [pair_r h2]; exact hf))
  · rintro ⟨⟨S, K⟩, T, J⟩
    have hl := pair_len g h
    have er : (pairG g h).root = g.nodes.length + h.nodes.length := rfl
    refine ⟨fun x y => (x = (pairG g h).root ∧ y = (pairG a b).root) ∨ S x y ∨ ∃ x' y', x = x' + g.nodes.length ∧ y = y' + a.nodes.length ∧ T x' y', .inl ⟨rfl, rfl⟩, ?_, ?_, ?_⟩
    · rintro x y (⟨rfl, rfl⟩ | h1 | ⟨x, y, rfl, rfl, h1⟩)
      · exact ⟨by rw [hl, er]; omega, .root⟩
      · have := (K.range x y h1).1
        exact ⟨by rw [hl]; omega, rch_l ca (K.range x y h1).2⟩
      · have := (J.range x y h1).1
        exact ⟨by rw [hl]; omega, rch_r cb (J.range x y h1).2⟩
    · rintro x y (⟨rfl, rfl⟩ | h1 | ⟨x, y, rfl, rfl, h1⟩)
      · rw [pair_t, pair_t]
        refine .inr ⟨by rw [top_kind]; decide, rfl, rfl, .inr ⟨rfl, rfl⟩, fun hk => (by rw [top_kind] at hk; cases hk), fun i hi => ?_⟩
        have hi' : i < 2 := hi
        have : i = 0 ∨ i = 1 := by omega
        rcases this with rfl | rfl
        · exact ⟨Nat.zero_lt_two, .inr (.inl K.root)⟩
        · exact ⟨Nat.one_lt_two, .inr (.inr ⟨h.root, b.root, Int.add_comm _ _, Int.add_comm _ _, J.root⟩)⟩
      · have hr := K.range x y h1
        rw [pair_l hr.1, pair_l (hr.2.ok ca)]
        rcases K.node x y h1 with q | ⟨q1, q2, q3, q4, q5, q6⟩
        · exact .inl q
        · exact .inr ⟨q1, q2, q3, q4, q5, fun i hi => ⟨(q6 i hi).1, .inr (.inl (q6 i hi).2)⟩⟩
      · have hr := J.range x y h1
        rw [pair_r hr.1, pair_r (hr.2.ok cb)]
        rcases J.node x y h1 with q | ⟨q1, q2, q3, q4, q5, q6⟩
        · exact .inl q
        · refine .inr ⟨q1, q2, q3, q4, q5, fun i hi => ?_⟩
          have hi' : i < (nodeD h x).args.length := by simpa [shN] using hi
          rw [idx_sh]
          obtain ⟨z1, z2⟩ := q6 i hi'
          refine ⟨by simpa [shN] using z1, .inr (.inr ⟨_, _, arg_sh hi', arg_sh z1, z2⟩)⟩
    · have nf : cfreeF (nodeD (pairG g h) (pairG g h).root) = false := by rw [pair_t]; rfl
      rintro x y z (⟨rfl, rfl⟩ | h1 | ⟨x, y, rfl, rfl, h1⟩) h2 hf
      · rw [nf] at hf; cases hf
      · have hr := K.range x y h1
        rw [pair_l hr.1] at hf
        rcases h2 with ⟨rfl, rfl⟩ | h2 | ⟨x', y', rfl, rfl, h2⟩
        · have := hr.1; rw [er] at this; omega
        · exact (cls_l ca cb s2 (hr.2.ok ca) ((K.range _ _ h2).2.ok ca)).2 (K.one _ _ _ h1 h2 hf)
        · have := hr.1; have := (J.range _ _ h2).1; omega
      · have hr := J.range x y h1
        rw [pair_r hr.1] at hf
        rcases h2 with ⟨h2, rfl⟩ | h2 | ⟨x', y', hx, rfl, h2⟩
        · have := hr.1; rw [er] at h2; omega
        · have := (K.range _ _ h2).1; omega
        · obtain rfl : x = x' := by omega
          exact (cls_r ca cb s2 (hr.2.ok cb) ((J.range _ _ h2).2.ok cb)).2 (J.one _ _ _ h1 h2 hf)
/-! ### 'a * 'a -/
def twiceG : Graph := ⟨[⟨1, [], [], [], false⟩, topN 0 0], 1⟩
theorem twice_check : checkF twiceG = 0 := by decide
/-- **A pair is one of 'a * 'a just if both are the same.** -/
theorem is_twice {a b : Graph} (tt : GTi twiceG) (ca : checkF a = 0) (cb : checkF b = 0) (t2 : GTi (pairG a b)) (s2 : a.nodes.length + b.nodes.length < 1048576) (na : ∀ x, Rch a x → cfreeF (nodeD a x) = false) (nb : ∀ x, Rch b x → cfreeF (nodeD b x) = false) :
    isF twiceG (pairG a b) = sameF a b := by
  have cp := pair_check ca cb s2
  have ra := check_root ca
  have rb := check_root cb
  have hl := pair_len a b
  rw [Bool.eq_iff_iff, isF_iffB tt t2 twice_check cp, sameF_iff ca cb]
  constructor
  · rintro ⟨S, K⟩
    have hroot := K.node _ _ K.root
    rw [pair_t, show nodeD twiceG twiceG.root = topN 0 0 from rfl] at hroot
    rcases hroot with q | ⟨_, _, _, _, _, q⟩
    · rw [top_kind] at q; cases q
    have r0 : S 0 a.root := (q 0 (by simp [topN])).2
    have r1 : S 0 (a.nodes.length + b.root) := (q 1 (by simp [topN])).2
    have h0 := K.one 0 _ _ r0 r1 rfl
    rw [Int.add_comm] at h0
    refine ⟨fun x y => Rch a x ∧ Rch b y ∧ clAt (classesF (pairG a b)) x = clAt (classesF (pairG a b)) (y + a.nodes.length), ⟨.root, .root, h0⟩, fun x y h => ⟨h.1.ok ca, h.2.1.ok cb⟩, ?_, ?_, ?_⟩
    · rintro x y ⟨hx, hy, he⟩
      have kx := hx.ok ca
      have ky := hy.ok cb
      have he' : clAt (classesF (pairG a b)) (x.toNat : Int) = clAt (classesF (pairG a b)) ((y.toNat + a.nodes.length : Nat) : Int) := by
        rw [show (x.toNat : Int) = x by omega, show ((y.toNat + a.nodes.length : Nat) : Int) = y + a.nodes.length by omega]; exact he
      obtain ⟨_, q2, q3, q4, q5, _⟩ := classes_alike cp (i := x.toNat) (j := y.toNat + a.nodes.length) (by omega) (by omega) he'
      rw [pair_getl a b (by omega), pair_getr a b (by omega)] at q2 q3 q4 q5
      change (nodeD a x).args.map _ = (shN _ (nodeD b y)).args.map _ at q5
      have hx0 := na x hx
      have hy0 := nb y hy
      simp only [cfreeF, Bool.or_eq_false_iff] at hx0 hy0
      have hlen : (nodeD a x).args.length = (nodeD b y).args.length := by have := congrArg List.length q5; simpa [shN] using this
      refine ⟨q2, q3, by rw [hx0.2, hy0.2], q4, hlen, fun i hi => ⟨rch_arg hx hi, rch_arg hy (by omega), ?_⟩⟩
      have hi' : i < (nodeD b y).args.length := by omega
      have := congrArg (fun l => l[i]?) q5
      simp only [shN, List.map_map, List.getElem?_map, List.getElem?_eq_getElem hi, List.getElem?_eq_getElem hi', Option.map_some, Option.some.injEq, Function.comp_apply] at this
      simp only [List.getD, List.getElem?_eq_getElem hi, List.getElem?_eq_getElem hi', Option.getD_some]
      exact this
    · rintro x y z ⟨hx, _⟩ _ hf
      rw [na x hx] at hf; cases hf
    · rintro x y z ⟨hx, _⟩ _ hf
      rw [na x hx] at hf; cases hf
  · rintro ⟨R, K⟩
    have key : clAt (classesF (pairG a b)) a.root = clAt (classesF (pairG a b)) (b.root + a.nodes.length) := by
      have := classes_most (g := pairG a b) (E := fun i j => ∃ x y, i = x.toNat ∧ j = y.toNat + a.nodes.length ∧ Rch a x ∧ Rch b y ∧ R x y) ?_ ⟨a.root, b.root, rfl, rfl, .root, .root, K.root⟩
      · rw [show (a.root.toNat : Int) = a.root by omega, show ((b.root.toNat + a.nodes.length : Nat) : Int) = b.root + a.nodes.length by omega] at this
        exact this
      rintro _ _ ⟨x, y, rfl, rfl, hx, hy, hR⟩
      have kx := hx.ok ca
      have ky := hy.ok cb
      refine ⟨by omega, by omega, .inr ?_⟩
      rw [pair_getl a b (by omega), pair_getr a b (by omega), sh_free]
      obtain ⟨q1, q2, _, q4, q5, q6⟩ := K.node x y hR
      refine ⟨na x hx, nb y hy, q1, q2, q4, by show (nodeD a x).args.length = (shN _ (nodeD b y)).args.length; simpa [shN] using q5, fun m u v hu hv => ?_⟩
      simp only [shN, List.getElem?_map, Option.map_eq_some_iff] at hv
      obtain ⟨v, hv, rfl⟩ := hv
      obtain ⟨hm, rfl⟩ := List.getElem?_eq_some_iff.1 hu
      obtain ⟨hm', rfl⟩ := List.getElem?_eq_some_iff.1 hv
      have hR' := q6 m hm
      have a1 := rch_arg hx hm
      have a2 := rch_arg hy hm'
      replace hm : m < (nodeD a x).args.length := hm
      replace hm' : m < (nodeD b y).args.length := hm'
      have b1 : (nodeD a x).args.getD m 0 = (nodeD a x).args[m] := by rw [List.getD, List.getElem?_eq_getElem hm]; rfl
      have b2 : (nodeD b y).args.getD m 0 = (nodeD b y).args[m] := by rw [List.getD, List.getElem?_eq_getElem hm']; rfl
      rw [b1, b2] at hR'
      rw [b1] at a1
      rw [b2] at a2
      have := a2.ok cb
      refine ⟨_, _, rfl, ?_, a1, a2, hR'⟩
      show ((nodeD b y).args[m] + (a.nodes.length : Int)).toNat = _
      omega
    have krt : Rch (pairG a b) (pairG a b).root := .root
    refine ⟨fun x y => (x = 1 ∧ y = (pairG a b).root) ∨ (x = 0 ∧ Rch (pairG a b) y ∧ clAt (classesF (pairG a b)) y = clAt (classesF (pairG a b)) a.root), .inl ⟨rfl, rfl⟩, ?_, ?_, ?_⟩
    · rintro x y (⟨rfl, rfl⟩ | ⟨rfl, h1, _⟩)
      · exact ⟨by decide, .root⟩
      · exact ⟨by decide, h1⟩
    · rintro x y (⟨rfl, rfl⟩ | ⟨rfl, h1, _⟩)
      · rw [pair_t, show nodeD twiceG 1 = topN 0 0 from rfl]
        refine .inr ⟨by rw [top_kind]; decide, rfl, rfl, .inr ⟨rfl, rfl⟩, fun hk => (by rw [top_kind] at hk; cases hk), fun i hi => ?_⟩
        have hi' : i < 2 := hi
        have : i = 0 ∨ i = 1 := by omega
        rcases this with rfl | rfl
        · exact ⟨Nat.zero_lt_two, .inr ⟨rfl, rch_l ca .root, rfl⟩⟩
        · refine ⟨Nat.one_lt_two, .inr ⟨rfl, ?_, ?_⟩⟩
          · show Rch _ ((a.nodes.length : Int) + b.root); rw [Int.add_comm]; exact rch_r cb .root
          · show clAt _ ((a.nodes.length : Int) + b.root) = _; rw [Int.add_comm]; exact key.symm
      · exact .inl rfl
    · rintro x y z (⟨rfl, rfl⟩ | ⟨rfl, _, h1⟩) h2 hf
      · cases hf
      · rcases h2 with ⟨h2, _⟩ | ⟨_, _, h2⟩
        · cases h2
        · rw [h1, h2]
end Go.Ab.S
end
section
/-
  A pair of types, made.
-/
namespace Go.Ab.S
open Go.Ab
set_option maxHeartbeats 8000000
/-- A node of the first type stands in what was there; one of the second one has a row of its own. -/
def PairAt (h0 h : AHeap) (c : List AVal) (n : Node) : Prop := NodeAt h0 c n ∨ ∃ av lv, c = [.int .i64 n.kind, .str n.name, av, lv, .bool n.isOpen] ∧ Built h h0.next 3 1 av n.args.length (n.args.map (AVal.int .i64)) ∧ StrsAt h0 lv n.labels
theorem PairAt.stay {h0 h h' : AHeap} {c : List AVal} {n : Node} (k : PairAt h0 h c n) (hk : ∀ b p, h0.next ≤ b → h.objs.get b = some p → (∃ vs, p.2 = .cells false 3 vs) → h'.objs.get b = some p) : PairAt h0 h' c n := by
  rcases k with k | ⟨av, lv, k1, k2, k3⟩
  · exact .inl k
  · exact .inr ⟨av, lv, k1, built_stay' k2 hk, k3⟩
theorem PairAt.at {h0 h : AHeap} {c : List AVal} {n : Node} (k : PairAt h0 h c n) (g : Grow h0 h) : NodeAt h c n := by
  rcases k with k | ⟨av, lv, k1, k2, k3⟩
  · exact k.mono g
  · exact ⟨av, lv, k1, built_ints k2, k3.mono g⟩
theorem PairAt.ones {h0 h : AHeap} {c : List AVal} {n : Node} (k : PairAt h0 h c n) (g : Grow h0 h) : c.length = 5 := (k.at g).size
/-- The row of nodes that is being made. -/
structure PInv (h0 : AHeap) (b4 b6 : Nat) (root : Int) (ns : List Node) (hp : AHeap) : Prop where
  grow : Grow h0 hp
  low : h0.next ≤ b4 ∧ b4 < b6 ∧ b6 < hp.next
  o4 : hp.objs.get b4 = some (b4, .cells false 24 [.slice none 0, .int .i64 0])
  row : ∃ (ver : Nat) (vo : AVal) (cs : List (List AVal)), hp.objs.get b6 = some (ver, .cells false 24 [vo, .int .i64 root]) ∧ Built hp h0.next 34 5 vo ns.length cs.flatten ∧ cs.length = ns.length ∧ ∀ (i : Nat) c n, cs[i]? = some c → ns[i]? = some n → PairAt h0 hp c n
theorem PInv.other {h0 : AHeap} {b4 b6 : Nat} {root : Int} {ns : List Node} {hp hq : AHeap} (I : PInv h0 b4 b6 root ns hp) (g : Grow hp hq) : PInv h0 b4 b6 root ns hq := by
  obtain ⟨v, vo, cs, k, kB, kl, kn⟩ := I.row
  exact ⟨I.grow.trans g, ⟨I.low.1, I.low.2.1, Nat.lt_of_lt_of_le I.low.2.2 g.next⟩, g.keep _ _ I.o4, v, vo, cs, g.keep _ _ k, kB.grow g, kl, fun i c n hc hn => (kn i c n hc hn).stay fun b p _ hb _ => g.keep _ _ hb⟩
/-- A node is put behind: the row grows elsewhere, and is stored. -/
theorem PInv.put {h0 : AHeap} {b4 b6 ver : Nat} {root : Int} {ns : List Node} {hp h12 h13 h14 : AHeap} {vo vo' : AVal} {cs : List (List AVal)} {v14 : Nat} (w0 : WF h0) (I : PInv h0 b4 b6 root ns hp) (kB : Built hp h0.next 34 5 vo ns.length cs.flatten) (kl : cs.length = ns.length)
    (kn : ∀ (i : Nat) c n, cs[i]? = some c → ns[i]? = some n → PairAt h0 hp c n) (g12 : Grow hp h12) {c : List AVal} {n : Node} (hn : PairAt h0 hp c n) (B13 : Built h13 h0.next 34 5 vo' (ns.length + 1) (cs.flatten ++ c))
    (gr13 : ∀ h, WF h → Grow h h12 → h.next ≤ h0.next → Grow h h13) (n13 : h12.next ≤ h13.next) (kp13 : ∀ b p, h12.objs.get b = some p → (∀ k, vo ≠ .slice (some (b, 0)) k) → h13.objs.get b = some p) (p14 : But b6 h13 h14) (o6 : h13.objs.get b6 = some (ver, .cells false 24 [vo, .int .i64 root])) (o14 : h14.objs.get b6 = some (v14, .cells false 24 [vo', .int .i64 root])) :
    PInv h0 b4 b6 root (ns ++ [n]) h14 := by
  have kB' := kB.grow g12
  have hst : ∀ b p, hp.objs.get b = some p → (∀ vs, p.2 ≠ .cells false 34 vs) → b ≠ b6 → h14.objs.get b = some p := fun b p hb hp hne => p14.keep b hne _ (kp13 _ _ (g12.keep _ _ hb) (built_ne kB' (g12.keep _ _ hb) hp))
  have hpa : ∀ {c : List AVal} {m : Node}, PairAt h0 hp c m → PairAt h0 h14 c m := fun k => k.stay fun b p _ hb ⟨vs, hp⟩ => hst b p hb (fun vs' hh => by rw [hp] at hh; cases hh) (by
    rintro rfl
    obtain ⟨ver', vo2, _, hb', _⟩ := I.row
    rw [hb'] at hb
    simp only [Option.some.injEq] at hb
    rw [← hb] at hp; cases hp)
  refine ⟨p14.grow h0 w0 (gr13 h0 w0 (I.grow.trans g12) (Nat.le_refl _)) (by have := I.low; omega), ⟨I.low.1, I.low.2.1, by have := I.low; have := g12.next; have := p14.next; omega⟩, hst _ _ I.o4 (fun vs hh => by cases hh) (by have := I.low; omega), v14, vo', cs ++ [c], o14, ?_, by simp [kl], fun i d m hd hm => ?_⟩
  · rw [List.length_append, List.flatten_append]
    exact built_but (by simpa using B13) p14 o6 (fun vs hh => by cases hh)
  · rcases Nat.lt_or_ge i cs.length with hi | hi
    · rw [List.getElem?_append_left hi] at hd
      rw [List.getElem?_append_left (by omega)] at hm
      exact hpa (kn i d m hd hm)
    · rw [List.getElem?_append_right hi] at hd
      rw [List.getElem?_append_right (by omega), ← kl] at hm
      obtain hz : i - cs.length = 0 := by
        have := (List.getElem?_eq_some_iff.1 hd).1
        simp only [List.length_cons, List.length_nil] at this
        omega
      rw [hz, List.getElem?_cons_zero, Option.some.injEq] at hd hm
      subst hd; subst hm
      exact hpa hn
theorem PInv.graph {h0 : AHeap} {b4 b6 : Nat} {root : Int} {ns : List Node} {hp : AHeap} (I : PInv h0 b4 b6 root ns hp) : ∃ ver vo, hp.objs.get b6 = some (ver, .cells false 24 [vo, .int .i64 root]) ∧ lenO vo = some ns.length ∧ ∀ hq, Grow h0 hq → (∀ b p, hp.objs.get b = some p → b ≠ b4 → hq.objs.get b = some p) → NodesAt hq vo ns := by
  obtain ⟨v, vo, cs, k, kB, kl, kn⟩ := I.row
  refine ⟨v, vo, k, kB.len, fun hq g kp => ?_⟩
  have hne : ∀ {b p}, hp.objs.get b = some p → (∃ vs e, (e = 34 ∨ e = 3) ∧ p.2 = .cells false e vs) → b ≠ b4 := by
    rintro b p hb ⟨vs, e, he, hp⟩ rfl
    rw [I.o4] at hb
    simp only [Option.some.injEq] at hb
    rw [← hb] at hp
    rcases he with rfl | rfl <;> cases hp
  have hB : Built hq h0.next 34 5 vo ns.length cs.flatten := built_stay kB fun c p hc ⟨vs, hp⟩ _ => kp c p hc (hne hc ⟨vs, _, .inl rfl, hp⟩)
  have hk : ∀ (i : Nat) c n, cs[i]? = some c → ns[i]? = some n → NodeAt hq c n := fun i c n hc hn => ((kn i c n hc hn).stay fun b p _ hb ⟨vs, hp⟩ => kp b p hb (hne hb ⟨vs, _, .inr rfl, hp⟩)).at g
  refine ⟨cs, hB.sl (by decide) rfl (fun c hc => ?_) kl, kl, fun i n c hn hc => hk i c n hc hn⟩
  obtain ⟨i, hi, rfl⟩ := List.mem_iff_getElem.1 hc
  exact (hk i _ _ (List.getElem?_eq_getElem hi) (List.getElem?_eq_getElem (by omega))).size
/-- Arguments of which so many are told. -/
def addTo (k : Int) (l : List Int) (i : Nat) : List Int := (l.take i).map (· + k)
theorem addTo_put {k : Int} {l : List Int} {i : Nat} (h : i < l.length) : addTo k l i ++ [l[i] + k] = addTo k l (i + 1) := by
  rw [addTo, addTo, List.take_succ_eq_append_getElem h, List.map_append]; rfl
theorem addTo_len {k : Int} {l : List Int} {i : Nat} (h : i ≤ l.length) : (addTo k l i).length = i := by simp [addTo]; omega
section
variable {fns : FuncId → Option AFunc} {summ : FuncId → List AVal → AHeap → Option (D (AVal × AHeap))} {ro : Option Nat}
theorem st_bslice2 {d : Option Tmp} {e : TypeId} {z : AVal} {u v : AVal} {x y : AOpd} {l : List Step} {a : AAct} {h : AHeap} {K : AAct → AHeap → Prop} (hx : ev a x = some u) (hy : ev a y = some v) (hu : cellsA u = [u]) (hv : cellsA v = [v]) (w : WF h)
    (k : ∀ b h', h.next ≤ b → Grow h h' → h'.objs.get b = some (b, .cells false e [u, v]) → St fns summ ro l (putA a d (.slice (some (b, 0)) 2)) h' K) : St fns summ ro (⟨d, none, .e (.bslice e 1 2 [z] [(0, x), (1, y)])⟩ :: l) a h K := by
  refine st_t (by intro _ _ hh; cases hh) (by intro _ _ hh; cases hh) (v := .slice (some (h.next, 0)) 2) (h' := newA h (.cells false e [u, v])) ?_ (k _ _ (Nat.le_refl _) ((Grow.refl w).new _) (new_get_same _ _))
  simp [turnA, rep, rowA, hx, hy, hu, hv]
variable (H : Has fns summ)
include H
theorem InstPairs1_ok (g h : Graph) (hg : GTi g) (hh : GTi h) (cg : checkF g = 0) (ch : checkF h = 0) (v u : AVal) (h0 : AHeap) (hw : WF h0) (hv : GraphAt h0 v g) (hu : GraphAt h0 u h) : Cl fns summ 16 [v, u] h0 fun r h' => GraphAt h' r (pairG g h) ∧ Grow h0 h' := by
  obtain ⟨nv, rfl, hN⟩ := hv
  obtain ⟨mv, rfl, hM⟩ := hu
  have hlN := hN.len
  have hlM := hM.len
  have hgs : g.nodes.length ≤ 4096 := by have := hg.tiny; omega
  have hhs : h.nodes.length ≤ 4096 := by have := hh.tiny; omega
  have rg := Hid.mk (check_root cg)
  have rh := Hid.mk (check_root ch)
  have mh := Hid.mk (check_ns ch).2
  have tg := Hid.mk hg
  have th := Hid.mk hh
  clear hg hh cg ch
  refine H.go (fn := F_InstPairs1) rfl (by decide) rfl rfl ?_
  unfold F_InstPairs1
  dsimp only
  refine cd_seq (cd_ops ?_)
  refine st_box (by exact e1) (by exact cc) hw ?_
  rintro b2 h2 hb2 g2 o2
  refine st_box (by exact e1) (by exact cc) g2.wf ?_
  rintro b3 h3 hb3 g3 o3
  replace o2 := g3.keep _ _ o2
  have o2' := o2
  have o3' := o3
  have g03 := g2.trans g3
  refine st_alloc g3.wf ?_
  rintro b4 h4 hb4 g4 o4
  replace o2 := g4.keep _ _ o2
  replace o3 := g4.keep _ _ o3
  have n02 := g2.next
  have n03 := g3.next
  have l2 := g3.wf.lt o2'
  have l3 := g3.wf.lt o3'
  have l4 := g4.wf.lt o4
  have hw1 : IntKind.i64.wrap (Int.ofNat g.nodes.length + Int.ofNat h.nodes.length) = ((g.nodes.length + h.nodes.length : Nat) : Int) := by
    rw [wrap_small (by simp; omega) (by simp; omega)]; simp
  have e31 : (2 : Nat) ^ 31 = 2147483648 := by decide
  repeat with_reducible first | refine nxt_normal ?_ | refine st_nil ?_ | refine cd_seq ?_ | refine cd_ops ?_ | refine cd_draw ?_ | (apply dr_q; exact q1) | (apply dr_ql; exact q1; exact og1) | (apply st_q; exact q1)
  obtain ⟨cs, hS, hcl, hcn⟩ := hN.mono g03
  have hone := nodes_ones cs g.nodes hcl hcn
  have hroom := roomOK H (b := 80) (k := cs.length) (by decide) (by omega)
  refine dr_st (st_T (by exact tE) (by exact t1) ?_)
  refine st_nil ⟨by simp [heldOk, Nat.testBit, o2, o3], ?_⟩
  refine dr_st (clone_gen (by exact e1) (by exact e1) (hS.mono g4) (by decide) (.inr (by rintro rfl; rw [List.length_nil] at hcl; have := rg.out; omega)) hone hroom g4.wf ?_)
  rintro ov h5 B g5
  rw [hcl] at B
  have hco : cellsA ov = [ov] := cells_of_len B.len
  have hoo : one ov = true := one_of_len B.len
  replace o2 := g5.keep _ _ o2
  replace o3 := g5.keep _ _ o3
  replace o4 := g5.keep _ _ o4
  refine st_nil ⟨by simp [heldOk, Nat.testBit, o2, o3], ?_⟩
  refine dr_q (v := .agg [ov, .int .i64 ((g.nodes.length + h.nodes.length : Nat) : Int)]) (by rw [qA_build]; simp only [fillA, ev_put, if_true, if_false, Nat.reduceEqDiff, hco]; rfl) ?_
  skip
  refine dr_st (st_alloc g5.wf ?_)
  rintro b6 h6 hb6 g6 o6
  replace o2 := g6.keep _ _ o2
  replace o3 := g6.keep _ _ o3
  replace o4 := g6.keep _ _ o4
  refine st_nil ⟨by simp [heldOk, Nat.testBit, o2, o3], ?_⟩
  have n04 := g4.next
  have n05 := g5.next
  have l6 := g6.wf.lt o6
  refine dr_st (st_store (by exact e1) (by exact e1) (cs := [ov, .int .i64 ((g.nodes.length + h.nodes.length : Nat) : Int)]) rfl rfl g6.wf o6 (by simp) (by rw [List.all_cons, List.all_cons, one_of_len B.len]; rfl) ?_)
  rintro v7 h7 p7 o7
  simp only [List.take_zero, List.nil_append, List.length_cons, List.length_nil, List.drop_succ_cons, List.drop_zero, List.append_nil, Nat.zero_add, Nat.reduceAdd, List.drop_nil, List.cons_append] at o7
  refine st_nil ⟨by simp [heldOk, Nat.testBit], ?_⟩
  have I0 : PInv h3 b4 b6 ((g.nodes.length + h.nodes.length : Nat) : Int) (g.nodes ++ (h.nodes.take 0).map (shN g.nodes.length)) h7 := by
    refine ⟨p7.grow h3 g3.wf ((g4.trans g5).trans g6) (by omega), ⟨hb4, by omega, by have := p7.next; omega⟩, p7.keep _ (by omega) _ o4, v7, ov, cs, o7, ?_, by simpa using hcl, fun i c n hc hn => .inl (hcn i n c (by simpa using hn) hc)⟩
    simp only [List.take_zero, List.map_nil, List.append_nil]
    exact built_base (built_but (B.grow g6) p7 o6 (fun vs hh => by cases hh)) n04
  have M3 := hM.mono g03
  have o37 := I0.grow.keep _ _ o3'
  have w3 := g3.wf
  clear hco hoo o2 o3 o4 o6 o7 p7 g4 g5 g6 B hS hcl hcn hone hroom hM hN hlN hb2 hb3 hb4 hb6 n02 n03 n04 n05 l2 l3 l4 l6 hw1
  repeat with_reducible first | refine nxt_normal ?_ | refine st_nil ?_ | refine cd_seq ?_ | refine cd_ops ?_ | refine dr_nil ?_ | (apply st_q; exact q1)
  refine cd_count (N := h.nodes.length) (by omega) (fun j a hp => PInv h3 b4 b6 ((g.nodes.length + h.nodes.length : Nat) : Int) (g.nodes ++ (h.nodes.take j).map (shN g.nodes.length)) hp ∧ a.defers = [] ∧ ev a (.tmp 2) = some (.ptr (some (b2, 0))) ∧ ev a (.tmp 3) = some (.ptr (some (b3, 0))) ∧ ev a (.tmp 4) = some (.ptr (some (b4, 0))) ∧ ev a (.tmp 5) = some (.int .i64 (Int.ofNat g.nodes.length)) ∧ ev a (.tmp 6) = some (.ptr (some (b6, 0))) ∧ ev a (.tmp 26) = some mv)
    (by rintro j a hp t w (rfl | rfl | rfl) ⟨h1, h2, h3, h4, h5, h6, h7, h8⟩ <;> exact ⟨h1, by rw [defers_put]; exact h2, by exact e1, by exact e1, by exact e1, by exact e1, by exact e1, by exact e1⟩) (by decide) ?_ ?_ ⟨I0, by exact n1, by exact e1, by exact e1, by exact e1, by exact e1, by exact e1, by exact e1⟩ (by exact e1) (by exact e1)
  · clear I0 o37
    rintro j a hp hj ⟨I, hd, e2', e3', e4', e5', e6', e26⟩ hi hn
    have hmem := List.getElem_mem hj
    have harg := Hid.mk (may_args (mh.out _ hmem))
    have hal : h.nodes[j].args.length ≤ 4096 := by
      have h1 := leftG_one h.nodes 0 _ hmem
      have h2 := th.out.tiny
      omega
    obtain ⟨bn, on, vern, ron, en, vsn, av, lv, hixn, hgn', hvl, hv5, _, _, _, _, _, ha, hl⟩ := M3.at (List.getElem?_eq_getElem hj)
    have hgn := I.grow.keep _ _ hgn'
    clear hgn'
    have hn64 : (Int.ofNat g.nodes.length : Int) ≤ 4096 := by simp; omega
    clear hmem
    repeat with_reducible first | refine cd_seq ?_ | refine cd_ops ?_ | refine cd_blockS ?_ | (apply st_q; exact q1)
    refine st_alloc I.grow.wf ?_
    rintro b8 h5 hb8 g5 o8
    refine st_store (by exact e1) (by exact e1) (cs := [.int .i64 h.nodes[j].kind, .str h.nodes[j].name, av, lv, .bool h.nodes[j].isOpen]) rfl rfl g5.wf o8 (by simp) (ones_node ha.len hl.len) ?_
    rintro v9 h9 p9 o9
    simp only [List.take_zero, List.nil_append, List.length_cons, List.length_nil, List.drop_succ_cons, List.drop_zero, List.append_nil, Nat.zero_add, Nat.reduceAdd, List.drop_nil, List.cons_append] at o9
    have G9 : Grow hp h9 := p9.grow hp I.grow.wf g5 hb8
    have hla := ha.len
    clear o8 p9 g5 hixn hgn hvl hv5
    repeat with_reducible first | refine nxt_normal ?_ | refine st_nil ?_ | refine cd_seq ?_ | refine cd_ops ?_
    refine st_T (by exact tE) (by exact t1) ?_
    repeat with_reducible first | refine nxt_normal ?_ | refine st_nil ?_ | refine cd_seq ?_ | refine cd_ops ?_ | (apply st_q; exact q1)
    refine cd_post (fun a' hq => Grow hp hq ∧ hq.objs.get b8 = some (v9, .cells false 34 [.int .i64 h.nodes[j].kind, .str h.nodes[j].name, av, lv, .bool h.nodes[j].isOpen]) ∧ (∃ rv, Built hq hp.next 3 1 rv h.nodes[j].args.length ((addTo g.nodes.length h.nodes[j].args h.nodes[j].args.length).map (AVal.int .i64)) ∧ ev a' (.tmp 9) = some rv) ∧ a'.defers = [] ∧ ev a' (.tmp 2) = some (.ptr (some (b2, 0))) ∧ ev a' (.tmp 3) = some (.ptr (some (b3, 0))) ∧ ev a' (.tmp 4) = some (.ptr (some (b4, 0))) ∧ ev a' (.tmp 5) = some (.int .i64 (Int.ofNat g.nodes.length)) ∧ ev a' (.tmp 6) = some (.ptr (some (b6, 0))) ∧ ev a' (.tmp 26) = some mv ∧ ev a' (.tmp 8) = some (.ptr (some (b8, 0))) ∧ ev a' (.tmp 28) = some (.int .i64 (j : Nat)) ∧ ev a' (.tmp 27) = some (.int .i64 (h.nodes.length : Nat))) ?_ ?_
    · refine cd_count (N := h.nodes[j].args.length) (by omega) (fun i a' hq => Grow hp hq ∧ hq.objs.get b8 = some (v9, .cells false 34 [.int .i64 h.nodes[j].kind, .str h.nodes[j].name, av, lv, .bool h.nodes[j].isOpen]) ∧ (∃ rv, Built hq hp.next 3 1 rv i ((addTo g.nodes.length h.nodes[j].args i).map (AVal.int .i64)) ∧ ev a' (.tmp 9) = some rv) ∧ a'.defers = [] ∧ ev a' (.tmp 2) = some (.ptr (some (b2, 0))) ∧ ev a' (.tmp 3) = some (.ptr (some (b3, 0))) ∧ ev a' (.tmp 4) = some (.ptr (some (b4, 0))) ∧ ev a' (.tmp 5) = some (.int .i64 (Int.ofNat g.nodes.length)) ∧ ev a' (.tmp 6) = some (.ptr (some (b6, 0))) ∧ ev a' (.tmp 26) = some mv ∧ ev a' (.tmp 8) = some (.ptr (some (b8, 0))) ∧ ev a' (.tmp 28) = some (.int .i64 (j : Nat)) ∧ ev a' (.tmp 27) = some (.int .i64 (h.nodes.length : Nat)) ∧ ev a' (.tmp 34) = some av)
        (by rintro i a' hq t w (rfl | rfl | rfl) ⟨m1, m2, ⟨rv, m3, m3'⟩, m4, m5, m6, m7, m8, m9, m10, m11, m12, m13, m14⟩ <;> exact ⟨m1, m2, ⟨rv, m3, by exact e1⟩, by rw [defers_put]; exact m4, by exact e1, by exact e1, by exact e1, by exact e1, by exact e1, by exact e1, by exact e1, by exact e1, by exact e1, by exact e1⟩) (by decide) ?_ ?_
        ⟨G9, o9, ⟨.slice0, .inr (.inl ⟨rfl, rfl, rfl⟩), by exact e1⟩, by exact n1, by exact e1, by exact e1, by exact e1, by exact e1, by exact e1, by exact e1, by exact e1, by exact e1, by exact e1, by exact e1⟩ (by exact e1) (by exact e1)
      · clear G9 o9 hd e2' e3' e4' e5' e6' e26 hi hn hla
        rintro i a' hq hil ⟨gq, o9q, ⟨rv, B, e9'⟩, hd, e2', e3', e4', e5', e6', e26, e8', e28, e27, e34⟩ hi hn
        obtain ⟨bb, ob, verb, rb, eb, vsb, hix, hget', hvo⟩ := ha.at (List.getElem?_eq_getElem hil)
        have hget := (I.grow.trans gq).keep _ _ hget'
        have hrange := harg.out _ (List.getElem_mem hil)
        have hw2 : IntKind.i64.wrap (h.nodes[j].args[i] + Int.ofNat g.nodes.length) = h.nodes[j].args[i] + (g.nodes.length : Int) := by
          rw [wrap_small (by simp at hn64 ⊢; omega) (by simp at hn64 ⊢; omega)]; rfl
        have hroom := roomOK H (b := 8) (k := i + 1) (by decide) (by omega)
        clear hget'
        replace hrange := Hid.mk hrange
        repeat with_reducible first | refine nxt_normal ?_ | refine st_nil ?_ | refine cd_seq ?_ | refine cd_ops ?_ | refine cd_blockS ?_ | (apply st_q; exact q1)
        refine st_bslice1 (by exact e1) (cs := [.int .i64 (h.nodes[j].args[i] + (g.nodes.length : Int))]) rfl rfl rfl gq.wf ?_
        rintro bx h12 hbx g12 ox
        have kB' := B.grow g12
        refine st_append1 (by exact e1) (by exact e1) kB' ox rfl rfl hroom g12.wf (by have := gq.next; have := g12.next; omega) ?_
        rintro vo' h13 B13 f13 w13 n13 gr13 kp13
        have o9' := kp13 _ _ (g12.keep _ _ o9q) (built_ne kB' (g12.keep _ _ o9q) fun vs hh => by cases hh)
        have G13 := gr13 hp I.grow.wf (gq.trans g12) (Nat.le_refl _)
        have B13' : Built h13 hp.next 3 1 vo' (i + 1) ((addTo g.nodes.length h.nodes[j].args (i + 1)).map (AVal.int .i64)) := by
          rw [← addTo_put hil, List.map_append]; exact B13
        clear B B13 kB' kp13 gr13 o9q ox hix hget hvo
        repeat with_reducible first | refine nxt_normal ?_ | refine blk_normal ?_ | refine st_nil ?_ | (apply st_q; exact q1)
        exact ⟨⟨G13, o9', ⟨vo', B13', by exact e1⟩, by exact n1, by exact e1, by exact e1, by exact e1, by exact e1, by exact e1, by exact e1, by exact e1, by exact e1, by exact e1, by exact e1⟩, by exact e1, by exact e1⟩
      · rintro a' hq ⟨m1, m2, ⟨rv, m3, m3'⟩, m4, m5, m6, m7, m8, m9, m10, m11, m12, m13, _⟩
        exact ⟨m1, m2, ⟨rv, m3, m3'⟩, m4, m5, m6, m7, m8, m9, m10, m11, m12, m13⟩
    · clear G9 o9 hd e2' e3' e4' e5' e6' e26 hi hn hla
      rintro a' hq ⟨gq, o9q, ⟨rv, B, e9'⟩, hd, e2', e3', e4', e5', e6', e26, e8', e28, e27⟩
      have hro := one_of_len B.len
      repeat with_reducible first | refine nxt_normal ?_ | refine cd_seq ?_ | refine cd_ops ?_ | (apply st_q; exact q1)
      refine st_store (by exact e1) (by exact e1) (cells_of_len B.len) rfl gq.wf o9q (by simp) (by rw [List.all_cons, hro]; rfl) ?_
      rintro v11 h11 p11 o11
      simp only [List.take_succ_cons, List.take_zero, List.nil_append, List.length_cons, List.length_nil, List.drop_succ_cons, List.drop_zero, List.append_nil, Nat.zero_add, Nat.reduceAdd, List.drop_nil, List.cons_append] at o11
      have G11 : Grow hp h11 := p11.grow hp I.grow.wf gq hb8
      have B11 : Built h11 hp.next 3 1 rv h.nodes[j].args.length ((addTo g.nodes.length h.nodes[j].args h.nodes[j].args.length).map (AVal.int .i64)) := built_but B p11 o9q (fun vs hh => by cases hh)
      have I11 := I.other G11
      obtain ⟨ver6, vo, cs, k6, kB, kl, kn⟩ := I11.row
      have n3p := I.grow.next
      have n11 := I11.grow.next
      have hnl : (g.nodes ++ (h.nodes.take j).map (shN g.nodes.length)).length = g.nodes.length + j := by simp; omega
      have hroom := roomOK H (b := 80) (k := (g.nodes ++ (h.nodes.take j).map (shN g.nodes.length)).length + 1) (by decide) (by omega)
      have hpn : PairAt h3 h11 [.int .i64 h.nodes[j].kind, .str h.nodes[j].name, rv, lv, .bool h.nodes[j].isOpen] (shN g.nodes.length h.nodes[j]) := by
        refine .inr ⟨rv, lv, rfl, ?_, hl⟩
        have e1x : (shN g.nodes.length h.nodes[j]).args = addTo g.nodes.length h.nodes[j].args h.nodes[j].args.length := by rw [addTo, List.take_length]; rfl
        have e2x : (shN g.nodes.length h.nodes[j]).args.length = h.nodes[j].args.length := by simp [shN]
        rw [e2x, e1x]
        exact built_base B11 n3p
      have hput : g.nodes ++ (h.nodes.take (j + 1)).map (shN g.nodes.length) = (g.nodes ++ (h.nodes.take j).map (shN g.nodes.length)) ++ [shN g.nodes.length h.nodes[j]] := by
        rw [List.take_succ_eq_append_getElem hj, List.map_append, List.append_assoc]; rfl
      have hones : ([.int .i64 h.nodes[j].kind, .str h.nodes[j].name, rv, lv, .bool h.nodes[j].isOpen] : List AVal).all one = true := ones_node (n := h.nodes[j]) B.len hl.len
      replace hones := Hid.mk hones
      replace hput := Hid.mk hput
      replace hroom := Hid.mk hroom
      clear B B11 p11 o9q hro G11 I gq hnl
      repeat with_reducible first | refine nxt_normal ?_ | refine st_nil ?_ | refine cd_ops ?_ | (apply st_q; exact q1)
      refine st_bslice1 (by exact e1) (cs := [.int .i64 h.nodes[j].kind, .str h.nodes[j].name, rv, lv, .bool h.nodes[j].isOpen]) rfl rfl rfl I11.grow.wf ?_
      rintro bx h12 hbx g12 ox
      refine st_append1 (by exact e1) (by exact e1) (kB.grow g12) ox rfl hones.out hroom.out g12.wf (by have := g12.next; omega) ?_
      rintro vo' h13 B13 f13 w13 n13 gr13 kp13
      have o6' := kp13 _ _ (g12.keep _ _ k6) (built_ne (kB.grow g12) (g12.keep _ _ k6) fun vs hh => by cases hh)
      repeat with_reducible (apply st_q; exact q1)
      refine st_store (by exact e1) (by exact e1) (cells_of_len B13.len) rfl w13 o6' (by simp) (by simp only [List.all_cons, List.all_nil, one_of_len B13.len, Bool.and_true]) ?_
      rintro v14 h14 p14 o14
      simp only [List.take_succ_cons, List.take_zero, List.nil_append, List.length_cons, List.length_nil, List.drop_succ_cons, List.drop_zero, List.append_nil, Nat.zero_add, Nat.reduceAdd, List.drop_nil, List.cons_append] at o14
      have I14 := I11.put w3 kB kl kn g12 hpn B13 gr13 n13 kp13 p14 o6' o14
      rw [← hput.out] at I14
      clear I11 kB kl kn hpn B13 gr13 kp13 p14 o6' o14 ox k6
      repeat with_reducible first | refine nxt_normal ?_ | refine blk_normal ?_ | refine st_nil ?_
      exact ⟨⟨I14, by exact n1, by exact e1, by exact e1, by exact e1, by exact e1, by exact e1, by exact e1⟩, by exact e1, by exact e1⟩
  · clear I0 o37
    rintro a hp ⟨I, hd, e2', e3', e4', e5', e6', e26⟩
    rw [List.take_length] at I
    obtain ⟨ver6, vo, cs, k6, kB, kl, kn⟩ := I.row
    have o2h := I.grow.keep _ _ o2'
    have o3h := I.grow.keep _ _ o3'
    have n3p := I.grow.next
    have hroot := rh.out
    have hw3 : IntKind.i64.wrap (Int.ofNat g.nodes.length + h.root) = (g.nodes.length : Int) + h.root := by
      rw [wrap_small (by simp; omega) (by simp; omega)]; rfl
    have hnl : (g.nodes ++ h.nodes.map (shN g.nodes.length)).length = g.nodes.length + h.nodes.length := by simp
    have hroom := Hid.mk (roomOK H (b := 80) (k := (g.nodes ++ h.nodes.map (shN g.nodes.length)).length + 1) (by decide) (by omega))
    clear hroot hnl
    repeat with_reducible first | refine nxt_normal ?_ | refine cd_seq ?_ | refine cd_ops ?_ | (apply st_q; exact q1)
    refine st_bslice2 (u := .int .i64 g.root) (v := .int .i64 ((g.nodes.length : Int) + h.root)) (by exact e1) (by exact e1) rfl rfl I.grow.wf ?_
    rintro ba h8 hba g8 oa
    have I8 := I.other g8
    have hpn : PairAt h3 h8 [.int .i64 2, .str [42], .slice (some (ba, 0)) 2, .slice none 0, .bool false] (topN g.root (g.nodes.length + h.root)) := by
      exact .inr ⟨_, _, rfl, .inr (.inr ⟨ba, _, _, by omega, rfl, oa, by simp [topN], rfl⟩), rfl, fun i x hx => by simp [topN] at hx⟩
    refine st_q (v := .agg [.int .i64 2, .str [42], .slice (some (ba, 0)) 2, .slice none 0, .bool false]) (b := none) (by rw [qA_build]; simp only [fillA, ev_put, ev_val, if_true, cellsA]; rfl) ?_
    refine st_bslice1 (by exact e1) (cs := [.int .i64 2, .str [42], .slice (some (ba, 0)) 2, .slice none 0, .bool false]) rfl rfl rfl I8.grow.wf ?_
    rintro bx h12 hbx g12 ox
    have kB8 := kB.grow g8
    have k68 := g8.keep _ _ k6
    refine st_append1 (by exact e1) (by exact e1) (kB8.grow g12) ox rfl rfl hroom.out g12.wf (by have := g8.next; have := g12.next; omega) ?_
    rintro vo' h13 B13 f13 w13 n13 gr13 kp13
    have o6' := kp13 _ _ (g12.keep _ _ k68) (built_ne (kB8.grow g12) (g12.keep _ _ k68) fun vs hh => by cases hh)
    clear o2h o3h
    repeat with_reducible (apply st_q; exact q1)
    refine st_store (by exact e1) (by exact e1) (cells_of_len B13.len) rfl w13 o6' (by simp) (by simp only [List.all_cons, List.all_nil, one_of_len B13.len, Bool.and_true]) ?_
    rintro v14 h14 p14 o14
    simp only [List.take_succ_cons, List.take_zero, List.nil_append, List.length_cons, List.length_nil, List.drop_succ_cons, List.drop_zero, List.append_nil, Nat.zero_add, Nat.reduceAdd, List.drop_nil, List.cons_append] at o14
    have I14 := I8.put w3 kB8 kl (fun i c n hc hn => (kn i c n hc hn).stay fun b p _ hb _ => g8.keep _ _ hb) g12 hpn B13 gr13 n13 kp13 p14 o6' o14
    clear I8 I kB kB8 kl kn hpn B13 gr13 kp13 p14 o6' o14 ox k6 k68 oa
    obtain ⟨ver9, vz, k9, lz, hfin⟩ := I14.graph
    have o4h := I14.o4
    have G14 := I14.grow
    have low := I14.low
    have hvo := one_of_len lz
    have hp9 : partA (some 2) [vz, .int .i64 ((g.nodes.length + h.nodes.length : Nat) : Int)] 0 = some (.agg [vz, .int .i64 ((g.nodes.length + h.nodes.length : Nat) : Int)]) := rfl
    replace hfin := Hid.mk hfin
    clear I14 lz
    repeat with_reducible first | refine nxt_normal ?_ | refine st_nil ?_ | refine cd_seq ?_ | refine cd_ops ?_ | (apply st_q; exact q1)
    refine st_store (by exact e1) (by exact e1) (cs := [vz, .int .i64 ((g.nodes.length + h.nodes.length : Nat) : Int)]) rfl rfl G14.wf o4h (by simp) (by rw [List.all_cons, List.all_cons, hvo]; rfl) ?_
    rintro v15 h15 p15 o15
    simp only [List.take_zero, List.nil_append, List.length_cons, List.length_nil, List.drop_succ_cons, List.drop_zero, List.append_nil, Nat.zero_add, Nat.reduceAdd, List.drop_nil, List.cons_append] at o15
    clear k9 o4h
    repeat' with_reducible first | refine nxt_normal ?_ | refine st_nil ?_ | refine cd_ret ?_ | (apply fin_ret; exact n1; exact r1)
    have g3f := p15.grow h3 w3 G14 low.1
    refine ⟨⟨vz, ?_, hfin.out _ g3f fun b p hb hne => p15.keep b hne _ hb⟩, g03.trans g3f⟩
    rw [Int.natCast_add]; rfl
end
end Go.Ab.S
end
section
/-
  What is closed is an instance of what it was: the law's walk.
-/
namespace Go.Ab.S
open Go.Ab
set_option maxHeartbeats 1500000
section
variable {fns : FuncId → Option AFunc} {summ : FuncId → List AVal → AHeap → Option (D (AVal × AHeap))}
variable (H : Has fns summ) (HR : HasRead summ)
include H HR
theorem InstCloses_ok (g : Graph) (hg : Sane g) (v : AVal) (h0 : AHeap) (hw : WF h0) (hv : GraphAt h0 v g) : Cl fns summ 4 [v] h0 fun r h' => r = .bool true ∧ Grow h0 h' := by
  obtain ⟨nv, rfl, hN⟩ := hv
  refine H.go (fn := F_InstCloses) rfl (by decide) rfl rfl ?_
  unfold F_InstCloses
  dsimp only
  refine cd_seq (cd_ops ?_)
  refine st_box (by exact e1) (by exact cc) hw ?_
  rintro b1 h1 hb1 G o1
  clear hb1
  have p1 : partA (some 2) [nv, .int .i64 g.root] 0 = some (.agg [nv, .int .i64 g.root]) := rfl
  have ht2 : ∀ x y : AVal, List.take 2 [x, y] = [x, y] := fun _ _ => rfl
  repeat with_reducible first | refine nxt_normal ?_ | refine st_nil ?_ | refine cd_seq ?_ | refine cd_ops ?_ | (apply st_q; exact q1)
  refine st_call (by exact s1) ((alive11_ok H HR h1 G.wf).mono ?_)
  rintro _ h2 ⟨rfl, g2⟩
  replace o1 := g2.keep _ _ o1
  replace G := G.trans g2
  clear g2
  repeat with_reducible first | refine nxt_normal ?_ | refine st_nil ?_ | refine cd_seq ?_ | refine cd_ops ?_ | refine cd_skip ?_ | (apply st_q; exact q1) | (apply cd_condF; exact e1)
  refine st_call (by exact s1) ((Great_ok H g hg.great _ h2 G.wf ⟨nv, rfl, hN.mono G⟩).mono ?_)
  rintro _ h3 ⟨rfl, g3⟩
  replace o1 := g3.keep _ _ o1
  replace G := G.trans g3
  clear g3
  cases c1 : decide ((greatF g : Int) > 300)
  rotate_left
  · repeat' with_reducible first | refine nxt_normal ?_ | refine nxt_ret ?_ | refine st_nil ?_ | refine cd_seq ?_ | refine cd_ops ?_ | refine cd_ret ?_ | (apply st_q; exact q1) | (apply st_qF; exact e1) | (apply st_eF; exact e1) | (apply cd_condT; exact e1) | (apply fin_ret; exact n1; exact r1)
    exact ⟨rfl, G⟩
  have tg : Hid (GTi g) := ⟨hg.tiny (by simp at c1; omega)⟩
  repeat with_reducible first | (apply st_q; exact q1) | (apply st_qT; exact e1; exact q1)
  refine st_callT (by exact e1) (by exact s1) ((Check_ok H g hg.sm _ h3 G.wf ⟨nv, rfl, hN.mono G⟩).mono ?_)
  rintro _ h4 ⟨rfl, g4⟩
  replace o1 := g4.keep _ _ o1
  replace G := G.trans g4
  clear g4
  cases c2 : (checkF g != 0)
  rotate_left
  · repeat' with_reducible first | refine nxt_normal ?_ | refine nxt_ret ?_ | refine st_nil ?_ | refine cd_seq ?_ | refine cd_ops ?_ | refine cd_ret ?_ | (apply st_q; exact q1) | (apply st_qT; exact e1; exact q1) | (apply cd_condT; exact e1) | (apply fin_ret; exact n1; exact r1)
    exact ⟨rfl, G⟩
  have cg : Hid (checkF g = 0) := ⟨by simpa using c2⟩
  have f0 := Hid.mk (close_tiny tg.out cg.out)
  have f1 := Hid.mk (close_closed cg.out)
  have f2 := Hid.mk (is_close tg.out f0.out cg.out)
  have f3 := Hid.mk (close_close cg.out)
  have f4 := Hid.mk (close_same cg.out)
  have f5 := Hid.mk (close_back tg.out cg.out)
  repeat with_reducible first | refine nxt_normal ?_ | refine st_nil ?_ | refine cd_seq ?_ | refine cd_ops ?_ | refine cd_skip ?_ | (apply st_q; exact q1) | (apply st_qT; exact e1; exact q1) | (apply cd_condF; exact e1)
  refine st_call (by exact s1) ((Close_ok H g tg.out _ h4 G.wf ⟨nv, rfl, hN.mono G⟩).mono ?_)
  rintro _ h5 ⟨⟨cn, rfl, hC⟩, g5⟩
  replace o1 := g5.keep _ _ o1
  replace G := G.trans g5
  clear g5
  generalize hCC : closeF g = C at *
  clear hCC
  have hone : one cn = true := one_of_len hC.len
  skip
  refine st_alloc G.wf ?_
  rintro b3 h6 hb3 g6 o3
  refine st_store (by exact e1) (by exact e1) (cs := [cn, .int .i64 C.root]) rfl rfl g6.wf o3 (by simp) (by rw [List.all_cons, List.all_cons, hone]; rfl) ?_
  rintro v7 h7 p7 o7
  simp only [List.take_zero, List.nil_append, List.length_cons, List.length_nil, List.drop_succ_cons, List.drop_zero, List.append_nil, Nat.zero_add, Nat.reduceAdd, List.drop_nil, List.cons_append] at o7
  have g57 : Grow h5 h7 := p7.grow h5 G.wf g6 hb3
  replace o1 := g57.keep _ _ o1
  replace G := G.trans g57
  replace hC := hC.mono g57
  have p3 : partA (some 2) [cn, .int .i64 C.root] 0 = some (.agg [cn, .int .i64 C.root]) := rfl
  clear o3 p7 g6 g57 hb3
  replace hN := hN.mono G
  have w7 := G.wf
  repeat with_reducible first | refine nxt_normal ?_ | refine st_nil ?_ | refine cd_seq ?_ | refine cd_draw ?_ | (apply dr_ql; exact q1; exact og1)
  refine dr_e (ex_callF (by exact s1) ((Closed_ok H C f0.out _ h7 w7 ⟨cn, rfl, hC⟩).mono ?_))
  rw [f1.out]
  rintro _ h8 ⟨rfl, k8⟩
  have o18 := k8.keep _ _ o1
  have o38 := k8.keep _ _ o7
  refine ⟨by simp [heldOk, Nat.testBit, o18, o38], ?_⟩
  clear o1 o7
  repeat with_reducible first | (apply dr_gT; exact e1) | (apply dr_q; exact q1) | (apply dr_ql; exact q1; exact og1)
  refine dr_e (ex_callF (by exact s1) ((Is_ok H g C tg.out f0.out _ _ h8 k8.wf ⟨nv, rfl, hN.mono k8⟩ ⟨cn, rfl, hC.mono k8⟩).mono ?_))
  rw [f2.out]
  rintro _ h9 ⟨rfl, k9⟩
  have o19 := k9.keep _ _ o18
  have o39 := k9.keep _ _ o38
  refine ⟨by simp [heldOk, Nat.testBit, o19, o39], ?_⟩
  have K9 := k8.trans k9
  clear o18 o38 k8 k9
  repeat with_reducible first | (apply dr_gT; exact e1) | (apply dr_q; exact q1) | (apply dr_ql; exact q1; exact og1)
  refine dr_e (ex_callF (by exact s1) ((Close_ok H C f0.out _ h9 K9.wf ⟨cn, rfl, hC.mono K9⟩).mono ?_))
  rw [f3.out]
  rintro _ h10 ⟨⟨dn, rfl, hD⟩, k10⟩
  have o110 := k10.keep _ _ o19
  have o310 := k10.keep _ _ o39
  refine ⟨by simp [heldOk, Nat.testBit, o110, o310], ?_⟩
  have K10 := K9.trans k10
  clear o19 o39 k10
  repeat with_reducible (apply dr_gT; exact e1)
  refine dr_e (ex_callF (by exact s1) ((Equal_ok H C f0.out.toGraphSm _ _ h10 K10.wf ⟨dn, rfl, hD⟩ ⟨cn, rfl, hC.mono K10⟩).mono ?_))
  rintro _ h11 ⟨rfl, k11⟩
  have o111 := k11.keep _ _ o110
  have o311 := k11.keep _ _ o310
  refine ⟨by simp [heldOk, Nat.testBit, o111, o311], ?_⟩
  have K11 := K10.trans k11
  clear o110 o310 k11 K9 K10 hD
  repeat with_reducible first | (apply dr_gT; exact e1) | (apply dr_q; exact q1) | (apply dr_ql; exact q1; exact og1)
  refine dr_e (ex_callF (by exact s1) ((Closed_ok H g tg.out _ h11 K11.wf ⟨nv, rfl, hN.mono K11⟩).mono ?_))
  rintro _ h12 ⟨rfl, k12⟩
  have o112 := k12.keep _ _ o111
  have o312 := k12.keep _ _ o311
  refine ⟨by simp [heldOk, Nat.testBit, o112, o312], ?_⟩
  have K12 := K11.trans k12
  clear o111 o311 k12 K11
  repeat with_reducible (apply dr_gT; exact e1)
  refine dr_e (ex_callF (by exact s1) ((Same_ok H g C tg.out f0.out _ _ h12 K12.wf ⟨nv, rfl, hN.mono K12⟩ ⟨cn, rfl, hC.mono K12⟩).mono ?_))
  rw [← f4.out]
  rintro _ h13 ⟨rfl, k13⟩
  have o113 := k13.keep _ _ o112
  have o313 := k13.keep _ _ o312
  refine ⟨by simp [heldOk, Nat.testBit, o113, o313], ?_⟩
  have K13 := K12.trans k13
  clear o112 o312 k13 K12
  have hbb : ∀ b : Bool, (b == b) = true := fun b => by cases b <;> rfl
  generalize hcl : closedF g = bb at *
  replace hcl := Hid.mk hcl
  repeat with_reducible first | (apply dr_gT; exact e1) | (apply dr_q; exact q1) | (apply dr_ql; exact q1; exact og1)
  refine dr_e (ex_callF (by exact s1) ((Is_ok H C g f0.out tg.out _ _ h13 K13.wf ⟨cn, rfl, hC.mono K13⟩ ⟨nv, rfl, hN.mono K13⟩).mono ?_))
  rw [f5.out]
  rintro _ h14 ⟨rfl, k14⟩
  have o114 := k14.keep _ _ o113
  have o314 := k14.keep _ _ o313
  refine ⟨by simp [heldOk, Nat.testBit, o114, o314], ?_⟩
  have K14 := K13.trans k14
  clear o113 o313 k14 K13
  repeat with_reducible (apply dr_gT; exact e1)
  refine dr_e (ex_callF (by exact s1) ((Closed_ok H g tg.out _ h14 K14.wf ⟨nv, rfl, hN.mono K14⟩).mono ?_))
  rw [hcl.out]
  rintro _ h15 ⟨rfl, k15⟩
  have o115 := k15.keep _ _ o114
  have o315 := k15.keep _ _ o314
  refine ⟨by simp [heldOk, Nat.testBit, o115, o315], ?_⟩
  repeat' with_reducible first | refine nxt_normal ?_ | refine cd_ret ?_ | refine dr_nil ?_ | (apply dr_gT; exact e1) | (apply dr_q; exact q1) | (apply fin_ret; exact n1; exact r1)
  exact ⟨rfl, G.trans (K14.trans k15)⟩
end
end Go.Ab.S
end
