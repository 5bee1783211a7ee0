import Derived.Test.YtapnoohglfhgeaaGreatDoorP12
import Derived.Test.YtapnoohglfhgeaaGreatDoorP18
import Derived.Test.YtapnoohglfhgeaaGreatDoorP19
import Derived.Test.YtapnoohglfhgeaaGreatDoorP21
/-
  Part 22 of the proof.
-/
set_option linter.all false
section
/-
  The least graph is the graph itself, nodes that may be one made one; nothing more of it may be.
-/
namespace Go.Ab.S
open Go.Ab
set_option maxHeartbeats 1000000
/-- Nothing of it may be one that isn't. -/
def Least (L : Graph) : Prop := ∀ E : Int → Int → Prop, (∀ x y, E x y → (0 ≤ x ∧ x < L.nodes.length) ∧ (0 ≤ y ∧ y < L.nodes.length) ∧ (x = y ∨ (cfreeF (nodeD L x) = false ∧ cfreeF (nodeD L y) = false ∧ (nodeD L x).kind = (nodeD L y).kind ∧ (nodeD L x).name = (nodeD L y).name ∧ (nodeD L x).labels = (nodeD L y).labels ∧ (nodeD L x).args.length = (nodeD L y).args.length ∧
  ∀ (k : Nat) (a b : Int), (nodeD L x).args[k]? = some a → (nodeD L y).args[k]? = some b → E a b))) → ∀ x y, E x y → x = y
theorem nodeD_nat (g : Graph) (i : Nat) : nodeD g (i : Int) = g.nodes.getD i dNode := rfl
/-- The graph of classes. -/
def clsG (g : Graph) : Graph := ⟨g.nodes.map (mapN (classesF g)), clAt (classesF g) g.root⟩
theorem cls_in {g : Graph} (hc : checkF g = 0) {a : Int} (ha : 0 ≤ a ∧ a < g.nodes.length) : 0 ≤ clAt (classesF g) a ∧ clAt (classesF g) a < g.nodes.length ∧ clAt (classesF g) a ≤ a ∧ clAt (classesF g) (clAt (classesF g) a) = clAt (classesF g) a := by
  obtain ⟨k, rfl⟩ : ∃ k : Nat, a = (k : Int) := ⟨a.toNat, by omega⟩
  obtain ⟨j, h1, h2, h3⟩ := (classes_ok hc).2.le k (by omega)
  rw [h1]
  exact ⟨by omega, by omega, by omega, h3⟩
theorem cls_node {g : Graph} {a : Int} (ha : 0 ≤ a ∧ a < g.nodes.length) : nodeD (clsG g) a = mapN (classesF g) (nodeD g a) := by
  have hk : a.toNat < g.nodes.length := by omega
  simp only [nodeD, clsG, List.getD, List.getElem?_map, List.getElem?_eq_getElem hk]
  rfl
theorem cls_check {g : Graph} (hc : checkF g = 0) : checkF (clsG g) = 0 := by
  obtain ⟨h1, h2, h3, h4⟩ := check_root hc
  have hr := cls_in hc ⟨h1, h2⟩
  have hl : (clsG g).nodes.length = g.nodes.length := by simp [clsG]
  refine checkF_ok hr.1 (by rw [hl]; exact hr.2.1) (by rw [hl]; exact h3) fun n hn => ?_
  obtain ⟨m, hm, rfl⟩ := List.mem_map.1 hn
  rw [hl]
  refine may_map (h4 m hm) (clAt (classesF g)) fun a ha => ?_
  have := cls_in hc (may_args (h4 m hm) a ha)
  exact ⟨this.1, this.2.1⟩
theorem cls_same {g : Graph} (hc : checkF g = 0) {a b : Int} (ha : 0 ≤ a ∧ a < g.nodes.length) (hb : 0 ≤ b ∧ b < g.nodes.length) (he : clAt (classesF g) a = clAt (classesF g) b) :
    ((cfreeF (nodeD g a) = true ∨ cfreeF (nodeD g b) = true) → a = b) ∧ (nodeD g a).kind = (nodeD g b).kind ∧ (nodeD g a).name = (nodeD g b).name ∧ (nodeD g a).labels = (nodeD g b).labels ∧ (nodeD g a).args.map (clAt (classesF g)) = (nodeD g b).args.map (clAt (classesF g)) ∧ cfreeF (nodeD g a) = cfreeF (nodeD g b) := by
  obtain ⟨i, rfl⟩ : ∃ k : Nat, a = (k : Int) := ⟨a.toNat, by omega⟩
  obtain ⟨j, rfl⟩ : ∃ k : Nat, b = (k : Int) := ⟨b.toNat, by omega⟩
  obtain ⟨h1, h2⟩ := classes_alike hc (i := i) (j := j) (by omega) (by omega) he
  exact ⟨fun h => by rw [h1 h], h2⟩
theorem open_of {n : Node} {N : Int} (h : mayF n N = true) : cfreeF n = false → n.isOpen = false := by
  intro hf
  simp only [cfreeF, Bool.or_eq_false_iff] at hf
  exact hf.2
/-- All of a class is alike, its arguments' classes too. -/
theorem cls_mapN {g : Graph} (hc : checkF g = 0) {a b : Int} (ha : 0 ≤ a ∧ a < g.nodes.length) (hb : 0 ≤ b ∧ b < g.nodes.length) (he : clAt (classesF g) a = clAt (classesF g) b) : mapN (classesF g) (nodeD g a) = mapN (classesF g) (nodeD g b) := by
  obtain ⟨h0, h1, h2, h3, h4, h5⟩ := cls_same hc ha hb he
  by_cases hf : cfreeF (nodeD g a) = true
  · rw [h0 (.inl hf)]
  · have hfa : cfreeF (nodeD g a) = false := by simpa using hf
    have hfb : cfreeF (nodeD g b) = false := by rw [← h5]; exact hfa
    have oa := open_of ((check_ns hc).2 _ (node_in ha)) hfa
    have ob := open_of ((check_ns hc).2 _ (node_in hb)) hfb
    generalize nodeD g a = n at *
    generalize nodeD g b = m at *
    obtain ⟨k, nm, ar, lb, op⟩ := n
    obtain ⟨k', nm', ar', lb', op'⟩ := m
    simp only at *
    subst h1; subst h2; subst h3; subst oa; subst ob
    simp only [mapN, h4]
theorem cls_rch {g : Graph} (hc : checkF g = 0) {a : Int} (h : Rch g a) : Rch (clsG g) (clAt (classesF g) a) := by
  induction h with
  | root => exact .root
  | @step a b ha hb ih =>
    have hra := ha.ok hc
    have hca := cls_in hc hra
    refine .step ih ?_
    rw [cls_node ⟨hca.1, hca.2.1⟩, cls_mapN hc ⟨hca.1, hca.2.1⟩ hra hca.2.2.2]
    exact List.mem_map.2 ⟨b, hb, rfl⟩
theorem cls_back {g : Graph} (hc : checkF g = 0) {x : Int} (h : Rch (clsG g) x) : ∃ a, Rch g a ∧ clAt (classesF g) a = x := by
  induction h with
  | root => exact ⟨_, .root, rfl⟩
  | @step x y hx hy ih =>
    obtain ⟨a, ha, rfl⟩ := ih
    have hra := ha.ok hc
    have hca := cls_in hc hra
    rw [cls_node ⟨hca.1, hca.2.1⟩, cls_mapN hc ⟨hca.1, hca.2.1⟩ hra hca.2.2.2] at hy
    obtain ⟨b, hb, rfl⟩ := List.mem_map.1 hy
    exact ⟨b, ha.step hb, rfl⟩
def qL (g : Graph) (a : Int) : Int := (toIdx (reachF (clsG g)) (clAt (classesF g) a) : Nat)
theorem leastF_eq {g : Graph} (hc : checkF g = 0) : leastF g = trimF (clsG g) := by rw [leastF, if_pos hc]; rfl
/-- **The least graph.** -/
theorem least_quo {g : Graph} (hc : checkF g = 0) : Quo g (leastF g) (qL g) := by
  have T := trim_quo (cls_check hc)
  rw [leastF_eq hc]
  refine ⟨T.root, fun i hi => ?_, fun x h0 h1 => ?_, fun i hi => T.range _ (cls_rch hc hi), fun i j hi hj hf he => ?_, T.check⟩
  · have hri := hi.ok hc
    have hci := cls_in hc hri
    have := T.node _ (cls_rch hc hi)
    rw [cls_node ⟨hci.1, hci.2.1⟩, cls_mapN hc ⟨hci.1, hci.2.1⟩ hri hci.2.2.2] at this
    refine Eq.trans this ?_
    simp only [mapN, List.map_map]
    rfl
  · obtain ⟨y, hy, rfl⟩ := T.surj x h0 h1
    obtain ⟨a, ha, rfl⟩ := cls_back hc hy
    exact ⟨a, ha, rfl⟩
  · have hri := hi.ok hc
    have hrj := hj.ok hc
    have h1 := (idx_lt ((reach_iff (cls_check hc) _).2 (cls_rch hc hi))).2
    have h2 := (idx_lt ((reach_iff (cls_check hc) _).2 (cls_rch hc hj))).2
    have he : ((toIdx (reachF (clsG g)) (clAt (classesF g) i) : Nat) : Int) = (toIdx (reachF (clsG g)) (clAt (classesF g) j) : Nat) := he
    have he' : toIdx (reachF (clsG g)) (clAt (classesF g) i) = toIdx (reachF (clsG g)) (clAt (classesF g) j) := by omega
    rw [he', h2] at h1
    exact (cls_same hc hri hrj (Option.some.inj h1).symm).1 (.inl hf)
theorem qL_inj {g : Graph} (hc : checkF g = 0) {i j : Int} (hi : Rch g i) (hj : Rch g j) (he : qL g i = qL g j) : clAt (classesF g) i = clAt (classesF g) j := by
  have h1 := (idx_lt ((reach_iff (cls_check hc) _).2 (cls_rch hc hi))).2
  have h2 := (idx_lt ((reach_iff (cls_check hc) _).2 (cls_rch hc hj))).2
  have he : ((toIdx (reachF (clsG g)) (clAt (classesF g) i) : Nat) : Int) = (toIdx (reachF (clsG g)) (clAt (classesF g) j) : Nat) := he
  have he' : toIdx (reachF (clsG g)) (clAt (classesF g) i) = toIdx (reachF (clsG g)) (clAt (classesF g) j) := by omega
  rw [he', h2] at h1
  exact (Option.some.inj h1).symm
/-- **Nothing of the least graph may be one that isn't.** -/
theorem least_least {g : Graph} (hc : checkF g = 0) : Least (leastF g) := by
  have Q := least_quo hc
  intro E hE x y hxy
  obtain ⟨⟨x0, x1⟩, ⟨y0, y1⟩, _⟩ := hE x y hxy
  obtain ⟨i, hi, rfl⟩ := Q.surj x x0 x1
  obtain ⟨j, hj, rfl⟩ := Q.surj y y0 y1
  have key : clAt (classesF g) ((i.toNat : Nat) : Int) = clAt (classesF g) ((j.toNat : Nat) : Int) := by
    refine classes_most (E := fun a b => Rch g (a : Int) ∧ Rch g (b : Int) ∧ (qL g (a : Int) = qL g (b : Int) ∨ E (qL g (a : Int)) (qL g (b : Int)))) ?_ ?_
    · rintro a b ⟨ha, hb, hab⟩
      have hra := ha.ok hc
      have hrb := hb.ok hc
      refine ⟨by omega, by omega, ?_⟩
      have h := show _ ∨ _ from (by
        rcases hab with h | h
        · exact .inl h
        · exact (hE _ _ h).2.2)
      have na := Q.node _ ha
      have nb := Q.node _ hb
      rw [← nodeD_nat, ← nodeD_nat]
      by_cases hf : cfreeF (nodeD g (a : Int)) = true
      · refine .inl ?_
        rcases h with h | ⟨h, _⟩
        · have := Q.inj _ _ ha hb hf h; omega
        · rw [na] at h
          have : cfreeF (nodeD g (a : Int)) = false := h
          rw [hf] at this; cases this
      by_cases hf' : cfreeF (nodeD g (b : Int)) = true
      · refine .inl ?_
        rcases h with h | ⟨_, h, _⟩
        · have := Q.inj _ _ hb ha hf' h.symm; omega
        · rw [nb] at h
          have : cfreeF (nodeD g (b : Int)) = false := h
          rw [hf'] at this; cases this
      refine .inr ⟨by simpa using hf, by simpa using hf', ?_⟩
      have hsame : (nodeD g (a : Int)).kind = (nodeD g (b : Int)).kind ∧ (nodeD g (a : Int)).name = (nodeD g (b : Int)).name ∧ (nodeD g (a : Int)).labels = (nodeD g (b : Int)).labels ∧ (nodeD g (a : Int)).args.length = (nodeD g (b : Int)).args.length ∧
          ∀ (k : Nat) (c d : Int), (nodeD g (a : Int)).args[k]? = some c → (nodeD g (b : Int)).args[k]? = some d → (qL g c = qL g d ∨ E (qL g c) (qL g d)) := by
        rcases h with h | ⟨_, _, h1, h2, h3, h4, h5⟩
        · rw [h] at na
          rw [na] at nb
          have e0 := congrArg Node.kind nb
          have e1' := congrArg Node.name nb
          have e2' := congrArg Node.labels nb
          have e3' := congrArg Node.args nb
          simp only at e0 e1' e2' e3'
          refine ⟨e0, e1', e2', by simpa using congrArg List.length e3', fun k c d hcc hdd => ?_⟩
          have := congrArg (fun l => l[k]?) e3'
          simp only [List.getElem?_map, hcc, hdd, Option.map_some, Option.some.injEq] at this
          exact .inl this
        · rw [na, nb] at h1 h2 h3 h4 h5
          simp only at h1 h2 h3 h4 h5
          refine ⟨h1, h2, h3, by simpa using h4, fun k c d hcc hdd => ?_⟩
          exact .inr <| h5 k _ _ (by rw [List.getElem?_map, hcc]; rfl) (by rw [List.getElem?_map, hdd]; rfl)
      obtain ⟨h1, h2, h3, h4, h5⟩ := hsame
      refine ⟨h1, h2, h3, h4, fun k c d hcc hdd => ?_⟩
      have hc1 := ha.step (List.mem_of_getElem? hcc)
      have hd1 := hb.step (List.mem_of_getElem? hdd)
      have hc2 := hc1.ok hc
      have hd2 := hd1.ok hc
      have e1' : ((c.toNat : Nat) : Int) = c := by omega
      have e2' : ((d.toNat : Nat) : Int) = d := by omega
      show Rch g ((c.toNat : Nat) : Int) ∧ Rch g ((d.toNat : Nat) : Int) ∧ (qL g ((c.toNat : Nat) : Int) = qL g ((d.toNat : Nat) : Int) ∨ E (qL g ((c.toNat : Nat) : Int)) (qL g ((d.toNat : Nat) : Int)))
      rw [e1', e2']
      exact ⟨hc1, hd1, h5 k c d hcc hdd⟩
    · have e1' : ((i.toNat : Nat) : Int) = i := by have := hi.ok hc; omega
      have e2' : ((j.toNat : Nat) : Int) = j := by have := hj.ok hc; omega
      rw [e1', e2']
      exact ⟨hi, hj, .inr hxy⟩
  have e1' : ((i.toNat : Nat) : Int) = i := by have := hi.ok hc; omega
  have e2' : ((j.toNat : Nat) : Int) = j := by have := hj.ok hc; omega
  rw [e1', e2'] at key
  show ((toIdx (reachF (clsG g)) (clAt (classesF g) i) : Nat) : Int) = (toIdx (reachF (clsG g)) (clAt (classesF g) j) : Nat)
  rw [key]
end Go.Ab.S
end
section
/-
  What is left is small if what was there is.
-/
namespace Go.Ab.S
open Go.Ab
set_option maxHeartbeats 1000000
theorem leftG_sum : ∀ (ns : List Node) (i : Nat), leftG [] ns i = (ns.map fun n => n.args.length).sum
  | [], _ => rfl
  | n :: r, i => by simp only [leftG, List.map_cons, List.sum_cons, leftG_sum r (i + 1)]; simp
theorem all_nodes (g : Graph) : (allN g.nodes.length).map (nodeD g) = g.nodes := by
  apply List.ext_getElem?
  intro i
  simp only [allN, List.map_map, List.getElem?_map]
  by_cases hi : i < g.nodes.length
  · rw [List.getElem?_range hi]; simp [nodeD, hi]
  · rw [List.getElem?_eq_none (by simpa using hi), List.getElem?_eq_none (by simpa using hi)]; rfl
theorem trim_tiny {g : Graph} (hg : GTi g) (hc : checkF g = 0) : GTi (trimF g) := by
  have hlen : (trimF g).nodes.length = (reachF g).length := by simp [trimF]
  have hl := trim_len hc
  have hsum : leftG [] (trimF g).nodes 0 ≤ leftG [] g.nodes 0 := by
    obtain ⟨h1, h2⟩ := reachF_ok g
    have := sum_sub (fun a => (nodeD g a).args.length) (reachF g) (allN g.nodes.length) h2 fun x hx => mem_allN.2 (h1 x hx)
    rw [leftG_sum, leftG_sum]
    have e : (g.nodes.map fun n => n.args.length) = (allN g.nodes.length).map fun a => (nodeD g a).args.length := by
      conv => lhs; rw [← all_nodes g]
      rw [List.map_map]; rfl
    rw [e]
    simp only [trimF, List.map_map]
    have e2 : ((fun n : Node => n.args.length) ∘ fun i => trimN (reachF g) (nodeD g i)) = fun a => (nodeD g a).args.length := by
      funext a; simp [trimN]
    rw [e2]; exact this
  have hin : ∀ n ∈ (trimF g).nodes, ∃ m ∈ g.nodes, n.args.length = m.args.length ∧ n.labels = m.labels := by
    intro n hn
    obtain ⟨i, hi, rfl⟩ := List.mem_map.1 hn
    exact ⟨_, node_in ((reachF_ok g).1 i hi), by simp [trimN], rfl⟩
  have ht := hg.tiny
  have hto := hg.total
  refine ⟨⟨⟨by rw [hlen]; have := hg.nodes; omega, fun n hn => ?_⟩, by rw [hlen]; omega, fun n hn => ?_⟩, by rw [hlen]; omega⟩
  · obtain ⟨m, hm, h1, h2⟩ := hin n hn
    have := hg.all m hm
    exact ⟨by rw [h1]; exact this.args, by rw [h2]; exact this.labels, by rw [h2]; exact this.texts⟩
  · obtain ⟨m, hm, h1, h2⟩ := hin n hn
    rw [h2]; exact hg.labs m hm
theorem least_tiny {g : Graph} (hg : GTi g) (hc : checkF g = 0) : GTi (leastF g) := by
  rw [leastF_eq hc]
  exact trim_tiny (hg.map _ _) (cls_check hc)
end Go.Ab.S
end
section
/-
  The same types: the plain law; what is laid out anew is the same.
-/
namespace Go.Ab.S
open Go Go.Ab
set_option maxHeartbeats 1000000
structure SameR (g h : Graph) (R : Int → Int → Prop) : Prop where
  root : R g.root h.root
  range : ∀ a b, R a b → (0 ≤ a ∧ a < g.nodes.length) ∧ (0 ≤ b ∧ b < h.nodes.length)
  node : ∀ a b, R a b → (nodeD g a).kind = (nodeD h b).kind ∧ (nodeD g a).name = (nodeD h b).name ∧ (nodeD g a).isOpen = (nodeD h b).isOpen ∧ (nodeD g a).labels = (nodeD h b).labels ∧ (nodeD g a).args.length = (nodeD h b).args.length ∧
    ∀ i, i < (nodeD g a).args.length → R ((nodeD g a).args.getD i 0) ((nodeD h b).args.getD i 0)
  one : ∀ a b c, R a b → R a c → cfreeF (nodeD g a) = true → b = c
  one' : ∀ a b c, R a c → R b c → cfreeF (nodeD g a) = true → a = b
theorem SameR.flip {g h : Graph} {R : Int → Int → Prop} (k : SameR g h R) : SameR h g (fun a b => R b a) := by
  have hf : ∀ a b, R a b → cfreeF (nodeD h b) = true → cfreeF (nodeD g a) = true := fun a b hab hf => by
    obtain ⟨h1, _, h3, _⟩ := k.node a b hab
    simpa only [cfreeF, h1, h3] using hf
  refine ⟨k.root, fun a b hab => (k.range b a hab).symm, fun a b hab => ?_, fun a b c h1 h2 h3 => k.one' b c a h1 h2 (hf _ _ h1 h3), fun a b c h1 h2 h3 => k.one c a b h1 h2 (hf _ _ h1 h3)⟩
  obtain ⟨h1, h2, h3, h4, h5, h6⟩ := k.node b a hab
  exact ⟨h1.symm, h2.symm, h3.symm, h4.symm, h5.symm, fun i hi => h6 i (by omega)⟩
theorem free_cfree {n : Node} {N : Int} (h : mayF n N = true) : freeF n = cfreeF n := by
  rcases may_kind h with ⟨k, _, o, _⟩ | ⟨k, _, o, _⟩ | ⟨k, _⟩
  · simp [freeF, cfreeF, k]
  · simp [freeF, cfreeF, k, o]
  · simp [freeF, cfreeF, k]
theorem zip_mem {a b : List Int} {q : Pr} : q ∈ List.zip a b ↔ ∃ i, i < a.length ∧ i < b.length ∧ q = (a.getD i 0, b.getD i 0) := by
  constructor
  · intro hq
    obtain ⟨i, hi, rfl⟩ := List.mem_iff_getElem.1 hq
    rw [List.length_zip] at hi
    refine ⟨i, by omega, by omega, ?_⟩
    rw [List.getElem_zip, List.getD, List.getD, List.getElem?_eq_getElem (by omega), List.getElem?_eq_getElem (by omega)]; rfl
  · rintro ⟨i, h1, h2, rfl⟩
    have hz : i < (List.zip a b).length := by rw [List.length_zip]; omega
    have := List.getElem_mem hz
    rw [List.getElem_zip] at this
    rw [List.getD, List.getD, List.getElem?_eq_getElem h1, List.getElem?_eq_getElem h2]
    exact this
theorem sameF_iff {g h : Graph} (cg : checkF g = 0) (ch : checkF h = 0) : sameF g h = true ↔ ∃ R, SameR g h R := by
  have rg := check_root cg
  have rh := check_root ch
  have e : sameF g h = walkG (okS g h) (nxS g h) (badS g) (2 + leftW (nxS g h) [] (pairsS g h)) [(g.root, h.root)] [] := by
    rw [sameF, cg, ch]; rfl
  have hsym : ∀ p q : Pr, badS g p q = badS g q p := fun p q => by
    unfold badS
    rw [Bool.eq_iff_iff]
    simp only [Bool.and_eq_true, Bool.or_eq_true, beq_iff_eq]
    constructor <;> rintro ⟨h1, h2, h3⟩ <;> exact ⟨h2, h1, h3.elim (fun h => .inl h.symm) (fun h => .inr h.symm)⟩
  rw [e, walk_iff _ _ _ hsym (ps := pairsS g h) _ (mem_pairsS.2 ⟨⟨rg.1, rg.2.1⟩, rh.1, rh.2.1⟩) fun p hp _ => nxS_in cg ch hp]
  have hal : ∀ x y : Node, alikeF x y = true ↔ x.kind = y.kind ∧ x.name = y.name ∧ x.isOpen = y.isOpen ∧ x.labels = y.labels ∧ x.args.length = y.args.length := fun x y => by
    simp only [alikeF, Bool.and_eq_true, beq_iff_eq, eqL_iff, eqLL_iff]
    constructor
    · rintro ⟨⟨⟨⟨h1, h2⟩, h3⟩, h4⟩, h5⟩; exact ⟨h1, h2, h3, h5, h4⟩
    · rintro ⟨h1, h2, h3, h4, h5⟩; exact ⟨⟨⟨⟨h1, h2⟩, h3⟩, h5⟩, h4⟩
  constructor
  · rintro ⟨S, h1, h2, h3⟩
    have hfr : ∀ p, S p → freeF (nodeD g p.1) = cfreeF (nodeD g p.1) := fun p hp => by
      obtain ⟨⟨a0, a1⟩, _⟩ := mem_pairsS.1 (h2 _ hp).1
      exact free_cfree ((check_ns cg).2 _ (nodeD_mem a0 a1))
    refine ⟨fun a b => S (a, b), h1, fun a b hab => mem_pairsS.1 (h2 _ hab).1, fun a b hab => ?_, fun a b c hab hac hf => ?_, fun a b c hac hbc hf => ?_⟩
    · obtain ⟨_, ho, hn⟩ := h2 _ hab
      obtain ⟨k1, k2, k3, k4, k5⟩ := (hal _ _).1 ho
      refine ⟨k1, k2, k3, k4, k5, fun i hi => hn _ ?_⟩
      have k5' : (nodeD g a).args.length = (nodeD h b).args.length := k5
      simp only [nxS, List.mem_reverse]
      exact zip_mem.2 ⟨i, hi, by omega, rfl⟩
    · apply Classical.byContradiction
      intro hbc
      have := h3 _ _ hab hac (fun hh => hbc (Prod.mk.inj hh).2)
      rw [← hfr _ hab] at hf
      simp [badS, hf] at this
    · apply Classical.byContradiction
      intro hab
      have := h3 _ _ hac hbc (fun hh => hab (Prod.mk.inj hh).1)
      rw [← hfr _ hac] at hf
      have hf2 : freeF (nodeD g b) = true := by
        have q1 := (hal _ _).1 (h2 _ hac).2.1
        have q2 := (hal _ _).1 (h2 _ hbc).2.1
        simp only at q1 q2
        simpa only [freeF, q1.1, q1.2.2.1, ← q2.1, ← q2.2.2.1] using hf
      simp [badS, hf, hf2] at this
  · rintro ⟨R, k⟩
    refine ⟨fun p => R p.1 p.2, k.root, fun p hp => ⟨mem_pairsS.2 (k.range _ _ hp), ?_, fun q hq => ?_⟩, fun p q hp hq hpq => ?_⟩
    · obtain ⟨h1, h2, h3, h4, h5, _⟩ := k.node _ _ hp
      exact (hal _ _).2 ⟨h1, h2, h3, h4, h5⟩
    · simp only [nxS, List.mem_reverse] at hq
      obtain ⟨i, h1, _, rfl⟩ := zip_mem.1 hq
      exact (k.node _ _ hp).2.2.2.2.2 i h1
    · cases hb : badS g p q with
      | false => rfl
      | true =>
        simp only [badS, Bool.and_eq_true, Bool.or_eq_true, beq_iff_eq] at hb
        obtain ⟨⟨a0, a1⟩, _⟩ := k.range _ _ hp
        have hf : cfreeF (nodeD g p.1) = true := by
          rw [← free_cfree ((check_ns cg).2 _ (nodeD_mem a0 a1))]; exact hb.1
        rcases hb.2.2 with h | h
        · have := k.one p.1 p.2 q.2 hp (by rw [h]; exact hq) hf
          exact absurd (Prod.ext h this) hpq
        · have := k.one' p.1 q.1 p.2 hp (by rw [h]; exact hq) hf
          exact absurd (Prod.ext this h) hpq
/-! ### Rows that rise -/
theorem bs_of {l : List (List Nat)} (hr : Rises l) {i : Nat} {s : List Nat} (h : l[i]? = some s) : bsAt l s = i ∧ bsIs l s = true := by
  have hi : i < l.length := (List.getElem?_eq_some_iff.1 h).1
  have h1 : bsAt l s = i := bs_split hr (by omega) (fun j x hj hx => hr j i hj x s hx h) (fun j x hj hx => by
    rcases Nat.eq_or_lt_of_le hj with rfl | hj
    · rw [h] at hx; cases hx; exact lessL_irr s
    · cases hc : lessL x s with
      | false => rfl
      | true => exact absurd (lessL_trans (hr i j hj s x h hx) hc) (by rw [lessL_irr]; simp))
  refine ⟨h1, ?_⟩
  rw [bsIs, h1, h]; exact eqL_iff.2 rfl
theorem bs_mem {l : List (List Nat)} {s : List Nat} (h : bsIs l s = true) : l[bsAt l s]? = some s := by
  unfold bsIs at h
  split at h
  · rename_i x hx; rw [hx, eqL_iff.1 h]
  · cases h
theorem rises_nodup {l : List (List Nat)} (hr : Rises l) {i j : Nat} {s : List Nat} (h1 : l[i]? = some s) (h2 : l[j]? = some s) : i = j := by
  rw [← (bs_of hr h1).1, (bs_of hr h2).1]
theorem rises_ext : ∀ {a b : List (List Nat)}, Rises a → Rises b → (∀ s, s ∈ a ↔ s ∈ b) → a = b
  | [], [], _, _, _ => rfl
  | [], y :: b, _, _, h => by have := (h y).2 (by simp); cases this
  | x :: a, [], _, _, h => by have := (h x).1 (by simp); cases this
  | x :: a, y :: b, ra, rb, h => by
    have tail : ∀ {z : List Nat} {l : List (List Nat)}, Rises (z :: l) → Rises l ∧ ∀ s ∈ l, lessL z s = true := fun {z l} hr => by
      refine ⟨fun i j hij u v hu hv => hr (i + 1) (j + 1) (by omega) u v (by simpa using hu) (by simpa using hv), fun s hs => ?_⟩
      obtain ⟨i, hi, rfl⟩ := List.mem_iff_getElem.1 hs
      exact hr 0 (i + 1) (by omega) z _ rfl (by simp)
    have hxy : x = y := by
      rcases lessL_tri x y with hl | hl | hl
      · have := (h x).1 (by simp)
        rcases List.mem_cons.1 this with h' | h'
        · exact h'
        · have := (tail rb).2 x h'
          exact absurd (lessL_trans hl this) (by rw [lessL_irr]; simp)
      · exact hl
      · have := (h y).2 (by simp)
        rcases List.mem_cons.1 this with h' | h'
        · exact h'.symm
        · have := (tail ra).2 y h'
          exact absurd (lessL_trans hl this) (by rw [lessL_irr]; simp)
    subst hxy
    have : a = b := rises_ext (tail ra).1 (tail rb).1 fun s => by
      constructor
      · intro hs
        have := (h s).1 (by simp [hs])
        rcases List.mem_cons.1 this with rfl | h'
        · have := (tail ra).2 _ hs; rw [lessL_irr] at this; cases this
        · exact h'
      · intro hs
        have := (h s).2 (by simp [hs])
        rcases List.mem_cons.1 this with rfl | h'
        · have := (tail rb).2 _ hs; rw [lessL_irr] at this; cases this
        · exact h'
    rw [this]
theorem great_len (g : Graph) : g.nodes.length + leftG [] g.nodes 0 ≤ greatF g := by
  have : ∀ (ns : List Node) (i : Nat), leftG [] ns i ≤ sumL greatN ns := by
    intro ns
    induction ns with
    | nil => intro i; simp [leftG, sumL]
    | cons n r ih => intro i; simp only [leftG, sumL, greatN]; have := ih (i + 1); simp; omega
  have := this g.nodes 0
  simp only [greatF]; omega
theorem great_node {g : Graph} {n : Node} (hn : n ∈ g.nodes) : greatN n ≤ greatF g := by
  have : ∀ (ns : List Node), n ∈ ns → greatN n ≤ sumL greatN ns := by
    intro ns
    induction ns with
    | nil => intro h; cases h
    | cons m r ih =>
      intro h
      simp only [sumL]
      rcases List.mem_cons.1 h with rfl | h
      · omega
      · have := ih h; omega
  have := this g.nodes hn
  simp only [greatF]; omega
/-- So great that no count goes round. -/
structure Sane (g : Graph) : Prop where
  great : greatF g < 2 ^ 60
  sm : GraphSm g
theorem Sane.tiny {g : Graph} (h : Sane g) (hg : greatF g ≤ 300) : GTi g := by
  have e30 : (2 : Nat) ^ 30 = 1073741824 := by decide
  have h1 := great_len g
  refine ⟨⟨h.sm, by omega, fun n hn => ?_⟩, by omega⟩
  have := great_node hn
  simp only [greatN] at this; omega
theorem quo_rch {g L : Graph} {q : Int → Int} (Q : Quo g L q) {a : Int} (h : Rch g a) : Rch L (q a) := by
  induction h with
  | root => rw [← Q.root]; exact .root
  | step hr hb ih => exact .step ih (by rw [Q.node _ hr]; exact List.mem_map.2 ⟨_, hb, rfl⟩)
theorem getD_mem {l : List Int} {i : Nat} (h : i < l.length) : l.getD i 0 ∈ l := by
  rw [List.getD, List.getElem?_eq_getElem h]; exact List.getElem_mem h
theorem quo_comp {g L T : Graph} {q t : Int → Int} (Q : Quo g L q) (P : Quo L T t) : Quo g T (fun a => t (q a)) := by
  refine ⟨by rw [P.root, Q.root], fun i hi => ?_, fun x h0 h1 => ?_, fun i hi => P.range _ (quo_rch Q hi), fun i j hi hj hf he => ?_, P.check⟩
  · rw [P.node _ (quo_rch Q hi), Q.node i hi]
    simp only [List.map_map]; rfl
  · obtain ⟨y, hy, rfl⟩ := P.surj x h0 h1
    have hr := hy.ok Q.check
    obtain ⟨i, hi, rfl⟩ := Q.surj y hr.1 hr.2
    exact ⟨i, hi, rfl⟩
  · refine Q.inj i j hi hj hf (P.inj _ _ (quo_rch Q hi) (quo_rch Q hj) ?_ he)
    rw [Q.node i hi]; exact hf
/-- What a type is laid out as anew is the same type. -/
theorem quo_same {g L : Graph} {q : Int → Int} (cg : checkF g = 0) (Q : Quo g L q) : sameF L g = true := by
  refine (sameF_iff Q.check cg).2 ⟨fun z a => Rch g a ∧ z = q a, ⟨.root, Q.root⟩, ?_, ?_, ?_, ?_⟩
  · rintro _ a ⟨ha, rfl⟩; exact ⟨Q.range _ ha, ha.ok cg⟩
  · rintro _ a ⟨ha, rfl⟩
    rw [Q.node a ha]
    refine ⟨rfl, rfl, rfl, rfl, by simp, fun i hi => ?_⟩
    have hia : i < (nodeD g a).args.length := by simpa using hi
    refine ⟨ha.step (getD_mem hia), ?_⟩
    simp only [List.getD, List.getElem?_map, List.getElem?_eq_getElem hia]; rfl
  · rintro _ a b ⟨ha, rfl⟩ ⟨hb, he⟩ hf
    rw [Q.node a ha] at hf
    exact Q.inj a b ha hb hf he
  · rintro _ _ c ⟨_, rfl⟩ ⟨_, rfl⟩ _; rfl
theorem own_same {g : Graph} (cg : checkF g = 0) : sameF (trimF (leastF g)) g = true := by
  have Q := least_quo cg
  exact quo_same cg (quo_comp Q (trim_quo Q.check))
theorem own_tiny {g : Graph} (hg : GTi g) (cg : checkF g = 0) : GTi (trimF (leastF g)) := trim_tiny (least_tiny hg cg) (least_quo cg).check
end Go.Ab.S
end
section
/-
  The document's examples; the last meaning of a name counts: the law's walk.
-/
namespace Go.Ab.S
open Go.Ab
set_option maxHeartbeats 4000000
theorem value_start : ∀ {l : List Nat}, 0 ∈ l → valueF (l.map startM ++ [baseM]) nF = some (leastF gF)
  | i :: l, h => by
    match i with
    | 0 => rfl
    | 1 =>
      have h' : 0 ∈ l := by simpa using h
      show (if (some (leastF gS)).isSome && eqL nS nF then some (leastF gS) else valueF (l.map startM ++ [baseM]) nF) = _
      rw [show ((some (leastF gS)).isSome && eqL nS nF) = false from by decide, if_neg (by decide)]
      exact value_start h'
    | j + 2 =>
      have h' : 0 ∈ l := by simpa using h
      show (if (some (leastF gN)).isSome && eqL nN nF then some (leastF gN) else valueF (l.map startM ++ [baseM]) nF) = _
      rw [show ((some (leastF gN)).isSome && eqL nN nF) = false from by decide, if_neg (by decide)]
      exact value_start h'
theorem start_gsm (i : Nat) : ∀ g, (startM i).value = some g → GSm g := by
  intro g h
  match i with
  | 0 => cases h; exact (least_tiny tiny_F ok_F).toGSm
  | 1 => cases h; exact (least_tiny tiny_S ok_S).toGSm
  | j + 2 => cases h; exact (least_tiny tiny_N ok_N).toGSm
theorem newL_facts {L : List Mean} (h : NewL L) : L ≠ [] ∧ L.length ≤ 4 ∧ (∀ m ∈ L, ∀ g, m.value = some g → GSm g) ∧ valueF L nF = some (leastF gF) ∧ (∀ m ∈ L, m.value.isSome = true → ∀ c ∈ m.name, c < 256) ∧ ∀ s, (∃ m ∈ L, m.value.isSome = true ∧ m.name = s) ↔ s ∈ [nF, nN, nS] := by
  obtain ⟨seen, h1, h2, rfl⟩ := h
  have hlen := three_most h1 fun i hi => (h2 i).1 hi
  have hm : ∀ m, m ∈ seen.reverse.map startM ++ [baseM] → (∃ i, i < 3 ∧ m = startM i) ∨ m = baseM := fun m hm => by
    rcases List.mem_append.1 hm with hm | hm
    · obtain ⟨i, hi, rfl⟩ := List.mem_map.1 hm
      exact .inl ⟨i, (h2 i).1 (List.mem_reverse.1 hi), rfl⟩
    · exact .inr (List.mem_singleton.1 hm)
  have hin : ∀ i, i < 3 → startM i ∈ seen.reverse.map startM ++ [baseM] := fun i hi => List.mem_append_left _ (List.mem_map.2 ⟨i, List.mem_reverse.2 ((h2 i).2 hi), rfl⟩)
  refine ⟨by simp, by simp; omega, fun m hmm g hg => ?_, value_start (List.mem_reverse.2 ((h2 0).2 (by decide))), fun m hmm hv => ?_, fun s => ⟨?_, fun hs => ?_⟩⟩
  · rcases hm m hmm with ⟨i, _, rfl⟩ | rfl
    · exact start_gsm i g hg
    · cases hg
  · rcases hm m hmm with ⟨i, hi, rfl⟩ | rfl
    · rcases (by omega : i = 0 ∨ i = 1 ∨ i = 2) with rfl | rfl | rfl <;> decide
    · cases hv
  · rintro ⟨m, hmm, hv, rfl⟩
    rcases hm m hmm with ⟨i, hi, rfl⟩ | rfl
    · rcases (by omega : i = 0 ∨ i = 1 ∨ i = 2) with rfl | rfl | rfl
      · simp [startM]
      · simp [startM]
      · simp [startM]
    · cases hv
  · simp only [List.mem_cons, List.not_mem_nil, or_false] at hs
    rcases hs with rfl | rfl | rfl
    · exact ⟨_, hin 0 (by decide), rfl, rfl⟩
    · exact ⟨_, hin 2 (by decide), rfl, rfl⟩
    · exact ⟨_, hin 1 (by decide), rfl, rfl⟩
theorem names_start {out : List (List Nat)} (hr : Rises out) (hm : ∀ s, s ∈ out ↔ s ∈ [nF, nN, nS]) : out = [nF, nN, nS] := by
  refine rises_ext hr ?_ hm
  exact ris_rises (p := none) (by decide)
section
variable {fns : FuncId → Option AFunc} {summ : FuncId → List AVal → AHeap → Option (D (AVal × AHeap))}
variable (H : Has fns summ)
include H
theorem EValue_some (L : List Mean) (hL : ∀ m ∈ L, ∀ g, m.value = some g → GSm g) (hne : L ≠ []) (v : AVal) (s : List Nat) (g : Graph) (hs : valueF L s = some g) (h : AHeap) (hw : WF h) (hE : EnvAt h v L) :
    Cl fns summ 11 [v, .str s] h fun r h' => (∃ zn, r = .tuple [.agg [zn, .int .i64 (trimF g).root], .int .i64 0] ∧ NodesAt h' zn (trimF g).nodes) ∧ Grow h h' :=
  (EValue_ok H L hL hne v s h hw hE).mono fun r h' ⟨⟨z, hr, hz⟩, gg⟩ => by
    rw [hs] at hr hz
    obtain ⟨zn, rfl, hzn⟩ := hz
    exact ⟨⟨zn, hr, hzn⟩, gg⟩
variable (HS : HasSort summ) (HR : HasRead summ)
include HS HR
theorem alive14_ok (h : AHeap) (hw : WF h) : Cl fns summ 7 [] h fun r h' => r = .bool true ∧ Grow h h' := by
  refine H.go (fn := F_alive14) rfl (by decide) rfl rfl ?_
  unfold F_alive14
  dsimp only
  repeat with_reducible first | refine nxt_normal ?_ | refine st_nil ?_ | refine cd_seq ?_ | refine cd_ops ?_ | (apply st_q; exact q1)
  refine st_call (by exact s1) ((EnvNew_ok H HR h hw).mono ?_)
  rintro _ h1 ⟨⟨b, L, rfl, hL, hE⟩, g1'⟩
  obtain ⟨f1, f2, f3, f4, f5, f6⟩ := newL_facts hL
  have f2' : L.length ≤ 2 ^ 20 := Nat.le_trans f2 (by decide)
  replace f3 := Hid.mk f3
  replace f5 := Hid.mk f5
  replace f6 := Hid.mk f6
  replace f1 := Hid.mk f1
  replace f4 := Hid.mk f4
  have hsame := Hid.mk (own_same ok_F)
  have hti := Hid.mk (own_tiny tiny_F ok_F)
  clear hL f2
  repeat with_reducible first | refine nxt_normal ?_ | refine st_nil ?_ | refine cd_seq ?_ | refine cd_ops ?_ | (apply st_q; exact q1)
  refine st_call (by exact s1) ((EValue_some H L f3.out f1.out _ nF _ f4.out h1 g1'.wf hE).mono ?_)
  rintro _ h2 ⟨⟨zn, rfl, hzn⟩, g2⟩
  have hzo := one_of_len hzn.len
  generalize hT : trimF (leastF gF) = T at *
  clear hT
  have hE2 := hE.mono g2
  have g02 := g1'.trans g2
  clear hE g1' g2
  repeat with_reducible (apply st_q; exact q1)
  refine st_alloc g02.wf ?_
  rintro b2 h3 hb2 g3 o2
  refine st_store (by exact e1) (by exact e1) (cs := [zn, .int .i64 T.root]) rfl rfl g3.wf o2 (by simp) (by rw [List.all_cons, List.all_cons, hzo]; rfl) ?_
  rintro v4 h4 p4 s2
  simp only [List.take_zero, List.nil_append, List.length_cons, List.length_nil, List.drop_succ_cons, List.drop_zero, List.append_nil, Nat.zero_add, Nat.reduceAdd, List.drop_nil, List.cons_append] at s2
  have g24 : Grow h2 h4 := p4.grow h2 g02.wf g3 hb2
  have hE4 := hE2.mono g24
  have hz4 := hzn.mono g24
  have g04 := g02.trans g24
  clear hE2 hzn g02 g24 g3 o2 p4 hb2
  repeat with_reducible first | refine nxt_normal ?_ | refine st_nil ?_ | refine cd_seq ?_ | refine cd_ops ?_ | (apply st_q; exact q1)
  obtain ⟨rv, h5, hr5, ⟨rn, rfl, hrn⟩, g5⟩ := HR.read tF gF (by simp) h4 g04.wf
  refine st_call (by exact s1) (cl_summ hr5 ?_)
  rw [D.sat_ret]
  have hro := one_of_len hrn.len
  have s25 := g5.keep _ _ s2
  have hE5 := hE4.mono g5
  have hz5 := hz4.mono g5
  have g05 := g04.trans g5
  clear hr5 s2 hE4 hz4 g04 g5
  repeat with_reducible (apply st_q; exact q1)
  refine st_alloc g05.wf ?_
  rintro b4 h6 hb4 g6 o4
  refine st_store (by exact e1) (by exact e1) (cs := [rn, .int .i64 gF.root]) rfl rfl g6.wf o4 (by simp) (by rw [List.all_cons, List.all_cons, hro]; rfl) ?_
  rintro v7 h7 p7 s4
  simp only [List.take_zero, List.nil_append, List.length_cons, List.length_nil, List.drop_succ_cons, List.drop_zero, List.append_nil, Nat.zero_add, Nat.reduceAdd, List.drop_nil, List.cons_append] at s4
  have g57 : Grow h5 h7 := p7.grow h5 g05.wf g6 hb4
  have s27 := g57.keep _ _ s25
  have hE7 := hE5.mono g57
  have hz7 := hz5.mono g57
  have hr7 := hrn.mono g57
  have g07 := g05.trans g57
  clear s25 hE5 hz5 hrn g05 g57 g6 o4 p7 hb4
  repeat with_reducible first | refine nxt_normal ?_ | refine st_nil ?_ | refine cd_seq ?_ | refine cd_ops ?_ | (apply st_q; exact q1)
  refine st_call (by exact s1) ((EValue_nil H nF h7 g07.wf).mono ?_)
  rintro _ h8 ⟨rfl, g8⟩
  have s28 := g8.keep _ _ s27
  have s48 := g8.keep _ _ s4
  have hE8 := hE7.mono g8
  have hz8 := hz7.mono g8
  have hr8 := hr7.mono g8
  have g08 := g07.trans g8
  clear s27 s4 hE7 hz7 hr7 g07 g8
  repeat with_reducible (apply st_q; exact q1)
  refine st_alloc g08.wf ?_
  rintro b7 h9 hb7 g9 o7
  refine st_store (by exact e1) (by exact e1) (cs := [.slice none 0, .int .i64 0]) rfl rfl g9.wf o7 (by simp) rfl ?_
  rintro v10 h10 p10 s7
  have g810 : Grow h8 h10 := p10.grow h8 g08.wf g9 hb7
  have s210 := g810.keep _ _ s28
  have s410 := g810.keep _ _ s48
  have hE10 := hE8.mono g810
  have hz10 := hz8.mono g810
  have hr10 := hr8.mono g810
  have g010 := g08.trans g810
  clear s28 s48 hE8 hz8 hr8 g08 g810 g9 o7 p10 hb7 s7
  repeat with_reducible first | refine nxt_normal ?_ | refine st_nil ?_ | refine cd_seq ?_ | refine cd_ops ?_ | (apply st_q; exact q1)
  refine st_call (by exact s1) ((EValues_ok H HS L f2' f5.out _ h10 g010.wf hE10).mono ?_)
  rintro r1v h11 ⟨out, hS1, hR1, hM1, _, g11⟩
  have ho1 : out = [nF, nN, nS] := names_start hR1 fun s => (hM1 s).trans (f6.out s)
  subst ho1
  have hl1 : lenO r1v = some 3 := hS1.len
  have s211 := g11.keep _ _ s210
  have s411 := g11.keep _ _ s410
  have hE11 := hE10.mono g11
  have hz11 := hz10.mono g11
  have hr11 := hr10.mono g11
  have g011 := g010.trans g11
  have h33 : ((Int.ofNat 3 : Int) == 3) = true := rfl
  clear s210 s410 hE10 hz10 hr10 g010 g11 hS1 hR1 hM1
  repeat with_reducible first | (apply st_q; exact q1) | (apply st_qT; exact e1; exact q1)
  refine st_callT (by exact e1) (by exact s1) ((EValues_ok H HS L f2' f5.out _ h11 g011.wf hE11).mono ?_)
  rintro r2v h12 ⟨out, hS2, hR2, hM2, _, g12⟩
  have ho2 : out = [nF, nN, nS] := names_start hR2 fun s => (hM2 s).trans (f6.out s)
  subst ho2
  obtain ⟨bb, ob, verb, rb, eb, vsb, hix, hget, hvo⟩ := hS2.at (i := 0) (c := nF) rfl
  have s212 := g12.keep _ _ s211
  have s412 := g12.keep _ _ s411
  have hz12 := hz11.mono g12
  have hr12 := hr11.mono g12
  have g012 := g011.trans g12
  have hff : eqL nF [102, 115, 116] = true := rfl
  have h00 : ((0 : Int) == 0) = true := rfl
  have h11' : ((1 : Int) == 1) = true := rfl
  have hpT : partA (some 2) [zn, .int .i64 T.root] 0 = some (.agg [zn, .int .i64 T.root]) := rfl
  have hpG : partA (some 2) [rn, .int .i64 gF.root] 0 = some (.agg [rn, .int .i64 gF.root]) := rfl
  have ht2 : ∀ x y : AVal, List.take 2 [x, y] = [x, y] := fun _ _ => rfl
  have hq0 : Hid (∀ A hh, ev A (.tmp 30) = some r2v → qA A hh (.indexA 1 (.tmp 30) (.val (.int .i64 0))) = some (.ptr (some (bb, ob)), none)) := ⟨fun A hh k => by
    simp only [qA_indexA, k, ev_val, show asNat (.int .i64 0) = some 0 from rfl, hix]⟩
  clear s211 s411 hE11 hz11 hr11 g011 g12 hS2 hR2 hM2
  skip
  refine st_qT (by exact e1) (hq0.out _ _ (by exact e1)) ?_
  repeat with_reducible first | (apply st_q; exact q1) | (apply st_qT; exact e1; exact q1)
  refine st_callT (by exact e1) (by exact s1) ((Same_ok H T gF hti.out tiny_F _ _ h12 g012.wf ⟨zn, rfl, hz12⟩ ⟨rn, rfl, hr12⟩).mono ?_)
  rw [hsame.out]
  rintro _ h13 ⟨rfl, g13⟩
  repeat' with_reducible first | refine nxt_normal ?_ | refine st_nil ?_ | refine cd_ret ?_ | (apply st_q; exact q1) | (apply st_qT; exact e1; exact q1) | (apply fin_ret; exact n1; exact r1)
  exact ⟨rfl, g012.trans g13⟩
end
end Go.Ab.S
end
section
/-
  The last meaning of a name counts: the law's walk.
-/
namespace Go.Ab.S
open Go.Ab
set_option maxHeartbeats 4000000
theorem value_put (L : List Mean) (a s : List Nat) (g : Graph) : valueF (⟨a, some g, none⟩ :: L) s = if eqL a s then some g else valueF L s := by
  show (if (some g).isSome && eqL a s then some g else valueF L s) = _
  rw [show (some g).isSome = true from rfl, Bool.true_and]
section
variable {fns : FuncId → Option AFunc} {summ : FuncId → List AVal → AHeap → Option (D (AVal × AHeap))} {ro : Option Nat}
/-- What is not needed any more of the temporaries is forgotten. -/
theorem st_gen {l : List Step} {a : AAct} {h : AHeap} {K : AAct → AHeap → Prop} (I : AAct → Prop) (hi : I a) (k : ∀ A, I A → St fns summ ro l A h K) : St fns summ ro l a h K := k a hi
end
section
variable {fns : FuncId → Option AFunc} {summ : FuncId → List AVal → AHeap → Option (D (AVal × AHeap))}
variable (H : Has fns summ) (HS : HasSort summ) (HR : HasRead summ)
include H HS HR
theorem EnvLast_ok (a b : List Nat) (ha : a.length < 2 ^ 60) (hb : b.length < 2 ^ 60) (g k : Graph) (hg : Sane g) (hk : Sane k) (nv mv : AVal) (h0 : AHeap) (hw : WF h0) (hN : NodesAt h0 nv g.nodes) (hM : NodesAt h0 mv k.nodes) :
    Cl fns summ 3 [.agg [.str a, .str b, nv, .int .i64 g.root, mv, .int .i64 k.root]] h0 fun r h' => r = .bool true ∧ Grow h0 h' := by
  have p5 : one nv = true := one_of_len hN.len
  have p6 : one mv = true := one_of_len hM.len
  refine H.go (fn := F_EnvLast) rfl (by decide) rfl rfl ?_
  unfold F_EnvLast
  dsimp only
  refine cd_seq (cd_ops ?_)
  refine st_box (by exact e1) (by exact cc) hw ?_
  rintro b1 h1 hb1 G o1
  clear hb1
  repeat with_reducible first | refine nxt_normal ?_ | refine st_nil ?_ | refine cd_seq ?_ | refine cd_ops ?_ | (apply st_q; exact q1)
  refine st_call (by exact s1) ((alive14_ok H HS HR h1 G.wf).mono ?_)
  rintro _ h2 ⟨rfl, g2⟩
  replace o1 := g2.keep _ _ o1
  replace G := G.trans g2
  clear g2
  have n0 := G.next
  have l1 := G.wf.lt o1
  repeat with_reducible first | refine nxt_normal ?_ | refine st_nil ?_ | refine cd_seq ?_ | refine cd_skip ?_ | refine cd_draw ?_ | (apply dr_q; exact q1) | (apply dr_ql; exact q1; exact og1) | (apply st_q; exact q1) | (apply cd_condF; exact e1)
  refine dr_st (st_alloc G.wf ?_)
  rintro b5 h3 hb5 g3 o5
  have l5 := g3.wf.lt o5
  replace o1 := g3.keep _ _ o1
  replace G := G.trans g3
  refine st_nil ⟨by simp [heldOk, Nat.testBit, o1], ?_⟩
  refine dr_st (st_alloc G.wf ?_)
  rintro b6 h4 hb6 g4 o6
  have l6 := g4.wf.lt o6
  replace o1 := g4.keep _ _ o1
  replace o5 := g4.keep _ _ o5
  replace G := G.trans g4
  refine st_nil ⟨by simp [heldOk, Nat.testBit, o1], ?_⟩
  repeat with_reducible (apply dr_q; exact q1)
  refine dr_st (st_store (by exact e1) (by exact e1) (cs := [nv, .int .i64 g.root]) rfl rfl G.wf o5 (by simp) (by rw [List.all_cons, List.all_cons, p5]; rfl) ?_)
  rintro v7 h7 q7 r5
  simp only [List.take_zero, List.nil_append, List.length_cons, List.length_nil, List.drop_succ_cons, List.drop_zero, List.append_nil, Nat.zero_add, Nat.reduceAdd, List.drop_nil, List.cons_append] at r5
  replace G := q7.grow h0 hw G (by omega)
  replace o1 := q7.keep _ (by omega) _ o1
  replace o6 := q7.keep _ (by omega) _ o6
  clear o5 q7
  refine st_nil ⟨by simp [heldOk, Nat.testBit, o1], ?_⟩
  refine dr_st (st_store (by exact e1) (by exact e1) (cs := [mv, .int .i64 k.root]) rfl rfl G.wf o6 (by simp) (by rw [List.all_cons, List.all_cons, p6]; rfl) ?_)
  rintro v8 h8 q8 r6
  simp only [List.take_zero, List.nil_append, List.length_cons, List.length_nil, List.drop_succ_cons, List.drop_zero, List.append_nil, Nat.zero_add, Nat.reduceAdd, List.drop_nil, List.cons_append] at r6
  replace G := q8.grow h0 hw G (by omega)
  replace r5 := q8.keep _ (by omega) _ r5
  clear o6 q8 o1 l1 l5 l6 hb5 hb6 g3 g4 n0
  refine st_nil ⟨by simp [heldOk, Nat.testBit], ?_⟩
  replace hN := hN.mono G
  replace hM := hM.mono G
  have ht2 : ∀ x y : AVal, List.take 2 [x, y] = [x, y] := fun _ _ => rfl
  have w8 := G.wf
  repeat with_reducible first | refine nxt_normal ?_ | refine cd_seq ?_ | refine cd_ops ?_ | refine dr_nil ?_ | (apply st_q; exact q1)
  refine st_call (by exact s1) ((Great_ok H g hg.great _ h8 w8 ⟨nv, rfl, hN⟩).mono ?_)
  rintro _ h9 ⟨rfl, g9⟩
  replace r5 := g9.keep _ _ r5
  replace r6 := g9.keep _ _ r6
  cases c1 : decide ((greatF g : Int) > 200)
  rotate_left
  · repeat' with_reducible first | refine nxt_normal ?_ | refine nxt_ret ?_ | refine st_nil ?_ | refine cd_seq ?_ | refine cd_ops ?_ | refine cd_ret ?_ | (apply st_q; exact q1) | (apply st_qF; exact e1) | (apply st_eF; exact e1) | (apply cd_condT; exact e1) | (apply fin_ret; exact n1; exact r1)
    exact ⟨rfl, G.trans g9⟩
  have tg : Hid (GTi g) := ⟨hg.tiny (by simp at c1; omega)⟩
  repeat with_reducible first | (apply st_q; exact q1) | (apply st_qT; exact e1; exact q1)
  refine st_callT (by exact e1) (by exact s1) ((Great_ok H k hk.great _ h9 g9.wf ⟨mv, rfl, hM.mono g9⟩).mono ?_)
  rintro _ h10 ⟨rfl, g10⟩
  replace r5 := g10.keep _ _ r5
  replace r6 := g10.keep _ _ r6
  have k10 := g9.trans g10
  clear g9 g10
  cases c2 : decide ((greatF k : Int) > 200)
  rotate_left
  · repeat' with_reducible first | refine nxt_normal ?_ | refine nxt_ret ?_ | refine st_nil ?_ | refine cd_seq ?_ | refine cd_ops ?_ | refine cd_ret ?_ | (apply st_q; exact q1) | (apply st_qT; exact e1; exact q1) | (apply cd_condT; exact e1) | (apply fin_ret; exact n1; exact r1)
    exact ⟨rfl, G.trans k10⟩
  have tk : Hid (GTi k) := ⟨hk.tiny (by simp at c2; omega)⟩
  repeat with_reducible first | refine nxt_normal ?_ | refine st_nil ?_ | refine cd_seq ?_ | refine cd_ops ?_ | refine cd_skip ?_ | (apply st_q; exact q1) | (apply st_qT; exact e1; exact q1) | (apply cd_condF; exact e1)
  refine st_gen (fun A => A.defers = [] ∧ ev A (.tmp 3) = some (.str a) ∧ ev A (.tmp 4) = some (.str b) ∧ ev A (.tmp 5) = some (.ptr (some (b5, 0))) ∧ ev A (.tmp 6) = some (.ptr (some (b6, 0)))) ⟨by exact n1, by exact e1, by exact e1, by exact e1, by exact e1⟩ ?_
  rintro A ⟨hd, t3, t4, t5, t6⟩
  refine st_call (by exact s1) ((EnvNew_ok H HR h10 k10.wf).mono ?_)
  rintro _ h11 ⟨⟨be, L, rfl, hL, hE⟩, g11⟩
  obtain ⟨f1, _, f3, _, _, _⟩ := newL_facts hL
  replace r5 := g11.keep _ _ r5
  replace r6 := g11.keep _ _ r6
  have k11 := k10.trans g11
  replace f3 := Hid.mk f3
  clear hL k10 g11 f1
  repeat with_reducible first | refine nxt_normal ?_ | refine st_nil ?_ | refine cd_seq ?_ | refine cd_ops ?_ | (apply st_q; exact q1)
  refine st_call (by exact s1) ((WithValue_ok H L be a ha g tg.out _ h11 k11.wf hE ⟨nv, rfl, hN.mono k11⟩).mono ?_)
  rintro _ h12 ⟨⟨z, rfl, hz0, hz1⟩, g12⟩
  replace r5 := g12.keep _ _ r5
  replace r6 := g12.keep _ _ r6
  have k12 := k11.trans g12
  cases c3 : (withF a g != 0)
  rotate_left
  · have hzn := hz0 (by simpa using c3)
    subst hzn
    have hq1 : eqA .ptr (.ptr none) (.ptr none) = some true := rfl
    have hx1 : (false ^^ true) = true := rfl
    clear hz0 hz1
    repeat' with_reducible first | refine nxt_normal ?_ | refine nxt_ret ?_ | refine st_nil ?_ | refine cd_seq ?_ | refine cd_ops ?_ | refine cd_ret ?_ | (apply st_q; exact q1) | (apply cd_condT; exact e1) | (apply fin_ret; exact n1; exact r1)
    exact ⟨rfl, G.trans k12⟩
  have hwa : withF a g = 0 := by simpa using c3
  obtain ⟨bz, rfl, hEz⟩ := hz1 hwa
  have cg : Hid (checkF g = 0) := ⟨by unfold withF at hwa; split at hwa
                                      · exact hwa
                                      · cases hwa⟩
  replace hwa := Hid.mk hwa
  clear hz0 hz1 hE g12 k11
  repeat with_reducible first | refine nxt_normal ?_ | refine st_nil ?_ | refine cd_seq ?_ | refine cd_ops ?_ | refine cd_skip ?_ | (apply st_q; exact q1) | (apply cd_condF; exact e1)
  refine st_call (by exact s1) ((WithValue_ok H (⟨a, some (leastF g), none⟩ :: L) bz b hb k tk.out _ h12 k12.wf hEz ⟨mv, rfl, hM.mono k12⟩).mono ?_)
  rintro _ h13 ⟨⟨z, rfl, hz0, hz1⟩, g13⟩
  replace r5 := g13.keep _ _ r5
  replace r6 := g13.keep _ _ r6
  have k13 := k12.trans g13
  cases c4 : (withF b k != 0)
  rotate_left
  · have hzn := hz0 (by simpa using c4)
    subst hzn
    have hq1 : eqA .ptr (.ptr none) (.ptr none) = some true := rfl
    have hx1 : (false ^^ true) = true := rfl
    clear hz0 hz1
    repeat' with_reducible first | refine nxt_normal ?_ | refine nxt_ret ?_ | refine st_nil ?_ | refine cd_seq ?_ | refine cd_ops ?_ | refine cd_ret ?_ | (apply st_q; exact q1) | (apply cd_condT; exact e1) | (apply fin_ret; exact n1; exact r1)
    exact ⟨rfl, G.trans k13⟩
  have hwb : withF b k = 0 := by simpa using c4
  obtain ⟨bY, rfl, hEy⟩ := hz1 hwb
  have ck : Hid (checkF k = 0) := ⟨by unfold withF at hwb; split at hwb
                                      · exact hwb
                                      · cases hwb⟩
  replace hwb := Hid.mk hwb
  clear hz0 hz1 hEz g13 k12
  have fall : Hid (∀ m ∈ (⟨b, some (leastF k), none⟩ :: ⟨a, some (leastF g), none⟩ :: L : List Mean), ∀ x, m.value = some x → GSm x) := ⟨fun m hm x hx => by
    rcases List.mem_cons.1 hm with rfl | hm
    · cases hx; exact (least_tiny tk.out ck.out).toGSm
    · rcases List.mem_cons.1 hm with rfl | hm
      · cases hx; exact (least_tiny tg.out cg.out).toGSm
      · exact f3.out m hm x hx⟩
  have sg := Hid.mk (own_same cg.out)
  have sk := Hid.mk (own_same ck.out)
  have og := Hid.mk (own_tiny tg.out cg.out)
  have ok := Hid.mk (own_tiny tk.out ck.out)
  -- what the first name means
  obtain ⟨X, hX, hXt, hXs⟩ : ∃ X, valueF (⟨b, some (leastF k), none⟩ :: ⟨a, some (leastF g), none⟩ :: L) a = some X ∧ GTi (trimF X) ∧ sameF (trimF X) (if eqL a b then k else g) = true := by
    rw [value_put, value_put]
    cases hab : eqL a b
    · have hba : eqL b a = false := by
        rw [eqL_eq] at hab ⊢
        have : a ≠ b := by simpa using hab
        simpa using Ne.symm this
      have haa : eqL a a = true := by rw [eqL_eq]; simp
      exact ⟨leastF g, by rw [hba, haa]; rfl, og.out, sg.out⟩
    · have hba : eqL b a = true := by
        rw [eqL_eq] at hab ⊢
        have : a = b := by simpa using hab
        simp [this]
      exact ⟨leastF k, by rw [hba]; rfl, ok.out, sk.out⟩
  have hY : valueF (⟨b, some (leastF k), none⟩ :: ⟨a, some (leastF g), none⟩ :: L) b = some (leastF k) := by
    rw [value_put, show eqL b b = true from by rw [eqL_eq]; simp]; rfl
  replace hX := Hid.mk hX
  replace hXt := Hid.mk hXt
  replace hXs := Hid.mk hXs
  replace hY := Hid.mk hY
  repeat with_reducible first | refine nxt_normal ?_ | refine st_nil ?_ | refine cd_seq ?_ | refine cd_ops ?_ | refine cd_skip ?_ | (apply st_q; exact q1) | (apply cd_condF; exact e1)
  refine st_gen (fun A => A.defers = [] ∧ ev A (.tmp 3) = some (.str a) ∧ ev A (.tmp 4) = some (.str b) ∧ ev A (.tmp 5) = some (.ptr (some (b5, 0))) ∧ ev A (.tmp 6) = some (.ptr (some (b6, 0))) ∧ ev A (.tmp 10) = some (.ptr (some (bY, 0))) ∧ ev A (.tmp 58) = some (.ptr (some (bY, 0))) ∧ ev A (.tmp 59) = some (.str a)) ⟨by exact n1, by exact e1, by exact e1, by exact e1, by exact e1, by exact e1, by exact e1, by exact e1⟩ ?_
  clear hd t3 t4 t5 t6 c1 c2 c3 c4
  rintro A ⟨hd, t3, t4, t5, t6, t10, t58, t59⟩
  refine st_call (by exact s1) ((EValue_some H _ fall.out (by simp) _ a X hX.out h13 k13.wf hEy).mono ?_)
  rintro _ h14 ⟨⟨xn, rfl, hxn⟩, g14⟩
  have hxo := one_of_len hxn.len
  replace r5 := g14.keep _ _ r5
  replace r6 := g14.keep _ _ r6
  have hEy4 := hEy.mono g14
  have k14 := k13.trans g14
  clear hEy k13 g14
  repeat with_reducible (apply st_q; exact q1)
  refine st_alloc k14.wf ?_
  rintro b12 h15 hb12 g15 o12
  refine st_store (by exact e1) (by exact e1) (cs := [xn, .int .i64 (trimF X).root]) rfl rfl g15.wf o12 (by simp) (by rw [List.all_cons, List.all_cons, hxo]; rfl) ?_
  rintro v16 h16 q16 r12
  simp only [List.take_zero, List.nil_append, List.length_cons, List.length_nil, List.drop_succ_cons, List.drop_zero, List.append_nil, Nat.zero_add, Nat.reduceAdd, List.drop_nil, List.cons_append] at r12
  have g46 : Grow h14 h16 := q16.grow h14 k14.wf g15 hb12
  replace r5 := g46.keep _ _ r5
  replace r6 := g46.keep _ _ r6
  have hEy6 := hEy4.mono g46
  have hxn6 := hxn.mono g46
  have k16 := k14.trans g46
  clear hEy4 hxn k14 g46 g15 o12 q16 hb12
  repeat with_reducible first | refine nxt_normal ?_ | refine st_nil ?_ | refine cd_seq ?_ | refine cd_ops ?_ | (apply st_q; exact q1)
  refine st_call (by exact s1) ((EValue_some H _ fall.out (by simp) _ b (leastF k) hY.out h16 k16.wf hEy6).mono ?_)
  rintro _ h17 ⟨⟨yn, rfl, hyn⟩, g17⟩
  have hyo := one_of_len hyn.len
  replace r5 := g17.keep _ _ r5
  replace r6 := g17.keep _ _ r6
  replace r12 := g17.keep _ _ r12
  have hxn7 := hxn6.mono g17
  have k17 := k16.trans g17
  clear hEy6 hxn6 k16 g17
  repeat with_reducible (apply st_q; exact q1)
  refine st_alloc k17.wf ?_
  rintro b14 h18 hb14 g18 o14
  refine st_store (by exact e1) (by exact e1) (cs := [yn, .int .i64 (trimF (leastF k)).root]) rfl rfl g18.wf o14 (by simp) (by rw [List.all_cons, List.all_cons, hyo]; rfl) ?_
  rintro v19 h19 q19 r14
  simp only [List.take_zero, List.nil_append, List.length_cons, List.length_nil, List.drop_succ_cons, List.drop_zero, List.append_nil, Nat.zero_add, Nat.reduceAdd, List.drop_nil, List.cons_append] at r14
  have g79 : Grow h17 h19 := q19.grow h17 k17.wf g18 hb14
  replace r5 := g79.keep _ _ r5
  replace r6 := g79.keep _ _ r6
  replace r12 := g79.keep _ _ r12
  have hxn9 := hxn7.mono g79
  have hyn9 := hyn.mono g79
  have k19 := k17.trans g79
  have h00 : ((0 : Int) == 0) = true := rfl
  clear hxn7 hyn k17 g79 g18 o14 q19 hb14
  refine st_gen (fun A => A.defers = [] ∧ ev A (.tmp 3) = some (.str a) ∧ ev A (.tmp 4) = some (.str b) ∧ ev A (.tmp 5) = some (.ptr (some (b5, 0))) ∧ ev A (.tmp 6) = some (.ptr (some (b6, 0))) ∧ ev A (.tmp 12) = some (.ptr (some (b12, 0))) ∧ ev A (.tmp 14) = some (.ptr (some (b14, 0))) ∧ ev A (.tmp 13) = some (.int .i64 0) ∧ ev A (.tmp 68) = some (.int .i64 0)) ⟨by exact n1, by exact e1, by exact e1, by exact e1, by exact e1, by exact e1, by exact e1, by exact e1, by exact e1⟩ ?_
  clear hd t3 t4 t5 t6 t10 t58 t59
  rintro A ⟨hd, t3, t4, t5, t6, t12, t14, t13, t68⟩
  generalize trimF (leastF k) = Y at *
  generalize trimF X = Z at *
  cases hab : eqL a b
  · rw [hab] at hXs
    have hXg : Hid (sameF Z g = true) := ⟨hXs.out⟩
    clear hXs
    repeat with_reducible first | refine nxt_normal ?_ | refine st_nil ?_ | refine cd_seq ?_ | refine cd_ops ?_ | refine cd_skip ?_ | (apply st_q; exact q1) | (apply st_qT; exact e1; exact q1) | (apply cd_condF; exact e1)
    refine st_callT (by exact e1) (by exact s1) ((Same_ok H Z g hXt.out tg.out _ _ h19 k19.wf ⟨xn, rfl, hxn9⟩ ⟨nv, rfl, hN.mono k19⟩).mono ?_)
    rw [hXg.out]
    rintro _ h20 ⟨rfl, g20⟩
    replace r6 := g20.keep _ _ r6
    replace r14 := g20.keep _ _ r14
    have k20 := k19.trans g20
    repeat with_reducible first | (apply st_q; exact q1) | (apply st_qT; exact e1; exact q1)
    refine st_callT (by exact e1) (by exact s1) ((Same_ok H Y k ok.out tk.out _ _ h20 k20.wf ⟨yn, rfl, hyn9.mono g20⟩ ⟨mv, rfl, hM.mono k20⟩).mono ?_)
    rw [sk.out]
    rintro _ h21 ⟨rfl, g21⟩
    repeat' with_reducible first | refine nxt_normal ?_ | refine st_nil ?_ | refine cd_ret ?_ | (apply st_q; exact q1) | (apply fin_ret; exact n1; exact r1)
    exact ⟨rfl, G.trans (k20.trans g21)⟩
  · rw [hab] at hXs
    have hXk : Hid (sameF Z k = true) := ⟨hXs.out⟩
    clear hXs
    repeat with_reducible first | refine nxt_normal ?_ | refine st_nil ?_ | refine cd_seq ?_ | refine cd_ops ?_ | (apply st_q; exact q1) | (apply cd_condT; exact e1)
    refine st_call (by exact s1) ((Same_ok H Z k hXt.out tk.out _ _ h19 k19.wf ⟨xn, rfl, hxn9⟩ ⟨mv, rfl, hM.mono k19⟩).mono ?_)
    rw [hXk.out]
    rintro _ h20 ⟨rfl, g20⟩
    repeat' with_reducible first | refine nxt_normal ?_ | refine nxt_ret ?_ | refine st_nil ?_ | refine cd_ret ?_ | (apply st_q; exact q1) | (apply st_qT; exact e1; exact q1) | (apply fin_ret; exact n1; exact r1)
    exact ⟨rfl, G.trans (k19.trans g20)⟩
end
end Go.Ab.S
end
