import Derived.Test.YtffgndlognihcaaGreatDoorP11
import Derived.Test.YtffgndlognihcaaGreatDoorP13
import Derived.Test.YtffgndlognihcaaGreatDoorP14
import Derived.Test.YtffgndlognihcaaGreatDoorP15
import Derived.Test.YtffgndlognihcaaGreatDoorP16
/-
  Part 17 of the proof.
-/
set_option linter.all false
section
/-
  What is left of a graph, and the least one: what they are to the graph that they came of.
-/
namespace Go.Ab.S
open Go.Ab
set_option maxHeartbeats 1000000
/-- What is reached. -/
inductive Rch (g : Graph) : Int → Prop
  | root : Rch g g.root
  | step {a b : Int} : Rch g a → b ∈ (nodeD g a).args → Rch g b
theorem argsN_D (g : Graph) (a : Int) : argsN g.nodes a = (nodeD g a).args := by
  unfold argsN nodeD
  rw [List.getD]
  cases g.nodes[a.toNat]? <;> rfl
theorem reachG_sound {g : Graph} : ∀ (m : Nat) (st out : List Int), (∀ a ∈ st, Rch g a) → (∀ a ∈ out, Rch g a) → ∀ a ∈ reachG g.nodes m st out, Rch g a
  | 0, _, _, _, h => h
  | _ + 1, [], _, _, h => h
  | m + 1, a :: st, out, h1, h2 => by
    rw [reachG]
    split
    · exact reachG_sound m st out (fun b hb => h1 b (by simp [hb])) h2
    · refine reachG_sound m _ _ (fun b hb => ?_) (fun b hb => ?_)
      · rcases List.mem_append.1 hb with hb | hb
        · rw [argsN_D] at hb; exact .step (h1 a (by simp)) hb
        · exact h1 b (by simp [hb])
      · rcases List.mem_append.1 hb with hb | hb
        · exact h2 b hb
        · rw [List.mem_singleton.1 hb]; exact h1 a (by simp)
theorem reachG_all {g : Graph} (hc : checkF g = 0) : ∀ (m : Nat) (st out : List Int), Ok g.nodes.length st → st.length + leftG out g.nodes 0 ≤ m → (∀ a ∈ out, ∀ b ∈ (nodeD g a).args, b ∈ out ∨ b ∈ st) →
    (∀ a ∈ st, a ∈ reachG g.nodes m st out) ∧ (∀ a ∈ out, a ∈ reachG g.nodes m st out) ∧ ∀ a ∈ reachG g.nodes m st out, ∀ b ∈ (nodeD g a).args, b ∈ reachG g.nodes m st out
  | 0, st, out, _, hm, h => by
    have : st = [] := List.length_eq_zero_iff.1 (by omega)
    subst this
    exact ⟨fun a ha => (by cases ha), fun a ha => ha, fun a ha b hb => by
      rcases h a ha b hb with h | h
      · exact h
      · cases h⟩
  | m + 1, [], out, _, _, h => ⟨fun a ha => (by cases ha), fun a ha => ha, fun a ha b hb => by
      rcases h a ha b hb with h | h
      · exact h
      · cases h⟩
  | m + 1, a :: st, out, hs, hm, h => by
    have hst : Ok g.nodes.length st := fun b hb => hs b (by simp [hb])
    obtain ⟨a0, a1⟩ := hs a (by simp)
    rw [reachG]
    split
    · rename_i hcon
      have hcon : a ∈ out := by simpa using hcon
      simp only [List.length_cons] at hm
      obtain ⟨h1, h2, h3⟩ := reachG_all hc m st out hst (by omega) (fun b hb c hcc => by
        rcases h b hb c hcc with h | h
        · exact .inl h
        · rcases List.mem_cons.1 h with rfl | h
          · exact .inl hcon
          · exact .inr h)
      exact ⟨fun b hb => by
        rcases List.mem_cons.1 hb with rfl | hb
        · exact h2 _ hcon
        · exact h1 b hb, h2, h3⟩
    · rename_i hcon
      obtain ⟨k, hk, hkN, hnk⟩ : ∃ k : Nat, a = (k : Int) ∧ ∃ hk : k < g.nodes.length, nodeD g a = g.nodes[k] := ⟨a.toNat, by omega, by omega, by simp [nodeD, List.getElem?_eq_getElem (show a.toNat < g.nodes.length by omega)]⟩
      have hput := (leftG_put out k g.nodes 0).2 (Nat.zero_le _) (by rw [← hk]; simpa using hcon) g.nodes[k] (by simpa using List.getElem?_eq_getElem hkN)
      have hargs : argsN g.nodes a = g.nodes[k].args := by rw [argsN_D, hnk]
      rw [hargs, hk]
      simp only [List.length_cons] at hm
      obtain ⟨h1, h2, h3⟩ := reachG_all hc m (g.nodes[k].args ++ st) (out ++ [(k : Int)]) (fun b hb => by
        rcases List.mem_append.1 hb with hb | hb
        · exact may_args ((check_ns hc).2 _ (List.getElem_mem hkN)) b hb
        · exact hst b hb) (by rw [List.length_append]; omega) (fun b hb c hcc => by
        rcases List.mem_append.1 hb with hb | hb
        · rcases h b hb c hcc with h | h
          · exact .inl (List.mem_append.2 (.inl h))
          · rcases List.mem_cons.1 h with rfl | h
            · exact .inl (by rw [hk]; simp)
            · exact .inr (List.mem_append.2 (.inr h))
        · rw [List.mem_singleton.1 hb, ← hk, hnk] at hcc
          exact .inr (List.mem_append.2 (.inl hcc)))
      exact ⟨fun b hb => by
        rcases List.mem_cons.1 hb with rfl | hb
        · exact h2 _ (by simp)
        · exact h1 b (List.mem_append.2 (.inr hb)), fun b hb => h2 b (List.mem_append.2 (.inl hb)), h3⟩
/-- **What is reached is what is gone through.** -/
theorem reach_iff {g : Graph} (hc : checkF g = 0) (a : Int) : a ∈ reachF g ↔ Rch g a := by
  have hr := check_root hc
  rw [reachF, if_pos hc]
  constructor
  · exact reachG_sound _ _ _ (fun b hb => by rw [List.mem_singleton.1 hb]; exact .root) (fun b hb => by cases hb) a
  · obtain ⟨h1, _, h3⟩ := reachG_all hc (1 + leftG [] g.nodes 0) [g.root] [] (fun b hb => by rw [List.mem_singleton.1 hb]; exact ⟨hr.1, hr.2.1⟩) (by simp) (fun b hb => (by cases hb))
    intro h
    induction h with
    | root => exact h1 _ (by simp)
    | step _ hb ih => exact h3 _ ih _ hb
theorem Rch.ok {g : Graph} (hc : checkF g = 0) {a : Int} (h : Rch g a) : 0 ≤ a ∧ a < g.nodes.length := by
  have := (reach_iff hc a).2 h
  exact (reachF_ok g).1 a this
theorem node_in {g : Graph} {a : Int} (h : 0 ≤ a ∧ a < g.nodes.length) : nodeD g a ∈ g.nodes := by
  have hk : a.toNat < g.nodes.length := by omega
  have : nodeD g a = g.nodes[a.toNat] := by simp [nodeD, List.getElem?_eq_getElem hk]
  rw [this]; exact List.getElem_mem hk
/-- The first is reached first. -/
theorem reach_head {g : Graph} (hc : checkF g = 0) : ∃ l, reachF g = g.root :: l := by
  rw [reachF, if_pos hc, Nat.add_comm, reachG]
  simp only [List.contains_nil, Bool.false_eq_true, if_false, List.nil_append]
  have : ∀ (m : Nat) (st out : List Int), ∃ l, reachG g.nodes m st out = out ++ l := by
    intro m
    induction m with
    | zero => intro st out; exact ⟨[], by simp [reachG]⟩
    | succ m ih =>
      intro st out
      cases st with
      | nil => exact ⟨[], by simp [reachG]⟩
      | cons a st =>
        rw [reachG]
        split
        · exact ih st out
        · obtain ⟨l, hl⟩ := ih (argsN g.nodes a ++ st) (out ++ [a])
          exact ⟨a :: l, by rw [hl]; simp⟩
  obtain ⟨l, hl⟩ := this (leftG [] g.nodes 0) (argsN g.nodes g.root ++ []) [g.root]
  exact ⟨l, by rw [hl]; rfl⟩
/-- One graph is another one's, nodes made one by q. -/
structure Quo (g L : Graph) (q : Int → Int) : Prop where
  root : L.root = q g.root
  node : ∀ i, Rch g i → nodeD L (q i) = { nodeD g i with args := (nodeD g i).args.map q }
  surj : ∀ x : Int, 0 ≤ x → x < L.nodes.length → ∃ i, Rch g i ∧ q i = x
  range : ∀ i, Rch g i → 0 ≤ q i ∧ q i < L.nodes.length
  inj : ∀ i j, Rch g i → Rch g j → cfreeF (nodeD g i) = true → q i = q j → i = j
  check : checkF L = 0
theorem idx_lt {l : List Int} {a : Int} (h : a ∈ l) : toIdx l a < l.length ∧ l[toIdx l a]? = some a := by
  have hc : l.contains a = true := by simpa using h
  rw [toIdx, if_pos hc]
  have := List.idxOf_lt_length_of_mem h
  exact ⟨this, by rw [List.getElem?_eq_getElem this]; simp⟩
theorem checkF_ok {g : Graph} (h0 : 0 ≤ g.root) (h1 : g.root < g.nodes.length) (h2 : g.nodes.length ≤ 1048576) (h3 : ∀ n ∈ g.nodes, mayF n g.nodes.length = true) : checkF g = 0 := by
  unfold checkF
  simp only [Int.ofNat_eq_natCast]
  rw [if_neg (by omega), if_neg (by omega), if_neg (by omega), if_neg]
  simp only [List.any_eq_true, not_exists, not_and]
  intro n hn
  rw [h3 n hn]; simp
/-- Other numbers, and as many. -/
theorem may_map {n : Node} {N M : Int} (h : mayF n N = true) (f : Int → Int) (hf : ∀ a ∈ n.args, 0 ≤ f a ∧ f a < M) : mayF { n with args := n.args.map f } M = true := by
  have h1 : (n.args.map f).any (fun a => decide (a < 0) || decide (a ≥ M)) = false := by
    rw [List.any_eq_false]
    intro a ha
    obtain ⟨b, hb, rfl⟩ := List.mem_map.1 ha
    have := hf b hb
    simp; omega
  unfold mayF at h ⊢
  split at h
  · cases h
  rw [h1]
  simpa using h
theorem sum_sub (f : Int → Nat) : ∀ (l r : List Int), l.Nodup → (∀ x ∈ l, x ∈ r) → (l.map f).sum ≤ (r.map f).sum
  | [], r, _, _ => by simp
  | x :: l, r, hn, hs => by
    have hx := hs x (by simp)
    have hp : r.Perm (x :: r.erase x) := List.perm_cons_erase hx
    obtain ⟨h1, h2⟩ := List.nodup_cons.1 hn
    have ih := sum_sub f l (r.erase x) h2 fun y hy => (List.mem_erase_of_ne (by rintro rfl; exact h1 hy)).2 (hs y (by simp [hy]))
    have := (hp.map f).sum_nat
    simp only [List.map_cons, List.sum_cons] at this ⊢
    omega
def allN (n : Nat) : List Int := (List.range n).map fun (i : Nat) => (i : Int)
theorem mem_allN {n : Nat} {a : Int} : a ∈ allN n ↔ 0 ≤ a ∧ a < n := by
  simp only [allN, List.mem_map, List.mem_range]
  constructor
  · rintro ⟨i, hi, rfl⟩; omega
  · rintro ⟨h1, h2⟩; exact ⟨a.toNat, by omega, by omega⟩
theorem trim_len {g : Graph} (_ : checkF g = 0) : (reachF g).length ≤ g.nodes.length := by
  obtain ⟨h1, h2⟩ := reachF_ok g
  have := sum_sub (fun _ => 1) (reachF g) (allN g.nodes.length) h2 fun x hx => mem_allN.2 (h1 x hx)
  have e : ∀ l : List Int, (l.map fun _ => 1).sum = l.length := fun l => by
    induction l with
    | nil => rfl
    | cons a l ih => simp only [List.map_cons, List.sum_cons, ih, List.length_cons]; omega
  rw [e, e] at this
  simpa [allN] using this
/-- **What is left is the graph itself, but for what isn't reached.** -/
theorem trim_quo {g : Graph} (hc : checkF g = 0) : Quo g (trimF g) (fun a => (toIdx (reachF g) a : Int)) := by
  have hmem := reach_iff hc
  have hnode : ∀ i, Rch g i → nodeD (trimF g) (toIdx (reachF g) i : Int) = trimN (reachF g) (nodeD g i) := by
    intro i hi
    obtain ⟨h1, h2⟩ := idx_lt ((hmem i).2 hi)
    simp only [nodeD, trimF, Int.toNat_natCast, List.getD, List.getElem?_map, h2]
    rfl
  obtain ⟨l, hl⟩ := reach_head hc
  have hroot : toIdx (reachF g) g.root = 0 := by rw [hl, toIdx]; simp
  have hlen : (trimF g).nodes.length = (reachF g).length := by simp [trimF]
  refine ⟨by show (0 : Int) = _; rw [hroot]; rfl, hnode, ?_, ?_, ?_, ?_⟩
  · intro x h0 h1
    rw [hlen] at h1
    have hx : x.toNat < (reachF g).length := by omega
    refine ⟨(reachF g)[x.toNat], (hmem _).1 (List.getElem_mem hx), ?_⟩
    have hm := List.getElem_mem hx
    obtain ⟨h3, h4⟩ := idx_lt hm
    rw [List.getElem?_eq_getElem h3] at h4
    have := (List.getElem_inj (reachF_ok g).2).1 (Option.some.inj h4)
    show ((toIdx (reachF g) (reachF g)[x.toNat] : Nat) : Int) = x
    omega
  · intro i hi
    have := (idx_lt ((hmem i).2 hi)).1
    rw [hlen]; exact ⟨by omega, by omega⟩
  · intro i j hi hj _ he
    have he : ((toIdx (reachF g) i : Nat) : Int) = (toIdx (reachF g) j : Nat) := he
    have h1 := (idx_lt ((hmem i).2 hi)).2
    have h2 := (idx_lt ((hmem j).2 hj)).2
    have : toIdx (reachF g) i = toIdx (reachF g) j := by omega
    rw [this, h2] at h1
    exact (Option.some.inj h1).symm
  · refine checkF_ok (by show (0 : Int) ≤ 0; decide) ?_ ?_ ?_
    · show (0 : Int) < _
      rw [hlen, hl]; simp
    · rw [hlen]
      have := trim_len hc
      have := (check_root hc).2.2.1
      omega
    · intro n hn
      obtain ⟨i, hi, rfl⟩ := List.mem_map.1 hn
      have hri := (hmem i).1 hi
      rw [hlen]
      refine may_map ((check_ns hc).2 _ (node_in (hri.ok hc))) (fun a => (toIdx (reachF g) a : Int)) fun a ha => ?_
      have := (idx_lt ((hmem a).2 (hri.step ha))).1
      exact ⟨by omega, by omega⟩
end Go.Ab.S
end
section
/-
  The least graph is the graph itself, nodes that may be one made one; nothing more of it may be.
-/
namespace Go.Ab.S
open Go.Ab
set_option maxHeartbeats 1000000
/-- Nothing of it may be one that isn't. -/
def Least (L : Graph) : Prop := ∀ E : Int → Int → Prop, (∀ x y, E x y → (0 ≤ x ∧ x < L.nodes.length) ∧ (0 ≤ y ∧ y < L.nodes.length) ∧ (x = y ∨ (cfreeF (nodeD L x) = false ∧ cfreeF (nodeD L y) = false ∧ (nodeD L x).kind = (nodeD L y).kind ∧ (nodeD L x).name = (nodeD L y).name ∧ (nodeD L x).labels = (nodeD L y).labels ∧ (nodeD L x).args.length = (nodeD L y).args.length ∧
  ∀ (k : Nat) (a b : Int), (nodeD L x).args[k]? = some a → (nodeD L y).args[k]? = some b → E a b))) → ∀ x y, E x y → x = y
theorem nodeD_nat (g : Graph) (i : Nat) : nodeD g (i : Int) = g.nodes.getD i dNode := rfl
/-- The graph of classes. -/
def clsG (g : Graph) : Graph := ⟨g.nodes.map (mapN (classesF g)), clAt (classesF g) g.root⟩
theorem cls_in {g : Graph} (hc : checkF g = 0) {a : Int} (ha : 0 ≤ a ∧ a < g.nodes.length) : 0 ≤ clAt (classesF g) a ∧ clAt (classesF g) a < g.nodes.length ∧ clAt (classesF g) a ≤ a ∧ clAt (classesF g) (clAt (classesF g) a) = clAt (classesF g) a := by
  obtain ⟨k, rfl⟩ : ∃ k : Nat, a = (k : Int) := ⟨a.toNat, by omega⟩
  obtain ⟨j, h1, h2, h3⟩ := (classes_ok hc).2.le k (by omega)
  rw [h1]
  exact ⟨by omega, by omega, by omega, h3⟩
theorem cls_node {g : Graph} {a : Int} (ha : 0 ≤ a ∧ a < g.nodes.length) : nodeD (clsG g) a = mapN (classesF g) (nodeD g a) := by
  have hk : a.toNat < g.nodes.length := by omega
  simp only [nodeD, clsG, List.getD, List.getElem?_map, List.getElem?_eq_getElem hk]
  rfl
theorem cls_check {g : Graph} (hc : checkF g = 0) : checkF (clsG g) = 0 := by
  obtain ⟨h1, h2, h3, h4⟩ := check_root hc
  have hr := cls_in hc ⟨h1, h2⟩
  have hl : (clsG g).nodes.length = g.nodes.length := by simp [clsG]
  refine checkF_ok hr.1 (by rw [hl]; exact hr.2.1) (by rw [hl]; exact h3) fun n hn => ?_
  obtain ⟨m, hm, rfl⟩ := List.mem_map.1 hn
  rw [hl]
  refine may_map (h4 m hm) (clAt (classesF g)) fun a ha => ?_
  have := cls_in hc (may_args (h4 m hm) a ha)
  exact ⟨this.1, this.2.1⟩
theorem cls_same {g : Graph} (hc : checkF g = 0) {a b : Int} (ha : 0 ≤ a ∧ a < g.nodes.length) (hb : 0 ≤ b ∧ b < g.nodes.length) (he : clAt (classesF g) a = clAt (classesF g) b) :
    ((cfreeF (nodeD g a) = true ∨ cfreeF (nodeD g b) = true) → a = b) ∧ (nodeD g a).kind = (nodeD g b).kind ∧ (nodeD g a).name = (nodeD g b).name ∧ (nodeD g a).labels = (nodeD g b).labels ∧ (nodeD g a).args.map (clAt (classesF g)) = (nodeD g b).args.map (clAt (classesF g)) ∧ cfreeF (nodeD g a) = cfreeF (nodeD g b) := by
  obtain ⟨i, rfl⟩ : ∃ k : Nat, a = (k : Int) := ⟨a.toNat, by omega⟩
  obtain ⟨j, rfl⟩ : ∃ k : Nat, b = (k : Int) := ⟨b.toNat, by omega⟩
  obtain ⟨h1, h2⟩ := classes_alike hc (i := i) (j := j) (by omega) (by omega) he
  exact ⟨fun h => by rw [h1 h], h2⟩
theorem open_of {n : Node} {N : Int} (h : mayF n N = true) : cfreeF n = false → n.isOpen = false := by
  intro hf
  simp only [cfreeF, Bool.or_eq_false_iff] at hf
  exact hf.2
/-- All of a class is alike, its arguments' classes too. -/
theorem cls_mapN {g : Graph} (hc : checkF g = 0) {a b : Int} (ha : 0 ≤ a ∧ a < g.nodes.length) (hb : 0 ≤ b ∧ b < g.nodes.length) (he : clAt (classesF g) a = clAt (classesF g) b) : mapN (classesF g) (nodeD g a) = mapN (classesF g) (nodeD g b) := by
  obtain ⟨h0, h1, h2, h3, h4, h5⟩ := cls_same hc ha hb he
  by_cases hf : cfreeF (nodeD g a) = true
  · rw [h0 (.inl hf)]
  · have hfa : cfreeF (nodeD g a) = false := by simpa using hf
    have hfb : cfreeF (nodeD g b) = false := by rw [← h5]; exact hfa
    have oa := open_of ((check_ns hc).2 _ (node_in ha)) hfa
    have ob := open_of ((check_ns hc).2 _ (node_in hb)) hfb
    generalize nodeD g a = n at *
    generalize nodeD g b = m at *
    obtain ⟨k, nm, ar, lb, op⟩ := n
    obtain ⟨k', nm', ar', lb', op'⟩ := m
    simp only at *
    subst h1; subst h2; subst h3; subst oa; subst ob
    simp only [mapN, h4]
theorem cls_rch {g : Graph} (hc : checkF g = 0) {a : Int} (h : Rch g a) : Rch (clsG g) (clAt (classesF g) a) := by
  induction h with
  | root => exact .root
  | @step a b ha hb ih =>
    have hra := ha.ok hc
    have hca := cls_in hc hra
    refine .step ih ?_
    rw [cls_node ⟨hca.1, hca.2.1⟩, cls_mapN hc ⟨hca.1, hca.2.1⟩ hra hca.2.2.2]
    exact List.mem_map.2 ⟨b, hb, rfl⟩
theorem cls_back {g : Graph} (hc : checkF g = 0) {x : Int} (h : Rch (clsG g) x) : ∃ a, Rch g a ∧ clAt (classesF g) a = x := by
  induction h with
  | root => exact ⟨_, .root, rfl⟩
  | @step x y hx hy ih =>
    obtain ⟨a, ha, rfl⟩ := ih
    have hra := ha.ok hc
    have hca := cls_in hc hra
    rw [cls_node ⟨hca.1, hca.2.1⟩, cls_mapN hc ⟨hca.1, hca.2.1⟩ hra hca.2.2.2] at hy
    obtain ⟨b, hb, rfl⟩ := List.mem_map.1 hy
    exact ⟨b, ha.step hb, rfl⟩
def qL (g : Graph) (a : Int) : Int := (toIdx (reachF (clsG g)) (clAt (classesF g) a) : Nat)
theorem leastF_eq {g : Graph} (hc : checkF g = 0) : leastF g = trimF (clsG g) := by rw [leastF, if_pos hc]; rfl
/-- **The least graph.** -/
theorem least_quo {g : Graph} (hc : checkF g = 0) : Quo g (leastF g) (qL g) := by
  have T := trim_quo (cls_check hc)
  rw [leastF_eq hc]
  refine ⟨T.root, fun i hi => ?_, fun x h0 h1 => ?_, fun i hi => T.range _ (cls_rch hc hi), fun i j hi hj hf he => ?_, T.check⟩
  · have hri := hi.ok hc
    have hci := cls_in hc hri
    have := T.node _ (cls_rch hc hi)
    rw [cls_node ⟨hci.1, hci.2.1⟩, cls_mapN hc ⟨hci.1, hci.2.1⟩ hri hci.2.2.2] at this
    refine Eq.trans this ?_
    simp only [mapN, List.map_map]
    rfl
  · obtain ⟨y, hy, rfl⟩ := T.surj x h0 h1
    obtain ⟨a, ha, rfl⟩ := cls_back hc hy
    exact ⟨a, ha, rfl⟩
  · have hri := hi.ok hc
    have hrj := hj.ok hc
    have h1 := (idx_lt ((reach_iff (cls_check hc) _).2 (cls_rch hc hi))).2
    have h2 := (idx_lt ((reach_iff (cls_check hc) _).2 (cls_rch hc hj))).2
    have he : ((toIdx (reachF (clsG g)) (clAt (classesF g) i) : Nat) : Int) = (toIdx (reachF (clsG g)) (clAt (classesF g) j) : Nat) := he
    have he' : toIdx (reachF (clsG g)) (clAt (classesF g) i) = toIdx (reachF (clsG g)) (clAt (classesF g) j) := by omega
    rw [he', h2] at h1
    exact (cls_same hc hri hrj (Option.some.inj h1).symm).1 (.inl hf)
theorem qL_inj {g : Graph} (hc : checkF g = 0) {i j : Int} (hi : Rch g i) (hj : Rch g j) (he : qL g i = qL g j) : clAt (classesF g) i = clAt (classesF g) j := by
  have h1 := (idx_lt ((reach_iff (cls_check hc) _).2 (cls_rch hc hi))).2
  have h2 := (idx_lt ((reach_iff (cls_check hc) _).2 (cls_rch hc hj))).2
  have he : ((toIdx (reachF (clsG g)) (clAt (classesF g) i) : Nat) : Int) = (toIdx (reachF (clsG g)) (clAt (classesF g) j) : Nat) := he
  have he' : toIdx (reachF (clsG g)) (clAt (classesF g) i) = toIdx (reachF (clsG g)) (clAt (classesF g) j) := by omega
  rw [he', h2] at h1
  exact (Option.some.inj h1).symm
/-- **Nothing of the least graph may be one that isn't.** -/
theorem least_least {g : Graph} (hc : checkF g = 0) : Least (leastF g) := by
  have Q := least_quo hc
  intro E hE x y hxy
  obtain ⟨⟨x0, x1⟩, ⟨y0, y1⟩, _⟩ := hE x y hxy
  obtain ⟨i, hi, rfl⟩ := Q.surj x x0 x1
  obtain ⟨j, hj, rfl⟩ := Q.surj y y0 y1
  have key : clAt (classesF g) ((i.toNat : Nat) : Int) = clAt (classesF g) ((j.toNat : Nat) : Int) := by
    refine classes_most (E := fun a b => Rch g (a : Int) ∧ Rch g (b : Int) ∧ (qL g (a : Int) = qL g (b : Int) ∨ E (qL g (a : Int)) (qL g (b : Int)))) ?_ ?_
    · rintro a b ⟨ha, hb, hab⟩
      have hra := ha.ok hc
      have hrb := hb.ok hc
      refine ⟨by omega, by omega, ?_⟩
      have h := show _ ∨ _ from (by
        rcases hab with h | h
        · exact .inl h
        · exact (hE _ _ h).2.2)
      have na := Q.node _ ha
      have nb := Q.node _ hb
      rw [← nodeD_nat, ← nodeD_nat]
      by_cases hf : cfreeF (nodeD g (a : Int)) = true
      · refine .inl ?_
        rcases h with h | ⟨h, _⟩
        · have := Q.inj _ _ ha hb hf h; omega
        · rw [na] at h
          have : cfreeF (nodeD g (a : Int)) = false := h
          rw [hf] at this; cases this
      by_cases hf' : cfreeF (nodeD g (b : Int)) = true
      · refine .inl ?_
        rcases h with h | ⟨_, h, _⟩
        · have := Q.inj _ _ hb ha hf' h.symm; omega
        · rw [nb] at h
          have : cfreeF (nodeD g (b : Int)) = false := h
          rw [hf'] at this; cases this
      refine .inr ⟨by simpa using hf, by simpa using hf', ?_⟩
      have hsame : (nodeD g (a : Int)).kind = (nodeD g (b : Int)).kind ∧ (nodeD g (a : Int)).name = (nodeD g (b : Int)).name ∧ (nodeD g (a : Int)).labels = (nodeD g (b : Int)).labels ∧ (nodeD g (a : Int)).args.length = (nodeD g (b : Int)).args.length ∧
          ∀ (k : Nat) (c d : Int), (nodeD g (a : Int)).args[k]? = some c → (nodeD g (b : Int)).args[k]? = some d → (qL g c = qL g d ∨ E (qL g c) (qL g d)) := by
        rcases h with h | ⟨_, _, h1, h2, h3, h4, h5⟩
        · rw [h] at na
          rw [na] at nb
          have e0 := congrArg Node.kind nb
          have e1' := congrArg Node.name nb
          have e2' := congrArg Node.labels nb
          have e3' := congrArg Node.args nb
          simp only at e0 e1' e2' e3'
          refine ⟨e0, e1', e2', by simpa using congrArg List.length e3', fun k c d hcc hdd => ?_⟩
          have := congrArg (fun l => l[k]?) e3'
          simp only [List.getElem?_map, hcc, hdd, Option.map_some, Option.some.injEq] at this
          exact .inl this
        · rw [na, nb] at h1 h2 h3 h4 h5
          simp only at h1 h2 h3 h4 h5
          refine ⟨h1, h2, h3, by simpa using h4, fun k c d hcc hdd => ?_⟩
          exact .inr <| h5 k _ _ (by rw [List.getElem?_map, hcc]; rfl) (by rw [List.getElem?_map, hdd]; rfl)
      obtain ⟨h1, h2, h3, h4, h5⟩ := hsame
      refine ⟨h1, h2, h3, h4, fun k c d hcc hdd => ?_⟩
      have hc1 := ha.step (List.mem_of_getElem? hcc)
      have hd1 := hb.step (List.mem_of_getElem? hdd)
      have hc2 := hc1.ok hc
      have hd2 := hd1.ok hc
      have e1' : ((c.toNat : Nat) : Int) = c := by omega
      have e2' : ((d.toNat : Nat) : Int) = d := by omega
      show Rch g ((c.toNat : Nat) : Int) ∧ Rch g ((d.toNat : Nat) : Int) ∧ (qL g ((c.toNat : Nat) : Int) = qL g ((d.toNat : Nat) : Int) ∨ E (qL g ((c.toNat : Nat) : Int)) (qL g ((d.toNat : Nat) : Int)))
      rw [e1', e2']
      exact ⟨hc1, hd1, h5 k c d hcc hdd⟩
    · have e1' : ((i.toNat : Nat) : Int) = i := by have := hi.ok hc; omega
      have e2' : ((j.toNat : Nat) : Int) = j := by have := hj.ok hc; omega
      rw [e1', e2']
      exact ⟨hi, hj, .inr hxy⟩
  have e1' : ((i.toNat : Nat) : Int) = i := by have := hi.ok hc; omega
  have e2' : ((j.toNat : Nat) : Int) = j := by have := hj.ok hc; omega
  rw [e1', e2'] at key
  show ((toIdx (reachF (clsG g)) (clAt (classesF g) i) : Nat) : Int) = (toIdx (reachF (clsG g)) (clAt (classesF g) j) : Nat)
  rw [key]
end Go.Ab.S
end
section
/-
  What is left is small if what was there is.
-/
namespace Go.Ab.S
open Go.Ab
set_option maxHeartbeats 1000000
theorem leftG_sum : ∀ (ns : List Node) (i : Nat), leftG [] ns i = (ns.map fun n => n.args.length).sum
  | [], _ => rfl
  | n :: r, i => by simp only [leftG, List.map_cons, List.sum_cons, leftG_sum r (i + 1)]; simp
theorem all_nodes (g : Graph) : (allN g.nodes.length).map (nodeD g) = g.nodes := by
  apply List.ext_getElem?
  intro i
  simp only [allN, List.map_map, List.getElem?_map]
  by_cases hi : i < g.nodes.length
  · rw [List.getElem?_range hi]; simp [nodeD, hi]
  · rw [List.getElem?_eq_none (by simpa using hi), List.getElem?_eq_none (by simpa using hi)]; rfl
theorem trim_tiny {g : Graph} (hg : GTi g) (hc : checkF g = 0) : GTi (trimF g) := by
  have hlen : (trimF g).nodes.length = (reachF g).length := by simp [trimF]
  have hl := trim_len hc
  have hsum : leftG [] (trimF g).nodes 0 ≤ leftG [] g.nodes 0 := by
    obtain ⟨h1, h2⟩ := reachF_ok g
    have := sum_sub (fun a => (nodeD g a).args.length) (reachF g) (allN g.nodes.length) h2 fun x hx => mem_allN.2 (h1 x hx)
    rw [leftG_sum, leftG_sum]
    have e : (g.nodes.map fun n => n.args.length) = (allN g.nodes.length).map fun a => (nodeD g a).args.length := by
      conv => lhs; rw [← all_nodes g]
      rw [List.map_map]; rfl
    rw [e]
    simp only [trimF, List.map_map]
    have e2 : ((fun n : Node => n.args.length) ∘ fun i => trimN (reachF g) (nodeD g i)) = fun a => (nodeD g a).args.length := by
      funext a; simp [trimN]
    rw [e2]; exact this
  have hin : ∀ n ∈ (trimF g).nodes, ∃ m ∈ g.nodes, n.args.length = m.args.length ∧ n.labels = m.labels := by
    intro n hn
    obtain ⟨i, hi, rfl⟩ := List.mem_map.1 hn
    exact ⟨_, node_in ((reachF_ok g).1 i hi), by simp [trimN], rfl⟩
  have ht := hg.tiny
  have hto := hg.total
  refine ⟨⟨⟨by rw [hlen]; have := hg.nodes; omega, fun n hn => ?_⟩, by rw [hlen]; omega, fun n hn => ?_⟩, by rw [hlen]; omega⟩
  · obtain ⟨m, hm, h1, h2⟩ := hin n hn
    have := hg.all m hm
    exact ⟨by rw [h1]; exact this.args, by rw [h2]; exact this.labels, by rw [h2]; exact this.texts⟩
  · obtain ⟨m, hm, h1, h2⟩ := hin n hn
    rw [h2]; exact hg.labs m hm
theorem least_tiny {g : Graph} (hg : GTi g) (hc : checkF g = 0) : GTi (leastF g) := by
  rw [leastF_eq hc]
  exact trim_tiny (hg.map _ _) (cls_check hc)
end Go.Ab.S
end
section
/-
  Whether a type is an instance of another one.
-/
namespace Go.Ab.S
open Go.Ab
set_option maxHeartbeats 8000000
def isF (g h : Graph) : Bool := checkF g == 0 && (checkF h == 0 && walkG (okI g (leastF h)) (nxI g (leastF h)) (badI g) (2 + leftW (nxI g (leastF h)) [] (pairsS g (leastF h))) [(g.root, (leastF h).root)] [])
theorem fill_m {a : AAct} {x y z u : AOpd} {p q r s z0 z1 z2 z3 z4 z5 z6 : AVal} {m1 m2 : Option Nat} (hx : ev a x = some (.agg [p, q])) (hy : ev a y = some (.agg [r, s])) (hm1 : ev a z = some (.map m1)) (hm2 : ev a u = some (.map m2)) :
    fillA a [z0, z1, z2, z3, z4, z5, z6] [(0, 2, x), (2, 2, y), (4, 1, z), (5, 1, u)] = some [p, q, r, s, .map m1, .map m2, z6] := by
  simp [fillA, hx, hy, hm1, hm2, cellsA]
theorem nxI_len {g h : Graph} (p : Pr) : (nxI g h p).length ≤ (nodeD g p.1).args.length := by
  simp only [nxI, nxN]
  split <;> simp [fwdI]
theorem nxI_in {g h : Graph} (hg : GTi g) (hh : GTi h) (cg : checkF g = 0) (ch : checkF h = 0) {p : Pr} (hp : p ∈ pairsS g h) (ho : okI g h p = true) : ∀ q ∈ nxI g h p, q ∈ pairsS g h := by
  intro q hq
  obtain ⟨⟨a0, a1⟩, b0, b1⟩ := mem_pairsS.1 hp
  have hx := nodeD_mem a0 a1
  have hy := nodeD_mem b0 b1
  simp only [okI, okN, Bool.or_eq_true, Bool.and_eq_true, beq_iff_eq] at ho
  simp only [nxI, nxN] at hq
  split at hq
  · cases hq
  · rename_i hk1
    have hk1' : (nodeD g p.1).kind ≠ 1 := by simpa using hk1
    rcases ho with ho | ⟨⟨⟨h1, h2⟩, _⟩, h4⟩
    · exact absurd ho hk1'
    have hf := fit_of hg hh cg ch hx hy h1 (eqL_iff.1 h2) hk1'
    simp only [fwdI, List.mem_reverse, List.mem_map, List.mem_range] at hq
    obtain ⟨i, hi, rfl⟩ := hq
    have hidx : idxI (nodeD g p.1) (nodeD h p.2) i < (nodeD h p.2).args.length := by
      by_cases hk3 : (nodeD g p.1).kind = 3
      · obtain ⟨q1, q2, q3⟩ := hf.obj hk3
        have hk3' : ((nodeD g p.1).kind == 3) = true := by simpa using hk3
        rw [argsOk, hk3'] at h4
        simp only [if_true, List.all_eq_true] at h4
        have hil : i < (nodeD g p.1).labels.length := by omega
        have := bsIs_lt (h4 _ (List.getElem_mem hil))
        rw [idxI, hk3']
        simp only [if_true, List.getD, List.getElem?_eq_getElem hil, Option.getD_some]
        omega
      · have hk3' : ((nodeD g p.1).kind == 3) = false := by simpa using hk3
        rw [idxI, hk3', hf.con hk3]; simpa using hi
    simp only [List.getD, List.getElem?_eq_getElem hi, List.getElem?_eq_getElem hidx, Option.getD_some]
    exact mem_pairsS.2 ⟨may_args ((check_ns cg).2 _ hx) _ (List.getElem_mem hi), may_args ((check_ns ch).2 _ hy) _ (List.getElem_mem hidx)⟩
section
variable {fns : FuncId → Option AFunc} {summ : FuncId → List AVal → AHeap → Option (D (AVal × AHeap))} {ro : Option Nat}
theorem dr_fill_m {i pp : Nat} {d : Option Tmp} {x y z u : AOpd} {l : List DStep} {hs : List Held} {a : AAct} {h : AHeap} {K : AAct → AHeap → Prop} {p q r s z0 z1 z2 z3 z4 z5 z6 : AVal} {m1 m2 : Option Nat} (hx : ev a x = some (.agg [p, q])) (hy : ev a y = some (.agg [r, s])) (hm1 : ev a z = some (.map m1)) (hm2 : ev a u = some (.map m2))
    (k : Dr fns summ ro l hs (putA a d (.agg [p, q, r, s, .map m1, .map m2, z6])) h K) : Dr fns summ ro (⟨i, pp, ⟨d, none, .q (.build [z0, z1, z2, z3, z4, z5, z6] [(0, 2, x), (2, 2, y), (4, 1, z), (5, 1, u)])⟩⟩ :: l) hs a h K := by
  refine dr_q (v := .agg [p, q, r, s, .map m1, .map m2, z6]) ?_ k
  rw [qA_build, fill_m hx hy hm1 hm2]
theorem dr_sliceHi {i pp : Nat} {d : Option Tmp} {e : TypeId} {sz b o n m : Nat} {kd : IntKind} {x y : AOpd} {l : List DStep} {hs : List Held} {a : AAct} {h : AHeap} {K : AAct → AHeap → Prop} (hx : ev a x = some (.slice (some (b, o)) n)) (hy : ev a y = some (.int kd (m : Nat))) (hm : m ≤ n) (k : Dr fns summ ro l hs (putA a d (.slice (some (b, o)) m)) h K) :
    Dr fns summ ro (⟨i, pp, ⟨d, none, .q (.slice e sz x none (some y))⟩⟩ :: l) hs a h K := by
  refine dr_q (v := .slice (some (b, o)) m) ?_ k
  simp only [qA_slice, hx, boundA, hy, Int.toNat_natCast]
  rw [if_pos (show (0 : Int) ≤ (m : Nat) ∧ m ≤ n from ⟨by omega, hm⟩)]
end
section
variable {fns : FuncId → Option AFunc} {summ : FuncId → List AVal → AHeap → Option (D (AVal × AHeap))}
variable (H : Has fns summ)
include H
theorem Is_ok (g h : Graph) (hg : GTi g) (hh : GTi h) (v u : AVal) (h0 : AHeap) (hw : WF h0) (hv : GraphAt h0 v g) (hu : GraphAt h0 u h) : Cl fns summ 11 [v, u] h0 fun r h' => r = .bool (isF g h) ∧ Grow h0 h' := by
  obtain ⟨nv, rfl, hN⟩ := hv
  obtain ⟨mv, rfl, hM⟩ := hu
  refine H.go (fn := F_Is) rfl (by decide) rfl rfl ?_
  unfold F_Is
  dsimp only
  refine cd_seq (cd_ops ?_)
  refine st_box (by exact e1) (by exact cc) hw ?_
  rintro b2 h2 hb2 g2 o2
  refine st_box (by exact e1) (by exact cc) g2.wf ?_
  rintro b3 h3 hb3 g3 o3
  replace o2 := g3.keep _ _ o2
  have g03 := g2.trans g3
  have hpart : partA (some 2) [nv, .int .i64 g.root] 0 = some (.agg [nv, .int .i64 g.root]) := rfl
  have hpart' : partA (some 2) [mv, .int .i64 h.root] 0 = some (.agg [mv, .int .i64 h.root]) := rfl
  have ht2 : ∀ x y : AVal, List.take 2 [x, y] = [x, y] := fun _ _ => rfl
  repeat with_reducible first | refine nxt_normal ?_ | refine st_nil ?_ | refine cd_seq ?_ | refine cd_ops ?_ | (apply st_q; exact q1)
  refine st_call (by exact s1) ((Check_ok H g hg.toGraphSm _ h3 g3.wf ⟨nv, rfl, hN.mono g03⟩).mono ?_)
  rintro _ h4 ⟨rfl, g4⟩
  replace o2 := g4.keep _ _ o2
  replace o3 := g4.keep _ _ o3
  have g04 := g03.trans g4
  cases hck : (checkF g != 0)
  · have hcg : checkF g = 0 := by simpa using hck
    replace hcg := Hid.mk hcg
    repeat with_reducible first | (apply st_q; exact q1) | (apply st_qT; exact e1; exact q1)
    refine st_callT (by exact e1) (by exact s1) ((Check_ok H h hh.toGraphSm _ h4 g4.wf ⟨mv, rfl, hM.mono g04⟩).mono ?_)
    rintro _ h5 ⟨rfl, g5⟩
    replace o2 := g5.keep _ _ o2
    replace o3 := g5.keep _ _ o3
    have g05 := g04.trans g5
    cases hch : (checkF h != 0)
    · have hchh : checkF h = 0 := by simpa using hch
      have hgL : Hid (GTi (leastF h)) := ⟨least_tiny hh hchh⟩
      have hcL : Hid (checkF (leastF h) = 0) := ⟨(least_quo hchh).check⟩
      have hok0 := Hid.mk hchh
      replace hchh := Hid.mk hchh
      have hres : isF g h = walkG (okI g (leastF h)) (nxI g (leastF h)) (badI g) (2 + leftW (nxI g (leastF h)) [] (pairsS g (leastF h))) [(g.root, (leastF h).root)] [] := by
        have h1 : (checkF g == 0) = true := by rw [hcg.out]; rfl
        have h2 : (checkF h == 0) = true := by rw [hchh.out]; rfl
        rw [isF, h1, h2]; rfl
      replace hres := Hid.mk hres
      repeat with_reducible first | refine nxt_normal ?_ | refine st_nil ?_ | refine cd_seq ?_ | refine cd_skip ?_ | refine cd_draw ?_ | (apply dr_ql; exact q1; exact og1) | (apply st_q; exact q1) | (apply st_qT; exact e1; exact q1) | (apply cd_condF; exact e1)
      refine dr_e (ex_callF (by exact s1) ((Least_ok H h hh hok0.out _ h5 g5.wf ⟨mv, rfl, hM.mono g05⟩).mono ?_))
      rintro lv h6 ⟨⟨ln, cs, rfl, kB, kl, kn⟩, g6⟩
      have hOG : OwnG h6 h5.next (.agg [ln, .int .i64 (leastF h).root]) (leastF h) := ⟨ln, cs, rfl, kB, kl, kn⟩
      obtain ⟨_, hq, hL⟩ := hOG.graph
      cases hq
      clear kB kl kn hOG
      refine ⟨by simp [heldOk, Nat.testBit, g6.keep _ _ o2], ?_⟩
      have o26 := g6.keep _ _ o2
      have o36 := g6.keep _ _ o3
      have g06 := g05.trans g6
      generalize hLL : leastF h = L at *
      clear hLL
      clear hM o2 o3
      refine dr_st (st_mkmap (.inl rfl) g6.wf ?_)
      rintro rm h7 (hrm : h6.next ≤ rm) (g7 : Grow h6 h7) o7
      refine st_nil ⟨by simp [heldOk, Nat.testBit, g7.keep _ _ o26, g7.keep _ _ o36], ?_⟩
      have l7 := g7.wf.lt o7
      refine dr_st (st_mkmap (.inl rfl) g7.wf ?_)
      rintro rw' h8 (hrw : h7.next ≤ rw') (g8 : Grow h7 h8) o8
      have g68 := g7.trans g8
      have o28 := g68.keep _ _ o26
      have o38 := g68.keep _ _ o36
      refine st_nil ⟨by simp [heldOk, Nat.testBit, o28, o38], ?_⟩
      replace o7 := g8.keep _ _ o7
      refine dr_fill_m (p := nv) (q := .int .i64 g.root) (r := ln) (s := .int .i64 L.root) (m1 := some rm) (m2 := some rw') (by exact e1) (by exact e1) (by exact e1) (by exact e1) ?_
      refine dr_st (st_box (v := .agg [nv, .int .i64 g.root, ln, .int .i64 L.root, .map (some rm), .map (some rw'), .slice none 0]) (cs := [nv, .int .i64 g.root, ln, .int .i64 L.root, .map (some rm), .map (some rw'), .slice none 0]) (by exact e1) rfl g8.wf ?_)
      rintro bm h9 (hbm : h8.next ≤ bm) (g9 : Grow h8 h9) o9
      have g69 := g68.trans g9
      have o29 := g9.keep _ _ o28
      have o39 := g9.keep _ _ o38
      refine st_nil ⟨by simp [heldOk, Nat.testBit, o29, o39], ?_⟩
      replace o7 := g9.keep _ _ o7
      replace o8 := g9.keep _ _ o8
      clear o26 o36 o28 o38
      repeat with_reducible first | refine nxt_normal ?_ | refine cd_seq ?_ | refine dr_nil ?_ | refine cd_draw ?_ | (apply dr_pair; exact e1; exact e1) | (apply dr_q; exact q1) | (apply dr_ql; exact q1; exact og1)
      refine dr_st (st_bslice1 (v := .agg (pairC (g.root, L.root))) (cs := pairC (g.root, L.root)) (by exact e1) rfl rfl rfl g9.wf ?_)
      rintro b8 h10 (hb8 : h9.next ≤ b8) (g10 : Grow h9 h10) o10
      have o910 := g10.keep _ _ o9
      refine st_nil ⟨by simp [heldOk, Nat.testBit, g10.keep _ _ o29, o910], ?_⟩
      have lb8 := g10.wf.lt o10
      repeat with_reducible (apply dr_q; exact q1)
      have hone : one ln = true := one_of_len hL.len
      refine dr_st (st_store (by exact e1) (by exact e1) (cs := [.slice (some (b8, 0)) 1]) rfl rfl g10.wf o910 (by simp) rfl ?_)
      rintro v11 h11 (p11 : But bm h10 h11) o11
      simp only [List.take_succ_cons, List.take_zero, List.nil_append, List.length_cons, List.length_nil, List.drop_succ_cons, List.drop_zero, List.append_nil, Nat.zero_add, Nat.reduceAdd, List.drop_nil, List.cons_append] at o11
      refine st_nil ⟨by simp [heldOk, Nat.testBit], ?_⟩
      have g610 := g69.trans g10
      have n67 := g7.next
      have n68 := g68.next
      have n69 := g69.next
      have G11 : Grow h6 h11 := p11.grow h6 g6.wf g610 (by omega)
      have I0 : MInv h6 bm rm rw' nv ln g L [(g.root, L.root)] [] [] (.slice (some (b8, 0)) 1) h11 :=
        ⟨G11, ⟨_, o11⟩, ⟨_, _, _, p11.kp o910 (g10.keep _ _ o7) rfl, MP.zero⟩, ⟨_, _, _, p11.kp o910 (g10.keep _ _ o8) rfl, FA.zero⟩, .inr (.inr ⟨b8, _, _, by omega, rfl, p11.kp o910 o10 rfl, by simp [pairC], rfl⟩), by omega, by omega, by omega, by omega⟩
      have hrg := check_root hcg.out
      have hrL := check_root hcL.out
      have hroot : (g.root, L.root) ∈ pairsS g L := mem_pairsS.2 ⟨⟨hrg.1, hrg.2.1⟩, hrL.1, hrL.2.1⟩
      have hsm : leftW (nxI g L) [] (pairsS g L) ≤ 2 ^ 36 := left_small hg hgL.out fun p _ => nxI_len p
      have hN6 := hN.mono g06
      have w6 := g6.wf
      clear hrg hrL p11 o11 o910 o10 o9 o7 o8 o29 o39 g7 g8 g9 g10 g68 g69 g610 n67 n68 n69 l7 lb8 hrm hrw hbm hb8 G11 g2 g3 g4 g5 g6 g03 g04 g05 hb2 hb3 hck hch hpart hpart' hone
      repeat with_reducible first | refine nxt_normal ?_ | refine cd_seq ?_ | refine dr_nil ?_
      with_reducible refine cd_block ?_
      refine cd_loop (fun m a hp => ∃ w met vw, MInv h6 bm rm rw' nv ln g L w met (flI g met) vw hp ∧ w.length + leftW (nxI g L) met (pairsS g L) < m ∧ w.length + leftW (nxI g L) met (pairsS g L) ≤ 1 + leftW (nxI g L) [] (pairsS g L) ∧ Hid (isF g h = walkG (okI g L) (nxI g L) (badI g) m w met) ∧ (∀ q ∈ w, q ∈ pairsS g L) ∧ a.defers = [] ∧
        ev a (.tmp 5) = some (.ptr (some (bm, 0)))) ?_ (n := 2 + leftW (nxI g L) [] (pairsS g L))
        ⟨_, _, _, I0, by simp, by simp, hres, by simpa using hroot, by exact n1, by exact e1⟩
      clear I0 hres hroot
      rintro m a hp ⟨w, met, vw, I, hm, hB, hres, hwp, hd, h5'⟩
      have hlw := I.bw.len
      obtain ⟨vm, om⟩ := I.om
      obtain ⟨m, rfl⟩ : ∃ m', m = m' + 1 := ⟨m - 1, by omega⟩
      cases w with
      | nil =>
        have hz : decide (Int.ofNat 0 > 0) = false := rfl
        simp only [List.length_nil] at hlw
        repeat' with_reducible first | refine nxt_normal ?_ | refine nxt_exit ?_ | refine blk_same ?_ | refine st_nil ?_ | refine cd_seq ?_ | refine cd_ops ?_ | refine cd_exit ?_ | refine cd_ret ?_ | (apply st_q; exact q1) | (apply cd_condF; exact e1) | (apply fin_ret; exact n1; exact r1)
        exact ⟨by rw [hres.out]; rfl, g06.trans I.grow⟩
      | cons p w =>
        have hpp := hwp p (by simp)
        have hwp' : ∀ q ∈ w, q ∈ pairsS g L := fun q hq => hwp q (by simp [hq])
        have hB36 : w.length ≤ 2 ^ 36 := by simp only [List.length_cons] at hB; omega
        have e36 : (2 : Nat) ^ 36 = 68719476736 := by decide
        simp only [List.length_cons] at hlw hm hB
        have hz : decide (Int.ofNat (w.length + 1) > 0) = true := by simp
        have hw1 : IntKind.i64.wrap (Int.ofNat (w.length + 1) - 1) = (w.length : Int) := by
          simp only [Int.ofNat_eq_natCast]
          rw [wrap_small (by omega) (by omega)]; omega
        obtain ⟨bw, verw, vsw, rfl, hgw, hbw, ⟨hpl, hpw⟩, Bw⟩ := pop_row I.bw
        have hix : slA (.slice (some (bw, 0)) (w.length + 1)) 2 w.length = some (bw, w.length * 2) := by simp [slA]
        clear hwp
        repeat with_reducible first | refine nxt_normal ?_ | refine st_nil ?_ | refine cd_seq ?_ | refine cd_ops ?_ | refine cd_blockS ?_ | refine cd_skip ?_ | refine cd_draw ?_ | (apply dr_q; exact q1) | (apply dr_ql; exact q1; exact og1) | (apply st_q; exact q1) | (apply cd_condT; exact e1)
        refine dr_st (st_alloc I.grow.wf ?_)
        rintro b6 h9 hb9 g9 o9
        refine st_nil ⟨by simp [heldOk, Nat.testBit, g9.keep _ _ om, g9.keep _ _ hgw], ?_⟩
        refine dr_st (st_store (v := .agg (pairC p)) (by exact e1) (by exact e1) (cs := pairC p) rfl rfl g9.wf o9 (by simp [pairC]) rfl ?_)
        rintro v10 h10 p10 o10
        replace o10 : h10.objs.get b6 = some (v10, .cells false 58 (pairC p)) := o10
        have G10 : Grow hp h10 := p10.grow hp I.grow.wf g9 hb9
        refine st_nil ⟨by simp [heldOk, Nat.testBit], ?_⟩
        have om10 := G10.keep _ _ om
        have B10 := Bw.grow G10
        have I10 := I.other G10
        have hp6 : partA (some 2) (pairC p) 0 = some (.agg (pairC p)) := rfl
        have hp6l : (0 : Nat) + 2 ≤ (pairC p).length := by simp [pairC]
        clear g9 o9 p10 hgw hpw hpl hix Bw I om
        repeat with_reducible first | refine nxt_normal ?_ | refine cd_seq ?_ | refine dr_nil ?_ | refine cd_draw ?_ | (apply dr_q; exact q1) | (apply dr_ql; exact q1; exact og1)
        refine dr_sliceHi (by exact e1) (by exact e1) (by omega) ?_
        repeat with_reducible (apply dr_q; exact q1)
        refine dr_st (st_store (by exact e1) (by exact e1) (cs := [.slice (some (bw, 0)) w.length]) rfl rfl I10.grow.wf om10 (by simp) rfl ?_)
        rintro v11 h11 p11 o11
        simp only [List.take_succ_cons, List.take_zero, List.nil_append, List.length_cons, List.length_nil, List.drop_succ_cons, List.drop_zero, List.append_nil, Nat.zero_add, Nat.reduceAdd, List.drop_nil, List.cons_append] at o11
        refine st_nil ⟨by simp [heldOk, Nat.testBit], ?_⟩
        have o10' := p11.kp om10 o10 rfl
        have I11 : MInv h6 bm rm rw' nv ln g L w met (flI g met) (.slice (some (bw, 0)) w.length) h11 := I10.row (p11.grow h6 w6 I10.grow I10.low.1) (fun c q hc ht => p11.kp om10 hc (by rw [ht]; rfl)) ⟨_, o11⟩ (built_but B10 p11 om10 (fun vs hh => by cases hh))
        clear I10 B10 p11 o11 om10 o10 G10
        repeat with_reducible first | refine nxt_normal ?_ | refine cd_seq ?_ | refine cd_ops ?_ | refine dr_nil ?_ | (apply st_q; exact q1)
        refine st_call (vs := [.ptr (some (bm, 0)), .agg (pairC p)]) (by exact s1) ((match_ok H w6 hg hgL.out hcg hcL hN6 hL I11 p hpp hB36).mono ?_)
        rintro _ h12 (⟨hmet, rfl, vw', I12⟩ | ⟨hmet, ⟨rfl, hok, hbad, vw', I12⟩ | ⟨rfl, hno, G12⟩⟩)
        · replace hmet := Hid.mk hmet
          clear I11 o10'
          repeat with_reducible first | refine nxt_normal ?_ | refine blk_normal ?_ | refine st_nil ?_ | refine cd_skip ?_ | (apply st_q; exact q1) | (apply cd_condF; exact e1)
          refine ⟨m, by omega, w, met, vw', I12, by omega, by omega, ⟨by rw [hres.out, walkG, hmet.out]; rfl⟩, hwp', by exact n1, by exact e1⟩
        · have hput := leftW_put (nxI g L) hmet hpp
          have hnx := nxI_in hg hgL.out hcg.out hcL.out hpp hok
          replace hmet := Hid.mk hmet
          replace hok := Hid.mk hok
          replace hbad := Hid.mk hbad
          clear I11 o10'
          repeat with_reducible first | refine nxt_normal ?_ | refine blk_normal ?_ | refine st_nil ?_ | refine cd_skip ?_ | (apply st_q; exact q1) | (apply cd_condF; exact e1)
          refine ⟨m, by omega, _, _, vw', I12, by rw [List.length_append]; omega, by rw [List.length_append]; omega, ⟨?_⟩, ?_, by exact n1, by exact e1⟩
          · rw [hres.out, walkG, hmet.out, hok.out, hbad.out]; rfl
          · intro q hq'
            rcases List.mem_append.1 hq' with hq' | hq'
            · exact hnx q hq'
            · exact hwp' q hq'
        · replace hmet := Hid.mk hmet
          replace hno := Hid.mk hno
          clear I11 o10'
          repeat' with_reducible first | refine nxt_normal ?_ | refine nxt_ret ?_ | refine blk_ret ?_ | refine st_nil ?_ | refine cd_seq ?_ | refine cd_ops ?_ | refine cd_ret ?_ | (apply st_q; exact q1) | (apply cd_condT; exact e1) | (apply fin_ret; exact n1; exact r1)
          refine ⟨?_, g06.trans G12⟩
          rw [hres.out, walkG, hmet.out, hno.out]; rfl
    · repeat' with_reducible first | refine nxt_normal ?_ | refine nxt_ret ?_ | refine st_nil ?_ | refine cd_seq ?_ | refine cd_ops ?_ | refine cd_ret ?_ | (apply st_q; exact q1) | (apply st_qT; exact e1; exact q1) | (apply cd_condT; exact e1) | (apply fin_ret; exact n1; exact r1)
      refine ⟨?_, g05⟩
      have h2 : (checkF h == 0) = false := by simpa using hch
      rw [isF, h2]; simp
  · repeat' with_reducible first | refine nxt_normal ?_ | refine nxt_ret ?_ | refine st_nil ?_ | refine cd_seq ?_ | refine cd_ops ?_ | refine cd_ret ?_ | (apply st_q; exact q1) | (apply st_qF; exact e1) | (apply st_eF; exact e1) | (apply cd_condT; exact e1) | (apply fin_ret; exact n1; exact r1)
    refine ⟨?_, g04⟩
    have h1 : (checkF g == 0) = false := by simpa using hck
    rw [isF, h1]; rfl
end
end Go.Ab.S
end
section
/-
  The law's other functions.
-/
namespace Go.Ab.S
open Go.Ab
set_option maxHeartbeats 8000000
section
variable {fns : FuncId → Option AFunc} {summ : FuncId → List AVal → AHeap → Option (D (AVal × AHeap))} {ro : Option Nat}
theorem dr_gT {i p : Nat} {d : Option Tmp} {t : Tmp} {w : Bool} {op : AOp} {l : List DStep} {hs : List Held} {a : AAct} {h : AHeap} {K : AAct → AHeap → Prop} (hg : ev a (.tmp t) = some (.bool w)) (k : Dr fns summ ro (⟨i, p, ⟨d, none, op⟩⟩ :: l) hs a h K) : Dr fns summ ro (⟨i, p, ⟨d, some (t, w), op⟩⟩ :: l) hs a h K :=
  dr_g (s := ⟨i, p, ⟨d, some (t, w), op⟩⟩) rfl hg (fun _ => k) (fun hc => by rcases hc with hc | hc <;> (cases w <;> cases hc)) (.inl rfl)
theorem dr_gF {i p : Nat} {d : Option Tmp} {t : Tmp} {w : Bool} {op : AOp} {l : List DStep} {hs : List Held} {a : AAct} {h : AHeap} {K : AAct → AHeap → Prop} (hg : ev a (.tmp t) = some (.bool (!w))) (k : Dr fns summ ro l hs (putA a d (.tuple [])) h K) : Dr fns summ ro (⟨i, p, ⟨d, some (t, w), op⟩⟩ :: l) hs a h K :=
  dr_g (s := ⟨i, p, ⟨d, some (t, w), op⟩⟩) rfl hg (fun hc => by cases w <;> cases hc) (fun _ => k) (.inr (.inl rfl))
theorem dr_gU {i p : Nat} {d : Option Tmp} {t : Tmp} {w : Bool} {op : AOp} {l : List DStep} {hs : List Held} {a : AAct} {h : AHeap} {K : AAct → AHeap → Prop} (hg : ev a (.tmp t) = some (.tuple [])) (k : Dr fns summ ro l hs (putA a d (.tuple [])) h K) : Dr fns summ ro (⟨i, p, ⟨d, some (t, w), op⟩⟩ :: l) hs a h K :=
  dr_g (s := ⟨i, p, ⟨d, some (t, w), op⟩⟩) rfl hg (fun hc => by cases hc) (fun _ => k) (.inr (.inr rfl))
end
def freeL (g : Graph) : List Int := (reachF g).filter fun i => freeF (nodeD g i)
def closedF (g : Graph) : Bool := checkF g == 0 && (freeL g).length == 0
def moreF (g h : Graph) : Bool := isF g h && !isF h g
section
variable {fns : FuncId → Option AFunc} {summ : FuncId → List AVal → AHeap → Option (D (AVal × AHeap))}
variable (H : Has fns summ)
include H
theorem More_ok (g h : Graph) (hg : GTi g) (hh : GTi h) (v u : AVal) (h0 : AHeap) (hw : WF h0) (hv : GraphAt h0 v g) (hu : GraphAt h0 u h) : Cl fns summ 19 [v, u] h0 fun r h' => r = .bool (moreF g h) ∧ Grow h0 h' := by
  obtain ⟨nv, rfl, hN⟩ := hv
  obtain ⟨mv, rfl, hM⟩ := hu
  refine H.go (fn := F_More) rfl (by decide) rfl rfl ?_
  unfold F_More
  dsimp only
  refine cd_seq (cd_ops ?_)
  refine st_box (by exact e1) (by exact cc) hw ?_
  rintro b2 h2 hb2 g2 o2
  refine st_box (by exact e1) (by exact cc) g2.wf ?_
  rintro b3 h3 hb3 g3 o3
  replace o2 := g3.keep _ _ o2
  have g03 := g2.trans g3
  repeat with_reducible first | refine nxt_normal ?_ | refine st_nil ?_ | refine cd_seq ?_ | refine cd_ops ?_ | (apply st_q; exact q1)
  refine st_call (by exact s1) ((Is_ok H g h hg hh _ _ h3 g3.wf ⟨nv, rfl, hN.mono g03⟩ ⟨mv, rfl, hM.mono g03⟩).mono ?_)
  rintro _ h4 ⟨rfl, g4⟩
  replace o2 := g4.keep _ _ o2
  replace o3 := g4.keep _ _ o3
  have g04 := g03.trans g4
  cases h1 : isF g h
  · repeat' with_reducible first | refine nxt_normal ?_ | refine st_nil ?_ | refine cd_ret ?_ | (apply st_q; exact q1) | (apply st_qF; exact e1) | (apply st_eF; exact e1) | (apply fin_ret; exact n1; exact r1)
    exact ⟨by rw [moreF, h1]; rfl, g04⟩
  · repeat with_reducible first | (apply st_q; exact q1) | (apply st_qT; exact e1; exact q1)
    refine st_callT (by exact e1) (by exact s1) ((Is_ok H h g hh hg _ _ h4 g4.wf ⟨mv, rfl, hM.mono g04⟩ ⟨nv, rfl, hN.mono g04⟩).mono ?_)
    rintro _ h5 ⟨rfl, g5⟩
    repeat' with_reducible first | refine nxt_normal ?_ | refine st_nil ?_ | refine cd_ret ?_ | (apply st_q; exact q1) | (apply st_qT; exact e1; exact q1) | (apply fin_ret; exact n1; exact r1)
    exact ⟨by rw [moreF, h1]; rfl, g04.trans g5⟩
theorem good_ok (g h : Graph) (hg : greatF g < 2 ^ 60) (hh : greatF h < 2 ^ 60) (most : Int) (v u : AVal) (h0 : AHeap) (hw : WF h0) (hv : GraphAt h0 v g) (hu : GraphAt h0 u h) : Cl fns summ 8 [v, u, .int .i64 most] h0 fun r h' => r = .bool (decide ((greatF g : Int) ≤ most) && decide ((greatF h : Int) ≤ most)) ∧ Grow h0 h' := by
  obtain ⟨nv, rfl, hN⟩ := hv
  obtain ⟨mv, rfl, hM⟩ := hu
  refine H.go (fn := F_good) rfl (by decide) rfl rfl ?_
  unfold F_good
  dsimp only
  refine cd_seq (cd_ops ?_)
  refine st_box (by exact e1) (by exact cc) hw ?_
  rintro b2 h2 hb2 g2 o2
  refine st_box (by exact e1) (by exact cc) g2.wf ?_
  rintro b3 h3 hb3 g3 o3
  replace o2 := g3.keep _ _ o2
  have g03 := g2.trans g3
  repeat with_reducible first | refine nxt_normal ?_ | refine st_nil ?_ | refine cd_seq ?_ | refine cd_ops ?_ | (apply st_q; exact q1)
  refine st_call (by exact s1) ((Great_ok H g hg _ h3 g3.wf ⟨nv, rfl, hN.mono g03⟩).mono ?_)
  rintro _ h4 ⟨rfl, g4⟩
  replace o3 := g4.keep _ _ o3
  have g04 := g03.trans g4
  cases h1 : decide ((greatF g : Int) ≤ most)
  · repeat' with_reducible first | refine nxt_normal ?_ | refine st_nil ?_ | refine cd_ret ?_ | (apply st_q; exact q1) | (apply st_qF; exact e1) | (apply st_eF; exact e1) | (apply fin_ret; exact n1; exact r1)
    exact ⟨rfl, g04⟩
  · repeat with_reducible first | (apply st_q; exact q1) | (apply st_qT; exact e1; exact q1)
    refine st_callT (by exact e1) (by exact s1) ((Great_ok H h hh _ h4 g4.wf ⟨mv, rfl, hM.mono g04⟩).mono ?_)
    rintro _ h5 ⟨rfl, g5⟩
    repeat' with_reducible first | refine nxt_normal ?_ | refine st_nil ?_ | refine cd_ret ?_ | (apply st_q; exact q1) | (apply st_qT; exact e1; exact q1) | (apply fin_ret; exact n1; exact r1)
    exact ⟨rfl, g04.trans g5⟩
theorem Free_ok (g : Graph) (hg : GTi g) (v : AVal) (h : AHeap) (hw : WF h) (hv : GraphAt h v g) : Cl fns summ 30 [v] h fun r h' => Built h' h.next 3 1 r (freeL g).length ((freeL g).map (AVal.int .i64)) ∧ Grow h h' := by
  obtain ⟨nv, rfl, hN⟩ := hv
  obtain ⟨hOk, hNd⟩ := reachF_ok g
  have hrl := reachF_len hg.toGSm
  have e30 : (2 : Nat) ^ 30 = 1073741824 := by decide
  have e31 : (2 : Nat) ^ 31 = 2147483648 := by decide
  refine H.go (fn := F_Free) rfl (by decide) rfl rfl ?_
  unfold F_Free
  dsimp only
  refine cd_seq (cd_ops ?_)
  refine st_box (by exact e1) (by exact cc) hw ?_
  rintro b1 h1 hb1 g1 o1
  have hpart : partA (some 2) [nv, .int .i64 g.root] 0 = some (.agg [nv, .int .i64 g.root]) := rfl
  repeat with_reducible first | refine nxt_normal ?_ | refine st_nil ?_ | refine cd_seq ?_ | refine cd_ops ?_ | (apply st_q; exact q1)
  refine st_call (by exact s1) ((Reach_ok H g hg.toGSm _ h1 g1.wf ⟨nv, rfl, hN.mono g1⟩).mono ?_)
  rintro rv h2 ⟨B2, g2⟩
  replace o1 := g2.keep _ _ o1
  have g02 := g1.trans g2
  have hR := built_ints B2
  have hlr := B2.len
  have n2 := g1.next
  repeat with_reducible first | refine nxt_normal ?_ | refine st_nil ?_ | (apply st_q; exact q1)
  refine cd_count (N := (reachF g).length) (by omega) (fun j a hp => ∃ vx, Grow h2 hp ∧ Built hp h2.next 3 1 vx (((reachF g).take j).filter fun i => freeF (nodeD g i)).length ((((reachF g).take j).filter fun i => freeF (nodeD g i)).map (AVal.int .i64)) ∧ a.defers = [] ∧ ev a (.tmp 1) = some (.ptr (some (b1, 0))) ∧ ev a (.tmp 6) = some rv ∧ ev a (.tmp 2) = some vx)
    (by rintro j a hp t w (rfl | rfl | rfl) ⟨vx, k1, k2, k3, k4, k5, k6⟩ <;> exact ⟨vx, k1, k2, by rw [defers_put]; exact k3, by exact e1, by exact e1, by exact e1⟩) (by decide) ?_ ?_ ⟨.slice none 0, Grow.refl g2.wf, .inl ⟨rfl, by simp, by simp⟩, by exact n1, by exact e1, by exact e1, by exact e1⟩ (by exact e1) (by exact e1)
  · rintro j a hp hj ⟨vx, gp, B, hd, h1', h6', h2'⟩ hi hn
    have hc : (reachF g)[j]? = some (reachF g)[j] := List.getElem?_eq_getElem hj
    obtain ⟨a0, a1⟩ := hOk _ (List.getElem_mem hj)
    obtain ⟨k, hk, hkN, hnk⟩ := nodeD_at a0 a1
    obtain ⟨bb, ob, verb, rb, eb, vsb, hix, hget0, hvo⟩ := hR.at hc
    have hget := gp.keep _ _ hget0
    obtain ⟨bn, on, vern, ron, en, vsn, av, lv, hixn, hgn0, hvl, hv5, _, _, _, _, _, ha, hl⟩ := hN.at (List.getElem?_eq_getElem hkN)
    have hgn := (g02.trans gp).keep _ _ hgn0
    have o1p := gp.keep _ _ o1
    have hpart5 : partA (some 5) vsn on = some (nodeV g.nodes[k] av lv) := by rw [partA, if_pos hvl, hv5]; rfl
    have hts : ((reachF g).take (j + 1)).filter (fun i => freeF (nodeD g i)) = ((reachF g).take j).filter (fun i => freeF (nodeD g i)) ++ (if freeF g.nodes[k] then [(k : Int)] else []) := by
      rw [List.take_succ_eq_append_getElem hj, List.filter_append, hk]
      congr 1
      rw [hk] at hnk
      rw [List.filter_cons, hnk]
      cases freeF g.nodes[k] <;> rfl
    have hlen : (((reachF g).take j).filter fun i => freeF (nodeD g i)).length ≤ j := by
      have := List.length_filter_le (fun i => freeF (nodeD g i)) ((reachF g).take j)
      rw [List.length_take] at this; omega
    have hroom := roomOK H (b := 8) (by decide) (k := (((reachF g).take j).filter fun i => freeF (nodeD g i)).length + 1) (by omega)
    rw [hk] at hvo
    replace hts := Hid.mk hts
    clear hk hnk hc a0 a1 o1 hgn0 hget0
    repeat with_reducible first | refine nxt_normal ?_ | refine st_nil ?_ | refine cd_seq ?_ | refine cd_ops ?_ | refine cd_blockS ?_ | (apply st_q; exact q1)
    refine st_call (by exact s1) ((gfree_ok H g.nodes[k] av lv hp gp.wf).mono ?_)
    rintro _ h4 ⟨rfl, g4⟩
    have B4 := B.grow g4
    have gp4 := gp.trans g4
    cases hf : freeF g.nodes[k]
    · have hts' := hts.out
      rw [hf] at hts'
      simp only [Bool.false_eq_true, if_false, List.append_nil] at hts'
      replace hts' := Hid.mk hts'
      repeat with_reducible first | refine nxt_normal ?_ | refine blk_normal ?_ | refine st_nil ?_ | refine cd_skip ?_ | (apply cd_condF; exact e1)
      exact ⟨⟨vx, gp4, by rw [hts'.out]; exact B4, by exact n1, by exact e1, by exact e1, by exact e1⟩, by exact e1, by exact e1⟩
    · have hts' := hts.out
      rw [hf] at hts'
      simp only [if_true] at hts'
      replace hts' := Hid.mk hts'
      repeat with_reducible first | refine nxt_normal ?_ | refine st_nil ?_ | refine cd_ops ?_ | (apply st_q; exact q1) | (apply cd_condT; exact e1)
      refine st_bslice1 (by exact e1) (by exact cc) rfl rfl gp4.wf ?_
      rintro bx h5 hbx g5 ox
      refine st_append1 (by exact e1) (by exact e1) (B4.grow g5) ox rfl rfl hroom g5.wf (by have := gp4.next; have := g5.next; omega) ?_
      rintro vx' h6 B6 f6 w6 n6 gr6 kp6
      have G6 := gr6 h2 g2.wf (gp4.trans g5) (Nat.le_refl _)
      clear kp6 gr6 f6 ox hix hget hvo hixn hgn hpart5 hv5
      repeat with_reducible first | refine nxt_normal ?_ | refine blk_normal ?_ | refine st_nil ?_ | (apply st_q; exact q1)
      exact ⟨⟨vx', G6, by rw [hts'.out, List.length_append, List.map_append]; exact B6, by exact n1, by exact e1, by exact e1, by exact e1⟩, by exact e1, by exact e1⟩
  · rintro a hp ⟨vx, gp, B, hd, h1', h6', h2'⟩
    rw [List.take_length] at B
    repeat' with_reducible first | refine nxt_normal ?_ | refine st_nil ?_ | refine cd_seq ?_ | refine cd_ops ?_ | refine cd_ret ?_ | (apply st_q; exact q1) | (apply fin_ret; exact n1; exact r1)
    exact ⟨built_base B (by have := g02.next; omega), g02.trans gp⟩
theorem Closed_ok (g : Graph) (hg : GTi g) (v : AVal) (h : AHeap) (hw : WF h) (hv : GraphAt h v g) : Cl fns summ 14 [v] h fun r h' => r = .bool (closedF g) ∧ Grow h h' := by
  obtain ⟨nv, rfl, hN⟩ := hv
  refine H.go (fn := F_Closed) rfl (by decide) rfl rfl ?_
  unfold F_Closed
  dsimp only
  refine cd_seq (cd_ops ?_)
  refine st_box (by exact e1) (by exact cc) hw ?_
  rintro b1 h1 hb1 g1 o1
  have hpart : partA (some 2) [nv, .int .i64 g.root] 0 = some (.agg [nv, .int .i64 g.root]) := rfl
  repeat with_reducible first | refine nxt_normal ?_ | refine st_nil ?_ | refine cd_seq ?_ | refine cd_ops ?_ | (apply st_q; exact q1)
  refine st_call (by exact s1) ((Check_ok H g hg.toGraphSm _ h1 g1.wf ⟨nv, rfl, hN.mono g1⟩).mono ?_)
  rintro _ h2 ⟨rfl, g2⟩
  replace o1 := g2.keep _ _ o1
  have g02 := g1.trans g2
  cases hck : (checkF g == 0)
  · repeat' with_reducible first | refine nxt_normal ?_ | refine st_nil ?_ | refine cd_ret ?_ | (apply st_q; exact q1) | (apply st_qF; exact e1) | (apply st_eF; exact e1) | (apply fin_ret; exact n1; exact r1)
    exact ⟨by rw [closedF, hck]; rfl, g02⟩
  · repeat with_reducible first | (apply st_q; exact q1) | (apply st_qT; exact e1; exact q1)
    refine st_callT (by exact e1) (by exact s1) ((Free_ok H g hg _ h2 g2.wf ⟨nv, rfl, hN.mono g02⟩).mono ?_)
    rintro fv h3 ⟨B3, g3⟩
    have hlf := B3.len
    have hz : ((Int.ofNat (freeL g).length : Int) == 0) = ((freeL g).length == 0) := by rw [Bool.eq_iff_iff]; simp
    repeat' with_reducible first | refine nxt_normal ?_ | refine st_nil ?_ | refine cd_ret ?_ | (apply st_q; exact q1) | (apply st_qT; exact e1; exact q1) | (apply fin_ret; exact n1; exact r1)
    exact ⟨by rw [closedF, hck]; rfl, g02.trans g3⟩
end
end Go.Ab.S
end
