import Derived.Test.YtapnoohglfhgeaaGreatDoorP11
import Derived.Test.YtapnoohglfhgeaaGreatDoorP12
import Derived.Test.YtapnoohglfhgeaaGreatDoorP13
import Derived.Test.YtapnoohglfhgeaaGreatDoorP14
import Derived.Test.YtapnoohglfhgeaaGreatDoorP15
import Derived.Test.YtapnoohglfhgeaaGreatDoorP16
/-
  Part 17 of the proof.
-/
set_option linter.all false
section
/-
  What is left of a graph, and the least one: what they are to the graph that they came of.
-/
namespace Go.Ab.S
open Go.Ab
set_option maxHeartbeats 1000000
inductive Rch (g : Graph) : Int → Prop
  | root : Rch g g.root
  | step {a b : Int} : Rch g a → b ∈ (zAL g a).args → Rch g b
theorem argsN_D (g : Graph) (a : Int) : argsN g.nodes a = (zAL g a).args := by
  unfold argsN zAL
  rw [List.getD]
  cases g.nodes[a.toNat]? <;> rfl
theorem reachG_sound {g : Graph} : ∀ (m : Nat) (st out : List Int), (∀ a ∈ st, Rch g a) → (∀ a ∈ out, Rch g a) → ∀ a ∈ reachG g.nodes m st out, Rch g a
  | 0, _, _, _, h => h
  | _ + 1, [], _, _, h => h
  | m + 1, a :: st, out, h1, h2 => by
    rw [reachG]
    split
    · exact reachG_sound m st out (fun b hb => h1 b (by simp [hb])) h2
    · refine reachG_sound m _ _ (fun b hb => ?_) (fun b hb => ?_)
      · rcases List.mem_append.1 hb with hb | hb
        · rw [argsN_D] at hb; exact .step (h1 a (by simp)) hb
        · exact h1 b (by simp [hb])
      · rcases List.mem_append.1 hb with hb | hb
        · exact h2 b hb
        · rw [List.mem_singleton.1 hb]; exact h1 a (by simp)
theorem reachG_all {g : Graph} (hc : checkF g = 0) : ∀ (m : Nat) (st out : List Int), Ok g.nodes.length st → st.length + leftG out g.nodes 0 ≤ m → (∀ a ∈ out, ∀ b ∈ (zAL g a).args, b ∈ out ∨ b ∈ st) →
    (∀ a ∈ st, a ∈ reachG g.nodes m st out) ∧ (∀ a ∈ out, a ∈ reachG g.nodes m st out) ∧ ∀ a ∈ reachG g.nodes m st out, ∀ b ∈ (zAL g a).args, b ∈ reachG g.nodes m st out
  | 0, st, out, _, hm, h => by
    have : st = [] := List.length_eq_zero_iff.1 (by omega)
    subst this
    exact ⟨fun a ha => (by cases ha), fun a ha => ha, fun a ha b hb => by
      rcases h a ha b hb with h | h
      · exact h
      · cases h⟩
  | m + 1, [], out, _, _, h => ⟨fun a ha => (by cases ha), fun a ha => ha, fun a ha b hb => by
      rcases h a ha b hb with h | h
      · exact h
      · cases h⟩
  | m + 1, a :: st, out, hs, hm, h => by
    have hst : Ok g.nodes.length st := fun b hb => hs b (by simp [hb])
    obtain ⟨a0, a1⟩ := hs a (by simp)
    rw [reachG]
    split
    · rename_i hcon
      have hcon : a ∈ out := by simpa using hcon
      simp only [List.length_cons] at hm
      obtain ⟨h1, h2, h3⟩ := reachG_all hc m st out hst (by omega) (fun b hb c hcc => by
        rcases h b hb c hcc with h | h
        · exact .inl h
        · rcases List.mem_cons.1 h with rfl | h
          · exact .inl hcon
          · exact .inr h)
      exact ⟨fun b hb => by
        rcases List.mem_cons.1 hb with rfl | hb
        · exact h2 _ hcon
        · exact h1 b hb, h2, h3⟩
    · rename_i hcon
      obtain ⟨k, hk, hkN, hnk⟩ : ∃ k : Nat, a = (k : Int) ∧ ∃ hk : k < g.nodes.length, zAL g a = g.nodes[k] := ⟨a.toNat, by omega, by omega, by simp [zAL, List.getElem?_eq_getElem (show a.toNat < g.nodes.length by omega)]⟩
      have hput := (leftG_put out k g.nodes 0).2 (Nat.zero_le _) (by rw [← hk]; simpa using hcon) g.nodes[k] (by simpa using List.getElem?_eq_getElem hkN)
      have hargs : argsN g.nodes a = g.nodes[k].args := by rw [argsN_D, hnk]
      rw [hargs, hk]
      simp only [List.length_cons] at hm
      obtain ⟨h1, h2, h3⟩ := reachG_all hc m (g.nodes[k].args ++ st) (out ++ [(k : Int)]) (fun b hb => by
        rcases List.mem_append.1 hb with hb | hb
        · exact may_args ((check_ns hc).2 _ (List.getElem_mem hkN)) b hb
        · exact hst b hb) (by rw [List.length_append]; omega) (fun b hb c hcc => by
        rcases List.mem_append.1 hb with hb | hb
        · rcases h b hb c hcc with h | h
          · exact .inl (List.mem_append.2 (.inl h))
          · rcases List.mem_cons.1 h with rfl | h
            · exact .inl (by rw [hk]; simp)
            · exact .inr (List.mem_append.2 (.inr h))
        · rw [List.mem_singleton.1 hb, ← hk, hnk] at hcc
          exact .inr (List.mem_append.2 (.inl hcc)))
      exact ⟨fun b hb => by
        rcases List.mem_cons.1 hb with rfl | hb
        · exact h2 _ (by simp)
        · exact h1 b (List.mem_append.2 (.inr hb)), fun b hb => h2 b (List.mem_append.2 (.inl hb)), h3⟩
theorem reach_iff {g : Graph} (hc : checkF g = 0) (a : Int) : a ∈ zAW g ↔ Rch g a := by
  have hr := check_root hc
  rw [zAW, if_pos hc]
  constructor
  · exact reachG_sound _ _ _ (fun b hb => by rw [List.mem_singleton.1 hb]; exact .root) (fun b hb => by cases hb) a
  · obtain ⟨h1, _, h3⟩ := reachG_all hc (1 + leftG [] g.nodes 0) [g.root] [] (fun b hb => by rw [List.mem_singleton.1 hb]; exact ⟨hr.1, hr.2.1⟩) (by simp) (fun b hb => (by cases hb))
    intro h
    induction h with
    | root => exact h1 _ (by simp)
    | step _ hb ih => exact h3 _ ih _ hb
theorem Rch.ok {g : Graph} (hc : checkF g = 0) {a : Int} (h : Rch g a) : 0 ≤ a ∧ a < g.nodes.length := by
  have := (reach_iff hc a).2 h
  exact (reachF_ok g).1 a this
theorem node_in {g : Graph} {a : Int} (h : 0 ≤ a ∧ a < g.nodes.length) : zAL g a ∈ g.nodes := by
  have hk : a.toNat < g.nodes.length := by omega
  have : zAL g a = g.nodes[a.toNat] := by simp [zAL, List.getElem?_eq_getElem hk]
  rw [this]; exact List.getElem_mem hk
theorem reach_head {g : Graph} (hc : checkF g = 0) : ∃ l, zAW g = g.root :: l := by
  rw [zAW, if_pos hc, Nat.add_comm, reachG]
  simp only [List.contains_nil, Bool.false_eq_true, if_false, List.nil_append]
  have : ∀ (m : Nat) (st out : List Int), ∃ l, reachG g.nodes m st out = out ++ l := by
    intro m
    induction m with
    | zero => intro st out; exact ⟨[], by simp [reachG]⟩
    | succ m ih =>
      intro st out
      cases st with
      | nil => exact ⟨[], by simp [reachG]⟩
      | cons a st =>
        rw [reachG]
        split
        · exact ih st out
        · obtain ⟨l, hl⟩ := ih (argsN g.nodes a ++ st) (out ++ [a])
          exact ⟨a :: l, by rw [hl]; simp⟩
  obtain ⟨l, hl⟩ := this (leftG [] g.nodes 0) (argsN g.nodes g.root ++ []) [g.root]
  exact ⟨l, by rw [hl]; rfl⟩
structure Quo (g L : Graph) (q : Int → Int) : Prop where
  root : L.root = q g.root
  node : ∀ i, Rch g i → zAL L (q i) = { zAL g i with args := (zAL g i).args.map q }
  surj : ∀ x : Int, 0 ≤ x → x < L.nodes.length → ∃ i, Rch g i ∧ q i = x
  range : ∀ i, Rch g i → 0 ≤ q i ∧ q i < L.nodes.length
  inj : ∀ i j, Rch g i → Rch g j → cfreeF (zAL g i) = true → q i = q j → i = j
  check : checkF L = 0
theorem idx_lt {l : List Int} {a : Int} (h : a ∈ l) : toIdx l a < l.length ∧ l[toIdx l a]? = some a := by
  have hc : l.contains a = true := by simpa using h
  rw [toIdx, if_pos hc]
  have := List.idxOf_lt_length_of_mem h
  exact ⟨this, by rw [List.getElem?_eq_getElem this]; simp⟩
theorem checkF_ok {g : Graph} (h0 : 0 ≤ g.root) (h1 : g.root < g.nodes.length) (h2 : g.nodes.length ≤ 1048576) (h3 : ∀ n ∈ g.nodes, mayF n g.nodes.length = true) : checkF g = 0 := by
  unfold checkF
  simp only [Int.ofNat_eq_natCast]
  rw [if_neg (by omega), if_neg (by omega), if_neg (by omega), if_neg]
  simp only [List.any_eq_true, not_exists, not_and]
  intro n hn
  rw [h3 n hn]; simp
theorem may_map {n : Node} {N M : Int} (h : mayF n N = true) (f : Int → Int) (hf : ∀ a ∈ n.args, 0 ≤ f a ∧ f a < M) : mayF { n with args := n.args.map f } M = true := by
  have h1 : (n.args.map f).any (fun a => decide (a < 0) || decide (a ≥ M)) = false := by
    rw [List.any_eq_false]
    intro a ha
    obtain ⟨b, hb, rfl⟩ := List.mem_map.1 ha
    have := hf b hb
    simp; omega
  unfold mayF at h ⊢
  split at h
  · cases h
  rw [h1]
  simpa using h
theorem sum_sub (f : Int → Nat) : ∀ (l r : List Int), l.Nodup → (∀ x ∈ l, x ∈ r) → (l.map f).sum ≤ (r.map f).sum
  | [], r, _, _ => by simp
  | x :: l, r, hn, hs => by
    have hx := hs x (by simp)
    have hp : r.Perm (x :: r.erase x) := List.perm_cons_erase hx
    obtain ⟨h1, h2⟩ := List.nodup_cons.1 hn
    have ih := sum_sub f l (r.erase x) h2 fun y hy => (List.mem_erase_of_ne (by rintro rfl; exact h1 hy)).2 (hs y (by simp [hy]))
    have := (hp.map f).sum_nat
    simp only [List.map_cons, List.sum_cons] at this ⊢
    omega
def allN (n : Nat) : List Int := (List.range n).map fun (i : Nat) => (i : Int)
theorem mem_allN {n : Nat} {a : Int} : a ∈ allN n ↔ 0 ≤ a ∧ a < n := by
  simp only [allN, List.mem_map, List.mem_range]
  constructor
  · rintro ⟨i, hi, rfl⟩; omega
  · rintro ⟨h1, h2⟩; exact ⟨a.toNat, by omega, by omega⟩
theorem trim_len {g : Graph} (_ : checkF g = 0) : (zAW g).length ≤ g.nodes.length := by
  obtain ⟨h1, h2⟩ := reachF_ok g
  have := sum_sub (fun _ => 1) (zAW g) (allN g.nodes.length) h2 fun x hx => mem_allN.2 (h1 x hx)
  have e : ∀ l : List Int, (l.map fun _ => 1).sum = l.length := fun l => by
    induction l with
    | nil => rfl
    | cons a l ih => simp only [List.map_cons, List.sum_cons, ih, List.length_cons]; omega
  rw [e, e] at this
  simpa [allN] using this
theorem trim_quo {g : Graph} (hc : checkF g = 0) : Quo g (trimF g) (fun a => (toIdx (zAW g) a : Int)) := by
  have hmem := reach_iff hc
  have hnode : ∀ i, Rch g i → zAL (trimF g) (toIdx (zAW g) i : Int) = trimN (zAW g) (zAL g i) := by
    intro i hi
    obtain ⟨h1, h2⟩ := idx_lt ((hmem i).2 hi)
    simp only [zAL, trimF, Int.toNat_natCast, List.getD, List.getElem?_map, h2]
    rfl
  obtain ⟨l, hl⟩ := reach_head hc
  have hroot : toIdx (zAW g) g.root = 0 := by rw [hl, toIdx]; simp
  have hlen : (trimF g).nodes.length = (zAW g).length := by simp [trimF]
  refine ⟨by show (0 : Int) = _; rw [hroot]; rfl, hnode, ?_, ?_, ?_, ?_⟩
  · intro x h0 h1
    rw [hlen] at h1
    have hx : x.toNat < (zAW g).length := by omega
    refine ⟨(zAW g)[x.toNat], (hmem _).1 (List.getElem_mem hx), ?_⟩
    have hm := List.getElem_mem hx
    obtain ⟨h3, h4⟩ := idx_lt hm
    rw [List.getElem?_eq_getElem h3] at h4
    have := (List.getElem_inj (reachF_ok g).2).1 (Option.some.inj h4)
    show ((toIdx (zAW g) (zAW g)[x.toNat] : Nat) : Int) = x
    omega
  · intro i hi
    have := (idx_lt ((hmem i).2 hi)).1
    rw [hlen]; exact ⟨by omega, by omega⟩
  · intro i j hi hj _ he
    have he : ((toIdx (zAW g) i : Nat) : Int) = (toIdx (zAW g) j : Nat) := he
    have h1 := (idx_lt ((hmem i).2 hi)).2
    have h2 := (idx_lt ((hmem j).2 hj)).2
    have : toIdx (zAW g) i = toIdx (zAW g) j := by omega
    rw [this, h2] at h1
    exact (Option.some.inj h1).symm
  · refine checkF_ok (by show (0 : Int) ≤ 0; decide) ?_ ?_ ?_
    · show (0 : Int) < _
      rw [hlen, hl]; simp
    · rw [hlen]
      have := trim_len hc
      have := (check_root hc).2.2.1
      omega
    · intro n hn
      obtain ⟨i, hi, rfl⟩ := List.mem_map.1 hn
      have hri := (hmem i).1 hi
      rw [hlen]
      refine may_map ((check_ns hc).2 _ (node_in (hri.ok hc))) (fun a => (toIdx (zAW g) a : Int)) fun a ha => ?_
      have := (idx_lt ((hmem a).2 (hri.step ha))).1
      exact ⟨by omega, by omega⟩
end Go.Ab.S
end
section
/-
  The least graph is the graph itself, nodes that may be one made one; nothing more of it may be.
-/
namespace Go.Ab.S
open Go.Ab
set_option maxHeartbeats 1000000
def clsG (g : Graph) : Graph := ⟨g.nodes.map (mapN (zAP g)), clAt (zAP g) g.root⟩
theorem cls_in {g : Graph} (hc : checkF g = 0) {a : Int} (ha : 0 ≤ a ∧ a < g.nodes.length) : 0 ≤ clAt (zAP g) a ∧ clAt (zAP g) a < g.nodes.length ∧ clAt (zAP g) a ≤ a ∧ clAt (zAP g) (clAt (zAP g) a) = clAt (zAP g) a := by
  obtain ⟨k, rfl⟩ : ∃ k : Nat, a = (k : Int) := ⟨a.toNat, by omega⟩
  obtain ⟨j, h1, h2, h3⟩ := (classes_ok hc).2.le k (by omega)
  rw [h1]
  exact ⟨by omega, by omega, by omega, h3⟩
theorem cls_node {g : Graph} {a : Int} (ha : 0 ≤ a ∧ a < g.nodes.length) : zAL (clsG g) a = mapN (zAP g) (zAL g a) := by
  have hk : a.toNat < g.nodes.length := by omega
  simp only [zAL, clsG, List.getD, List.getElem?_map, List.getElem?_eq_getElem hk]
  rfl
theorem cls_check {g : Graph} (hc : checkF g = 0) : checkF (clsG g) = 0 := by
  obtain ⟨h1, h2, h3, h4⟩ := check_root hc
  have hr := cls_in hc ⟨h1, h2⟩
  have hl : (clsG g).nodes.length = g.nodes.length := by simp [clsG]
  refine checkF_ok hr.1 (by rw [hl]; exact hr.2.1) (by rw [hl]; exact h3) fun n hn => ?_
  obtain ⟨m, hm, rfl⟩ := List.mem_map.1 hn
  rw [hl]
  refine may_map (h4 m hm) (clAt (zAP g)) fun a ha => ?_
  have := cls_in hc (may_args (h4 m hm) a ha)
  exact ⟨this.1, this.2.1⟩
theorem cls_same {g : Graph} (hc : checkF g = 0) {a b : Int} (ha : 0 ≤ a ∧ a < g.nodes.length) (hb : 0 ≤ b ∧ b < g.nodes.length) (he : clAt (zAP g) a = clAt (zAP g) b) :
    ((cfreeF (zAL g a) = true ∨ cfreeF (zAL g b) = true) → a = b) ∧ (zAL g a).kind = (zAL g b).kind ∧ (zAL g a).name = (zAL g b).name ∧ (zAL g a).labels = (zAL g b).labels ∧ (zAL g a).args.map (clAt (zAP g)) = (zAL g b).args.map (clAt (zAP g)) ∧ cfreeF (zAL g a) = cfreeF (zAL g b) := by
  obtain ⟨i, rfl⟩ : ∃ k : Nat, a = (k : Int) := ⟨a.toNat, by omega⟩
  obtain ⟨j, rfl⟩ : ∃ k : Nat, b = (k : Int) := ⟨b.toNat, by omega⟩
  obtain ⟨h1, h2⟩ := classes_alike hc (i := i) (j := j) (by omega) (by omega) he
  exact ⟨fun h => by rw [h1 h], h2⟩
theorem open_of {n : Node} {N : Int} (h : mayF n N = true) : cfreeF n = false → n.isOpen = false := by
  intro hf
  simp only [cfreeF, Bool.or_eq_false_iff] at hf
  exact hf.2
theorem cls_mapN {g : Graph} (hc : checkF g = 0) {a b : Int} (ha : 0 ≤ a ∧ a < g.nodes.length) (hb : 0 ≤ b ∧ b < g.nodes.length) (he : clAt (zAP g) a = clAt (zAP g) b) : mapN (zAP g) (zAL g a) = mapN (zAP g) (zAL g b) := by
  obtain ⟨h0, h1, h2, h3, h4, h5⟩ := cls_same hc ha hb he
  by_cases hf : cfreeF (zAL g a) = true
  · rw [h0 (.inl hf)]
  · have hfa : cfreeF (zAL g a) = false := by simpa using hf
    have hfb : cfreeF (zAL g b) = false := by rw [← h5]; exact hfa
    have oa := open_of ((check_ns hc).2 _ (node_in ha)) hfa
    have ob := open_of ((check_ns hc).2 _ (node_in hb)) hfb
    generalize zAL g a = n at *
    generalize zAL g b = m at *
    obtain ⟨k, nm, ar, lb, op⟩ := n
    obtain ⟨k', nm', ar', lb', op'⟩ := m
    simp only at *
    subst h1; subst h2; subst h3; subst oa; subst ob
    simp only [mapN, h4]
theorem cls_rch {g : Graph} (hc : checkF g = 0) {a : Int} (h : Rch g a) : Rch (clsG g) (clAt (zAP g) a) := by
  induction h with
  | root => exact .root
  | @step a b ha hb ih =>
    have hra := ha.ok hc
    have hca := cls_in hc hra
    refine .step ih ?_
    rw [cls_node ⟨hca.1, hca.2.1⟩, cls_mapN hc ⟨hca.1, hca.2.1⟩ hra hca.2.2.2]
    exact List.mem_map.2 ⟨b, hb, rfl⟩
theorem cls_back {g : Graph} (hc : checkF g = 0) {x : Int} (h : Rch (clsG g) x) : ∃ a, Rch g a ∧ clAt (zAP g) a = x := by
  induction h with
  | root => exact ⟨_, .root, rfl⟩
  | @step x y hx hy ih =>
    obtain ⟨a, ha, rfl⟩ := ih
    have hra := ha.ok hc
    have hca := cls_in hc hra
    rw [cls_node ⟨hca.1, hca.2.1⟩, cls_mapN hc ⟨hca.1, hca.2.1⟩ hra hca.2.2.2] at hy
    obtain ⟨b, hb, rfl⟩ := List.mem_map.1 hy
    exact ⟨b, ha.step hb, rfl⟩
def qL (g : Graph) (a : Int) : Int := (toIdx (zAW (clsG g)) (clAt (zAP g) a) : Nat)
theorem leastF_eq {g : Graph} (hc : checkF g = 0) : leastF g = trimF (clsG g) := by rw [leastF, if_pos hc]; rfl
theorem least_quo {g : Graph} (hc : checkF g = 0) : Quo g (leastF g) (qL g) := by
  have T := trim_quo (cls_check hc)
  rw [leastF_eq hc]
  refine ⟨T.root, fun i hi => ?_, fun x h0 h1 => ?_, fun i hi => T.range _ (cls_rch hc hi), fun i j hi hj hf he => ?_, T.check⟩
  · have hri := hi.ok hc
    have hci := cls_in hc hri
    have := T.node _ (cls_rch hc hi)
    rw [cls_node ⟨hci.1, hci.2.1⟩, cls_mapN hc ⟨hci.1, hci.2.1⟩ hri hci.2.2.2] at this
    refine Eq.trans this ?_
    simp only [mapN, List.map_map]
    rfl
  · obtain ⟨y, hy, rfl⟩ := T.surj x h0 h1
    obtain ⟨a, ha, rfl⟩ := cls_back hc hy
    exact ⟨a, ha, rfl⟩
  · have hri := hi.ok hc
    have hrj := hj.ok hc
    have h1 := (idx_lt ((reach_iff (cls_check hc) _).2 (cls_rch hc hi))).2
    have h2 := (idx_lt ((reach_iff (cls_check hc) _).2 (cls_rch hc hj))).2
    have he : ((toIdx (zAW (clsG g)) (clAt (zAP g) i) : Nat) : Int) = (toIdx (zAW (clsG g)) (clAt (zAP g) j) : Nat) := he
    have he' : toIdx (zAW (clsG g)) (clAt (zAP g) i) = toIdx (zAW (clsG g)) (clAt (zAP g) j) := by omega
    rw [he', h2] at h1
    exact (cls_same hc hri hrj (Option.some.inj h1).symm).1 (.inl hf)
end Go.Ab.S
end
section
/-
  What is left is small if what was there is.
-/
namespace Go.Ab.S
open Go.Ab
set_option maxHeartbeats 1000000
theorem leftG_sum : ∀ (ns : List Node) (i : Nat), leftG [] ns i = (ns.map fun n => n.args.length).sum
  | [], _ => rfl
  | n :: r, i => by simp only [leftG, List.map_cons, List.sum_cons, leftG_sum r (i + 1)]; simp
theorem all_nodes (g : Graph) : (allN g.nodes.length).map (zAL g) = g.nodes := by
  apply List.ext_getElem?
  intro i
  simp only [allN, List.map_map, List.getElem?_map]
  by_cases hi : i < g.nodes.length
  · rw [List.getElem?_range hi]; simp [zAL, hi]
  · rw [List.getElem?_eq_none (by simpa using hi), List.getElem?_eq_none (by simpa using hi)]; rfl
theorem trim_tiny {g : Graph} (hg : GTi g) (hc : checkF g = 0) : GTi (trimF g) := by
  have hlen : (trimF g).nodes.length = (zAW g).length := by simp [trimF]
  have hl := trim_len hc
  have hsum : leftG [] (trimF g).nodes 0 ≤ leftG [] g.nodes 0 := by
    obtain ⟨h1, h2⟩ := reachF_ok g
    have := sum_sub (fun a => (zAL g a).args.length) (zAW g) (allN g.nodes.length) h2 fun x hx => mem_allN.2 (h1 x hx)
    rw [leftG_sum, leftG_sum]
    have e : (g.nodes.map fun n => n.args.length) = (allN g.nodes.length).map fun a => (zAL g a).args.length := by
      conv => lhs; rw [← all_nodes g]
      rw [List.map_map]; rfl
    rw [e]
    simp only [trimF, List.map_map]
    have e2 : ((fun n : Node => n.args.length) ∘ fun i => trimN (zAW g) (zAL g i)) = fun a => (zAL g a).args.length := by
      funext a; simp [trimN]
    rw [e2]; exact this
  have hin : ∀ n ∈ (trimF g).nodes, ∃ m ∈ g.nodes, n.args.length = m.args.length ∧ n.labels = m.labels := by
    intro n hn
    obtain ⟨i, hi, rfl⟩ := List.mem_map.1 hn
    exact ⟨_, node_in ((reachF_ok g).1 i hi), by simp [trimN], rfl⟩
  have ht := hg.tiny
  have hto := hg.total
  refine ⟨⟨⟨by rw [hlen]; have := hg.nodes; omega, fun n hn => ?_⟩, by rw [hlen]; omega, fun n hn => ?_⟩, by rw [hlen]; omega⟩
  · obtain ⟨m, hm, h1, h2⟩ := hin n hn
    have := hg.all m hm
    exact ⟨by rw [h1]; exact this.args, by rw [h2]; exact this.labels, by rw [h2]; exact this.texts⟩
  · obtain ⟨m, hm, h1, h2⟩ := hin n hn
    rw [h2]; exact hg.labs m hm
theorem least_tiny {g : Graph} (hg : GTi g) (hc : checkF g = 0) : GTi (leastF g) := by
  rw [leastF_eq hc]
  exact trim_tiny (hg.map _ _) (cls_check hc)
end Go.Ab.S
end
section
/-
  The same types: the plain law; what is laid out anew is the same.
-/
namespace Go.Ab.S
open Go Go.Ab
set_option maxHeartbeats 1000000
structure SameR (g h : Graph) (R : Int → Int → Prop) : Prop where
  root : R g.root h.root
  range : ∀ a b, R a b → (0 ≤ a ∧ a < g.nodes.length) ∧ (0 ≤ b ∧ b < h.nodes.length)
  node : ∀ a b, R a b → (zAL g a).kind = (zAL h b).kind ∧ (zAL g a).name = (zAL h b).name ∧ (zAL g a).isOpen = (zAL h b).isOpen ∧ (zAL g a).labels = (zAL h b).labels ∧ (zAL g a).args.length = (zAL h b).args.length ∧
    ∀ i, i < (zAL g a).args.length → R ((zAL g a).args.getD i 0) ((zAL h b).args.getD i 0)
  one : ∀ a b c, R a b → R a c → cfreeF (zAL g a) = true → b = c
  one' : ∀ a b c, R a c → R b c → cfreeF (zAL g a) = true → a = b
theorem free_cfree {n : Node} {N : Int} (h : mayF n N = true) : freeF n = cfreeF n := by
  rcases may_kind h with ⟨k, _, o, _⟩ | ⟨k, _, o, _⟩ | ⟨k, _⟩
  · simp [freeF, cfreeF, k]
  · simp [freeF, cfreeF, k, o]
  · simp [freeF, cfreeF, k]
theorem zip_mem {a b : List Int} {q : Pr} : q ∈ List.zip a b ↔ ∃ i, i < a.length ∧ i < b.length ∧ q = (a.getD i 0, b.getD i 0) := by
  constructor
  · intro hq
    obtain ⟨i, hi, rfl⟩ := List.mem_iff_getElem.1 hq
    rw [List.length_zip] at hi
    refine ⟨i, by omega, by omega, ?_⟩
    rw [List.getElem_zip, List.getD, List.getD, List.getElem?_eq_getElem (by omega), List.getElem?_eq_getElem (by omega)]; rfl
  · rintro ⟨i, h1, h2, rfl⟩
    have hz : i < (List.zip a b).length := by rw [List.length_zip]; omega
    have := List.getElem_mem hz
    rw [List.getElem_zip] at this
    rw [List.getD, List.getD, List.getElem?_eq_getElem h1, List.getElem?_eq_getElem h2]
    exact this
theorem sameF_iff {g h : Graph} (cg : checkF g = 0) (ch : checkF h = 0) : sameF g h = true ↔ ∃ R, SameR g h R := by
  have rg := check_root cg
  have rh := check_root ch
  have e : sameF g h = walkG (okS g h) (nxS g h) (badS g) (2 + leftW (nxS g h) [] (pairsS g h)) [(g.root, h.root)] [] := by
    rw [sameF, cg, ch]; rfl
  have hsym : ∀ p q : Pr, badS g p q = badS g q p := fun p q => by
    unfold badS
    rw [Bool.eq_iff_iff]
    simp only [Bool.and_eq_true, Bool.or_eq_true, beq_iff_eq]
    constructor <;> rintro ⟨h1, h2, h3⟩ <;> exact ⟨h2, h1, h3.elim (fun h => .inl h.symm) (fun h => .inr h.symm)⟩
  rw [e, walk_iff _ _ _ hsym (ps := pairsS g h) _ (mem_pairsS.2 ⟨⟨rg.1, rg.2.1⟩, rh.1, rh.2.1⟩) fun p hp _ => nxS_in cg ch hp]
  have hal : ∀ x y : Node, alikeF x y = true ↔ x.kind = y.kind ∧ x.name = y.name ∧ x.isOpen = y.isOpen ∧ x.labels = y.labels ∧ x.args.length = y.args.length := fun x y => by
    simp only [alikeF, Bool.and_eq_true, beq_iff_eq, eqL_iff, eqLL_iff]
    constructor
    · rintro ⟨⟨⟨⟨h1, h2⟩, h3⟩, h4⟩, h5⟩; exact ⟨h1, h2, h3, h5, h4⟩
    · rintro ⟨h1, h2, h3, h4, h5⟩; exact ⟨⟨⟨⟨h1, h2⟩, h3⟩, h5⟩, h4⟩
  constructor
  · rintro ⟨S, h1, h2, h3⟩
    have hfr : ∀ p, S p → freeF (zAL g p.1) = cfreeF (zAL g p.1) := fun p hp => by
      obtain ⟨⟨a0, a1⟩, _⟩ := mem_pairsS.1 (h2 _ hp).1
      exact free_cfree ((check_ns cg).2 _ (nodeD_mem a0 a1))
    refine ⟨fun a b => S (a, b), h1, fun a b hab => mem_pairsS.1 (h2 _ hab).1, fun a b hab => ?_, fun a b c hab hac hf => ?_, fun a b c hac hbc hf => ?_⟩
    · obtain ⟨_, ho, hn⟩ := h2 _ hab
      obtain ⟨k1, k2, k3, k4, k5⟩ := (hal _ _).1 ho
      refine ⟨k1, k2, k3, k4, k5, fun i hi => hn _ ?_⟩
      have k5' : (zAL g a).args.length = (zAL h b).args.length := k5
      simp only [nxS, List.mem_reverse]
      exact zip_mem.2 ⟨i, hi, by omega, rfl⟩
    · apply Classical.byContradiction
      intro hbc
      have := h3 _ _ hab hac (fun hh => hbc (Prod.mk.inj hh).2)
      rw [← hfr _ hab] at hf
      simp [badS, hf] at this
    · apply Classical.byContradiction
      intro hab
      have := h3 _ _ hac hbc (fun hh => hab (Prod.mk.inj hh).1)
      rw [← hfr _ hac] at hf
      have hf2 : freeF (zAL g b) = true := by
        have q1 := (hal _ _).1 (h2 _ hac).2.1
        have q2 := (hal _ _).1 (h2 _ hbc).2.1
        simp only at q1 q2
        simpa only [freeF, q1.1, q1.2.2.1, ← q2.1, ← q2.2.2.1] using hf
      simp [badS, hf, hf2] at this
  · rintro ⟨R, k⟩
    refine ⟨fun p => R p.1 p.2, k.root, fun p hp => ⟨mem_pairsS.2 (k.range _ _ hp), ?_, fun q hq => ?_⟩, fun p q hp hq hpq => ?_⟩
    · obtain ⟨h1, h2, h3, h4, h5, _⟩ := k.node _ _ hp
      exact (hal _ _).2 ⟨h1, h2, h3, h4, h5⟩
    · simp only [nxS, List.mem_reverse] at hq
      obtain ⟨i, h1, _, rfl⟩ := zip_mem.1 hq
      exact (k.node _ _ hp).2.2.2.2.2 i h1
    · cases hb : badS g p q with
      | false => rfl
      | true =>
        simp only [badS, Bool.and_eq_true, Bool.or_eq_true, beq_iff_eq] at hb
        obtain ⟨⟨a0, a1⟩, _⟩ := k.range _ _ hp
        have hf : cfreeF (zAL g p.1) = true := by
          rw [← free_cfree ((check_ns cg).2 _ (nodeD_mem a0 a1))]; exact hb.1
        rcases hb.2.2 with h | h
        · have := k.one p.1 p.2 q.2 hp (by rw [h]; exact hq) hf
          exact absurd (Prod.ext h this) hpq
        · have := k.one' p.1 q.1 p.2 hp (by rw [h]; exact hq) hf
          exact absurd (Prod.ext this h) hpq
theorem rises_ext : ∀ {a b : List (List Nat)}, Rises a → Rises b → (∀ s, s ∈ a ↔ s ∈ b) → a = b
  | [], [], _, _, _ => rfl
  | [], y :: b, _, _, h => by have := (h y).2 (by simp); cases this
  | x :: a, [], _, _, h => by have := (h x).1 (by simp); cases this
  | x :: a, y :: b, ra, rb, h => by
    have tail : ∀ {z : List Nat} {l : List (List Nat)}, Rises (z :: l) → Rises l ∧ ∀ s ∈ l, lessL z s = true := fun {z l} hr => by
      refine ⟨fun i j hij u v hu hv => hr (i + 1) (j + 1) (by omega) u v (by simpa using hu) (by simpa using hv), fun s hs => ?_⟩
      obtain ⟨i, hi, rfl⟩ := List.mem_iff_getElem.1 hs
      exact hr 0 (i + 1) (by omega) z _ rfl (by simp)
    have hxy : x = y := by
      rcases lessL_tri x y with hl | hl | hl
      · have := (h x).1 (by simp)
        rcases List.mem_cons.1 this with h' | h'
        · exact h'
        · have := (tail rb).2 x h'
          exact absurd (lessL_trans hl this) (by rw [lessL_irr]; simp)
      · exact hl
      · have := (h y).2 (by simp)
        rcases List.mem_cons.1 this with h' | h'
        · exact h'.symm
        · have := (tail ra).2 y h'
          exact absurd (lessL_trans hl this) (by rw [lessL_irr]; simp)
    subst hxy
    have : a = b := rises_ext (tail ra).1 (tail rb).1 fun s => by
      constructor
      · intro hs
        have := (h s).1 (by simp [hs])
        rcases List.mem_cons.1 this with rfl | h'
        · have := (tail ra).2 _ hs; rw [lessL_irr] at this; cases this
        · exact h'
      · intro hs
        have := (h s).2 (by simp [hs])
        rcases List.mem_cons.1 this with rfl | h'
        · have := (tail rb).2 _ hs; rw [lessL_irr] at this; cases this
        · exact h'
    rw [this]
theorem great_len (g : Graph) : g.nodes.length + leftG [] g.nodes 0 ≤ greatF g := by
  have : ∀ (ns : List Node) (i : Nat), leftG [] ns i ≤ sumL greatN ns := by
    intro ns
    induction ns with
    | nil => intro i; simp [leftG, sumL]
    | cons n r ih => intro i; simp only [leftG, sumL, greatN]; have := ih (i + 1); simp; omega
  have := this g.nodes 0
  simp only [greatF]; omega
theorem great_node {g : Graph} {n : Node} (hn : n ∈ g.nodes) : greatN n ≤ greatF g := by
  have : ∀ (ns : List Node), n ∈ ns → greatN n ≤ sumL greatN ns := by
    intro ns
    induction ns with
    | nil => intro h; cases h
    | cons m r ih =>
      intro h
      simp only [sumL]
      rcases List.mem_cons.1 h with rfl | h
      · omega
      · have := ih h; omega
  have := this g.nodes hn
  simp only [greatF]; omega
structure Sane (g : Graph) : Prop where
  great : greatF g < 2 ^ 60
  sm : GraphSm g
theorem Sane.tiny {g : Graph} (h : Sane g) (hg : greatF g ≤ 300) : GTi g := by
  have e30 : (2 : Nat) ^ 30 = 1073741824 := by decide
  have h1 := great_len g
  refine ⟨⟨h.sm, by omega, fun n hn => ?_⟩, by omega⟩
  have := great_node hn
  simp only [greatN] at this; omega
theorem quo_rch {g L : Graph} {q : Int → Int} (Q : Quo g L q) {a : Int} (h : Rch g a) : Rch L (q a) := by
  induction h with
  | root => rw [← Q.root]; exact .root
  | step hr hb ih => exact .step ih (by rw [Q.node _ hr]; exact List.mem_map.2 ⟨_, hb, rfl⟩)
theorem getD_mem {l : List Int} {i : Nat} (h : i < l.length) : l.getD i 0 ∈ l := by
  rw [List.getD, List.getElem?_eq_getElem h]; exact List.getElem_mem h
theorem quo_comp {g L T : Graph} {q t : Int → Int} (Q : Quo g L q) (P : Quo L T t) : Quo g T (fun a => t (q a)) := by
  refine ⟨by rw [P.root, Q.root], fun i hi => ?_, fun x h0 h1 => ?_, fun i hi => P.range _ (quo_rch Q hi), fun i j hi hj hf he => ?_, P.check⟩
  · rw [P.node _ (quo_rch Q hi), Q.node i hi]
    simp only [List.map_map]; rfl
  · obtain ⟨y, hy, rfl⟩ := P.surj x h0 h1
    have hr := hy.ok Q.check
    obtain ⟨i, hi, rfl⟩ := Q.surj y hr.1 hr.2
    exact ⟨i, hi, rfl⟩
  · refine Q.inj i j hi hj hf (P.inj _ _ (quo_rch Q hi) (quo_rch Q hj) ?_ he)
    rw [Q.node i hi]; exact hf
theorem quo_same {g L : Graph} {q : Int → Int} (cg : checkF g = 0) (Q : Quo g L q) : sameF L g = true := by
  refine (sameF_iff Q.check cg).2 ⟨fun z a => Rch g a ∧ z = q a, ⟨.root, Q.root⟩, ?_, ?_, ?_, ?_⟩
  · rintro _ a ⟨ha, rfl⟩; exact ⟨Q.range _ ha, ha.ok cg⟩
  · rintro _ a ⟨ha, rfl⟩
    rw [Q.node a ha]
    refine ⟨rfl, rfl, rfl, rfl, by simp, fun i hi => ?_⟩
    have hia : i < (zAL g a).args.length := by simpa using hi
    refine ⟨ha.step (getD_mem hia), ?_⟩
    simp only [List.getD, List.getElem?_map, List.getElem?_eq_getElem hia]; rfl
  · rintro _ a b ⟨ha, rfl⟩ ⟨hb, he⟩ hf
    rw [Q.node a ha] at hf
    exact Q.inj a b ha hb hf he
  · rintro _ _ c ⟨_, rfl⟩ ⟨_, rfl⟩ _; rfl
theorem own_same {g : Graph} (cg : checkF g = 0) : sameF (trimF (leastF g)) g = true := by
  have Q := least_quo cg
  exact quo_same cg (quo_comp Q (trim_quo Q.check))
theorem own_tiny {g : Graph} (hg : GTi g) (cg : checkF g = 0) : GTi (trimF (leastF g)) := trim_tiny (least_tiny hg cg) (least_quo cg).check
end Go.Ab.S
end
section
/-
  Ranges over functions, memory hidden.
-/
namespace Go.Ab.S
open Go.Ab
set_option maxHeartbeats 1000000
section
variable {fns : FuncId → Option AFunc} {summ : FuncId → List AVal → AHeap → Option (D (AVal × AHeap))}
theorem rangeF_K {f : AOpd} {ps : List Tmp} {as bd : ACode} {a : AAct} {h : AHeap} {Q : AExit → AAct → AHeap → Prop} {g : FuncId} {first captured : List AVal} (hf : ev a f = some (.func g first captured)) (w : WF h)
    (k : ∀ l d h2, h.next ≤ d → l = d + 1 → Grow h h2 → (∃ ver, h2.objs.get l = some (ver, .loop .ready none a.tmps ps as bd d)) → (∃ ver, h2.objs.get d = some (ver, .dfr false)) →
      Cl fns summ g (first ++ [.yield l] ++ captured) h2 fun _ h3 => WF h3 ∧ (((∃ ver, h3.objs.get l = some (ver, .loop .ready none a.tmps ps as bd d)) ∧ ∀ h4, But l h3 h4 → Q .normal { a with defers := .collected d :: a.defers } h4) ∨
        ∃ e, e ≠ .normal ∧ (∃ ver, h3.objs.get l = some (ver, .loop .done (some e) a.tmps ps as bd d)) ∧ ∀ h4, But l h3 h4 → Q e { a with defers := .collected d :: a.defers } h4)) :
    Cd fns summ none (.rangeF f ps as bd) a h Q := by
  have g1' := (Grow.refl w).new (.dfr false)
  have g2' := g1'.new (.loop .ready none a.tmps ps as bd h.next)
  refine cd_rangeF hf ((k (h.next + 1) h.next _ (Nat.le_refl _) rfl g2' ⟨_, zAQ _ _⟩ ⟨h.next, ?_⟩).mono ?_)
  · rw [new_get_ne _ _ (by rw [new_next]; omega)]
    exact zAQ _ _
  · rintro _ h3 ⟨w3, ⟨⟨ver, ol⟩, hq⟩ | ⟨e, he, ⟨ver, ol⟩, hq⟩⟩
    · exact ⟨_, _, _, _, _, _, _, _, ol, (by intro hh; cases hh), hq _ (but_put w3 ol _)⟩
    · refine ⟨_, _, _, _, _, _, _, _, ol, (by intro hh; cases hh), ?_⟩
      cases e with
      | normal => exact absurd rfl he
      | ret => exact hq _ (but_put w3 ol _)
      | exit i => exact hq _ (but_put w3 ol _)
theorem yield_K {l d ver : Nat} {args : List AVal} {hq : AHeap} {tm t : T AVal} {ps : List Tmp} {as bd : ACode} {K : AVal → AHeap → Prop} (hl : hq.objs.get l = some (ver, .loop .ready none tm ps as bd d)) (w : WF hq) (ht : setParams tm ps args = some t) (A : AAct → Prop)
    (k1 : Cd fns summ (some l) as { tmps := t, defers := [] } hq (nxt (fun a1 h1 => h1 = hq ∧ A a1) fun _ _ _ => False))
    (k2 : ∀ a1 h1, A a1 → But l hq h1 → (∃ ver, h1.objs.get l = some (ver, .loop .busy none tm ps as bd d)) → Cd fns summ (some l) bd a1 h1 (fun e _ h3 => WF h3 ∧ (∃ ver, h3.objs.get l = some (ver, .loop .busy none tm ps as bd d)) ∧
      (e = .normal → ∀ h4, But l h3 h4 → (∃ ver, h4.objs.get l = some (ver, .loop .ready none tm ps as bd d)) → K (.bool true) h4) ∧
      (e ≠ .normal → ∀ h4, But l h3 h4 → (∃ ver, h4.objs.get l = some (ver, .loop .done (some e) tm ps as bd d)) → K (.bool false) h4))) :
    Cv fns summ (.yield l) args hq K := by
  refine cv_yield hl ht (k1.mono ?_)
  rintro e a1 h1 hh
  cases e with
  | normal =>
    obtain ⟨rfl, hA⟩ := hh
    refine ⟨_, _, _, _, _, _, _, hl, (k2 a1 _ hA (but_put w hl _) ⟨_, zAR _ _ _⟩).mono ?_⟩
    rintro e a2 h3 ⟨w3, ⟨v3, o3⟩, hn, hm⟩
    refine ⟨_, _, _, _, _, _, _, _, o3, ?_⟩
    cases e with
    | normal => exact hn rfl _ (but_put w3 o3 _) ⟨_, zAR _ _ _⟩
    | ret => exact hm (by intro hh; cases hh) _ (but_put w3 o3 _) ⟨_, zAR _ _ _⟩
    | exit i => exact hm (by intro hh; cases hh) _ (but_put w3 o3 _) ⟨_, zAR _ _ _⟩
  | ret => exact hh.elim
  | exit i => exact hh.elim
end
section
variable {fns : FuncId → Option AFunc} {summ : FuncId → List AVal → AHeap → Option (D (AVal × AHeap))} {ro : Option Nat}
theorem dr_gT {i p : Nat} {d : Option Tmp} {t : Tmp} {w : Bool} {op : AOp} {l : List DStep} {hs : List Held} {a : AAct} {h : AHeap} {K : AAct → AHeap → Prop} (hg : ev a (.tmp t) = some (.bool w)) (k : Dr fns summ ro (⟨i, p, ⟨d, none, op⟩⟩ :: l) hs a h K) : Dr fns summ ro (⟨i, p, ⟨d, some (t, w), op⟩⟩ :: l) hs a h K :=
  dr_g (s := ⟨i, p, ⟨d, some (t, w), op⟩⟩) rfl hg (fun _ => k) (fun hc => by rcases hc with hc | hc <;> (cases w <;> cases hc)) (.inl rfl)
theorem dr_gF {i p : Nat} {d : Option Tmp} {t : Tmp} {w : Bool} {op : AOp} {l : List DStep} {hs : List Held} {a : AAct} {h : AHeap} {K : AAct → AHeap → Prop} (hg : ev a (.tmp t) = some (.bool (!w))) (k : Dr fns summ ro l hs (putA a d (.tuple [])) h K) : Dr fns summ ro (⟨i, p, ⟨d, some (t, w), op⟩⟩ :: l) hs a h K :=
  dr_g (s := ⟨i, p, ⟨d, some (t, w), op⟩⟩) rfl hg (fun hc => by cases w <;> cases hc) (fun _ => k) (.inr (.inl rfl))
theorem dr_gU {i p : Nat} {d : Option Tmp} {t : Tmp} {w : Bool} {op : AOp} {l : List DStep} {hs : List Held} {a : AAct} {h : AHeap} {K : AAct → AHeap → Prop} (hg : ev a (.tmp t) = some (.tuple [])) (k : Dr fns summ ro l hs (putA a d (.tuple [])) h K) : Dr fns summ ro (⟨i, p, ⟨d, some (t, w), op⟩⟩ :: l) hs a h K :=
  dr_g (s := ⟨i, p, ⟨d, some (t, w), op⟩⟩) rfl hg (fun hc => by cases hc) (fun _ => k) (.inr (.inr rfl))
end
end Go.Ab.S
end
section
/-
  What names mean: lists of meanings in memory; going through them.
-/
namespace Go.Ab.S
open Go.Ab
set_option maxHeartbeats 4000000
structure CDef where
  params : Int
  g : Graph
  conc : List (List Nat)
  virt : List (List Nat)
structure Mean where
  name : List Nat
  value : Option Graph
  cls : Option CDef
def ValAt (h : AHeap) (v : AVal) : Option Graph → Prop
  | none => v = .ptr none
  | some g => ∃ b ver ro e nv, v = .ptr (some (b, 0)) ∧ h.objs.get b = some (ver, .cells ro e [nv, .int .i64 g.root]) ∧ NodesAt h nv g.nodes
def CDAt (h : AHeap) (v : AVal) : Option CDef → Prop
  | none => v = .ptr none
  | some c => ∃ b ver ro e nv cv vv, v = .ptr (some (b, 0)) ∧ h.objs.get b = some (ver, .cells ro e [.int .i64 c.params, nv, .int .i64 c.g.root, cv, vv]) ∧ NodesAt h nv c.g.nodes ∧ StrsAt h cv c.conc ∧ StrsAt h vv c.virt
def EnvAt (h : AHeap) : AVal → List Mean → Prop
  | v, [] => v = .ptr none
  | v, m :: l => ∃ b ver ro e pv pc pa, v = .ptr (some (b, 0)) ∧ h.objs.get b = some (ver, .cells ro e [.str m.name, pv, pc, pa]) ∧ ValAt h pv m.value ∧ CDAt h pc m.cls ∧ EnvAt h pa l
theorem ValAt.mono {h h' : AHeap} (g : Grow h h') {v : AVal} {o : Option Graph} (k : ValAt h v o) : ValAt h' v o := by
  cases o with
  | none => exact k
  | some x => obtain ⟨b, ver, ro, e, nv, h1, h2, h3⟩ := k; exact ⟨b, ver, ro, e, nv, h1, g.keep _ _ h2, h3.mono g⟩
theorem CDAt.mono {h h' : AHeap} (g : Grow h h') {v : AVal} {o : Option CDef} (k : CDAt h v o) : CDAt h' v o := by
  cases o with
  | none => exact k
  | some x => obtain ⟨b, ver, ro, e, nv, cv, vv, h1, h2, h3, h4, h5⟩ := k; exact ⟨b, ver, ro, e, nv, cv, vv, h1, g.keep _ _ h2, h3.mono g, h4.mono g, h5.mono g⟩
theorem EnvAt.mono {h h' : AHeap} (g : Grow h h') : ∀ {l : List Mean} {v : AVal}, EnvAt h v l → EnvAt h' v l
  | [], _, k => k
  | _ :: _, _, ⟨b, ver, ro, e, pv, pc, pa, h1, h2, h3, h4, h5⟩ => ⟨b, ver, ro, e, pv, pc, pa, h1, g.keep _ _ h2, h3.mono g, h4.mono g, EnvAt.mono g h5⟩
theorem EnvAt.one {h : AHeap} {l : List Mean} {v : AVal} (k : EnvAt h v l) : one v = true := by
  cases l with
  | nil => rw [show v = .ptr none from k]; rfl
  | cons m l => obtain ⟨b, _, _, _, _, _, _, rfl, _⟩ := k; rfl
theorem ValAt.one {h : AHeap} {o : Option Graph} {v : AVal} (k : ValAt h v o) : one v = true := by
  cases o with
  | none => rw [show v = .ptr none from k]; rfl
  | some m => obtain ⟨b, _, _, _, _, rfl, _⟩ := k; rfl
def VarAt (h : AHeap) (b : Nat) (v : AVal) : Prop := ∃ ver, h.objs.get b = some (ver, .cells false 29 [v])
section
variable {fns : FuncId → Option AFunc} {summ : FuncId → List AVal → AHeap → Option (D (AVal × AHeap))}
variable (H : Has fns summ)
include H
theorem eall_ok (v : AVal) (hv : one v = true) (h : AHeap) (hw : WF h) : Cl fns summ 30 [v] h fun r h' => ∃ b, r = .func 61 [] [.ptr (some (b, 0))] ∧ h.next ≤ b ∧ VarAt h' b v ∧ Grow h h' := by
  have hc : cellsA v = [v] := by cases v <;> first | rfl | cases hv
  refine H.go (fn := F_eall) rfl (by decide) rfl rfl ?_
  unfold F_eall
  dsimp only [qQ, qE, qN, gQ, gE, vi]
  refine zAC (zAD ?_)
  refine st_box (by exact e1) hc hw ?_
  rintro b h1 hb g1 o1
  repeat' with_reducible first | refine zAA ?_ | refine zAB ?_ | refine zAC ?_ | refine zAD ?_ | refine zAI ?_ | (apply st_q; exact q1) | (apply zAJ; exact n1; exact r1)
  exact ⟨b, rfl, hb, ⟨_, o1⟩, g1⟩
theorem eall1_ok (L : List Mean) (v : AVal) (h0 : AHeap) (hE : EnvAt h0 v L) (b : Nat) (y : AVal) (P : Nat → AHeap → Prop) (Z : AHeap → Prop) (hP : ∀ k h, P k h → Grow h0 h)
    (hbut : ∀ k h h' vk, P k h → VarAt h b vk → But b h h' → P k h')
    (hstep : ∀ k h vk, k < L.length → P k h → VarAt h b vk → EnvAt h0 vk (L.drop k) → Cv fns summ y [vk] h fun r h' => (r = .bool true ∧ P (k + 1) h' ∧ VarAt h' b vk) ∨ (r = .bool false ∧ Z h'))
    (h : AHeap) (hI : P 0 h) (hb : VarAt h b v) : Cl fns summ 61 [y, .ptr (some (b, 0))] h fun _ h' => P L.length h' ∨ Z h' := by
  refine H.go (fn := F_eall1) rfl (by decide) rfl rfl ?_
  unfold F_eall1
  dsimp only [qQ, qE, qN, gQ, gE, vi]
  refine cd_block ?_
  refine cd_loop (fun m a hp => ∃ k vk, m + k = L.length + 1 ∧ k ≤ L.length ∧ P k hp ∧ VarAt hp b vk ∧ EnvAt h0 vk (L.drop k) ∧ a.defers = [] ∧ ev a (.tmp 0) = some y ∧ ev a (.tmp 1) = some (.ptr (some (b, 0)))) ?_ (n := L.length + 1) ⟨0, v, rfl, Nat.zero_le _, hI, hb, hE, by exact n1, by exact e1, by exact e1⟩
  clear hI hb hE
  rintro m a hp ⟨k, vk, hm, hk, hI, hb, hE, hd, h0', h1'⟩
  obtain ⟨ver, ob⟩ := hb
  by_cases hlt : k < L.length
  · obtain ⟨mm, rest, hdrop⟩ : ∃ mm rest, L.drop k = mm :: rest := by
      rw [List.drop_eq_getElem_cons hlt]; exact ⟨_, _, rfl⟩
    have hE' := hE
    rw [hdrop] at hE'
    obtain ⟨be, vere, roe, ee, pv, pc, pa, rfl, oe, hv, hc, hrest⟩ := hE'
    have hne : eqA .ptr (.ptr (some (be, 0))) (.ptr none) = some false := rfl
    have hxr : (true ^^ false) = true := rfl
    have hstep' := Hid.mk (hstep k hp _ hlt hI ⟨_, ob⟩ hE)
    have hrd : L.drop (k + 1) = rest := by
      have := congrArg List.tail hdrop
      simpa using this
    clear hE
    repeat with_reducible first | refine zAA ?_ | refine zAB ?_ | refine zAC ?_ | refine zAD ?_ | refine zAG ?_ | refine zAK ?_ | (apply st_q; exact q1) | (apply zAF; exact e1)
    refine st_e (ex_call (by exact e1) (by exact s1) (hstep'.out.mono ?_))
    rintro r h2 (⟨rfl, hI2, ⟨ver2, ob2⟩⟩ | ⟨rfl, hz⟩)
    · have oe2 := (hP _ _ hI2).keep _ _ oe
      have w2 := (hP _ _ hI2).wf
      have hpa := hrest.one
      have hca : cellsA pa = [pa] := by cases pa <;> first | rfl | cases hpa
      clear hstep' ob oe
      repeat with_reducible first | refine zAA ?_ | refine zAE ?_ | refine zAB ?_ | refine zAD ?_ | refine zAK ?_ | (apply st_q; exact q1) | (apply zAH; exact e1)
      refine zAM (by exact e1) (by exact e1) hca rfl w2 ob2 (by simp) (by rw [List.all_cons, hpa]; rfl) ?_
      rintro v3 h3 p3 o3
      simp only [List.take_zero, List.nil_append, List.length_cons, List.length_nil, List.drop_succ_cons, List.drop_zero, List.append_nil, Nat.zero_add, Nat.reduceAdd, List.drop_nil, List.cons_append] at o3
      have hI3 := hbut _ _ _ _ hI2 ⟨_, ob2⟩ p3
      repeat with_reducible first | refine zAA ?_ | refine zAB ?_
      exact ⟨L.length - k, by omega, k + 1, pa, by omega, by omega, hI3, ⟨_, o3⟩, by rw [hrd]; exact hrest, by exact n1, by exact e1, by exact e1⟩
    · clear hstep'
      repeat' with_reducible first | refine zAA ?_ | refine zAN ?_ | refine zAU ?_ | refine zAB ?_ | refine zAI ?_ | (apply st_q; exact q1) | (apply zAF; exact e1) | (apply zAJ; exact n1; exact r1)
      exact .inr hz
  · obtain rfl : k = L.length := by omega
    have hnil : L.drop L.length = [] := List.drop_length
    rw [hnil] at hE
    have hv : vk = .ptr none := hE
    subst hv
    have hne : eqA .ptr (.ptr none) (.ptr none) = some true := rfl
    have hxr : (true ^^ true) = false := rfl
    repeat with_reducible first | refine zAA ?_ | refine zAa ?_ | refine zAZ ?_ | refine zAB ?_ | refine zAC ?_ | refine zAD ?_ | refine cd_exit ?_ | (apply st_q; exact q1) | (apply zAH; exact e1)
    refine fin_normal (by exact n1) (v := .tuple []) (by exact r1) (.inl hI)
end
end Go.Ab.S
end
