import Derived.Test.YtffgndlognihcaaGreatDoorP07
import Derived.Test.YtffgndlognihcaaGreatDoorP11
import Derived.Test.YtffgndlognihcaaGreatDoorP17
import Derived.Test.YtffgndlognihcaaGreatDoorP18
/-
  Part 19 of the proof.
-/
set_option linter.all false
section
/-
  Instances, and the same types: the plain law.
-/
namespace Go.Ab.S
open Go.Ab
set_option maxHeartbeats 1000000
structure InstR (g L : Graph) (S : Int → Int → Prop) : Prop where
  root : S g.root L.root
  range : ∀ a b, S a b → (0 ≤ a ∧ a < g.nodes.length) ∧ (0 ≤ b ∧ b < L.nodes.length)
  node : ∀ a b, S a b → (nodeD g a).kind = 1 ∨ ((nodeD g a).kind ≠ 1 ∧ (nodeD g a).kind = (nodeD L b).kind ∧ (nodeD g a).name = (nodeD L b).name ∧ ((nodeD g a).isOpen = true ∨ ((nodeD L b).isOpen = false ∧ (nodeD g a).labels = (nodeD L b).labels)) ∧ argsOk (nodeD g a) (nodeD L b) = true ∧
    ∀ i, i < (nodeD g a).args.length → S ((nodeD g a).args.getD i 0) ((nodeD L b).args.getD (idxI (nodeD g a) (nodeD L b) i) 0))
  one : ∀ a b c, S a b → S a c → cfreeF (nodeD g a) = true → b = c
structure SameR (g h : Graph) (R : Int → Int → Prop) : Prop where
  root : R g.root h.root
  range : ∀ a b, R a b → (0 ≤ a ∧ a < g.nodes.length) ∧ (0 ≤ b ∧ b < h.nodes.length)
  node : ∀ a b, R a b → (nodeD g a).kind = (nodeD h b).kind ∧ (nodeD g a).name = (nodeD h b).name ∧ (nodeD g a).isOpen = (nodeD h b).isOpen ∧ (nodeD g a).labels = (nodeD h b).labels ∧ (nodeD g a).args.length = (nodeD h b).args.length ∧
    ∀ i, i < (nodeD g a).args.length → R ((nodeD g a).args.getD i 0) ((nodeD h b).args.getD i 0)
  one : ∀ a b c, R a b → R a c → cfreeF (nodeD g a) = true → b = c
  one' : ∀ a b c, R a c → R b c → cfreeF (nodeD g a) = true → a = b
theorem SameR.flip {g h : Graph} {R : Int → Int → Prop} (k : SameR g h R) : SameR h g (fun a b => R b a) := by
  have hf : ∀ a b, R a b → cfreeF (nodeD h b) = true → cfreeF (nodeD g a) = true := fun a b hab hf => by
    obtain ⟨h1, _, h3, _⟩ := k.node a b hab
    simpa only [cfreeF, h1, h3] using hf
  refine ⟨k.root, fun a b hab => (k.range b a hab).symm, fun a b hab => ?_, fun a b c h1 h2 h3 => k.one' b c a h1 h2 (hf _ _ h1 h3), fun a b c h1 h2 h3 => k.one c a b h1 h2 (hf _ _ h1 h3)⟩
  obtain ⟨h1, h2, h3, h4, h5, h6⟩ := k.node b a hab
  exact ⟨h1.symm, h2.symm, h3.symm, h4.symm, h5.symm, fun i hi => h6 i (by omega)⟩
theorem isF_iff {g h : Graph} (hg : GTi g) (hh : GTi h) (cg : checkF g = 0) (ch : checkF h = 0) : isF g h = true ↔ ∃ S, InstR g (leastF h) S := by
  have cL := (least_quo ch).check
  have tL := least_tiny hh ch
  have rg := check_root cg
  have rL := check_root cL
  have e : isF g h = walkG (okI g (leastF h)) (nxI g (leastF h)) (badI g) (2 + leftW (nxI g (leastF h)) [] (pairsS g (leastF h))) [(g.root, (leastF h).root)] [] := by
    rw [isF, cg, ch]; rfl
  have hsym : ∀ p q : Pr, badI g p q = badI g q p := fun p q => by
    unfold badI
    by_cases hpq : p.1 = q.1
    · rw [hpq]
    · have h1 : (p.1 == q.1) = false := by simpa using hpq
      have h2 : (q.1 == p.1) = false := by simpa using fun h => hpq h.symm
      rw [h1, h2]; simp
  rw [e, walk_iff _ _ _ hsym (ps := pairsS g (leastF h)) _ (mem_pairsS.2 ⟨⟨rg.1, rg.2.1⟩, rL.1, rL.2.1⟩) fun p hp ho => nxI_in hg tL cg cL hp ho]
  constructor
  · rintro ⟨S, h1, h2, h3⟩
    refine ⟨fun a b => S (a, b), h1, fun a b hab => mem_pairsS.1 (h2 _ hab).1, fun a b hab => ?_, fun a b c hab hac hf => ?_⟩
    · obtain ⟨_, ho, hn⟩ := h2 _ hab
      simp only [okI, okN, Bool.or_eq_true, Bool.and_eq_true, beq_iff_eq, eqL_iff, eqLL_iff, Bool.not_eq_true'] at ho
      by_cases hk : (nodeD g a).kind = 1
      · exact .inl hk
      · rcases ho with ho | ⟨⟨⟨k1, k2⟩, k3⟩, k4⟩
        · exact absurd ho hk
        refine .inr ⟨hk, k1, k2, k3, k4, fun i hi => ?_⟩
        refine hn _ ?_
        have hk' : ((nodeD g a).kind == 1) = false := by simpa using hk
        simp only [nxI, nxN, hk', Bool.false_eq_true, if_false, fwdI, List.mem_reverse, List.mem_map, List.mem_range]
        exact ⟨i, hi, rfl⟩
    · apply Classical.byContradiction
      intro hbc
      have := h3 _ _ hab hac (fun hh => hbc (Prod.mk.inj hh).2)
      simp [badI, hf] at this
  · rintro ⟨S, k⟩
    refine ⟨fun p => S p.1 p.2, k.root, fun p hp => ⟨mem_pairsS.2 (k.range _ _ hp), ?_, fun q hq => ?_⟩, fun p q hp hq hpq => ?_⟩
    · simp only [okI, okN, Bool.or_eq_true, Bool.and_eq_true, beq_iff_eq, eqL_iff, eqLL_iff, Bool.not_eq_true']
      rcases k.node _ _ hp with h1 | ⟨_, h1, h2, h3, h4, _⟩
      · exact .inl h1
      · exact .inr ⟨⟨⟨h1, h2⟩, h3⟩, h4⟩
    · simp only [nxI, nxN] at hq
      split at hq
      · cases hq
      · rename_i hk
        have hk' : (nodeD g p.1).kind ≠ 1 := by simpa using hk
        simp only [fwdI, List.mem_reverse, List.mem_map, List.mem_range] at hq
        obtain ⟨i, hi, rfl⟩ := hq
        rcases k.node _ _ hp with h1 | ⟨_, _, _, _, _, h5⟩
        · exact absurd h1 hk'
        · exact h5 i hi
    · cases hb : badI g p q with
      | false => rfl
      | true =>
        simp only [badI, Bool.and_eq_true, beq_iff_eq] at hb
        have := k.one p.1 p.2 q.2 hp (by rw [hb.2]; exact hq) hb.1
        exact absurd (Prod.ext hb.2 this) hpq
theorem free_cfree {n : Node} {N : Int} (h : mayF n N = true) : freeF n = cfreeF n := by
  rcases may_kind h with ⟨k, _, o, _⟩ | ⟨k, _, o, _⟩ | ⟨k, _⟩
  · simp [freeF, cfreeF, k]
  · simp [freeF, cfreeF, k, o]
  · simp [freeF, cfreeF, k]
theorem zip_mem {a b : List Int} {q : Pr} : q ∈ List.zip a b ↔ ∃ i, i < a.length ∧ i < b.length ∧ q = (a.getD i 0, b.getD i 0) := by
  constructor
  · intro hq
    obtain ⟨i, hi, rfl⟩ := List.mem_iff_getElem.1 hq
    rw [List.length_zip] at hi
    refine ⟨i, by omega, by omega, ?_⟩
    rw [List.getElem_zip, List.getD, List.getD, List.getElem?_eq_getElem (by omega), List.getElem?_eq_getElem (by omega)]; rfl
  · rintro ⟨i, h1, h2, rfl⟩
    have hz : i < (List.zip a b).length := by rw [List.length_zip]; omega
    have := List.getElem_mem hz
    rw [List.getElem_zip] at this
    rw [List.getD, List.getD, List.getElem?_eq_getElem h1, List.getElem?_eq_getElem h2]
    exact this
theorem sameF_iff {g h : Graph} (cg : checkF g = 0) (ch : checkF h = 0) : sameF g h = true ↔ ∃ R, SameR g h R := by
  have rg := check_root cg
  have rh := check_root ch
  have e : sameF g h = walkG (okS g h) (nxS g h) (badS g) (2 + leftW (nxS g h) [] (pairsS g h)) [(g.root, h.root)] [] := by
    rw [sameF, cg, ch]; rfl
  have hsym : ∀ p q : Pr, badS g p q = badS g q p := fun p q => by
    unfold badS
    rw [Bool.eq_iff_iff]
    simp only [Bool.and_eq_true, Bool.or_eq_true, beq_iff_eq]
    constructor <;> rintro ⟨h1, h2, h3⟩ <;> exact ⟨h2, h1, h3.elim (fun h => .inl h.symm) (fun h => .inr h.symm)⟩
  rw [e, walk_iff _ _ _ hsym (ps := pairsS g h) _ (mem_pairsS.2 ⟨⟨rg.1, rg.2.1⟩, rh.1, rh.2.1⟩) fun p hp _ => nxS_in cg ch hp]
  have hal : ∀ x y : Node, alikeF x y = true ↔ x.kind = y.kind ∧ x.name = y.name ∧ x.isOpen = y.isOpen ∧ x.labels = y.labels ∧ x.args.length = y.args.length := fun x y => by
    simp only [alikeF, Bool.and_eq_true, beq_iff_eq, eqL_iff, eqLL_iff]
    constructor
    · rintro ⟨⟨⟨⟨h1, h2⟩, h3⟩, h4⟩, h5⟩; exact ⟨h1, h2, h3, h5, h4⟩
    · rintro ⟨h1, h2, h3, h4, h5⟩; exact ⟨⟨⟨⟨h1, h2⟩, h3⟩, h5⟩, h4⟩
  constructor
  · rintro ⟨S, h1, h2, h3⟩
    have hfr : ∀ p, S p → freeF (nodeD g p.1) = cfreeF (nodeD g p.1) := fun p hp => by
      obtain ⟨⟨a0, a1⟩, _⟩ := mem_pairsS.1 (h2 _ hp).1
      exact free_cfree ((check_ns cg).2 _ (nodeD_mem a0 a1))
    refine ⟨fun a b => S (a, b), h1, fun a b hab => mem_pairsS.1 (h2 _ hab).1, fun a b hab => ?_, fun a b c hab hac hf => ?_, fun a b c hac hbc hf => ?_⟩
    · obtain ⟨_, ho, hn⟩ := h2 _ hab
      obtain ⟨k1, k2, k3, k4, k5⟩ := (hal _ _).1 ho
      refine ⟨k1, k2, k3, k4, k5, fun i hi => hn _ ?_⟩
      have k5' : (nodeD g a).args.length = (nodeD h b).args.length := k5
      simp only [nxS, List.mem_reverse]
      exact zip_mem.2 ⟨i, hi, by omega, rfl⟩
    · apply Classical.byContradiction
      intro hbc
      have := h3 _ _ hab hac (fun hh => hbc (Prod.mk.inj hh).2)
      rw [← hfr _ hab] at hf
      simp [badS, hf] at this
    · apply Classical.byContradiction
      intro hab
      have := h3 _ _ hac hbc (fun hh => hab (Prod.mk.inj hh).1)
      rw [← hfr _ hac] at hf
      have hf2 : freeF (nodeD g b) = true := by
        have q1 := (hal _ _).1 (h2 _ hac).2.1
        have q2 := (hal _ _).1 (h2 _ hbc).2.1
        simp only at q1 q2
        simpa only [freeF, q1.1, q1.2.2.1, ← q2.1, ← q2.2.2.1] using hf
      simp [badS, hf, hf2] at this
  · rintro ⟨R, k⟩
    refine ⟨fun p => R p.1 p.2, k.root, fun p hp => ⟨mem_pairsS.2 (k.range _ _ hp), ?_, fun q hq => ?_⟩, fun p q hp hq hpq => ?_⟩
    · obtain ⟨h1, h2, h3, h4, h5, _⟩ := k.node _ _ hp
      exact (hal _ _).2 ⟨h1, h2, h3, h4, h5⟩
    · simp only [nxS, List.mem_reverse] at hq
      obtain ⟨i, h1, _, rfl⟩ := zip_mem.1 hq
      exact (k.node _ _ hp).2.2.2.2.2 i h1
    · cases hb : badS g p q with
      | false => rfl
      | true =>
        simp only [badS, Bool.and_eq_true, Bool.or_eq_true, beq_iff_eq] at hb
        obtain ⟨⟨a0, a1⟩, _⟩ := k.range _ _ hp
        have hf : cfreeF (nodeD g p.1) = true := by
          rw [← free_cfree ((check_ns cg).2 _ (nodeD_mem a0 a1))]; exact hb.1
        rcases hb.2.2 with h | h
        · have := k.one p.1 p.2 q.2 hp (by rw [h]; exact hq) hf
          exact absurd (Prod.ext h this) hpq
        · have := k.one' p.1 q.1 p.2 hp (by rw [h]; exact hq) hf
          exact absurd (Prod.ext this h) hpq
/-! ### Rows that rise -/
theorem bs_of {l : List (List Nat)} (hr : Rises l) {i : Nat} {s : List Nat} (h : l[i]? = some s) : bsAt l s = i ∧ bsIs l s = true := by
  have hi : i < l.length := (List.getElem?_eq_some_iff.1 h).1
  have h1 : bsAt l s = i := bs_split hr (by omega) (fun j x hj hx => hr j i hj x s hx h) (fun j x hj hx => by
    rcases Nat.eq_or_lt_of_le hj with rfl | hj
    · rw [h] at hx; cases hx; exact lessL_irr s
    · cases hc : lessL x s with
      | false => rfl
      | true => exact absurd (lessL_trans (hr i j hj s x h hx) hc) (by rw [lessL_irr]; simp))
  refine ⟨h1, ?_⟩
  rw [bsIs, h1, h]; exact eqL_iff.2 rfl
theorem bs_mem {l : List (List Nat)} {s : List Nat} (h : bsIs l s = true) : l[bsAt l s]? = some s := by
  unfold bsIs at h
  split at h
  · rename_i x hx; rw [hx, eqL_iff.1 h]
  · cases h
theorem rises_nodup {l : List (List Nat)} (hr : Rises l) {i j : Nat} {s : List Nat} (h1 : l[i]? = some s) (h2 : l[j]? = some s) : i = j := by
  rw [← (bs_of hr h1).1, (bs_of hr h2).1]
theorem rises_ext : ∀ {a b : List (List Nat)}, Rises a → Rises b → (∀ s, s ∈ a ↔ s ∈ b) → a = b
  | [], [], _, _, _ => rfl
  | [], y :: b, _, _, h => by have := (h y).2 (by simp); cases this
  | x :: a, [], _, _, h => by have := (h x).1 (by simp); cases this
  | x :: a, y :: b, ra, rb, h => by
    have tail : ∀ {z : List Nat} {l : List (List Nat)}, Rises (z :: l) → Rises l ∧ ∀ s ∈ l, lessL z s = true := fun {z l} hr => by
      refine ⟨fun i j hij u v hu hv => hr (i + 1) (j + 1) (by omega) u v (by simpa using hu) (by simpa using hv), fun s hs => ?_⟩
      obtain ⟨i, hi, rfl⟩ := List.mem_iff_getElem.1 hs
      exact hr 0 (i + 1) (by omega) z _ rfl (by simp)
    have hxy : x = y := by
      rcases lessL_tri x y with hl | hl | hl
      · have := (h x).1 (by simp)
        rcases List.mem_cons.1 this with h' | h'
        · exact h'
        · have := (tail rb).2 x h'
          exact absurd (lessL_trans hl this) (by rw [lessL_irr]; simp)
      · exact hl
      · have := (h y).2 (by simp)
        rcases List.mem_cons.1 this with h' | h'
        · exact h'.symm
        · have := (tail ra).2 y h'
          exact absurd (lessL_trans hl this) (by rw [lessL_irr]; simp)
    subst hxy
    have : a = b := rises_ext (tail ra).1 (tail rb).1 fun s => by
      constructor
      · intro hs
        have := (h s).1 (by simp [hs])
        rcases List.mem_cons.1 this with rfl | h'
        · have := (tail ra).2 _ hs; rw [lessL_irr] at this; cases this
        · exact h'
      · intro hs
        have := (h s).2 (by simp [hs])
        rcases List.mem_cons.1 this with rfl | h'
        · have := (tail rb).2 _ hs; rw [lessL_irr] at this; cases this
        · exact h'
    rw [this]
end Go.Ab.S
end
section
/-
  Instances are an order.
-/
namespace Go.Ab.S
open Go.Ab
set_option maxHeartbeats 1000000
section
variable {g h k : Graph}
theorem quo_arg {L : Graph} {q : Int → Int} (Q : Quo g L q) {i : Int} (hi : Rch g i) {j : Nat} (hj : j < (nodeD g i).args.length) : (nodeD L (q i)).args.getD j 0 = q ((nodeD g i).args.getD j 0) := by
  rw [Q.node i hi]
  simp only [List.getD, List.getElem?_map, List.getElem?_eq_getElem hj]; rfl
theorem quo_arg' {L : Graph} {q : Int → Int} (Q : Quo g L q) {i : Int} (hi : Rch g i) {j : Nat} : (nodeD L (q i)).args.length = (nodeD g i).args.length := by
  rw [Q.node i hi]; simp
theorem getD_mem {l : List Int} {i : Nat} (h : i < l.length) : l.getD i 0 ∈ l := by
  rw [List.getD, List.getElem?_eq_getElem h]; exact List.getElem_mem h
theorem rch_arg {i : Int} (hi : Rch g i) {j : Nat} (hj : j < (nodeD g i).args.length) : Rch g ((nodeD g i).args.getD j 0) := hi.step (getD_mem hj)
theorem may_at (cg : checkF g = 0) {a : Int} (ha : 0 ≤ a ∧ a < g.nodes.length) : mayF (nodeD g a) g.nodes.length = true := (check_ns cg).2 _ (node_in ha)
/-- Where labels are the same, fellows stand at the same places. -/
theorem idx_same {x y : Node} {N M : Int} (hx : mayF x N = true) (hl : x.labels = y.labels) {i : Nat} (hi : i < x.args.length) : idxI x y i = i := by
  rw [idxI]
  split
  · rename_i hk
    have hk : x.kind = 3 := by simpa using hk
    rcases may_kind hx with ⟨k', _⟩ | ⟨k', _⟩ | ⟨_, _, l1, r1⟩
    · omega
    · omega
    have hil : i < x.labels.length := by omega
    rw [← hl]
    refine (bs_of (ris_rises r1) ?_).1
    simp [List.getD, List.getElem?_eq_getElem hil]
  · rfl
theorem ok_same {x y : Node} {N : Int} (hx : mayF x N = true) (hl : x.labels = y.labels) : argsOk x y = true := by
  rw [argsOk]
  split
  · rename_i hk
    have hk : x.kind = 3 := by simpa using hk
    rcases may_kind hx with ⟨k', _⟩ | ⟨k', _⟩ | ⟨_, _, l1, r1⟩
    · omega
    · omega
    rw [List.all_eq_true, ← hl]
    intro s hs
    obtain ⟨i, hi, rfl⟩ := List.mem_iff_getElem.1 hs
    exact (bs_of (ris_rises r1) (List.getElem?_eq_getElem hi)).2
  · rfl
/-- **Types that are the same are instances of one another.** -/
theorem inst_of_same (cg : checkF g = 0) (ch : checkF h = 0) {R : Int → Int → Prop} (K : SameR g h R) : ∃ S, InstR g (leastF h) S := by
  have Q := least_quo ch
  refine ⟨fun a z => ∃ b, R a b ∧ Rch h b ∧ z = qL h b, ⟨_, K.root, .root, Q.root⟩, ?_, ?_, ?_⟩
  · rintro a _ ⟨b, h1, h2, rfl⟩
    exact ⟨(K.range a b h1).1, Q.range b h2⟩
  · rintro a _ ⟨b, h1, h2, rfl⟩
    obtain ⟨k1, k2, k3, k4, k5, k6⟩ := K.node a b h1
    have hm := may_at cg (K.range a b h1).1
    by_cases hk : (nodeD g a).kind = 1
    · exact .inl hk
    have hn := Q.node b h2
    have hlab : (nodeD g a).labels = (nodeD (leastF h) (qL h b)).labels := by rw [hn]; exact k4
    refine .inr ⟨hk, by rw [hn]; exact k1, by rw [hn]; exact k2, ?_, ok_same hm hlab, fun i hi => ?_⟩
    · cases ho : (nodeD g a).isOpen
      · exact .inr ⟨by rw [hn]; show (nodeD h b).isOpen = false; rw [← k3]; exact ho, hlab⟩
      · exact .inl rfl
    · rw [idx_same (M := 0) hm hlab hi, quo_arg Q h2 (by omega)]
      exact ⟨_, k6 i hi, rch_arg h2 (by omega), rfl⟩
  · rintro a _ _ ⟨b, h1, _, rfl⟩ ⟨b', h1', _, rfl⟩ hf
    rw [K.one a b b' h1 h1' hf]
theorem same_refl (g : Graph) (cg : checkF g = 0) : ∃ R, SameR g g R :=
  ⟨fun a b => a = b ∧ Rch g a, ⟨rfl, .root⟩, fun a b hab => by obtain ⟨rfl, hr⟩ := hab; exact ⟨hr.ok cg, hr.ok cg⟩, fun a b hab => by
    obtain ⟨rfl, hr⟩ := hab
    exact ⟨rfl, rfl, rfl, rfl, rfl, fun i hi => ⟨rfl, rch_arg hr hi⟩⟩, fun a b c h1 h2 _ => by rw [← h1.1, ← h2.1], fun a b c h1 h2 _ => by rw [h1.1, h2.1]⟩
/-- What an instance's node is. -/
theorem inst_node (cg : checkF g = 0) (ch : checkF h = 0) {S : Int → Int → Prop} (K : InstR g (leastF h) S) {a b : Int} (hb : Rch h b) (hab : S a (qL h b)) :
    (nodeD g a).kind = 1 ∨ ((nodeD g a).kind ≠ 1 ∧ (nodeD g a).kind = (nodeD h b).kind ∧ (nodeD g a).name = (nodeD h b).name ∧ ((nodeD g a).isOpen = true ∨ ((nodeD h b).isOpen = false ∧ (nodeD g a).labels = (nodeD h b).labels)) ∧ ((nodeD g a).kind = 3 → ∀ s ∈ (nodeD g a).labels, s ∈ (nodeD h b).labels) ∧
    ∀ i, i < (nodeD g a).args.length → idxI (nodeD g a) (nodeD h b) i < (nodeD h b).args.length ∧ S ((nodeD g a).args.getD i 0) (qL h ((nodeD h b).args.getD (idxI (nodeD g a) (nodeD h b) i) 0))) := by
  have Q := least_quo ch
  have hn := Q.node b hb
  have mg := may_at cg (K.range _ _ hab).1
  have mh := may_at ch (hb.ok ch)
  rcases K.node a _ hab with h1 | ⟨h1, h2, h3, h4, h5, h6⟩
  · exact .inl h1
  have e2 : (nodeD (leastF h) (qL h b)).kind = (nodeD h b).kind := by rw [hn]
  have e3 : (nodeD (leastF h) (qL h b)).name = (nodeD h b).name := by rw [hn]
  have e4 : (nodeD (leastF h) (qL h b)).isOpen = (nodeD h b).isOpen := by rw [hn]
  have e5 : (nodeD (leastF h) (qL h b)).labels = (nodeD h b).labels := by rw [hn]
  have eidx : ∀ i, idxI (nodeD g a) (nodeD (leastF h) (qL h b)) i = idxI (nodeD g a) (nodeD h b) i := fun i => by rw [idxI, idxI, e5]
  rw [e2] at h2
  rw [e3] at h3
  rw [e4, e5] at h4
  have hfound : (nodeD g a).kind = 3 → ∀ s ∈ (nodeD g a).labels, bsIs (nodeD h b).labels s = true := by
    intro hk s hs
    have hk' : ((nodeD g a).kind == 3) = true := by simpa using hk
    rw [argsOk, hk', e5] at h5
    simp only [if_true, List.all_eq_true] at h5
    exact h5 s hs
  refine .inr ⟨h1, h2, h3, h4, fun hk s hs => List.mem_of_getElem? (bs_mem (hfound hk s hs)), fun i hi => ?_⟩
  have hidx : idxI (nodeD g a) (nodeD h b) i < (nodeD h b).args.length := by
    by_cases hk : (nodeD g a).kind = 3
    · have hk' : ((nodeD g a).kind == 3) = true := by simpa using hk
      rcases may_kind mg with ⟨k', _⟩ | ⟨k', _⟩ | ⟨_, _, l1, _⟩
      · omega
      · omega
      rcases may_kind mh with ⟨k', _⟩ | ⟨k', _⟩ | ⟨_, _, l2, _⟩
      · omega
      · omega
      have hil : i < (nodeD g a).labels.length := by omega
      have := bsIs_lt (hfound hk _ (List.getElem_mem hil))
      rw [idxI, hk']
      simp only [if_true, List.getD, List.getElem?_eq_getElem hil, Option.getD_some]
      omega
    · have hk' : ((nodeD g a).kind == 3) = false := by simpa using hk
      rw [idxI, hk']
      rcases may_kind mg with ⟨k', _⟩ | ⟨k', _, _, _, l1⟩ | ⟨k', _⟩
      · omega
      · rcases may_kind mh with ⟨k'', _⟩ | ⟨k'', _, _, _, l2⟩ | ⟨k'', _⟩
        · omega
        · simp only [Bool.false_eq_true, if_false]; rw [l2, ← h3, ← l1]; exact hi
        · omega
      · omega
  refine ⟨hidx, ?_⟩
  have := h6 i hi
  rw [eidx, quo_arg Q hb hidx] at this
  exact this
/-- **Two that are instances of one another are the same.** -/
theorem same_of_inst (cg : checkF g = 0) (ch : checkF h = 0) {S : Int → Int → Prop} {T : Int → Int → Prop} (K : InstR g (leastF h) S) (J : InstR h (leastF g) T) : ∃ R, SameR g h R := by
  have Qh := least_quo ch
  have Qg := least_quo cg
  have key : ∀ a b, Rch g a → Rch h b → S a (qL h b) → T b (qL g a) → (nodeD g a).kind = (nodeD h b).kind ∧ (nodeD g a).name = (nodeD h b).name ∧ (nodeD g a).isOpen = (nodeD h b).isOpen ∧ (nodeD g a).labels = (nodeD h b).labels ∧ (nodeD g a).args.length = (nodeD h b).args.length := by
    intro a b ha hb h1 h2
    have ma := may_at cg (ha.ok cg)
    have mb := may_at ch (hb.ok ch)
    have na := inst_node cg ch K hb h1
    have nb := inst_node ch cg J ha h2
    rcases na with k1 | ⟨k1, k2, k3, k4, k5, _⟩
    · have hkb : (nodeD h b).kind = 1 := by
        rcases nb with q | ⟨_, q, _⟩
        · exact q
        · rw [q]; exact k1
      rcases may_kind ma with ⟨_, l1, o1, n1', a1⟩ | ⟨q, _⟩ | ⟨q, _⟩
      · rcases may_kind mb with ⟨_, l2, o2, n2, a2⟩ | ⟨q, _⟩ | ⟨q, _⟩
        · rw [k1, hkb, l1, l2, o1, o2, n1', n2, a1, a2]; exact ⟨rfl, rfl, rfl, rfl, rfl⟩
        · omega
        · omega
      · omega
      · omega
    · rcases nb with q | ⟨_, _, _, q4, q5, _⟩
      · omega
      have ho : (nodeD g a).isOpen = (nodeD h b).isOpen := by
        cases o1 : (nodeD g a).isOpen <;> cases o2 : (nodeD h b).isOpen
        · rfl
        · rcases k4 with k4 | k4
          · rw [o1] at k4; cases k4
          · rw [o2] at k4; cases k4.1
        · rcases q4 with q4 | q4
          · rw [o2] at q4; cases q4
          · rw [o1] at q4; cases q4.1
        · rfl
      rcases may_kind ma with ⟨q, _⟩ | ⟨q, l1, o1, n1', a1⟩ | ⟨q, n1', a1, r1⟩
      · omega
      · rcases may_kind mb with ⟨q', _⟩ | ⟨q', l2, o2, n2, a2⟩ | ⟨q', _⟩
        · omega
        · exact ⟨k2, k3, ho, by rw [l1, l2], by rw [a1, a2, k3]⟩
        · omega
      · rcases may_kind mb with ⟨q', _⟩ | ⟨q', _⟩ | ⟨q', n2, a2, r2⟩
        · omega
        · omega
        · have hl : (nodeD g a).labels = (nodeD h b).labels := rises_ext (ris_rises r1) (ris_rises r2) fun s => ⟨k5 q s, q5 q' s⟩
          exact ⟨k2, k3, ho, hl, by rw [← a1, ← a2, hl]⟩
  refine ⟨fun a b => Rch g a ∧ Rch h b ∧ S a (qL h b) ∧ T b (qL g a), ⟨.root, .root, ?_, ?_⟩, ?_, ?_, ?_, ?_⟩
  · rw [← Qh.root]; exact K.root
  · rw [← Qg.root]; exact J.root
  · rintro a b ⟨ha, hb, _⟩; exact ⟨ha.ok cg, hb.ok ch⟩
  · rintro a b ⟨ha, hb, h1, h2⟩
    obtain ⟨k1, k2, k3, k4, k5⟩ := key a b ha hb h1 h2
    refine ⟨k1, k2, k3, k4, k5, fun i hi => ⟨rch_arg ha hi, rch_arg hb (by omega), ?_, ?_⟩⟩
    · rcases inst_node cg ch K hb h1 with q | ⟨_, _, _, _, _, q⟩
      · rcases may_kind (may_at cg (ha.ok cg)) with ⟨_, _, _, _, a1⟩ | ⟨q', _⟩ | ⟨q', _⟩
        · rw [a1] at hi; simp at hi
        · omega
        · omega
      · have := (q i hi).2
        rwa [idx_same (M := 0) (may_at cg (ha.ok cg)) k4 hi] at this
    · rcases inst_node ch cg J ha h2 with q | ⟨_, _, _, _, _, q⟩
      · rcases may_kind (may_at ch (hb.ok ch)) with ⟨_, _, _, _, a1⟩ | ⟨q', _⟩ | ⟨q', _⟩
        · rw [k5, a1] at hi; simp at hi
        · omega
        · omega
      · have := (q i (by omega)).2
        rwa [idx_same (M := 0) (may_at ch (hb.ok ch)) k4.symm (by omega)] at this
  · rintro a b c ⟨ha, hb, h1, h2⟩ ⟨_, hc, h1', _⟩ hf
    have := K.one a _ _ h1 h1' hf
    refine Qh.inj b c hb hc ?_ this
    obtain ⟨k1, _, k3, _⟩ := key a b ha hb h1 h2
    simpa only [cfreeF, k1, k3] using hf
  · rintro a b c ⟨ha, hc, h1, h2⟩ ⟨hb, _, h1', h2'⟩ hf
    obtain ⟨k1, _, k3, _⟩ := key a c ha hc h1 h2
    have hfc : cfreeF (nodeD h c) = true := by simpa only [cfreeF, k1, k3] using hf
    exact Qg.inj a b ha hb hf (J.one c _ _ h2 h2' hfc)
/-- **Instances of instances are some.** -/
theorem inst_trans (cg : checkF g = 0) (ch : checkF h = 0) (ck : checkF k = 0) {S T : Int → Int → Prop} (K : InstR g (leastF h) S) (J : InstR h (leastF k) T) : ∃ U, InstR g (leastF k) U := by
  have Qh := least_quo ch
  have Qk := least_quo ck
  have hmin := least_least ck
  -- what two nodes of one class are matched with is one
  have uniq : ∀ b b' z z', Rch h b → Rch h b' → qL h b = qL h b' → T b z → T b' z' → z = z' := by
    intro b b' z z' hb hb' he h1 h2
    refine hmin (fun x y => ∃ b b', Rch h b ∧ Rch h b' ∧ qL h b = qL h b' ∧ T b x ∧ T b' y) ?_ z z' ⟨b, b', hb, hb', he, h1, h2⟩
    rintro x y ⟨b, b', hb, hb', he, h1, h2⟩
    refine ⟨(J.range _ _ h1).2, (J.range _ _ h2).2, ?_⟩
    by_cases hf : cfreeF (nodeD h b) = true
    · have := Qh.inj b b' hb hb' hf he
      subst this
      exact .inl (J.one b x y h1 h2 hf)
    have hf0 : cfreeF (nodeD h b) = false := by simpa using hf
    have nb := Qh.node b hb
    have nb' := Qh.node b' hb'
    rw [he, nb'] at nb
    have f1 := congrArg Node.kind nb
    have f2 := congrArg Node.name nb
    have f3 := congrArg Node.args nb
    have f4 := congrArg Node.labels nb
    have f5 := congrArg Node.isOpen nb
    simp only at f1 f2 f3 f4 f5
    simp only [cfreeF, Bool.or_eq_false_iff, beq_eq_false_iff_ne] at hf0
    have mb := may_at ch (hb.ok ch)
    have mb' := may_at ch (hb'.ok ch)
    rcases J.node b x h1 with q | ⟨_, q1, q2, q3, q4, q5⟩
    · exact absurd q hf0.1
    rcases J.node b' y h2 with q | ⟨_, r1, r2, r3, r4, r5⟩
    · rw [f1] at q; exact absurd q hf0.1
    rcases q3 with q3 | ⟨q3, q3'⟩
    · rw [hf0.2] at q3; cases q3
    rcases r3 with r3 | ⟨r3, r3'⟩
    · rw [f5, hf0.2] at r3; cases r3
    have cL := Qk.check
    have mx := may_at cL (J.range _ _ h1).2
    have my := may_at cL (J.range _ _ h2).2
    have hal : (nodeD h b).args.length = (nodeD (leastF k) x).args.length := by
      rcases may_kind mb with ⟨k', _⟩ | ⟨k', _, _, _, l1⟩ | ⟨k', _, l1, _⟩
      · exact absurd k' hf0.1
      · rcases may_kind mx with ⟨k'', _⟩ | ⟨_, _, _, _, l2⟩ | ⟨k'', _⟩
        · omega
        · rw [l1, l2, q2]
        · omega
      · rcases may_kind mx with ⟨k'', _⟩ | ⟨k'', _⟩ | ⟨_, _, l2, _⟩
        · omega
        · omega
        · rw [← l1, ← l2, q3']
    have hal' : (nodeD h b').args.length = (nodeD (leastF k) y).args.length := by
      rcases may_kind mb' with ⟨k', _⟩ | ⟨k', _, _, _, l1⟩ | ⟨k', _, l1, _⟩
      · rw [f1] at k'; exact absurd k' hf0.1
      · rcases may_kind my with ⟨k'', _⟩ | ⟨_, _, _, _, l2⟩ | ⟨k'', _⟩
        · omega
        · rw [l1, l2, r2]
        · omega
      · rcases may_kind my with ⟨k'', _⟩ | ⟨k'', _⟩ | ⟨_, _, l2, _⟩
        · omega
        · omega
        · rw [← l1, ← l2, r3']
    have hab : (nodeD h b').args.length = (nodeD h b).args.length := by simpa using congrArg List.length f3
    refine .inr ⟨?_, ?_, by rw [← q1, ← r1, f1], by rw [← q2, ← r2, f2], by rw [← q3', ← r3', f4], by omega, fun j c d hc hd => ?_⟩
    · simp only [cfreeF, q3, Bool.or_false, beq_eq_false_iff_ne]; rw [← q1]; exact hf0.1
    · simp only [cfreeF, r3, Bool.or_false, beq_eq_false_iff_ne]; rw [← r1, f1]; exact hf0.1
    · have hj : j < (nodeD h b).args.length := by
        have := (List.getElem?_eq_some_iff.1 hc).1; omega
      have hj' : j < (nodeD h b').args.length := by omega
      have t1 := q5 j hj
      have t2 := r5 j hj'
      rw [idx_same (M := 0) mb q3' hj] at t1
      rw [idx_same (M := 0) mb' r3' hj'] at t2
      rw [show (nodeD (leastF k) x).args.getD j 0 = c by rw [List.getD, hc]; rfl] at t1
      rw [show (nodeD (leastF k) y).args.getD j 0 = d by rw [List.getD, hd]; rfl] at t2
      refine ⟨_, _, rch_arg hb hj, rch_arg hb' hj', ?_, t1, t2⟩
      have := congrArg (fun l => l[j]?) f3
      simp only [List.getElem?_map, List.getElem?_eq_getElem hj, List.getElem?_eq_getElem hj', Option.map_some, Option.some.injEq] at this
      rw [List.getD, List.getD, List.getElem?_eq_getElem hj, List.getElem?_eq_getElem hj']
      exact this.symm
  refine ⟨fun a z => ∃ b, Rch h b ∧ S a (qL h b) ∧ T b z, ⟨h.root, .root, by rw [← Qh.root]; exact K.root, J.root⟩, ?_, ?_, ?_⟩
  · rintro a z ⟨b, hb, h1, h2⟩; exact ⟨(K.range _ _ h1).1, (J.range _ _ h2).2⟩
  · rintro a z ⟨b, hb, h1, h2⟩
    have ma := may_at cg (K.range _ _ h1).1
    have mb := may_at ch (hb.ok ch)
    have mz := may_at Qk.check (J.range _ _ h2).2
    rcases inst_node cg ch K hb h1 with q | ⟨q0, q1, q2, q3, q4, q5⟩
    · exact .inl q
    rcases J.node b z h2 with r | ⟨r0, r1, r2, r3, r4, r5⟩
    · rw [← q1] at r; exact absurd r q0
    have hlz : (nodeD h b).kind = 3 → ∀ s ∈ (nodeD h b).labels, bsIs (nodeD (leastF k) z).labels s = true := fun hk s hs => by
      have hk' : ((nodeD h b).kind == 3) = true := by simpa using hk
      rw [argsOk, hk'] at r4
      simp only [if_true, List.all_eq_true] at r4
      exact r4 s hs
    refine .inr ⟨q0, q1.trans r1, q2.trans r2, ?_, ?_, fun i hi => ?_⟩
    · rcases q3 with q3 | ⟨q3, q3'⟩
      · exact .inl q3
      · rcases r3 with r3 | ⟨r3, r3'⟩
        · rw [q3] at r3; cases r3
        · exact .inr ⟨r3, q3'.trans r3'⟩
    · rw [argsOk]
      split
      · rename_i hk
        have hk : (nodeD g a).kind = 3 := by simpa using hk
        rw [List.all_eq_true]
        intro s hs
        exact hlz (by omega) s (q4 hk s hs)
      · rfl
    · obtain ⟨hidx, hs⟩ := q5 i hi
      refine ⟨_, rch_arg hb hidx, hs, ?_⟩
      have := r5 _ hidx
      have he : idxI (nodeD h b) (nodeD (leastF k) z) (idxI (nodeD g a) (nodeD h b) i) = idxI (nodeD g a) (nodeD (leastF k) z) i := by
        by_cases hk : (nodeD g a).kind = 3
        · have hk' : ((nodeD g a).kind == 3) = true := by simpa using hk
          have hkb' : ((nodeD h b).kind == 3) = true := by rw [← q1]; exact hk'
          rcases may_kind ma with ⟨k', _⟩ | ⟨k', _⟩ | ⟨_, _, l1, _⟩
          · omega
          · omega
          have hil : i < (nodeD g a).labels.length := by omega
          have hsg : (nodeD g a).labels.getD i [] = (nodeD g a).labels[i] := by simp [List.getD, List.getElem?_eq_getElem hil]
          have hin := q4 hk _ (List.getElem_mem hil)
          rcases may_kind mb with ⟨k', _⟩ | ⟨k', _⟩ | ⟨_, _, l2, r2'⟩
          · omega
          · omega
          obtain ⟨j, hj, hje⟩ := List.mem_iff_getElem.1 hin
          have hbs := bs_of (ris_rises r2') (show (nodeD h b).labels[j]? = some (nodeD g a).labels[i] by rw [List.getElem?_eq_getElem hj, hje])
          simp only [idxI, hk', hkb', if_true, hsg, hbs.1]
          rw [List.getD, List.getElem?_eq_getElem hj, hje]; rfl
        · have hk' : ((nodeD g a).kind == 3) = false := by simpa using hk
          have hkb' : ((nodeD h b).kind == 3) = false := by rw [← q1]; exact hk'
          simp [idxI, hk', hkb']
      rwa [he] at this
  · rintro a z z' ⟨b, hb, h1, h2⟩ ⟨b', hb', h1', h2'⟩ hf
    exact uniq b b' z z' hb hb' (K.one a _ _ h1 h1' hf) h2 h2'
end
end Go.Ab.S
end
section
/-
  What the law of instances asks.
-/
namespace Go.Ab.S
open Go.Ab
set_option maxHeartbeats 1000000
section
variable {g h k : Graph}
theorem is_refl (hg : GTi g) (cg : checkF g = 0) : isF g g = true := by
  obtain ⟨R, K⟩ := same_refl g cg
  exact (isF_iff hg hg cg cg).2 (inst_of_same cg cg K)
theorem is_same (hg : GTi g) (hh : GTi h) (cg : checkF g = 0) (ch : checkF h = 0) : sameF g h = (isF g h && isF h g) := by
  rw [Bool.eq_iff_iff, Bool.and_eq_true, sameF_iff cg ch, isF_iff hg hh cg ch, isF_iff hh hg ch cg]
  constructor
  · rintro ⟨R, K⟩; exact ⟨inst_of_same cg ch K, inst_of_same ch cg K.flip⟩
  · rintro ⟨⟨S, K⟩, ⟨T, J⟩⟩; exact same_of_inst cg ch K J
theorem is_trans (hg : GTi g) (hh : GTi h) (hk : GTi k) (cg : checkF g = 0) (ch : checkF h = 0) (ck : checkF k = 0) (h1 : isF g h = true) (h2 : isF h k = true) : isF g k = true := by
  obtain ⟨S, K⟩ := (isF_iff hg hh cg ch).1 h1
  obtain ⟨T, J⟩ := (isF_iff hh hk ch ck).1 h2
  exact (isF_iff hg hk cg ck).2 (inst_trans cg ch ck K J)
end
def gV : Graph := ⟨[⟨1, [], [], [], false⟩], 0⟩
theorem tiny_V : GTi gV := by
  have e30 : (2 : Nat) ^ 30 = 1073741824 := by decide
  have e60 : (2 : Nat) ^ 60 = 1152921504606846976 := by decide
  refine ⟨⟨⟨by show (1 : Nat) < _; omega, fun n hn => ?_⟩, by show 1 + leftG [] gV.nodes 0 ≤ _; simp [gV, leftG], fun n hn => ?_⟩, by simp [gV, leftG]⟩
  · rw [List.mem_singleton.1 hn]; exact ⟨by show (0 : Nat) < _; omega, by show (0 : Nat) < _; omega, fun s hs => by cases hs⟩
  · rw [List.mem_singleton.1 hn]; show (0 : Nat) ≤ _; omega
theorem check_V : checkF gV = 0 := by decide
theorem is_var {g : Graph} (hg : GTi g) (cg : checkF g = 0) : isF gV g = true := by
  refine (isF_iff tiny_V hg check_V cg).2 ⟨fun a b => a = 0 ∧ b = (leastF g).root, ⟨rfl, rfl⟩, ?_, ?_, ?_⟩
  · rintro a b ⟨rfl, rfl⟩
    have := check_root (least_quo cg).check
    exact ⟨⟨by decide, by decide⟩, this.1, this.2.1⟩
  · rintro a b ⟨rfl, rfl⟩; exact .inl rfl
  · rintro a b c ⟨_, rfl⟩ ⟨_, rfl⟩ _; rfl
/-! ### Sizes -/
theorem great_len (g : Graph) : g.nodes.length + leftG [] g.nodes 0 ≤ greatF g := by
  have : ∀ (ns : List Node) (i : Nat), leftG [] ns i ≤ sumL greatN ns := by
    intro ns
    induction ns with
    | nil => intro i; simp [leftG, sumL]
    | cons n r ih => intro i; simp only [leftG, sumL, greatN]; have := ih (i + 1); simp; omega
  have := this g.nodes 0
  simp only [greatF]; omega
theorem great_node {g : Graph} {n : Node} (hn : n ∈ g.nodes) : greatN n ≤ greatF g := by
  have : ∀ (ns : List Node), n ∈ ns → greatN n ≤ sumL greatN ns := by
    intro ns
    induction ns with
    | nil => intro h; cases h
    | cons m r ih =>
      intro h
      simp only [sumL]
      rcases List.mem_cons.1 h with rfl | h
      · omega
      · have := ih h; omega
  have := this g.nodes hn
  simp only [greatF]; omega
/-- So great that no count goes round. -/
structure Sane (g : Graph) : Prop where
  great : greatF g < 2 ^ 60
  sm : GraphSm g
theorem Sane.tiny {g : Graph} (h : Sane g) (hg : greatF g ≤ 300) : GTi g := by
  have e30 : (2 : Nat) ^ 30 = 1073741824 := by decide
  have h1 := great_len g
  refine ⟨⟨h.sm, by omega, fun n hn => ?_⟩, by omega⟩
  have := great_node hn
  simp only [greatN] at this; omega
end Go.Ab.S
end
section
/-
  Instances are an order: the law's walk.
-/
namespace Go.Ab.S
open Go.Ab
set_option maxHeartbeats 1500000
section
variable {fns : FuncId → Option AFunc} {summ : FuncId → List AVal → AHeap → Option (D (AVal × AHeap))}
variable (H : Has fns summ) (HR : HasRead summ)
include H HR
theorem InstOrders_ok (g h k : Graph) (hg : Sane g) (hh : Sane h) (hk : Sane k) (v u t : AVal) (h0 : AHeap) (hw : WF h0) (hv : GraphAt h0 v g) (hu : GraphAt h0 u h) (ht : GraphAt h0 t k) : Cl fns summ 3 [v, u, t] h0 fun r h' => r = .bool true ∧ Grow h0 h' := by
  obtain ⟨nv, rfl, hN⟩ := hv
  obtain ⟨mv, rfl, hM⟩ := hu
  obtain ⟨lv, rfl, hL⟩ := ht
  refine H.go (fn := F_InstOrders) rfl (by decide) rfl rfl ?_
  unfold F_InstOrders
  dsimp only
  refine cd_seq (cd_ops ?_)
  refine st_box (by exact e1) (by exact cc) hw ?_
  rintro b3 h1 hb3 g1 o3
  refine st_box (by exact e1) (by exact cc) g1.wf ?_
  rintro b4 h2 hb4 g2 o4
  replace o3 := g2.keep _ _ o3
  refine st_box (by exact e1) (by exact cc) g2.wf ?_
  rintro b5 h3 hb5 g3 o5
  replace o3 := g3.keep _ _ o3
  replace o4 := g3.keep _ _ o4
  have G := (g1.trans g2).trans g3
  clear g1 g2 g3 hb3 hb4 hb5
  have p3 : partA (some 2) [nv, .int .i64 g.root] 0 = some (.agg [nv, .int .i64 g.root]) := rfl
  have p4 : partA (some 2) [mv, .int .i64 h.root] 0 = some (.agg [mv, .int .i64 h.root]) := rfl
  have p5 : partA (some 2) [lv, .int .i64 k.root] 0 = some (.agg [lv, .int .i64 k.root]) := rfl
  have ht2 : ∀ x y : AVal, List.take 2 [x, y] = [x, y] := fun _ _ => rfl
  repeat with_reducible first | refine nxt_normal ?_ | refine st_nil ?_ | refine cd_seq ?_ | refine cd_ops ?_ | (apply st_q; exact q1)
  refine st_call (by exact s1) ((alive11_ok H HR h3 G.wf).mono ?_)
  rintro _ h4 ⟨rfl, g4⟩
  replace o3 := g4.keep _ _ o3
  replace o4 := g4.keep _ _ o4
  replace o5 := g4.keep _ _ o5
  replace G := G.trans g4
  clear g4
  repeat with_reducible first | refine nxt_normal ?_ | refine st_nil ?_ | refine cd_seq ?_ | refine cd_ops ?_ | refine cd_skip ?_ | (apply st_q; exact q1) | (apply cd_condF; exact e1)
  refine st_call (by exact s1) ((good_ok H g h hg.great hh.great 200 _ _ h4 G.wf ⟨nv, rfl, hN.mono G⟩ ⟨mv, rfl, hM.mono G⟩).mono ?_)
  rintro _ h5 ⟨rfl, g5⟩
  replace o3 := g5.keep _ _ o3
  replace o4 := g5.keep _ _ o4
  replace o5 := g5.keep _ _ o5
  replace G := G.trans g5
  clear g5
  cases c1 : (decide ((greatF g : Int) ≤ 200) && decide ((greatF h : Int) ≤ 200))
  · repeat' with_reducible first | refine nxt_normal ?_ | refine nxt_ret ?_ | refine st_nil ?_ | refine cd_seq ?_ | refine cd_ops ?_ | refine cd_ret ?_ | (apply st_q; exact q1) | (apply st_qF; exact e1) | (apply st_eF; exact e1) | (apply cd_condT; exact e1) | (apply fin_ret; exact n1; exact r1)
    exact ⟨rfl, G⟩
  have tg : Hid (GTi g) := ⟨hg.tiny (by simp at c1; omega)⟩
  have th : Hid (GTi h) := ⟨hh.tiny (by simp at c1; omega)⟩
  repeat with_reducible first | (apply st_q; exact q1) | (apply st_qT; exact e1; exact q1)
  refine st_callT (by exact e1) (by exact s1) ((Great_ok H k hk.great _ h5 G.wf ⟨lv, rfl, hL.mono G⟩).mono ?_)
  rintro _ h6 ⟨rfl, g6⟩
  replace o3 := g6.keep _ _ o3
  replace o4 := g6.keep _ _ o4
  replace o5 := g6.keep _ _ o5
  replace G := G.trans g6
  clear g6
  cases c2 : decide ((greatF k : Int) > 200)
  rotate_left
  · repeat' with_reducible first | refine nxt_normal ?_ | refine nxt_ret ?_ | refine st_nil ?_ | refine cd_seq ?_ | refine cd_ops ?_ | refine cd_ret ?_ | (apply st_q; exact q1) | (apply st_qT; exact e1; exact q1) | (apply st_qF; exact e1) | (apply st_eF; exact e1) | (apply cd_condT; exact e1) | (apply fin_ret; exact n1; exact r1)
    exact ⟨rfl, G⟩
  have tk : Hid (GTi k) := ⟨hk.tiny (by simp at c2; omega)⟩
  repeat with_reducible first | (apply st_q; exact q1) | (apply st_qT; exact e1; exact q1)
  refine st_callT (by exact e1) (by exact s1) ((Check_ok H g hg.sm _ h6 G.wf ⟨nv, rfl, hN.mono G⟩).mono ?_)
  rintro _ h7 ⟨rfl, g7⟩
  replace o3 := g7.keep _ _ o3
  replace o4 := g7.keep _ _ o4
  replace o5 := g7.keep _ _ o5
  replace G := G.trans g7
  clear g7
  cases c3 : (checkF g != 0)
  rotate_left
  · repeat' with_reducible first | refine nxt_normal ?_ | refine nxt_ret ?_ | refine st_nil ?_ | refine cd_seq ?_ | refine cd_ops ?_ | refine cd_ret ?_ | (apply st_q; exact q1) | (apply st_qT; exact e1; exact q1) | (apply st_qF; exact e1) | (apply st_eF; exact e1) | (apply cd_condT; exact e1) | (apply fin_ret; exact n1; exact r1)
    exact ⟨rfl, G⟩
  have cg : Hid (checkF g = 0) := ⟨by simpa using c3⟩
  repeat with_reducible first | (apply st_q; exact q1) | (apply st_qT; exact e1; exact q1)
  refine st_callT (by exact e1) (by exact s1) ((Check_ok H h hh.sm _ h7 G.wf ⟨mv, rfl, hM.mono G⟩).mono ?_)
  rintro _ h8 ⟨rfl, g8⟩
  replace o3 := g8.keep _ _ o3
  replace o4 := g8.keep _ _ o4
  replace o5 := g8.keep _ _ o5
  replace G := G.trans g8
  clear g8
  cases c4 : (checkF h != 0)
  rotate_left
  · repeat' with_reducible first | refine nxt_normal ?_ | refine nxt_ret ?_ | refine st_nil ?_ | refine cd_seq ?_ | refine cd_ops ?_ | refine cd_ret ?_ | (apply st_q; exact q1) | (apply st_qT; exact e1; exact q1) | (apply st_qF; exact e1) | (apply st_eF; exact e1) | (apply cd_condT; exact e1) | (apply fin_ret; exact n1; exact r1)
    exact ⟨rfl, G⟩
  have ch : Hid (checkF h = 0) := ⟨by simpa using c4⟩
  repeat with_reducible first | (apply st_q; exact q1) | (apply st_qT; exact e1; exact q1)
  refine st_callT (by exact e1) (by exact s1) ((Check_ok H k hk.sm _ h8 G.wf ⟨lv, rfl, hL.mono G⟩).mono ?_)
  rintro _ h9 ⟨rfl, g9⟩
  replace o3 := g9.keep _ _ o3
  replace o4 := g9.keep _ _ o4
  replace o5 := g9.keep _ _ o5
  replace G := G.trans g9
  clear g9
  cases c5 : (checkF k != 0)
  rotate_left
  · repeat' with_reducible first | refine nxt_normal ?_ | refine nxt_ret ?_ | refine st_nil ?_ | refine cd_seq ?_ | refine cd_ops ?_ | refine cd_ret ?_ | (apply st_q; exact q1) | (apply st_qT; exact e1; exact q1) | (apply cd_condT; exact e1) | (apply fin_ret; exact n1; exact r1)
    exact ⟨rfl, G⟩
  have ck : Hid (checkF k = 0) := ⟨by simpa using c5⟩
  repeat with_reducible first | refine nxt_normal ?_ | refine st_nil ?_ | refine cd_seq ?_ | refine cd_skip ?_ | refine cd_draw ?_ | (apply dr_ql; exact q1; exact og1) | (apply st_q; exact q1) | (apply st_qT; exact e1; exact q1) | (apply cd_condF; exact e1)
  refine dr_e (ex_callF (by exact s1) ((Is_ok H g g tg.out tg.out _ _ h9 G.wf ⟨nv, rfl, hN.mono G⟩ ⟨nv, rfl, hN.mono G⟩).mono ?_))
  rw [is_refl tg.out cg.out]
  rintro _ h10 ⟨rfl, g10⟩
  replace o3 := g10.keep _ _ o3
  replace o4 := g10.keep _ _ o4
  replace o5 := g10.keep _ _ o5
  replace G := G.trans g10
  refine ⟨by simp [heldOk, Nat.testBit, o3, o4, o5], ?_⟩
  clear g10
  repeat with_reducible first | (apply dr_gT; exact e1) | (apply dr_q; exact q1)
  refine dr_q (v := .agg [.int .i64 1, .str [], .slice none 0, .slice none 0, .bool false]) rfl ?_
  repeat with_reducible first | (apply dr_gT; exact e1) | (apply dr_ql; exact q1; exact og1)
  refine dr_st (st_bslice1 (v := .agg [.int .i64 1, .str [], .slice none 0, .slice none 0, .bool false]) (cs := [.int .i64 1, .str [], .slice none 0, .slice none 0, .bool false]) (by exact e1) rfl rfl rfl G.wf ?_)
  rintro bx h11 hbx g11 ox
  replace o3 := g11.keep _ _ o3
  replace o4 := g11.keep _ _ o4
  replace o5 := g11.keep _ _ o5
  replace G := G.trans g11
  refine st_nil ⟨by simp [heldOk, Nat.testBit, o3, o4, o5], ?_⟩
  have hV : NodesAt h11 (.slice (some (bx, 0)) 1) gV.nodes := by
    refine ⟨[[.int .i64 1, .str [], .slice none 0, .slice none 0, .bool false]], ⟨rfl, fun i x hx => ?_⟩, rfl, fun i n c hn hc => ?_⟩
    · obtain rfl : i = 0 := by have := (List.getElem?_eq_some_iff.1 hx).1; simp at this; omega
      simp only [List.getElem?_cons_zero, Option.some.injEq] at hx
      subst hx
      exact ⟨rfl, bx, 0, bx, false, _, _, rfl, ox, rfl⟩
    · obtain rfl : i = 0 := by have := (List.getElem?_eq_some_iff.1 hc).1; simp at this; omega
      simp only [List.getElem?_cons_zero, Option.some.injEq, gV] at hn hc
      subst hn; subst hc
      exact ⟨.slice none 0, .slice none 0, rfl, ⟨rfl, fun i x hx => by simp at hx⟩, ⟨rfl, fun i x hx => by simp at hx⟩⟩
  clear g11 ox
  repeat with_reducible (apply dr_gT; exact e1)
  refine dr_q (v := .agg [.slice (some (bx, 0)) 1, .int .i64 0]) (by rw [qA_build]; simp only [fillA, ev_put, if_true, cellsA]; rfl) ?_
  repeat with_reducible (apply dr_gT; exact e1)
  refine dr_e (ex_callF (vs := [.agg [.slice (some (bx, 0)) 1, .int .i64 0], .agg [nv, .int .i64 g.root]]) (by exact s1) ((Is_ok H gV g tiny_V tg.out _ _ h11 G.wf ⟨_, rfl, hV⟩ ⟨nv, rfl, hN.mono G⟩).mono ?_))
  rw [is_var tg.out cg.out]
  rintro _ h12 ⟨rfl, g12⟩
  replace o3 := g12.keep _ _ o3
  replace o4 := g12.keep _ _ o4
  replace o5 := g12.keep _ _ o5
  replace G := G.trans g12
  refine ⟨by simp [heldOk, Nat.testBit, o3, o4, o5], ?_⟩
  clear g12 hV
  have hsame := Hid.mk (is_same tg.out th.out cg.out ch.out)
  repeat with_reducible first | (apply dr_gT; exact e1) | (apply dr_q; exact q1) | (apply dr_ql; exact q1; exact og1)
  refine dr_e (ex_callF (by exact s1) ((Is_ok H g h tg.out th.out _ _ h12 G.wf ⟨nv, rfl, hN.mono G⟩ ⟨mv, rfl, hM.mono G⟩).mono ?_))
  rintro _ h13 ⟨rfl, g13⟩
  replace o3 := g13.keep _ _ o3
  replace o4 := g13.keep _ _ o4
  replace o5 := g13.keep _ _ o5
  replace G := G.trans g13
  refine ⟨by simp [heldOk, Nat.testBit, o3, o4, o5], ?_⟩
  clear g13
  have hx1 : (true ^^ true) = false := rfl
  cases i1 : isF g h
  · repeat with_reducible first | (apply dr_gT; exact e1) | (apply dr_gF; exact e1) | (apply dr_q; exact q1)
    refine dr_e (ex_callF (by exact s1) ((Same_ok H g h tg.out th.out _ _ h13 G.wf ⟨nv, rfl, hN.mono G⟩ ⟨mv, rfl, hM.mono G⟩).mono ?_))
    rw [hsame.out, i1, Bool.false_and]
    rintro _ h14 ⟨rfl, g14⟩
    replace o3 := g14.keep _ _ o3
    replace o4 := g14.keep _ _ o4
    replace o5 := g14.keep _ _ o5
    replace G := G.trans g14
    refine ⟨by simp [heldOk, Nat.testBit, o3, o4, o5], ?_⟩
    clear g14
    repeat with_reducible first | refine nxt_normal ?_ | refine cd_seq ?_ | refine cd_ops ?_ | refine cd_skip ?_ | refine dr_nil ?_ | (apply dr_gT; exact e1) | (apply dr_q; exact q1) | (apply st_q; exact q1) | (apply cd_condF; exact e1)
    refine st_call (by exact s1) ((Is_ok H g h tg.out th.out _ _ h14 G.wf ⟨nv, rfl, hN.mono G⟩ ⟨mv, rfl, hM.mono G⟩).mono ?_)
    rw [i1]
    rintro _ h15 ⟨rfl, g15⟩
    repeat' with_reducible first | refine nxt_normal ?_ | refine st_nil ?_ | refine cd_ret ?_ | (apply st_q; exact q1) | (apply st_qF; exact e1) | (apply st_eF; exact e1) | (apply fin_ret; exact n1; exact r1)
    exact ⟨rfl, G.trans g15⟩
  · repeat with_reducible first | (apply dr_gT; exact e1) | (apply dr_q; exact q1) | (apply dr_ql; exact q1; exact og1)
    refine dr_e (ex_callF (by exact s1) ((Is_ok H h g th.out tg.out _ _ h13 G.wf ⟨mv, rfl, hM.mono G⟩ ⟨nv, rfl, hN.mono G⟩).mono ?_))
    rintro _ h14 ⟨rfl, g14⟩
    replace o3 := g14.keep _ _ o3
    replace o4 := g14.keep _ _ o4
    replace o5 := g14.keep _ _ o5
    replace G := G.trans g14
    refine ⟨by simp [heldOk, Nat.testBit, o3, o4, o5], ?_⟩
    clear g14
    repeat with_reducible first | (apply dr_gT; exact e1) | (apply dr_q; exact q1)
    refine dr_e (ex_callF (by exact s1) ((Same_ok H g h tg.out th.out _ _ h14 G.wf ⟨nv, rfl, hN.mono G⟩ ⟨mv, rfl, hM.mono G⟩).mono ?_))
    rw [hsame.out, i1, Bool.true_and]
    rintro _ h15 ⟨rfl, g15⟩
    replace o3 := g15.keep _ _ o3
    replace o4 := g15.keep _ _ o4
    replace o5 := g15.keep _ _ o5
    replace G := G.trans g15
    refine ⟨by simp [heldOk, Nat.testBit, o3, o4, o5], ?_⟩
    clear g15
    have hbb : ∀ b : Bool, (b == b) = true := fun b => by cases b <;> rfl
    generalize isF h g = b2 at *
    repeat with_reducible first | refine nxt_normal ?_ | refine cd_seq ?_ | refine cd_ops ?_ | refine cd_skip ?_ | refine dr_nil ?_ | (apply dr_gT; exact e1) | (apply dr_q; exact q1) | (apply st_q; exact q1) | (apply cd_condF; exact e1)
    refine st_call (by exact s1) ((Is_ok H g h tg.out th.out _ _ h15 G.wf ⟨nv, rfl, hN.mono G⟩ ⟨mv, rfl, hM.mono G⟩).mono ?_)
    rw [i1]
    rintro _ h16 ⟨rfl, g16⟩
    replace o3 := g16.keep _ _ o3
    replace o4 := g16.keep _ _ o4
    replace o5 := g16.keep _ _ o5
    replace G := G.trans g16
    clear g16
    repeat with_reducible first | (apply st_q; exact q1) | (apply st_qT; exact e1; exact q1)
    refine st_callT (by exact e1) (by exact s1) ((Is_ok H h k th.out tk.out _ _ h16 G.wf ⟨mv, rfl, hM.mono G⟩ ⟨lv, rfl, hL.mono G⟩).mono ?_)
    rintro _ h17 ⟨rfl, g17⟩
    replace o3 := g17.keep _ _ o3
    replace o4 := g17.keep _ _ o4
    replace o5 := g17.keep _ _ o5
    replace G := G.trans g17
    clear g17
    cases i2 : isF h k
    · repeat' with_reducible first | refine nxt_normal ?_ | refine st_nil ?_ | refine cd_ret ?_ | (apply st_q; exact q1) | (apply st_qT; exact e1; exact q1) | (apply st_qF; exact e1) | (apply st_eF; exact e1) | (apply fin_ret; exact n1; exact r1)
      exact ⟨rfl, G⟩
    · have htr := Hid.mk (is_trans tg.out th.out tk.out cg.out ch.out ck.out i1 i2)
      repeat with_reducible first | (apply st_q; exact q1) | (apply st_qT; exact e1; exact q1)
      refine st_callT (by exact e1) (by exact s1) ((Is_ok H g k tg.out tk.out _ _ h17 G.wf ⟨nv, rfl, hN.mono G⟩ ⟨lv, rfl, hL.mono G⟩).mono ?_)
      rw [htr.out]
      rintro _ h18 ⟨rfl, g18⟩
      repeat' with_reducible first | refine nxt_normal ?_ | refine st_nil ?_ | refine cd_ret ?_ | (apply st_q; exact q1) | (apply fin_ret; exact n1; exact r1)
      exact ⟨rfl, G.trans g18⟩
end
end Go.Ab.S
end
section
/-
  What a run on memory of its own makes, laid beside memory that is told of: a call with known arguments is run once, and taken at that word anywhere.
-/
namespace Go.Ab
open Go.RowKit (Below)

/-! ### Numbers of blocks, renamed -/
mutual
def mapV (f : Nat → Nat) : AVal → AVal
  | .ptr (some p) => .ptr (some (f p.1, p.2))
  | .slice (some p) n => .slice (some (f p.1, p.2)) n
  | .agg l => .agg (mapVs f l)
  | .tuple l => .tuple (mapVs f l)
  | .iface t v => .iface t (mapV f v)
  | v => v
def mapVs (f : Nat → Nat) : List AVal → List AVal
  | [] => []
  | x :: r => mapV f x :: mapVs f r
end
mutual
def plainV (k : Nat) : AVal → Bool
  | .ptr (some p) => Nat.blt p.1 k
  | .slice (some p) _ => Nat.blt p.1 k
  | .agg l => plainVs k l
  | .tuple l => plainVs k l
  | .iface _ v => plainV k v
  | .map (some _) => false
  | .func _ _ _ => false
  | .yield _ => false
  | _ => true
def plainVs (k : Nat) : List AVal → Bool
  | [] => true
  | x :: r => plainV k x && plainVs k r
end
theorem mapVs_length (f : Nat → Nat) : ∀ l : List AVal, (mapVs f l).length = l.length
  | [] => rfl
  | _ :: r => congrArg (· + 1) (mapVs_length f r)

section
variable {P : Program} {G G' : GM} {f g : Nat → Nat} {k : Nat}
mutual
theorem VR.ren (hG : ∀ i, i < k → ∀ gi, G (f i) = some gi → G' (g i) = some gi) : ∀ {x : AVal} {v : Value}, plainV k x = true → VR P G (mapV f x) v → VR P G' (mapV g x) v
  | .bool _, _, _, e => e
  | .int _ _, _, _, e => e
  | .str _, _, _, e => e
  | .ptr none, _, _, e => e
  | .ptr (some p), _, h, ⟨gi, e, r⟩ => ⟨gi, hG _ (Nat.blt_eq.mp h) _ e, r⟩
  | .slice none _, _, _, e => e
  | .slice (some p) _, _, h, ⟨gi, c, e, r⟩ => ⟨gi, c, hG _ (Nat.blt_eq.mp h) _ e, r⟩
  | .slice0, _, _, e => e
  | .sliceE, _, _, e => e
  | .map none, _, _, e => e
  | .map (some _), _, h, _ => by cases h
  | .func _ _ _, _, h, _ => by cases h
  | .yield _, _, h, _ => by cases h
  | .nilFunc, _, _, e => e
  | .iface _ _, _, h, ⟨y, e, r⟩ => ⟨y, e, VR.ren hG h r⟩
  | .nilIface, _, _, e => e
  | .agg _, _, h, ⟨L, e, r⟩ => ⟨L, e, VsR.ren hG h r⟩
  | .tuple _, _, h, ⟨L, e, r⟩ => ⟨L, e, VsR.ren hG h r⟩
theorem VsR.ren (hG : ∀ i, i < k → ∀ gi, G (f i) = some gi → G' (g i) = some gi) : ∀ {xs : List AVal} {vs : List Value}, plainVs k xs = true → VsR P G (mapVs f xs) vs → VsR P G' (mapVs g xs) vs
  | [], _, _, e => e
  | _ :: _, _, h, ⟨y, ys, e, a, b⟩ => by
    simp only [plainVs, Bool.and_eq_true] at h
    exact ⟨y, ys, e, VR.ren hG h.1 a, VsR.ren hG h.2 b⟩
end
end

/-! ### Blocks laid beside others -/
def layH (n : Nat) : List (TypeId × List AVal) → AHeap → AHeap
  | [], h => h
  | (e, vs) :: r, h => layH n r (newA h (.cells false e (mapVs (n + ·) vs)))
theorem layH_next (n : Nat) : ∀ (os : List (TypeId × List AVal)) (h : AHeap), (layH n os h).next = h.next + os.length
  | [], h => rfl
  | (e, vs) :: r, h => by rw [layH, layH_next n r]; simp only [newA, List.length_cons]; omega
theorem layH_old (n : Nat) : ∀ (os : List (TypeId × List AVal)) (h : AHeap) (b : Nat), b < h.next ∨ h.next + os.length ≤ b → (layH n os h).objs.get b = h.objs.get b
  | [], h, _, _ => rfl
  | (e, vs) :: r, h, b, hb => by
    simp only [List.length_cons] at hb
    rw [layH, layH_old n r _ b (by simp only [newA]; omega)]
    simp only [newA, T.get_set]
    rw [if_neg (by omega)]
theorem layH_new (n : Nat) : ∀ (os : List (TypeId × List AVal)) (h : AHeap) (i : Nat) (e : TypeId) (vs : List AVal), os[i]? = some (e, vs) → (layH n os h).objs.get (h.next + i) = some (h.next + i, .cells false e (mapVs (n + ·) vs))
  | [], h, _, _, _, hi => by simp at hi
  | (e, vs) :: r, h, 0, e', vs', hi => by
    simp only [List.getElem?_cons_zero, Option.some.injEq, Prod.mk.injEq] at hi
    obtain ⟨rfl, rfl⟩ := hi
    rw [layH, layH_old n r _ _ (by simp only [newA]; omega)]
    simp only [newA, T.get_set, Nat.add_zero, if_true]
  | (e, vs) :: r, h, i + 1, e', vs', hi => by
    simp only [List.getElem?_cons_succ] at hi
    have := layH_new n r (newA h (.cells false e (mapVs (n + ·) vs))) i e' vs' hi
    rw [layH, show h.next + (i + 1) = (newA h (.cells false e (mapVs (n + ·) vs))).next + i by simp only [newA]; omega]
    exact this

section
variable {P : Program} {N : Nat} {w0 w w' : World} {G GA GA' : GM} {h hA hA' : AHeap}

/-- **Beside what was told of: what a run on memory of its own has made.** -/
theorem Rel.beside (R1 : Rel P N w0 G h w) (R2 : Rel P N w0 GA' hA' w') (E2 : Ext GA hA w GA' hA' w') (hro : ∀ id x, hA.objs.get id = some x → x.2.ro = true)
    {os : List (TypeId × List AVal)} {keep : List Nat} (hk : keep.length = os.length) (hnd : keep.Nodup) (hpl : ∀ o ∈ os, plainVs os.length o.2 = true)
    (hos : ∀ (i : Nat) e vs, os[i]? = some (e, vs) → ∃ ver, hA'.objs.get (keep.getD i 0) = some (ver, .cells false e (mapVs (fun j => keep.getD j 0) vs))) {v0 : AVal} {cv : Value} (hv0 : plainV os.length v0 = true) (hv : VR P GA' (mapV (fun j => keep.getD j 0) v0) cv) :
    ∃ G'', Rel P N w0 G'' (layH h.next os h) w' ∧ Ext G h w G'' (layH h.next os h) w' ∧ VR P G'' (mapV (h.next + ·) v0) cv := by
  have hfr : ∀ b, b < w.heap.size → w'.heap[b]? = w.heap[b]? := fun b hb => E2.frame b hb fun id x gi hx hf _ => by rw [hro id x hx] at hf; cases hf
  have hnew : ∀ (i : Nat) e vs, os[i]? = some (e, vs) → ∃ ver gi ob, hA'.objs.get (keep.getD i 0) = some (ver, .cells false e (mapVs (fun j => keep.getD j 0) vs)) ∧ GA' (keep.getD i 0) = some gi ∧ w'.heap[gi.blk]? = some ob ∧ OR P GA' gi (.cells false e (mapVs (fun j => keep.getD j 0) vs)) ob ∧ w.heap.size ≤ gi.blk := by
    intro i e vs hi
    obtain ⟨ver, h1⟩ := hos i e vs hi
    obtain ⟨gi, h2, ob, h3, h4⟩ := R2.obj _ _ _ h1
    refine ⟨ver, gi, ob, h1, h2, h3, h4, ?_⟩
    rcases E2.owned _ _ gi h1 rfl h2 with h5 | ⟨id0, x0, _, h5, h6, _⟩
    · exact h5
    · rw [hro id0 x0 h5] at h6; cases h6
  let G'' : GM := fun i => if h.next ≤ i ∧ i < h.next + os.length then GA' (keep.getD (i - h.next) 0) else G i
  have hG1 : ∀ i, i < os.length → G'' (h.next + i) = GA' (keep.getD i 0) := fun i hi => by
    show (if _ then _ else _) = _
    rw [if_pos (by omega), show h.next + i - h.next = i by omega]
  have hG2 : ∀ i, i < h.next → G'' i = G i := fun i hi => by
    show (if _ then _ else _) = _
    rw [if_neg (by omega)]
  have hle : GLe G G'' := fun i gi hi => by
    rcases Nat.lt_or_ge i h.next with hl | hl
    · rw [hG2 i hl]; exact hi
    · rw [R1.fresh i hl] at hi; cases hi
  have hren : ∀ i, i < os.length → ∀ gi, GA' (keep.getD i 0) = some gi → G'' (h.next + i) = some gi := fun i hi gi hg => by rw [hG1 i hi]; exact hg
  have hcase : ∀ id x, (layH h.next os h).objs.get id = some x → (id < h.next ∧ h.objs.get id = some x) ∨ ∃ i e vs, id = h.next + i ∧ i < os.length ∧ os[i]? = some (e, vs) ∧ x = (h.next + i, .cells false e (mapVs (h.next + ·) vs)) := by
    intro id x hx
    by_cases hr : h.next ≤ id ∧ id < h.next + os.length
    · obtain ⟨i, rfl⟩ : ∃ i, id = h.next + i := ⟨id - h.next, by omega⟩
      have hi : i < os.length := by omega
      have := layH_new h.next os h i os[i].1 os[i].2 (List.getElem?_eq_getElem hi)
      rw [this] at hx
      simp only [Option.some.injEq] at hx
      exact .inr ⟨i, os[i].1, os[i].2, rfl, hi, List.getElem?_eq_getElem hi, hx.symm⟩
    · rw [layH_old _ _ _ _ (by omega)] at hx
      rcases Nat.lt_or_ge id h.next with hl | hl
      · exact .inl ⟨hl, hx⟩
      · obtain ⟨gi, hgi, _⟩ := R1.obj id x.1 x.2 hx
        rw [R1.fresh id hl] at hgi; cases hgi
  have hblk : ∀ id x gi, h.objs.get id = some x → G id = some gi → gi.blk < w.heap.size := fun id x gi hx hg => by
    obtain ⟨gi', h1, ob, h2, _⟩ := R1.obj id x.1 x.2 hx
    rw [hg] at h1; cases h1
    exact lt_of_heap h2
  have hown : ∀ (id : Nat) (x : Nat × AObj) gi, (layH h.next os h).objs.get id = some x → x.2.ro = false → G'' id = some gi → w.heap.size ≤ gi.blk ∨ ∃ id0 x0 gi0, h.objs.get id0 = some x0 ∧ x0.2.ro = false ∧ G id0 = some gi0 ∧ gi0.blk = gi.blk := by
    intro id x gi hx hf hg
    rcases hcase id x hx with ⟨hl, h1⟩ | ⟨i, e, vs, rfl, hi, h1, rfl⟩
    · rw [hG2 id hl] at hg
      exact .inr ⟨id, x, gi, h1, hf, hg, rfl⟩
    · obtain ⟨ver, gi', ob, k1, k2, k3, k4, k5⟩ := hnew i e vs h1
      rw [hG1 i hi, k2] at hg; cases hg
      exact .inl k5
  refine ⟨G'', ⟨?_, ?_, ?_, ?_, ?_, ?_, ?_, R2.below, R2.size, ?_⟩, ⟨hle, ?_, ?_, ?_, hown, E2.size⟩, VR.ren hren hv0 hv⟩
  · intro id ver o hx
    rcases hcase id _ hx with ⟨hl, h1⟩ | ⟨i, e, vs, rfl, hi, h1, h2⟩
    · obtain ⟨gi, k1, ob, k2, k3⟩ := R1.obj id ver o h1
      exact ⟨gi, hle _ _ k1, ob, by rw [hfr _ (lt_of_heap k2)]; exact k2, k3.mono hle⟩
    · simp only [Prod.mk.injEq] at h2
      obtain ⟨rfl, rfl⟩ := h2
      obtain ⟨ver, gi', ob, k1, k2, k3, k4, k5⟩ := hnew i e vs h1
      refine ⟨gi', hren i hi _ k2, ob, k3, ?_⟩
      obtain ⟨c, t, fr, q1, q2, q3, q4, q5, q6⟩ := k4
      rw [mapVs_length] at q5 q6
      refine ⟨c, t, fr, q1, q2, q3, q4, by rw [mapVs_length]; exact q5, ?_⟩
      rw [mapVs_length]
      exact VsR.ren hren (hpl (e, vs) (List.mem_of_getElem? h1)) q6
  · intro id id' x x' gi gi' hx hx' hf hg hg' hb
    rcases hcase id _ hx with ⟨hl, h1⟩ | ⟨i, e, vs, rfl, hi, h1, rfl⟩
    · rw [hG2 id hl] at hg
      have hlt := hblk id x gi h1 hg
      rcases hcase id' _ hx' with ⟨hl', h1'⟩ | ⟨i', e', vs', rfl, hi', h1', rfl⟩
      · rw [hG2 id' hl'] at hg'
        exact R1.inj id id' x x' gi gi' h1 h1' hf hg hg' hb
      · obtain ⟨ver, gi2, ob, k1, k2, k3, k4, k5⟩ := hnew i' e' vs' h1'
        rw [hG1 i' hi', k2] at hg'; cases hg'
        omega
    · obtain ⟨ver, gi1, ob, k1, k2, k3, k4, k5⟩ := hnew i e vs h1
      rw [hG1 i hi, k2] at hg; cases hg
      rcases hcase id' _ hx' with ⟨hl', h1'⟩ | ⟨i', e', vs', rfl, hi', h1', rfl⟩
      · rw [hG2 id' hl'] at hg'
        have hlt := hblk id' x' gi' h1' hg'
        omega
      · obtain ⟨ver', gi2, ob', k1', k2', k3', k4', k5'⟩ := hnew i' e' vs' h1'
        rw [hG1 i' hi', k2'] at hg'; cases hg'
        have he := R2.inj _ _ _ _ gi gi' k1 k1' rfl k2 k2' hb
        have e1 : keep.getD i 0 = keep[i]'(by omega) := by simp [List.getD, List.getElem?_eq_getElem (show i < keep.length by omega)]
        have e2 : keep.getD i' 0 = keep[i']'(by omega) := by simp [List.getD, List.getElem?_eq_getElem (show i' < keep.length by omega)]
        rw [e1, e2] at he
        have := (List.getElem_inj hnd).1 he
        rw [this]
  · intro id ver o gi hx hg hf
    rcases hcase id _ hx with ⟨hl, h1⟩ | ⟨i, e, vs, rfl, hi, h1, h2⟩
    · rw [hG2 id hl] at hg
      exact R1.own id ver o gi h1 hg hf
    · obtain ⟨ver', gi1, ob, k1, k2, k3, k4, k5⟩ := hnew i e vs h1
      rw [hG1 i hi, k2] at hg; cases hg
      exact R2.own _ _ _ _ k1 k2 rfl
  · intro id hid
    rw [layH_next] at hid
    show (if _ then _ else _) = _
    rw [if_neg (by omega)]
    exact R1.fresh id (by omega)
  · intro id ver o hx
    rw [layH_next]
    rcases hcase id _ hx with ⟨hl, h1⟩ | ⟨i, e, vs, rfl, hi, h1, h2⟩
    · have := R1.vers id ver o h1; omega
    · simp only [Prod.mk.injEq] at h2; omega
  · intro g hg
    have := R1.low
    rw [hG2 g (by omega)]; exact R1.glob g hg
  · rw [layH_next]; have := R1.low; omega
  · intro id ver o gi hx hg hr
    rcases hcase id _ hx with ⟨hl, h1⟩ | ⟨i, e, vs, rfl, hi, h1, h2⟩
    · rw [hG2 id hl] at hg
      exact R1.rolow id ver o gi h1 hg hr
    · simp only [Prod.mk.injEq] at h2
      rw [h2.2] at hr; cases hr
  · rw [layH_next]; omega
  · intro id ver o hx
    rcases hcase id _ hx with ⟨hl, h1⟩ | ⟨i, e, vs, rfl, hi, h1, h2⟩
    · refine .inr ⟨h1, fun gi hg => hfr _ (hblk id _ gi h1 hg)⟩
    · simp only [Prod.mk.injEq] at h2; exact .inl (by omega)
  · intro b hb _
    exact hfr b hb
end
end Go.Ab
end
