import Derived.Test.YtapnoohglfhgeaaGreatDoorP11
import Derived.Test.YtapnoohglfhgeaaGreatDoorP12
import Derived.Test.YtapnoohglfhgeaaGreatDoorP13
import Derived.Test.YtapnoohglfhgeaaGreatDoorP15
import Derived.Test.YtapnoohglfhgeaaGreatDoorP17
/-
  Part 18 of the proof.
-/
set_option linter.all false
section
/-
  The same types: the plain law; what is laid out anew is the same.
-/
namespace Go.Ab.S
open Go Go.Ab
set_option maxHeartbeats 1000000
structure SameR (g h : Graph) (R : Int → Int → Prop) : Prop where
  root : R g.root h.root
  range : ∀ a b, R a b → (0 ≤ a ∧ a < g.nodes.length) ∧ (0 ≤ b ∧ b < h.nodes.length)
  node : ∀ a b, R a b → (zAH g a).kind = (zAH h b).kind ∧ (zAH g a).name = (zAH h b).name ∧ (zAH g a).isOpen = (zAH h b).isOpen ∧ (zAH g a).labels = (zAH h b).labels ∧ (zAH g a).args.length = (zAH h b).args.length ∧
    ∀ i, i < (zAH g a).args.length → R ((zAH g a).args.getD i 0) ((zAH h b).args.getD i 0)
  one : ∀ a b c, R a b → R a c → cfreeF (zAH g a) = true → b = c
  one' : ∀ a b c, R a c → R b c → cfreeF (zAH g a) = true → a = b
theorem SameR.flip {g h : Graph} {R : Int → Int → Prop} (k : SameR g h R) : SameR h g (fun a b => R b a) := by
  have hf : ∀ a b, R a b → cfreeF (zAH h b) = true → cfreeF (zAH g a) = true := fun a b hab hf => by
    obtain ⟨h1, _, h3, _⟩ := k.node a b hab
    simpa only [cfreeF, h1, h3] using hf
  refine ⟨k.root, fun a b hab => (k.range b a hab).symm, fun a b hab => ?_, fun a b c h1 h2 h3 => k.one' b c a h1 h2 (hf _ _ h1 h3), fun a b c h1 h2 h3 => k.one c a b h1 h2 (hf _ _ h1 h3)⟩
  obtain ⟨h1, h2, h3, h4, h5, h6⟩ := k.node b a hab
  exact ⟨h1.symm, h2.symm, h3.symm, h4.symm, h5.symm, fun i hi => h6 i (by omega)⟩
theorem free_cfree {n : Node} {N : Int} (h : mayF n N = true) : freeF n = cfreeF n := by
  rcases may_kind h with ⟨k, _, o, _⟩ | ⟨k, _, o, _⟩ | ⟨k, _⟩
  · simp [freeF, cfreeF, k]
  · simp [freeF, cfreeF, k, o]
  · simp [freeF, cfreeF, k]
theorem zip_mem {a b : List Int} {q : Pr} : q ∈ List.zip a b ↔ ∃ i, i < a.length ∧ i < b.length ∧ q = (a.getD i 0, b.getD i 0) := by
  constructor
  · intro hq
    obtain ⟨i, hi, rfl⟩ := List.mem_iff_getElem.1 hq
    rw [List.length_zip] at hi
    refine ⟨i, by omega, by omega, ?_⟩
    rw [List.getElem_zip, List.getD, List.getD, List.getElem?_eq_getElem (by omega), List.getElem?_eq_getElem (by omega)]; rfl
  · rintro ⟨i, h1, h2, rfl⟩
    have hz : i < (List.zip a b).length := by rw [List.length_zip]; omega
    have := List.getElem_mem hz
    rw [List.getElem_zip] at this
    rw [List.getD, List.getD, List.getElem?_eq_getElem h1, List.getElem?_eq_getElem h2]
    exact this
theorem sameF_iff {g h : Graph} (cg : zAT g = 0) (ch : zAT h = 0) : sameF g h = true ↔ ∃ R, SameR g h R := by
  have rg := check_root cg
  have rh := check_root ch
  have e : sameF g h = walkG (okS g h) (nxS g h) (badS g) (2 + leftW (nxS g h) [] (pairsS g h)) [(g.root, h.root)] [] := by
    rw [sameF, cg, ch]; rfl
  have hsym : ∀ p q : Pr, badS g p q = badS g q p := fun p q => by
    unfold badS
    rw [Bool.eq_iff_iff]
    simp only [Bool.and_eq_true, Bool.or_eq_true, beq_iff_eq]
    constructor <;> rintro ⟨h1, h2, h3⟩ <;> exact ⟨h2, h1, h3.elim (fun h => .inl h.symm) (fun h => .inr h.symm)⟩
  rw [e, walk_iff _ _ _ hsym (ps := pairsS g h) _ (mem_pairsS.2 ⟨⟨rg.1, rg.2.1⟩, rh.1, rh.2.1⟩) fun p hp _ => nxS_in cg ch hp]
  have hal : ∀ x y : Node, alikeF x y = true ↔ x.kind = y.kind ∧ x.name = y.name ∧ x.isOpen = y.isOpen ∧ x.labels = y.labels ∧ x.args.length = y.args.length := fun x y => by
    simp only [alikeF, Bool.and_eq_true, beq_iff_eq, eqL_iff, eqLL_iff]
    constructor
    · rintro ⟨⟨⟨⟨h1, h2⟩, h3⟩, h4⟩, h5⟩; exact ⟨h1, h2, h3, h5, h4⟩
    · rintro ⟨h1, h2, h3, h4, h5⟩; exact ⟨⟨⟨⟨h1, h2⟩, h3⟩, h5⟩, h4⟩
  constructor
  · rintro ⟨S, h1, h2, h3⟩
    have hfr : ∀ p, S p → freeF (zAH g p.1) = cfreeF (zAH g p.1) := fun p hp => by
      obtain ⟨⟨a0, a1⟩, _⟩ := mem_pairsS.1 (h2 _ hp).1
      exact free_cfree ((check_ns cg).2 _ (nodeD_mem a0 a1))
    refine ⟨fun a b => S (a, b), h1, fun a b hab => mem_pairsS.1 (h2 _ hab).1, fun a b hab => ?_, fun a b c hab hac hf => ?_, fun a b c hac hbc hf => ?_⟩
    · obtain ⟨_, ho, hn⟩ := h2 _ hab
      obtain ⟨k1, k2, k3, k4, k5⟩ := (hal _ _).1 ho
      refine ⟨k1, k2, k3, k4, k5, fun i hi => hn _ ?_⟩
      have k5' : (zAH g a).args.length = (zAH h b).args.length := k5
      simp only [nxS, List.mem_reverse]
      exact zip_mem.2 ⟨i, hi, by omega, rfl⟩
    · apply Classical.byContradiction
      intro hbc
      have := h3 _ _ hab hac (fun hh => hbc (Prod.mk.inj hh).2)
      rw [← hfr _ hab] at hf
      simp [badS, hf] at this
    · apply Classical.byContradiction
      intro hab
      have := h3 _ _ hac hbc (fun hh => hab (Prod.mk.inj hh).1)
      rw [← hfr _ hac] at hf
      have hf2 : freeF (zAH g b) = true := by
        have q1 := (hal _ _).1 (h2 _ hac).2.1
        have q2 := (hal _ _).1 (h2 _ hbc).2.1
        simp only at q1 q2
        simpa only [freeF, q1.1, q1.2.2.1, ← q2.1, ← q2.2.2.1] using hf
      simp [badS, hf, hf2] at this
  · rintro ⟨R, k⟩
    refine ⟨fun p => R p.1 p.2, k.root, fun p hp => ⟨mem_pairsS.2 (k.range _ _ hp), ?_, fun q hq => ?_⟩, fun p q hp hq hpq => ?_⟩
    · obtain ⟨h1, h2, h3, h4, h5, _⟩ := k.node _ _ hp
      exact (hal _ _).2 ⟨h1, h2, h3, h4, h5⟩
    · simp only [nxS, List.mem_reverse] at hq
      obtain ⟨i, h1, _, rfl⟩ := zip_mem.1 hq
      exact (k.node _ _ hp).2.2.2.2.2 i h1
    · cases hb : badS g p q with
      | false => rfl
      | true =>
        simp only [badS, Bool.and_eq_true, Bool.or_eq_true, beq_iff_eq] at hb
        obtain ⟨⟨a0, a1⟩, _⟩ := k.range _ _ hp
        have hf : cfreeF (zAH g p.1) = true := by
          rw [← free_cfree ((check_ns cg).2 _ (nodeD_mem a0 a1))]; exact hb.1
        rcases hb.2.2 with h | h
        · have := k.one p.1 p.2 q.2 hp (by rw [h]; exact hq) hf
          exact absurd (Prod.ext h this) hpq
        · have := k.one' p.1 q.1 p.2 hp (by rw [h]; exact hq) hf
          exact absurd (Prod.ext this h) hpq
/-! ### Rows that rise -/
theorem bs_of {l : List (List Nat)} (hr : Rises l) {i : Nat} {s : List Nat} (h : l[i]? = some s) : bsAt l s = i ∧ bsIs l s = true := by
  have hi : i < l.length := (List.getElem?_eq_some_iff.1 h).1
  have h1 : bsAt l s = i := bs_split hr (by omega) (fun j x hj hx => hr j i hj x s hx h) (fun j x hj hx => by
    rcases Nat.eq_or_lt_of_le hj with rfl | hj
    · rw [h] at hx; cases hx; exact lessL_irr s
    · cases hc : lessL x s with
      | false => rfl
      | true => exact absurd (lessL_trans (hr i j hj s x h hx) hc) (by rw [lessL_irr]; simp))
  refine ⟨h1, ?_⟩
  rw [bsIs, h1, h]; exact eqL_iff.2 rfl
theorem bs_mem {l : List (List Nat)} {s : List Nat} (h : bsIs l s = true) : l[bsAt l s]? = some s := by
  unfold bsIs at h
  split at h
  · rename_i x hx; rw [hx, eqL_iff.1 h]
  · cases h
theorem rises_nodup {l : List (List Nat)} (hr : Rises l) {i j : Nat} {s : List Nat} (h1 : l[i]? = some s) (h2 : l[j]? = some s) : i = j := by
  rw [← (bs_of hr h1).1, (bs_of hr h2).1]
theorem rises_ext : ∀ {a b : List (List Nat)}, Rises a → Rises b → (∀ s, s ∈ a ↔ s ∈ b) → a = b
  | [], [], _, _, _ => rfl
  | [], y :: b, _, _, h => by have := (h y).2 (by simp); cases this
  | x :: a, [], _, _, h => by have := (h x).1 (by simp); cases this
  | x :: a, y :: b, ra, rb, h => by
    have tail : ∀ {z : List Nat} {l : List (List Nat)}, Rises (z :: l) → Rises l ∧ ∀ s ∈ l, lessL z s = true := fun {z l} hr => by
      refine ⟨fun i j hij u v hu hv => hr (i + 1) (j + 1) (by omega) u v (by simpa using hu) (by simpa using hv), fun s hs => ?_⟩
      obtain ⟨i, hi, rfl⟩ := List.mem_iff_getElem.1 hs
      exact hr 0 (i + 1) (by omega) z _ rfl (by simp)
    have hxy : x = y := by
      rcases lessL_tri x y with hl | hl | hl
      · have := (h x).1 (by simp)
        rcases List.mem_cons.1 this with h' | h'
        · exact h'
        · have := (tail rb).2 x h'
          exact absurd (lessL_trans hl this) (by rw [lessL_irr]; simp)
      · exact hl
      · have := (h y).2 (by simp)
        rcases List.mem_cons.1 this with h' | h'
        · exact h'.symm
        · have := (tail ra).2 y h'
          exact absurd (lessL_trans hl this) (by rw [lessL_irr]; simp)
    subst hxy
    have : a = b := rises_ext (tail ra).1 (tail rb).1 fun s => by
      constructor
      · intro hs
        have := (h s).1 (by simp [hs])
        rcases List.mem_cons.1 this with rfl | h'
        · have := (tail ra).2 _ hs; rw [lessL_irr] at this; cases this
        · exact h'
      · intro hs
        have := (h s).2 (by simp [hs])
        rcases List.mem_cons.1 this with rfl | h'
        · have := (tail rb).2 _ hs; rw [lessL_irr] at this; cases this
        · exact h'
    rw [this]
theorem great_len (g : Graph) : g.nodes.length + leftG [] g.nodes 0 ≤ greatF g := by
  have : ∀ (ns : List Node) (i : Nat), leftG [] ns i ≤ sumL greatN ns := by
    intro ns
    induction ns with
    | nil => intro i; simp [leftG, sumL]
    | cons n r ih => intro i; simp only [leftG, sumL, greatN]; have := ih (i + 1); simp; omega
  have := this g.nodes 0
  simp only [greatF]; omega
theorem great_node {g : Graph} {n : Node} (hn : n ∈ g.nodes) : greatN n ≤ greatF g := by
  have : ∀ (ns : List Node), n ∈ ns → greatN n ≤ sumL greatN ns := by
    intro ns
    induction ns with
    | nil => intro h; cases h
    | cons m r ih =>
      intro h
      simp only [sumL]
      rcases List.mem_cons.1 h with rfl | h
      · omega
      · have := ih h; omega
  have := this g.nodes hn
  simp only [greatF]; omega
/-- So great that no count goes round. -/
structure Sane (g : Graph) : Prop where
  great : greatF g < 2 ^ 60
  sm : GraphSm g
theorem Sane.tiny {g : Graph} (h : Sane g) (hg : greatF g ≤ 300) : GTi g := by
  have e30 : (2 : Nat) ^ 30 = 1073741824 := by decide
  have h1 := great_len g
  refine ⟨⟨h.sm, by omega, fun n hn => ?_⟩, by omega⟩
  have := great_node hn
  simp only [greatN] at this; omega
theorem quo_rch {g L : Graph} {q : Int → Int} (Q : Quo g L q) {a : Int} (h : Rch g a) : Rch L (q a) := by
  induction h with
  | root => rw [← Q.root]; exact .root
  | step hr hb ih => exact .step ih (by rw [Q.node _ hr]; exact List.mem_map.2 ⟨_, hb, rfl⟩)
theorem getD_mem {l : List Int} {i : Nat} (h : i < l.length) : l.getD i 0 ∈ l := by
  rw [List.getD, List.getElem?_eq_getElem h]; exact List.getElem_mem h
theorem quo_comp {g L T : Graph} {q t : Int → Int} (Q : Quo g L q) (P : Quo L T t) : Quo g T (fun a => t (q a)) := by
  refine ⟨by rw [P.root, Q.root], fun i hi => ?_, fun x h0 h1 => ?_, fun i hi => P.range _ (quo_rch Q hi), fun i j hi hj hf he => ?_, P.check⟩
  · rw [P.node _ (quo_rch Q hi), Q.node i hi]
    simp only [List.map_map]; rfl
  · obtain ⟨y, hy, rfl⟩ := P.surj x h0 h1
    have hr := hy.ok Q.check
    obtain ⟨i, hi, rfl⟩ := Q.surj y hr.1 hr.2
    exact ⟨i, hi, rfl⟩
  · refine Q.inj i j hi hj hf (P.inj _ _ (quo_rch Q hi) (quo_rch Q hj) ?_ he)
    rw [Q.node i hi]; exact hf
/-- What a type is laid out as anew is the same type. -/
theorem quo_same {g L : Graph} {q : Int → Int} (cg : zAT g = 0) (Q : Quo g L q) : sameF L g = true := by
  refine (sameF_iff Q.check cg).2 ⟨fun z a => Rch g a ∧ z = q a, ⟨.root, Q.root⟩, ?_, ?_, ?_, ?_⟩
  · rintro _ a ⟨ha, rfl⟩; exact ⟨Q.range _ ha, ha.ok cg⟩
  · rintro _ a ⟨ha, rfl⟩
    rw [Q.node a ha]
    refine ⟨rfl, rfl, rfl, rfl, by simp, fun i hi => ?_⟩
    have hia : i < (zAH g a).args.length := by simpa using hi
    refine ⟨ha.step (getD_mem hia), ?_⟩
    simp only [List.getD, List.getElem?_map, List.getElem?_eq_getElem hia]; rfl
  · rintro _ a b ⟨ha, rfl⟩ ⟨hb, he⟩ hf
    rw [Q.node a ha] at hf
    exact Q.inj a b ha hb hf he
  · rintro _ _ c ⟨_, rfl⟩ ⟨_, rfl⟩ _; rfl
theorem own_same {g : Graph} (cg : zAT g = 0) : sameF (trimF (leastF g)) g = true := by
  have Q := least_quo cg
  exact quo_same cg (quo_comp Q (trim_quo Q.check))
theorem own_tiny {g : Graph} (hg : GTi g) (cg : zAT g = 0) : GTi (trimF (leastF g)) := trim_tiny (least_tiny hg cg) (least_quo cg).check
end Go.Ab.S
end
section
/-
  Ranges over functions, memory hidden.
-/
namespace Go.Ab.S
open Go.Ab
set_option maxHeartbeats 1000000
section
variable {fns : FuncId → Option AFunc} {summ : FuncId → List AVal → AHeap → Option (D (AVal × AHeap))}
theorem rangeF_K {f : AOpd} {ps : List Tmp} {as bd : ACode} {a : AAct} {h : AHeap} {Q : AExit → AAct → AHeap → Prop} {g : FuncId} {first captured : List AVal} (hf : ev a f = some (.func g first captured)) (w : WF h)
    (k : ∀ l d h2, h.next ≤ d → l = d + 1 → Grow h h2 → (∃ ver, h2.objs.get l = some (ver, .loop .ready none a.tmps ps as bd d)) → (∃ ver, h2.objs.get d = some (ver, .dfr false)) →
      Cl fns summ g (first ++ [.yield l] ++ captured) h2 fun _ h3 => WF h3 ∧ (((∃ ver, h3.objs.get l = some (ver, .loop .ready none a.tmps ps as bd d)) ∧ ∀ h4, But l h3 h4 → Q .normal { a with defers := .collected d :: a.defers } h4) ∨
        ∃ e, e ≠ .normal ∧ (∃ ver, h3.objs.get l = some (ver, .loop .done (some e) a.tmps ps as bd d)) ∧ ∀ h4, But l h3 h4 → Q e { a with defers := .collected d :: a.defers } h4)) :
    Cd fns summ none (.rangeF f ps as bd) a h Q := by
  have g1' := (Grow.refl w).new (.dfr false)
  have g2' := g1'.new (.loop .ready none a.tmps ps as bd h.next)
  refine cd_rangeF hf ((k (h.next + 1) h.next _ (Nat.le_refl _) rfl g2' ⟨_, zAQ _ _⟩ ⟨h.next, ?_⟩).mono ?_)
  · rw [new_get_ne _ _ (by rw [new_next]; omega)]
    exact zAQ _ _
  · rintro _ h3 ⟨w3, ⟨⟨ver, ol⟩, hq⟩ | ⟨e, he, ⟨ver, ol⟩, hq⟩⟩
    · exact ⟨_, _, _, _, _, _, _, _, ol, (by intro hh; cases hh), hq _ (but_put w3 ol _)⟩
    · refine ⟨_, _, _, _, _, _, _, _, ol, (by intro hh; cases hh), ?_⟩
      cases e with
      | normal => exact absurd rfl he
      | ret => exact hq _ (but_put w3 ol _)
      | exit i => exact hq _ (but_put w3 ol _)
/-- One round. -/
theorem yield_K {l d ver : Nat} {args : List AVal} {hq : AHeap} {tm t : T AVal} {ps : List Tmp} {as bd : ACode} {K : AVal → AHeap → Prop} (hl : hq.objs.get l = some (ver, .loop .ready none tm ps as bd d)) (w : WF hq) (ht : setParams tm ps args = some t) (A : AAct → Prop)
    (k1 : Cd fns summ (some l) as { tmps := t, defers := [] } hq (nxt (fun a1 h1 => h1 = hq ∧ A a1) fun _ _ _ => False))
    (k2 : ∀ a1 h1, A a1 → But l hq h1 → (∃ ver, h1.objs.get l = some (ver, .loop .busy none tm ps as bd d)) → Cd fns summ (some l) bd a1 h1 (fun e _ h3 => WF h3 ∧ (∃ ver, h3.objs.get l = some (ver, .loop .busy none tm ps as bd d)) ∧
      (e = .normal → ∀ h4, But l h3 h4 → (∃ ver, h4.objs.get l = some (ver, .loop .ready none tm ps as bd d)) → K (.bool true) h4) ∧
      (e ≠ .normal → ∀ h4, But l h3 h4 → (∃ ver, h4.objs.get l = some (ver, .loop .done (some e) tm ps as bd d)) → K (.bool false) h4))) :
    Cv fns summ (.yield l) args hq K := by
  refine cv_yield hl ht (k1.mono ?_)
  rintro e a1 h1 hh
  cases e with
  | normal =>
    obtain ⟨rfl, hA⟩ := hh
    refine ⟨_, _, _, _, _, _, _, hl, (k2 a1 _ hA (but_put w hl _) ⟨_, zAR _ _ _⟩).mono ?_⟩
    rintro e a2 h3 ⟨w3, ⟨v3, o3⟩, hn, hm⟩
    refine ⟨_, _, _, _, _, _, _, _, o3, ?_⟩
    cases e with
    | normal => exact hn rfl _ (but_put w3 o3 _) ⟨_, zAR _ _ _⟩
    | ret => exact hm (by intro hh; cases hh) _ (but_put w3 o3 _) ⟨_, zAR _ _ _⟩
    | exit i => exact hm (by intro hh; cases hh) _ (but_put w3 o3 _) ⟨_, zAR _ _ _⟩
  | ret => exact hh.elim
  | exit i => exact hh.elim
end
section
variable {fns : FuncId → Option AFunc} {summ : FuncId → List AVal → AHeap → Option (D (AVal × AHeap))} {ro : Option Nat}
theorem dr_gT {i p : Nat} {d : Option Tmp} {t : Tmp} {w : Bool} {op : AOp} {l : List DStep} {hs : List Held} {a : AAct} {h : AHeap} {K : AAct → AHeap → Prop} (hg : ev a (.tmp t) = some (.bool w)) (k : Dr fns summ ro (⟨i, p, ⟨d, none, op⟩⟩ :: l) hs a h K) : Dr fns summ ro (⟨i, p, ⟨d, some (t, w), op⟩⟩ :: l) hs a h K :=
  dr_g (s := ⟨i, p, ⟨d, some (t, w), op⟩⟩) rfl hg (fun _ => k) (fun hc => by rcases hc with hc | hc <;> (cases w <;> cases hc)) (.inl rfl)
theorem dr_gF {i p : Nat} {d : Option Tmp} {t : Tmp} {w : Bool} {op : AOp} {l : List DStep} {hs : List Held} {a : AAct} {h : AHeap} {K : AAct → AHeap → Prop} (hg : ev a (.tmp t) = some (.bool (!w))) (k : Dr fns summ ro l hs (putA a d (.tuple [])) h K) : Dr fns summ ro (⟨i, p, ⟨d, some (t, w), op⟩⟩ :: l) hs a h K :=
  dr_g (s := ⟨i, p, ⟨d, some (t, w), op⟩⟩) rfl hg (fun hc => by cases w <;> cases hc) (fun _ => k) (.inr (.inl rfl))
theorem dr_gU {i p : Nat} {d : Option Tmp} {t : Tmp} {w : Bool} {op : AOp} {l : List DStep} {hs : List Held} {a : AAct} {h : AHeap} {K : AAct → AHeap → Prop} (hg : ev a (.tmp t) = some (.tuple [])) (k : Dr fns summ ro l hs (putA a d (.tuple [])) h K) : Dr fns summ ro (⟨i, p, ⟨d, some (t, w), op⟩⟩ :: l) hs a h K :=
  dr_g (s := ⟨i, p, ⟨d, some (t, w), op⟩⟩) rfl hg (fun hc => by cases hc) (fun _ => k) (.inr (.inr rfl))
end
end Go.Ab.S
end
section
/-
  What names mean: lists of meanings in memory; going through them.
-/
namespace Go.Ab.S
open Go.Ab
set_option maxHeartbeats 4000000
structure CDef where
  params : Int
  g : Graph
  conc : List (List Nat)
  virt : List (List Nat)
structure Mean where
  name : List Nat
  value : Option Graph
  cls : Option CDef
def ValAt (h : AHeap) (v : AVal) : Option Graph → Prop
  | none => v = .ptr none
  | some g => ∃ b ver ro e nv, v = .ptr (some (b, 0)) ∧ h.objs.get b = some (ver, .cells ro e [nv, .int .i64 g.root]) ∧ NodesAt h nv g.nodes
def CDAt (h : AHeap) (v : AVal) : Option CDef → Prop
  | none => v = .ptr none
  | some c => ∃ b ver ro e nv cv vv, v = .ptr (some (b, 0)) ∧ h.objs.get b = some (ver, .cells ro e [.int .i64 c.params, nv, .int .i64 c.g.root, cv, vv]) ∧ NodesAt h nv c.g.nodes ∧ StrsAt h cv c.conc ∧ StrsAt h vv c.virt
def EnvAt (h : AHeap) : AVal → List Mean → Prop
  | v, [] => v = .ptr none
  | v, m :: l => ∃ b ver ro e pv pc pa, v = .ptr (some (b, 0)) ∧ h.objs.get b = some (ver, .cells ro e [.str m.name, pv, pc, pa]) ∧ ValAt h pv m.value ∧ CDAt h pc m.cls ∧ EnvAt h pa l
theorem ValAt.mono {h h' : AHeap} (g : Grow h h') {v : AVal} {o : Option Graph} (k : ValAt h v o) : ValAt h' v o := by
  cases o with
  | none => exact k
  | some x => obtain ⟨b, ver, ro, e, nv, h1, h2, h3⟩ := k; exact ⟨b, ver, ro, e, nv, h1, g.keep _ _ h2, h3.mono g⟩
theorem CDAt.mono {h h' : AHeap} (g : Grow h h') {v : AVal} {o : Option CDef} (k : CDAt h v o) : CDAt h' v o := by
  cases o with
  | none => exact k
  | some x => obtain ⟨b, ver, ro, e, nv, cv, vv, h1, h2, h3, h4, h5⟩ := k; exact ⟨b, ver, ro, e, nv, cv, vv, h1, g.keep _ _ h2, h3.mono g, h4.mono g, h5.mono g⟩
theorem EnvAt.mono {h h' : AHeap} (g : Grow h h') : ∀ {l : List Mean} {v : AVal}, EnvAt h v l → EnvAt h' v l
  | [], _, k => k
  | _ :: _, _, ⟨b, ver, ro, e, pv, pc, pa, h1, h2, h3, h4, h5⟩ => ⟨b, ver, ro, e, pv, pc, pa, h1, g.keep _ _ h2, h3.mono g, h4.mono g, EnvAt.mono g h5⟩
theorem EnvAt.one {h : AHeap} {l : List Mean} {v : AVal} (k : EnvAt h v l) : one v = true := by
  cases l with
  | nil => rw [show v = .ptr none from k]; rfl
  | cons m l => obtain ⟨b, _, _, _, _, _, _, rfl, _⟩ := k; rfl
theorem ValAt.one {h : AHeap} {o : Option Graph} {v : AVal} (k : ValAt h v o) : one v = true := by
  cases o with
  | none => rw [show v = .ptr none from k]; rfl
  | some m => obtain ⟨b, _, _, _, _, rfl, _⟩ := k; rfl
/-- The variable that goes through the meanings. -/
def VarAt (h : AHeap) (b : Nat) (v : AVal) : Prop := ∃ ver, h.objs.get b = some (ver, .cells false 29 [v])
section
variable {fns : FuncId → Option AFunc} {summ : FuncId → List AVal → AHeap → Option (D (AVal × AHeap))}
variable (H : Has fns summ)
include H
theorem eall_ok (v : AVal) (hv : one v = true) (h : AHeap) (hw : WF h) : Cl fns summ 30 [v] h fun r h' => ∃ b, r = .func 61 [] [.ptr (some (b, 0))] ∧ h.next ≤ b ∧ VarAt h' b v ∧ Grow h h' := by
  have hc : cellsA v = [v] := by cases v <;> first | rfl | cases hv
  refine H.go (fn := F_eall) rfl (by decide) rfl rfl ?_
  unfold F_eall
  dsimp only [qQ, qE, qN, gQ, gE, vi]
  refine zAC (zAD ?_)
  refine st_box (by exact e1) hc hw ?_
  rintro b h1 hb g1 o1
  repeat' with_reducible first | refine zAA ?_ | refine zAB ?_ | refine zAC ?_ | refine zAD ?_ | refine zAG ?_ | (apply st_q; exact q1) | (apply zAE; exact n1; exact r1)
  exact ⟨b, rfl, hb, ⟨_, o1⟩, g1⟩
/-- Each meaning, the last one first, is handed on, till no more is asked for. -/
theorem eall1_ok (L : List Mean) (v : AVal) (h0 : AHeap) (hE : EnvAt h0 v L) (b : Nat) (y : AVal) (P : Nat → AHeap → Prop) (Z : AHeap → Prop) (hP : ∀ k h, P k h → Grow h0 h)
    (hbut : ∀ k h h' vk, P k h → VarAt h b vk → But b h h' → P k h')
    (hstep : ∀ k h vk, k < L.length → P k h → VarAt h b vk → EnvAt h0 vk (L.drop k) → Cv fns summ y [vk] h fun r h' => (r = .bool true ∧ P (k + 1) h' ∧ VarAt h' b vk) ∨ (r = .bool false ∧ Z h'))
    (h : AHeap) (hI : P 0 h) (hb : VarAt h b v) : Cl fns summ 61 [y, .ptr (some (b, 0))] h fun _ h' => P L.length h' ∨ Z h' := by
  refine H.go (fn := F_eall1) rfl (by decide) rfl rfl ?_
  unfold F_eall1
  dsimp only [qQ, qE, qN, gQ, gE, vi]
  refine cd_block ?_
  refine cd_loop (fun m a hp => ∃ k vk, m + k = L.length + 1 ∧ k ≤ L.length ∧ P k hp ∧ VarAt hp b vk ∧ EnvAt h0 vk (L.drop k) ∧ a.defers = [] ∧ ev a (.tmp 0) = some y ∧ ev a (.tmp 1) = some (.ptr (some (b, 0)))) ?_ (n := L.length + 1) ⟨0, v, rfl, Nat.zero_le _, hI, hb, hE, by exact n1, by exact e1, by exact e1⟩
  clear hI hb hE
  rintro m a hp ⟨k, vk, hm, hk, hI, hb, hE, hd, h0', h1'⟩
  obtain ⟨ver, ob⟩ := hb
  by_cases hlt : k < L.length
  · obtain ⟨mm, rest, hdrop⟩ : ∃ mm rest, L.drop k = mm :: rest := by
      rw [List.drop_eq_getElem_cons hlt]; exact ⟨_, _, rfl⟩
    have hE' := hE
    rw [hdrop] at hE'
    obtain ⟨be, vere, roe, ee, pv, pc, pa, rfl, oe, hv, hc, hrest⟩ := hE'
    have hne : eqA .ptr (.ptr (some (be, 0))) (.ptr none) = some false := rfl
    have hxr : (true ^^ false) = true := rfl
    have hstep' := Hid.mk (hstep k hp _ hlt hI ⟨_, ob⟩ hE)
    have hrd : L.drop (k + 1) = rest := by
      have := congrArg List.tail hdrop
      simpa using this
    clear hE
    repeat with_reducible first | refine zAA ?_ | refine zAB ?_ | refine zAC ?_ | refine zAD ?_ | refine zAK ?_ | refine zAL ?_ | (apply st_q; exact q1) | (apply zAF; exact e1)
    refine st_e (ex_call (by exact e1) (by exact s1) (hstep'.out.mono ?_))
    rintro r h2 (⟨rfl, hI2, ⟨ver2, ob2⟩⟩ | ⟨rfl, hz⟩)
    · have oe2 := (hP _ _ hI2).keep _ _ oe
      have w2 := (hP _ _ hI2).wf
      have hpa := hrest.one
      have hca : cellsA pa = [pa] := by cases pa <;> first | rfl | cases hpa
      clear hstep' ob oe
      repeat with_reducible first | refine zAA ?_ | refine zAJ ?_ | refine zAB ?_ | refine zAD ?_ | refine zAL ?_ | (apply st_q; exact q1) | (apply zAI; exact e1)
      refine zAP (by exact e1) (by exact e1) hca rfl w2 ob2 (by simp) (by rw [List.all_cons, hpa]; rfl) ?_
      rintro v3 h3 p3 o3
      simp only [List.take_zero, List.nil_append, List.length_cons, List.length_nil, List.drop_succ_cons, List.drop_zero, List.append_nil, Nat.zero_add, Nat.reduceAdd, List.drop_nil, List.cons_append] at o3
      have hI3 := hbut _ _ _ _ hI2 ⟨_, ob2⟩ p3
      repeat with_reducible first | refine zAA ?_ | refine zAB ?_
      exact ⟨L.length - k, by omega, k + 1, pa, by omega, by omega, hI3, ⟨_, o3⟩, by rw [hrd]; exact hrest, by exact n1, by exact e1, by exact e1⟩
    · clear hstep'
      repeat' with_reducible first | refine zAA ?_ | refine zAN ?_ | refine blk_ret ?_ | refine zAB ?_ | refine zAG ?_ | (apply st_q; exact q1) | (apply zAF; exact e1) | (apply zAE; exact n1; exact r1)
      exact .inr hz
  · obtain rfl : k = L.length := by omega
    have hnil : L.drop L.length = [] := List.drop_length
    rw [hnil] at hE
    have hv : vk = .ptr none := hE
    subst hv
    have hne : eqA .ptr (.ptr none) (.ptr none) = some true := rfl
    have hxr : (true ^^ true) = false := rfl
    repeat with_reducible first | refine zAA ?_ | refine nxt_exit ?_ | refine blk_same ?_ | refine zAB ?_ | refine zAC ?_ | refine zAD ?_ | refine cd_exit ?_ | (apply st_q; exact q1) | (apply zAI; exact e1)
    refine fin_normal (by exact n1) (v := .tuple []) (by exact r1) (.inl hI)
end
end Go.Ab.S
end
section
/-
  What a name means as a value.
-/
namespace Go.Ab.S
open Go.Ab
set_option maxHeartbeats 4000000
def valueF : List Mean → List Nat → Option Graph
  | [], _ => none
  | m :: l, s => if m.value.isSome && eqL m.name s then m.value else valueF l s
def resG (o : Option Graph) : Graph := match o with | some g => trimF g | none => ⟨[], 0⟩
section
variable {fns : FuncId → Option AFunc} {summ : FuncId → List AVal → AHeap → Option (D (AVal × AHeap))}
theorem fin_coll {rs : List ARes} {K : AVal → AHeap → Prop} {a : AAct} {h : AHeap} {d : Nat} (hd : a.defers = [.collected d]) (w : WF h) (od : ∃ ver, h.objs.get d = some (ver, .dfr false)) (k : ∀ h', But d h h' → ∃ v, resultsA a h' rs = some v ∧ K v h') : fin fns summ rs K .ret a h := by
  obtain ⟨ver, od⟩ := od
  exact fin_retD hd (lv_collected od (lv_nil (k _ (but_put w od _))))
variable (H : Has fns summ)
include H
theorem eown_ok (g : Graph) (hg : GSm g) (v : AVal) (h : AHeap) (hw : WF h) (hv : GraphAt h v g) : Cl fns summ 31 [v] h fun r h' => OwnG h' h.next r (trimF g) ∧ Grow h h' := by
  obtain ⟨nv, rfl, hN⟩ := hv
  refine H.go (fn := F_eown) rfl (by decide) rfl rfl ?_
  unfold F_eown
  dsimp only [qQ, qE, qN, gQ, gE, vi]
  refine zAC (zAD ?_)
  refine st_box (by exact e1) (by exact cc) hw ?_
  rintro b1 h1 hb1 g1' o1
  refine st_alloc g1'.wf ?_
  rintro b2 h2 hb2 g2 o2
  replace o1 := g2.keep _ _ o1
  have g02 := g1'.trans g2
  have hpart : partA (some 2) [nv, .int .i64 g.root] 0 = some (.agg [nv, .int .i64 g.root]) := rfl
  have l2 := g2.wf.lt o2
  repeat with_reducible first | refine zAA ?_ | refine zAB ?_ | refine zAC ?_ | refine zAD ?_ | (apply st_q; exact q1)
  refine zAS (by exact s1) ((Trim_ok H g hg _ h2 g02.wf ⟨nv, rfl, hN.mono g02⟩).mono ?_)
  rintro rv h3 ⟨hO, g3⟩
  have hO' := Hid.mk hO
  obtain ⟨tn, ds, rfl, kB, kl, kn⟩ := hO
  have htn := one_of_len kB.len
  have o23 := g3.keep _ _ o2
  have n02 := g02.next
  have n01 := g1'.next
  clear kB kl kn
  skip
  refine zAP (by exact e1) (by exact e1) (cs := [tn, .int .i64 (trimF g).root]) rfl rfl g3.wf o23 (by simp) (by rw [List.all_cons, List.all_cons, htn]; rfl) ?_
  rintro v9 h9 p9 o9
  simp only [List.take_zero, List.nil_append, List.length_cons, List.length_nil, List.drop_succ_cons, List.drop_zero, List.append_nil, Nat.zero_add, Nat.reduceAdd, List.drop_nil, List.cons_append] at o9
  have hpz : partA (some 2) [tn, .int .i64 (trimF g).root] 0 = some (.agg [tn, .int .i64 (trimF g).root]) := rfl
  repeat' with_reducible first | refine zAA ?_ | refine zAB ?_ | refine zAG ?_ | (apply zAE; exact n1; exact r1)
  exact ⟨(hO'.out.stay fun c p hcb hp _ => p9.keep c (by omega) _ hp).base n02, p9.grow h hw (g02.trans g3) (by omega)⟩
theorem EValue_nil (s : List Nat) (h : AHeap) (hw : WF h) : Cl fns summ 11 [.ptr none, .str s] h fun r h' => r = .tuple [.agg [.slice none 0, .int .i64 0], .int .i64 1] ∧ Grow h h' := by
  refine H.go (fn := F_EValue) rfl (by decide) rfl rfl ?_
  unfold F_EValue
  dsimp only [qQ, qE, qN, gQ, gE, vi]
  refine zAC (zAD ?_)
  refine st_box (by exact e1) (by exact cc) hw ?_
  rintro b3 h3 hb3 g3 o3
  refine st_alloc g3.wf ?_
  rintro b4 h4 hb4 g4 o4
  refine st_alloc g4.wf ?_
  rintro b5 h5 hb5 g5 o5
  have l4 := g4.wf.lt o4
  replace o4 := g5.keep _ _ o4
  have g05 := (g3.trans g4).trans g5
  have n3 := g3.next
  have n4 := g4.next
  have hne : eqA .ptr (.ptr none) (.ptr none) = some true := rfl
  clear o3 g3 g4 g5
  repeat with_reducible first | refine zAA ?_ | refine zAB ?_ | refine zAC ?_ | refine zAD ?_ | (apply st_q; exact q1) | (apply zAF; exact e1)
  refine zAP (by exact e1) (by exact e1) (cs := [.slice none 0, .int .i64 0]) rfl rfl g05.wf o4 (by simp) rfl ?_
  rintro v6 h6 p6 o6
  simp only [List.take_zero, List.nil_append, List.length_cons, List.length_nil, List.drop_succ_cons, List.drop_zero, List.append_nil, Nat.zero_add, Nat.reduceAdd, List.drop_nil, List.cons_append] at o6
  have o56 := p6.keep b5 (by omega) _ o5
  have g06 := p6.grow h hw g05 (by omega)
  skip
  refine zAP (by exact e1) (by exact e1) (cs := [.int .i64 1]) rfl rfl g06.wf o56 (by simp) rfl ?_
  rintro v7 h7 p7 o7
  simp only [List.take_zero, List.nil_append, List.length_cons, List.length_nil, List.drop_succ_cons, List.drop_zero, List.append_nil, Nat.zero_add, Nat.reduceAdd, List.drop_nil, List.cons_append] at o7
  have o67 := p7.keep b4 (by omega) _ o6
  have hpz : partA (some 2) [.slice none 0, .int .i64 0] 0 = some (.agg [.slice none 0, .int .i64 0]) := rfl
  have g07 := p7.grow h hw g06 (by omega)
  repeat' with_reducible first | refine zAA ?_ | refine zAN ?_ | refine zAB ?_ | refine zAG ?_ | (apply zAE; exact n1; exact r1)
  exact ⟨rfl, g07⟩
theorem EValue_ok (L : List Mean) (hL : ∀ m ∈ L, ∀ g, m.value = some g → GSm g) (hne : L ≠ []) (v : AVal) (s : List Nat) (h : AHeap) (hw : WF h) (hE : EnvAt h v L) :
    Cl fns summ 11 [v, .str s] h fun r h' => (∃ z, r = .tuple [z, .int .i64 (if (valueF L s).isSome then 0 else 10)] ∧ GraphAt h' z (resG (valueF L s))) ∧ Grow h h' := by
  have hv1 := hE.one
  obtain ⟨bv, rfl⟩ : ∃ bv, v = .ptr (some (bv, 0)) := by
    cases L with
    | nil => exact absurd rfl hne
    | cons m l => obtain ⟨b, _, _, _, _, _, _, rfl, _⟩ := hE; exact ⟨b, rfl⟩
  have hvp : eqA .ptr (.ptr (some (bv, 0))) (.ptr none) = some false := rfl
  have hLs := Hid.mk hL
  have hx0 : (false ^^ false) = false := rfl
  clear hL
  refine H.go (fn := F_EValue) rfl (by decide) rfl rfl ?_
  unfold F_EValue
  dsimp only [qQ, qE, qN, gQ, gE, vi]
  refine zAC (zAD ?_)
  refine st_box (by exact e1) (by exact cc) hw ?_
  rintro b3 h3 hb3 g3 o3
  refine st_alloc g3.wf ?_
  rintro b4 h4 hb4 g4 o4
  refine st_alloc g4.wf ?_
  rintro b5 h5 hb5 g5 o5
  have l3 := g3.wf.lt o3
  have l4 := g4.wf.lt o4
  have l5 := g5.wf.lt o5
  replace o4 := g5.keep _ _ o4
  replace o3 := g5.keep _ _ (g4.keep _ _ o3)
  have g05 := (g3.trans g4).trans g5
  have n3 := g3.next
  have n4 := g4.next
  have n5 := g5.next
  clear g3 g4 g5
  repeat with_reducible first | refine zAA ?_ | refine zAB ?_ | refine zAC ?_ | refine zAD ?_ | refine zAL ?_ | (apply st_q; exact q1) | (apply zAI; exact e1)
  refine zAS (by exact s1) ((eall_ok H _ hv1 h5 g05.wf).mono ?_)
  rintro _ h6 ⟨b, rfl, hb, vb, g6⟩
  have hb3 := l3
  have lb : b < h6.next := by obtain ⟨_, ov⟩ := vb; exact g6.wf.lt ov
  repeat with_reducible first | refine zAA ?_ | refine zAB ?_
  refine cd_gen (fun A => A.defers = [] ∧ ev A (.tmp 3) = some (.ptr (some (b3, 0))) ∧ ev A (.tmp 4) = some (.ptr (some (b4, 0))) ∧ ev A (.tmp 5) = some (.ptr (some (b5, 0))) ∧ ev A (.tmp 11) = some (.func 61 [] [.ptr (some (b, 0))]))
    ⟨by exact n1, by exact e1, by exact e1, by exact e1, by exact e1⟩ ?_
  rintro A ⟨hd, t3, t4, t5, t11⟩
  refine cd_block ?_
  generalize hB : ACode.block 1 _ = B
  generalize hA : ACode.ops [⟨some 6, none, .q (.mov (.tmp 12))⟩] = As
  refine rangeF_K t11 g6.wf ?_
  intro l d h7 hdn hld g7 ol od
  have g57 : Grow h5 h7 := g6.trans g7
  have n6 := g6.next
  have w5 := g05.wf
  refine (eall1_ok H L _ h5 (hE.mono g05) b (.yield l) (fun k hp => Grow h5 hp ∧ l < hp.next ∧ (∃ ver, hp.objs.get l = some (ver, .loop .ready none A.tmps [12] As B d)) ∧ (∃ ver, hp.objs.get d = some (ver, .dfr false)) ∧ valueF L s = valueF (L.drop k) s)
    (fun hp => WF hp ∧ Grow h hp ∧ (∃ ver, hp.objs.get l = some (ver, .loop .done (some .ret) A.tmps [12] As B d)) ∧ (∃ ver, hp.objs.get d = some (ver, .dfr false)) ∧ ∃ z g ver4 ver5 base, valueF L s = some g ∧ hp.objs.get b4 = some (ver4, .cells false 24 [z, .int .i64 (trimF g).root]) ∧ hp.objs.get b5 = some (ver5, .cells false 31 [.int .i64 0]) ∧ (l < base ∧ d < base) ∧ OwnG hp base (.agg [z, .int .i64 (trimF g).root]) (trimF g))
    (fun k hp p => p.1) ?_ ?_ h7 ⟨g57, by obtain ⟨_, ol⟩ := ol; exact g7.wf.lt ol, ol, od, rfl⟩ (by obtain ⟨vv, ov⟩ := vb; exact ⟨vv, g7.keep _ _ ov⟩)).mono ?_
  · rintro k hp hp' vk ⟨gp, hl, ⟨vl, ol⟩, ⟨vd, od⟩, hr⟩ ⟨vv, ov⟩ pb
    exact ⟨pb.grow h5 w5 gp hb, Nat.lt_of_lt_of_le hl pb.next, ⟨_, pb.keep l (by rintro rfl; rw [ol] at ov; cases ov) _ ol⟩, ⟨_, pb.keep d (by rintro rfl; rw [od] at ov; cases ov) _ od⟩, hr⟩
  · clear ol od
    rintro k hp vk hk ⟨gp, hl, ⟨vl, ol⟩, ⟨vd, od⟩, hr⟩ ⟨vv, ov⟩ hEk
    obtain ⟨mm, rest, hdrop⟩ : ∃ mm rest, L.drop k = mm :: rest := by
      rw [List.drop_eq_getElem_cons hk]; exact ⟨_, _, rfl⟩
    have hmem : mm ∈ L := List.mem_of_mem_drop (i := k) (by rw [hdrop]; simp)
    have hrd : L.drop (k + 1) = rest := by
      have := congrArg List.tail hdrop
      simpa using this
    rw [hdrop] at hEk
    obtain ⟨be, vere, roe, ee, pv, pc, pa, rfl, oe5, hv, hc, hrest⟩ := hEk
    have oe := gp.keep _ _ oe5
    have T3 : ev { tmps := A.tmps, defers := [] } (.tmp 3) = some (.ptr (some (b3, 0))) := t3
    have T4 : ev { tmps := A.tmps, defers := [] } (.tmp 4) = some (.ptr (some (b4, 0))) := t4
    have T5 : ev { tmps := A.tmps, defers := [] } (.tmp 5) = some (.ptr (some (b5, 0))) := t5
    refine yield_K ol gp.wf rfl (fun a1 => a1.defers = [] ∧ ev a1 (.tmp 6) = some (.ptr (some (be, 0))) ∧ ev a1 (.tmp 3) = some (.ptr (some (b3, 0))) ∧ ev a1 (.tmp 4) = some (.ptr (some (b4, 0))) ∧ ev a1 (.tmp 5) = some (.ptr (some (b5, 0)))) ?_ ?_
    · subst hA
      clear hd t3 t4 t5 t11
      repeat with_reducible first | refine zAA ?_ | refine zAB ?_ | refine zAD ?_ | (apply st_q; exact q1)
      exact ⟨rfl, by exact n1, by exact e1, by exact e1, by exact e1, by exact e1⟩
    · rintro a1 hq ⟨hd1, t6, t3', t4', t5'⟩ pL ⟨vlb, olb⟩
      clear hd t3 t4 t5 t11 T3 T4 T5
      have hlb : b ≠ l := by rintro rfl; rw [ol] at ov; cases ov
      have hld' : d ≠ l := by rintro rfl; rw [ol] at od; cases od
      have hel : be ≠ l := by rintro rfl; rw [ol] at oe; cases oe
      have gq : Grow h5 hq := pL.grow h5 w5 gp (by omega)
      have oeq := pL.keep _ hel _ oe
      have odq := pL.keep _ hld' _ od
      have ovq := pL.keep _ hlb _ ov
      have o3q := gq.keep _ _ o3
      have o4q := gq.keep _ _ o4
      have o5q := gq.keep _ _ o5
      have hlq : l < hq.next := Nat.lt_of_lt_of_le hl pL.next
      have w := gq.wf
      have next : ∀ e : AExit, valueF L s = valueF (L.drop (k + 1)) s → e = .normal → ∀ h4, But l hq h4 → (∃ ver, h4.objs.get l = some (ver, .loop .ready none A.tmps [12] As B d)) → (((.bool true : AVal) = .bool true ∧ (Grow h5 h4 ∧ l < h4.next ∧ (∃ ver, h4.objs.get l = some (ver, .loop .ready none A.tmps [12] As B d)) ∧ (∃ ver, h4.objs.get d = some (ver, .dfr false)) ∧ valueF L s = valueF (L.drop (k + 1)) s) ∧ VarAt h4 b (.ptr (some (be, 0)))) ∨ False) := fun e hh _ h4 p4 o4l =>
        .inl ⟨rfl, ⟨p4.grow h5 w5 gq (by omega), Nat.lt_of_lt_of_le hlq p4.next, o4l, ⟨_, p4.keep d hld' _ odq⟩, hh⟩, ⟨_, p4.keep b hlb _ ovq⟩⟩
      replace next := Hid.mk next
      subst hB
      clear ol oe od ov pL
      cases hmv : mm.value with
      | none =>
        rw [hmv] at hv
        have hpv : pv = .ptr none := hv
        subst hpv
        have hq1 : eqA .ptr (.ptr none) (.ptr none) = some true := rfl
        have hxr : (true ^^ true) = false := rfl
        have hr' : valueF L s = valueF (L.drop (k + 1)) s := by rw [hr, hdrop, valueF, hmv, hrd]; rfl
        replace hr' := Hid.mk hr'
        clear hr
        repeat with_reducible first | refine zAA ?_ | refine zAJ ?_ | refine zAC ?_ | refine zAK ?_ | refine zAL ?_ | refine dr_nil ?_ | refine cd_draw ?_ | (apply dr_gF; exact e1) | (apply dr_q; exact q1) | (apply dr_ql; exact q1; exact og1) | (apply zAI; exact e1)
        exact ⟨w, ⟨_, olb⟩, fun hh h4 p4 o4 => (next.out _ hr'.out hh h4 p4 o4).imp id False.elim, fun hh => absurd rfl hh⟩
      | some g =>
        rw [hmv] at hv
        obtain ⟨bg, verg, rog, eg, nvg, rfl, og5, hNg⟩ := hv
        have hq1 : eqA .ptr (.ptr (some (bg, 0))) (.ptr none) = some false := rfl
        have hxr : (true ^^ false) = true := rfl
        have ogq := gq.keep _ _ og5
        cases hn : eqL mm.name s
        · have hr' : valueF L s = valueF (L.drop (k + 1)) s := by rw [hr, hdrop, valueF, hmv, hn, hrd]; rfl
          replace hr' := Hid.mk hr'
          clear hr
          repeat with_reducible first | refine zAA ?_ | refine zAJ ?_ | refine zAC ?_ | refine zAK ?_ | refine zAL ?_ | refine dr_nil ?_ | refine cd_draw ?_ | (apply dr_gT; exact e1) | (apply dr_q; exact q1) | (apply dr_ql; exact q1; exact og1) | (apply zAI; exact e1)
          exact ⟨w, ⟨_, olb⟩, fun hh h4 p4 o4 => (next.out _ hr'.out hh h4 p4 o4).imp id False.elim, fun hh => absurd rfl hh⟩
        · have hr' : valueF L s = some g := by rw [hr, hdrop, valueF, hmv, hn]; rfl
          replace hr' := Hid.mk hr'
          clear hr next
          have hgs := hLs.out mm hmem g hmv
          replace hmv := Hid.mk hmv
          have hpg : partA (some 2) [nvg, .int .i64 g.root] 0 = some (.agg [nvg, .int .i64 g.root]) := rfl
          have ht2 : ∀ x y : AVal, List.take 2 [x, y] = [x, y] := fun _ _ => rfl
          repeat with_reducible first | refine zAA ?_ | refine zAC ?_ | refine zAD ?_ | refine zAK ?_ | refine dr_nil ?_ | refine cd_draw ?_ | (apply dr_gT; exact e1) | (apply dr_q; exact q1) | (apply dr_ql; exact q1; exact og1) | (apply st_q; exact q1) | (apply zAF; exact e1)
          refine zAS (by exact s1) ((eown_ok H g hgs _ hq w ⟨nvg, rfl, hNg.mono gq⟩).mono ?_)
          rintro rv h8 ⟨hO, g8⟩
          have hO' := Hid.mk hO
          obtain ⟨tn, ds, rfl, kB, kl, kn⟩ := hO
          have htn := one_of_len kB.len
          have o48 := g8.keep _ _ o4q
          have o58 := g8.keep _ _ o5q
          have olb8 := g8.keep _ _ olb
          have od8 := g8.keep _ _ odq
          have nq := gq.next
          have n8 := g8.next
          clear kB kl kn o3q o4q o5q oeq ogq ovq olb odq
          skip
          refine zAP (by exact e1) (by exact e1) (cs := [tn, .int .i64 (trimF g).root]) rfl rfl g8.wf o48 (by simp) (by rw [List.all_cons, List.all_cons, htn]; rfl) ?_
          rintro v9 h9 p9 o9
          simp only [List.take_zero, List.nil_append, List.length_cons, List.length_nil, List.drop_succ_cons, List.drop_zero, List.append_nil, Nat.zero_add, Nat.reduceAdd, List.drop_nil, List.cons_append] at o9
          have o59 := p9.keep b5 (by omega) _ o58
          have olb9 := p9.keep l (by omega) _ olb8
          have od9 := p9.keep d (by omega) _ od8
          have w9 := p9.wf g8.wf
          have g9 := p9.grow h hw (g05.trans (gq.trans g8)) (by omega)
          have hO9 := hO'.out.stay fun c p hcb hp _ => p9.keep c (by omega) _ hp
          clear o48 o58 olb8 od8
          skip
          refine zAP (by exact e1) (by exact e1) (cs := [.int .i64 0]) rfl rfl w9 o59 (by simp) rfl ?_
          rintro v10 h10 p10 o10
          simp only [List.take_zero, List.nil_append, List.length_cons, List.length_nil, List.drop_succ_cons, List.drop_zero, List.append_nil, Nat.zero_add, Nat.reduceAdd, List.drop_nil, List.cons_append] at o10
          have o410 := p10.keep b4 (by omega) _ o9
          have olb10 := p10.keep l (by omega) _ olb9
          have od10 := p10.keep d (by omega) _ od9
          have w10 := p10.wf w9
          have g10 := p10.grow h hw g9 (by omega)
          have n9 := p9.next
          have hO10 := hO9.stay fun c p hcb hp _ => p10.keep c (by omega) _ hp
          clear o9 o59 olb9 od9
          repeat with_reducible first | refine zAA ?_ | refine blk_ret ?_ | refine zAB ?_ | refine zAG ?_
          refine ⟨w10, ⟨_, olb10⟩, (by intro hh; cases hh), fun _ h4' p4 o4l => .inr ⟨rfl, p4.wf w10, p4.grow h hw g10 (by omega), o4l, ⟨_, p4.keep d hld' _ od10⟩, tn, g, _, _, hq.next, hr'.out, p4.keep b4 (by omega) _ o410, p4.keep b5 (by omega) _ o10, ⟨hlq, by omega⟩, hO10.stay fun c p hcb hp _ => p4.keep c (by omega) _ hp⟩⟩
  · clear ol od
    rintro _ h8 (⟨gp, hl, ⟨vl, ol⟩, ⟨vd, od⟩, hr⟩ | ⟨w8, g8, ol, ⟨vd, od⟩, z, gg, ver4, ver5, base, hvf, oz4, oz5, ⟨bl, bd⟩, hOwn⟩)
    · rw [List.drop_length] at hr
      have hnone : valueF L s = none := hr
      refine ⟨gp.wf, .inl ⟨⟨_, ol⟩, fun h9 p9 => ?_⟩⟩
      have hld' : d ≠ l := by rintro rfl; rw [ol] at od; cases od
      have o49 := p9.keep b4 (by omega) _ (gp.keep _ _ o4)
      have o59 := p9.keep b5 (by omega) _ (gp.keep _ _ o5)
      have od9 := p9.keep d hld' _ od
      have g9 := p9.grow h hw (g05.trans gp) (by omega)
      have T4 : ev { tmps := A.tmps, defers := [.collected d] } (.tmp 4) = some (.ptr (some (b4, 0))) := t4
      have T5 : ev { tmps := A.tmps, defers := [.collected d] } (.tmp 5) = some (.ptr (some (b5, 0))) := t5
      have hdd : (ADef.collected d :: A.defers) = [.collected d] := by rw [hd]
      have hpz : partA (some 2) [.slice none 0, .int .i64 0] 0 = some (.agg [.slice none 0, .int .i64 0]) := rfl
      replace hnone := Hid.mk hnone
      clear hr hd t3 t4 t5 t11 ol od o3 o4 o5
      repeat with_reducible first | refine zAA ?_ | refine zAJ ?_ | refine zAC ?_ | refine zAD ?_ | (apply st_q; exact q1)
      refine zAP (by exact e1) (by exact e1) (cs := [.slice none 0, .int .i64 0]) rfl rfl g9.wf o49 (by simp) rfl ?_
      rintro v10 h10 p10 o10
      simp only [List.take_zero, List.nil_append, List.length_cons, List.length_nil, List.drop_succ_cons, List.drop_zero, List.append_nil, Nat.zero_add, Nat.reduceAdd, List.drop_nil, List.cons_append] at o10
      have o510 := p10.keep b5 (by omega) _ o59
      have od10 := p10.keep d (by omega) _ od9
      have g10 := p10.grow h hw g9 (by omega)
      clear o49 o59 od9
      skip
      refine zAP (by exact e1) (by exact e1) (cs := [.int .i64 10]) rfl rfl g10.wf o510 (by simp) rfl ?_
      rintro v11 h11 p11 o11
      simp only [List.take_zero, List.nil_append, List.length_cons, List.length_nil, List.drop_succ_cons, List.drop_zero, List.append_nil, Nat.zero_add, Nat.reduceAdd, List.drop_nil, List.cons_append] at o11
      have o411 := p11.keep b4 (by omega) _ o10
      have od11 := p11.keep d (by omega) _ od10
      have g11 := p11.grow h hw g10 (by omega)
      clear o10 o510 od10
      repeat with_reducible first | refine zAA ?_ | refine zAB ?_ | refine zAG ?_
      refine fin_coll (by first | exact hdd | (simp only [zAV]; exact hdd)) g11.wf ⟨_, od11⟩ fun h12 p12 => ?_
      have o412 := p12.keep b4 (by omega) _ o411
      have o512 := p12.keep b5 (by omega) _ o11
      refine ⟨_, by exact r1, ⟨.agg [.slice none 0, .int .i64 0], ?_, ?_⟩, p12.grow h hw g11 (by omega)⟩
      · rw [hnone.out]; rfl
      · rw [hnone.out]
        exact ⟨.slice none 0, rfl, [], ⟨rfl, fun i x hx => by simp at hx⟩, rfl, fun i n c hn _ => by simp [resG] at hn⟩
    · refine ⟨w8, .inr ⟨.ret, (by intro hh; cases hh), ol, fun h9 p9 => ?_⟩⟩
      obtain ⟨vl, ol⟩ := ol
      have hld' : d ≠ l := by rintro rfl; rw [ol] at od; cases od
      have T4 : ev { tmps := A.tmps, defers := [.collected d] } (.tmp 4) = some (.ptr (some (b4, 0))) := t4
      have T5 : ev { tmps := A.tmps, defers := [.collected d] } (.tmp 5) = some (.ptr (some (b5, 0))) := t5
      have hdd : (ADef.collected d :: A.defers) = [.collected d] := by rw [hd]
      have o49 := p9.keep b4 (by omega) _ oz4
      have o59 := p9.keep b5 (by omega) _ oz5
      have od9 := p9.keep d hld' _ od
      have g9 := p9.grow h hw g8 (by omega)
      have hO9 := hOwn.stay fun c p hcb hp _ => p9.keep c (by omega) _ hp
      have hpz : partA (some 2) [z, .int .i64 (trimF gg).root] 0 = some (.agg [z, .int .i64 (trimF gg).root]) := rfl
      replace hvf := Hid.mk hvf
      clear hd t3 t11 oz4 oz5 od hOwn o3 o4 o5
      repeat with_reducible first | refine zAN ?_ | refine blk_ret ?_
      refine fin_coll (by first | exact hdd | (simp only [zAV]; exact hdd)) g9.wf ⟨_, od9⟩ fun h12 p12 => ?_
      have o412 := p12.keep b4 (by omega) _ o49
      have o512 := p12.keep b5 (by omega) _ o59
      refine ⟨_, by exact r1, ⟨.agg [z, .int .i64 (trimF gg).root], ?_, ?_⟩, p12.grow h hw g9 (by omega)⟩
      · rw [hvf.out]; rfl
      · rw [hvf.out]
        exact (hO9.stay fun c p hcb hp _ => p12.keep c (by omega) _ hp).graph
end
end Go.Ab.S
end
section
/-
  A name means a type from now on.
-/
namespace Go.Ab.S
open Go.Ab
set_option maxHeartbeats 4000000
def withF (s : List Nat) (g : Graph) : Int := if isNameF s then zAT g else 2
section
variable {fns : FuncId → Option AFunc} {summ : FuncId → List AVal → AHeap → Option (D (AVal × AHeap))}
variable (H : Has fns summ)
include H
theorem WithValue_ok (L : List Mean) (bv : Nat) (s : List Nat) (hs : s.length < 2 ^ 60) (g : Graph) (hg : GTi g) (u : AVal) (h : AHeap) (hw : WF h) (hE : EnvAt h (.ptr (some (bv, 0))) L) (hu : GraphAt h u g) :
    Cl fns summ 10 [.ptr (some (bv, 0)), .str s, u] h fun r h' => (∃ z, r = .tuple [z, .int .i64 (withF s g)] ∧ (withF s g ≠ 0 → z = .ptr none) ∧ (withF s g = 0 → ∃ bz, z = .ptr (some (bz, 0)) ∧ EnvAt h' z (⟨s, some (leastF g), none⟩ :: L))) ∧ Grow h h' := by
  obtain ⟨nv, rfl, hN⟩ := hu
  have tg := Hid.mk hg
  clear hg
  refine H.go (fn := F_WithValue) rfl (by decide) rfl rfl ?_
  unfold F_WithValue
  dsimp only [qQ, qE, qN, gQ, gE, vi]
  refine zAC (zAD ?_)
  refine st_box (by exact e1) (by exact cc) hw ?_
  rintro b5 h5 hb5 g5 o5
  have l5 := g5.wf.lt o5
  have hvp : eqA .ptr (.ptr (some (bv, 0))) (.ptr none) = some false := rfl
  have hx0 : (false ^^ false) = false := rfl
  have hpart : partA (some 2) [nv, .int .i64 g.root] 0 = some (.agg [nv, .int .i64 g.root]) := rfl
  repeat with_reducible first | refine zAA ?_ | refine zAB ?_ | refine zAC ?_ | refine zAD ?_ | refine zAK ?_ | (apply st_q; exact q1) | (apply zAI; exact e1)
  refine zAS (by exact s1) ((IsName_ok H s hs h5).mono ?_)
  rintro _ h5' ⟨rfl, hq5⟩
  replace hq5 := hq5.symm
  subst hq5
  cases hn : isNameF s
  · have hz : withF s g = 2 := by rw [withF, hn]; rfl
    replace hz := Hid.mk hz
    repeat' with_reducible first | refine zAA ?_ | refine zAN ?_ | refine blk_ret ?_ | refine zAB ?_ | refine zAC ?_ | refine zAD ?_ | refine zAG ?_ | (apply st_q; exact q1) | (apply zAF; exact e1) | (apply zAE; exact n1; exact r1)
    refine ⟨⟨_, by rw [hz.out], fun _ => rfl, fun hh => ?_⟩, g5⟩
    rw [hz.out] at hh; cases hh
  · have hz : withF s g = zAT g := by rw [withF, hn]; rfl
    replace hz := Hid.mk hz
    repeat with_reducible first | refine zAA ?_ | refine zAJ ?_ | refine zAB ?_ | refine zAC ?_ | refine zAD ?_ | refine zAL ?_ | (apply st_q; exact q1) | (apply zAI; exact e1)
    refine zAS (by exact s1) ((Check_ok H g tg.out.toGraphSm _ h5 g5.wf ⟨nv, rfl, hN.mono g5⟩).mono ?_)
    rintro _ h6 ⟨rfl, g6⟩
    have o56 := g6.keep _ _ o5
    have g06 := g5.trans g6
    cases hck : (zAT g != 0)
    rotate_left
    · have hne : zAT g ≠ 0 := by simpa using hck
      replace hne := Hid.mk hne
      repeat' with_reducible first | refine zAA ?_ | refine zAN ?_ | refine zAB ?_ | refine zAC ?_ | refine zAD ?_ | refine zAG ?_ | (apply st_q; exact q1) | (apply zAF; exact e1) | (apply zAE; exact n1; exact r1)
      exact ⟨⟨_, by rw [hz.out], fun _ => rfl, fun hh => absurd (hz.out ▸ hh) hne.out⟩, g06⟩
    · have hc : zAT g = 0 := by simpa using hck
      replace hc := Hid.mk hc
      repeat with_reducible first | refine zAA ?_ | refine zAB ?_ | refine zAC ?_ | refine zAD ?_ | refine zAL ?_ | (apply st_q; exact q1) | (apply zAI; exact e1)
      refine zAS (by exact s1) ((Least_ok H g tg.out hc.out _ h6 g6.wf ⟨nv, rfl, hN.mono g06⟩).mono ?_)
      rintro lv h7 ⟨hO, g7⟩
      have hO' := Hid.mk hO
      obtain ⟨ln, cs, rfl, kB, kl, kn⟩ := hO
      have hln := one_of_len kB.len
      have o57 := g7.keep _ _ o56
      have n6 := g6.next
      clear kB kl kn o5 o56
      skip
      refine zAP (by exact e1) (by exact e1) (cs := [ln, .int .i64 (leastF g).root]) rfl rfl g7.wf o57 (by simp) (by rw [List.all_cons, List.all_cons, hln]; rfl) ?_
      rintro v8 h8 p8 o8
      simp only [List.take_zero, List.nil_append, List.length_cons, List.length_nil, List.drop_succ_cons, List.drop_zero, List.append_nil, Nat.zero_add, Nat.reduceAdd, List.drop_nil, List.cons_append] at o8
      have g08 := p8.grow h hw (g06.trans g7) hb5
      have hO8 := (hO'.out.stay fun c p hcb hp _ => p8.keep c (by omega) _ hp).graph
      repeat with_reducible first | refine zAA ?_ | refine zAB ?_ | refine zAC ?_ | refine zAD ?_ | (apply st_q; exact q1)
      refine st_q (v := .agg [.str s, .ptr (some (b5, 0)), .ptr none, .ptr (some (bv, 0))]) (b := none) (by rw [qA_build]; simp only [fillA, ev_put, ev_start, if_true, if_false, Nat.reduceEqDiff, cellsA, List.length_cons, List.length_nil]; rfl) ?_
      refine st_box (by exact e1) (by exact cc) g08.wf ?_
      rintro bz h9 hbz g9 o9
      have hE9 := hE.mono (g08.trans g9)
      have o59 := g9.keep _ _ o8
      obtain ⟨ln', hq, hLN⟩ := hO8
      cases hq
      have hLN9 := hLN.mono g9
      have hz0 : withF s g = 0 := by rw [hz.out, hc.out]
      replace hz0 := Hid.mk hz0
      clear o57 o8 hLN hO'
      repeat' with_reducible first | refine zAA ?_ | refine zAB ?_ | refine zAG ?_ | (apply st_q; exact q1) | (apply zAE; exact n1; exact r1)
      refine ⟨⟨_, by rw [hz0.out], fun hh => absurd hz0.out hh, fun _ => ⟨bz, rfl, bz, _, _, _, _, _, _, rfl, o9, ⟨b5, _, _, _, ln, rfl, o59, hLN9⟩, rfl, hE9⟩⟩, g08.trans g9⟩
end
end Go.Ab.S
end
