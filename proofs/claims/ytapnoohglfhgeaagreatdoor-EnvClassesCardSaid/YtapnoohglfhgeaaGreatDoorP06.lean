import Derived.Test.YtapnoohglfhgeaaGreatDoorP05
/-
  Part 6 of the proof.
-/
set_option linter.all false
section
/-
  Regions whose order is drawn: bits, plans, temporaries.
-/
namespace Go.Ab
open Go.RowKit (Below)

/-! ### Bits -/
theorem subM_iff {a b : Nat} : subM a b = true ↔ ∀ j, a.testBit j = true → b.testBit j = true := by
  unfold subM
  constructor
  · intro h j hj
    have e := Nat.eq_of_beq_eq_true h
    have : (a &&& b).testBit j = a.testBit j := by rw [e]
    rw [Nat.testBit_and, hj] at this
    simpa using this
  · intro h
    have : a &&& b = a := by
      apply Nat.eq_of_testBit_eq
      intro j
      rw [Nat.testBit_and]
      cases ha : a.testBit j with
      | false => rfl
      | true => rw [h j ha]; rfl
    rw [this]; exact Nat.beq_refl a
theorem bit_add {L i j : Nat} : (L ||| 2 ^ i).testBit j = true ↔ L.testBit j = true ∨ j = i := by
  rw [Nat.testBit_or, Bool.or_eq_true, Nat.testBit_two_pow, decide_eq_true_eq]
  constructor
  · rintro (h | h)
    · exact .inl h
    · exact .inr h.symm
  · rintro (h | h)
    · exact .inl h
    · exact .inr h.symm
theorem bit_zero (j : Nat) : (0 : Nat).testBit j = true ↔ False := by simp

theorem bitsOf_aux : ∀ (l : List DStep) (m j : Nat), (l.foldl (fun m s => m ||| 2 ^ s.i) m).testBit j = true ↔ m.testBit j = true ∨ ∃ s ∈ l, s.i = j
  | [], m, j => by simp
  | s :: l, m, j => by
    rw [List.foldl_cons, bitsOf_aux l, bit_add]
    constructor
    · rintro ((h | h) | ⟨t, h1, h2⟩)
      · exact .inl h
      · exact .inr ⟨s, List.mem_cons_self .., h.symm⟩
      · exact .inr ⟨t, List.mem_cons_of_mem _ h1, h2⟩
    · rintro (h | ⟨t, h1, h2⟩)
      · exact .inl (.inl h)
      · rcases List.mem_cons.1 h1 with rfl | h1
        · exact .inl (.inr h2.symm)
        · exact .inr ⟨t, h1, h2⟩
theorem upF_iff {fl L : Nat} {l : List DStep} {j : Nat} : (upF fl L l).testBit j = true ↔ ∃ s ∈ l, s.i = j ∧ fl.testBit s.i = true ∧ subM s.pred L = true := by
  unfold upF bitsOf
  rw [bitsOf_aux]
  constructor
  · rintro (h | ⟨s, h1, h2⟩)
    · simp at h
    · rw [List.mem_filter] at h1
      simp only [Bool.and_eq_true] at h1
      exact ⟨s, h1.1, h2, h1.2.1, h1.2.2⟩
  · rintro ⟨s, h1, h2, h3, h4⟩
    refine .inr ⟨s, ?_, h2⟩
    rw [List.mem_filter]
    exact ⟨h1, by rw [h3, h4]; rfl⟩

theorem predM_aux : ∀ (es : List Edge) (m j : Nat), (es.foldl (fun s e => match Region.binds .any e with | true => s ||| 2 ^ e.on | false => s) m).testBit j = true ↔ m.testBit j = true ∨ ∃ e ∈ es, Region.binds .any e = true ∧ e.on = j
  | [], m, j => by simp
  | e :: es, m, j => by
    rw [List.foldl_cons, predM_aux es]
    cases hb : Region.binds .any e with
    | true =>
      simp only [bit_add]
      constructor
      · rintro ((h | h) | ⟨t, h1, h2⟩)
        · exact .inl h
        · exact .inr ⟨e, List.mem_cons_self .., hb, h.symm⟩
        · exact .inr ⟨t, List.mem_cons_of_mem _ h1, h2⟩
      · rintro (h | ⟨t, h1, h2, h3⟩)
        · exact .inl (.inl h)
        · rcases List.mem_cons.1 h1 with rfl | h1
          · exact .inl (.inr h3.symm)
          · exact .inr ⟨t, h1, h2, h3⟩
    | false =>
      simp only
      constructor
      · rintro (h | ⟨t, h1, h2⟩)
        · exact .inl h
        · exact .inr ⟨t, List.mem_cons_of_mem _ h1, h2⟩
      · rintro (h | ⟨t, h1, h2, h3⟩)
        · exact .inl h
        · rcases List.mem_cons.1 h1 with rfl | h1
          · rw [hb] at h2; cases h2
          · exact .inr ⟨t, h1, h2, h3⟩
theorem predM_iff {o : Oper} {j : Nat} : (predM o).testBit j = true ↔ ∃ e ∈ o.after, Region.binds .any e = true ∧ e.on = j := by
  unfold predM
  refine (predM_aux o.after.toList 0 j).trans ?_
  simp

/-! ### What has been looked at -/
/-- The operation i waits for j. -/
def Pr (ops : Array Oper) (i j : Nat) : Prop := ∃ o, ops[i]? = some o ∧ (predM o).testBit j = true

structure Fit (P : Program) (M : Nat) (ops : Array Oper) (l : List DStep) (fl : Nat) : Prop where
  step : ∀ (i : Nat) (o : Oper), ops[i]? = some o → ∃ st, cStep P M ops.toList o = some st ∧ l[i]? = some ({ i := i, pred := predM o, st := st } : DStep)
  lookup : ∀ (i : Nat) (s : DStep), l[i]? = some s → ∃ o, ops[i]? = some o
  early : ∀ (i j : Nat), Pr ops i j → j < i
  floatP : ∀ (i j : Nat), fl.testBit i = true → Pr ops i j → fl.testBit j = false
  floatS : ∀ (i : Nat), fl.testBit i = true → ∃ s, l[i]? = some s ∧ isAl s.st = true
  apart : ∀ (i j : Nat) (oi oj : Oper), ops[i]? = some oi → ops[j]? = some oj → j < i → Pr ops i j ∨ apartL ops.toList oj oi = true
  dist : ∀ (i j : Nat) (oi oj : Oper) (t : Tmp), ops[i]? = some oi → ops[j]? = some oj → oi.dst = some t → oj.dst = some t → i = j
  nosel : ∀ (i : Nat) (o : Oper) (cs : Array SelectCase) (b : Bool), ops[i]? = some o → o.op ≠ .select cs b

theorem apartL_spec {ops : List Oper} {x y : Oper} (h : apartL ops x y = true) : (∀ d, x.dst = some d → d ∉ lookL ops y) ∧ (∀ d, y.dst = some d → d ∉ lookL ops x) := by
  unfold apartL at h
  rw [Bool.and_eq_true] at h
  constructor
  · intro d hd
    have := h.1
    rw [hd] at this
    simp only [Bool.and_eq_true, Bool.not_eq_true'] at this
    have h2 := this.1
    intro hm
    rw [List.contains_iff_mem.2 hm] at h2
    cases h2
  · intro d hd
    have := h.2
    rw [hd] at this
    simp only [Bool.not_eq_true'] at this
    intro hm
    rw [List.contains_iff_mem.2 hm] at this
    cases this

/-! ### Temporaries: what has been written by a set of operations -/
structure AA (ops : Array Oper) (ag0 : Act) (X : Nat → Prop) (val : Nat → Value) (ag : Act) : Prop where
  size : ag.tmps.size = ag0.tmps.size
  on : ∀ k o t, ops[k]? = some o → o.dst = some t → X k → ag.tmps[t]? = some (val k)
  off : ∀ t, (∀ k o, ops[k]? = some o → o.dst = some t → ¬ X k) → ag.tmps[t]? = ag0.tmps[t]?

def upd (val : Nat → Value) (i : Nat) (v : Value) : Nat → Value := fun k => if k = i then v else val k
theorem upd_same {val : Nat → Value} {i : Nat} {v : Value} : upd val i v i = v := by simp [upd]
theorem upd_ne {val : Nat → Value} {i k : Nat} {v : Value} (h : k ≠ i) : upd val i v k = val k := by simp [upd, h]

section
variable {P : Program} {M : Nat} {ops : Array Oper} {l : List DStep} {fl : Nat} {ag0 ag ag' : Act} {X Y : Nat → Prop} {val val' : Nat → Value}

theorem AA.start : AA ops ag0 (fun _ => False) val ag0 := ⟨rfl, fun _ _ _ _ _ h => h.elim, fun _ _ => rfl⟩

theorem AA.congr (h : AA ops ag0 X val ag) (hX : ∀ k, X k ↔ Y k) (hv : ∀ k, X k → val k = val' k) : AA ops ag0 Y val' ag :=
  ⟨h.size, fun k o t hk ht hy => by rw [← hv k ((hX k).2 hy)]; exact h.on k o t hk ht ((hX k).2 hy), fun t ht => h.off t fun k o hk hd hx => ht k o hk hd ((hX k).1 hx)⟩

theorem AA.put (hF : Fit P M ops l fl) (h : AA ops ag0 X val ag) {i : Nat} {o : Oper} (hi : ops[i]? = some o) (hlt : ∀ t, o.dst = some t → t < ag0.tmps.size) (hn : ¬ X i) (v : Value) :
    AA ops ag0 (fun k => X k ∨ k = i) (upd val i v) (ag.put o.dst v) := by
  cases hd : o.dst with
  | none =>
    refine ⟨h.size, fun k ok t hk ht hx => ?_, fun t ht => ?_⟩
    · rcases hx with hx | rfl
      · rw [upd_ne (fun hh : k = i => hn (by rw [← hh]; exact hx))]; exact h.on k ok t hk ht hx
      · rw [hi] at hk; cases hk; rw [hd] at ht; cases ht
    · exact h.off t fun k ok hk hdk hx => ht k ok hk hdk (.inl hx)
  | some d =>
    have hs : d < ag.tmps.size := by rw [h.size]; exact hlt d hd
    refine ⟨by show (ag.tmps.setIfInBounds d v).size = _; rw [Array.size_setIfInBounds, h.size], fun k ok t hk ht hx => ?_, fun t ht => ?_⟩
    · show (ag.tmps.setIfInBounds d v)[t]? = _
      by_cases hki : k = i
      · subst hki
        rw [hi] at hk; cases hk
        rw [hd] at ht; cases ht
        rw [upd_same]; simp [hs]
      · have htd : d ≠ t := fun hh => hki (hF.dist k i ok o t hk hi ht (by rw [hd, hh]))
        rw [upd_ne hki, Array.getElem?_setIfInBounds_ne htd]
        exact h.on k ok t hk ht (hx.resolve_right hki)
    · show (ag.tmps.setIfInBounds d v)[t]? = _
      have htd : d ≠ t := fun hh => ht i o hi (by rw [hd, hh]) (.inr rfl)
      rw [Array.getElem?_setIfInBounds_ne htd]
      exact h.off t fun k ok hk hdk hx => ht k ok hk hdk (.inl hx)

open Classical in
theorem AA.same (h : AA ops ag0 X val ag) (h' : AA ops ag0 Y val' ag') {t : Tmp} (ht : ∀ k o, ops[k]? = some o → o.dst = some t → (X k ↔ Y k) ∧ (X k → val k = val' k)) : ag.tmps[t]? = ag'.tmps[t]? := by
  by_cases hx : ∃ k o, ops[k]? = some o ∧ o.dst = some t ∧ X k
  · obtain ⟨k, o, h1, h2, h3⟩ := hx
    have h4 := ht k o h1 h2
    rw [h.on k o t h1 h2 h3, h'.on k o t h1 h2 (h4.1.1 h3), h4.2 h3]
  · rw [h.off t fun k o h1 h2 h3 => hx ⟨k, o, h1, h2, h3⟩, h'.off t fun k o h1 h2 h3 => hx ⟨k, o, h1, h2, (ht k o h1 h2).1.2 h3⟩]

/-- Those that j looks at are alike wherever what it waits for has been done, and it has not. -/
theorem AA.look (hF : Fit P M ops l fl) (h : AA ops ag0 X val ag) (h' : AA ops ag0 Y val' ag') (cX : ∀ k j, X k → Pr ops k j → X j) (cY : ∀ k j, Y k → Pr ops k j → Y j) {j : Nat} {oj : Oper} (hj : ops[j]? = some oj)
    (nX : ¬ X j) (nY : ¬ Y j) (pX : ∀ k, Pr ops j k → X k) (pY : ∀ k, Pr ops j k → Y k) (hv : ∀ k, Pr ops j k → val k = val' k) {t : Tmp} (ht : t ∈ lookL ops.toList oj) : ag.tmps[t]? = ag'.tmps[t]? := by
  refine h.same h' fun k o hk hd => ?_
  rcases Nat.lt_trichotomy k j with hlt | rfl | hgt
  · rcases hF.apart j k oj o hj hk hlt with hp | hp
    · exact ⟨⟨fun _ => pY k hp, fun _ => pX k hp⟩, fun _ => hv k hp⟩
    · exact absurd ht ((apartL_spec hp).1 t hd)
  · exact ⟨⟨fun h => absurd h nX, fun h => absurd h nY⟩, fun h => absurd h nX⟩
  · rcases hF.apart k j o oj hk hj hgt with hp | hp
    · exact ⟨⟨fun h => absurd (cX k j h hp) nX, fun h => absurd (cY k j h hp) nY⟩, fun h => absurd (cX k j h hp) nX⟩
    · exact absurd ht ((apartL_spec hp).2 t hd)

theorem eval_same {o : Oper} (h : ∀ t, t ∈ lookL ops.toList o → ag.tmps[t]? = ag'.tmps[t]?) : ∀ x ∈ o.op.operands, ag.eval x = ag'.eval x := by
  intro x hx
  cases x with
  | tmp t =>
    have : t ∈ lookL ops.toList o := List.mem_append_left _ (List.mem_filterMap.2 ⟨.tmp t, by simpa using hx, rfl⟩)
    show ag.tmps.getD t undef = ag'.tmps.getD t undef
    rw [Array.getD_eq_getD_getElem?, Array.getD_eq_getD_getElem?, h t this]
  | _ => rfl

theorem wanted_same {o : Oper} (h : ∀ t, t ∈ lookL ops.toList o → ag.tmps[t]? = ag'.tmps[t]?) : Region.wanted o (yielded ops ag.tmps) = Region.wanted o (yielded ops ag'.tmps) := by
  unfold Region.wanted
  cases hg : o.guard with
  | none => rfl
  | some p =>
    obtain ⟨j, b⟩ := p
    simp only
    have : yielded ops ag.tmps j = yielded ops ag'.tmps j := by
      unfold yielded
      cases hoj : ops[j]? with
      | none => rfl
      | some oj =>
        cases hd : oj.dst with
        | none => simp [hd]
        | some t =>
          have ht : t ∈ lookL ops.toList o := by
            refine List.mem_append_right _ ?_
            rw [hg]
            have : ops.toList[j]? = some oj := by simpa using hoj
            simp [this, hd]
          simp only [Option.bind_some, hd, h t ht]
    rw [this]
end
end Go.Ab
end
section
/-
  What the compiler has looked at.
-/
namespace Go.Ab
open Go.RowKit (Below)

section
variable {P : Program} {M : Nat} {ops : Array Oper} {l : List DStep} {fl : Nat}

theorem dsteps_spec {os : List Oper} : ∀ {rest : List Oper} {i0 : Nat} {l : List DStep}, dsteps P M os rest i0 = some l → l.length = rest.length ∧ ∀ (k : Nat) (o : Oper), rest[k]? = some o → ∃ st, cStep P M os o = some st ∧ l[k]? = some ({ i := i0 + k, pred := predM o, st := st } : DStep)
  | [], i0, l, e => by
    simp only [dsteps, Option.some.injEq] at e; subst e
    exact ⟨rfl, fun k o h => by simp at h⟩
  | o :: r, i0, l, e => by
    simp only [dsteps] at e
    split at e
    · rename_i s l' hs hl
      simp only [Option.some.injEq] at e; subst e
      obtain ⟨h1, h2⟩ := dsteps_spec hl
      refine ⟨by simp [h1], fun k o' hk => ?_⟩
      cases k with
      | zero =>
        simp only [List.getElem?_cons_zero, Option.some.injEq] at hk; subst hk
        exact ⟨s, hs, by simp⟩
      | succ k =>
        obtain ⟨st, h3, h4⟩ := h2 k o' (by simpa using hk)
        exact ⟨st, h3, by rw [List.getElem?_cons_succ, h4]; congr 2; omega⟩
    · cases e

theorem floats_aux : ∀ (l : List DStep) (m j : Nat), (l.foldl (fun m s => match isAl s.st && Nat.beq (s.pred &&& m) 0 with | true => m ||| 2 ^ s.i | false => m) m).testBit j = true → m.testBit j = true ∨ ∃ s ∈ l, s.i = j ∧ isAl s.st = true
  | [], m, j, h => .inl h
  | s :: l, m, j, h => by
    rw [List.foldl_cons] at h
    rcases floats_aux l _ j h with h1 | ⟨t, h1, h2, h3⟩
    · split at h1
      · rename_i hc
        rw [bit_add] at h1
        rcases h1 with h1 | h1
        · exact .inl h1
        · rw [Bool.and_eq_true] at hc
          exact .inr ⟨s, List.mem_cons_self .., h1.symm, hc.1⟩
      · exact .inl h1
    · exact .inr ⟨t, List.mem_cons_of_mem _ h1, h2, h3⟩

theorem zip_all {α : Type} {xs : List α} {f : α × Nat → Bool} (h : xs.zipIdx.all f = true) {i : Nat} {x : α} (hi : xs[i]? = some x) : f (x, i) = true :=
  List.all_eq_true.1 h (x, i) (List.mem_zipIdx_iff_getElem?.2 hi)

theorem fit_of (hl : dsteps P M ops.toList ops.toList 0 = some l) (h1 : fitOps ops.toList (floats l) = true) (h2 : distinctD ops.toList = true) (h3 : noSel ops.toList = true) : Fit P M ops l (floats l) := by
  obtain ⟨hlen, hst⟩ := dsteps_spec hl
  have toL : ∀ {i : Nat} {o : Oper}, ops[i]? = some o → ops.toList[i]? = some o := fun h => by simpa using h
  have ofL : ∀ {i : Nat} {o : Oper}, ops.toList[i]? = some o → ops[i]? = some o := fun h => by simpa using h
  have hlook : ∀ (i : Nat) (s : DStep), l[i]? = some s → ∃ o, ops[i]? = some o := fun i s h => by
    have hlt : i < l.length := by
      rcases Nat.lt_or_ge i l.length with h' | h'
      · exact h'
      · rw [List.getElem?_eq_none h'] at h; cases h
    rw [hlen] at hlt
    exact ⟨_, ofL (List.getElem?_eq_getElem hlt)⟩
  unfold fitOps at h1
  rw [Bool.and_eq_true] at h1
  obtain ⟨h1a, h1b⟩ := h1
  have hearly : ∀ (i j : Nat), Pr ops i j → j < i := fun i j ⟨o, ho, hp⟩ => by
    have := zip_all h1a (toL ho)
    simp only [Bool.and_eq_true] at this
    have hlt := Nat.blt_eq.mp this.1
    rcases Nat.lt_or_ge j i with h | h
    · exact h
    · rw [Nat.testBit_lt_two_pow (Nat.lt_of_lt_of_le hlt (Nat.pow_le_pow_right (by omega) h))] at hp; cases hp
  refine ⟨fun i o h => ?_, hlook, hearly, fun i j hfl ⟨o, ho, hp⟩ => ?_, fun i hfl => ?_, fun i j oi oj hi hj hlt => ?_, fun i j oi oj t hi hj hti htj => ?_, fun i o cs b ho hs => ?_⟩
  · obtain ⟨st, h4, h5⟩ := hst i o (toL h)
    exact ⟨st, h4, by rw [h5]; simp⟩
  · have := zip_all h1a (toL ho)
    simp only [Bool.and_eq_true, Bool.or_eq_true, Bool.not_eq_true'] at this
    rcases this.2 with h4 | h4
    · rw [hfl] at h4; cases h4
    · have h5 := Nat.eq_of_beq_eq_true h4
      have h6 : (predM o &&& floats l).testBit j = false := by rw [h5]; simp
      rw [Nat.testBit_and, hp] at h6
      simpa using h6
  · unfold floats at hfl
    rcases floats_aux l 0 i hfl with h4 | ⟨s, h4, h5, h6⟩
    · simp at h4
    · obtain ⟨k, hk⟩ := List.mem_iff_getElem?.1 h4
      obtain ⟨o, ho⟩ := hlook k s hk
      obtain ⟨st, _, h7⟩ := hst k o (toL ho)
      rw [hk] at h7
      simp only [Option.some.injEq] at h7
      have : s.i = k := by rw [h7]; simp
      refine ⟨s, ?_, h6⟩
      rw [← h5, this]; exact hk
  · have h4 := zip_all (zip_all h1b (toL hi)) (toL hj)
    simp only [Bool.or_eq_true, decide_eq_true_eq] at h4
    rcases h4 with (h4 | h4) | h4
    · omega
    · exact .inl ⟨oi, hi, h4⟩
    · exact .inr h4
  · have h4 := zip_all (zip_all h2 (toL hi)) (toL hj)
    simp only [Bool.or_eq_true, beq_iff_eq] at h4
    rcases h4 with h4 | h4
    · exact h4
    · rw [hti, htj] at h4
      simp at h4
  · have h4 := List.all_eq_true.1 h3 o (List.mem_of_getElem? (toL ho))
    rw [hs] at h4; cases h4

theorem cDraw_spec {plan : List DStep} (e : cDraw P M ops.toList = some plan) : ∃ l fl is, Fit P M ops l fl ∧ chkP l fl 0 is = true ∧ mapO (fun i => l[i]?) is = some plan := by
  unfold cDraw at e
  split at e
  · rename_i l hl
    simp only at e
    split at e
    · rename_i hfit
      simp only [Bool.and_eq_true] at hfit
      split at e
      · rename_i p hp
        split at e
        · rename_i hc
          exact ⟨l, floats l, p.map (·.i), fit_of hl hfit.1 hfit.2.1 hfit.2.2, hc, e⟩
        · cases e
      · cases e
    · cases e
  · cases e

/-! ### What the plan's checks say -/
structure ChkStep (ops : Array Oper) (l : List DStep) (fl L i : Nat) (s : DStep) : Prop where
  get : l[i]? = some s
  new : ¬ L.testBit i = true
  pred : ∀ j, s.pred.testBit j = true → L.testBit j = true
  flo : fl.testBit i = true → ∀ t ∈ l, fl.testBit t.i = false → ¬ L.testBit t.i = true → subM t.pred (L ||| upF fl L l) = true → t.pred.testBit i = true
  eff : fl.testBit i = false → isE s.st = true → ∀ t ∈ l, fl.testBit t.i = false → ¬ L.testBit t.i = true → subM t.pred (L ||| upF fl L l) = true → t.i = i

theorem chkP_cons {L i : Nat} {r : List Nat} (h : chkP l fl L (i :: r) = true) : ∃ s, ChkStep ops l fl L i s ∧ chkP l fl (L ||| 2 ^ i) r = true := by
  simp only [chkP] at h
  split at h
  · rename_i s hs
    simp only [Bool.and_eq_true, Bool.not_eq_true'] at h
    obtain ⟨h1, h2, h3, h4⟩ := h
    refine ⟨s, ⟨hs, by rw [h1]; simp, subM_iff.1 h2, fun hf t ht hft hLt hsub => ?_, fun hf hE t ht hft hLt hsub => ?_⟩, h4⟩
    · rw [hf] at h3
      have := List.all_eq_true.1 h3 t ht
      simp only [Bool.or_eq_true, Bool.not_eq_true'] at this
      rcases this with h | h | h | h
      · rw [hft] at h; cases h
      · exact absurd h hLt
      · rw [hsub] at h; cases h
      · exact h
    · rw [hf, hE] at h3
      have := List.all_eq_true.1 h3 t ht
      simp only [Bool.or_eq_true, Bool.not_eq_true'] at this
      rcases this with h | h | h | h
      · rw [hft] at h; cases h
      · exact absurd h hLt
      · exact Nat.eq_of_beq_eq_true h
      · rw [hsub] at h; cases h
  · cases h
theorem chkP_nil {L : Nat} (h : chkP l fl L [] = true) : ∀ t ∈ l, L.testBit t.i = true := List.all_eq_true.1 h
end
end Go.Ab
end
section
/-
  Blocks that are laid early, and told of late.
-/
namespace Go.Ab
open Go.RowKit (Below)

section
variable {P : Program} {N : Nat} {w0 : World} {G G' Gs : GM} {h h' hs : AHeap} {w w' ws : World} {a : AAct} {ag : Act} {M : Nat} {S : Self}

def Unowned (G : GM) (h : AHeap) (blk : Nat) : Prop := ∀ id x gi, h.objs.get id = some x → G id = some gi → gi.blk ≠ blk

/-- A block that was laid before is told of from now on. -/
theorem Rel.adopt (hR : Rel P N w0 G h w) (hE : Ext Gs hs ws G h w) {o : AObj} {ob : Obj} {gi : GI} (hb : w.heap[gi.blk]? = some ob) (hro : o.ro = false) (hN : N ≤ gi.blk) (hws : ws.heap.size ≤ gi.blk) (hun : Unowned G h gi.blk) (ho : OR P (addG G h.next gi) gi o ob) :
    Rel P N w0 (addG G h.next gi) (newA h o) w ∧ Ext Gs hs ws (addG G h.next gi) (newA h o) w := by
  have hle : GLe G (addG G h.next gi) := addG_le (hR.fresh _ (Nat.le_refl _))
  have hget : ∀ id, (newA h o).objs.get id = if id = h.next then some (h.next, o) else h.objs.get id := fun id => T.get_set _ _ _ _
  constructor
  · constructor
    · intro id ver o' e
      rw [hget] at e
      by_cases hi : id = h.next
      · rw [if_pos hi] at e; cases e; subst hi
        exact ⟨gi, addG_same, ob, hb, ho⟩
      · rw [if_neg hi] at e
        obtain ⟨gi', h1, ob', h2, h3⟩ := hR.obj id ver o' e
        exact ⟨gi', hle _ _ h1, ob', h2, h3.mono hle⟩
    · intro id id' x x' g g' e e' hr hg hg' hbb
      rw [hget] at e e'
      by_cases hi : id = h.next
      · by_cases hi' : id' = h.next
        · rw [hi, hi']
        · rw [if_neg hi'] at e'
          rw [addG_ne hi'] at hg'
          rw [hi, addG_same] at hg; cases hg
          exact absurd hbb.symm (hun id' x' g' e' hg')
      · rw [if_neg hi] at e
        rw [addG_ne hi] at hg
        by_cases hi' : id' = h.next
        · rw [hi', addG_same] at hg'; cases hg'
          exact absurd hbb (hun id x g e hg)
        · rw [if_neg hi'] at e'
          rw [addG_ne hi'] at hg'
          exact hR.inj id id' x x' g g' e e' hr hg hg' hbb
    · intro id ver o' g e hg hr
      rw [hget] at e
      by_cases hi : id = h.next
      · rw [hi, addG_same] at hg; cases hg; exact hN
      · rw [if_neg hi] at e; rw [addG_ne hi] at hg
        exact hR.own id ver o' g e hg hr
    · intro id hid
      have hid' : h.next + 1 ≤ id := hid
      rw [addG_ne (by omega)]
      exact hR.fresh id (by omega)
    · intro id ver o' e
      rw [hget] at e
      show ver < h.next + 1
      by_cases hi : id = h.next
      · rw [if_pos hi] at e; cases e; omega
      · rw [if_neg hi] at e
        have := hR.vers id ver o' e; omega
    · intro g hg
      obtain ⟨gi', h1, h2⟩ := hR.glob g hg
      exact ⟨gi', hle _ _ h1, h2⟩
    · show _ ≤ h.next + 1; have := hR.low; omega
    · exact hR.below
    · exact hR.size
    · intro id ver o' g e hg hr
      rw [hget] at e
      by_cases hi : id = h.next
      · rw [if_pos hi] at e; cases e; rw [hro] at hr; cases hr
      · rw [if_neg hi] at e; rw [addG_ne hi] at hg
        exact hR.rolow id ver o' g e hg hr
  · constructor
    · exact hE.gle.trans hle
    · show hs.next ≤ h.next + 1; have := hE.nle; omega
    · intro id ver o' e
      rw [hget] at e
      by_cases hi : id = h.next
      · rw [if_pos hi] at e; cases e; exact .inl hE.nle
      · rw [if_neg hi] at e; exact hE.same id ver o' e
    · exact hE.frame
    · intro id x g e hr hg
      rw [hget] at e
      by_cases hi : id = h.next
      · rw [hi, addG_same] at hg; cases hg; exact .inl hws
      · rw [if_neg hi] at e; rw [addG_ne hi] at hg
        exact hE.owned id x g e hr hg
    · exact hE.size

/-- What an operation of the machine's lays, whatever the world. -/
def FO (P : Program) (o : Oper) (ρ : Operand → Value) (obj : Obj) (vf : Nat → Value) : Prop := ∀ w, (execOp ρ o).run P w = .ok (.value (vf w.heap.size)) (w.alloc obj)

theorem FO.unique {o : Oper} {ρ : Operand → Value} {obj obj' : Obj} {vf vf' : Nat → Value} (h : FO P o ρ obj vf) (h' : FO P o ρ obj' vf') : obj = obj' ∧ ∀ b, vf b = vf' b := by
  have key : ∀ w : World, vf w.heap.size = vf' w.heap.size ∧ w.alloc obj = w.alloc obj' := fun w => by
    have := (h w).symm.trans (h' w)
    simp only [Result.ok.injEq, Next.value.injEq] at this
    exact this
  constructor
  · have h1 := (key default).2
    have h2 : ((default : World).alloc obj).heap[(default : World).heap.size]? = ((default : World).alloc obj').heap[(default : World).heap.size]? := by rw [h1]
    rw [heap_alloc_new, heap_alloc_new] at h2
    exact Option.some.inj h2
  · intro b
    have h1 := (key { (default : World) with heap := Array.replicate b (.pending #[] 0) }).1
    simpa using h1

def alE : EOp → Bool
  | .alloc _ _ => true
  | .box _ _ => true
  | .bslice _ _ _ _ _ => true
  | .bslice0 => true
  | .mkmap r => r.isNone
  | _ => false

/-- What IR's step says of a block that is laid early. -/
theorem float_ir (hl : ∀ g, g < P.globals.size → ∃ gi, G g = some gi ∧ gi.blk = g ∧ gi.off = 0) (ha : ActR P G M a ag) {o : Oper} {e : EOp} (hq : cE P o.op = some e) {st : Step} (hst : st.op = .e e) (hal : isAl st = true) {Q : AVal × AHeap → Prop} (hsat : (turnA a h e).sat Q) :
    ∃ obj vf v h', FO P o ag.eval obj vf ∧ Q (v, h') ∧ (∀ {w : World} (blk : Nat), Rel P N w0 G h w → Ext Gs hs ws G h w → w.heap[blk]? = some obj → N ≤ blk → ws.heap.size ≤ blk → Unowned G h blk →
      ∃ G', Rel P N w0 G' h' w ∧ Ext Gs hs ws G' h' w ∧ GLe G G' ∧ VR P G' v (vf blk) ∧ (∀ id x, h.objs.get id = some x → h'.objs.get id = some x) ∧ (∀ id x gi, h'.objs.get id = some x → G' id = some gi → gi.blk = blk ∨ (h.objs.get id = some x ∧ G id = some gi))) := by
  have hnotold : ∀ {w : World} {blk : Nat} {gi : GI} {o' : AObj} {ob : Obj}, gi.blk = blk → o'.ro = false → Rel P N w0 G h w → Ext Gs hs ws G h w → w.heap[blk]? = some ob → N ≤ blk → ws.heap.size ≤ blk → Unowned G h blk → OR P (addG G h.next gi) gi o' ob →
      Rel P N w0 (addG G h.next gi) (newA h o') w ∧ Ext Gs hs ws (addG G h.next gi) (newA h o') w ∧ GLe G (addG G h.next gi) ∧ (∀ id x, h.objs.get id = some x → (newA h o').objs.get id = some x) ∧ (∀ id x gi', (newA h o').objs.get id = some x → addG G h.next gi id = some gi' → gi'.blk = blk ∨ (h.objs.get id = some x ∧ G id = some gi')) := by
    intro w blk gi o' ob hb hro hR hE hob hN hws hun ho
    subst hb
    obtain ⟨h1, h2⟩ := hR.adopt hE hob hro hN hws hun ho
    refine ⟨h1, h2, addG_le (hR.fresh _ (Nat.le_refl _)), fun id x hx => ?_, fun id x gi' hx hg => ?_⟩
    · show (h.objs.set h.next _).get id = _
      rw [T.get_set]
      have : id ≠ h.next := fun hh => by
        obtain ⟨g, hg, _⟩ := hR.obj id x.1 x.2 hx
        rw [hh, hR.fresh _ (Nat.le_refl _)] at hg; cases hg
      rw [if_neg this]; exact hx
    · by_cases hi : id = h.next
      · rw [hi, addG_same] at hg; cases hg; exact .inl rfl
      · rw [addG_ne hi] at hg
        have hx' : (h.objs.set h.next (some (h.next, o'))).get id = some x := hx
        rw [T.get_set, if_neg hi] at hx'
        exact .inr ⟨hx', hg⟩
  have cellsCase : ∀ {vs : List AVal} {c : Array Value} {el : TypeId} {n : Option Nat} , VsR P G vs c.toList → (∀ m, n = some m → m * P.cellsOf el ≤ c.size) → ∀ {w : World} (blk : Nat), Rel P N w0 G h w → Ext Gs hs ws G h w → w.heap[blk]? = some (.cells c el) → N ≤ blk → ws.heap.size ≤ blk → Unowned G h blk →
      ∃ G', Rel P N w0 G' (newA h (.cells false el vs)) w ∧ Ext Gs hs ws G' (newA h (.cells false el vs)) w ∧ GLe G G' ∧ VR P G' (match n with | none => .ptr (some (h.next, 0)) | some m => .slice (some (h.next, 0)) m) (match n with | none => Value.pointer (some ⟨blk, 0, none⟩) | some m => .slice (some ⟨blk, 0, none⟩) m m) ∧
        (∀ id x, h.objs.get id = some x → (newA h (.cells false el vs)).objs.get id = some x) ∧ (∀ id x gi, (newA h (.cells false el vs)).objs.get id = some x → G' id = some gi → gi.blk = blk ∨ (h.objs.get id = some x ∧ G id = some gi)) := by
    intro vs c el n hvs hn w blk hR hE hob hN hws hun
    obtain ⟨h1, h2⟩ := hvs.whole
    have hle : GLe G (addG G h.next ⟨blk, c.size, el, 0⟩) := addG_le (hR.fresh _ (Nat.le_refl _))
    obtain ⟨h3, h4, h5, h6, h7⟩ := hnotold (gi := ⟨blk, c.size, el, 0⟩) (o' := .cells false el vs) rfl rfl hR hE hob hN hws hun ⟨c, el, (0, 0), rfl, fun _ => ⟨rfl, rfl, rfl, rfl⟩, by simp, rfl, Nat.le_of_eq h2, by rw [List.drop_zero]; exact h1.mono hle⟩
    refine ⟨_, h3, h4, h5, ?_, h6, h7⟩
    cases n with
    | none => exact ⟨_, addG_same, rfl⟩
    | some m => exact ⟨_, m, addG_same, rfl, Nat.le_refl _, by simpa using hn m rfl⟩
  have ev1 : ∀ {x : Operand} {x' : AOpd} {v : AVal}, cOpd P x = some x' → ev a x' = some v → VR P G v (ag.eval x) := fun h1 h2 => ev_sound hl ha h1 h2
  have halE : alE e = true := by
    unfold isAl at hal
    rw [hst] at hal
    split at hal <;> first | cases hal; done | (rename_i heq _; injection heq with heq; subst heq; rfl)
  cases hop : o.op with
  | alloc t =>
    rw [hop] at hq
    simp only [cE] at hq
    split at hq
    · rename_i z hz
      simp only [Option.some.injEq] at hq; subst hq
      obtain ⟨Z, hZ, hzr⟩ := cZero_sound (P := P) (G := G) hz
      refine ⟨.cells Z.cells t, fun b => .pointer (some ⟨b, 0, none⟩), _, _, fun w => ?_, hsat, fun blk hR hE hob hN hws hun => cellsCase (n := none) hZ.cells (fun m hm => by cases hm) blk hR hE hob hN hws hun⟩
      unfold execOp; rw [hop]; simp [Instr.alloc, hzr, run_newVar']
    · cases hq
  | box t x =>
    rw [hop] at hq
    simp only [cE] at hq
    split at hq
    · rename_i x' hx
      simp only [Option.some.injEq] at hq; subst hq
      simp only [turnA] at hsat
      split at hsat
      · rename_i v hv
        refine ⟨.cells (ag.eval x).cells t, fun b => .pointer (some ⟨b, 0, none⟩), _, _, fun w => ?_, hsat, fun blk hR hE hob hN hws hun => cellsCase (n := none) (ev1 hx hv).cells (fun m hm => by cases hm) blk hR hE hob hN hws hun⟩
        unfold execOp; rw [hop]; simp [Instr.box, run_newVar']
      · cases hsat
    · cases hq
  | buildSlice t n ps =>
    rw [hop] at hq
    simp only [cE] at hq
    split at hq
    · cases hq
    · rename_i e' he
      split at hq
      · cases hq
      · rename_i s hsz
        split at hq
        · rename_i hn0 hps
          split at hq
          · rename_i hn
            subst hn
            simp only [Option.some.injEq] at hq; subst hq
            have hu := cElem_spec he
            have hp0 : ps = #[] := by apply Array.ext'; simpa using hps
            subst hp0
            have hz : (Array.map (fun _ => (default : Value)) (Array.range 0)) = #[] := by apply Array.ext'; simp
            refine ⟨.cells #[] e', fun b => .slice (some ⟨b, 0, none⟩) 0 0, _, _, fun w => ?_, hsat, fun {w} blk hR hE hob hN hws hun => ⟨G, hR, hE, GLe.refl G, ⟨_, rfl⟩, fun _ _ hx => hx, fun _ _ _ hx hg => .inr ⟨hx, hg⟩⟩⟩
            unfold execOp; rw [hop]
            simp [Instr.buildSlice, run_underlying hu, run_sizeOf_c hsz, Instr.fill, run_newRow, hz]
          · cases hq
        · cases hq
        · rename_i hn0 hn1
          split at hq
          · rename_i z ps' hz hps
            split at hq
            · rename_i hc
              simp only [Option.some.injEq] at hq; subst hq
              simp only [turnA] at hsat
              split at hsat
              · rename_i cs hcs
                obtain ⟨i, Z, hi, hZ, hzr⟩ := cZero_info (G := G) hz
                have hZc := hzr.cells
                have hZl : Z.cells.size = s := by have := hZc.length; simp at this; omega
                have hA : ((Array.range (n * s)).map (Z.cells[· % Z.cells.size]!)).toList = rep Z.cells.toList n := row_rep _ _ _ (by rw [hZl])
                obtain ⟨L', h1, h2⟩ := rowA_sound hl ha hps hcs (L := (Array.range (n * s)).map (Z.cells[· % Z.cells.size]!)) (by rw [hA]; exact VsR.rep n hZc)
                have hbig : ¬ (n * s > 2 ^ 24) := by omega
                have his : i.size = s := by
                  obtain ⟨i', h3, h4⟩ := cSize_some hsz
                  rw [hi] at h3; cases h3; exact h4
                have hcl : cs.length = n * s := by
                  have := rowA_len hcs
                  rw [rep_length] at this
                  rw [this, hc.2]
                obtain ⟨_, h6⟩ := h2.whole
                refine ⟨.cells L' e', fun b => .slice (some ⟨b, 0, none⟩) n n, _, _, fun w => ?_, hsat, fun blk hR hE hob hN hws hun => cellsCase (n := some n) h2 (fun m hm => by cases hm; rw [cellsOf_c hsz, ← h6, hcl]; exact Nat.le_refl _) blk hR hE hob hN hws hun⟩
                have hrun := Go.run_buildSlice (P := P) w t e' n (ps.map fun (i, x) => (i, ag.eval x)) L' i Z (cElem_spec he) hi hZ (by rw [his]; exact hbig) (by rw [his]; exact hn0) (by
                  rw [his, Array.toList_map]; exact h1)
                unfold execOp; rw [hop]
                simp only [Sem.run_bind, hrun]
                rfl
              · cases hsat
            · cases hq
          · cases hq
  | makeMap t r =>
    rw [hop] at hq
    simp only [cE] at hq
    split at hq
    · rename_i k v r' hu hr
      simp only [Option.some.injEq] at hq; subst hq
      cases r with
      | none =>
        simp only [cOpt, Option.some.injEq] at hr; subst hr
        refine ⟨.map #[] 0, fun b => .map (some b), _, _, fun w => ?_, hsat, fun blk hR hE hob hN hws hun => ?_⟩
        · unfold execOp; rw [hop]; simp [Instr.makeMap]
        · obtain ⟨h3, h4, h5, h6, h7⟩ := hnotold (gi := ⟨blk, 0, 0, 0⟩) (o' := .map [] 0) rfl rfl hR hE hob hN hws hun ⟨#[], rfl, rfl⟩
          exact ⟨_, h3, h4, h5, ⟨_, addG_same, rfl⟩, h6, h7⟩
      | some x =>
        simp only [cOpt] at hr
        split at hr
        · simp only [Option.some.injEq] at hr
          rw [← hr] at halE
          simp [alE] at halE
        · cases hr
    · cases hq
  | next it isS =>
    exfalso
    rw [hop] at hq
    cases isS with
    | true => cases hq
    | false =>
      simp only [cE] at hq
      split at hq
      · simp only [Option.some.injEq] at hq; subst hq; simp [alE] at halE
      · cases hq
  | _ =>
    exfalso
    rw [hop] at hq
    simp only [cE] at hq
    first
      | (cases hq; done)
      | (repeat' split at hq) <;> first | (cases hq; done) | (simp only [Option.some.injEq] at hq; subst hq; simp [alE] at halE)
end
end Go.Ab
end
section
/-
  A block that is laid early is laid: looking ahead.
-/
namespace Go.Ab
open Go.RowKit (Below)

section
variable {P : Program} {N : Nat} {w0 : World} {G G' Gs : GM} {h h' hs : AHeap} {w w' ws : World} {a a' : AAct} {ag : Act} {M : Nat} {S : Self} {ops : Array Oper} {l : List DStep} {fl : Nat}

def AgreeA (ops : Array Oper) (o : Oper) (a a' : AAct) : Prop := ∀ t, t ∈ lookL ops.toList o → a.tmps.get t = a'.tmps.get t

theorem look_of {o : Oper} {x : Operand} (hx : x ∈ o.op.operands) : ∀ t, x = .tmp t → t ∈ lookL ops.toList o := fun t ht => by
  subst ht
  exact List.mem_append_left _ (List.mem_filterMap.2 ⟨.tmp t, by simpa using hx, rfl⟩)

theorem ev_agree {x : Operand} {x' : AOpd} (hc : cOpd P x = some x') (h : ∀ t, x = .tmp t → a.tmps.get t = a'.tmps.get t) : ev a x' = ev a' x' := by
  cases x with
  | tmp t => simp only [cOpd, Option.some.injEq] at hc; subst hc; exact h t rfl
  | const c => simp only [cOpd] at hc; split at hc <;> first | cases hc; done | (simp only [Option.some.injEq] at hc; subst hc; rfl)
  | global g => simp only [cOpd] at hc; split at hc <;> first | cases hc; done | (simp only [Option.some.injEq] at hc; subst hc; rfl)
  | func f => simp only [cOpd, Option.some.injEq] at hc; subst hc; rfl

theorem rowA_agree {size : Nat} : ∀ {ps : List (Nat × Operand)} {ps' : List (Nat × AOpd)} {cells : List AVal}, mapO (fun p => match cOpd P p.2 with | some x => some (p.1, x) | none => none) ps = some ps' → (∀ p ∈ ps, ∀ t, p.2 = .tmp t → a.tmps.get t = a'.tmps.get t) →
    rowA a size cells ps' = rowA a' size cells ps'
  | [], ps', cells, hm, _ => by simp only [mapO, Option.some.injEq] at hm; subst hm; rfl
  | p :: ps, ps', cells, hm, hp => by
    obtain ⟨y, zs, h1, h2, rfl⟩ := mapO_cons hm
    split at h1
    · rename_i x hx
      simp only [Option.some.injEq] at h1; subst h1
      simp only [rowA, ev_agree hx (hp p (List.mem_cons_self ..))]
      split
      · rfl
      · split
        · exact rowA_agree h2 fun q hq => hp q (List.mem_cons_of_mem _ hq)
        · rfl
    · cases h1

theorem turnA_agree {o : Oper} {e : EOp} (hq : cE P o.op = some e) (hal : alE e = true) (hag : AgreeA ops o a a') {Q : AVal × AHeap → Prop} (hs : (turnA a' h' e).sat Q) : (turnA a h e).sat fun _ => True := by
  cases hop : o.op with
  | alloc t => rw [hop] at hq; simp only [cE] at hq; split at hq <;> first | cases hq; done | (simp only [Option.some.injEq] at hq; subst hq; trivial)
  | box t x =>
    rw [hop] at hq; simp only [cE] at hq
    split at hq
    · rename_i x' hx
      simp only [Option.some.injEq] at hq; subst hq
      have := ev_agree (P := P) (a := a) (a' := a') hx fun t ht => hag t (look_of (by rw [hop]; simp [Op.operands]) t ht)
      simp only [turnA] at hs ⊢
      rw [this]
      split at hs
      · trivial
      · cases hs
    · cases hq
  | buildSlice t n ps =>
    rw [hop] at hq; simp only [cE] at hq
    split at hq
    · cases hq
    · split at hq
      · cases hq
      · split at hq
        · split at hq
          · simp only [Option.some.injEq] at hq; subst hq; trivial
          · cases hq
        · cases hq
        · split at hq
          · rename_i z ps' hz hps
            split at hq
            · simp only [Option.some.injEq] at hq; subst hq
              simp only [turnA] at hs ⊢
              rw [rowA_agree (a := a) (a' := a') hps fun p hp t ht => hag t (look_of (x := p.2) (by rw [hop]; simp only [Op.operands]; rw [List.mem_toArray]; exact List.mem_map.2 ⟨p, by simpa using hp, rfl⟩) t ht)]
              split at hs
              · trivial
              · cases hs
            · cases hq
          · cases hq
  | makeMap t r =>
    rw [hop] at hq; simp only [cE] at hq
    split at hq
    · rename_i k v r' hu hr
      simp only [Option.some.injEq] at hq; subst hq
      cases r with
      | none => simp only [cOpt, Option.some.injEq] at hr; subst hr; trivial
      | some x =>
        simp only [cOpt] at hr
        split at hr
        · simp only [Option.some.injEq] at hr; subst hr; simp [alE] at hal
        · cases hr
    · cases hq
  | next it isS =>
    exfalso
    rw [hop] at hq
    cases isS with
    | true => cases hq
    | false =>
      simp only [cE] at hq
      split at hq
      · simp only [Option.some.injEq] at hq; subst hq; simp [alE] at hal
      · cases hq
  | _ =>
    exfalso
    rw [hop] at hq
    simp only [cE] at hq
    first
      | (cases hq; done)
      | (repeat' split at hq) <;> first | (cases hq; done) | (simp only [Option.some.injEq] at hq; subst hq; simp [alE] at hal)

/-! ### What a step of the small language leaves of the temporaries -/
theorem putA_get {d : Option Tmp} {v : AVal} {t : Tmp} (ht : d ≠ some t) : (putA a d v).tmps.get t = a.tmps.get t := by
  cases d with
  | none => rfl
  | some d =>
    show (a.tmps.set d (some v)).get t = _
    rw [T.get_set_ne]
    exact fun hh => ht (by rw [hh])

theorem eA_keeps {ro : Option Nat} {d : Option Tmp} {e : EOp} {R : AAct × AHeap → Prop} (hs : (eA S ro a h d e).sat R) : ∃ p, R p ∧ ∀ t, d ≠ some t → p.1.tmps.get t = a.tmps.get t := by
  unfold eA at hs
  split at hs
  · split at hs
    · rw [D.sat_bind] at hs
      obtain ⟨q, hq⟩ := D.sat_ex hs
      exact ⟨_, hq, fun t ht => putA_get ht⟩
    · cases hs
  · split at hs
    · exact ⟨_, hs, fun t ht => putA_get ht⟩
    · cases hs
  · rw [D.sat_bind] at hs
    obtain ⟨q, hq⟩ := D.sat_ex hs
    exact ⟨_, hq, fun t ht => putA_get ht⟩

theorem eA_al {ro : Option Nat} {d : Option Tmp} {e : EOp} (hal : alE e = true) : eA S ro a h d e = (turnA a h e).bind fun p => .ret (putA a d p.1, p.2) := by
  cases e <;> first | rfl | (cases hal; done)

/-- One step of a plan, some outcome of it. -/
theorem draw_step {ro : Option Nat} {s : DStep} {r : List DStep} {held : List Held} {Q : AAct × AHeap → Prop} (hs : (drawA S ro (s :: r) held a h).sat Q) :
    ∃ a1 h1 held1, (drawA S ro r held1 a1 h1).sat Q ∧ ∀ t, s.st.dst ≠ some t → a1.tmps.get t = a.tmps.get t := by
  simp only [drawA] at hs
  split at hs
  · split at hs
    · split at hs
      · exact ⟨_, _, _, hs, fun t ht => putA_get ht⟩
      · split at hs
        · exact ⟨_, _, _, hs, fun t ht => putA_get ht⟩
        · cases hs
      · cases hs
    · rw [D.sat_bind] at hs
      obtain ⟨p, hp, hk⟩ := eA_keeps hs
      split at hp
      · exact ⟨p.1, p.2, _, hp, hk⟩
      · cases hp
  · exact ⟨_, _, _, hs, fun t ht => putA_get ht⟩
  · cases hs

theorem ahead (hF : Fit P M ops l fl) {ro : Option Nat} {Q : AAct × AHeap → Prop} {f : Nat} {o : Oper} {s : DStep} {e : EOp} (ho : ops[f]? = some o) (hsf : l[f]? = some s) (hse : s.st.op = .e e) (hsg : s.st.guard = none) (hal : alE e = true) :
    ∀ {is : List Nat} {L : Nat} {plan : List DStep} {held : List Held} {a : AAct} {h : AHeap}, chkP l fl L is = true → mapO (fun i => l[i]?) is = some plan → (drawA S ro plan held a h).sat Q → ¬ L.testBit f = true → (∀ j, Pr ops f j → L.testBit j = true) →
      ∃ a' h', AgreeA ops o a a' ∧ (turnA a' h' e).sat fun _ => True
  | [], L, plan, held, a, h, hc, hm, hs, hn, hp => by
    have hsi : s.i = f := by
      obtain ⟨o', ho'⟩ := hF.lookup f s hsf
      obtain ⟨st, _, h2⟩ := hF.step f o' ho'
      rw [hsf] at h2
      simp only [Option.some.injEq] at h2
      rw [h2]
    exact absurd (hsi ▸ chkP_nil hc s (List.mem_of_getElem? hsf)) hn
  | i :: is, L, plan, held, a, h, hc, hm, hs, hn, hp => by
    obtain ⟨s', hck, hc'⟩ := chkP_cons (ops := ops) hc
    obtain ⟨y, zs, h1, h2, rfl⟩ := mapO_cons hm
    have hy : y = s' := Option.some.inj (h1.symm.trans hck.get)
    subst hy
    by_cases hif : i = f
    · subst hif
      rw [hsf] at h1; cases h1
      simp only [drawA, hsg, wantA, hse] at hs
      rw [eA_al hal, D.sat_bind, D.sat_bind] at hs
      exact ⟨a, h, fun _ _ => rfl, D.sat_mono hs fun _ _ => trivial⟩
    · obtain ⟨a1, h1', held1, hs1, hk⟩ := draw_step hs
      obtain ⟨oi, hoi⟩ := hF.lookup i y h1
      obtain ⟨st, hst, hli⟩ := hF.step i oi hoi
      rw [h1] at hli
      simp only [Option.some.injEq] at hli
      obtain ⟨a', h', hag, ht⟩ := ahead hF ho hsf hse hsg hal hc' h2 hs1 (fun hh => by
        rw [bit_add] at hh
        rcases hh with hh | hh
        · exact hn hh
        · exact hif hh.symm) (fun j hj => by rw [bit_add]; exact .inl (hp j hj))
      refine ⟨a', h', fun t ht => ?_, ht⟩
      rw [← hag t ht, hk t ?_]
      intro hd
      have hdst : oi.dst = some t := by
        have := (cDst_spec (cStep_spec hst).1).1
        rw [hli] at hd
        rw [← this]; exact hd
      -- i is not among those that f waits for, and f is not among those that i waits for
      rcases Nat.lt_trichotomy i f with hlt | heq | hgt
      · rcases hF.apart f i o oi ho hoi hlt with hpr | hap
        · exact hck.new (hp i hpr)
        · exact (apartL_spec hap).1 t hdst ht
      · exact hif heq
      · rcases hF.apart i f oi o hoi ho hgt with hpr | hap
        · obtain ⟨oi', hoi', hbit⟩ := hpr
          rw [hoi] at hoi'; cases hoi'
          exact hn (hck.pred f (by rw [hli]; exact hbit))
        · exact (apartL_spec hap).2 t hdst ht
end
end Go.Ab
end
section
/-
  Drawn regions: what is held at every point, whatever the order.
-/
namespace Go.Ab
open Go.RowKit (Below)

section
variable (P : Program) (N : Nat) (ops : Array Oper) (ag0 : Act)

/-- A quiet operation that the small language has done and the machine has not. -/
def Pend (L : Nat) (held : List Held) (h : AHeap) (G : GM) (w : World) (val : Nat → Value) (k : Nat) : Prop :=
  ∃ (o : Oper) (Lk : Nat → Prop) (valk : Nat → Value) (agk : Act), ops[k]? = some o ∧ AA ops ag0 Lk valk agk ∧ (∀ i j, Lk i → Pr ops i j → Lk j) ∧ (∀ j, Pr ops k j → Lk j) ∧ ¬ Lk k ∧ (∀ j, Lk j → L.testBit j = true) ∧ (∀ j, Lk j → val j = valk j) ∧
   ((Region.wanted o (yielded ops agk.tmps) = false ∧ val k = undef) ∨
    (Region.wanted o (yielded ops agk.tmps) = true ∧ (∀ c, o.op ≠ .defer c) ∧ ∃ id, (∀ w', Look G id w w' → (execOp agk.eval o).run P w' = .ok (.value (val k)) w') ∧ ∀ b, id = some b → ∃ ver ob, h.objs.get b = some (ver, ob) ∧ (⟨k, b, ver⟩ : Held) ∈ held))

/-- A block that the machine has laid and the small language has not. -/
def Frec (ws : World) (C : Nat → Prop) (h : AHeap) (G : GM) (w : World) (val : Nat → Value) (fb : Nat → Nat) (k : Nat) : Prop :=
  ∃ (o : Oper) (Ck : Nat → Prop) (valk : Nat → Value) (agk : Act) (obj : Obj) (vf : Nat → Value), ops[k]? = some o ∧ AA ops ag0 Ck valk agk ∧ (∀ i j, Ck i → Pr ops i j → Ck j) ∧ (∀ j, Pr ops k j → Ck j) ∧ ¬ Ck k ∧ (∀ j, Ck j → C j) ∧ (∀ j, Ck j → val j = valk j) ∧
    FO P o agk.eval obj vf ∧ val k = vf (fb k) ∧ w.heap[fb k]? = some obj ∧ N ≤ fb k ∧ ws.heap.size ≤ fb k ∧ Unowned G h (fb k)
end

structure Inv (P : Program) (N : Nat) (w0 : World) (S : Self) (ro : Option Nat) (ops : Array Oper) (l : List DStep) (fl M : Nat) (ag0 : Act) (Gs : GM) (hs : AHeap) (ws : World) (Q : AAct × AHeap → Prop)
    (C : Nat → Prop) (L : Nat) (is : List Nat) (held : List Held) (a : AAct) (h : AHeap) (G : GM) (ag : Act) (w : World) (val : Nat → Value) (agp : Act) (fb : Nat → Nat) : Prop where
  sat : ∃ plan, mapO (fun i => l[i]?) is = some plan ∧ (drawA S ro plan held a h).sat Q
  chk : chkP l fl L is = true
  rel : Rel P N w0 G h w
  ext : Ext Gs hs ws G h w
  act : ActR P G M a agp
  aaL : AA ops ag0 (fun k => L.testBit k = true) val agp
  aaC : AA ops ag0 C val ag
  defs : ag.defers = agp.defers
  clC : ∀ k j, C k → Pr ops k j → C j
  clL : ∀ k j, L.testBit k = true → Pr ops k j → L.testBit j = true
  eff : ∀ k s, L.testBit k = true → ¬ C k → l[k]? = some s → isE s.st = false
  flo : ∀ k, C k → ¬ L.testBit k = true → fl.testBit k = true
  pend : ∀ k, L.testBit k = true → ¬ C k → Pend P ops ag0 L held h G w val k
  frec : ∀ k, C k → ¬ L.testBit k = true → Frec P N ops ag0 ws C h G w val fb k
  fdis : ∀ k k', C k → ¬ L.testBit k = true → C k' → ¬ L.testBit k' = true → fb k = fb k' → k = k'

section
variable {P : Program} {N : Nat} {w0 : World} {S : Self} {ro rv : Option Nat} {ops : Array Oper} {l : List DStep} {fl M : Nat} {ag0 : Act} {Gs : GM} {hs : AHeap} {ws : World} {Q : AAct × AHeap → Prop}
  {C : Nat → Prop} {L : Nat} {is : List Nat} {held : List Held} {a : AAct} {h : AHeap} {G : GM} {ag : Act} {w : World} {val : Nat → Value} {agp : Act} {fb : Nat → Nat}

theorem AA.defers {X : Nat → Prop} (hh : AA ops ag0 X val ag) (ds : List Deferred) : AA ops ag0 X val { ag with defers := ds } := ⟨hh.size, hh.on, hh.off⟩

theorem isAl_isE {st : Step} (hh : isAl st = true) : isE st = true ∧ st.guard = none ∧ ∃ e, st.op = .e e ∧ alE e = true := by
  unfold isAl at hh
  split at hh
  all_goals first
    | (rename_i h1 h2; exact ⟨by unfold isE; rw [h1], h2, _, h1, rfl⟩)
    | cases hh

theorem FO.congr {o : Oper} {ρ ρ' : Operand → Value} {obj : Obj} {vf : Nat → Value} (hs : ∀ cs b, o.op ≠ .select cs b) (he : ∀ x ∈ o.op.operands, ρ x = ρ' x) (hf : FO P o ρ obj vf) : FO P o ρ' obj vf := fun w => by
  rw [← execOp_congr o hs he]; exact hf w

theorem Fit.getI (hF : Fit P M ops l fl) {i : Nat} {s : DStep} (hi : l[i]? = some s) : ∃ o st, ops[i]? = some o ∧ cStep P M ops.toList o = some st ∧ s = { i := i, pred := predM o, st := st } := by
  obtain ⟨o, ho⟩ := hF.lookup i s hi
  obtain ⟨st, h1, h2⟩ := hF.step i o ho
  rw [hi] at h2
  exact ⟨o, st, ho, h1, Option.some.inj h2⟩

theorem Pend.step {L' : Nat} {held' : List Held} {h' : AHeap} {G' : GM} {w' : World} {val' : Nat → Value} {k : Nat} (hp : Pend P ops ag0 L held h G w val k) (hL : ∀ j, L.testBit j = true → L'.testBit j = true) (hv : ∀ j, L.testBit j = true → val' j = val j) (hk : val' k = val k)
    (hl : ∀ b ver ob, h.objs.get b = some (ver, ob) → (⟨k, b, ver⟩ : Held) ∈ held → (∃ ob', h'.objs.get b = some (ver, ob') ∧ (⟨k, b, ver⟩ : Held) ∈ held') ∧ ∀ w2, Look G' (some b) w' w2 → Look G (some b) w w2) : Pend P ops ag0 L' held' h' G' w' val' k := by
  obtain ⟨o, Lk, valk, agk, h1, h2, h3, h4, h5, h6, h7, h8⟩ := hp
  refine ⟨o, Lk, valk, agk, h1, h2, h3, h4, h5, fun j hj => hL j (h6 j hj), fun j hj => by rw [hv j (h6 j hj)]; exact h7 j hj, ?_⟩
  rcases h8 with ⟨h9, h10⟩ | ⟨h9, h10, id, h11, h12⟩
  · exact .inl ⟨h9, by rw [hk]; exact h10⟩
  · refine .inr ⟨h9, h10, id, fun w2 hlook => ?_, fun b hb => ?_⟩
    · rw [hk]
      refine h11 w2 ?_
      cases id with
      | none => intro b hb; cases hb
      | some b =>
        obtain ⟨ver, ob, h13, h14⟩ := h12 b rfl
        exact (hl b ver ob h13 h14).2 w2 hlook
    · obtain ⟨ver, ob, h13, h14⟩ := h12 b hb
      obtain ⟨⟨ob', h15, h16⟩, _⟩ := hl b ver ob h13 h14
      exact ⟨ver, ob', h15, h16⟩

theorem Frec.step {C' : Nat → Prop} {h' : AHeap} {G' : GM} {w' : World} {val' : Nat → Value} {fb' : Nat → Nat} {k : Nat} (hp : Frec P N ops ag0 ws C h G w val fb k) (hC : ∀ j, C j → C' j) (hv : ∀ j, C j → val' j = val j) (hk : val' k = val k) (hfb : fb' k = fb k)
    (hw : w'.heap[fb k]? = w.heap[fb k]?) (hu : Unowned G' h' (fb k)) : Frec P N ops ag0 ws C' h' G' w' val' fb' k := by
  obtain ⟨o, Ck, valk, agk, obj, vf, h1, h2, h3, h4, h5, h6, h7, h8, h9, h10, h11, h12, h13⟩ := hp
  exact ⟨o, Ck, valk, agk, obj, vf, h1, h2, h3, h4, h5, fun j hj => hC j (h6 j hj), fun j hj => by rw [hv j (h6 j hj)]; exact h7 j hj, h8, by rw [hk, hfb]; exact h9, by rw [hfb, hw]; exact h10, by rw [hfb]; exact h11, by rw [hfb]; exact h12, by rw [hfb]; exact hu⟩

/-- The small language does a quiet operation. -/
theorem Inv.quiet (hF : Fit P M ops l fl) (hsz : M ≤ ag0.tmps.size) {i : Nat} (hI : Inv P N w0 S ro ops l fl M ag0 Gs hs ws Q C L (i :: is) held a h G ag w val agp fb) {s : DStep} (hsl : l[i]? = some s) (hq : isE s.st = false) :
    ∃ held' a' val' agp', Inv P N w0 S ro ops l fl M ag0 Gs hs ws Q C (L ||| 2 ^ i) is held' a' h G ag w val' agp' fb := by
  obtain ⟨plan, hm, hsat⟩ := hI.sat
  obtain ⟨y, zs, h1, h2, rfl⟩ := mapO_cons hm
  rw [hsl] at h1; cases h1
  obtain ⟨s', hck, hchk⟩ := chkP_cons (ops := ops) hI.chk
  have : s' = s := Option.some.inj (hck.get.symm.trans hsl)
  subst this
  obtain ⟨o, st, ho, hcs, rfl⟩ := hF.getI hsl
  obtain ⟨hdst, hgd, hop⟩ := cStep_spec hcs
  have hlt : ∀ t, o.dst = some t → t < ag0.tmps.size := fun t ht => Nat.lt_of_lt_of_le ((cDst_spec hdst).2 t ht) hsz
  have hnC : ¬ C i := fun hc => by
    have hf := hI.flo i hc hck.new
    obtain ⟨s2, h3, h4⟩ := hF.floatS i hf
    rw [hsl] at h3; cases h3
    rw [(isAl_isE h4).1] at hq; cases hq
  have hpr : ∀ j, Pr ops i j → L.testBit j = true := fun j ⟨o', ho', hb⟩ => by
    rw [ho] at ho'; cases ho'
    exact hck.pred j hb
  -- what all the ways have in common
  have fin : ∀ (held' : List Held) (v : AVal) (cv : Value), VR P G v cv → (drawA S ro zs held' (putA a st.dst v) h).sat Q → (∀ e, e ∈ held → e ∈ held') →
      ((Region.wanted o (yielded ops agp.tmps) = false ∧ cv = undef) ∨ (Region.wanted o (yielded ops agp.tmps) = true ∧ (∀ c, o.op ≠ .defer c) ∧ ∃ id, (∀ w', Look G id w w' → (execOp agp.eval o).run P w' = .ok (.value cv) w') ∧ ∀ b, id = some b → ∃ ver ob, h.objs.get b = some (ver, ob) ∧ (⟨i, b, ver⟩ : Held) ∈ held')) →
      ∃ held' a' val' agp', Inv P N w0 S ro ops l fl M ag0 Gs hs ws Q C (L ||| 2 ^ i) is held' a' h G ag w val' agp' fb := by
    intro held' v cv hv hs' hheld hpend
    have hval : ∀ j, L.testBit j = true → upd val i cv j = val j := fun j hj => upd_ne fun hh => hck.new (hh ▸ hj)
    have hvalC : ∀ j, C j → upd val i cv j = val j := fun j hj => upd_ne fun hh => hnC (hh ▸ hj)
    refine ⟨held', putA a st.dst v, upd val i cv, agp.put o.dst cv, ⟨⟨zs, h2, hs'⟩, hchk, hI.rel, hI.ext, hI.act.put hdst hv, ?_, ?_, ?_, hI.clC, ?_, ?_, ?_, ?_, ?_, ?_⟩⟩
    · refine (hI.aaL.put hF ho hlt hck.new cv).congr (fun k => ?_) (fun _ _ => rfl)
      rw [bit_add]
    · exact hI.aaC.congr (fun _ => Iff.rfl) fun k hk => (hvalC k hk).symm
    · have : (agp.put o.dst cv).defers = agp.defers := by cases o.dst <;> rfl
      rw [this]; exact hI.defs
    · intro k j hk hp
      rw [bit_add] at hk ⊢
      rcases hk with hk | rfl
      · exact .inl (hI.clL k j hk hp)
      · exact .inl (hpr j hp)
    · intro k s2 hk hc hs2
      rw [bit_add] at hk
      rcases hk with hk | rfl
      · exact hI.eff k s2 hk hc hs2
      · rw [hsl] at hs2; cases hs2; exact hq
    · intro k hc hk
      exact hI.flo k hc fun hh => hk (bit_add.2 (.inl hh))
    · intro k hk hc
      by_cases hki : k = i
      · subst hki
        refine ⟨o, fun j => L.testBit j = true, val, agp, ho, hI.aaL, hI.clL, hpr, hck.new, fun j hj => bit_add.2 (.inl hj), hval, ?_⟩
        rw [upd_same]; exact hpend
      · rw [bit_add] at hk
        have hk' := hk.resolve_right hki
        refine (hI.pend k hk' hc).step (fun j hj => bit_add.2 (.inl hj)) hval (upd_ne hki) fun b ver ob hb hm => ⟨⟨ob, hb, hheld _ hm⟩, fun _ hl => hl⟩
    · intro k hc hk
      have hk' : ¬ L.testBit k = true := fun hh => hk (bit_add.2 (.inl hh))
      have hki : k ≠ i := fun hh => hnC (hh ▸ hc)
      obtain ⟨o', Ck, valk, agk, obj, vf, h5, h6, h7, h8, h9, h10, h11, h12, h13, h14, h15, h16, h17⟩ := hI.frec k hc hk'
      exact ⟨o', Ck, valk, agk, obj, vf, h5, h6, h7, h8, h9, h10, fun j hj => by rw [hvalC j (h10 j hj)]; exact h11 j hj, h12, by rw [upd_ne hki]; exact h13, h14, h15, h16, h17⟩
    · intro k k' hc hk hc' hk' he
      exact hI.fdis k k' hc (fun hh => hk (bit_add.2 (.inl hh))) hc' (fun hh => hk' (bit_add.2 (.inl hh))) he
  simp only [drawA] at hsat
  split at hsat
  · rename_i hw
    have hwant := want_sound hI.act hgd hw
    split at hsat
    · rename_i q hqq
      have hcq : cQ P o.op = some q := by
        rw [hop] at hqq
        unfold cOp at hqq
        split at hqq
        · rename_i q' hq'; injection hqq with hqq; subst hqq; exact hq'
        · split at hqq
          · cases hqq
          · injection hqq with hqq; subst hqq
            simp only [qA] at hsat; cases hsat
      have hnd : ∀ c, o.op ≠ .defer c := fun c hc => by rw [hc, cQ_defer] at hcq; cases hcq
      split at hsat
      · rename_i v hv
        obtain ⟨cv, h3, h4⟩ := qA_sound hI.rel hI.act hcq hv
        exact fin held v cv h3 hsat (fun _ hh => hh) (.inr ⟨hwant, hnd, none, fun w' hl => h4 o rfl w' hl, fun b hb => by cases hb⟩)
      · rename_i v id hv
        obtain ⟨cv, h3, h4⟩ := qA_sound hI.rel hI.act hcq hv
        split at hsat
        · rename_i ver ob hob
          exact fin _ v cv h3 hsat (fun _ hh => List.mem_cons_of_mem _ hh) (.inr ⟨hwant, hnd, some id, fun w' hl => h4 o rfl w' hl, fun b hb => by cases hb; exact ⟨ver, ob, hob, List.mem_cons_self ..⟩⟩)
        · cases hsat
      · cases hsat
    · rename_i e he
      unfold isE at hq
      simp only at hq
      rw [he] at hq; cases hq
  · rename_i hw
    exact fin held (.tuple []) undef ⟨#[], rfl, rfl⟩ hsat (fun _ hh => hh) (.inl ⟨want_sound hI.act hgd hw, rfl⟩)
  · cases hsat
end
end Go.Ab
end
