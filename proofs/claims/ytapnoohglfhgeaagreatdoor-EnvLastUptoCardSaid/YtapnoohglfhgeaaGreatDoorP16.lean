import Derived.Test.YtapnoohglfhgeaaGreatDoorP15
/-
  Part 16 of the proof.
-/
set_option linter.all false
section
/-
  Which nodes are one in the least graph: the plain law of it.
-/
namespace Go.Ab.S
open Go.Ab
set_option maxHeartbeats 1000000
/-! ### Texts taken apart -/
theorem split_eq (p : Nat → Bool) : ∀ {a b r s : List Nat}, (∀ x ∈ a, p x = true) → (∀ x ∈ b, p x = true) → (∀ x, r.head? = some x → p x = false) → (∀ x, s.head? = some x → p x = false) → a ++ r = b ++ s → a = b ∧ r = s
  | [], [], _, _, _, _, _, _, h => ⟨rfl, h⟩
  | [], y :: b, r, s, _, hb, hr, _, h => by
    have h : r = y :: (b ++ s) := h
    have := hr y (by rw [h]; rfl)
    rw [hb y (by simp)] at this; cases this
  | x :: a, [], r, s, ha, _, _, hs, h => by
    have h : x :: (a ++ r) = s := h
    have := hs x (by rw [← h]; rfl)
    rw [ha x (by simp)] at this; cases this
  | x :: a, y :: b, r, s, ha, hb, hr, hs, h => by
    simp only [List.cons_append, List.cons.injEq] at h
    obtain ⟨h1, h2⟩ := split_eq p (fun z hz => ha z (by simp [hz])) (fun z hz => hb z (by simp [hz])) hr hs h.2
    exact ⟨by rw [h.1, h1], h2⟩
def isDig (c : Nat) : Bool := Nat.ble 48 c && Nat.ble c 57
theorem dig_is {n c : Nat} (h : c ∈ digN n) : isDig c = true := by
  have := digF_dig 19 n c h
  simp only [isDig, Bool.and_eq_true]
  exact ⟨Nat.ble_eq_true_of_le this.1, Nat.ble_eq_true_of_le this.2⟩
theorem digF_inj : ∀ (f n m : Nat), n < 10 ^ (f + 1) → m < 10 ^ (f + 1) → digF f n = digF f m → n = m
  | 0, n, m, hn, hm, h => by simp only [digF, List.cons.injEq, and_true] at h; omega
  | f + 1, n, m, hn, hm, h => by
    rw [Nat.pow_succ] at hn hm
    rw [digF, digF] at h
    split at h <;> split at h
    · simp only [List.cons.injEq, and_true] at h; omega
    · have := congrArg List.length h
      have h0 := digF_ne f (m / 10)
      have h1 : (digF f (m / 10)).length ≠ 0 := fun e => h0 (List.length_eq_zero_iff.1 e)
      rw [List.length_append] at this
      simp only [List.length_singleton] at this
      omega
    · have := congrArg List.length h
      have h0 := digF_ne f (n / 10)
      have h1 : (digF f (n / 10)).length ≠ 0 := fun e => h0 (List.length_eq_zero_iff.1 e)
      rw [List.length_append] at this
      simp only [List.length_singleton] at this
      omega
    · have h2 := List.append_inj' h rfl
      have := digF_inj f (n / 10) (m / 10) (by omega) (by omega) h2.1
      simp only [List.cons.injEq, and_true] at h2
      omega
theorem digN_inj {n m : Nat} (hn : n < 2 ^ 60) (hm : m < 2 ^ 60) (h : digN n = digN m) : n = m := by
  have e : (2 : Nat) ^ 60 ≤ 10 ^ (19 + 1) := by decide
  exact digF_inj 19 n m (by omega) (by omega) h
/-- A class's number. -/
def InR (x : Int) : Prop := 0 ≤ x ∧ x < 2 ^ 60
theorem itoa_dig {x : Int} (h : InR x) : ∀ c ∈ itoaN x, isDig c = true := by
  unfold itoaN
  rw [if_neg (by have := h.1; omega)]
  intro c hc; exact dig_is hc
theorem itoa_inj {x y : Int} (hx : InR x) (hy : InR y) (h : itoaN x = itoaN y) : x = y := by
  unfold itoaN at h
  rw [if_neg (by have := hx.1; omega), if_neg (by have := hy.1; omega)] at h
  have h1 := hx.1; have h2 := hx.2; have h3 := hy.1; have h4 := hy.2
  have := digN_inj (by omega) (by omega) h
  omega
theorem eqL_iff : ∀ {a b : List Nat}, eqL a b = true ↔ a = b
  | [], [] => by simp [eqL]
  | [], _ :: _ => by simp [eqL]
  | _ :: _, [] => by simp [eqL]
  | x :: a, y :: b => by
    rw [eqL]
    cases h : Nat.beq x y with
    | true =>
      have := Nat.eq_of_beq_eq_true h
      subst this
      simp [eqL_iff (a := a) (b := b)]
    | false =>
      have : x ≠ y := by rintro rfl; rw [Nat.beq_refl] at h; cases h
      simp [this]
theorem eqLL_iff : ∀ {a b : List (List Nat)}, eqLL a b = true ↔ a = b
  | [], [] => by simp [eqLL]
  | [], _ :: _ => by simp [eqLL]
  | _ :: _, [] => by simp [eqLL]
  | x :: a, y :: b => by simp [eqLL, eqL_iff, eqLL_iff (a := a) (b := b)]
theorem eqII_iff : ∀ {a b : List Int}, eqII a b = true ↔ a = b
  | [], [] => by simp [eqII]
  | [], _ :: _ => by simp [eqII]
  | _ :: _, [] => by simp [eqII]
  | x :: a, y :: b => by simp [eqII, eqII_iff (a := a) (b := b)]
/-- Letters of names: none that stands between. -/
theorem wordG_goes : ∀ (s : List Nat) (i : Nat), wordG i s = i + s.length → ∀ c ∈ s, goesF c false = true
  | [], _, _ => by intro c hc; cases hc
  | x :: s, i, h => by
    rw [wordG] at h
    split at h
    · rename_i hg
      intro c hc
      rcases List.mem_cons.1 hc with rfl | hc
      · revert hg; simp only [goesF]
        cases (i == 0) <;> simp <;> omega
      · exact wordG_goes s (i + 1) (by rw [h]; simp only [List.length_cons]; omega) c hc
    · simp only [List.length_cons] at h; omega
theorem name_goes {s : List Nat} (h : isNameF s = true) : ∀ c ∈ s, 48 ≤ c ∧ c ≤ 122 ∧ c ≠ 58 := by
  simp only [isNameF, Bool.and_eq_true, beq_iff_eq] at h
  intro c hc
  have := wordG_goes s 0 (by rw [Nat.zero_add]; exact h.1.2) c hc
  simp only [goesF, Bool.or_eq_true, Bool.and_eq_true, decide_eq_true_eq, beq_iff_eq] at this
  omega
theorem ris_names : ∀ {l : List (List Nat)} {p : Option (List Nat)}, risG p l = true → ∀ s ∈ l, isNameF s = true
  | [], _, _ => by intro s hs; cases hs
  | x :: l, p, h => by
    simp only [risG, Bool.and_eq_true] at h
    intro s hs
    rcases List.mem_cons.1 hs with rfl | hs
    · exact h.1.1
    · exact ris_names h.2 s hs
theorem lab_inj : ∀ {a b : List (List Nat)}, (∀ s ∈ a, ∀ c ∈ s, c ≠ 32) → (∀ s ∈ b, ∀ c ∈ s, c ≠ 32) → labS a = labS b → a = b
  | [], [], _, _, _ => rfl
  | [], y :: b, _, _, h => by simp [labS] at h
  | x :: a, [], _, _, h => by simp [labS] at h
  | x :: a, y :: b, ha, hb, h => by
    simp only [labS, List.map_cons, List.flatten_cons, List.cons_append, List.cons.injEq, true_and] at h
    have hh : ∀ (l : List (List Nat)) z, ((l.map fun x => 32 :: x).flatten).head? = some z → (z != 32) = false := by
      intro l z hz
      cases l with
      | nil => simp at hz
      | cons w l => simp at hz; simp [← hz]
    obtain ⟨h1, h2⟩ := split_eq (fun c => c != 32) (fun c hc => by simpa using ha x (by simp) c hc) (fun c hc => by simpa using hb y (by simp) c hc) (hh a) (hh b) h
    rw [h1, lab_inj (fun s hs => ha s (by simp [hs])) (fun s hs => hb s (by simp [hs])) h2]
theorem arg_inj {f g : Int → Int} : ∀ {a b : List Int}, (∀ x ∈ a, InR (f x)) → (∀ x ∈ b, InR (g x)) → argS f a = argS g b → a.map f = b.map g
  | [], [], _, _, _ => rfl
  | [], y :: b, _, _, h => by simp [argS] at h
  | x :: a, [], _, _, h => by simp [argS] at h
  | x :: a, y :: b, ha, hb, h => by
    simp only [argS, List.map_cons, List.flatten_cons, List.cons_append, List.cons.injEq, true_and] at h
    have hh : ∀ (k : Int → Int) (l : List Int) z, ((l.map fun a => 44 :: itoaN (k a)).flatten).head? = some z → isDig z = false := by
      intro k l z hz
      cases l with
      | nil => simp at hz
      | cons w l => simp at hz; rw [← hz]; rfl
    obtain ⟨h1, h2⟩ := split_eq isDig (itoa_dig (ha x (by simp))) (itoa_dig (hb y (by simp))) (hh f a) (hh g b) h
    rw [List.map_cons, List.map_cons, itoa_inj (ha x (by simp)) (hb y (by simp)) h1, arg_inj (fun z hz => ha z (by simp [hz])) (fun z hz => hb z (by simp [hz])) h2]

/-! ### How a node is told -/
def cfreeF (n : Node) : Bool := n.kind == 1 || n.isOpen
def clAt (cl : List Int) (a : Int) : Int := cl.getD a.toNat 0
/-- What a node is known by. -/
def keyS (cl : List Int) (i : Nat) (n : Node) : List Nat := itoaN (clAt cl i) ++ [58] ++ (if cfreeF n then 35 :: itoaN i else []) ++ lookS n (clAt cl)
theorem may_kind {n : Node} {N : Int} (h : mayF n N = true) : (n.kind = 1 ∧ n.labels = [] ∧ n.isOpen = false ∧ n.name = [] ∧ n.args = []) ∨ (n.kind = 2 ∧ n.labels = [] ∧ n.isOpen = false ∧ arIs n.name = true ∧ n.args.length = arK n.name) ∨ (n.kind = 3 ∧ n.name = [] ∧ n.labels.length = n.args.length ∧ risingF n.labels = true) := by
  unfold mayF at h
  split at h
  · cases h
  split at h
  · rename_i h1
    simp only [Bool.and_eq_true, beq_iff_eq, Bool.not_eq_true', eqL_iff, List.length_eq_zero_iff] at h h1
    exact .inl ⟨h1, h.1.1.1, h.1.1.2, h.1.2, h.2⟩
  split at h
  · rename_i h1
    simp only [Bool.and_eq_true, beq_iff_eq, Bool.not_eq_true', eqL_iff, List.length_eq_zero_iff] at h h1
    exact .inr (.inl ⟨h1, h.1.1.1, h.1.1.2, h.1.2, h.2⟩)
  split at h
  · rename_i h1
    simp only [Bool.and_eq_true, beq_iff_eq, eqL_iff] at h h1
    exact .inr (.inr ⟨h1, h.1.1, h.1.2, h.2⟩)
  · cases h
theorem ar_names {s : List Nat} (h : arIs s = true) : ∀ c ∈ s, c ≠ 44 := by
  simp only [arIs, Bool.or_eq_true, eqL_iff] at h
  rcases h with ((((h | h) | h) | h) | h) | h <;> subst h <;> decide
theorem key_inj {cl : List Int} {i j : Nat} {n m : Node} {N : Int} (hcl : ∀ a, InR (clAt cl a)) (hi : InR i) (hj : InR j) (hn : mayF n N = true) (hm : mayF m N = true) (h : keyS cl i n = keyS cl j m) :
    clAt cl i = clAt cl j ∧ ((cfreeF n = true ∨ cfreeF m = true) → i = j) ∧ n.kind = m.kind ∧ n.name = m.name ∧ n.labels = m.labels ∧ n.args.map (clAt cl) = m.args.map (clAt cl) ∧ cfreeF n = cfreeF m := by
  unfold keyS at h
  simp only [List.append_assoc, List.singleton_append] at h
  obtain ⟨h1, h2⟩ := split_eq isDig (itoa_dig (hcl _)) (itoa_dig (hcl _)) (by intro x hx; simp at hx; rw [← hx]; rfl) (by intro x hx; simp at hx; rw [← hx]; rfl) h
  have e1 := itoa_inj (hcl _) (hcl _) h1
  replace h2 := List.append_cancel_left (as := [58]) h2
  simp only [List.append_eq] at h2
  have hd : ∀ {n : Node}, mayF n N = true → ∃ d : Nat, d ∈ [49, 50, 51] ∧ ∃ r, lookS n (clAt cl) = d :: r ∧ n.kind = (d : Int) - 48 ∧ r = n.name ++ labS n.labels ++ argS (clAt cl) n.args := by
    intro n hn
    rcases may_kind hn with ⟨hk, _⟩ | ⟨hk, _⟩ | ⟨hk, _⟩
    · exact ⟨49, by simp, _, by simp only [lookS, headS, hk]; rfl, by rw [hk]; rfl, rfl⟩
    · exact ⟨50, by simp, _, by simp only [lookS, headS, hk]; rfl, by rw [hk]; rfl, rfl⟩
    · exact ⟨51, by simp, _, by simp only [lookS, headS, hk]; rfl, by rw [hk]; rfl, rfl⟩
  have hr : ∀ {n : Node}, mayF n N = true → cfreeF n = true → ∀ x, (n.name ++ labS n.labels ++ argS (clAt cl) n.args).head? = some x → isDig x = false := by
    intro n hn hf x hx
    rcases may_kind hn with ⟨hk, k1, k2, k3, k4⟩ | ⟨hk, k1, k2, k3, k4⟩ | ⟨hk, k1, k2, k3⟩
    · rw [k1, k3, k4] at hx; simp [labS, argS] at hx
    · simp [cfreeF, hk, k2] at hf
    · rw [k1, List.nil_append] at hx
      cases hl : n.labels with
      | nil =>
        rw [hl] at hx
        cases ha : n.args with
        | nil => rw [ha] at hx; simp [labS, argS] at hx
        | cons a r => rw [ha] at hx; simp [labS, argS] at hx; rw [← hx]; rfl
      | cons s r => rw [hl] at hx; simp [labS] at hx; rw [← hx]; rfl
  obtain ⟨d, hd1, r, hd2, hd3, hd4⟩ := hd hn
  obtain ⟨d', hd1', r', hd2', hd3', hd4'⟩ := hd hm
  rw [hd2, hd2'] at h2
  have key : d :: r = d' :: r' ∧ (cfreeF n = true ∨ cfreeF m = true → i = j) ∧ cfreeF n = cfreeF m := by
    cases hfn : cfreeF n <;> cases hfm : cfreeF m <;> rw [hfn, hfm] at h2
    · simp only [Bool.false_eq_true, if_false, List.nil_append] at h2
      exact ⟨h2, by simp, rfl⟩
    · simp only [Bool.false_eq_true, if_false, if_true, List.nil_append, List.cons_append, List.cons.injEq] at h2
      have := h2.1; revert hd1; subst this; simp
    · simp only [Bool.false_eq_true, if_false, if_true, List.nil_append, List.cons_append, List.cons.injEq] at h2
      have := h2.1; revert hd1'; subst this; simp
    · simp only [if_true, List.cons_append, List.cons.injEq, true_and] at h2
      have hdig : ∀ d, d ∈ ([49, 50, 51] : List Nat) → isDig d = true := by decide
      rw [hd4, hd4'] at h2
      obtain ⟨h3, h4⟩ := split_eq isDig (a := itoaN i ++ [d]) (b := itoaN j ++ [d']) (fun x hx => by
          rcases List.mem_append.1 hx with hx | hx
          · exact itoa_dig hi x hx
          · simp only [List.mem_singleton] at hx; subst hx; exact hdig _ hd1) (fun x hx => by
          rcases List.mem_append.1 hx with hx | hx
          · exact itoa_dig hj x hx
          · simp only [List.mem_singleton] at hx; subst hx; exact hdig _ hd1') (hr hn hfn) (hr hm hfm) (by simpa using h2)
      obtain ⟨h5, h6⟩ := List.append_inj' h3 rfl
      have := itoa_inj hi hj h5
      simp only [List.cons.injEq, and_true] at h6
      rw [hd4, hd4', h4, h6]
      exact ⟨rfl, fun _ => by omega, rfl⟩
  obtain ⟨k1, k2, k3⟩ := key
  simp only [List.cons.injEq] at k1
  have hkind : n.kind = m.kind := by rw [hd3, hd3', k1.1]
  have hrest := k1.2
  rw [hd4, hd4'] at hrest
  have hno : ∀ {n : Node}, mayF n N = true → (∀ c ∈ n.name ++ labS n.labels, (c != 44) = true) ∧ (∀ s ∈ n.labels, ∀ c ∈ s, c ≠ 32) := by
    intro n hn
    have hlab : risingF n.labels = true → (∀ c ∈ labS n.labels, c ≠ 44) ∧ (∀ s ∈ n.labels, ∀ c ∈ s, c ≠ 32) := by
      intro hri
      have hnm := ris_names (p := none) hri
      refine ⟨fun c hc => ?_, fun s hs c hc => ?_⟩
      · simp only [labS, List.mem_flatten, List.mem_map] at hc
        obtain ⟨_, ⟨s, hs, rfl⟩, hc⟩ := hc
        rcases List.mem_cons.1 hc with rfl | hc
        · decide
        · have := name_goes (hnm s hs) c hc; omega
      · have := name_goes (hnm s hs) c hc; omega
    rcases may_kind hn with ⟨hk, k1, k2, k3, k4⟩ | ⟨hk, k1, k2, k3, k4⟩ | ⟨hk, k1, k2, k3⟩
    · rw [k1, k3]; exact ⟨fun c hc => by simp [labS] at hc, fun s hs => by cases hs⟩
    · rw [k1]
      refine ⟨fun c hc => ?_, fun s hs => by cases hs⟩
      simp [labS] at hc
      simpa using ar_names k3 c hc
    · rw [k1, List.nil_append]
      obtain ⟨h1, h2⟩ := hlab k3
      exact ⟨fun c hc => by simpa using h1 c hc, h2⟩
  have hh : ∀ (l : List Int) z, (argS (clAt cl) l).head? = some z → (z != 44) = false := by
    intro l z hz
    cases l with
    | nil => simp [argS] at hz
    | cons w l => simp [argS] at hz; simp [← hz]
  obtain ⟨h5, h6⟩ := split_eq (fun c => c != 44) (hno hn).1 (hno hm).1 (hh _) (hh _) hrest
  have hargs := arg_inj (fun x _ => hcl x) (fun x _ => hcl x) h6
  have hnl : n.name = m.name ∧ n.labels = m.labels := by
    rcases may_kind hn with ⟨hk, q1, _, q3, _⟩ | ⟨hk, q1, _⟩ | ⟨hk, q1, _⟩
    · rcases may_kind hm with ⟨hk', q1', _, q3', _⟩ | ⟨hk', _⟩ | ⟨hk', _⟩
      · rw [q1, q1', q3, q3']; exact ⟨rfl, rfl⟩
      · omega
      · omega
    · rcases may_kind hm with ⟨hk', _⟩ | ⟨hk', q1', _⟩ | ⟨hk', _⟩
      · omega
      · rw [q1, q1']
        rw [q1, q1'] at h5
        simp [labS] at h5
        exact ⟨h5, rfl⟩
      · omega
    · rcases may_kind hm with ⟨hk', _⟩ | ⟨hk', _⟩ | ⟨hk', q1', _⟩
      · omega
      · omega
      · rw [q1, q1'] at h5 ⊢
        exact ⟨rfl, lab_inj (hno hn).2 (hno hm).2 (by simpa using h5)⟩
  exact ⟨e1, k2, hkind, hnl.1, hnl.2, hargs, k3⟩
end Go.Ab.S
end
section
/-
  Classes that stay, and those that must be one.
-/
namespace Go.Ab.S
open Go.Ab
set_option maxHeartbeats 1000000
def firstIx (k : List Nat) : List (List Nat) → Nat
  | [] => 0
  | x :: r => if eqL k x then 0 else firstIx k r + 1
theorem firstIx_spec {k : List Nat} : ∀ {l : List (List Nat)}, k ∈ l → l[firstIx k l]? = some k ∧ ∀ j, j < firstIx k l → l[j]? ≠ some k
  | [], h => by cases h
  | x :: r, h => by
    rw [firstIx]
    by_cases hk : k = x
    · rw [if_pos (eqL_iff.2 hk)]
      exact ⟨by rw [hk]; rfl, fun j hj => by omega⟩
    · rw [if_neg (by rw [eqL_iff]; exact hk)]
      have hr : k ∈ r := by
        rcases List.mem_cons.1 h with h | h
        · exact absurd h hk
        · exact h
      obtain ⟨h1, h2⟩ := firstIx_spec hr
      refine ⟨by simpa using h1, fun j hj => ?_⟩
      cases j with
      | zero => simp; exact fun e => hk e.symm
      | succ j => simpa using h2 j (by omega)
theorem firstIx_le {k : List Nat} {l : List (List Nat)} {i : Nat} (h : l[i]? = some k) : firstIx k l ≤ i := by
  rcases Nat.lt_or_ge i (firstIx k l) with hlt | hge
  · exact absurd h ((firstIx_spec (List.mem_of_getElem? h)).2 i hlt)
  · exact hge
def keysF (ns : List Node) (cl : List Int) : List (List Nat) := (List.range ns.length).map fun i => keyS cl i (ns.getD i dNode)
def refineF (ns : List Node) (cl : List Int) : List Int := (keysF ns cl).map fun k => (firstIx k (keysF ns cl) : Int)
def classesG (ns : List Node) : Nat → List Int → List Int
  | 0, cl => cl
  | m + 1, cl => if eqII (refineF ns cl) cl then refineF ns cl else classesG ns m (refineF ns cl)
def classesF (g : Graph) : List Int := classesG g.nodes (g.nodes.length + 1) (List.replicate g.nodes.length 0)
def mapN (cl : List Int) (n : Node) : Node := { n with args := n.args.map (clAt cl) }
def leastF (g : Graph) : Graph := if checkF g = 0 then trimF ⟨g.nodes.map (mapN (classesF g)), clAt (classesF g) g.root⟩ else ⟨[], 0⟩

theorem keysF_len (ns : List Node) (cl : List Int) : (keysF ns cl).length = ns.length := by simp [keysF]
theorem keysF_get {ns : List Node} {cl : List Int} {i : Nat} (h : i < ns.length) : (keysF ns cl)[i]? = some (keyS cl i (ns.getD i dNode)) := by
  simp [keysF, h]
theorem refineF_len (ns : List Node) (cl : List Int) : (refineF ns cl).length = ns.length := by simp [refineF, keysF_len]
theorem clAt_nat (cl : List Int) (i : Nat) : clAt cl (i : Int) = cl.getD i 0 := rfl
theorem refineF_at {ns : List Node} {cl : List Int} {i : Nat} (h : i < ns.length) : clAt (refineF ns cl) (i : Int) = (firstIx (keyS cl i (ns.getD i dNode)) (keysF ns cl) : Int) := by
  rw [clAt_nat, List.getD, refineF, List.getElem?_map, keysF_get h]; rfl
/-- Each class is told by its least node. -/
structure ClsOK (N : Nat) (cl : List Int) : Prop where
  len : cl.length = N
  le : ∀ i : Nat, i < N → ∃ j : Nat, clAt cl i = j ∧ j ≤ i ∧ clAt cl j = j
theorem clAt_out {cl : List Int} {a : Int} (h : (cl.length : Int) ≤ a) : clAt cl a = 0 := by
  unfold clAt; rw [List.getD, List.getElem?_eq_none (by omega)]; rfl
theorem ClsOK.inR {N : Nat} {cl : List Int} (k : ClsOK N cl) (hN : N < 2 ^ 60) (a : Int) : InR (clAt cl a) := by
  by_cases h : a.toNat < N
  · obtain ⟨j, h1, h2, _⟩ := k.le a.toNat h
    have : clAt cl a = j := h1
    rw [this]; exact ⟨by omega, by omega⟩
  · have : clAt cl a = 0 := by unfold clAt; rw [List.getD, List.getElem?_eq_none (by rw [k.len]; omega)]; rfl
    rw [this]; exact ⟨by decide, by decide⟩
theorem ClsOK.zero (N : Nat) : ClsOK N (List.replicate N 0) := by
  refine ⟨by simp, fun i hi => ⟨0, ?_, by omega, ?_⟩⟩
  · rw [clAt_nat, List.getD, List.getElem?_replicate, if_pos hi]; rfl
  · rw [clAt_nat, List.getD, List.getElem?_replicate]; split <;> rfl
theorem refine_eq {ns : List Node} {cl : List Int} {i j : Nat} (hi : i < ns.length) (hj : j < ns.length) : clAt (refineF ns cl) i = clAt (refineF ns cl) j ↔ keyS cl i (ns.getD i dNode) = keyS cl j (ns.getD j dNode) := by
  rw [refineF_at hi, refineF_at hj]
  have mi := List.mem_of_getElem? (keysF_get (cl := cl) hi)
  have mj := List.mem_of_getElem? (keysF_get (cl := cl) hj)
  constructor
  · intro h
    have h : firstIx (keyS cl i (ns.getD i dNode)) (keysF ns cl) = firstIx (keyS cl j (ns.getD j dNode)) (keysF ns cl) := by omega
    have h1 := (firstIx_spec mi).1
    rw [h, (firstIx_spec mj).1] at h1
    exact (Option.some.inj h1).symm
  · intro h; rw [h]
theorem refine_le {ns : List Node} {cl : List Int} {i : Nat} (hi : i < ns.length) : ∃ j : Nat, clAt (refineF ns cl) i = j ∧ j ≤ i ∧ keyS cl j (ns.getD j dNode) = keyS cl i (ns.getD i dNode) := by
  have mi := List.mem_of_getElem? (keysF_get (cl := cl) hi)
  have hle := firstIx_le (keysF_get (cl := cl) hi)
  refine ⟨_, refineF_at hi, hle, ?_⟩
  have h1 := (firstIx_spec mi).1
  rw [keysF_get (by omega)] at h1
  exact Option.some.inj h1
theorem ClsOK.refine (ns : List Node) (cl : List Int) : ClsOK ns.length (refineF ns cl) := by
  refine ⟨refineF_len _ _, fun i hi => ?_⟩
  obtain ⟨j, h1, h2, h3⟩ := refine_le (cl := cl) hi
  exact ⟨j, h1, h2, by rw [(refine_eq (i := j) (by omega) hi).2 h3]; exact h1⟩

/-! ### They get more -/
theorem countP_lt {α : Type} {p q : α → Bool} : ∀ {l : List α}, (∀ x ∈ l, p x = true → q x = true) → (∃ x ∈ l, p x = false ∧ q x = true) → l.countP p < l.countP q
  | [], _, h => by obtain ⟨x, hx, _⟩ := h; cases hx
  | y :: l, h, hx => by
    have hle : l.countP p ≤ l.countP q := List.countP_mono_left fun x hx => h x (by simp [hx])
    obtain ⟨x, hx, h1, h2⟩ := hx
    rcases List.mem_cons.1 hx with rfl | hx
    · simp only [List.countP_cons, h1, h2]; simp; omega
    · have ih := countP_lt (l := l) (fun x hx => h x (by simp [hx])) ⟨x, hx, h1, h2⟩
      simp only [List.countP_cons]
      have := h y (by simp)
      cases hp : p y <;> cases hq : q y <;> simp <;> first | omega | (rw [this hp] at hq; cases hq)
def fixc (N : Nat) (cl : List Int) : Nat := (List.range N).countP fun i : Nat => clAt cl (i : Int) == (i : Int)
theorem fixc_le (N : Nat) (cl : List Int) : fixc N cl ≤ N := by
  have := List.countP_le_length (p := fun i : Nat => clAt cl i == (i : Int)) (l := List.range N)
  rwa [List.length_range] at this
/-- What is known of the nodes. -/
def NsOK (ns : List Node) : Prop := ns.length < 2 ^ 60 ∧ ∀ n ∈ ns, mayF n ns.length = true
theorem NsOK.at {ns : List Node} (h : NsOK ns) {i : Nat} (hi : i < ns.length) : mayF (ns.getD i dNode) ns.length = true := by
  rw [List.getD, List.getElem?_eq_getElem hi]; exact h.2 _ (List.getElem_mem hi)
theorem key_cl {ns : List Node} (hns : NsOK ns) {cl : List Int} (k : ClsOK ns.length cl) {i j : Nat} (hi : i < ns.length) (hj : j < ns.length) (h : keyS cl i (ns.getD i dNode) = keyS cl j (ns.getD j dNode)) :
    clAt cl i = clAt cl j ∧ ((cfreeF (ns.getD i dNode) = true ∨ cfreeF (ns.getD j dNode) = true) → i = j) ∧ (ns.getD i dNode).kind = (ns.getD j dNode).kind ∧ (ns.getD i dNode).name = (ns.getD j dNode).name ∧ (ns.getD i dNode).labels = (ns.getD j dNode).labels ∧ (ns.getD i dNode).args.map (clAt cl) = (ns.getD j dNode).args.map (clAt cl) ∧ cfreeF (ns.getD i dNode) = cfreeF (ns.getD j dNode) :=
  key_inj (k.inR hns.1) ⟨by omega, by have := hns.1; omega⟩ ⟨by omega, by have := hns.1; omega⟩ (hns.at hi) (hns.at hj) h
theorem refine_more {ns : List Node} (hns : NsOK ns) {cl : List Int} (k : ClsOK ns.length cl) (hne : eqII (refineF ns cl) cl = false) : fixc ns.length cl < fixc ns.length (refineF ns cl) := by
  refine countP_lt (fun i hi hp => ?_) ?_
  · have hi := List.mem_range.1 hi
    have hp : clAt cl i = (i : Int) := by simpa using hp
    obtain ⟨j, h1, h2, h3⟩ := refine_le (cl := cl) hi
    have h4 := (key_cl hns k (by omega) hi h3).1
    obtain ⟨j', h5, h6, _⟩ := k.le j (by omega)
    have : j = i := by omega
    subst this
    simpa using h1
  · apply Classical.byContradiction
    intro hno
    have hall : ∀ i : Nat, i < ns.length → clAt (refineF ns cl) i = clAt cl i := by
      intro i hi
      obtain ⟨j, h1, h2, h3⟩ := refine_le (cl := cl) hi
      have hj : j < ns.length := by omega
      have h4 := (key_cl hns k hj hi h3).1
      obtain ⟨j', q1, q2, q3⟩ := (ClsOK.refine ns cl).le i hi
      have : j' = j := by omega
      subst this
      have hfix : clAt cl j' = (j' : Int) := by
        apply Classical.byContradiction
        intro hc
        exact hno ⟨j', List.mem_range.2 hj, by simpa using hc, by simpa using q3⟩
      omega
    have : refineF ns cl = cl := by
      apply List.ext_getElem?
      intro i
      by_cases hi : i < ns.length
      · have h := hall i hi
        rw [clAt_nat, clAt_nat, List.getD, List.getD, List.getElem?_eq_getElem (by rw [refineF_len]; exact hi), List.getElem?_eq_getElem (by rw [k.len]; exact hi)] at h
        rw [List.getElem?_eq_getElem (by rw [refineF_len]; exact hi), List.getElem?_eq_getElem (by rw [k.len]; exact hi)]
        simpa using h
      · rw [List.getElem?_eq_none (by rw [refineF_len]; omega), List.getElem?_eq_none (by rw [k.len]; omega)]
    rw [eqII_iff.2 this] at hne; cases hne
/-- They are such that nothing changes any more. -/
theorem classesG_ok {ns : List Node} (hns : NsOK ns) : ∀ (m : Nat) (cl : List Int), ClsOK ns.length cl → ns.length - fixc ns.length cl < m → refineF ns (classesG ns m cl) = classesG ns m cl ∧ ClsOK ns.length (classesG ns m cl)
  | 0, _, _, h => by omega
  | m + 1, cl, k, h => by
    rw [classesG]
    cases he : eqII (refineF ns cl) cl with
    | true =>
      have := eqII_iff.1 he
      simp only [if_true]
      exact ⟨by rw [this]; exact this, ClsOK.refine ns cl⟩
    | false =>
      simp only [Bool.false_eq_true, if_false]
      have h1 := refine_more hns k he
      have h2 := fixc_le ns.length (refineF ns cl)
      exact classesG_ok hns m _ (ClsOK.refine ns cl) (by omega)
/-- What must be one. -/
def Bis (ns : List Node) (E : Nat → Nat → Prop) : Prop := ∀ i j, E i j → i < ns.length ∧ j < ns.length ∧ (i = j ∨ (cfreeF (ns.getD i dNode) = false ∧ cfreeF (ns.getD j dNode) = false ∧ (ns.getD i dNode).kind = (ns.getD j dNode).kind ∧ (ns.getD i dNode).name = (ns.getD j dNode).name ∧ (ns.getD i dNode).labels = (ns.getD j dNode).labels ∧ (ns.getD i dNode).args.length = (ns.getD j dNode).args.length ∧
  ∀ (k : Nat) (a b : Int), (ns.getD i dNode).args[k]? = some a → (ns.getD j dNode).args[k]? = some b → E a.toNat b.toNat))
theorem bis_key {ns : List Node} {E : Nat → Nat → Prop} (hE : Bis ns E) {cl : List Int} (hc : ∀ i j, E i j → clAt cl i = clAt cl j) {i j : Nat} (h : E i j) : keyS cl i (ns.getD i dNode) = keyS cl j (ns.getD j dNode) := by
  obtain ⟨hi, hj, rfl | ⟨h1, h2, h3, h4, h5, h6, h7⟩⟩ := hE i j h
  · rfl
  · have ha : (ns.getD i dNode).args.map (clAt cl) = (ns.getD j dNode).args.map (clAt cl) := by
      apply List.ext_getElem?
      intro k
      rw [List.getElem?_map, List.getElem?_map]
      by_cases hk : k < (ns.getD i dNode).args.length
      · have hk' : k < (ns.getD j dNode).args.length := by omega
        rw [List.getElem?_eq_getElem hk, List.getElem?_eq_getElem hk']
        exact congrArg some (hc _ _ (h7 k _ _ (List.getElem?_eq_getElem hk) (List.getElem?_eq_getElem hk')))
      · rw [List.getElem?_eq_none (by omega), List.getElem?_eq_none (by omega)]
    have hargs : argS (clAt cl) (ns.getD i dNode).args = argS (clAt cl) (ns.getD j dNode).args := by
      have : ∀ l : List Int, argS (clAt cl) l = ((l.map (clAt cl)).map fun x => 44 :: itoaN x).flatten := fun l => by simp [argS, List.map_map]; rfl
      rw [this, this, ha]
    unfold keyS
    rw [hc i j h, h1, h2]
    simp only [lookS, headS, h3, h4, h5, hargs, Bool.false_eq_true, if_false]
theorem classesG_bis {ns : List Node} {E : Nat → Nat → Prop} (hE : Bis ns E) : ∀ (m : Nat) (cl : List Int), (∀ i j, E i j → clAt cl i = clAt cl j) → ∀ i j, E i j → clAt (classesG ns m cl) i = clAt (classesG ns m cl) j
  | 0, _, h => h
  | m + 1, cl, h => by
    have hr : ∀ i j, E i j → clAt (refineF ns cl) i = clAt (refineF ns cl) j := fun i j hij => (refine_eq (hE i j hij).1 (hE i j hij).2.1).2 (bis_key hE h hij)
    rw [classesG]
    split
    · exact hr
    · exact classesG_bis hE m _ hr
theorem check_ns {g : Graph} (h : checkF g = 0) : NsOK g.nodes := by
  obtain ⟨_, _, h1, h2⟩ := check_root h
  exact ⟨Nat.lt_of_le_of_lt h1 (by decide), h2⟩
theorem classes_ok {g : Graph} (h : checkF g = 0) : refineF g.nodes (classesF g) = classesF g ∧ ClsOK g.nodes.length (classesF g) :=
  classesG_ok (check_ns h) _ _ (ClsOK.zero _) (by omega)
/-- **What is one is alike; free nodes stand alone.** -/
theorem classes_alike {g : Graph} (h : checkF g = 0) {i j : Nat} (hi : i < g.nodes.length) (hj : j < g.nodes.length) (he : clAt (classesF g) i = clAt (classesF g) j) :
    ((cfreeF (g.nodes.getD i dNode) = true ∨ cfreeF (g.nodes.getD j dNode) = true) → i = j) ∧ (g.nodes.getD i dNode).kind = (g.nodes.getD j dNode).kind ∧ (g.nodes.getD i dNode).name = (g.nodes.getD j dNode).name ∧ (g.nodes.getD i dNode).labels = (g.nodes.getD j dNode).labels ∧ (g.nodes.getD i dNode).args.map (clAt (classesF g)) = (g.nodes.getD j dNode).args.map (clAt (classesF g)) ∧ cfreeF (g.nodes.getD i dNode) = cfreeF (g.nodes.getD j dNode) := by
  obtain ⟨h1, h2⟩ := classes_ok h
  rw [← h1] at he
  exact (key_cl (check_ns h) h2 hi hj ((refine_eq hi hj).1 he)).2
/-- **What may be one is one.** -/
theorem classes_most {g : Graph} {E : Nat → Nat → Prop} (hE : Bis g.nodes E) {i j : Nat} (h : E i j) : clAt (classesF g) i = clAt (classesF g) j :=
  classesG_bis hE _ _ (fun i j hij => by
    obtain ⟨i', h1, h2, h3⟩ := (ClsOK.zero g.nodes.length).le i (hE i j hij).1
    have z : ∀ k : Nat, clAt (List.replicate g.nodes.length 0) k = 0 := fun k => by
      rw [clAt_nat, List.getD, List.getElem?_replicate]; split <;> rfl
    rw [z, z]) _ _ h
end Go.Ab.S
end
section
/-
  Rules for regions whose order is drawn, and for blocks that stay; classes made finer.
-/
namespace Go.Ab.S
open Go.Ab
set_option maxHeartbeats 8000000
theorem le31 {n : Nat} (h : n ≤ 100000) : n ≤ 2 ^ 31 := Nat.le_trans h (by decide)
theorem le30 {n : Nat} (h : n ≤ 100000) : n ≤ 2 ^ 30 := Nat.le_trans h (by decide)
/-- A fact that is not to be found by rewriting. -/
structure Hid (p : Prop) : Prop where
  out : p
/-- What sort of block it is. -/
def tagO : AObj → Nat
  | .cells _ e _ => e + 5
  | .map _ _ => 0
  | .loop _ _ _ _ _ _ _ => 1
  | .dfr _ => 2
  | .iter _ _ _ _ => 3
theorem _root_.Go.Ab.But.kp {b : Nat} {h h' : AHeap} {p q : Nat × AObj} (P : But b h h') (hb : h.objs.get b = some p) {c : Nat} (hc : h.objs.get c = some q) (hne : (tagO p.2 == tagO q.2) = false) : h'.objs.get c = some q :=
  P.keep c (by rintro rfl; rw [hb] at hc; simp only [Option.some.injEq] at hc; rw [hc] at hne; simp at hne) _ hc
section
variable {fns : FuncId → Option AFunc} {summ : FuncId → List AVal → AHeap → Option (D (AVal × AHeap))} {ro : Option Nat}
/-- An operation within a region whose order is drawn, told as one by itself. -/
theorem dr_st {i p : Nat} {d : Option Tmp} {op : EOp} {l : List DStep} {hs : List Held} {a : AAct} {h : AHeap} {K : AAct → AHeap → Prop} (k : St fns summ ro [⟨d, none, .e op⟩] a h fun a h => heldOk h p hs = true ∧ Dr fns summ ro l hs a h K) : Dr fns summ ro (⟨i, p, ⟨d, none, .e op⟩⟩ :: l) hs a h K := by
  refine dr_e ?_
  unfold St StepsW Ev at k
  unfold Ex EW Ev
  obtain ⟨n, hn⟩ := k
  refine ⟨n, fun m hm => ?_⟩
  have := hn m hm
  simp only [stepsA, stepA, wantA] at this
  rw [D.sat_bind] at this
  exact D.sat_mono this fun p hp => hp
theorem st_pair {d : Option Tmp} {x y : AOpd} {l : List Step} {a : AAct} {h : AHeap} {K : AAct → AHeap → Prop} {u v : Int} (hx : ev a x = some (.int .i64 u)) (hy : ev a y = some (.int .i64 v)) (k : St fns summ ro l (putA a d (.agg [.int .i64 u, .int .i64 v])) h K) :
    St fns summ ro (⟨d, none, .q (.build [.int .i64 0, .int .i64 0] [(0, 1, x), (1, 1, y)])⟩ :: l) a h K := by
  refine st_q (v := .agg [.int .i64 u, .int .i64 v]) (b := none) ?_ k
  simp [qA, fillA, hx, hy, cellsA]
theorem dr_pair {i p : Nat} {d : Option Tmp} {x y : AOpd} {l : List DStep} {hs : List Held} {a : AAct} {h : AHeap} {K : AAct → AHeap → Prop} {u v : Int} (hx : ev a x = some (.int .i64 u)) (hy : ev a y = some (.int .i64 v)) (k : Dr fns summ ro l hs (putA a d (.agg [.int .i64 u, .int .i64 v])) h K) :
    Dr fns summ ro (⟨i, p, ⟨d, none, .q (.build [.int .i64 0, .int .i64 0] [(0, 1, x), (1, 1, y)])⟩⟩ :: l) hs a h K := by
  refine dr_q (v := .agg [.int .i64 u, .int .i64 v]) ?_ k
  simp [qA, fillA, hx, hy, cellsA]
theorem st_mkslice0 {d : Option Tmp} {e : TypeId} {bytes n : Nat} {z : AVal} {x y : AOpd} {l : List Step} {a : AAct} {h : AHeap} {K : AAct → AHeap → Prop} (hx : ev a x = some (.int .i64 0)) (hy : ev a y = some (.int .i64 (Int.ofNat n))) (hn : n ≤ 2 ^ 30) (hr : roomA bytes n = true) (w : WF h)
    (k : ∀ r h', Built h' h.next e 1 r 0 [] → (∀ c j, r = .slice (some (c, 0)) j → h.next ≤ c) → Grow h h' → St fns summ ro l (putA a d r) h' K) : St fns summ ro (⟨d, none, .e (.mkslice e 1 bytes [z] x y)⟩ :: l) a h K := by
  refine st_t (by intro _ _ hh; cases hh) (by intro _ _ hh; cases hh) (v := .slice (some (h.next, 0)) 0) (h' := newA h (.cells false e (List.replicate n z))) ?_ (k _ _ (.inr (.inr ⟨h.next, _, _, Nat.le_refl _, rfl, new_get_same _ _, by omega, by simp⟩)) (fun c j hc => by simp only [AVal.slice.injEq, Option.some.injEq, Prod.mk.injEq] at hc; omega) ((Grow.refl w).new _))
  have h1 : asNat (.int .i64 (Int.ofNat n)) = some n := by simp [asNat]
  have h0 : asNat (.int .i64 0) = some 0 := rfl
  have h30 : (2 : Nat) ^ 30 ≤ 2 ^ 40 := by decide
  have hc : 0 ≤ n ∧ n ≤ 2 ^ 40 ∧ roomA bytes n = true := ⟨Nat.zero_le _, Nat.le_trans hn h30, hr⟩
  simp only [turnA, hx, hy, h1, h0, if_pos hc, rep_one]
end
/-- A key put behind. -/
theorem findA_snoc {kk : KeyK} {x y v : AVal} {c : Nat} : ∀ (es : List (AVal × AVal × Nat)) (i : Nat), findA kk x es i = some none → ∀ b, keyA kk x y = some b → findA kk x (es ++ [(y, v, c)]) i = some (if b then some (i + es.length, v) else none)
  | [], i, _, b, hk => by
    simp only [List.nil_append, findA, hk, List.length_nil, Nat.add_zero]
    cases b <;> rfl
  | (y', v', c') :: es, i, h, b, hk => by
    rw [findA] at h
    rw [List.cons_append, findA]
    cases hy : keyA kk x y' with
    | none => rw [hy] at h; cases h
    | some t =>
      cases t with
      | true => rw [hy] at h; cases h
      | false =>
        rw [hy] at h
        simp only
        rw [findA_snoc es (i + 1) h b hk, List.length_cons]
        congr 2
        rw [show i + 1 + es.length = i + (es.length + 1) by omega]
theorem findA_keep {kk : KeyK} {x : AVal} {p : Nat × AVal} {e : AVal × AVal × Nat} : ∀ (es : List (AVal × AVal × Nat)) (i : Nat), findA kk x es i = some (some p) → findA kk x (es ++ [e]) i = some (some p)
  | [], i, h => by cases h
  | (y', v', c') :: es, i, h => by
    rw [findA] at h
    rw [List.cons_append, findA]
    cases hy : keyA kk x y' with
    | none => rw [hy] at h; cases h
    | some t =>
      cases t with
      | true => rw [hy] at h; exact h
      | false => rw [hy] at h; exact findA_keep es (i + 1) h
/-- The first place of each key. -/
def FI (es : List (AVal × AVal × Nat)) (keys : List (List Nat)) (j : Nat) : Prop := ∀ k, ∃ i, findA .str (.str k) es 0 = some (if k ∈ keys.take j then some (i, .int .i64 (firstIx k keys : Nat)) else none)
theorem FI.zero (keys : List (List Nat)) : FI [] keys 0 := fun k => ⟨0, by simp [findA]⟩
theorem FI.stay {es : List (AVal × AVal × Nat)} {keys : List (List Nat)} {j : Nat} (hj : j < keys.length) (h : FI es keys j) (hm : keys[j] ∈ keys.take j) : FI es keys (j + 1) := fun k => by
  obtain ⟨i, hi⟩ := h k
  refine ⟨i, ?_⟩
  rw [hi]
  have : k ∈ keys.take (j + 1) ↔ k ∈ keys.take j := by
    rw [List.take_succ_eq_append_getElem hj, List.mem_append, List.mem_singleton]
    exact ⟨fun h => h.elim id (fun h => h ▸ hm), .inl⟩
  simp only [this]
theorem first_new {keys : List (List Nat)} {j : Nat} (hj : j < keys.length) (hm : keys[j] ∉ keys.take j) : firstIx keys[j] keys = j := by
  have h1 := firstIx_le (List.getElem?_eq_getElem hj)
  have h2 := (firstIx_spec (List.getElem_mem hj)).1
  rcases Nat.lt_or_ge (firstIx keys[j] keys) j with hlt | hge
  · rw [List.getElem?_eq_getElem (by omega)] at h2
    exact absurd (List.mem_take_iff_getElem.2 ⟨firstIx keys[j] keys, by omega, Option.some.inj h2⟩) hm
  · omega
theorem FI.put {es : List (AVal × AVal × Nat)} {keys : List (List Nat)} {j c : Nat} (hj : j < keys.length) (h : FI es keys j) (hm : keys[j] ∉ keys.take j) : FI (es ++ [(.str keys[j], .int .i64 (j : Nat), c)]) keys (j + 1) := fun k => by
  obtain ⟨i, hi⟩ := h k
  by_cases hk : k ∈ keys.take j
  · rw [if_pos hk] at hi
    refine ⟨i, ?_⟩
    rw [findA_keep es 0 hi, if_pos (by rw [List.take_succ_eq_append_getElem hj]; exact List.mem_append.2 (.inl hk))]
  · rw [if_neg hk] at hi
    refine ⟨0 + es.length, ?_⟩
    rw [findA_snoc es 0 hi (eqL k keys[j]) rfl]
    by_cases he : k = keys[j]
    · subst he
      have hin : keys[j] ∈ keys.take (j + 1) := by rw [List.take_succ_eq_append_getElem hj]; exact List.mem_append.2 (.inr (List.mem_singleton.2 rfl))
      rw [if_pos (eqL_iff.2 rfl), if_pos hin, first_new hj hm]
    · rw [if_neg (by rw [eqL_iff]; exact he), if_neg (by
        rw [List.take_succ_eq_append_getElem hj, List.mem_append, List.mem_singleton]
        exact fun h => h.elim hk he)]
theorem FI.look {h : AHeap} {r ver c : Nat} {es : List (AVal × AVal × Nat)} {keys : List (List Nat)} {j : Nat} (hg : h.objs.get r = some (ver, .map es c)) (f : FI es keys j) (k : List Nat) : lookA h .str (.int .i64 0) true (.map (some r)) (.str k) = some (.tuple [.int .i64 (if k ∈ keys.take j then (firstIx k keys : Nat) else 0), .bool (decide (k ∈ keys.take j))], some r) := by
  obtain ⟨i, hi⟩ := f k
  simp only [lookA, isKey, hg, hi]
  by_cases hk : k ∈ keys.take j
  · simp [hk]
  · simp [hk]
theorem FI.look1 {h : AHeap} {r ver c : Nat} {es : List (AVal × AVal × Nat)} {keys : List (List Nat)} {j : Nat} (hg : h.objs.get r = some (ver, .map es c)) (f : FI es keys j) {k : List Nat} (hk : k ∈ keys.take j) : lookA h .str (.int .i64 0) false (.map (some r)) (.str k) = some (.int .i64 (firstIx k keys : Nat), some r) := by
  obtain ⟨i, hi⟩ := f k
  simp only [lookA, isKey, hg, hi]
  simp [hk]
/-- What is known all the while of classes that are made finer. -/
structure FInv (h0 : AHeap) (b2 b3 r5 b6 : Nat) (nv cv : AVal) (root : Int) (keys : List (List Nat)) (out : List Int) (j : Nat) (hp : AHeap) : Prop where
  grow : Grow h0 hp
  o2 : ∃ ver, hp.objs.get b2 = some (ver, .cells false 24 [nv, .int .i64 root])
  o3 : ∃ ver, hp.objs.get b3 = some (ver, .cells false 58 [cv])
  o5 : ∃ ver es c, hp.objs.get r5 = some (ver, .map es c) ∧ FI es keys j
  o6 : ∃ ver vs, hp.objs.get b6 = some (ver, .cells false 3 vs) ∧ vs.length = out.length ∧ vs.take j = (out.take j).map (AVal.int .i64)
  low : h0.next ≤ r5 ∧ h0.next ≤ b6
theorem FInv.other {h0 : AHeap} {b2 b3 r5 b6 : Nat} {nv cv : AVal} {root : Int} {keys : List (List Nat)} {out : List Int} {j : Nat} {hp hq : AHeap} (I : FInv h0 b2 b3 r5 b6 nv cv root keys out j hp) (g : Grow hp hq) : FInv h0 b2 b3 r5 b6 nv cv root keys out j hq := by
  obtain ⟨v2, k2⟩ := I.o2
  obtain ⟨v3, k3⟩ := I.o3
  obtain ⟨v5, es, c, k5, kf⟩ := I.o5
  obtain ⟨v6, vs, k6, kl, kt⟩ := I.o6
  exact ⟨I.grow.trans g, ⟨v2, g.keep _ _ k2⟩, ⟨v3, g.keep _ _ k3⟩, ⟨v5, es, c, g.keep _ _ k5, kf⟩, ⟨v6, vs, g.keep _ _ k6, kl, kt⟩, I.low⟩
/-- So small that all texts are short. -/
structure GTi (g : Graph) : Prop extends GSm g where
  tiny : g.nodes.length + leftG [] g.nodes 0 ≤ 4096
theorem flat_bound {α : Type} (f : α → List Nat) (c : Nat) : ∀ (l : List α), (∀ x ∈ l, (f x).length ≤ c) → ((l.map f).flatten).length ≤ l.length * c
  | [], _ => by simp
  | x :: l, h => by
    have h1 := flat_bound f c l fun y hy => h y (by simp [hy])
    have h2 := h x (by simp)
    simp only [List.map_cons, List.flatten_cons, List.length_append, List.length_cons, Nat.add_mul]
    omega
theorem look_small {g : Graph} (hg : GTi g) (hok : NsOK g.nodes) {cl : List Int} (hc : ∀ a, InR (clAt cl a)) {n : Node} (hn : n ∈ g.nodes) : (lookS n (clAt cl)).length ≤ 900000 ∧ (∀ c ∈ lookS n (clAt cl), c < 256) ∧ (itoaN n.kind).length ≤ 20 ∧ n.name.length ≤ 10 ∧ (n.kind = 1 ∨ n.kind = 2 ∨ n.kind = 3) := by
  have hm := hok.2 n hn
  have hl1 := leftG_one g.nodes 0 n hn
  have ht := hg.tiny
  have hkind : n.kind = 1 ∨ n.kind = 2 ∨ n.kind = 3 := by rcases may_kind hm with h | h | h <;> simp [h.1]
  have hk20 : (itoaN n.kind).length ≤ 20 := itoaN_len (by omega) (by omega)
  have hargs : (argS (clAt cl) n.args).length ≤ n.args.length * 21 := flat_bound _ 21 _ fun a _ => by
    have := itoaN_len (n := clAt cl a) (by have := (hc a).1; omega) (by have := (hc a).2; omega)
    simp only [List.length_cons]; omega
  have hargc : ∀ c ∈ argS (clAt cl) n.args, c < 256 := by
    intro c hcc
    simp only [argS, List.mem_flatten, List.mem_map] at hcc
    obtain ⟨_, ⟨a, _, rfl⟩, hcc⟩ := hcc
    rcases List.mem_cons.1 hcc with rfl | hcc
    · decide
    · exact itoaN_lt _ c hcc
  have hkc : ∀ c ∈ itoaN n.kind, c < 256 := itoaN_lt _
  have hrest : (labS n.labels).length ≤ n.args.length * 101 ∧ (∀ c ∈ labS n.labels, c < 256) ∧ n.name.length ≤ 10 ∧ (∀ c ∈ n.name, c < 256) := by
    rcases may_kind hm with ⟨_, k1, _, k3, _⟩ | ⟨_, k1, _, k3, _⟩ | ⟨_, k1, k2, k3⟩
    · rw [k1, k3]; simp [labS]
    · rw [k1]
      refine ⟨by simp [labS], by simp [labS], ?_⟩
      simp only [arIs, Bool.or_eq_true, eqL_iff] at k3
      rcases k3 with ((((h | h) | h) | h) | h) | h <;> rw [h] <;> decide
    · have hnm := ris_names (p := none) k3
      rw [k1, ← k2]
      refine ⟨flat_bound _ 101 _ fun s hs => ?_, fun c hcc => ?_, by simp, by simp⟩
      · have := hnm s hs
        simp only [isNameF, Bool.and_eq_true, decide_eq_true_eq] at this
        simp only [List.length_cons]; omega
      · simp only [labS, List.mem_flatten, List.mem_map] at hcc
        obtain ⟨_, ⟨s, hs, rfl⟩, hcc⟩ := hcc
        rcases List.mem_cons.1 hcc with rfl | hcc
        · decide
        · have := name_goes (hnm s hs) c hcc; omega
  obtain ⟨q1, q2, q3, q4⟩ := hrest
  refine ⟨?_, ?_, hk20, q3, hkind⟩
  · simp only [lookS, headS, List.length_append]; omega
  · intro c hcc
    simp only [lookS, headS, List.mem_append] at hcc
    rcases hcc with ((h | h) | h) | h
    · exact hkc c h
    · exact q4 c h
    · exact q2 c h
    · exact hargc c h
section
variable {fns : FuncId → Option AFunc} {summ : FuncId → List AVal → AHeap → Option (D (AVal × AHeap))}
variable (H : Has fns summ)
include H
theorem refine_ok (g : Graph) (cl : List Int) (hg : GTi g) (hok : NsOK g.nodes) (hcl : cl.length = g.nodes.length) (hc : ∀ a, InR (clAt cl a)) (v cv : AVal) (h : AHeap) (hw : WF h) (hv : GraphAt h v g) (hcv : IntsAt h cv cl) :
    Cl fns summ 77 [v, cv] h fun r h' => Built h' h.next 3 1 r g.nodes.length ((refineF g.nodes cl).map (AVal.int .i64)) ∧ Grow h h' := by
  obtain ⟨nv, rfl, hN⟩ := hv
  have hlen := hN.len
  have hcl1 := hcv.len
  have htiny := hg.tiny
  refine H.go (fn := F_refine) rfl (by decide) rfl rfl ?_
  unfold F_refine
  dsimp only
  refine cd_seq (cd_ops ?_)
  refine st_box (by exact e1) (by exact cc) hw ?_
  rintro b2 h2 hb2 g2 o2
  refine st_box (by exact e1) (cells_of_len hcl1) g2.wf ?_
  rintro b3 h3 hb3 g3 o3
  replace o2 := g3.keep _ _ o2
  have g03 := g2.trans g3
  repeat with_reducible first | refine nxt_normal ?_ | refine st_nil ?_ | refine cd_seq ?_ | refine cd_ops ?_ | (apply st_q; exact q1)
  refine st_mkmap (.inl rfl) g3.wf ?_
  rintro r5 h4 hr5 g4 o5
  replace o2 := g4.keep _ _ o2
  replace o3 := g4.keep _ _ o3
  have g04 := g03.trans g4
  have hroom := roomOK H (b := 8) (by decide) (k := g.nodes.length) (le31 (by omega))
  repeat with_reducible first | refine nxt_normal ?_ | refine st_nil ?_ | refine cd_seq ?_ | refine cd_ops ?_ | (apply st_q; exact q1)
  refine st_mkslice (by exact e1) (by exact e1) (le30 (by omega)) hroom g4.wf ?_
  rintro b6 h5 hb6 g5 o6
  have g05 := g04.trans g5
  have n2 := g2.next
  have n3 := g03.next
  have n4 := g04.next
  have I0 : FInv h b2 b3 r5 b6 nv cv g.root (keysF g.nodes cl) (refineF g.nodes cl) 0 h5 :=
    ⟨g05, ⟨_, g5.keep _ _ o2⟩, ⟨_, g5.keep _ _ o3⟩, ⟨_, _, _, g5.keep _ _ o5, FI.zero _⟩, ⟨_, _, o6, by rw [List.length_replicate, refineF_len], rfl⟩, by omega, by omega⟩
  replace o2 := g5.keep _ _ o2
  clear o3 o5 o6 hroom g2 g3 g4 g5 g03 g04 g05 hb2 hb3 hr5 hb6 n2 n3 n4
  repeat with_reducible first | refine nxt_normal ?_ | refine st_nil ?_ | refine cd_seq ?_ | refine cd_ops ?_ | (apply st_q; exact q1)
  refine cd_count (N := g.nodes.length) (by omega) (fun j a hp => FInv h b2 b3 r5 b6 nv cv g.root (keysF g.nodes cl) (refineF g.nodes cl) j hp ∧ a.defers = [] ∧ ev a (.tmp 2) = some (.ptr (some (b2, 0))) ∧ ev a (.tmp 3) = some (.ptr (some (b3, 0))) ∧ ev a (.tmp 5) = some (.map (some r5)) ∧ ev a (.tmp 6) = some (.slice (some (b6, 0)) g.nodes.length) ∧ ev a (.tmp 18) = some nv)
    (by rintro j a hp t w (rfl | rfl | rfl) ⟨k1, k2, k3, k4, k5, k6, k7⟩ <;> exact ⟨k1, by rw [defers_put]; exact k2, by exact e1, by exact e1, by exact e1, by exact e1, by exact e1⟩) (by decide) ?_ ?_ ⟨I0, by exact n1, by exact e1, by exact e1, by exact e1, by exact e1, by exact e1⟩ (by exact e1) (by exact e1)
  · clear I0 o2
    rintro j a hp hj ⟨I, hd, h2', h3', h5', h6', h18⟩ hi hn
    have hkl : j < (keysF g.nodes cl).length := by rw [keysF_len]; exact hj
    have hnj : g.nodes.getD j dNode = g.nodes[j] := by rw [List.getD, List.getElem?_eq_getElem hj]; rfl
    have hkj : (keysF g.nodes cl)[j] = keyS cl j g.nodes[j] := by
      have := keysF_get (cl := cl) hj
      rw [List.getElem?_eq_getElem hkl, hnj] at this
      exact Option.some.inj this
    have hmem : g.nodes[j] ∈ g.nodes := List.getElem_mem hj
    obtain ⟨hs1, hs2, hs3, hs4, hs5⟩ := look_small hg hok hc hmem
    obtain ⟨bn, on, vern, ron, en, vsn, av, lv, hixn, hgn, hvl, hv5, _, _, _, _, _, ha, hl⟩ := (hN.mono I.grow).at (List.getElem?_eq_getElem hj)
    have hpart5 : partA (some 5) vsn on = some (nodeV g.nodes[j] av lv) := by rw [partA, if_pos hvl, hv5]; rfl
    have hcj : cl[j]? = some (clAt cl j) := by
      rw [clAt_nat, List.getD, List.getElem?_eq_getElem (by omega)]; rfl
    have hcin := hc j
    have hci20 : (itoaN (clAt cl j)).length ≤ 20 := itoaN_len (by have := hcin.1; omega) (by have := hcin.2; omega)
    have hj20 : (itoaN (j : Nat)).length ≤ 20 := itoaN_len (by omega) (by omega)
    repeat with_reducible first | refine cd_seq ?_ | refine cd_ops ?_ | refine cd_blockS ?_ | (apply st_q; exact q1)
    refine st_alloc I.grow.wf ?_
    rintro b8 h6 hb8 g6 o8
    repeat with_reducible (apply st_q; exact q1)
    refine st_store (by exact e1) (by exact e1) (cs := [.int .i64 g.nodes[j].kind, .str g.nodes[j].name, av, lv, .bool g.nodes[j].isOpen]) rfl rfl g6.wf o8 (by simp) (ones_node ha.len hl.len) ?_
    rintro v7 h7 p7 o7
    simp only [List.take_zero, List.nil_append, List.length_cons, List.length_nil, List.drop_succ_cons, List.drop_zero, List.append_nil, Nat.zero_add, Nat.reduceAdd, List.drop_nil, List.cons_append] at o7
    have g7 : Grow hp h7 := p7.grow hp I.grow.wf g6 hb8
    have ha7 := ha.mono g7
    have hl7 := hl.mono g7
    have hpart7 : partA (some 5) [.int .i64 g.nodes[j].kind, .str g.nodes[j].name, av, lv, .bool g.nodes[j].isOpen] 0 = some (nodeV g.nodes[j] av lv) := rfl
    have I7 := I.other g7
    obtain ⟨v3, o3⟩ := I7.o3
    obtain ⟨bc, oc, verc, roc, ec, vsc, hixc, hgc, hvc⟩ := (hcv.mono I7.grow).at hcj
    clear p7 g6 o8 hixn hgn hpart5 hv5 hvl ha hl hb8
    repeat with_reducible first | refine nxt_normal ?_ | refine st_nil ?_ | refine cd_seq ?_ | refine cd_ops ?_ | (apply st_q; exact q1)
    refine st_call (by exact s1) (cl_summ (H.itoa _ h7 (by have := hcin.1; omega) (by have := hcin.2; omega)) ?_)
    rw [D.sat_ret]
    have hadd : (itoaN (clAt cl j)).length + ([58] : List Nat).length < 1000000000000 := by simp only [List.length_singleton]; omega
    repeat with_reducible first | refine nxt_normal ?_ | refine st_nil ?_ | refine cd_seq ?_ | refine cd_ops ?_ | (apply st_q; exact q1)
    refine st_call (by exact s1) ((cfree_ok H g.nodes[j] av lv h7 g7.wf).mono ?_)
    rintro _ h8 ⟨rfl, g8⟩
    have I8 := I7.other g8
    replace o7 := g8.keep _ _ o7
    replace ha7 := ha7.mono g8
    replace hl7 := hl7.mono g8
    have hfr : (g.nodes[j].kind == 1 || g.nodes[j].isOpen) = cfreeF g.nodes[j] := rfl
    clear o3 hixc hgc hvc I7 hadd
    refine st_nil (nxt_normal ?_)
    refine cd_post (fun a hq => hq = h8 ∧ a.defers = [] ∧ ev a (.tmp 2) = some (.ptr (some (b2, 0))) ∧ ev a (.tmp 3) = some (.ptr (some (b3, 0))) ∧ ev a (.tmp 5) = some (.map (some r5)) ∧ ev a (.tmp 6) = some (.slice (some (b6, 0)) g.nodes.length) ∧ ev a (.tmp 18) = some nv ∧ ev a (.tmp 20) = some (.int .i64 (j : Nat)) ∧ ev a (.tmp 19) = some (.int .i64 (g.nodes.length : Nat)) ∧ ev a (.tmp 7) = some (.int .i64 (j : Nat)) ∧ ev a (.tmp 8) = some (.ptr (some (b8, 0))) ∧ ev a (.tmp 9) = some (.str (itoaN (clAt cl j) ++ [58] ++ (if cfreeF g.nodes[j] then 35 :: itoaN (j : Nat) else [])))) ?_ ?_
    · cases hf : cfreeF g.nodes[j]
      · rw [hf] at hfr
        have hap : itoaN (clAt cl j) ++ [58] ++ (if false = true then 35 :: itoaN (j : Nat) else []) = itoaN (clAt cl j) ++ [58] := by simp
        repeat with_reducible first | refine nxt_normal ?_ | refine cd_skip ?_ | (apply cd_condF; exact e1)
        exact ⟨rfl, by exact n1, by exact e1, by exact e1, by exact e1, by exact e1, by exact e1, by exact e1, by exact e1, by exact e1, by exact e1, by rw [hap]; exact e1⟩
      · rw [hf] at hfr
        have hap : itoaN (clAt cl j) ++ [58] ++ (if true = true then 35 :: itoaN (j : Nat) else []) = itoaN (clAt cl j) ++ [58] ++ ([35] ++ itoaN (j : Nat)) := by simp
        have hadd1 : ([35] : List Nat).length + (itoaN (j : Nat)).length < 1000000000000 := by simp only [List.length_singleton]; omega
        have hadd2 : (itoaN (clAt cl j) ++ [58]).length + (([35] : List Nat) ++ itoaN (j : Nat)).length < 1000000000000 := by simp only [List.length_append, List.length_singleton]; omega
        repeat with_reducible first | refine cd_ops ?_ | (apply st_q; exact q1) | (apply cd_condT; exact e1)
        refine st_call (by exact s1) (cl_summ (H.itoa _ h8 (by omega) (by omega)) ?_)
        rw [D.sat_ret]
        repeat with_reducible first | refine nxt_normal ?_ | refine st_nil ?_ | (apply st_q; exact q1)
        exact ⟨rfl, by exact n1, by exact e1, by exact e1, by exact e1, by exact e1, by exact e1, by exact e1, by exact e1, by exact e1, by exact e1, by rw [hap]; exact e1⟩
    clear hi hn hd h2' h3' h5' h6' h18 hfr
    rintro a _ ⟨rfl, hd, h2', h3', h5', h6', h18, hi, hn, h7', h8', h9'⟩
    refine nxt_normal ?_
    repeat with_reducible first | refine cd_seq ?_ | refine cd_ops ?_ | (apply st_q; exact q1)
    obtain ⟨v3, o3⟩ := I8.o3
    refine st_call (by exact s1) ((look_ok H g.nodes[j] (hg.all _ hmem) (clAt cl) (.func 122 [] [.ptr (some (b3, 0))]) av lv _ g8.wf ha7 hl7 (by omega) (fun a _ => ⟨by have := (hc a).1; omega, by have := (hc a).2; omega⟩) (fun a haa h' g' => ?_) (by omega) hs2).mono ?_)
    · obtain ⟨a0, a1⟩ := may_args (hok.2 _ hmem) a haa
      obtain ⟨i, rfl⟩ : ∃ i : Nat, a = (i : Int) := ⟨a.toNat, by omega⟩
      have hci : cl[i]? = some (clAt cl i) := by rw [clAt_nat, List.getD, List.getElem?_eq_getElem (by omega)]; rfl
      exact cv_func (refine1_ok H cl i _ hci cv b3 v3 false _ h' (g'.keep _ _ o3) (hcv.mono (I8.grow.trans g')))
    rintro _ h9 ⟨rfl, g9⟩
    have I9 := I8.other g9
    have hkey : itoaN (clAt cl j) ++ [58] ++ (if cfreeF g.nodes[j] then 35 :: itoaN (j : Nat) else []) ++ lookS g.nodes[j] (clAt cl) = (keysF g.nodes cl)[j] := hkj.symm
    have hadd3 : (itoaN (clAt cl j) ++ [58] ++ (if cfreeF g.nodes[j] then 35 :: itoaN (j : Nat) else [])).length + (lookS g.nodes[j] (clAt cl)).length < 1000000000000 := by
      have : (if cfreeF g.nodes[j] then 35 :: itoaN (j : Nat) else []).length ≤ 21 := by split <;> simp <;> omega
      simp only [List.length_append, List.length_singleton]; omega
    have g79 := g8.trans g9
    obtain ⟨v5, es, c5, o5, hfi⟩ := I9.o5
    have hlk := hfi.look o5 (keysF g.nodes cl)[j]
    clear o3 I8 g8 g9 ha7 hl7 o7 hkj hs2 hcj hpart7
    have hadd4 := hadd3
    rw [← List.length_append, hkey] at hadd4
    have hsa : strOpA .add (itoaN (clAt cl j) ++ [58] ++ (if cfreeF g.nodes[j] then 35 :: itoaN (j : Nat) else [])) (lookS g.nodes[j] (clAt cl)) = some (.str (keysF g.nodes cl)[j]) := by rw [str_add hadd3, hkey]
    clear hadd3 hadd4 hkey
    repeat with_reducible first | refine nxt_normal ?_ | refine st_nil ?_ | refine cd_seq ?_ | refine cd_ops ?_ | (apply st_q; exact q1)
    -- the first of its sort, or not
    obtain ⟨v6, vs6, o6, hl6, ht6⟩ := I9.o6
    have hout : (refineF g.nodes cl)[j]? = some (firstIx (keysF g.nodes cl)[j] (keysF g.nodes cl) : Nat) := by
      rw [refineF, List.getElem?_map, List.getElem?_eq_getElem hkl]; rfl
    have hlo : j < (refineF g.nodes cl).length := by rw [refineF_len]; exact hj
    have hix6 : slA (.slice (some (b6, 0)) g.nodes.length) 1 j = some (b6, j) := by simp [slA, hj]
    have hrow : ∀ x : Int, (refineF g.nodes cl)[j]? = some x → (vs6.take j ++ [AVal.int .i64 x] ++ vs6.drop (j + 1)).take (j + 1) = ((refineF g.nodes cl).take (j + 1)).map (AVal.int .i64) := by
      intro x hx
      rw [List.getElem?_eq_getElem hlo] at hx
      have hx := Option.some.inj hx
      rw [List.take_succ_eq_append_getElem hlo, List.map_append, ← ht6, hx, List.take_append_of_le_length (by simp; omega), List.take_of_length_le (by simp; omega)]
      rfl
    by_cases hm : (keysF g.nodes cl)[j] ∈ (keysF g.nodes cl).take j
    · have hdec : decide ((keysF g.nodes cl)[j] ∈ (keysF g.nodes cl).take j) = true := decide_eq_true hm
      have hlk1 := hfi.look1 o5 hm
      rw [hdec] at hlk
      repeat with_reducible first | refine nxt_normal ?_ | refine cd_ops ?_ | refine cd_skip ?_ | (apply st_q; exact q1) | (apply cd_condF; exact e1)
      refine st_store (by exact e1) (by exact e1) (by exact cc) rfl I9.grow.wf o6 (by simp; omega) rfl ?_
      rintro vz hz pz oz
      simp only [List.length_cons, List.length_nil, Nat.zero_add] at oz
      have Iz : FInv h b2 b3 r5 b6 nv cv g.root (keysF g.nodes cl) (refineF g.nodes cl) (j + 1) hz := by
        obtain ⟨u2, k2⟩ := I9.o2
        obtain ⟨u3, k3⟩ := I9.o3
        exact ⟨pz.grow h hw I9.grow I9.low.2, ⟨_, pz.kp o6 k2 rfl⟩, ⟨_, pz.kp o6 k3 rfl⟩, ⟨_, _, _, pz.kp o6 o5 rfl, hfi.stay hkl hm⟩, ⟨_, _, oz, by simp; omega, hrow _ hout⟩, I9.low⟩
      clear oz pz hlk hlk1 hdec o5 o6
      repeat with_reducible first | refine nxt_normal ?_ | refine blk_normal ?_ | refine st_nil ?_
      exact ⟨⟨Iz, by exact n1, by exact e1, by exact e1, by exact e1, by exact e1, by exact e1⟩, by exact e1, by exact e1⟩
    · have hdec : decide ((keysF g.nodes cl)[j] ∈ (keysF g.nodes cl).take j) = false := decide_eq_false hm
      rw [hdec] at hlk
      have hf0 : findA .str (.str (keysF g.nodes cl)[j]) es 0 = some none := by
        obtain ⟨i, hi⟩ := hfi (keysF g.nodes cl)[j]
        rw [hi, if_neg hm]
      repeat with_reducible first | refine cd_ops ?_ | (apply st_q; exact q1) | (apply cd_condT; exact e1)
      refine st_put (by exact e1) (by exact e1) (by exact e1) (by intro hh; cases hh) rfl I9.grow.wf o5 hf0 ?_
      rintro vy hy py oy
      have fy := hfi.put (c := c5) hkl hm
      have hmem1 : (keysF g.nodes cl)[j] ∈ (keysF g.nodes cl).take (j + 1) := by rw [List.take_succ_eq_append_getElem hkl]; exact List.mem_append.2 (.inr (List.mem_singleton.2 rfl))
      have hlk1 := fy.look1 oy hmem1
      have o6y := py.kp o5 o6 rfl
      have gy := py.grow h hw I9.grow I9.low.1
      clear hlk hdec
      repeat with_reducible first | refine nxt_normal ?_ | refine st_nil ?_ | refine cd_ops ?_ | (apply st_q; exact q1)
      refine st_store (by exact e1) (by exact e1) (by exact cc) rfl gy.wf o6y (by simp; omega) rfl ?_
      rintro vz hz pz oz
      simp only [List.length_cons, List.length_nil, Nat.zero_add] at oz
      have Iz : FInv h b2 b3 r5 b6 nv cv g.root (keysF g.nodes cl) (refineF g.nodes cl) (j + 1) hz := by
        obtain ⟨u2, k2⟩ := I9.o2
        obtain ⟨u3, k3⟩ := I9.o3
        exact ⟨pz.grow h hw gy I9.low.2, ⟨_, pz.kp o6y (py.kp o5 k2 rfl) rfl⟩, ⟨_, pz.kp o6y (py.kp o5 k3 rfl) rfl⟩, ⟨_, _, _, pz.kp o6y oy rfl, fy⟩, ⟨_, _, oz, by simp; omega, hrow _ hout⟩, I9.low⟩
      clear oz pz oy py hlk1 o5 o6 o6y hf0
      repeat with_reducible first | refine nxt_normal ?_ | refine blk_normal ?_ | refine st_nil ?_
      exact ⟨⟨Iz, by exact n1, by exact e1, by exact e1, by exact e1, by exact e1, by exact e1⟩, by exact e1, by exact e1⟩
  · rintro a hp ⟨I, hd, h2', h3', h5', h6', h18⟩
    obtain ⟨v6, vs6, o6, hl6, ht6⟩ := I.o6
    rw [refineF_len] at hl6
    have e1' : (refineF g.nodes cl).take g.nodes.length = refineF g.nodes cl := List.take_of_length_le (by rw [refineF_len]; exact Nat.le_refl _)
    rw [e1'] at ht6
    repeat' with_reducible first | refine nxt_normal ?_ | refine st_nil ?_ | refine cd_seq ?_ | refine cd_ops ?_ | refine cd_ret ?_ | (apply st_q; exact q1) | (apply fin_ret; exact n1; exact r1)
    exact ⟨.inr (.inr ⟨b6, vs6, v6, I.low.2, rfl, o6, by omega, by rw [Nat.mul_one]; exact ht6⟩), I.grow⟩
end
end Go.Ab.S
end
