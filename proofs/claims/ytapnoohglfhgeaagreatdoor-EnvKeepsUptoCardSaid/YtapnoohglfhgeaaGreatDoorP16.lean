import Derived.Test.YtapnoohglfhgeaaGreatDoorP15
/-
  Part 16 of the proof.
-/
set_option linter.all false
section
/-
  Whether two graphs are the same type.
-/
namespace Go.Ab.S
open Go.Ab
set_option maxHeartbeats 8000000
abbrev Pr := Int × Int
def pairC (p : Pr) : List AVal := [.int .i64 p.1, .int .i64 p.2]
def rowC (w : List Pr) : List AVal := (w.reverse.map pairC).flatten
def pairsS (g h : Graph) : List Pr := (List.range g.nodes.length).flatMap fun (i : Nat) => (List.range h.nodes.length).map fun (j : Nat) => ((i : Int), (j : Int))
theorem mem_pairsS {g h : Graph} {p : Pr} : p ∈ pairsS g h ↔ (0 ≤ p.1 ∧ p.1 < g.nodes.length) ∧ 0 ≤ p.2 ∧ p.2 < h.nodes.length := by
  simp only [pairsS, List.mem_flatMap, List.mem_range, List.mem_map]
  constructor
  · rintro ⟨i, hi, j, hj, rfl⟩; exact ⟨⟨by simp, by simp; omega⟩, by simp, by simp; omega⟩
  · rintro ⟨⟨h1, h2⟩, h3, h4⟩
    exact ⟨p.1.toNat, by omega, p.2.toNat, by omega, by ext <;> simp <;> omega⟩
theorem pairsS_len (g h : Graph) : (pairsS g h).length = g.nodes.length * h.nodes.length := by
  simp only [pairsS, List.length_flatMap, List.length_map, List.length_range]
  generalize g.nodes.length = n
  induction n with
  | zero => simp
  | succ n ih => rw [List.range_succ, List.map_append, List.sum_append, ih, Nat.succ_mul]; simp
theorem leftW_bound {α : Type} [BEq α] {nx : α → List α} {c : Nat} : ∀ {ps : List α}, (∀ p ∈ ps, (nx p).length ≤ c) → leftW nx [] ps ≤ ps.length * c
  | [], _ => by simp [leftW]
  | p :: r, h => by
    have h1 := leftW_bound (ps := r) fun q hq => h q (by simp [hq])
    have h2 := h p (by simp)
    simp only [leftW, List.length_cons, Nat.succ_mul]
    split <;> omega
def okS (g h : Graph) (p : Pr) : Bool := alikeF (zAL g p.1) (zAL h p.2)
def nxS (g h : Graph) (p : Pr) : List Pr := (List.zip (zAL g p.1).args (zAL h p.2).args).reverse
def badS (g : Graph) (p q : Pr) : Bool := freeF (zAL g p.1) && (freeF (zAL g q.1) && (p.1 == q.1 || p.2 == q.2))
def sameF (g h : Graph) : Bool := checkF g == 0 && (checkF h == 0 && walkG (okS g h) (nxS g h) (badS g) (2 + leftW (nxS g h) [] (pairsS g h)) [(g.root, h.root)] [])
theorem nodeD_at {g : Graph} {a : Int} (h0 : 0 ≤ a) (h1 : a < g.nodes.length) : ∃ k : Nat, a = (k : Int) ∧ ∃ hk : k < g.nodes.length, zAL g a = g.nodes[k] := by
  refine ⟨a.toNat, by omega, by omega, ?_⟩
  simp [zAL, List.getElem?_eq_getElem (show a.toNat < g.nodes.length by omega)]
theorem nodeD_mem {g : Graph} {a : Int} (h0 : 0 ≤ a) (h1 : a < g.nodes.length) : zAL g a ∈ g.nodes := by
  obtain ⟨k, _, hk, h⟩ := nodeD_at h0 h1
  rw [h]; exact List.getElem_mem hk
theorem nxS_in {g h : Graph} (hg : checkF g = 0) (hh : checkF h = 0) {p : Pr} (hp : p ∈ pairsS g h) : ∀ q ∈ nxS g h p, q ∈ pairsS g h := by
  intro q hq
  obtain ⟨⟨a0, a1⟩, b0, b1⟩ := mem_pairsS.1 hp
  simp only [nxS, List.mem_reverse] at hq
  have h1 := List.of_mem_zip hq
  have h2 := may_args ((check_ns hg).2 _ (nodeD_mem a0 a1)) _ h1.1
  have h3 := may_args ((check_ns hh).2 _ (nodeD_mem b0 b1)) _ h1.2
  exact mem_pairsS.2 ⟨h2, h3⟩
theorem left_small {g h : Graph} (hg : GTi g) (hh : GTi h) {nx : Pr → List Pr} (hn : ∀ p ∈ pairsS g h, (nx p).length ≤ (zAL g p.1).args.length) : leftW nx [] (pairsS g h) ≤ 2 ^ 36 := by
  have h1 := leftW_bound (nx := nx) (c := 4096) (ps := pairsS g h) (fun p hp => by
    obtain ⟨⟨a0, a1⟩, _⟩ := mem_pairsS.1 hp
    have := leftG_one g.nodes 0 _ (nodeD_mem a0 a1)
    have := hg.tiny
    have := hn p hp
    omega)
  rw [pairsS_len] at h1
  have h2 := hg.tiny
  have h3 := hh.tiny
  have h4 : g.nodes.length * h.nodes.length ≤ 4096 * 4096 := Nat.mul_le_mul (by omega) (by omega)
  have h5 : (2 : Nat) ^ 36 = 4096 * 4096 * 4096 := by decide
  have h6 := Nat.mul_le_mul_right 4096 h4
  omega
theorem roomP {k : Nat} (hk : k ≤ 2 ^ 37) : roomA 16 k = true := by
  have e37 : (2 : Nat) ^ 37 = 137438953472 := by decide
  have e46 : (2 : Nat) ^ 46 = 70368744177664 := by decide
  simp only [roomA, Bool.and_eq_true]
  exact ⟨rfl, Nat.ble_eq.mpr (by omega)⟩
def MP (es : List (AVal × AVal × Nat)) (met : List Pr) : Prop := ∀ p, ∃ i, findA (.agg 2) (.agg (pairC p)) es 0 = some (if p ∈ met then some (i, .bool true) else none)
theorem MP.zero : MP [] [] := fun p => ⟨0, by simp [findA]⟩
theorem key_pair (p q : Pr) : keyA (.agg 2) (.agg (pairC p)) (.agg (pairC q)) = some (decide (p = q)) := by
  obtain ⟨a, b⟩ := p
  obtain ⟨c, d⟩ := q
  simp only [keyA, pairC, List.length_cons, List.length_nil, and_self, if_true, eqCells]
  cases h1 : a == c with
  | false =>
    have : a ≠ c := by simpa using h1
    cases h2 : b == d <;> simp [this]
  | true =>
    have : a = c := by simpa using h1
    cases h2 : b == d with
    | false => have : b ≠ d := by simpa using h2
               simp [this]
    | true => have h3 : b = d := by simpa using h2
              simp [this, h3]
theorem MP.put {es : List (AVal × AVal × Nat)} {met : List Pr} {p : Pr} {c : Nat} (h : MP es met) (hp : p ∉ met) : MP (es ++ [(.agg (pairC p), .bool true, c)]) (met ++ [p]) := fun q => by
  obtain ⟨i, hi⟩ := h q
  by_cases hq : q ∈ met
  · rw [if_pos hq] at hi
    exact ⟨i, by rw [findA_keep es 0 hi, if_pos (List.mem_append.2 (.inl hq))]⟩
  · rw [if_neg hq] at hi
    refine ⟨0 + es.length, ?_⟩
    rw [findA_snoc es 0 hi _ (key_pair q p)]
    by_cases he : q = p
    · rw [if_pos (decide_eq_true he), if_pos (List.mem_append.2 (.inr (List.mem_singleton.2 he)))]
    · rw [if_neg (by simpa using he), if_neg (fun hh => by
        rcases List.mem_append.1 hh with hh | hh
        · exact hq hh
        · exact he (List.mem_singleton.1 hh))]
theorem MP.look {h : AHeap} {r ver c : Nat} {es : List (AVal × AVal × Nat)} {met : List Pr} (hg : h.objs.get r = some (ver, .map es c)) (f : MP es met) (p : Pr) : lookA h (.agg 2) (.bool false) false (.map (some r)) (.agg (pairC p)) = some (.bool (met.contains p), some r) := by
  obtain ⟨i, hi⟩ := f p
  have hk : isKey (.agg 2) (.agg (pairC p)) = true := rfl
  simp only [lookA, hk, hg, hi]
  by_cases hp : p ∈ met
  · simp [hp]
  · simp [hp]
theorem MP.none {es : List (AVal × AVal × Nat)} {met : List Pr} (f : MP es met) {p : Pr} (hp : p ∉ met) : findA (.agg 2) (.agg (pairC p)) es 0 = some none := by
  obtain ⟨i, hi⟩ := f p
  rw [hi, if_neg hp]
def FA (es : List (AVal × AVal × Nat)) (l : List Pr) : Prop := ∀ a, ∃ r, findA .int (.int .i64 a) es 0 = some r ∧ (r = none → ∀ q ∈ l, q.1 ≠ a) ∧ (∀ i v, r = some (i, v) → ∃ q ∈ l, q.1 = a ∧ v = .int .i64 q.2)
theorem FA.zero : FA [] [] := fun a => ⟨none, rfl, fun _ q hq => (by cases hq), fun i v h => by cases h⟩
theorem FA.put {es : List (AVal × AVal × Nat)} {l : List Pr} {p : Pr} {c : Nat} (h : FA es l) (hp : ∀ q ∈ l, q.1 ≠ p.1) : FA (es ++ [(.int .i64 p.1, .int .i64 p.2, c)]) (l ++ [p]) := fun a => by
  obtain ⟨r, h1, h2, h3⟩ := h a
  cases r with
  | some x =>
    refine ⟨some x, findA_keep es 0 h1, fun hh => (by cases hh), fun i v hv => ?_⟩
    obtain ⟨q, q1, q2⟩ := h3 i v hv
    exact ⟨q, List.mem_append.2 (.inl q1), q2⟩
  | none =>
    have hk : keyA .int (.int .i64 a) (.int .i64 p.1) = some (a == p.1) := by simp [keyA]
    refine ⟨_, findA_snoc es 0 h1 _ hk, ?_, ?_⟩
    · intro hh q hq
      rcases List.mem_append.1 hq with hq | hq
      · exact h2 rfl q hq
      · rw [List.mem_singleton.1 hq]
        rintro rfl
        simp at hh
    · intro i v hv
      split at hv
      · rename_i hap
        simp only [Option.some.injEq, Prod.mk.injEq] at hv
        exact ⟨p, List.mem_append.2 (.inr (List.mem_singleton.2 rfl)), (by simpa using hap : a = p.1).symm, hv.2.symm⟩
      · cases hv
theorem FA.none {es : List (AVal × AVal × Nat)} {l : List Pr} (f : FA es l) {a : Int} (ha : ∀ q ∈ l, q.1 ≠ a) : findA .int (.int .i64 a) es 0 = some none := by
  obtain ⟨r, h1, h2, h3⟩ := f a
  cases r with
  | none => exact h1
  | some x =>
    obtain ⟨q, q1, q2, _⟩ := h3 x.1 x.2 rfl
    exact absurd q2 (ha q q1)
theorem FA.look {h : AHeap} {r ver c : Nat} {es : List (AVal × AVal × Nat)} {l : List Pr} (hg : h.objs.get r = some (ver, .map es c)) (f : FA es l) (a : Int) : ∃ x, lookA h .int (.int .i64 0) true (.map (some r)) (.int .i64 a) = some (.tuple [.int .i64 x, .bool (l.any fun q => q.1 == a)], some r) ∧ ((l.any fun q => q.1 == a) = true → ∃ q ∈ l, q.1 = a ∧ x = q.2) := by
  obtain ⟨y, h1, h2, h3⟩ := f a
  cases y with
  | none =>
    refine ⟨0, ?_, fun hh => ?_⟩
    · have : (l.any fun q => q.1 == a) = false := by
        rw [List.any_eq_false]; intro q hq; simpa using h2 rfl q hq
      simp only [lookA, isKey, hg, h1, this, if_true]
    · obtain ⟨q, hq, hh⟩ := List.any_eq_true.1 hh
      exact absurd (by simpa using hh) (h2 rfl q hq)
  | some x =>
    obtain ⟨q, q1, q2, q3⟩ := h3 x.1 x.2 rfl
    refine ⟨q.2, ?_, fun _ => ⟨q, q1, q2, rfl⟩⟩
    have : (l.any fun q => q.1 == a) = true := List.any_eq_true.2 ⟨q, q1, by simpa using q2⟩
    obtain ⟨i, v⟩ := x
    simp only at q3
    subst q3
    simp only [lookA, isKey, hg, h1, this, if_true]
theorem rowC_cons (p : Pr) (w : List Pr) : rowC (p :: w) = rowC w ++ pairC p := by simp [rowC]
theorem rowC_len (w : List Pr) : (rowC w).length = w.length * 2 := by
  induction w with
  | nil => rfl
  | cons p w ih => rw [rowC_cons, List.length_append, ih, List.length_cons, Nat.succ_mul]; rfl
theorem pop_row {h : AHeap} {base : Nat} {e : TypeId} {vw : AVal} {p : Pr} {w : List Pr} (B : Built h base e 2 vw (w.length + 1) (rowC (p :: w))) : ∃ bw ver vs, vw = .slice (some (bw, 0)) (w.length + 1) ∧ h.objs.get bw = some (ver, .cells false e vs) ∧ base ≤ bw ∧ (w.length * 2 + 2 ≤ vs.length ∧ (vs.drop (w.length * 2)).take 2 = pairC p) ∧ Built h base e 2 (.slice (some (bw, 0)) w.length) w.length (rowC w) := by
  rcases B with ⟨_, hh, _⟩ | ⟨_, hh, _⟩ | ⟨b, vs, ver, h0, h1, h2, h3, h4⟩
  · omega
  · omega
  · refine ⟨b, ver, vs, h1, h2, h0, ?_, .inr (.inr ⟨b, vs, ver, h0, rfl, h2, by omega, ?_⟩)⟩
    · refine ⟨by omega, ?_⟩
      have := congrArg (fun l => l.drop (w.length * 2)) h4
      simp only [List.drop_take, rowC_cons, List.drop_left' (rowC_len w)] at this
      rw [show (w.length + 1) * 2 - w.length * 2 = 2 by omega] at this
      exact this
    · have := congrArg (fun l => l.take (w.length * 2)) h4
      simp only [List.take_take, rowC_cons, List.take_left' (rowC_len w)] at this
      rw [Nat.min_eq_left (by omega)] at this
      exact this
end Go.Ab.S
end
section
/-
  What is known all the while, and what is put behind.
-/
namespace Go.Ab.S
open Go.Ab
set_option maxHeartbeats 8000000
def swP (q : Pr) : Pr := (q.2, q.1)
def flM (g : Graph) (met : List Pr) : List Pr := met.filter fun q => freeF (zAL g q.1)
structure SInv (h0 : AHeap) (b2 b3 r5 r6 r7 : Nat) (nv mv : AVal) (g h : Graph) (w met fl fl' : List Pr) (vw : AVal) (hp : AHeap) : Prop where
  grow : Grow h0 hp
  o2 : ∃ ver, hp.objs.get b2 = some (ver, .cells false 24 [nv, .int .i64 g.root])
  o3 : ∃ ver, hp.objs.get b3 = some (ver, .cells false 24 [mv, .int .i64 h.root])
  o5 : ∃ ver es c, hp.objs.get r5 = some (ver, .map es c) ∧ MP es met
  o6 : ∃ ver es c, hp.objs.get r6 = some (ver, .map es c) ∧ FA es fl
  o7 : ∃ ver es c, hp.objs.get r7 = some (ver, .map es c) ∧ FA es fl'
  bw : Built hp h0.next 76 2 vw w.length (rowC w)
  low : h0.next ≤ r5 ∧ h0.next ≤ r6 ∧ h0.next ≤ r7 ∧ r5 ≠ r6 ∧ r5 ≠ r7 ∧ r6 ≠ r7
section
variable {h0 : AHeap} {b2 b3 r5 r6 r7 : Nat} {nv mv : AVal} {g h : Graph} {w w' met fl fl' : List Pr} {vw vw' : AVal} {hp hq : AHeap} (I : SInv h0 b2 b3 r5 r6 r7 nv mv g h w met fl fl' vw hp)
include I
theorem SInv.other (gr : Grow hp hq) : SInv h0 b2 b3 r5 r6 r7 nv mv g h w met fl fl' vw hq := by
  obtain ⟨v2, k2⟩ := I.o2
  obtain ⟨v3, k3⟩ := I.o3
  obtain ⟨v5, e5, c5, k5, f5⟩ := I.o5
  obtain ⟨v6, e6, c6, k6, f6⟩ := I.o6
  obtain ⟨v7, e7, c7, k7, f7⟩ := I.o7
  exact ⟨I.grow.trans gr, ⟨v2, gr.keep _ _ k2⟩, ⟨v3, gr.keep _ _ k3⟩, ⟨_, _, _, gr.keep _ _ k5, f5⟩, ⟨_, _, _, gr.keep _ _ k6, f6⟩, ⟨_, _, _, gr.keep _ _ k7, f7⟩, I.bw.grow gr, I.low⟩
theorem SInv.row (B : Built hp h0.next 76 2 vw' w'.length (rowC w')) : SInv h0 b2 b3 r5 r6 r7 nv mv g h w' met fl fl' vw' hp :=
  ⟨I.grow, I.o2, I.o3, I.o5, I.o6, I.o7, B, I.low⟩
theorem SInv.push (gr : Grow h0 hq) (kp : ∀ c p, hp.objs.get c = some p → (∀ n, vw ≠ .slice (some (c, 0)) n) → hq.objs.get c = some p) (B : Built hq h0.next 76 2 vw' w'.length (rowC w')) : SInv h0 b2 b3 r5 r6 r7 nv mv g h w' met fl fl' vw' hq := by
  obtain ⟨v2, k2⟩ := I.o2
  obtain ⟨v3, k3⟩ := I.o3
  obtain ⟨v5, e5, c5, k5, f5⟩ := I.o5
  obtain ⟨v6, e6, c6, k6, f6⟩ := I.o6
  obtain ⟨v7, e7, c7, k7, f7⟩ := I.o7
  have kk : ∀ c p, hp.objs.get c = some p → (∀ vs, p.2 ≠ .cells false 76 vs) → hq.objs.get c = some p := fun c p hc hne => kp c p hc (built_ne I.bw hc hne)
  exact ⟨gr, ⟨v2, kk _ _ k2 (fun vs hh => by cases hh)⟩, ⟨v3, kk _ _ k3 (fun vs hh => by cases hh)⟩, ⟨_, _, _, kk _ _ k5 (fun vs hh => by cases hh), f5⟩, ⟨_, _, _, kk _ _ k6 (fun vs hh => by cases hh), f6⟩, ⟨_, _, _, kk _ _ k7 (fun vs hh => by cases hh), f7⟩, B, I.low⟩
theorem SInv.put5 (w0 : WF h0) {ver : Nat} {es : List (AVal × AVal × Nat)} {c : Nat} {met' : List Pr} (p : But r5 hp hq) (o : hq.objs.get r5 = some (ver, .map es c)) (f : MP es met') : SInv h0 b2 b3 r5 r6 r7 nv mv g h w met' fl fl' vw hq := by
  obtain ⟨v2, k2⟩ := I.o2
  obtain ⟨v3, k3⟩ := I.o3
  obtain ⟨v5, e5, c5, k5, f5⟩ := I.o5
  obtain ⟨v6, e6, c6, k6, f6⟩ := I.o6
  obtain ⟨v7, e7, c7, k7, f7⟩ := I.o7
  obtain ⟨l5, l6, l7, n56, n57, n67⟩ := I.low
  exact ⟨p.grow h0 w0 I.grow l5, ⟨_, p.kp k5 k2 rfl⟩, ⟨_, p.kp k5 k3 rfl⟩, ⟨_, _, _, o, f⟩, ⟨_, _, _, p.keep _ (Ne.symm n56) _ k6, f6⟩, ⟨_, _, _, p.keep _ (Ne.symm n57) _ k7, f7⟩, built_but I.bw p k5 (fun vs hh => by cases hh), l5, l6, l7, n56, n57, n67⟩
theorem SInv.put6 (w0 : WF h0) {ver : Nat} {es : List (AVal × AVal × Nat)} {c : Nat} {fl2 : List Pr} (p : But r6 hp hq) (o : hq.objs.get r6 = some (ver, .map es c)) (f : FA es fl2) : SInv h0 b2 b3 r5 r6 r7 nv mv g h w met fl2 fl' vw hq := by
  obtain ⟨v2, k2⟩ := I.o2
  obtain ⟨v3, k3⟩ := I.o3
  obtain ⟨v5, e5, c5, k5, f5⟩ := I.o5
  obtain ⟨v6, e6, c6, k6, f6⟩ := I.o6
  obtain ⟨v7, e7, c7, k7, f7⟩ := I.o7
  obtain ⟨l5, l6, l7, n56, n57, n67⟩ := I.low
  exact ⟨p.grow h0 w0 I.grow l6, ⟨_, p.kp k6 k2 rfl⟩, ⟨_, p.kp k6 k3 rfl⟩, ⟨_, _, _, p.keep _ n56 _ k5, f5⟩, ⟨_, _, _, o, f⟩, ⟨_, _, _, p.keep _ (Ne.symm n67) _ k7, f7⟩, built_but I.bw p k6 (fun vs hh => by cases hh), l5, l6, l7, n56, n57, n67⟩
theorem SInv.put7 (w0 : WF h0) {ver : Nat} {es : List (AVal × AVal × Nat)} {c : Nat} {fl2 : List Pr} (p : But r7 hp hq) (o : hq.objs.get r7 = some (ver, .map es c)) (f : FA es fl2) : SInv h0 b2 b3 r5 r6 r7 nv mv g h w met fl fl2 vw hq := by
  obtain ⟨v2, k2⟩ := I.o2
  obtain ⟨v3, k3⟩ := I.o3
  obtain ⟨v5, e5, c5, k5, f5⟩ := I.o5
  obtain ⟨v6, e6, c6, k6, f6⟩ := I.o6
  obtain ⟨v7, e7, c7, k7, f7⟩ := I.o7
  obtain ⟨l5, l6, l7, n56, n57, n67⟩ := I.low
  exact ⟨p.grow h0 w0 I.grow l7, ⟨_, p.kp k7 k2 rfl⟩, ⟨_, p.kp k7 k3 rfl⟩, ⟨_, _, _, p.keep _ n57 _ k5, f5⟩, ⟨_, _, _, p.keep _ n67 _ k6, f6⟩, ⟨_, _, _, o, f⟩, built_but I.bw p k7 (fun vs hh => by cases hh), l5, l6, l7, n56, n57, n67⟩
end
theorem cd_post' {fns : FuncId → Option AFunc} {summ : FuncId → List AVal → AHeap → Option (D (AVal × AHeap))} {ro : Option Nat} {c : ACode} {a : AAct} {h : AHeap} {Q : AExit → AAct → AHeap → Prop} (I : AAct → AHeap → Prop) (k1 : Cd fns summ ro c a h (nxt I Q)) (k2 : ∀ a h, I a h → Q .normal a h) : Cd fns summ ro c a h Q :=
  k1.mono fun e a1 h1 hq => by cases e with
    | normal => exact k2 a1 h1 hq
    | ret => exact hq
    | exit i => exact hq
theorem flM_put (g : Graph) (met : List Pr) (p : Pr) : flM g (met ++ [p]) = flM g met ++ (if freeF (zAL g p.1) then [p] else []) := by
  simp only [flM, List.filter_append]
  congr 1
  cases h : freeF (zAL g p.1) <;> simp [h]
theorem bad_any {g : Graph} {met : List Pr} {p : Pr} (hp : p ∉ met) (hf : freeF (zAL g p.1) = true) : met.any (badS g p) = (((flM g met).any fun q => q.1 == p.1) || (((flM g met).map swP).any fun q => q.1 == p.2)) := by
  unfold flM
  rw [Bool.eq_iff_iff]
  simp only [List.any_eq_true, badS, hf, Bool.true_and, Bool.and_eq_true, Bool.or_eq_true, List.mem_filter, List.mem_map, beq_iff_eq, swP]
  constructor
  · rintro ⟨q, hq, hq2, h | h⟩
    · exact .inl ⟨q, ⟨hq, hq2⟩, h.symm⟩
    · exact .inr ⟨_, ⟨q, ⟨hq, hq2⟩, rfl⟩, h.symm⟩
  · rintro (⟨q, ⟨hq, hq2⟩, h⟩ | ⟨_, ⟨q, ⟨hq, hq2⟩, rfl⟩, h⟩)
    · exact ⟨q, hq, hq2, .inl h.symm⟩
    · exact ⟨q, hq, hq2, .inr h.symm⟩
theorem bad_none {g : Graph} {met : List Pr} {p : Pr} (hf : freeF (zAL g p.1) = false) : met.any (badS g p) = false := by
  rw [List.any_eq_false]; intro q _; simp [badS, hf]
def pushCode : ACode :=
 .seq (
 .ops [
 ⟨(some 111), none, .q (.fieldA 2 (.tmp 10))⟩,
 ⟨(some 112), none, .q (.load none (.tmp 111))⟩,
 ⟨(some 113), none, .q (.lenV (.tmp 112))⟩,
 ⟨(some 114), none, .q (.mov (.val (.int .i64 0)))⟩]) (
 .block 2 (
 .loop (
 .seq (
 .ops [
 ⟨(some 115), none, .q (.num .lss (.tmp 114) (.tmp 113))⟩]) (
 .seq (
 .cond (.tmp 115) (
 .skip) (
 .exit 2)) (
 .seq (
 .block 3 (
 .seq (
 .ops [
 ⟨(some 116), none, .q (.mov (.tmp 114))⟩,
 ⟨(some 16), none, .q (.mov (.tmp 116))⟩]) (
 .draw [
 ⟨0, 0, ⟨(some 117), none, .q (.mov (.tmp 8))⟩⟩,
 ⟨1, 0, ⟨(some 118), none, .q (.fieldA 2 (.tmp 10))⟩⟩,
 ⟨2, 2, ⟨(some 119), none, .q (.load none (.tmp 118))⟩⟩,
 ⟨3, 0, ⟨(some 120), none, .q (.mov (.tmp 16))⟩⟩,
 ⟨4, 12, ⟨(some 121), none, .q (.indexA 1 (.tmp 119) (.tmp 120))⟩⟩,
 ⟨5, 16, ⟨(some 122), none, .q (.load none (.tmp 121))⟩⟩,
 ⟨6, 0, ⟨(some 123), none, .q (.fieldA 2 (.tmp 11))⟩⟩,
 ⟨7, 64, ⟨(some 124), none, .q (.load none (.tmp 123))⟩⟩,
 ⟨8, 0, ⟨(some 125), none, .q (.mov (.tmp 16))⟩⟩,
 ⟨9, 384, ⟨(some 126), none, .q (.indexA 1 (.tmp 124) (.tmp 125))⟩⟩,
 ⟨10, 512, ⟨(some 127), none, .q (.load none (.tmp 126))⟩⟩,
 ⟨11, 1056, ⟨(some 128), none, .q (.build [(.int .i64 0), (.int .i64 0)] [(0, 1, (.tmp 122)), (1, 1, (.tmp 127))])⟩⟩,
 ⟨12, 2048, ⟨(some 129), none, .e (.bslice 76 2 1 [(.int .i64 0), (.int .i64 0)] [(0, (.tmp 128))])⟩⟩,
 ⟨13, 4097, ⟨(some 130), none, .e (.append 76 2 16 (.tmp 117) (.tmp 129))⟩⟩,
 ⟨14, 16383, ⟨(some 8), none, .q (.mov (.tmp 130))⟩⟩]))) (
 .ops [
 ⟨(some 131), none, .q (.num .add (.tmp 114) (.val (.int .i64 1)))⟩,
 ⟨(some 114), none, .q (.mov (.tmp 131))⟩]))))))
section
variable {fns : FuncId → Option AFunc} {summ : FuncId → List AVal → AHeap → Option (D (AVal × AHeap))}
theorem push_ok {h0 : AHeap} {b2 b3 r5 r6 r7 b10 b11 : Nat} {nv mv : AVal} {g h : Graph} {w met fl fl' : List Pr} {vw : AVal} {hq : AHeap} {a : AAct} {Q : AExit → AAct → AHeap → Prop} (w0 : WF h0) (I : SInv h0 b2 b3 r5 r6 r7 nv mv g h w met fl fl' vw hq) {x y : Node} {av lv bv mv' : AVal}
    (o10 : ∃ ver, hq.objs.get b10 = some (ver, .cells false 60 [.int .i64 x.kind, .str x.name, av, lv, .bool x.isOpen])) (o11 : ∃ ver, hq.objs.get b11 = some (ver, .cells false 60 [.int .i64 y.kind, .str y.name, bv, mv', .bool y.isOpen]))
    (ha : IntsAt h0 av x.args) (hb : IntsAt h0 bv y.args) (hxy : x.args.length = y.args.length) (hx : x.args.length ≤ 4096) (hw : w.length ≤ 2 ^ 36) (hd : a.defers = [])
    (h2' : ev a (.tmp 2) = some (.ptr (some (b2, 0)))) (h3' : ev a (.tmp 3) = some (.ptr (some (b3, 0)))) (h5' : ev a (.tmp 5) = some (.map (some r5))) (h6' : ev a (.tmp 6) = some (.map (some r6))) (h7' : ev a (.tmp 7) = some (.map (some r7))) (h8' : ev a (.tmp 8) = some vw) (h10' : ev a (.tmp 10) = some (.ptr (some (b10, 0)))) (h11' : ev a (.tmp 11) = some (.ptr (some (b11, 0))))
    (k : ∀ a hr vw', SInv h0 b2 b3 r5 r6 r7 nv mv g h ((List.zip x.args y.args).reverse ++ w) met fl fl' vw' hr → a.defers = [] → ev a (.tmp 2) = some (.ptr (some (b2, 0))) → ev a (.tmp 3) = some (.ptr (some (b3, 0))) → ev a (.tmp 5) = some (.map (some r5)) → ev a (.tmp 6) = some (.map (some r6)) → ev a (.tmp 7) = some (.map (some r7)) → ev a (.tmp 8) = some vw' → Q .normal a hr) : Cd fns summ none pushCode a hq Q := by
  have hla := ha.len
  have hlb := hb.len
  have e36 : (2 : Nat) ^ 36 = 68719476736 := by decide
  have e37 : (2 : Nat) ^ 37 = 137438953472 := by decide
  obtain ⟨v10, o10⟩ := o10
  obtain ⟨v11, o11⟩ := o11
  unfold pushCode
  repeat with_reducible first | refine zAA ?_ | refine zAB ?_ | refine zAC ?_ | refine zAD ?_ | (apply st_q; exact q1)
  refine cd_count (N := x.args.length) (by omega) (fun j a hr => ∃ vx, SInv h0 b2 b3 r5 r6 r7 nv mv g h (((List.zip x.args y.args).take j).reverse ++ w) met fl fl' vx hr ∧ (∃ ver, hr.objs.get b10 = some (ver, .cells false 60 [.int .i64 x.kind, .str x.name, av, lv, .bool x.isOpen])) ∧ (∃ ver, hr.objs.get b11 = some (ver, .cells false 60 [.int .i64 y.kind, .str y.name, bv, mv', .bool y.isOpen])) ∧ a.defers = [] ∧
      ev a (.tmp 2) = some (.ptr (some (b2, 0))) ∧ ev a (.tmp 3) = some (.ptr (some (b3, 0))) ∧ ev a (.tmp 5) = some (.map (some r5)) ∧ ev a (.tmp 6) = some (.map (some r6)) ∧ ev a (.tmp 7) = some (.map (some r7)) ∧ ev a (.tmp 8) = some vx ∧ ev a (.tmp 10) = some (.ptr (some (b10, 0))) ∧ ev a (.tmp 11) = some (.ptr (some (b11, 0))))
    (by rintro j a hp t w (rfl | rfl | rfl) ⟨vx, k1, k2, k3, k4, k5, k6, k7, k8, k9, k10, k11, k12⟩ <;> exact ⟨vx, k1, k2, k3, by rw [zAY]; exact k4, by exact e1, by exact e1, by exact e1, by exact e1, by exact e1, by exact e1, by exact e1, by exact e1⟩) (by decide) ?_ ?_ ⟨vw, by simpa using I, ⟨_, o10⟩, ⟨_, o11⟩, by exact n1, by exact e1, by exact e1, by exact e1, by exact e1, by exact e1, by exact e1, by exact e1, by exact e1⟩ (by exact e1) (by exact e1)
  · clear I o10 o11 hd h2' h3' h5' h6' h7' h8' h10' h11'
    rintro j a hr hj ⟨vx, I, ⟨v10, o10⟩, ⟨v11, o11⟩, hd, h2', h3', h5', h6', h7', h8', h10', h11'⟩ hi hn
    have hjy : j < y.args.length := by omega
    obtain ⟨ba, oa, vera, ra, ea, vsa, hixa, hga0, hva⟩ := ha.at (List.getElem?_eq_getElem hj)
    obtain ⟨bb, ob, verb, rb, eb, vsb, hixb, hgb0, hvb⟩ := hb.at (List.getElem?_eq_getElem hjy)
    have hga := I.grow.keep _ _ hga0
    have hgb := I.grow.keep _ _ hgb0
    have hzl : j < (List.zip x.args y.args).length := by rw [List.length_zip]; omega
    have hwl : (((List.zip x.args y.args).take j).reverse ++ w).length ≤ 2 ^ 36 + 4096 := by
      rw [List.length_append, List.length_reverse, List.length_take]; omega
    have hst : ((List.zip x.args y.args).take (j + 1)).reverse ++ w = (x.args[j], y.args[j]) :: (((List.zip x.args y.args).take j).reverse ++ w) := by
      rw [List.take_succ_eq_append_getElem hzl, List.reverse_append, List.getElem_zip]; rfl
    have hroom : roomA 16 ((((List.zip x.args y.args).take j).reverse ++ w).length + 1) = true := roomP (by omega)
    clear hla hlb hx hw hwl hzl
    replace hxy := Hid.mk hxy
    repeat with_reducible first | refine zAA ?_ | refine zAB ?_ | refine zAC ?_ | refine zAD ?_ | refine zAG ?_ | refine zAV ?_ | (apply dr_pair; exact e1; exact e1) | (apply dr_q; exact q1) | (apply dr_ql; exact q1; exact og1) | (apply st_q; exact q1)
    refine dr_st (st_bslice1 (v := .agg (pairC (x.args[j], y.args[j]))) (cs := pairC (x.args[j], y.args[j])) (by exact e1) rfl rfl rfl I.grow.wf ?_)
    rintro bx h9 hbx g9 ox
    refine zAB ⟨by simp [heldOk, Nat.testBit, g9.keep _ _ o10, g9.keep _ _ o11, g9.keep _ _ hga, g9.keep _ _ hgb], ?_⟩
    have B9 := I.bw.grow g9
    have I9 := I.other g9
    refine dr_st (st_append1 (by exact e1) (by exact e1) B9 ox rfl rfl hroom g9.wf (by have := I9.grow.next; omega) ?_)
    rintro vx' h10 B10 f10 w10 n10 gr10 kp10
    have G10 := gr10 h0 w0 I9.grow (Nat.le_refl _)
    rw [← rowC_cons, ← hst] at B10
    have hll : (((List.zip x.args y.args).take (j + 1)).reverse ++ w).length = (((List.zip x.args y.args).take j).reverse ++ w).length + 1 := by rw [hst]; rfl
    rw [← hll] at B10
    have I10 := I9.push G10 kp10 B10
    have o10' := kp10 _ _ (g9.keep _ _ o10) (built_ne B9 (g9.keep _ _ o10) fun vs hh => by cases hh)
    have o11' := kp10 _ _ (g9.keep _ _ o11) (built_ne B9 (g9.keep _ _ o11) fun vs hh => by cases hh)
    refine zAB ⟨by simp [heldOk, Nat.testBit, o10', o11', G10.keep _ _ hga0, G10.keep _ _ hgb0], ?_⟩
    clear I I9 B9 B10 kp10 gr10 f10 ox o10 o11 hga hgb hga0 hgb0 hixa hixb hva hvb g9 hst hll
    repeat with_reducible first | refine zAA ?_ | refine zAE ?_ | refine dr_nil ?_ | (apply dr_q; exact q1)
    exact ⟨⟨vx', I10, ⟨_, o10'⟩, ⟨_, o11'⟩, by exact n1, by exact e1, by exact e1, by exact e1, by exact e1, by exact e1, by exact e1, by exact e1, by exact e1⟩, by exact e1, by exact e1⟩
  · rintro a hr ⟨vx, I, _, _, k4, k5, k6, k7, k8, k9, k10, _, _⟩
    rw [List.take_of_length_le (by rw [List.length_zip]; omega)] at I
    exact k a hr vx I k4 k5 k6 k7 k8 k9 k10
end
end Go.Ab.S
end
section
/-
  Whether two graphs are the same type: the walk.
-/
namespace Go.Ab.S
open Go.Ab
set_option maxHeartbeats 8000000
section
variable {fns : FuncId → Option AFunc} {summ : FuncId → List AVal → AHeap → Option (D (AVal × AHeap))}
variable (H : Has fns summ)
include H
theorem Same_ok (g h : Graph) (hg : GTi g) (hh : GTi h) (v u : AVal) (h0 : AHeap) (hw : WF h0) (hv : GraphAt h0 v g) (hu : GraphAt h0 u h) : Cl fns summ 12 [v, u] h0 fun r h' => r = .bool (sameF g h) ∧ Grow h0 h' := by
  obtain ⟨nv, rfl, hN⟩ := hv
  obtain ⟨mv, rfl, hM⟩ := hu
  have hlen := hN.len
  have hlem := hM.len
  refine H.go (fn := F_Same) rfl (by decide) rfl rfl ?_
  unfold F_Same
  dsimp only [qQ, qE, qN, gQ, gE, vi]
  refine zAC (zAD ?_)
  refine st_box (by exact e1) (by exact cc) hw ?_
  rintro b2 h2 hb2 g2 o2
  refine st_box (by exact e1) (by exact cc) g2.wf ?_
  rintro b3 h3 hb3 g3 o3
  replace o2 := g3.keep _ _ o2
  have g03 := g2.trans g3
  have hpart : partA (some 2) [nv, .int .i64 g.root] 0 = some (.agg [nv, .int .i64 g.root]) := rfl
  have hpart' : partA (some 2) [mv, .int .i64 h.root] 0 = some (.agg [mv, .int .i64 h.root]) := rfl
  repeat with_reducible first | refine zAA ?_ | refine zAB ?_ | refine zAC ?_ | refine zAD ?_ | (apply st_q; exact q1)
  refine zAT (by exact s1) ((Check_ok H g hg.toGraphSm _ h3 g3.wf ⟨nv, rfl, hN.mono g03⟩).mono ?_)
  rintro _ h4 ⟨rfl, g4⟩
  replace o2 := g4.keep _ _ o2
  replace o3 := g4.keep _ _ o3
  have g04 := g03.trans g4
  cases hck : (checkF g != 0)
  · have hcg : checkF g = 0 := by simpa using hck
    replace hcg := Hid.mk hcg
    repeat with_reducible first | (apply st_q; exact q1) | (apply st_qT; exact e1; exact q1)
    refine st_callT (by exact e1) (by exact s1) ((Check_ok H h hh.toGraphSm _ h4 g4.wf ⟨mv, rfl, hM.mono g04⟩).mono ?_)
    rintro _ h5 ⟨rfl, g5⟩
    replace o2 := g5.keep _ _ o2
    replace o3 := g5.keep _ _ o3
    have g05 := g04.trans g5
    cases hch : (checkF h != 0)
    · have hchh : checkF h = 0 := by simpa using hch
      replace hchh := Hid.mk hchh
      have hres : sameF g h = walkG (okS g h) (nxS g h) (badS g) (2 + leftW (nxS g h) [] (pairsS g h)) [(g.root, h.root)] [] := by
        have h1 : (checkF g == 0) = true := by rw [hcg.out]; rfl
        have h2 : (checkF h == 0) = true := by rw [hchh.out]; rfl
        rw [sameF, h1, h2]; rfl
      replace hres := Hid.mk hres
      repeat with_reducible first | refine zAA ?_ | refine zAB ?_ | refine zAC ?_ | refine zAD ?_ | refine zAK ?_ | (apply st_q; exact q1) | (apply st_qT; exact e1; exact q1) | (apply zAH; exact e1)
      refine st_mkmap (.inl rfl) g5.wf ?_
      rintro r5 h6 hr5 g6 o5
      replace o2 := g6.keep _ _ o2
      replace o3 := g6.keep _ _ o3
      have g06 := g05.trans g6
      have l5 := g6.wf.lt o5
      repeat with_reducible first | refine zAA ?_ | refine zAB ?_ | refine zAC ?_ | refine zAD ?_ | (apply st_q; exact q1)
      refine st_mkmap (.inl rfl) g6.wf ?_
      rintro r6 h7 (hr6 : h6.next ≤ r6) g7 o6
      replace o2 := g7.keep _ _ o2
      replace o3 := g7.keep _ _ o3
      replace o5 := g7.keep _ _ o5
      have l6 := g7.wf.lt o6
      refine st_mkmap (.inl rfl) g7.wf ?_
      rintro r7 h8 (hr7 : h7.next ≤ r7) g8 o7
      replace o2 := g8.keep _ _ o2
      replace o3 := g8.keep _ _ o3
      replace o5 := g8.keep _ _ o5
      replace o6 := g8.keep _ _ o6
      have g08 := (g06.trans g7).trans g8
      repeat with_reducible first | refine zAA ?_ | refine zAB ?_ | refine zAC ?_ | refine zAD ?_ | (apply st_pair; exact e1; exact e1) | (apply st_q; exact q1)
      refine st_bslice1 (v := .agg [.int .i64 g.root, .int .i64 h.root]) (cs := [.int .i64 g.root, .int .i64 h.root]) (by exact e1) rfl rfl rfl g8.wf ?_
      rintro b8 h9 (hb8 : h8.next ≤ b8) g9 o8
      have nx5 := g05.next
      have nx6 := g06.next
      have nx8 := g08.next
      have nx67 := g7.next
      have I0 : SInv h0 b2 b3 r5 r6 r7 nv mv g h [(g.root, h.root)] [] [] [] (.slice (some (b8, 0)) 1) h9 :=
        ⟨g08.trans g9, ⟨_, g9.keep _ _ o2⟩, ⟨_, g9.keep _ _ o3⟩, ⟨_, _, _, g9.keep _ _ o5, MP.zero⟩, ⟨_, _, _, g9.keep _ _ o6, FA.zero⟩, ⟨_, _, _, g9.keep _ _ o7, FA.zero⟩, .inr (.inr ⟨b8, _, _, by omega, rfl, o8, by simp [pairC], rfl⟩), by omega, by omega, by omega, by omega, by omega, by omega⟩
      clear o2 o3 o5 o6 o7 o8 g2 g3 g4 g5 g6 g7 g8 g9 g03 g04 g05 g06 g08 hb2 hb3 hr5 hr6 hr7 hb8 nx5 nx6 nx8 nx67 l5 l6 hpart hpart' hck hch
      obtain ⟨hcg⟩ := hcg
      obtain ⟨hchh⟩ := hchh
      obtain ⟨hres⟩ := hres
      have hrg := check_root hcg
      have hrh := check_root hchh
      have hroot : (g.root, h.root) ∈ pairsS g h := mem_pairsS.2 ⟨⟨hrg.1, hrg.2.1⟩, hrh.1, hrh.2.1⟩
      have hsm : leftW (nxS g h) [] (pairsS g h) ≤ 2 ^ 36 := left_small hg hh fun p _ => by simp [nxS]; omega
      replace hcg := Hid.mk hcg
      replace hchh := Hid.mk hchh
      replace hres := Hid.mk hres
      clear hrg hrh
      repeat with_reducible first | refine zAA ?_ | refine zAB ?_ | refine zAC ?_ | (apply st_q; exact q1)
      with_reducible refine cd_block ?_
      refine cd_loop (fun m a hp => ∃ w met vw, SInv h0 b2 b3 r5 r6 r7 nv mv g h w met (flM g met) ((flM g met).map swP) vw hp ∧ w.length + leftW (nxS g h) met (pairsS g h) < m ∧ w.length + leftW (nxS g h) met (pairsS g h) ≤ 1 + leftW (nxS g h) [] (pairsS g h) ∧ Hid (sameF g h = walkG (okS g h) (nxS g h) (badS g) m w met) ∧ (∀ q ∈ w, q ∈ pairsS g h) ∧ a.defers = [] ∧
        ev a (.tmp 2) = some (.ptr (some (b2, 0))) ∧ ev a (.tmp 3) = some (.ptr (some (b3, 0))) ∧ ev a (.tmp 5) = some (.map (some r5)) ∧ ev a (.tmp 6) = some (.map (some r6)) ∧ ev a (.tmp 7) = some (.map (some r7)) ∧ ev a (.tmp 8) = some vw) ?_ (n := 2 + leftW (nxS g h) [] (pairsS g h))
        ⟨_, _, _, I0, by simp, by simp, hres, by simpa using hroot, by exact n1, by exact e1, by exact e1, by exact e1, by exact e1, by exact e1, by exact e1⟩
      clear I0 hres hroot
      rintro m a hp ⟨w, met, vw, I, hm, hB, hres, hwp, hd, h2', h3', h5', h6', h7', h8'⟩
      have hlw := I.bw.len
      obtain ⟨m, rfl⟩ : ∃ m', m = m' + 1 := ⟨m - 1, by omega⟩
      cases w with
      | nil =>
        have hz : decide (Int.ofNat 0 > 0) = false := rfl
        simp only [List.length_nil] at hlw
        repeat' with_reducible first | refine zAA ?_ | refine zAa ?_ | refine zAZ ?_ | refine zAB ?_ | refine zAC ?_ | refine zAD ?_ | refine cd_exit ?_ | refine zAI ?_ | (apply st_q; exact q1) | (apply zAH; exact e1) | (apply zAJ; exact n1; exact r1)
        exact ⟨by rw [hres.out]; rfl, I.grow⟩
      | cons p w =>
        have hpp := hwp p (by simp)
        have hwp' : ∀ q ∈ w, q ∈ pairsS g h := fun q hq => hwp q (by simp [hq])
        obtain ⟨⟨a0, a1⟩, b0, b1⟩ := mem_pairsS.1 hpp
        obtain ⟨ka, hka, hkaN, hna⟩ := nodeD_at a0 a1
        obtain ⟨kb, hkb, hkbN, hnb⟩ := nodeD_at b0 b1
        have hB36 : w.length ≤ 2 ^ 36 := by simp only [List.length_cons] at hB; omega
        have e36 : (2 : Nat) ^ 36 = 68719476736 := by decide
        simp only [List.length_cons] at hlw hm hB
        have hz : decide (Int.ofNat (w.length + 1) > 0) = true := by simp
        have hw1 : IntKind.i64.wrap (Int.ofNat (w.length + 1) - 1) = (w.length : Int) := by
          simp only [Int.ofNat_eq_natCast]
          rw [wrap_small (by omega) (by omega)]; omega
        obtain ⟨bw, verw, vsw, rfl, hgw, hbw, ⟨hpl, hpw⟩, Bw⟩ := pop_row I.bw
        have hix : slA (.slice (some (bw, 0)) (w.length + 1)) 2 w.length = some (bw, w.length * 2) := by simp [slA]
        have hpc : pairC p = [.int .i64 (ka : Nat), .int .i64 (kb : Nat)] := by rw [pairC, hka, hkb]
        have hpe : p = ((ka : Int), (kb : Int)) := by ext <;> assumption
        rw [hpc] at hpw
        have ht2 : ∀ x y : AVal, List.take 2 [x, y] = [x, y] := fun _ _ => rfl
        clear a0 a1 b0 b1 hwp
        repeat with_reducible first | refine zAA ?_ | refine zAB ?_ | refine zAC ?_ | refine zAD ?_ | refine zAG ?_ | refine zAK ?_ | (apply st_q; exact q1) | (apply zAF; exact e1)
        refine st_alloc I.grow.wf ?_
        rintro b9 h6 hb9 g6 o9
        refine zAM (by exact e1) (by exact e1) (cs := [.int .i64 (ka : Nat), .int .i64 (kb : Nat)]) rfl rfl g6.wf o9 (by simp) rfl ?_
        rintro v7 h7 p7 o9'
        simp only [List.take_zero, List.nil_append, List.length_cons, List.length_nil, List.drop_succ_cons, List.drop_zero, List.append_nil, Nat.zero_add, Nat.reduceAdd, List.drop_nil, List.cons_append] at o9'
        have g7 : Grow hp h7 := p7.grow hp I.grow.wf g6 hb9
        have I7 := (I.row Bw).other g7
        have hp9 : partA (some 2) [AVal.int .i64 (ka : Nat), .int .i64 (kb : Nat)] 0 = some (.agg [.int .i64 (ka : Nat), .int .i64 (kb : Nat)]) := rfl
        clear o9 p7 g6 I Bw hgw hpw hpl hix
        repeat with_reducible first | refine zAA ?_ | refine zAB ?_ | refine zAC ?_ | refine zAD ?_ | (apply st_q; exact q1)
        refine st_sliceHi (by exact e1) (by exact e1) (by omega) ?_
        obtain ⟨v5, es5, c5, o5, f5⟩ := I7.o5
        have hlk5 := f5.look o5 p
        rw [hpc] at hlk5
        cases hmet : met.contains p
        · rw [hmet] at hlk5
          have hnm : p ∉ met := by simpa using hmet
          repeat with_reducible first | refine zAA ?_ | refine zAB ?_ | refine zAC ?_ | refine zAD ?_ | refine zAK ?_ | (apply st_q; exact q1) | (apply zAH; exact e1)
          have hf5 := f5.none hnm
          rw [hpc] at hf5
          refine st_put (by exact e1) (by exact e1) (by exact e1) (by intro hh; cases hh) rfl g7.wf o5 hf5 ?_
          rintro vy h8 py oy
          have fy := f5.put (c := c5) hnm
          rw [hpc] at fy
          have I8 := I7.put5 hw py oy fy
          have o9y := py.kp o5 o9' rfl
          obtain ⟨v2, o2⟩ := I8.o2
          obtain ⟨v3, o3⟩ := I8.o3
          obtain ⟨bn, on, vern, ron, en, vsn, av, lv, hixn, hgn0, hvl, hv5, _, _, _, _, _, hav, hlv⟩ := hN.at (List.getElem?_eq_getElem hkaN)
          obtain ⟨bm, om, verm, rom, em, vsm, bv, mv', hixm, hgm0, hvlm, hv5m, _, _, _, _, _, hbv, hmv⟩ := hM.at (List.getElem?_eq_getElem hkbN)
          have hgn := I8.grow.keep _ _ hgn0
          have hgm := I8.grow.keep _ _ hgm0
          have hmem := List.getElem_mem hkaN
          have hmem' := List.getElem_mem hkbN
          have hla := hav.len
          have hll := hlv.len
          have hlb := hbv.len
          have hlm := hmv.len
          clear hlk5 hf5 o5 o9' hgn0 hgm0 py oy
          repeat with_reducible first | refine zAA ?_ | refine zAB ?_ | refine zAC ?_ | refine zAV ?_ | (apply dr_q; exact q1) | (apply dr_ql; exact q1; exact og1)
          refine dr_st (st_alloc I8.grow.wf ?_)
          rintro b10 h10 hb10 g10 o10
          have w10 := g10.wf
          refine zAB ⟨by simp [heldOk, g10.keep _ _ o2, g10.keep _ _ o9y, g10.keep _ _ hgn, g10.keep _ _ o3, g10.keep _ _ hgm], ?_⟩
          refine dr_st (st_alloc w10 ?_)
          rintro b11 h11 (hb11 : h10.next ≤ b11) g11 o11
          have g811 := g10.trans g11
          refine zAB ⟨by simp [heldOk, g811.keep _ _ o2, g811.keep _ _ o9y, g811.keep _ _ hgn, g811.keep _ _ o3, g811.keep _ _ hgm], ?_⟩
          have l10 := g10.wf.lt o10
          replace o10 := g11.keep _ _ o10
          have nx8 := g10.next
          refine dr_st (zAM (by exact e1) (by exact e1) (cs := [.int .i64 g.nodes[ka].kind, .str g.nodes[ka].name, av, lv, .bool g.nodes[ka].isOpen]) rfl rfl g11.wf o10 (by simp) (ones_node hla hll) ?_)
          rintro v12 h12 p12 o12
          simp only [List.take_zero, List.nil_append, List.length_cons, List.length_nil, List.drop_succ_cons, List.drop_zero, List.append_nil, Nat.zero_add, Nat.reduceAdd, List.drop_nil, List.cons_append] at o12
          have g12 : Grow h8 h12 := p12.grow h8 I8.grow.wf g811 hb10
          have o11' := p12.keep b11 (by omega) _ o11
          refine zAB ⟨by simp [heldOk, g12.keep _ _ o2, g12.keep _ _ o9y, g12.keep _ _ hgn, g12.keep _ _ o3, g12.keep _ _ hgm], ?_⟩
          refine dr_st (zAM (by exact e1) (by exact e1) (cs := [.int .i64 h.nodes[kb].kind, .str h.nodes[kb].name, bv, mv', .bool h.nodes[kb].isOpen]) rfl rfl g12.wf o11' (by simp) (ones_node hlb hlm) ?_)
          rintro v13 h13 p13 o13
          simp only [List.take_zero, List.nil_append, List.length_cons, List.length_nil, List.drop_succ_cons, List.drop_zero, List.append_nil, Nat.zero_add, Nat.reduceAdd, List.drop_nil, List.cons_append] at o13
          have g13 : Grow h8 h13 := p13.grow h8 I8.grow.wf g12 (by omega)
          have o10' := p13.keep b10 (by omega) _ o12
          refine zAB ⟨by simp [heldOk, Nat.testBit], ?_⟩
          have o9z := g13.keep _ _ o9y
          have I13 := I8.other g13
          have ha13 := hav.mono I13.grow
          have hl13 := hlv.mono I13.grow
          have hb13 := hbv.mono I13.grow
          have hm13 := hmv.mono I13.grow
          have hp10 : partA (some 5) [.int .i64 g.nodes[ka].kind, .str g.nodes[ka].name, av, lv, .bool g.nodes[ka].isOpen] 0 = some (nodeV g.nodes[ka] av lv) := rfl
          have hp11 : partA (some 5) [.int .i64 h.nodes[kb].kind, .str h.nodes[kb].name, bv, mv', .bool h.nodes[kb].isOpen] 0 = some (nodeV h.nodes[kb] bv mv') := rfl
          clear o2 o3 hgn hgm o9y o10 o11 o12 o11' p12 p13 g10 g11 g12 g811 hixn hixm hvl hv5 hvlm hv5m w10 hb10 hb11 l10 nx8 I7 I8
          repeat with_reducible first | refine zAA ?_ | refine zAC ?_ | refine zAD ?_ | refine dr_nil ?_ | (apply st_q; exact q1)
          refine zAT (by exact s1) ((alike_ok H g.nodes[ka] h.nodes[kb] (hg.all _ hmem) av lv bv mv' h13 I13.grow.wf ha13 hl13 hb13 hm13).mono ?_)
          rintro _ h14 ⟨rfl, g14⟩
          have I14 := I13.other g14
          replace o9z := g14.keep _ _ o9z
          replace o10' := g14.keep _ _ o10'
          replace o13 := g14.keep _ _ o13
          have hokp : okS g h p = alikeF g.nodes[ka] h.nodes[kb] := by rw [okS, hna, hnb]
          cases hal : alikeF g.nodes[ka] h.nodes[kb]
          · repeat' with_reducible first | refine zAA ?_ | refine zAN ?_ | refine zAU ?_ | refine zAB ?_ | refine zAC ?_ | refine zAD ?_ | refine zAI ?_ | (apply st_q; exact q1) | (apply zAF; exact e1) | (apply zAJ; exact n1; exact r1)
            refine ⟨?_, I14.grow⟩
            rw [hres.out, walkG, hmet, hokp, hal]; rfl
          · repeat with_reducible first | refine zAA ?_ | refine zAB ?_ | refine zAC ?_ | refine zAD ?_ | refine zAK ?_ | (apply st_q; exact q1) | (apply zAH; exact e1)
            refine zAT (by exact s1) ((gfree_ok H g.nodes[ka] av lv h14 I14.grow.wf).mono ?_)
            rintro _ h15 ⟨rfl, g15⟩
            have I15 := I14.other g15
            replace o9z := g15.keep _ _ o9z
            replace o10' := g15.keep _ _ o10'
            replace o13 := g15.keep _ _ o13
            have hxy : Hid (g.nodes[ka].args.length = h.nodes[kb].args.length) := ⟨by
              simp only [alikeF, Bool.and_eq_true, beq_iff_eq] at hal
              exact hal.1.2⟩
            have hokt := Hid.mk (hokp.trans hal)
            clear I13 I14 g14 g15 ha13 hl13 hb13 hm13 hal hokp
            have hfre : freeF (zAL g p.1) = freeF g.nodes[ka] := by rw [hna]
            refine zAB (zAA ?_)
            refine cd_post' (fun a hq => SInv h0 b2 b3 r5 r6 r7 nv mv g h w (met ++ [p]) (flM g (met ++ [p])) ((flM g (met ++ [p])).map swP) (.slice (some (bw, 0)) w.length) hq ∧ met.any (badS g p) = false ∧ (∃ ver, hq.objs.get b10 = some (ver, .cells false 60 [.int .i64 g.nodes[ka].kind, .str g.nodes[ka].name, av, lv, .bool g.nodes[ka].isOpen])) ∧ (∃ ver, hq.objs.get b11 = some (ver, .cells false 60 [.int .i64 h.nodes[kb].kind, .str h.nodes[kb].name, bv, mv', .bool h.nodes[kb].isOpen])) ∧ a.defers = [] ∧
              ev a (.tmp 2) = some (.ptr (some (b2, 0))) ∧ ev a (.tmp 3) = some (.ptr (some (b3, 0))) ∧ ev a (.tmp 5) = some (.map (some r5)) ∧ ev a (.tmp 6) = some (.map (some r6)) ∧ ev a (.tmp 7) = some (.map (some r7)) ∧ ev a (.tmp 8) = some (.slice (some (bw, 0)) w.length) ∧ ev a (.tmp 10) = some (.ptr (some (b10, 0))) ∧ ev a (.tmp 11) = some (.ptr (some (b11, 0)))) ?_ ?_
            · cases hf : freeF g.nodes[ka]
              · rw [hf] at hfre
                have hfl : flM g (met ++ [p]) = flM g met := by rw [flM_put, hfre]; simp
                have hbad := bad_none (met := met) hfre
                repeat with_reducible first | refine zAA ?_ | refine zAK ?_ | (apply zAH; exact e1)
                exact ⟨by rw [hfl]; exact I15, hbad, ⟨_, o10'⟩, ⟨_, o13⟩, by exact n1, by exact e1, by exact e1, by exact e1, by exact e1, by exact e1, by exact e1, by exact e1, by exact e1⟩
              · rw [hf] at hfre
                have hfl : flM g (met ++ [p]) = flM g met ++ [p] := by rw [flM_put, hfre]; simp
                have hany := bad_any hnm hfre
                obtain ⟨v6, es6, c6, o6, f6⟩ := I15.o6
                obtain ⟨v7', es7, c7, o7, f7⟩ := I15.o7
                obtain ⟨xb, hlk6, hxb⟩ := f6.look o6 p.1
                obtain ⟨xa, hlk7, hxa⟩ := f7.look o7 p.2
                cases hb1 : (flM g met).any fun q => q.1 == p.1
                · cases hb2 : ((flM g met).map swP).any fun q => q.1 == p.2
                  · rw [hb1, hka] at hlk6
                    rw [hb2, hkb] at hlk7
                    rw [hb1, hb2] at hany
                    have hn6 := f6.none (a := p.1) fun q hq hh => by
                      have := List.any_eq_false.1 hb1 q hq
                      simp [hh] at this
                    have hn7 := f7.none (a := p.2) fun q hq hh => by
                      have := List.any_eq_false.1 hb2 q hq
                      simp [hh] at this
                    rw [hka] at hn6
                    rw [hkb] at hn7
                    have F6 := f6.put (c := c6) (p := p) fun q hq hh => by
                      have := List.any_eq_false.1 hb1 q hq
                      simp [hh] at this
                    have F7 := f7.put (c := c7) (p := swP p) fun q hq hh => by
                      have := List.any_eq_false.1 hb2 q hq
                      simp [hh, swP] at this
                    simp only [swP] at F7
                    rw [hka, hkb] at F6 F7
                    replace hany := Hid.mk hany
                    clear hb1 hb2 hxa hxb f6 f7
                    repeat with_reducible first | refine zAA ?_ | refine zAB ?_ | refine zAC ?_ | refine zAD ?_ | refine zAK ?_ | refine zAV ?_ | (apply dr_q; exact q1) | (apply dr_ql; exact q1; exact og1) | (apply st_q; exact q1) | (apply st_qT; exact e1; exact q1) | (apply st_qF; exact e1) | (apply zAF; exact e1) | (apply zAH; exact e1)
                    refine dr_st (st_put (by exact e1) (by exact e1) (by exact e1) (by intro hh; cases hh) rfl I15.grow.wf o6 hn6 ?_)
                    rintro vy hy py oy
                    have o7y := py.keep _ (Ne.symm I15.low.2.2.2.2.2) _ o7
                    have Iy := I15.put6 hw py oy F6
                    have o9q := py.kp o6 o9z rfl
                    refine zAB ⟨by simp [heldOk, Nat.testBit, o9q], ?_⟩
                    refine dr_st (st_put (by exact e1) (by exact e1) (by exact e1) (by intro hh; cases hh) rfl Iy.grow.wf o7y hn7 ?_)
                    rintro vz hz' pz oz
                    have Iz := Iy.put7 hw pz oz F7
                    refine zAB ⟨by simp [heldOk, Nat.testBit], ?_⟩
                    have o10z := pz.kp o7y (py.kp o6 o10' rfl) rfl
                    have o13z := pz.kp o7y (py.kp o6 o13 rfl) rfl
                    clear o9q o7y py pz oy oz hn6 hn7 hlk6 hlk7 F6 F7
                    repeat with_reducible first | refine zAA ?_ | refine dr_nil ?_
                    refine ⟨?_, by rw [hany.out]; rfl, ⟨_, o10z⟩, ⟨_, o13z⟩, by exact n1, by exact e1, by exact e1, by exact e1, by exact e1, by exact e1, by exact e1, by exact e1, by exact e1⟩
                    rw [hfl, List.map_append]
                    have hps : List.map swP [p] = [((kb : Int), (ka : Int))] := by rw [hpe]; rfl
                    rw [hps]
                    exact Iz
                  · rw [hb1, hka] at hlk6
                    rw [hb2, hkb] at hlk7
                    have hne : (xa != (ka : Int)) = true := by
                      obtain ⟨q, hq, hq1, hq2⟩ := hxa hb2
                      obtain ⟨q', hq', rfl⟩ := List.mem_map.1 hq
                      simp only [swP] at hq1 hq2
                      rw [bne_iff_ne]
                      rintro rfl
                      refine hnm ?_
                      have : q' = p := by ext <;> simp_all
                      rw [← this]; exact (List.mem_filter.1 hq').1
                    have hne2 : met.any (badS g p) = true := by rw [hany, hb2]; simp
                    clear hany hb1 hb2 hxa hxb f6 f7
                    replace hne2 := Hid.mk hne2
                    repeat' with_reducible first | refine zAA ?_ | refine zAN ?_ | refine zAU ?_ | refine zAB ?_ | refine zAC ?_ | refine zAD ?_ | refine zAI ?_ | (apply st_q; exact q1) | (apply st_qT; exact e1; exact q1) | (apply st_qF; exact e1) | (apply zAF; exact e1) | (apply zAJ; exact n1; exact r1)
                    refine ⟨?_, I15.grow⟩
                    rw [hres.out, walkG, hmet, hne2.out]; simp
                · rw [hb1, hka] at hlk6
                  rw [hkb] at hlk7
                  have hne : (xb != (kb : Int)) = true := by
                    obtain ⟨q, hq, hq1, hq2⟩ := hxb hb1
                    rw [bne_iff_ne]
                    rintro rfl
                    refine hnm ?_
                    have : q = p := by ext <;> simp_all
                    rw [← this]; exact (List.mem_filter.1 hq).1
                  have hne2 : met.any (badS g p) = true := by rw [hany, hb1]; simp
                  clear hany hb1 hxa hxb f6 f7
                  replace hne2 := Hid.mk hne2
                  generalize (((flM g met).map swP).any fun q => q.1 == p.2) = hb2 at hlk7
                  repeat' with_reducible first | refine zAA ?_ | refine zAN ?_ | refine zAU ?_ | refine zAB ?_ | refine zAC ?_ | refine zAD ?_ | refine zAI ?_ | (apply st_q; exact q1) | (apply st_qT; exact e1; exact q1) | (apply st_qF; exact e1) | (apply st_qU; exact e1) | (apply zAF; exact e1) | (apply zAJ; exact n1; exact r1)
                  refine ⟨?_, I15.grow⟩
                  rw [hres.out, walkG, hmet, hne2.out]; simp
            · clear I15 o9z o10' o13 hd h2' h3' h5' h6' h7' h8'
              rintro a hq ⟨I, hbad, o10, o11, hd, h2', h3', h5', h6', h7', h8', h10', h11'⟩
              refine zAA ?_
              have hax : g.nodes[ka].args.length ≤ 4096 := by
                have := leftG_one g.nodes 0 _ hmem
                have := hg.tiny
                omega
              refine push_ok hw I o10 o11 hav hbv hxy.out hax hB36 hd h2' h3' h5' h6' h7' h8' h10' h11' ?_
              clear I o10 o11 hd h2' h3' h5' h6' h7' h8' h10' h11' hax
              intro a hr vw' I hd h2' h3' h5' h6' h7' h8'
              have hnx : nxS g h p = (List.zip g.nodes[ka].args h.nodes[kb].args).reverse := by rw [nxS, hna, hnb]
              have hput := leftW_put (nxS g h) hmet hpp
              rw [← hnx] at I
              repeat with_reducible first | refine zAA ?_ | refine zAE ?_
              refine ⟨m, by omega, _, _, vw', I, by rw [List.length_append]; omega, by rw [List.length_append]; omega, ⟨?_⟩, ?_, by exact n1, by exact e1, by exact e1, by exact e1, by exact e1, by exact e1, by exact e1⟩
              · rw [hres.out, walkG, hmet, hokt.out, hbad]; rfl
              · intro q hq'
                rcases List.mem_append.1 hq' with hq' | hq'
                · exact nxS_in hcg.out hchh.out hpp q hq'
                · exact hwp' q hq'
        · rw [hmet] at hlk5
          repeat with_reducible first | refine zAA ?_ | refine zAa ?_ | refine zAZ ?_ | refine zAB ?_ | refine zAC ?_ | refine zAD ?_ | refine cd_exit ?_ | (apply st_q; exact q1) | (apply zAF; exact e1)
          refine ⟨m, by omega, w, met, _, I7, by omega, by omega, ⟨by rw [hres.out, walkG, hmet]; rfl⟩, hwp', by exact n1, by exact e1, by exact e1, by exact e1, by exact e1, by exact e1, by exact e1⟩
    · repeat' with_reducible first | refine zAA ?_ | refine zAN ?_ | refine zAB ?_ | refine zAC ?_ | refine zAD ?_ | refine zAI ?_ | (apply st_q; exact q1) | (apply st_qT; exact e1; exact q1) | (apply zAF; exact e1) | (apply zAJ; exact n1; exact r1)
      refine ⟨?_, g05⟩
      have h2 : (checkF h == 0) = false := by simpa using hch
      rw [sameF, h2]; simp
  · repeat' with_reducible first | refine zAA ?_ | refine zAN ?_ | refine zAB ?_ | refine zAC ?_ | refine zAD ?_ | refine zAI ?_ | (apply st_q; exact q1) | (apply st_qF; exact e1) | (apply st_eF; exact e1) | (apply zAF; exact e1) | (apply zAJ; exact n1; exact r1)
    refine ⟨?_, g04⟩
    have h1 : (checkF g == 0) = false := by simpa using hck
    rw [sameF, h1]; rfl
end
end Go.Ab.S
end
