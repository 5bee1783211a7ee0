import Derived.Test.YtffgndlognihcaaGreatDoorP15
/-
  Part 16 of the proof.
-/
set_option linter.all false
section
/-
  What is found in a row that rises.
-/
namespace Go.Ab.S
open Go.Ab
set_option maxHeartbeats 8000000
theorem lessL_irr : ∀ s : List Nat, lessL s s = false
  | [] => rfl
  | a :: s => by
    have h1 : Nat.blt a a = false := by
      cases h : Nat.blt a a
      · rfl
      · exact absurd (Nat.blt_eq.mp h) (Nat.lt_irrefl _)
    rw [lessL, h1, Nat.beq_refl]; exact lessL_irr s
theorem lessL_iff : ∀ {x y : List Nat} {a b : Nat}, lessL (a :: x) (b :: y) = true ↔ a < b ∨ (a = b ∧ lessL x y = true) := by
  intro x y a b
  rw [lessL]
  cases h : Nat.blt a b with
  | true =>
    have := Nat.blt_eq.mp h
    simp [this]
  | false =>
    have hn : ¬ a < b := fun hh => by rw [Nat.blt_eq.mpr hh] at h; cases h
    cases h2 : Nat.beq a b with
    | true =>
      have := Nat.eq_of_beq_eq_true h2
      simp [this]
    | false =>
      have : a ≠ b := by rintro rfl; rw [Nat.beq_refl] at h2; cases h2
      simp [hn, this]
theorem lessL_trans : ∀ {x y z : List Nat}, lessL x y = true → lessL y z = true → lessL x z = true
  | _, [], _, h, _ => by cases ‹List Nat› <;> simp [lessL] at h
  | [], _ :: _, [], _, h => by simp [lessL] at h
  | [], _ :: _, _ :: _, _, _ => rfl
  | _ :: _, _ :: _, [], _, h => by simp [lessL] at h
  | a :: x, b :: y, c :: z, h1, h2 => by
    rw [lessL_iff] at h1 h2 ⊢
    rcases h1 with h1 | ⟨rfl, h1⟩ <;> rcases h2 with h2 | ⟨rfl, h2⟩
    · exact .inl (by omega)
    · exact .inl h1
    · exact .inl h2
    · exact .inr ⟨rfl, lessL_trans h1 h2⟩
theorem lessL_tri : ∀ (x y : List Nat), lessL x y = true ∨ x = y ∨ lessL y x = true
  | [], [] => .inr (.inl rfl)
  | [], _ :: _ => .inl rfl
  | _ :: _, [] => .inr (.inr rfl)
  | a :: x, b :: y => by
    rw [lessL_iff, lessL_iff]
    rcases Nat.lt_trichotomy a b with h | rfl | h
    · exact .inl (.inl h)
    · rcases lessL_tri x y with h | rfl | h
      · exact .inl (.inr ⟨rfl, h⟩)
      · exact .inr (.inl rfl)
      · exact .inr (.inr (.inr ⟨rfl, h⟩))
    · exact .inr (.inr (.inl h))
/-- It rises. -/
def Rises (l : List (List Nat)) : Prop := ∀ i j : Nat, i < j → ∀ x y, l[i]? = some x → l[j]? = some y → lessL x y = true
theorem ris_lo : ∀ {l : List (List Nat)} {p : List Nat}, risG (some p) l = true → ∀ x ∈ l, lessL p x = true
  | [], _, _ => by intro x hx; cases hx
  | y :: l, p, h => by
    simp only [risG, Bool.and_eq_true] at h
    intro x hx
    rcases List.mem_cons.1 hx with rfl | hx
    · exact h.1.2
    · exact lessL_trans h.1.2 (ris_lo h.2 x hx)
theorem ris_rises : ∀ {l : List (List Nat)} {p : Option (List Nat)}, risG p l = true → Rises l
  | [], _, _ => by intro i j _ x y hx; simp at hx
  | z :: l, p, h => by
    simp only [risG, Bool.and_eq_true] at h
    intro i j hij x y hx hy
    cases j with
    | zero => omega
    | succ j =>
      have hy' : l[j]? = some y := by simpa using hy
      cases i with
      | zero =>
        have hx' : z = x := by simpa using hx
        rw [← hx']; exact ris_lo h.2 y (List.mem_of_getElem? hy')
      | succ i => exact ris_rises h.2 i j (by omega) x y (by simpa using hx) hy'
/-- How many are ahead of it. -/
def bsAt (l : List (List Nat)) (s : List Nat) : Nat := (l.filter fun x => lessL x s).length
theorem bs_split {l : List (List Nat)} (hr : Rises l) {s : List Nat} {m : Nat} (hm : m ≤ l.length) (h1 : ∀ i x, i < m → l[i]? = some x → lessL x s = true) (h2 : ∀ i x, m ≤ i → l[i]? = some x → lessL x s = false) : bsAt l s = m := by
  unfold bsAt
  have : l.filter (fun x => lessL x s) = l.take m := by
    conv => lhs; rw [← List.take_append_drop m l]
    rw [List.filter_append]
    have e1 : (l.take m).filter (fun x => lessL x s) = l.take m := by
      rw [List.filter_eq_self]
      intro x hx
      obtain ⟨i, hi, rfl⟩ := List.mem_iff_getElem.1 hx
      rw [List.getElem_take]
      simp only [List.length_take] at hi
      exact h1 i _ (by omega) (List.getElem?_eq_getElem (by omega))
    have e2 : (l.drop m).filter (fun x => lessL x s) = [] := by
      rw [List.filter_eq_nil_iff]
      intro x hx
      obtain ⟨i, hi, rfl⟩ := List.mem_iff_getElem.1 hx
      rw [List.getElem_drop]
      simp only [List.length_drop] at hi
      have := h2 (m + i) _ (by omega) (List.getElem?_eq_getElem (by omega))
      rw [this]; simp
    rw [e1, e2, List.append_nil]
  rw [this, List.length_take]; omega
/-- It is found just if it is there, and where. -/
def bsIs (l : List (List Nat)) (s : List Nat) : Bool := match l[bsAt l s]? with | some x => eqL x s | none => false
section
variable {fns : FuncId → Option AFunc} {summ : FuncId → List AVal → AHeap → Option (D (AVal × AHeap))}
variable (H : Has fns summ)
include H
theorem cisNaN_ok (s : List Nat) (h : AHeap) : Cl fns summ 120 [.str s] h fun v h' => v = .bool false ∧ h' = h := by
  have hs : eqL s s = true := eqL_iff.2 rfl
  refine H.go (fn := F_cisNaN) rfl (by decide) rfl rfl ?_
  unfold F_cisNaN
  dsimp only
  repeat' with_reducible first | refine nxt_normal ?_ | refine st_nil ?_ | refine cd_seq ?_ | refine cd_ops ?_ | refine cd_ret ?_ | (apply st_q; exact q1) | (apply fin_ret; exact n1; exact r1)
  exact ⟨rfl, rfl⟩
theorem isNaNs_ok (s : List Nat) (h : AHeap) : Cl fns summ 94 [.str s] h fun v h' => v = .bool false ∧ h' = h := by
  have hs : eqL s s = true := eqL_iff.2 rfl
  refine H.go (fn := F_isNaNs) rfl (by decide) rfl rfl ?_
  unfold F_isNaNs
  dsimp only
  repeat' with_reducible first | refine nxt_normal ?_ | refine st_nil ?_ | refine cd_seq ?_ | refine cd_ops ?_ | refine cd_ret ?_ | (apply st_q; exact q1) | (apply fin_ret; exact n1; exact r1)
  exact ⟨rfl, rfl⟩
theorem cmpLess_ok (s t : List Nat) (h : AHeap) : Cl fns summ 93 [.str s, .str t] h fun v h' => v = .bool (lessL s t) ∧ h' = h := by
  refine H.go (fn := F_cmpLess) rfl (by decide) rfl rfl ?_
  unfold F_cmpLess
  dsimp only
  repeat with_reducible first | refine nxt_normal ?_ | refine st_nil ?_ | refine cd_seq ?_ | refine cd_ops ?_ | (apply st_q; exact q1)
  refine st_call (by exact s1) ((cisNaN_ok H s h).mono ?_)
  rintro _ _ ⟨rfl, rfl⟩
  repeat' with_reducible first | refine nxt_normal ?_ | refine st_nil ?_ | refine cd_ret ?_ | (apply st_q; exact q1) | (apply st_qT; exact e1; exact q1) | (apply st_qF; exact e1) | (apply st_eF; exact e1) | (apply fin_ret; exact n1; exact r1)
  exact ⟨rfl, rfl⟩
theorem BinarySearch_ok (l : List (List Nat)) (hr : Rises l) (hn : l.length < 2 ^ 60) (s : List Nat) (v : AVal) (h : AHeap) (hv : StrsAt h v l) : Cl fns summ 66 [v, .str s] h fun r h' => r = .tuple [.int .i64 (bsAt l s : Nat), .bool (bsIs l s)] ∧ h' = h := by
  have hlen := hv.len
  refine H.go (fn := F_BinarySearch) rfl (by decide) rfl rfl ?_
  unfold F_BinarySearch
  dsimp only
  repeat with_reducible first | refine nxt_normal ?_ | refine st_nil ?_ | refine cd_seq ?_ | refine cd_ops ?_ | (apply st_q; exact q1)
  refine cd_block ?_
  refine cd_loop (fun m a hp => ∃ i j : Nat, hp = h ∧ m = j - i ∧ i ≤ j ∧ j ≤ l.length ∧ (∀ k x, k < i → l[k]? = some x → lessL x s = true) ∧ (∀ k x, j ≤ k → l[k]? = some x → lessL x s = false) ∧ a.defers = [] ∧ ev a (.tmp 0) = some v ∧ ev a (.tmp 1) = some (.str s) ∧ ev a (.tmp 6) = some (.int .i64 (l.length : Nat)) ∧ ev a (.tmp 7) = some (.int .i64 (i : Nat)) ∧ ev a (.tmp 8) = some (.int .i64 (j : Nat))) ?_ (n := l.length)
    ⟨0, l.length, rfl, by omega, by omega, by omega, fun k x hk => by omega, fun k x hk hx => (by rw [List.getElem?_eq_none hk] at hx; cases hx), by exact n1, by exact e1, by exact e1, by exact e1, by exact e1, by exact e1⟩
  rintro m a _ ⟨i, j, rfl, hm, hij, hj, hlo, hhi, hd, h0', h1', h6', h7', h8'⟩
  by_cases hlt : i < j
  · have hdec : decide ((i : Int) < (j : Int)) = true := by simp; omega
    have hmid : (i + j) / 2 < l.length := by omega
    obtain ⟨b, o, ver, ro, e, vs, hix, hget, hvo⟩ := hv.at (List.getElem?_eq_getElem hmid)
    have hw1 : IntKind.i64.wrap ((i : Int) + (j : Int)) = ((i + j : Nat) : Int) := by rw [wrap_small (by omega) (by omega)]; omega
    have hw2 : IntKind.u64.wrap ((i + j : Nat) : Int) = ((i + j : Nat) : Int) := by
      simp only [IntKind.wrap, IntKind.bits, IntKind.signed, Bool.false_and, Bool.false_eq_true, if_false]; omega
    have hsh : ((i + j : Nat) : Int).fdiv (2 ^ min (1 : Int).toNat IntKind.u64.bits) = (((i + j) / 2 : Nat) : Int) := by
      simp only [IntKind.bits]
      show Int.fdiv _ 2 = _
      rw [Int.fdiv_eq_ediv_of_nonneg _ (by omega)]; omega
    have hw3 : IntKind.i64.wrap (((i + j) / 2 : Nat) : Int) = (((i + j) / 2 : Nat) : Int) := by rw [wrap_small (by omega) (by omega)]
    have hw4 : IntKind.i64.wrap ((((i + j) / 2 : Nat) : Int) + 1) = (((i + j) / 2 + 1 : Nat) : Int) := by rw [wrap_small (by omega) (by omega)]; omega
    have hsplit : ∀ x, l[(i + j) / 2]? = some x → ((lessL x s = true → ∀ k y, k < (i + j) / 2 + 1 → l[k]? = some y → lessL y s = true) ∧ (lessL x s = false → ∀ k y, (i + j) / 2 ≤ k → l[k]? = some y → lessL y s = false)) := by
      intro x hx
      refine ⟨fun hh k y hk hy => ?_, fun hh k y hk hy => ?_⟩
      · rcases Nat.lt_or_ge k ((i + j) / 2) with h1 | h1
        · exact lessL_trans (hr k _ h1 y x hy hx) hh
        · have : k = (i + j) / 2 := by omega
          subst this; rw [hx] at hy; cases hy; exact hh
      · rcases Nat.lt_or_ge ((i + j) / 2) k with h1 | h1
        · cases hc : lessL y s with
          | false => rfl
          | true => rw [lessL_trans (hr _ k h1 x y hx hy) hc] at hh; cases hh
        · have : k = (i + j) / 2 := by omega
          subst this; rw [hx] at hy; cases hy; exact hh
    obtain ⟨hs1, hs2⟩ := hsplit _ (List.getElem?_eq_getElem hmid)
    have h01 : (0 : Int) ≤ 1 := by decide
    clear hsplit hlen
    repeat with_reducible first | refine nxt_normal ?_ | refine st_nil ?_ | refine cd_seq ?_ | refine cd_ops ?_ | refine cd_blockS ?_ | refine cd_skip ?_ | (apply st_q; exact q1) | (apply cd_condT; exact e1)
    refine st_call (by exact s1) ((cmpLess_ok H l[(i + j) / 2] s _).mono ?_)
    rintro _ _ ⟨rfl, rfl⟩
    cases hc : lessL l[(i + j) / 2] s
    · repeat with_reducible first | refine nxt_normal ?_ | refine blk_normal ?_ | refine st_nil ?_ | refine cd_ops ?_ | (apply st_q; exact q1) | (apply cd_condF; exact e1)
      exact ⟨(i + j) / 2 - i, by omega, i, (i + j) / 2, rfl, rfl, by omega, by omega, hlo, hs2 hc, by exact n1, by exact e1, by exact e1, by exact e1, by exact e1, by exact e1⟩
    · repeat with_reducible first | refine nxt_normal ?_ | refine blk_normal ?_ | refine st_nil ?_ | refine cd_ops ?_ | (apply st_q; exact q1) | (apply cd_condT; exact e1)
      exact ⟨j - ((i + j) / 2 + 1), by omega, (i + j) / 2 + 1, j, rfl, rfl, by omega, hj, hs1 hc, hhi, by exact n1, by exact e1, by exact e1, by exact e1, by exact e1, by exact e1⟩
  · have hdec : decide ((i : Int) < (j : Int)) = false := by simp; omega
    have hei : i = j := by omega
    subst hei
    have hat := bs_split hr hj hlo hhi
    by_cases hil : i < l.length
    · have hdl : decide ((i : Int) < (l.length : Int)) = true := by simp; omega
      obtain ⟨b, o, ver, ro, e, vs, hix, hget, hvo⟩ := hv.at (List.getElem?_eq_getElem hil)
      have his : bsIs l s = eqL l[i] s := by rw [bsIs, hat, List.getElem?_eq_getElem hil]
      cases hc : eqL l[i] s
      · rw [hc] at his
        repeat with_reducible first | refine nxt_normal ?_ | refine nxt_exit ?_ | refine blk_same ?_ | refine st_nil ?_ | refine cd_seq ?_ | refine cd_ops ?_ | refine cd_exit ?_ | (apply st_q; exact q1) | (apply st_qT; exact e1; exact q1) | (apply cd_condF; exact e1)
        refine st_callT (by exact e1) (by exact s1) ((isNaNs_ok H _ _).mono ?_)
        rintro _ _ ⟨rfl, rfl⟩
        repeat' with_reducible first | refine nxt_normal ?_ | refine st_nil ?_ | refine cd_ret ?_ | (apply st_q; exact q1) | (apply st_qT; exact e1; exact q1) | (apply st_qF; exact e1) | (apply st_eF; exact e1) | (apply fin_ret; exact n1; exact r1)
        exact ⟨by rw [hat, his], rfl⟩
      · rw [hc] at his
        repeat' with_reducible first | refine nxt_normal ?_ | refine nxt_exit ?_ | refine blk_same ?_ | refine st_nil ?_ | refine cd_seq ?_ | refine cd_ops ?_ | refine cd_exit ?_ | refine cd_ret ?_ | (apply st_q; exact q1) | (apply st_qT; exact e1; exact q1) | (apply st_qF; exact e1) | (apply st_qU; exact e1) | (apply st_eF; exact e1) | (apply st_eU; exact e1) | (apply cd_condF; exact e1) | (apply fin_ret; exact n1; exact r1)
        exact ⟨by rw [hat, his], rfl⟩
    · have hdl : decide ((i : Int) < (l.length : Int)) = false := by simp; omega
      have his : bsIs l s = false := by rw [bsIs, hat, List.getElem?_eq_none (by omega)]
      repeat' with_reducible first | refine nxt_normal ?_ | refine nxt_exit ?_ | refine blk_same ?_ | refine st_nil ?_ | refine cd_seq ?_ | refine cd_ops ?_ | refine cd_exit ?_ | refine cd_ret ?_ | (apply st_q; exact q1) | (apply st_qF; exact e1) | (apply st_qU; exact e1) | (apply st_eU; exact e1) | (apply cd_condF; exact e1) | (apply fin_ret; exact n1; exact r1)
      exact ⟨by rw [hat, his], rfl⟩
end
end Go.Ab.S
end
section
/-
  Whether two graphs are the same type.
-/
namespace Go.Ab.S
open Go.Ab
set_option maxHeartbeats 8000000
abbrev Pr := Int × Int
def pairC (p : Pr) : List AVal := [.int .i64 p.1, .int .i64 p.2]
def rowC (w : List Pr) : List AVal := (w.reverse.map pairC).flatten
def pairsS (g h : Graph) : List Pr := (List.range g.nodes.length).flatMap fun (i : Nat) => (List.range h.nodes.length).map fun (j : Nat) => ((i : Int), (j : Int))
theorem mem_pairsS {g h : Graph} {p : Pr} : p ∈ pairsS g h ↔ (0 ≤ p.1 ∧ p.1 < g.nodes.length) ∧ 0 ≤ p.2 ∧ p.2 < h.nodes.length := by
  simp only [pairsS, List.mem_flatMap, List.mem_range, List.mem_map]
  constructor
  · rintro ⟨i, hi, j, hj, rfl⟩; exact ⟨⟨by simp, by simp; omega⟩, by simp, by simp; omega⟩
  · rintro ⟨⟨h1, h2⟩, h3, h4⟩
    exact ⟨p.1.toNat, by omega, p.2.toNat, by omega, by ext <;> simp <;> omega⟩
theorem pairsS_len (g h : Graph) : (pairsS g h).length = g.nodes.length * h.nodes.length := by
  simp only [pairsS, List.length_flatMap, List.length_map, List.length_range]
  generalize g.nodes.length = n
  induction n with
  | zero => simp
  | succ n ih => rw [List.range_succ, List.map_append, List.sum_append, ih, Nat.succ_mul]; simp
theorem leftW_bound {α : Type} [BEq α] {nx : α → List α} {c : Nat} : ∀ {ps : List α}, (∀ p ∈ ps, (nx p).length ≤ c) → leftW nx [] ps ≤ ps.length * c
  | [], _ => by simp [leftW]
  | p :: r, h => by
    have h1 := leftW_bound (ps := r) fun q hq => h q (by simp [hq])
    have h2 := h p (by simp)
    simp only [leftW, List.length_cons, Nat.succ_mul]
    split <;> omega
def okS (g h : Graph) (p : Pr) : Bool := alikeF (nodeD g p.1) (nodeD h p.2)
def nxS (g h : Graph) (p : Pr) : List Pr := (List.zip (nodeD g p.1).args (nodeD h p.2).args).reverse
def badS (g : Graph) (p q : Pr) : Bool := freeF (nodeD g p.1) && (freeF (nodeD g q.1) && (p.1 == q.1 || p.2 == q.2))
def sameF (g h : Graph) : Bool := checkF g == 0 && (checkF h == 0 && walkG (okS g h) (nxS g h) (badS g) (2 + leftW (nxS g h) [] (pairsS g h)) [(g.root, h.root)] [])
theorem nodeD_at {g : Graph} {a : Int} (h0 : 0 ≤ a) (h1 : a < g.nodes.length) : ∃ k : Nat, a = (k : Int) ∧ ∃ hk : k < g.nodes.length, nodeD g a = g.nodes[k] := by
  refine ⟨a.toNat, by omega, by omega, ?_⟩
  simp [nodeD, List.getElem?_eq_getElem (show a.toNat < g.nodes.length by omega)]
theorem nodeD_mem {g : Graph} {a : Int} (h0 : 0 ≤ a) (h1 : a < g.nodes.length) : nodeD g a ∈ g.nodes := by
  obtain ⟨k, _, hk, h⟩ := nodeD_at h0 h1
  rw [h]; exact List.getElem_mem hk
theorem nxS_in {g h : Graph} (hg : checkF g = 0) (hh : checkF h = 0) {p : Pr} (hp : p ∈ pairsS g h) : ∀ q ∈ nxS g h p, q ∈ pairsS g h := by
  intro q hq
  obtain ⟨⟨a0, a1⟩, b0, b1⟩ := mem_pairsS.1 hp
  simp only [nxS, List.mem_reverse] at hq
  have h1 := List.of_mem_zip hq
  have h2 := may_args ((check_ns hg).2 _ (nodeD_mem a0 a1)) _ h1.1
  have h3 := may_args ((check_ns hh).2 _ (nodeD_mem b0 b1)) _ h1.2
  exact mem_pairsS.2 ⟨h2, h3⟩
theorem left_small {g h : Graph} (hg : GTi g) (hh : GTi h) {nx : Pr → List Pr} (hn : ∀ p ∈ pairsS g h, (nx p).length ≤ (nodeD g p.1).args.length) : leftW nx [] (pairsS g h) ≤ 2 ^ 36 := by
  have h1 := leftW_bound (nx := nx) (c := 4096) (ps := pairsS g h) (fun p hp => by
    obtain ⟨⟨a0, a1⟩, _⟩ := mem_pairsS.1 hp
    have := leftG_one g.nodes 0 _ (nodeD_mem a0 a1)
    have := hg.tiny
    have := hn p hp
    omega)
  rw [pairsS_len] at h1
  have h2 := hg.tiny
  have h3 := hh.tiny
  have h4 : g.nodes.length * h.nodes.length ≤ 4096 * 4096 := Nat.mul_le_mul (by omega) (by omega)
  have h5 : (2 : Nat) ^ 36 = 4096 * 4096 * 4096 := by decide
  have h6 := Nat.mul_le_mul_right 4096 h4
  omega
theorem roomP {k : Nat} (hk : k ≤ 2 ^ 37) : roomA 16 k = true := by
  have e37 : (2 : Nat) ^ 37 = 137438953472 := by decide
  have e46 : (2 : Nat) ^ 46 = 70368744177664 := by decide
  simp only [roomA, Bool.and_eq_true]
  exact ⟨rfl, Nat.ble_eq.mpr (by omega)⟩
/-! ### Maps of pairs, and of numbers -/
/-- Pairs that were met. -/
def MP (es : List (AVal × AVal × Nat)) (met : List Pr) : Prop := ∀ p, ∃ i, findA (.agg 2) (.agg (pairC p)) es 0 = some (if p ∈ met then some (i, .bool true) else none)
theorem MP.zero : MP [] [] := fun p => ⟨0, by simp [findA]⟩
theorem key_pair (p q : Pr) : keyA (.agg 2) (.agg (pairC p)) (.agg (pairC q)) = some (decide (p = q)) := by
  obtain ⟨a, b⟩ := p
  obtain ⟨c, d⟩ := q
  simp only [keyA, pairC, List.length_cons, List.length_nil, and_self, if_true, eqCells]
  cases h1 : a == c with
  | false =>
    have : a ≠ c := by simpa using h1
    cases h2 : b == d <;> simp [this]
  | true =>
    have : a = c := by simpa using h1
    cases h2 : b == d with
    | false => have : b ≠ d := by simpa using h2
               simp [this]
    | true => have h3 : b = d := by simpa using h2
              simp [this, h3]
theorem MP.put {es : List (AVal × AVal × Nat)} {met : List Pr} {p : Pr} {c : Nat} (h : MP es met) (hp : p ∉ met) : MP (es ++ [(.agg (pairC p), .bool true, c)]) (met ++ [p]) := fun q => by
  obtain ⟨i, hi⟩ := h q
  by_cases hq : q ∈ met
  · rw [if_pos hq] at hi
    exact ⟨i, by rw [findA_keep es 0 hi, if_pos (List.mem_append.2 (.inl hq))]⟩
  · rw [if_neg hq] at hi
    refine ⟨0 + es.length, ?_⟩
    rw [findA_snoc es 0 hi _ (key_pair q p)]
    by_cases he : q = p
    · rw [if_pos (decide_eq_true he), if_pos (List.mem_append.2 (.inr (List.mem_singleton.2 he)))]
    · rw [if_neg (by simpa using he), if_neg (fun hh => by
        rcases List.mem_append.1 hh with hh | hh
        · exact hq hh
        · exact he (List.mem_singleton.1 hh))]
theorem MP.look {h : AHeap} {r ver c : Nat} {es : List (AVal × AVal × Nat)} {met : List Pr} (hg : h.objs.get r = some (ver, .map es c)) (f : MP es met) (p : Pr) : lookA h (.agg 2) (.bool false) false (.map (some r)) (.agg (pairC p)) = some (.bool (met.contains p), some r) := by
  obtain ⟨i, hi⟩ := f p
  have hk : isKey (.agg 2) (.agg (pairC p)) = true := rfl
  simp only [lookA, hk, hg, hi]
  by_cases hp : p ∈ met
  · simp [hp]
  · simp [hp]
theorem MP.none {es : List (AVal × AVal × Nat)} {met : List Pr} (f : MP es met) {p : Pr} (hp : p ∉ met) : findA (.agg 2) (.agg (pairC p)) es 0 = some none := by
  obtain ⟨i, hi⟩ := f p
  rw [hi, if_neg hp]
/-- Numbers by number. -/
def FA (es : List (AVal × AVal × Nat)) (l : List Pr) : Prop := ∀ a, ∃ r, findA .int (.int .i64 a) es 0 = some r ∧ (r = none → ∀ q ∈ l, q.1 ≠ a) ∧ (∀ i v, r = some (i, v) → ∃ q ∈ l, q.1 = a ∧ v = .int .i64 q.2)
theorem FA.zero : FA [] [] := fun a => ⟨none, rfl, fun _ q hq => (by cases hq), fun i v h => by cases h⟩
theorem FA.put {es : List (AVal × AVal × Nat)} {l : List Pr} {p : Pr} {c : Nat} (h : FA es l) (hp : ∀ q ∈ l, q.1 ≠ p.1) : FA (es ++ [(.int .i64 p.1, .int .i64 p.2, c)]) (l ++ [p]) := fun a => by
  obtain ⟨r, h1, h2, h3⟩ := h a
  cases r with
  | some x =>
    refine ⟨some x, findA_keep es 0 h1, fun hh => (by cases hh), fun i v hv => ?_⟩
    obtain ⟨q, q1, q2⟩ := h3 i v hv
    exact ⟨q, List.mem_append.2 (.inl q1), q2⟩
  | none =>
    have hk : keyA .int (.int .i64 a) (.int .i64 p.1) = some (a == p.1) := by simp [keyA]
    refine ⟨_, findA_snoc es 0 h1 _ hk, ?_, ?_⟩
    · intro hh q hq
      rcases List.mem_append.1 hq with hq | hq
      · exact h2 rfl q hq
      · rw [List.mem_singleton.1 hq]
        rintro rfl
        simp at hh
    · intro i v hv
      split at hv
      · rename_i hap
        simp only [Option.some.injEq, Prod.mk.injEq] at hv
        exact ⟨p, List.mem_append.2 (.inr (List.mem_singleton.2 rfl)), (by simpa using hap : a = p.1).symm, hv.2.symm⟩
      · cases hv
theorem FA.none {es : List (AVal × AVal × Nat)} {l : List Pr} (f : FA es l) {a : Int} (ha : ∀ q ∈ l, q.1 ≠ a) : findA .int (.int .i64 a) es 0 = some none := by
  obtain ⟨r, h1, h2, h3⟩ := f a
  cases r with
  | none => exact h1
  | some x =>
    obtain ⟨q, q1, q2, _⟩ := h3 x.1 x.2 rfl
    exact absurd q2 (ha q q1)
theorem FA.look {h : AHeap} {r ver c : Nat} {es : List (AVal × AVal × Nat)} {l : List Pr} (hg : h.objs.get r = some (ver, .map es c)) (f : FA es l) (a : Int) : ∃ x, lookA h .int (.int .i64 0) true (.map (some r)) (.int .i64 a) = some (.tuple [.int .i64 x, .bool (l.any fun q => q.1 == a)], some r) ∧ ((l.any fun q => q.1 == a) = true → ∃ q ∈ l, q.1 = a ∧ x = q.2) := by
  obtain ⟨y, h1, h2, h3⟩ := f a
  cases y with
  | none =>
    refine ⟨0, ?_, fun hh => ?_⟩
    · have : (l.any fun q => q.1 == a) = false := by
        rw [List.any_eq_false]; intro q hq; simpa using h2 rfl q hq
      simp only [lookA, isKey, hg, h1, this, if_true]
    · obtain ⟨q, hq, hh⟩ := List.any_eq_true.1 hh
      exact absurd (by simpa using hh) (h2 rfl q hq)
  | some x =>
    obtain ⟨q, q1, q2, q3⟩ := h3 x.1 x.2 rfl
    refine ⟨q.2, ?_, fun _ => ⟨q, q1, q2, rfl⟩⟩
    have : (l.any fun q => q.1 == a) = true := List.any_eq_true.2 ⟨q, q1, by simpa using q2⟩
    obtain ⟨i, v⟩ := x
    simp only at q3
    subst q3
    simp only [lookA, isKey, hg, h1, this, if_true]
/-! ### What waits -/
theorem rowC_cons (p : Pr) (w : List Pr) : rowC (p :: w) = rowC w ++ pairC p := by simp [rowC]
theorem rowC_len (w : List Pr) : (rowC w).length = w.length * 2 := by
  induction w with
  | nil => rfl
  | cons p w ih => rw [rowC_cons, List.length_append, ih, List.length_cons, Nat.succ_mul]; rfl
theorem rowC_app (x w : List Pr) : rowC (x.reverse ++ w) = rowC w ++ (x.map pairC).flatten := by simp [rowC]
theorem pop_row {h : AHeap} {base : Nat} {e : TypeId} {vw : AVal} {p : Pr} {w : List Pr} (B : Built h base e 2 vw (w.length + 1) (rowC (p :: w))) : ∃ bw ver vs, vw = .slice (some (bw, 0)) (w.length + 1) ∧ h.objs.get bw = some (ver, .cells false e vs) ∧ base ≤ bw ∧ (w.length * 2 + 2 ≤ vs.length ∧ (vs.drop (w.length * 2)).take 2 = pairC p) ∧ Built h base e 2 (.slice (some (bw, 0)) w.length) w.length (rowC w) := by
  rcases B with ⟨_, hh, _⟩ | ⟨_, hh, _⟩ | ⟨b, vs, ver, h0, h1, h2, h3, h4⟩
  · omega
  · omega
  · refine ⟨b, ver, vs, h1, h2, h0, ?_, .inr (.inr ⟨b, vs, ver, h0, rfl, h2, by omega, ?_⟩)⟩
    · refine ⟨by omega, ?_⟩
      have := congrArg (fun l => l.drop (w.length * 2)) h4
      simp only [List.drop_take, rowC_cons, List.drop_left' (rowC_len w)] at this
      rw [show (w.length + 1) * 2 - w.length * 2 = 2 by omega] at this
      exact this
    · have := congrArg (fun l => l.take (w.length * 2)) h4
      simp only [List.take_take, rowC_cons, List.take_left' (rowC_len w)] at this
      rw [Nat.min_eq_left (by omega)] at this
      exact this
end Go.Ab.S
end
section
/-
  Whether a type is an instance of another one: what is known all the while; arguments.
-/
namespace Go.Ab.S
open Go.Ab
set_option maxHeartbeats 8000000
structure MInv (h0 : AHeap) (bm rm rw : Nat) (nv mv : AVal) (g h : Graph) (w met fl : List Pr) (vw : AVal) (hp : AHeap) : Prop where
  grow : Grow h0 hp
  om : ∃ ver, hp.objs.get bm = some (ver, .cells false 56 [nv, .int .i64 g.root, mv, .int .i64 h.root, .map (some rm), .map (some rw), vw])
  o5 : ∃ ver es c, hp.objs.get rm = some (ver, .map es c) ∧ MP es met
  o6 : ∃ ver es c, hp.objs.get rw = some (ver, .map es c) ∧ FA es fl
  bw : Built hp h0.next 58 2 vw w.length (rowC w)
  low : h0.next ≤ bm ∧ h0.next ≤ rm ∧ h0.next ≤ rw ∧ rm ≠ rw
section
variable {h0 : AHeap} {bm rm rw : Nat} {nv mv : AVal} {g h : Graph} {w w' met fl : List Pr} {vw vw' : AVal} {hp hq : AHeap} (I : MInv h0 bm rm rw nv mv g h w met fl vw hp)
include I
theorem MInv.other (gr : Grow hp hq) : MInv h0 bm rm rw nv mv g h w met fl vw hq := by
  obtain ⟨vm, km⟩ := I.om
  obtain ⟨v5, e5, c5, k5, f5⟩ := I.o5
  obtain ⟨v6, e6, c6, k6, f6⟩ := I.o6
  exact ⟨I.grow.trans gr, ⟨vm, gr.keep _ _ km⟩, ⟨_, _, _, gr.keep _ _ k5, f5⟩, ⟨_, _, _, gr.keep _ _ k6, f6⟩, I.bw.grow gr, I.low⟩
/-- Another row, and the block that tells where it lies. -/
theorem MInv.row (gr : Grow h0 hq) (kp : ∀ c p, hp.objs.get c = some p → tagO p.2 = 0 → hq.objs.get c = some p) (om : ∃ ver, hq.objs.get bm = some (ver, .cells false 56 [nv, .int .i64 g.root, mv, .int .i64 h.root, .map (some rm), .map (some rw), vw']))
    (B : Built hq h0.next 58 2 vw' w'.length (rowC w')) : MInv h0 bm rm rw nv mv g h w' met fl vw' hq := by
  obtain ⟨v5, e5, c5, k5, f5⟩ := I.o5
  obtain ⟨v6, e6, c6, k6, f6⟩ := I.o6
  exact ⟨gr, om, ⟨_, _, _, kp _ _ k5 rfl, f5⟩, ⟨_, _, _, kp _ _ k6 rfl, f6⟩, B, I.low⟩
theorem MInv.put5 (w0 : WF h0) {ver : Nat} {es : List (AVal × AVal × Nat)} {c : Nat} {met' : List Pr} (p : But rm hp hq) (o : hq.objs.get rm = some (ver, .map es c)) (f : MP es met') : MInv h0 bm rm rw nv mv g h w met' fl vw hq := by
  obtain ⟨vm, km⟩ := I.om
  obtain ⟨v5, e5, c5, k5, f5⟩ := I.o5
  obtain ⟨v6, e6, c6, k6, f6⟩ := I.o6
  obtain ⟨l4, l5, l6, n56⟩ := I.low
  exact ⟨p.grow h0 w0 I.grow l5, ⟨_, p.kp k5 km rfl⟩, ⟨_, _, _, o, f⟩, ⟨_, _, _, p.keep _ (Ne.symm n56) _ k6, f6⟩, built_but I.bw p k5 (fun vs hh => by cases hh), l4, l5, l6, n56⟩
theorem MInv.put6 (w0 : WF h0) {ver : Nat} {es : List (AVal × AVal × Nat)} {c : Nat} {fl' : List Pr} (p : But rw hp hq) (o : hq.objs.get rw = some (ver, .map es c)) (f : FA es fl') : MInv h0 bm rm rw nv mv g h w met fl' vw hq := by
  obtain ⟨vm, km⟩ := I.om
  obtain ⟨v5, e5, c5, k5, f5⟩ := I.o5
  obtain ⟨v6, e6, c6, k6, f6⟩ := I.o6
  obtain ⟨l4, l5, l6, n56⟩ := I.low
  exact ⟨p.grow h0 w0 I.grow l6, ⟨_, p.kp k6 km rfl⟩, ⟨_, _, _, p.keep _ n56 _ k5, f5⟩, ⟨_, _, _, o, f⟩, built_but I.bw p k6 (fun vs hh => by cases hh), l4, l5, l6, n56⟩
end
theorem cd_postR {fns : FuncId → Option AFunc} {summ : FuncId → List AVal → AHeap → Option (D (AVal × AHeap))} {ro : Option Nat} {c : ACode} {a : AAct} {h : AHeap} {Q : AExit → AAct → AHeap → Prop} (I : AAct → AHeap → Prop) (k1 : Cd fns summ ro c a h (nxt I Q)) (k2 : ∀ a h, I a h → Q .normal a h) : Cd fns summ ro c a h Q :=
  k1.mono fun e a1 h1 hq => by cases e with
    | normal => exact k2 a1 h1 hq
    | ret => exact hq
    | exit i => exact hq
/-- Where the i-th argument's fellow stands. -/
def idxI (x y : Node) (i : Nat) : Nat := if x.kind == 3 then bsAt y.labels (x.labels.getD i []) else i
def argsOk (x y : Node) : Bool := if x.kind == 3 then x.labels.all (bsIs y.labels) else true
def fwdI (x y : Node) : List Pr := (List.range x.args.length).map fun i => (x.args.getD i 0, y.args.getD (idxI x y i) 0)
/-- May their arguments be held against each other? -/
structure Fit (x y : Node) : Prop where
  obj : x.kind = 3 → x.labels.length = x.args.length ∧ y.labels.length = y.args.length ∧ Rises y.labels
  con : x.kind ≠ 3 → y.args.length = x.args.length
  small : x.args.length ≤ 4096 ∧ y.args.length ≤ 4096
theorem bsIs_lt {l : List (List Nat)} {s : List Nat} (h : bsIs l s = true) : bsAt l s < l.length := by
  unfold bsIs at h
  split at h
  · rename_i x hx; exact (List.getElem?_eq_some_iff.1 hx).1
  · cases h
section
variable {fns : FuncId → Option AFunc} {summ : FuncId → List AVal → AHeap → Option (D (AVal × AHeap))}
variable (H : Has fns summ)
include H
theorem margs_ok {h0 : AHeap} {bm rm rw : Nat} {nv mv : AVal} {g h : Graph} {w met fl : List Pr} {vw : AVal} {hp : AHeap} (w0 : WF h0) (I : MInv h0 bm rm rw nv mv g h w met fl vw hp) (x y : Node) (hxy : Fit x y) (av lv bv mv' : AVal) (ha : IntsAt h0 av x.args) (hl : StrsAt h0 lv x.labels) (hb : IntsAt h0 bv y.args) (hm : StrsAt h0 mv' y.labels) (hw : w.length ≤ 2 ^ 36) :
    Cl fns summ 44 [.ptr (some (bm, 0)), nodeV x av lv, nodeV y bv mv'] hp fun r h' => (r = .bool true ∧ argsOk x y = true ∧ ∃ vw', MInv h0 bm rm rw nv mv g h ((fwdI x y).reverse ++ w) met fl vw' h') ∨ (r = .bool false ∧ argsOk x y = false ∧ Grow h0 h') := by
  have hla := ha.len
  have hlb := hb.len
  have hll := hl.len
  have hlm := hm.len
  have e36 : (2 : Nat) ^ 36 = 68719476736 := by decide
  have e37 : (2 : Nat) ^ 37 = 137438953472 := by decide
  have hsm := hxy.small
  unfold nodeV
  refine H.go (fn := F_margs) rfl (by decide) rfl rfl ?_
  unfold F_margs
  dsimp only
  refine cd_seq (cd_ops ?_)
  refine st_box (by exact e1) (by exact cc) I.grow.wf ?_
  rintro b4 h4 hb4 g4 o4
  refine st_box (by exact e1) (by exact cc) g4.wf ?_
  rintro b5 h5 (hb5 : h4.next ≤ b5) g5 o5
  have l4 := g4.wf.lt o4
  replace o4 := g5.keep _ _ o4
  have I5 := (I.other g4).other g5
  have nx := I.grow.next
  have nx4 := g4.next
  clear I g4 g5
  repeat with_reducible first | refine nxt_normal ?_ | refine st_nil ?_ | refine cd_seq ?_ | refine cd_ops ?_ | (apply st_q; exact q1)
  refine cd_count (N := x.args.length) (by omega) (fun j a hr => ∃ vx, MInv h0 bm rm rw nv mv g h (((fwdI x y).take j).reverse ++ w) met fl vx hr ∧ Hid (x.kind = 3 → ∀ s ∈ x.labels.take j, bsIs y.labels s = true) ∧ (∃ ver, hr.objs.get b4 = some (ver, .cells false 34 [.int .i64 x.kind, .str x.name, av, lv, .bool x.isOpen])) ∧ (∃ ver, hr.objs.get b5 = some (ver, .cells false 34 [.int .i64 y.kind, .str y.name, bv, mv', .bool y.isOpen])) ∧ a.defers = [] ∧
      ev a (.tmp 0) = some (.ptr (some (bm, 0))) ∧ ev a (.tmp 4) = some (.ptr (some (b4, 0))) ∧ ev a (.tmp 5) = some (.ptr (some (b5, 0))) ∧ ev a (.tmp 13) = some av)
    (by rintro j a hp t w (rfl | rfl | rfl) ⟨vx, k1, k2, k3, k4, k5, k6, k7, k8, k9⟩ <;> exact ⟨vx, k1, k2, k3, k4, by rw [defers_put]; exact k5, by exact e1, by exact e1, by exact e1, by exact e1⟩) (by decide) ?_ ?_ ⟨vw, by simpa using I5, ⟨fun _ s hs => by simp at hs⟩, ⟨_, o4⟩, ⟨_, o5⟩, by exact n1, by exact e1, by exact e1, by exact e1, by exact e1⟩ (by exact e1) (by exact e1)
  · clear I5 o4 o5
    rintro j a hr hj ⟨vx, I, hfound, ⟨v4, o4⟩, ⟨v5, o5⟩, hd, h0', h4', h5', h13⟩ hi hn
    obtain ⟨ba, oa, vera, ra, ea, vsa, hixa, hga0, hva⟩ := ha.at (List.getElem?_eq_getElem hj)
    have hga := I.grow.keep _ _ hga0
    have hzl : j < (fwdI x y).length := by simp [fwdI]; exact hj
    have hwl : (((fwdI x y).take j).reverse ++ w).length ≤ 2 ^ 36 + 4096 := by
      rw [List.length_append, List.length_reverse, List.length_take]; omega
    have hfj : (fwdI x y)[j] = (x.args[j], y.args.getD (idxI x y j) 0) := by
      simp only [fwdI, List.getElem_map, List.getElem_range, List.getD, List.getElem?_eq_getElem hj]; rfl
    have hst : ((fwdI x y).take (j + 1)).reverse ++ w = (x.args[j], y.args.getD (idxI x y j) 0) :: (((fwdI x y).take j).reverse ++ w) := by
      rw [List.take_succ_eq_append_getElem hzl, List.reverse_append, hfj]; rfl
    have hroom : roomA 16 ((((fwdI x y).take j).reverse ++ w).length + 1) = true := roomP (by omega)
    replace hst := Hid.mk hst
    clear hfj hzl hwl e36 e37
    obtain ⟨vm, om⟩ := I.om
    repeat with_reducible first | refine nxt_normal ?_ | refine st_nil ?_ | refine cd_seq ?_ | refine cd_ops ?_ | refine cd_blockS ?_ | (apply st_q; exact q1)
    refine cd_postR (fun a hq => hq = hr ∧ Hid (x.kind = 3 → ∀ s ∈ x.labels.take (j + 1), bsIs y.labels s = true) ∧ Hid (idxI x y j < y.args.length) ∧ a.defers = [] ∧ ev a (.tmp 0) = some (.ptr (some (bm, 0))) ∧ ev a (.tmp 4) = some (.ptr (some (b4, 0))) ∧ ev a (.tmp 5) = some (.ptr (some (b5, 0))) ∧ ev a (.tmp 13) = some av ∧ ev a (.tmp 8) = some (.int .i64 x.args[j]) ∧ ev a (.tmp 9) = some (.int .i64 (idxI x y j : Nat)) ∧ ev a (.tmp 15) = some (.int .i64 (j : Nat)) ∧ ev a (.tmp 14) = some (.int .i64 (x.args.length : Nat))) ?_ ?_
    · cases hk : (x.kind == 3)
      · have hidx : j = idxI x y j := by rw [idxI, hk]; rfl
        have hidx' : (j : Int) = ((idxI x y j : Nat) : Int) := by rw [← hidx]
        have hk3 : x.kind ≠ 3 := by simpa using hk
        have hlt : idxI x y j < y.args.length := by rw [← hidx, hxy.con hk3]; exact hj
        clear hidx
        repeat with_reducible first | refine nxt_normal ?_ | refine cd_skip ?_ | (apply cd_condF; exact e1)
        exact ⟨rfl, ⟨fun hh => absurd hh hk3⟩, ⟨hlt⟩, by exact n1, by exact e1, by exact e1, by exact e1, by exact e1, by exact e1, by rw [← hidx']; exact e1, by exact e1, by exact e1⟩
      · have hk3 : x.kind = 3 := by simpa using hk
        obtain ⟨q1, q2, q3⟩ := hxy.obj hk3
        have hjl : j < x.labels.length := by omega
        have hidx : idxI x y j = bsAt y.labels x.labels[j] := by rw [idxI, hk]; simp [List.getD, List.getElem?_eq_getElem hjl]
        obtain ⟨bl, ol, verl, rl, el, vsl, hixl, hgl0, hvl⟩ := hl.at (List.getElem?_eq_getElem hjl)
        have hgl := I.grow.keep _ _ hgl0
        have hpc := Hid.mk (And.intro hk3 (And.intro q1 q2))
        clear hk3 q1 q2
        repeat with_reducible first | refine cd_seq ?_ | refine cd_draw ?_ | (apply dr_q; exact q1) | (apply dr_ql; exact q1; exact og1) | (apply cd_condT; exact e1)
        refine dr_e (ex_callF (by exact s1) ((BinarySearch_ok H y.labels q3 (by have := hpc.out; omega) x.labels[j] mv' hr (hm.mono I.grow)).mono ?_))
        rintro _ _ ⟨rfl, rfl⟩
        refine ⟨by simp [heldOk, Nat.testBit, o4, o5, hgl], ?_⟩
        cases hbs : bsIs y.labels x.labels[j]
        · repeat' with_reducible first | refine nxt_normal ?_ | refine nxt_ret ?_ | refine blk_ret ?_ | refine st_nil ?_ | refine cd_seq ?_ | refine cd_ops ?_ | refine cd_ret ?_ | refine dr_nil ?_ | (apply dr_q; exact q1) | (apply st_q; exact q1) | (apply cd_condT; exact e1) | (apply fin_ret; exact n1; exact r1)
          refine .inr ⟨rfl, ?_, I.grow⟩
          rw [argsOk, hk]
          simp only [if_true]
          rw [List.all_eq_false]
          exact ⟨_, List.getElem_mem hjl, by simpa using hbs⟩
        · have hlt := bsIs_lt hbs
          repeat with_reducible first | refine nxt_normal ?_ | refine st_nil ?_ | refine cd_seq ?_ | refine cd_ops ?_ | refine cd_skip ?_ | refine dr_nil ?_ | (apply dr_q; exact q1) | (apply st_q; exact q1) | (apply cd_condF; exact e1)
          refine ⟨rfl, ⟨fun hh s hs => ?_⟩, ⟨by rw [hidx]; have := hpc.out; omega⟩, by exact n1, by exact e1, by exact e1, by exact e1, by exact e1, by exact e1, by rw [hidx]; exact e1, by exact e1, by exact e1⟩
          rw [List.take_succ_eq_append_getElem hjl] at hs
          rcases List.mem_append.1 hs with hs | hs
          · exact hfound.out hh s hs
          · rw [List.mem_singleton.1 hs]; exact hbs
    · clear hfound hd h0' h4' h5' h13 hi hn hixa hga hga0 hva
      rintro a hq ⟨rfl, hfound, hlt, hd, h0', h4', h5', h13, h8', h9', hi, hn⟩
      refine nxt_normal ?_
      have hgd : y.args.getD (idxI x y j) 0 = y.args[idxI x y j]'hlt.out := by simp [List.getD, List.getElem?_eq_getElem hlt.out]
      obtain ⟨bb, ob, verb, rb, eb, vsb, hixb, hgb0, hvb⟩ := hb.at (List.getElem?_eq_getElem hlt.out)
      have hgb := I.grow.keep _ _ hgb0
      obtain ⟨hst⟩ := hst
      rw [hgd] at hst
      replace hst := Hid.mk hst
      clear hgd
      generalize hyv : y.args[idxI x y j]'hlt.out = yv at *
      clear hyv
      generalize hkj : idxI x y j = kj at *
      clear hkj
      repeat with_reducible first | refine cd_draw ?_ | (apply dr_pair; exact e1; exact e1) | (apply dr_q; exact q1) | (apply dr_ql; exact q1; exact og1)
      refine dr_st (st_bslice1 (v := .agg (pairC (x.args[j], yv))) (cs := pairC (x.args[j], yv)) (by exact e1) rfl rfl rfl I.grow.wf ?_)
      rintro bx h9 hbx g9 ox
      refine st_nil ⟨by simp [heldOk, Nat.testBit, g9.keep _ _ om, g9.keep _ _ o5, g9.keep _ _ hgb], ?_⟩
      have B9 := I.bw.grow g9
      have I9 := I.other g9
      refine dr_st (st_append1 (by exact e1) (by exact e1) B9 ox rfl rfl hroom g9.wf (by have := I9.grow.next; omega) ?_)
      rintro vx' h10 B10 f10 w10 n10 gr10 kp10
      have G10 := gr10 h0 w0 I9.grow (Nat.le_refl _)
      rw [← rowC_cons, ← hst.out] at B10
      have hll : (((fwdI x y).take (j + 1)).reverse ++ w).length = (((fwdI x y).take j).reverse ++ w).length + 1 := by rw [hst.out]; rfl
      rw [← hll] at B10
      have kk : ∀ c p, hq.objs.get c = some p → (∀ vs, p.2 ≠ .cells false 58 vs) → h10.objs.get c = some p := fun c p hc hne => kp10 _ _ (g9.keep _ _ hc) (built_ne B9 (g9.keep _ _ hc) hne)
      have om10 := kk _ _ om (fun vs hh => by cases hh)
      have o4' := kk _ _ o4 (fun vs hh => by cases hh)
      have o5' := kk _ _ o5 (fun vs hh => by cases hh)
      have hv10 := B10.len
      refine st_nil ⟨by simp [heldOk, Nat.testBit, o5', G10.keep _ _ hgb0], ?_⟩
      repeat with_reducible (apply dr_q; exact q1)
      refine dr_st (st_store (by exact e1) (by exact e1) (cells_of_len hv10) rfl w10 om10 (by simp) (by simp only [List.all_cons, List.all_nil, one_of_len hv10, Bool.and_true]) ?_)
      rintro v11 h11 p11 o11
      simp only [List.take_succ_cons, List.take_zero, List.nil_append, List.length_cons, List.length_nil, List.drop_succ_cons, List.drop_zero, List.append_nil, Nat.zero_add, Nat.reduceAdd, List.drop_nil, List.cons_append] at o11
      have G11 := p11.grow h0 w0 G10 I.low.1
      have I11 : MInv h0 bm rm rw nv mv g h (((fwdI x y).take (j + 1)).reverse ++ w) met fl vx' h11 := I.row G11 (fun c p hc ht => p11.kp om10 (kk c p hc (fun vs hh => by rw [hh] at ht; simp [tagO] at ht)) (by rw [ht]; rfl)) ⟨_, o11⟩ (built_but B10 p11 om10 (fun vs hh => by cases hh))
      refine st_nil ⟨by simp [heldOk, Nat.testBit], ?_⟩
      have o4'' := p11.kp om10 o4' rfl
      have o5'' := p11.kp om10 o5' rfl
      clear I I9 B9 B10 kp10 gr10 f10 ox om om10 o4 o5 o4' o5' hgb hgb0 hixb hvb g9 hst hll kk p11 o11 hv10
      repeat with_reducible first | refine nxt_normal ?_ | refine blk_normal ?_ | refine dr_nil ?_
      exact ⟨⟨vx', I11, hfound, ⟨_, o4''⟩, ⟨_, o5''⟩, by exact n1, by exact e1, by exact e1, by exact e1, by exact e1⟩, by exact e1, by exact e1⟩
  · rintro a hr ⟨vx, I, hfound, _, _, hd, _, _, _, _⟩
    have hfl : (fwdI x y).take x.args.length = fwdI x y := List.take_of_length_le (by simp [fwdI])
    rw [hfl] at I
    repeat' with_reducible first | refine nxt_normal ?_ | refine st_nil ?_ | refine cd_seq ?_ | refine cd_ops ?_ | refine cd_ret ?_ | (apply st_q; exact q1) | (apply fin_ret; exact n1; exact r1)
    refine .inl ⟨rfl, ?_, vx, I⟩
    unfold argsOk
    split
    · rename_i hk
      have hk : x.kind = 3 := by simpa using hk
      rw [List.all_eq_true]
      intro s hs
      have := hfound.out hk s
      rw [List.take_of_length_le (by have := hxy.obj hk; omega)] at this
      exact this hs
    · rfl
end
end Go.Ab.S
end
section
/-
  Whether a type is an instance of another one: a pair.
-/
namespace Go.Ab.S
open Go.Ab
set_option maxHeartbeats 8000000
def okN (x y : Node) : Bool := x.kind == 1 || (((x.kind == y.kind && eqL x.name y.name) && (x.isOpen || (!y.isOpen && eqLL x.labels y.labels))) && argsOk x y)
def nxN (x y : Node) : List Pr := if x.kind == 1 then [] else (fwdI x y).reverse
def okI (g h : Graph) (p : Pr) : Bool := okN (nodeD g p.1) (nodeD h p.2)
def nxI (g h : Graph) (p : Pr) : List Pr := nxN (nodeD g p.1) (nodeD h p.2)
def badI (g : Graph) (p q : Pr) : Bool := cfreeF (nodeD g p.1) && p.1 == q.1
def flI (g : Graph) (met : List Pr) : List Pr := met.filter fun q => cfreeF (nodeD g q.1)
theorem flI_put (g : Graph) (met : List Pr) (p : Pr) : flI g (met ++ [p]) = flI g met ++ (if cfreeF (nodeD g p.1) then [p] else []) := by
  simp only [flI, List.filter_append]
  congr 1
  cases h : cfreeF (nodeD g p.1) <;> simp [h]
theorem badI_any {g : Graph} {met : List Pr} {p : Pr} (hf : cfreeF (nodeD g p.1) = true) : met.any (badI g p) = ((flI g met).any fun q => q.1 == p.1) := by
  unfold flI
  rw [Bool.eq_iff_iff]
  simp only [List.any_eq_true, badI, hf, Bool.true_and, List.mem_filter, beq_iff_eq]
  constructor
  · rintro ⟨q, hq, h⟩; exact ⟨q, ⟨hq, by rw [← h]; exact hf⟩, h.symm⟩
  · rintro ⟨q, ⟨hq, _⟩, h⟩; exact ⟨q, hq, h.symm⟩
theorem badI_none {g : Graph} {met : List Pr} {p : Pr} (hf : cfreeF (nodeD g p.1) = false) : met.any (badI g p) = false := by
  rw [List.any_eq_false]; intro q _; simp [badI, hf]
theorem fit_of {g h : Graph} (hg : GTi g) (hh : GTi h) (cg : checkF g = 0) (ch : checkF h = 0) {x y : Node} (hx : x ∈ g.nodes) (hy : y ∈ h.nodes) (hk : x.kind = y.kind) (hn : x.name = y.name) (h1 : x.kind ≠ 1) : Fit x y := by
  have mx := may_kind ((check_ns cg).2 x hx)
  have my := may_kind ((check_ns ch).2 y hy)
  have s1 := leftG_one g.nodes 0 x hx
  have s2 := leftG_one h.nodes 0 y hy
  have t1 := hg.tiny
  have t2 := hh.tiny
  refine ⟨fun hk3 => ?_, fun hk3 => ?_, by omega, by omega⟩
  · rcases mx with ⟨k, _⟩ | ⟨k, _⟩ | ⟨k, _, l1, _⟩
    · omega
    · omega
    rcases my with ⟨k', _⟩ | ⟨k', _⟩ | ⟨k', _, l2, r2⟩
    · omega
    · omega
    exact ⟨l1, l2, ris_rises r2⟩
  · rcases mx with ⟨k, _⟩ | ⟨k, _, _, _, l1⟩ | ⟨k, _, l1, _⟩
    · omega
    · rcases my with ⟨k', _⟩ | ⟨k', _, _, _, l2⟩ | ⟨k', _, _⟩
      · omega
      · rw [l1, l2, hn]
      · omega
    · omega
section
variable {fns : FuncId → Option AFunc} {summ : FuncId → List AVal → AHeap → Option (D (AVal × AHeap))}
variable (H : Has fns summ)
include H
theorem match_ok {h0 : AHeap} {bm rm rw : Nat} {nv mv : AVal} {g h : Graph} {w met : List Pr} {vw : AVal} {hp : AHeap} (w0 : WF h0) (hg : GTi g) (hh : GTi h) (cg : Hid (checkF g = 0)) (ch : Hid (checkF h = 0)) (hN : NodesAt h0 nv g.nodes) (hM : NodesAt h0 mv h.nodes) (I : MInv h0 bm rm rw nv mv g h w met (flI g met) vw hp) (p : Pr) (hpp : p ∈ pairsS g h) (hw : w.length ≤ 2 ^ 36) :
    Cl fns summ 25 [.ptr (some (bm, 0)), .agg (pairC p)] hp fun r h' => (met.contains p = true ∧ r = .bool true ∧ ∃ vw', MInv h0 bm rm rw nv mv g h w met (flI g met) vw' h') ∨ (met.contains p = false ∧ ((r = .bool true ∧ okI g h p = true ∧ met.any (badI g p) = false ∧ ∃ vw', MInv h0 bm rm rw nv mv g h (nxI g h p ++ w) (met ++ [p]) (flI g (met ++ [p])) vw' h') ∨
      (r = .bool false ∧ (okI g h p && !(met.any (badI g p))) = false ∧ Grow h0 h'))) := by
  obtain ⟨⟨a0, a1⟩, b0, b1⟩ := mem_pairsS.1 hpp
  obtain ⟨ka, hka, hkaN, hna⟩ := nodeD_at a0 a1
  obtain ⟨kb, hkb, hkbN, hnb⟩ := nodeD_at b0 b1
  have hpc : pairC p = [.int .i64 (ka : Nat), .int .i64 (kb : Nat)] := by rw [pairC, hka, hkb]
  have ht2 : ∀ x y : AVal, List.take 2 [x, y] = [x, y] := fun _ _ => rfl
  clear a0 a1 b0 b1
  rw [hpc]
  refine H.go (fn := F_match) rfl (by decide) rfl rfl ?_
  unfold F_match
  dsimp only
  refine cd_seq (cd_ops ?_)
  refine st_box (by exact e1) (by exact cc) I.grow.wf ?_
  rintro b3 h3 hb3 g3 o3
  have I3 := I.other g3
  obtain ⟨vm, om⟩ := I3.om
  obtain ⟨v5, es5, c5, o5, f5⟩ := I3.o5
  have hlk5 := f5.look o5 p
  rw [hpc] at hlk5
  cases hmet : met.contains p
  · rw [hmet] at hlk5
    have hnm : p ∉ met := by simpa using hmet
    have hf5 := f5.none hnm
    rw [hpc] at hf5
    repeat with_reducible first | refine nxt_normal ?_ | refine st_nil ?_ | refine cd_seq ?_ | refine cd_skip ?_ | refine dr_nil ?_ | refine cd_draw ?_ | (apply dr_q; exact q1) | (apply dr_ql; exact q1; exact og1) | (apply st_q; exact q1) | (apply cd_condF; exact e1)
    refine dr_st (st_put (by exact e1) (by exact e1) (by exact e1) (by intro hh; cases hh) rfl I3.grow.wf o5 hf5 ?_)
    rintro vy h8 py oy
    have fy := f5.put (c := c5) hnm
    rw [hpc] at fy
    have I8 := I3.put5 w0 py oy fy
    replace o3 := py.kp o5 o3 rfl
    refine st_nil ⟨by simp [heldOk, Nat.testBit], ?_⟩
    obtain ⟨vm, om⟩ := I8.om
    obtain ⟨bn, on, vern, ron, en, vsn, av, lv, hixn, hgn0, hvl, hv5, _, _, _, _, _, hav, hlv⟩ := hN.at (List.getElem?_eq_getElem hkaN)
    obtain ⟨bq, oq, verm, rom, em, vsm, bv, mv', hixm, hgm0, hvlm, hv5m, _, _, _, _, _, hbv, hmv⟩ := hM.at (List.getElem?_eq_getElem hkbN)
    have hgn := I8.grow.keep _ _ hgn0
    have hgm := I8.grow.keep _ _ hgm0
    have hmem := List.getElem_mem hkaN
    have hmem' := List.getElem_mem hkbN
    have hla := hav.len
    have hll := hlv.len
    have hlb := hbv.len
    have hlm := hmv.len
    clear hlk5 hf5 o5 hgn0 hgm0 py oy I I3 g3 fy f5
    repeat with_reducible first | refine nxt_normal ?_ | refine cd_seq ?_ | refine dr_nil ?_ | refine cd_draw ?_ | (apply dr_q; exact q1) | (apply dr_ql; exact q1; exact og1)
    refine dr_st (st_alloc I8.grow.wf ?_)
    rintro b10 h10 hb10 g10 o10
    have w10 := g10.wf
    refine st_nil ⟨by simp [heldOk, Nat.testBit, g10.keep _ _ om, g10.keep _ _ o3, g10.keep _ _ hgn, g10.keep _ _ hgm], ?_⟩
    refine dr_st (st_alloc w10 ?_)
    rintro b11 h11 (hb11 : h10.next ≤ b11) g11 o11
    have g811 := g10.trans g11
    refine st_nil ⟨by simp [heldOk, Nat.testBit, g811.keep _ _ om, g811.keep _ _ o3, g811.keep _ _ hgn, g811.keep _ _ hgm], ?_⟩
    have l10 := g10.wf.lt o10
    replace o10 := g11.keep _ _ o10
    have nx8 := g10.next
    refine dr_st (st_store (by exact e1) (by exact e1) (cs := [.int .i64 g.nodes[ka].kind, .str g.nodes[ka].name, av, lv, .bool g.nodes[ka].isOpen]) rfl rfl g11.wf o10 (by simp) (ones_node hla hll) ?_)
    rintro v12 h12 p12 o12
    simp only [List.take_zero, List.nil_append, List.length_cons, List.length_nil, List.drop_succ_cons, List.drop_zero, List.append_nil, Nat.zero_add, Nat.reduceAdd, List.drop_nil, List.cons_append] at o12
    have g12 : Grow h8 h12 := p12.grow h8 I8.grow.wf g811 hb10
    have o11' := p12.keep b11 (by omega) _ o11
    refine st_nil ⟨by simp [heldOk, Nat.testBit, g12.keep _ _ om, g12.keep _ _ o3, g12.keep _ _ hgn, g12.keep _ _ hgm], ?_⟩
    refine dr_st (st_store (by exact e1) (by exact e1) (cs := [.int .i64 h.nodes[kb].kind, .str h.nodes[kb].name, bv, mv', .bool h.nodes[kb].isOpen]) rfl rfl g12.wf o11' (by simp) (ones_node hlb hlm) ?_)
    rintro v13 h13 p13 o13
    simp only [List.take_zero, List.nil_append, List.length_cons, List.length_nil, List.drop_succ_cons, List.drop_zero, List.append_nil, Nat.zero_add, Nat.reduceAdd, List.drop_nil, List.cons_append] at o13
    have g13 : Grow h8 h13 := p13.grow h8 I8.grow.wf g12 (by omega)
    have o10' := p13.keep b10 (by omega) _ o12
    refine st_nil ⟨by simp [heldOk, Nat.testBit], ?_⟩
    have o3z := g13.keep _ _ o3
    have I13 := I8.other g13
    have hp10 : partA (some 5) [.int .i64 g.nodes[ka].kind, .str g.nodes[ka].name, av, lv, .bool g.nodes[ka].isOpen] 0 = some (nodeV g.nodes[ka] av lv) := rfl
    have hp11 : partA (some 5) [.int .i64 h.nodes[kb].kind, .str h.nodes[kb].name, bv, mv', .bool h.nodes[kb].isOpen] 0 = some (nodeV h.nodes[kb] bv mv') := rfl
    clear om o3 hgn hgm o10 o11 o12 o11' p12 p13 g10 g11 g12 g13 g811 hixn hixm hvl hv5 hvlm hv5m w10 hb10 hb11 l10 nx8 I8
    have hfre : cfreeF (nodeD g p.1) = (g.nodes[ka].kind == 1 || g.nodes[ka].isOpen) := by rw [hna]; rfl
    have hokp : okI g h p = okN g.nodes[ka] h.nodes[kb] := by rw [okI, hna, hnb]
    have hnxp : nxI g h p = nxN g.nodes[ka] h.nodes[kb] := by rw [nxI, hna, hnb]
    refine dr_nil (nxt_normal ?_)
    refine cd_seq ?_
    refine cd_postR (fun a hq => MInv h0 bm rm rw nv mv g h w (met ++ [p]) (flI g (met ++ [p])) vw hq ∧ met.any (badI g p) = false ∧ (∃ ver, hq.objs.get b10 = some (ver, .cells false 34 [.int .i64 g.nodes[ka].kind, .str g.nodes[ka].name, av, lv, .bool g.nodes[ka].isOpen])) ∧ (∃ ver, hq.objs.get b11 = some (ver, .cells false 34 [.int .i64 h.nodes[kb].kind, .str h.nodes[kb].name, bv, mv', .bool h.nodes[kb].isOpen])) ∧ a.defers = [] ∧
      ev a (.tmp 0) = some (.ptr (some (bm, 0))) ∧ ev a (.tmp 5) = some (.ptr (some (b10, 0))) ∧ ev a (.tmp 6) = some (.ptr (some (b11, 0)))) ?_ ?_
    · cases hf : (g.nodes[ka].kind == 1 || g.nodes[ka].isOpen)
      · rw [hf] at hfre
        have hfl : flI g (met ++ [p]) = flI g met := by rw [flI_put, hfre]; simp
        have hbad := badI_none (met := met) hfre
        repeat with_reducible first | refine nxt_normal ?_ | refine st_nil ?_ | refine cd_seq ?_ | refine cd_ops ?_ | refine cd_skip ?_ | (apply st_q; exact q1) | (apply st_pO; exact e1; exact e2) | (apply st_qS; exact e1; exact g1; exact q2) | (apply cd_condF; exact e1)
        exact ⟨by rw [hfl]; exact I13, hbad, ⟨_, o10'⟩, ⟨_, o13⟩, by exact n1, by exact e1, by exact e1, by exact e1⟩
      · rw [hf] at hfre
        have hfl : flI g (met ++ [p]) = flI g met ++ [p] := by rw [flI_put, hfre]; simp
        have hany := badI_any (met := met) hfre
        obtain ⟨v6, es6, c6, o6, f6⟩ := I13.o6
        obtain ⟨vm, om⟩ := I13.om
        obtain ⟨xb, hlk6, hxb⟩ := f6.look o6 p.1
        cases hb1 : (flI g met).any fun q => q.1 == p.1
        · rw [hb1, hka] at hlk6
          rw [hb1] at hany
          have hn6 := f6.none (a := p.1) fun q hq hh => by
            have := List.any_eq_false.1 hb1 q hq
            simp [hh] at this
          rw [hka] at hn6
          have F6 := f6.put (c := c6) (p := p) fun q hq hh => by
            have := List.any_eq_false.1 hb1 q hq
            simp [hh] at this
          rw [hka, hkb] at F6
          replace hany := Hid.mk hany
          clear hb1 hxb f6
          repeat with_reducible first | refine nxt_normal ?_ | refine st_nil ?_ | refine cd_seq ?_ | refine cd_ops ?_ | refine cd_skip ?_ | refine dr_nil ?_ | refine cd_draw ?_ | (apply dr_q; exact q1) | (apply dr_ql; exact q1; exact og1) | (apply st_q; exact q1) | (apply st_pO; exact e1; exact e2) | (apply st_qF; exact e1) | (apply st_qS; exact e1; exact g1; exact q2) | (apply cd_condT; exact e1) | (apply cd_condF; exact e1)
          refine dr_st (st_put (by exact e1) (by exact e1) (by exact e1) (by intro hh; cases hh) rfl I13.grow.wf o6 hn6 ?_)
          rintro vy hy py oy
          have Iy := I13.put6 w0 py oy F6
          refine st_nil ⟨by simp [heldOk, Nat.testBit], ?_⟩
          have o10y := py.kp o6 o10' rfl
          have o13y := py.kp o6 o13 rfl
          clear o6 om py oy hn6 hlk6 F6 o10' o13
          repeat with_reducible first | refine nxt_normal ?_ | refine dr_nil ?_
          exact ⟨by rw [hfl]; exact Iy, hany.out, ⟨_, o10y⟩, ⟨_, o13y⟩, by exact n1, by exact e1, by exact e1, by exact e1⟩
        · rw [hb1, hka] at hlk6
          have hne : (xb != (kb : Int)) = true := by
            obtain ⟨q, hq, hq1, hq2⟩ := hxb hb1
            rw [bne_iff_ne]
            rintro rfl
            refine hnm ?_
            have : q = p := by ext <;> simp_all
            rw [← this]; exact (List.mem_filter.1 hq).1
          have hne2 : met.any (badI g p) = true := by rw [hany, hb1]
          clear hany hb1 hxb f6
          replace hne2 := Hid.mk hne2
          replace hmet := Hid.mk hmet
          repeat' with_reducible first | refine nxt_normal ?_ | refine nxt_ret ?_ | refine st_nil ?_ | refine cd_seq ?_ | refine cd_ops ?_ | refine cd_ret ?_ | refine dr_nil ?_ | refine cd_draw ?_ | (apply dr_q; exact q1) | (apply dr_ql; exact q1; exact og1) | (apply st_q; exact q1) | (apply st_pO; exact e1; exact e2) | (apply st_qT; exact e1; exact q1) | (apply st_qS; exact e1; exact g1; exact q2) | (apply cd_condT; exact e1) | (apply fin_ret; exact n1; exact r1)
          exact .inr ⟨rfl, .inr ⟨rfl, by rw [hne2.out]; simp, I13.grow⟩⟩
    · clear I13 o3z o10' o13
      rintro a hq ⟨I, hbad, ⟨v10, o10⟩, ⟨v11, o11⟩, hd, h0', h5', h6'⟩
      replace hmet := Hid.mk hmet
      replace hbad := Hid.mk hbad
      cases hk1 : (g.nodes[ka].kind == 1)
      · have hok1 : okN g.nodes[ka] h.nodes[kb] = (((g.nodes[ka].kind == h.nodes[kb].kind && eqL g.nodes[ka].name h.nodes[kb].name) && (g.nodes[ka].isOpen || (!h.nodes[kb].isOpen && eqLL g.nodes[ka].labels h.nodes[kb].labels))) && argsOk g.nodes[ka] h.nodes[kb]) := by rw [okN, hk1]; rfl
        have hnx1 : nxN g.nodes[ka] h.nodes[kb] = (fwdI g.nodes[ka] h.nodes[kb]).reverse := by rw [nxN, hk1]; rfl
        replace hok1 := Hid.mk hok1
        replace hnx1 := Hid.mk hnx1
        replace hokp := Hid.mk hokp
        replace hnxp := Hid.mk hnxp
        cases hkd : (g.nodes[ka].kind == h.nodes[kb].kind)
        · have hkd' : (g.nodes[ka].kind != h.nodes[kb].kind) = true := by rw [bne, hkd]; rfl
          replace hkd := Hid.mk hkd
          repeat' with_reducible first | refine nxt_normal ?_ | refine nxt_ret ?_ | refine blk_ret ?_ | refine st_nil ?_ | refine cd_seq ?_ | refine cd_ops ?_ | refine cd_blockS ?_ | refine cd_ret ?_ | (apply st_q; exact q1) | (apply st_qF; exact e1) | (apply cd_condT; exact e1) | (apply cd_condF; exact e1) | (apply fin_ret; exact n1; exact r1)
          exact .inr ⟨rfl, .inr ⟨rfl, by rw [hokp.out, hok1.out, hkd.out]; simp, I.grow⟩⟩
        · have hkd' : (g.nodes[ka].kind != h.nodes[kb].kind) = false := by rw [bne, hkd]; rfl
          replace hkd := Hid.mk hkd
          cases hnm' : eqL g.nodes[ka].name h.nodes[kb].name
          · repeat' with_reducible first | refine nxt_normal ?_ | refine nxt_ret ?_ | refine blk_ret ?_ | refine st_nil ?_ | refine cd_seq ?_ | refine cd_ops ?_ | refine cd_blockS ?_ | refine cd_ret ?_ | (apply st_q; exact q1) | (apply st_qT; exact e1; exact q1) | (apply cd_condT; exact e1) | (apply cd_condF; exact e1) | (apply fin_ret; exact n1; exact r1)
            exact .inr ⟨rfl, .inr ⟨rfl, by rw [hokp.out, hok1.out, hnm']; simp, I.grow⟩⟩
          · have hfit : Hid (Fit g.nodes[ka] h.nodes[kb]) := ⟨fit_of hg hh cg.out ch.out hmem hmem' (by simpa using hkd.out) (eqL_iff.1 hnm') (by simpa using hk1)⟩
            cases hxo : g.nodes[ka].isOpen
            · cases hyo : h.nodes[kb].isOpen
              · repeat with_reducible first | refine nxt_normal ?_ | refine st_nil ?_ | refine cd_seq ?_ | refine cd_ops ?_ | refine cd_blockS ?_ | (apply st_q; exact q1) | (apply st_qT; exact e1; exact q1) | (apply cd_condF; exact e1)
                refine st_callT (by exact e1) (by exact s1) ((EqualStr_ok H g.nodes[ka].labels h.nodes[kb].labels (hg.all _ hmem).labels lv mv' hq (hlv.mono I.grow) (hmv.mono I.grow)).mono ?_)
                rintro _ _ ⟨rfl, rfl⟩
                cases hll2 : eqLL g.nodes[ka].labels h.nodes[kb].labels
                · repeat' with_reducible first | refine nxt_normal ?_ | refine nxt_ret ?_ | refine blk_ret ?_ | refine st_nil ?_ | refine cd_seq ?_ | refine cd_ops ?_ | refine cd_ret ?_ | (apply st_q; exact q1) | (apply st_qT; exact e1; exact q1) | (apply cd_condT; exact e1) | (apply fin_ret; exact n1; exact r1)
                  exact .inr ⟨rfl, .inr ⟨rfl, by rw [hokp.out, hok1.out, hxo, hll2]; simp, I.grow⟩⟩
                · repeat with_reducible first | refine nxt_normal ?_ | refine blk_normal ?_ | refine st_nil ?_ | refine cd_seq ?_ | refine cd_ops ?_ | refine cd_skip ?_ | (apply st_q; exact q1) | (apply st_qT; exact e1; exact q1) | (apply cd_condF; exact e1)
                  refine st_call (by unfold nodeV; rw [hxo, hyo]; exact s1) ((margs_ok H w0 I g.nodes[ka] h.nodes[kb] hfit.out av lv bv mv' hav hlv hbv hmv hw).mono ?_)
                  rintro _ hz (⟨rfl, hao, vw', Iz⟩ | ⟨rfl, hao, gz⟩)
                  · replace hao := Hid.mk hao
                    clear I o10 o11
                    repeat' with_reducible first | refine nxt_normal ?_ | refine st_nil ?_ | refine cd_ret ?_ | (apply st_q; exact q1) | (apply fin_ret; exact n1; exact r1)
                    exact .inr ⟨rfl, .inl ⟨rfl, by simp [hokp.out, hok1.out, hkd.out, hnm', hxo, hyo, hll2, hao.out], hbad.out, vw', by rw [hnxp.out, hnx1.out]; exact Iz⟩⟩
                  · replace hao := Hid.mk hao
                    clear I o10 o11
                    repeat' with_reducible first | refine nxt_normal ?_ | refine st_nil ?_ | refine cd_ret ?_ | (apply st_q; exact q1) | (apply fin_ret; exact n1; exact r1)
                    exact .inr ⟨rfl, .inr ⟨rfl, by simp [hokp.out, hok1.out, hao.out], gz⟩⟩
              · repeat' with_reducible first | refine nxt_normal ?_ | refine nxt_ret ?_ | refine blk_ret ?_ | refine st_nil ?_ | refine cd_seq ?_ | refine cd_ops ?_ | refine cd_blockS ?_ | refine cd_ret ?_ | (apply st_q; exact q1) | (apply st_qT; exact e1; exact q1) | (apply st_qF; exact e1) | (apply st_eF; exact e1) | (apply cd_condT; exact e1) | (apply cd_condF; exact e1) | (apply fin_ret; exact n1; exact r1)
                exact .inr ⟨rfl, .inr ⟨rfl, by rw [hokp.out, hok1.out, hxo, hyo]; simp, I.grow⟩⟩
            · repeat with_reducible first | refine nxt_normal ?_ | refine blk_normal ?_ | refine st_nil ?_ | refine cd_seq ?_ | refine cd_ops ?_ | refine cd_blockS ?_ | refine cd_skip ?_ | (apply st_q; exact q1) | (apply st_qT; exact e1; exact q1) | (apply st_qF; exact e1) | (apply st_qU; exact e1) | (apply st_eU; exact e1) | (apply cd_condF; exact e1)
              refine st_call (by unfold nodeV; rw [hxo]; exact s1) ((margs_ok H w0 I g.nodes[ka] h.nodes[kb] hfit.out av lv bv mv' hav hlv hbv hmv hw).mono ?_)
              rintro _ hz (⟨rfl, hao, vw', Iz⟩ | ⟨rfl, hao, gz⟩)
              · replace hao := Hid.mk hao
                clear I o10 o11
                repeat' with_reducible first | refine nxt_normal ?_ | refine st_nil ?_ | refine cd_ret ?_ | (apply st_q; exact q1) | (apply fin_ret; exact n1; exact r1)
                exact .inr ⟨rfl, .inl ⟨rfl, by simp [hokp.out, hok1.out, hkd.out, hnm', hxo, hao.out], hbad.out, vw', by rw [hnxp.out, hnx1.out]; exact Iz⟩⟩
              · replace hao := Hid.mk hao
                clear I o10 o11
                repeat' with_reducible first | refine nxt_normal ?_ | refine st_nil ?_ | refine cd_ret ?_ | (apply st_q; exact q1) | (apply fin_ret; exact n1; exact r1)
                exact .inr ⟨rfl, .inr ⟨rfl, by simp [hokp.out, hok1.out, hao.out], gz⟩⟩
      · have hok1 : okN g.nodes[ka] h.nodes[kb] = true := by rw [okN, hk1]; rfl
        have hnx1 : nxN g.nodes[ka] h.nodes[kb] = [] := by rw [nxN, hk1]; rfl
        replace hok1 := Hid.mk hok1
        replace hnx1 := Hid.mk hnx1
        replace hokp := Hid.mk hokp
        replace hnxp := Hid.mk hnxp
        repeat' with_reducible first | refine nxt_normal ?_ | refine nxt_ret ?_ | refine blk_ret ?_ | refine st_nil ?_ | refine cd_seq ?_ | refine cd_ops ?_ | refine cd_blockS ?_ | refine cd_ret ?_ | (apply st_q; exact q1) | (apply cd_condT; exact e1) | (apply fin_ret; exact n1; exact r1)
        exact .inr ⟨rfl, .inl ⟨rfl, by rw [hokp.out, hok1.out], hbad.out, vw, by rw [hnxp.out, hnx1.out]; exact I⟩⟩
  · rw [hmet] at hlk5
    repeat' with_reducible first | refine nxt_normal ?_ | refine nxt_ret ?_ | refine st_nil ?_ | refine cd_seq ?_ | refine cd_ops ?_ | refine cd_ret ?_ | refine dr_nil ?_ | refine cd_draw ?_ | (apply dr_q; exact q1) | (apply dr_ql; exact q1; exact og1) | (apply st_q; exact q1) | (apply cd_condT; exact e1) | (apply fin_ret; exact n1; exact r1)
    exact .inl ⟨rfl, rfl, vw, I3⟩
end
end Go.Ab.S
end
