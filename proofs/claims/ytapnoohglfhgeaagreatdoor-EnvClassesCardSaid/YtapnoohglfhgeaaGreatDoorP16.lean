import Derived.Test.YtapnoohglfhgeaaGreatDoorP15
/-
  Part 16 of the proof.
-/
set_option linter.all false
section
/-
  What is found in a row that rises.
-/
namespace Go.Ab.S
open Go.Ab
set_option maxHeartbeats 8000000
theorem lessL_irr : ∀ s : List Nat, lessL s s = false
  | [] => rfl
  | a :: s => by
    have h1 : Nat.blt a a = false := by
      cases h : Nat.blt a a
      · rfl
      · exact absurd (Nat.blt_eq.mp h) (Nat.lt_irrefl _)
    rw [lessL, h1, Nat.beq_refl]; exact lessL_irr s
theorem lessL_iff : ∀ {x y : List Nat} {a b : Nat}, lessL (a :: x) (b :: y) = true ↔ a < b ∨ (a = b ∧ lessL x y = true) := by
  intro x y a b
  rw [lessL]
  cases h : Nat.blt a b with
  | true =>
    have := Nat.blt_eq.mp h
    simp [this]
  | false =>
    have hn : ¬ a < b := fun hh => by rw [Nat.blt_eq.mpr hh] at h; cases h
    cases h2 : Nat.beq a b with
    | true =>
      have := Nat.eq_of_beq_eq_true h2
      simp [this]
    | false =>
      have : a ≠ b := by rintro rfl; rw [Nat.beq_refl] at h2; cases h2
      simp [hn, this]
theorem lessL_trans : ∀ {x y z : List Nat}, lessL x y = true → lessL y z = true → lessL x z = true
  | _, [], _, h, _ => by cases ‹List Nat› <;> simp [lessL] at h
  | [], _ :: _, [], _, h => by simp [lessL] at h
  | [], _ :: _, _ :: _, _, _ => rfl
  | _ :: _, _ :: _, [], _, h => by simp [lessL] at h
  | a :: x, b :: y, c :: z, h1, h2 => by
    rw [lessL_iff] at h1 h2 ⊢
    rcases h1 with h1 | ⟨rfl, h1⟩ <;> rcases h2 with h2 | ⟨rfl, h2⟩
    · exact .inl (by omega)
    · exact .inl h1
    · exact .inl h2
    · exact .inr ⟨rfl, lessL_trans h1 h2⟩
theorem lessL_tri : ∀ (x y : List Nat), lessL x y = true ∨ x = y ∨ lessL y x = true
  | [], [] => .inr (.inl rfl)
  | [], _ :: _ => .inl rfl
  | _ :: _, [] => .inr (.inr rfl)
  | a :: x, b :: y => by
    rw [lessL_iff, lessL_iff]
    rcases Nat.lt_trichotomy a b with h | rfl | h
    · exact .inl (.inl h)
    · rcases lessL_tri x y with h | rfl | h
      · exact .inl (.inr ⟨rfl, h⟩)
      · exact .inr (.inl rfl)
      · exact .inr (.inr (.inr ⟨rfl, h⟩))
    · exact .inr (.inr (.inl h))
/-- It rises. -/
def Rises (l : List (List Nat)) : Prop := ∀ i j : Nat, i < j → ∀ x y, l[i]? = some x → l[j]? = some y → lessL x y = true
theorem ris_lo : ∀ {l : List (List Nat)} {p : List Nat}, risG (some p) l = true → ∀ x ∈ l, lessL p x = true
  | [], _, _ => by intro x hx; cases hx
  | y :: l, p, h => by
    simp only [risG, Bool.and_eq_true] at h
    intro x hx
    rcases List.mem_cons.1 hx with rfl | hx
    · exact h.1.2
    · exact lessL_trans h.1.2 (ris_lo h.2 x hx)
theorem ris_rises : ∀ {l : List (List Nat)} {p : Option (List Nat)}, risG p l = true → Rises l
  | [], _, _ => by intro i j _ x y hx; simp at hx
  | z :: l, p, h => by
    simp only [risG, Bool.and_eq_true] at h
    intro i j hij x y hx hy
    cases j with
    | zero => omega
    | succ j =>
      have hy' : l[j]? = some y := by simpa using hy
      cases i with
      | zero =>
        have hx' : z = x := by simpa using hx
        rw [← hx']; exact ris_lo h.2 y (List.mem_of_getElem? hy')
      | succ i => exact ris_rises h.2 i j (by omega) x y (by simpa using hx) hy'
/-- How many are ahead of it. -/
def bsAt (l : List (List Nat)) (s : List Nat) : Nat := (l.filter fun x => lessL x s).length
theorem bs_split {l : List (List Nat)} (hr : Rises l) {s : List Nat} {m : Nat} (hm : m ≤ l.length) (h1 : ∀ i x, i < m → l[i]? = some x → lessL x s = true) (h2 : ∀ i x, m ≤ i → l[i]? = some x → lessL x s = false) : bsAt l s = m := by
  unfold bsAt
  have : l.filter (fun x => lessL x s) = l.take m := by
    conv => lhs; rw [← List.take_append_drop m l]
    rw [List.filter_append]
    have e1 : (l.take m).filter (fun x => lessL x s) = l.take m := by
      rw [List.filter_eq_self]
      intro x hx
      obtain ⟨i, hi, rfl⟩ := List.mem_iff_getElem.1 hx
      rw [List.getElem_take]
      simp only [List.length_take] at hi
      exact h1 i _ (by omega) (List.getElem?_eq_getElem (by omega))
    have e2 : (l.drop m).filter (fun x => lessL x s) = [] := by
      rw [List.filter_eq_nil_iff]
      intro x hx
      obtain ⟨i, hi, rfl⟩ := List.mem_iff_getElem.1 hx
      rw [List.getElem_drop]
      simp only [List.length_drop] at hi
      have := h2 (m + i) _ (by omega) (List.getElem?_eq_getElem (by omega))
      rw [this]; simp
    rw [e1, e2, List.append_nil]
  rw [this, List.length_take]; omega
/-- It is found just if it is there, and where. -/
def bsIs (l : List (List Nat)) (s : List Nat) : Bool := match l[bsAt l s]? with | some x => eqL x s | none => false
section
variable {fns : FuncId → Option AFunc} {summ : FuncId → List AVal → AHeap → Option (D (AVal × AHeap))}
variable (H : Has fns summ)
include H
theorem cisNaN_ok (s : List Nat) (h : AHeap) : Cl fns summ 131 [.str s] h fun v h' => v = .bool false ∧ h' = h := by
  have hs : eqL s s = true := eqL_iff.2 rfl
  refine H.go (fn := F_cisNaN) rfl (by decide) rfl rfl ?_
  unfold F_cisNaN
  dsimp only [qQ, qE, qN, gQ, gE, vi]
  repeat' with_reducible first | refine zAA ?_ | refine zAB ?_ | refine zAC ?_ | refine zAD ?_ | refine zAG ?_ | (apply st_q; exact q1) | (apply zAE; exact n1; exact r1)
  exact ⟨rfl, rfl⟩
theorem isNaNs_ok (s : List Nat) (h : AHeap) : Cl fns summ 207 [.str s] h fun v h' => v = .bool false ∧ h' = h := by
  have hs : eqL s s = true := eqL_iff.2 rfl
  refine H.go (fn := F_isNaNs) rfl (by decide) rfl rfl ?_
  unfold F_isNaNs
  dsimp only [qQ, qE, qN, gQ, gE, vi]
  repeat' with_reducible first | refine zAA ?_ | refine zAB ?_ | refine zAC ?_ | refine zAD ?_ | refine zAG ?_ | (apply st_q; exact q1) | (apply zAE; exact n1; exact r1)
  exact ⟨rfl, rfl⟩
theorem cmpLess_ok (s t : List Nat) (h : AHeap) : Cl fns summ 93 [.str s, .str t] h fun v h' => v = .bool (lessL s t) ∧ h' = h := by
  refine H.go (fn := F_cmpLess) rfl (by decide) rfl rfl ?_
  unfold F_cmpLess
  dsimp only [qQ, qE, qN, gQ, gE, vi]
  repeat with_reducible first | refine zAA ?_ | refine zAB ?_ | refine zAC ?_ | refine zAD ?_ | (apply st_q; exact q1)
  refine zAS (by exact s1) ((cisNaN_ok H s h).mono ?_)
  rintro _ _ ⟨rfl, rfl⟩
  repeat' with_reducible first | refine zAA ?_ | refine zAB ?_ | refine zAG ?_ | (apply st_q; exact q1) | (apply st_qT; exact e1; exact q1) | (apply st_qF; exact e1) | (apply st_eF; exact e1) | (apply zAE; exact n1; exact r1)
  exact ⟨rfl, rfl⟩
theorem BinarySearch_ok (l : List (List Nat)) (hr : Rises l) (hn : l.length < 2 ^ 60) (s : List Nat) (v : AVal) (h : AHeap) (hv : StrsAt h v l) : Cl fns summ 191 [v, .str s] h fun r h' => r = .tuple [.int .i64 (bsAt l s : Nat), .bool (bsIs l s)] ∧ h' = h := by
  have hlen := hv.len
  refine H.go (fn := F_BinarySearch) rfl (by decide) rfl rfl ?_
  unfold F_BinarySearch
  dsimp only [qQ, qE, qN, gQ, gE, vi]
  repeat with_reducible first | refine zAA ?_ | refine zAB ?_ | refine zAC ?_ | refine zAD ?_ | (apply st_q; exact q1)
  refine cd_block ?_
  refine cd_loop (fun m a hp => ∃ i j : Nat, hp = h ∧ m = j - i ∧ i ≤ j ∧ j ≤ l.length ∧ (∀ k x, k < i → l[k]? = some x → lessL x s = true) ∧ (∀ k x, j ≤ k → l[k]? = some x → lessL x s = false) ∧ a.defers = [] ∧ ev a (.tmp 0) = some v ∧ ev a (.tmp 1) = some (.str s) ∧ ev a (.tmp 6) = some (.int .i64 (l.length : Nat)) ∧ ev a (.tmp 7) = some (.int .i64 (i : Nat)) ∧ ev a (.tmp 8) = some (.int .i64 (j : Nat))) ?_ (n := l.length)
    ⟨0, l.length, rfl, by omega, by omega, by omega, fun k x hk => by omega, fun k x hk hx => (by rw [List.getElem?_eq_none hk] at hx; cases hx), by exact n1, by exact e1, by exact e1, by exact e1, by exact e1, by exact e1⟩
  rintro m a _ ⟨i, j, rfl, hm, hij, hj, hlo, hhi, hd, h0', h1', h6', h7', h8'⟩
  by_cases hlt : i < j
  · have hdec : decide ((i : Int) < (j : Int)) = true := by simp; omega
    have hmid : (i + j) / 2 < l.length := by omega
    obtain ⟨b, o, ver, ro, e, vs, hix, hget, hvo⟩ := hv.at (List.getElem?_eq_getElem hmid)
    have hw1 : IntKind.i64.wrap ((i : Int) + (j : Int)) = ((i + j : Nat) : Int) := by rw [wrap_small (by omega) (by omega)]; omega
    have hw2 : IntKind.u64.wrap ((i + j : Nat) : Int) = ((i + j : Nat) : Int) := by
      simp only [IntKind.wrap, IntKind.bits, IntKind.signed, Bool.false_and, Bool.false_eq_true, if_false]; omega
    have hsh : ((i + j : Nat) : Int).fdiv (2 ^ min (1 : Int).toNat IntKind.u64.bits) = (((i + j) / 2 : Nat) : Int) := by
      simp only [IntKind.bits]
      show Int.fdiv _ 2 = _
      rw [Int.fdiv_eq_ediv_of_nonneg _ (by omega)]; omega
    have hw3 : IntKind.i64.wrap (((i + j) / 2 : Nat) : Int) = (((i + j) / 2 : Nat) : Int) := by rw [wrap_small (by omega) (by omega)]
    have hw4 : IntKind.i64.wrap ((((i + j) / 2 : Nat) : Int) + 1) = (((i + j) / 2 + 1 : Nat) : Int) := by rw [wrap_small (by omega) (by omega)]; omega
    have hsplit : ∀ x, l[(i + j) / 2]? = some x → ((lessL x s = true → ∀ k y, k < (i + j) / 2 + 1 → l[k]? = some y → lessL y s = true) ∧ (lessL x s = false → ∀ k y, (i + j) / 2 ≤ k → l[k]? = some y → lessL y s = false)) := by
      intro x hx
      refine ⟨fun hh k y hk hy => ?_, fun hh k y hk hy => ?_⟩
      · rcases Nat.lt_or_ge k ((i + j) / 2) with h1 | h1
        · exact lessL_trans (hr k _ h1 y x hy hx) hh
        · have : k = (i + j) / 2 := by omega
          subst this; rw [hx] at hy; cases hy; exact hh
      · rcases Nat.lt_or_ge ((i + j) / 2) k with h1 | h1
        · cases hc : lessL y s with
          | false => rfl
          | true => rw [lessL_trans (hr _ k h1 x y hx hy) hc] at hh; cases hh
        · have : k = (i + j) / 2 := by omega
          subst this; rw [hx] at hy; cases hy; exact hh
    obtain ⟨hs1, hs2⟩ := hsplit _ (List.getElem?_eq_getElem hmid)
    have h01 : (0 : Int) ≤ 1 := by decide
    clear hsplit hlen
    repeat with_reducible first | refine zAA ?_ | refine zAB ?_ | refine zAC ?_ | refine zAD ?_ | refine zAK ?_ | refine zAL ?_ | (apply st_q; exact q1) | (apply zAF; exact e1)
    refine zAS (by exact s1) ((cmpLess_ok H l[(i + j) / 2] s _).mono ?_)
    rintro _ _ ⟨rfl, rfl⟩
    cases hc : lessL l[(i + j) / 2] s
    · repeat with_reducible first | refine zAA ?_ | refine zAJ ?_ | refine zAB ?_ | refine zAD ?_ | (apply st_q; exact q1) | (apply zAI; exact e1)
      exact ⟨(i + j) / 2 - i, by omega, i, (i + j) / 2, rfl, rfl, by omega, by omega, hlo, hs2 hc, by exact n1, by exact e1, by exact e1, by exact e1, by exact e1, by exact e1⟩
    · repeat with_reducible first | refine zAA ?_ | refine zAJ ?_ | refine zAB ?_ | refine zAD ?_ | (apply st_q; exact q1) | (apply zAF; exact e1)
      exact ⟨j - ((i + j) / 2 + 1), by omega, (i + j) / 2 + 1, j, rfl, rfl, by omega, hj, hs1 hc, hhi, by exact n1, by exact e1, by exact e1, by exact e1, by exact e1, by exact e1⟩
  · have hdec : decide ((i : Int) < (j : Int)) = false := by simp; omega
    have hei : i = j := by omega
    subst hei
    have hat := bs_split hr hj hlo hhi
    by_cases hil : i < l.length
    · have hdl : decide ((i : Int) < (l.length : Int)) = true := by simp; omega
      obtain ⟨b, o, ver, ro, e, vs, hix, hget, hvo⟩ := hv.at (List.getElem?_eq_getElem hil)
      have his : bsIs l s = eqL l[i] s := by rw [bsIs, hat, List.getElem?_eq_getElem hil]
      cases hc : eqL l[i] s
      · rw [hc] at his
        repeat with_reducible first | refine zAA ?_ | refine nxt_exit ?_ | refine blk_same ?_ | refine zAB ?_ | refine zAC ?_ | refine zAD ?_ | refine cd_exit ?_ | (apply st_q; exact q1) | (apply st_qT; exact e1; exact q1) | (apply zAI; exact e1)
        refine st_callT (by exact e1) (by exact s1) ((isNaNs_ok H _ _).mono ?_)
        rintro _ _ ⟨rfl, rfl⟩
        repeat' with_reducible first | refine zAA ?_ | refine zAB ?_ | refine zAG ?_ | (apply st_q; exact q1) | (apply st_qT; exact e1; exact q1) | (apply st_qF; exact e1) | (apply st_eF; exact e1) | (apply zAE; exact n1; exact r1)
        exact ⟨by rw [hat, his], rfl⟩
      · rw [hc] at his
        repeat' with_reducible first | refine zAA ?_ | refine nxt_exit ?_ | refine blk_same ?_ | refine zAB ?_ | refine zAC ?_ | refine zAD ?_ | refine cd_exit ?_ | refine zAG ?_ | (apply st_q; exact q1) | (apply st_qT; exact e1; exact q1) | (apply st_qF; exact e1) | (apply st_qU; exact e1) | (apply st_eF; exact e1) | (apply st_eU; exact e1) | (apply zAI; exact e1) | (apply zAE; exact n1; exact r1)
        exact ⟨by rw [hat, his], rfl⟩
    · have hdl : decide ((i : Int) < (l.length : Int)) = false := by simp; omega
      have his : bsIs l s = false := by rw [bsIs, hat, List.getElem?_eq_none (by omega)]
      repeat' with_reducible first | refine zAA ?_ | refine nxt_exit ?_ | refine blk_same ?_ | refine zAB ?_ | refine zAC ?_ | refine zAD ?_ | refine cd_exit ?_ | refine zAG ?_ | (apply st_q; exact q1) | (apply st_qF; exact e1) | (apply st_qU; exact e1) | (apply st_eU; exact e1) | (apply zAI; exact e1) | (apply zAE; exact n1; exact r1)
      exact ⟨by rw [hat, his], rfl⟩
end
end Go.Ab.S
end
section
/-
  Whether two graphs are the same type.
-/
namespace Go.Ab.S
open Go.Ab
set_option maxHeartbeats 8000000
abbrev Pr := Int × Int
def pairC (p : Pr) : List AVal := [.int .i64 p.1, .int .i64 p.2]
def rowC (w : List Pr) : List AVal := (w.reverse.map pairC).flatten
def pairsS (g h : Graph) : List Pr := (List.range g.nodes.length).flatMap fun (i : Nat) => (List.range h.nodes.length).map fun (j : Nat) => ((i : Int), (j : Int))
theorem mem_pairsS {g h : Graph} {p : Pr} : p ∈ pairsS g h ↔ (0 ≤ p.1 ∧ p.1 < g.nodes.length) ∧ 0 ≤ p.2 ∧ p.2 < h.nodes.length := by
  simp only [pairsS, List.mem_flatMap, List.mem_range, List.mem_map]
  constructor
  · rintro ⟨i, hi, j, hj, rfl⟩; exact ⟨⟨by simp, by simp; omega⟩, by simp, by simp; omega⟩
  · rintro ⟨⟨h1, h2⟩, h3, h4⟩
    exact ⟨p.1.toNat, by omega, p.2.toNat, by omega, by ext <;> simp <;> omega⟩
theorem pairsS_len (g h : Graph) : (pairsS g h).length = g.nodes.length * h.nodes.length := by
  simp only [pairsS, List.length_flatMap, List.length_map, List.length_range]
  generalize g.nodes.length = n
  induction n with
  | zero => simp
  | succ n ih => rw [List.range_succ, List.map_append, List.sum_append, ih, Nat.succ_mul]; simp
theorem leftW_bound {α : Type} [BEq α] {nx : α → List α} {c : Nat} : ∀ {ps : List α}, (∀ p ∈ ps, (nx p).length ≤ c) → leftW nx [] ps ≤ ps.length * c
  | [], _ => by simp [leftW]
  | p :: r, h => by
    have h1 := leftW_bound (ps := r) fun q hq => h q (by simp [hq])
    have h2 := h p (by simp)
    simp only [leftW, List.length_cons, Nat.succ_mul]
    split <;> omega
def okS (g h : Graph) (p : Pr) : Bool := alikeF (zAH g p.1) (zAH h p.2)
def nxS (g h : Graph) (p : Pr) : List Pr := (List.zip (zAH g p.1).args (zAH h p.2).args).reverse
def badS (g : Graph) (p q : Pr) : Bool := freeF (zAH g p.1) && (freeF (zAH g q.1) && (p.1 == q.1 || p.2 == q.2))
def sameF (g h : Graph) : Bool := zAT g == 0 && (zAT h == 0 && walkG (okS g h) (nxS g h) (badS g) (2 + leftW (nxS g h) [] (pairsS g h)) [(g.root, h.root)] [])
theorem nodeD_at {g : Graph} {a : Int} (h0 : 0 ≤ a) (h1 : a < g.nodes.length) : ∃ k : Nat, a = (k : Int) ∧ ∃ hk : k < g.nodes.length, zAH g a = g.nodes[k] := by
  refine ⟨a.toNat, by omega, by omega, ?_⟩
  simp [zAH, List.getElem?_eq_getElem (show a.toNat < g.nodes.length by omega)]
theorem nodeD_mem {g : Graph} {a : Int} (h0 : 0 ≤ a) (h1 : a < g.nodes.length) : zAH g a ∈ g.nodes := by
  obtain ⟨k, _, hk, h⟩ := nodeD_at h0 h1
  rw [h]; exact List.getElem_mem hk
theorem nxS_in {g h : Graph} (hg : zAT g = 0) (hh : zAT h = 0) {p : Pr} (hp : p ∈ pairsS g h) : ∀ q ∈ nxS g h p, q ∈ pairsS g h := by
  intro q hq
  obtain ⟨⟨a0, a1⟩, b0, b1⟩ := mem_pairsS.1 hp
  simp only [nxS, List.mem_reverse] at hq
  have h1 := List.of_mem_zip hq
  have h2 := may_args ((check_ns hg).2 _ (nodeD_mem a0 a1)) _ h1.1
  have h3 := may_args ((check_ns hh).2 _ (nodeD_mem b0 b1)) _ h1.2
  exact mem_pairsS.2 ⟨h2, h3⟩
theorem left_small {g h : Graph} (hg : GTi g) (hh : GTi h) {nx : Pr → List Pr} (hn : ∀ p ∈ pairsS g h, (nx p).length ≤ (zAH g p.1).args.length) : leftW nx [] (pairsS g h) ≤ 2 ^ 36 := by
  have h1 := leftW_bound (nx := nx) (c := 4096) (ps := pairsS g h) (fun p hp => by
    obtain ⟨⟨a0, a1⟩, _⟩ := mem_pairsS.1 hp
    have := leftG_one g.nodes 0 _ (nodeD_mem a0 a1)
    have := hg.tiny
    have := hn p hp
    omega)
  rw [pairsS_len] at h1
  have h2 := hg.tiny
  have h3 := hh.tiny
  have h4 : g.nodes.length * h.nodes.length ≤ 4096 * 4096 := Nat.mul_le_mul (by omega) (by omega)
  have h5 : (2 : Nat) ^ 36 = 4096 * 4096 * 4096 := by decide
  have h6 := Nat.mul_le_mul_right 4096 h4
  omega
theorem roomP {k : Nat} (hk : k ≤ 2 ^ 37) : roomA 16 k = true := by
  have e37 : (2 : Nat) ^ 37 = 137438953472 := by decide
  have e46 : (2 : Nat) ^ 46 = 70368744177664 := by decide
  simp only [roomA, Bool.and_eq_true]
  exact ⟨rfl, Nat.ble_eq.mpr (by omega)⟩
/-! ### Maps of pairs, and of numbers -/
/-- Pairs that were met. -/
def MP (es : List (AVal × AVal × Nat)) (met : List Pr) : Prop := ∀ p, ∃ i, findA (.agg 2) (.agg (pairC p)) es 0 = some (if p ∈ met then some (i, .bool true) else none)
theorem MP.zero : MP [] [] := fun p => ⟨0, by simp [findA]⟩
theorem key_pair (p q : Pr) : keyA (.agg 2) (.agg (pairC p)) (.agg (pairC q)) = some (decide (p = q)) := by
  obtain ⟨a, b⟩ := p
  obtain ⟨c, d⟩ := q
  simp only [keyA, pairC, List.length_cons, List.length_nil, and_self, if_true, eqCells]
  cases h1 : a == c with
  | false =>
    have : a ≠ c := by simpa using h1
    cases h2 : b == d <;> simp [this]
  | true =>
    have : a = c := by simpa using h1
    cases h2 : b == d with
    | false => have : b ≠ d := by simpa using h2
               simp [this]
    | true => have h3 : b = d := by simpa using h2
              simp [this, h3]
theorem MP.put {es : List (AVal × AVal × Nat)} {met : List Pr} {p : Pr} {c : Nat} (h : MP es met) (hp : p ∉ met) : MP (es ++ [(.agg (pairC p), .bool true, c)]) (met ++ [p]) := fun q => by
  obtain ⟨i, hi⟩ := h q
  by_cases hq : q ∈ met
  · rw [if_pos hq] at hi
    exact ⟨i, by rw [findA_keep es 0 hi, if_pos (List.mem_append.2 (.inl hq))]⟩
  · rw [if_neg hq] at hi
    refine ⟨0 + es.length, ?_⟩
    rw [findA_snoc es 0 hi _ (key_pair q p)]
    by_cases he : q = p
    · rw [if_pos (decide_eq_true he), if_pos (List.mem_append.2 (.inr (List.mem_singleton.2 he)))]
    · rw [if_neg (by simpa using he), if_neg (fun hh => by
        rcases List.mem_append.1 hh with hh | hh
        · exact hq hh
        · exact he (List.mem_singleton.1 hh))]
theorem MP.look {h : AHeap} {r ver c : Nat} {es : List (AVal × AVal × Nat)} {met : List Pr} (hg : h.objs.get r = some (ver, .map es c)) (f : MP es met) (p : Pr) : lookA h (.agg 2) (.bool false) false (.map (some r)) (.agg (pairC p)) = some (.bool (met.contains p), some r) := by
  obtain ⟨i, hi⟩ := f p
  have hk : isKey (.agg 2) (.agg (pairC p)) = true := rfl
  simp only [lookA, hk, hg, hi]
  by_cases hp : p ∈ met
  · simp [hp]
  · simp [hp]
theorem MP.none {es : List (AVal × AVal × Nat)} {met : List Pr} (f : MP es met) {p : Pr} (hp : p ∉ met) : findA (.agg 2) (.agg (pairC p)) es 0 = some none := by
  obtain ⟨i, hi⟩ := f p
  rw [hi, if_neg hp]
/-- Numbers by number. -/
def FA (es : List (AVal × AVal × Nat)) (l : List Pr) : Prop := ∀ a, ∃ r, findA .int (.int .i64 a) es 0 = some r ∧ (r = none → ∀ q ∈ l, q.1 ≠ a) ∧ (∀ i v, r = some (i, v) → ∃ q ∈ l, q.1 = a ∧ v = .int .i64 q.2)
theorem FA.zero : FA [] [] := fun a => ⟨none, rfl, fun _ q hq => (by cases hq), fun i v h => by cases h⟩
theorem FA.put {es : List (AVal × AVal × Nat)} {l : List Pr} {p : Pr} {c : Nat} (h : FA es l) (hp : ∀ q ∈ l, q.1 ≠ p.1) : FA (es ++ [(.int .i64 p.1, .int .i64 p.2, c)]) (l ++ [p]) := fun a => by
  obtain ⟨r, h1, h2, h3⟩ := h a
  cases r with
  | some x =>
    refine ⟨some x, findA_keep es 0 h1, fun hh => (by cases hh), fun i v hv => ?_⟩
    obtain ⟨q, q1, q2⟩ := h3 i v hv
    exact ⟨q, List.mem_append.2 (.inl q1), q2⟩
  | none =>
    have hk : keyA .int (.int .i64 a) (.int .i64 p.1) = some (a == p.1) := by simp [keyA]
    refine ⟨_, findA_snoc es 0 h1 _ hk, ?_, ?_⟩
    · intro hh q hq
      rcases List.mem_append.1 hq with hq | hq
      · exact h2 rfl q hq
      · rw [List.mem_singleton.1 hq]
        rintro rfl
        simp at hh
    · intro i v hv
      split at hv
      · rename_i hap
        simp only [Option.some.injEq, Prod.mk.injEq] at hv
        exact ⟨p, List.mem_append.2 (.inr (List.mem_singleton.2 rfl)), (by simpa using hap : a = p.1).symm, hv.2.symm⟩
      · cases hv
theorem FA.none {es : List (AVal × AVal × Nat)} {l : List Pr} (f : FA es l) {a : Int} (ha : ∀ q ∈ l, q.1 ≠ a) : findA .int (.int .i64 a) es 0 = some none := by
  obtain ⟨r, h1, h2, h3⟩ := f a
  cases r with
  | none => exact h1
  | some x =>
    obtain ⟨q, q1, q2, _⟩ := h3 x.1 x.2 rfl
    exact absurd q2 (ha q q1)
theorem FA.look {h : AHeap} {r ver c : Nat} {es : List (AVal × AVal × Nat)} {l : List Pr} (hg : h.objs.get r = some (ver, .map es c)) (f : FA es l) (a : Int) : ∃ x, lookA h .int (.int .i64 0) true (.map (some r)) (.int .i64 a) = some (.tuple [.int .i64 x, .bool (l.any fun q => q.1 == a)], some r) ∧ ((l.any fun q => q.1 == a) = true → ∃ q ∈ l, q.1 = a ∧ x = q.2) := by
  obtain ⟨y, h1, h2, h3⟩ := f a
  cases y with
  | none =>
    refine ⟨0, ?_, fun hh => ?_⟩
    · have : (l.any fun q => q.1 == a) = false := by
        rw [List.any_eq_false]; intro q hq; simpa using h2 rfl q hq
      simp only [lookA, isKey, hg, h1, this, if_true]
    · obtain ⟨q, hq, hh⟩ := List.any_eq_true.1 hh
      exact absurd (by simpa using hh) (h2 rfl q hq)
  | some x =>
    obtain ⟨q, q1, q2, q3⟩ := h3 x.1 x.2 rfl
    refine ⟨q.2, ?_, fun _ => ⟨q, q1, q2, rfl⟩⟩
    have : (l.any fun q => q.1 == a) = true := List.any_eq_true.2 ⟨q, q1, by simpa using q2⟩
    obtain ⟨i, v⟩ := x
    simp only at q3
    subst q3
    simp only [lookA, isKey, hg, h1, this, if_true]
/-! ### What waits -/
theorem rowC_cons (p : Pr) (w : List Pr) : rowC (p :: w) = rowC w ++ pairC p := by simp [rowC]
theorem rowC_len (w : List Pr) : (rowC w).length = w.length * 2 := by
  induction w with
  | nil => rfl
  | cons p w ih => rw [rowC_cons, List.length_append, ih, List.length_cons, Nat.succ_mul]; rfl
theorem rowC_app (x w : List Pr) : rowC (x.reverse ++ w) = rowC w ++ (x.map pairC).flatten := by simp [rowC]
theorem pop_row {h : AHeap} {base : Nat} {e : TypeId} {vw : AVal} {p : Pr} {w : List Pr} (B : Built h base e 2 vw (w.length + 1) (rowC (p :: w))) : ∃ bw ver vs, vw = .slice (some (bw, 0)) (w.length + 1) ∧ h.objs.get bw = some (ver, .cells false e vs) ∧ base ≤ bw ∧ (w.length * 2 + 2 ≤ vs.length ∧ (vs.drop (w.length * 2)).take 2 = pairC p) ∧ Built h base e 2 (.slice (some (bw, 0)) w.length) w.length (rowC w) := by
  rcases B with ⟨_, hh, _⟩ | ⟨_, hh, _⟩ | ⟨b, vs, ver, h0, h1, h2, h3, h4⟩
  · omega
  · omega
  · refine ⟨b, ver, vs, h1, h2, h0, ?_, .inr (.inr ⟨b, vs, ver, h0, rfl, h2, by omega, ?_⟩)⟩
    · refine ⟨by omega, ?_⟩
      have := congrArg (fun l => l.drop (w.length * 2)) h4
      simp only [List.drop_take, rowC_cons, List.drop_left' (rowC_len w)] at this
      rw [show (w.length + 1) * 2 - w.length * 2 = 2 by omega] at this
      exact this
    · have := congrArg (fun l => l.take (w.length * 2)) h4
      simp only [List.take_take, rowC_cons, List.take_left' (rowC_len w)] at this
      rw [Nat.min_eq_left (by omega)] at this
      exact this
end Go.Ab.S
end
section
/-
  What is known all the while, and what is put behind.
-/
namespace Go.Ab.S
open Go.Ab
set_option maxHeartbeats 8000000
def swP (q : Pr) : Pr := (q.2, q.1)
def flM (g : Graph) (met : List Pr) : List Pr := met.filter fun q => freeF (zAH g q.1)
/-- What is known all the while. -/
structure SInv (h0 : AHeap) (b2 b3 r5 r6 r7 : Nat) (nv mv : AVal) (g h : Graph) (w met fl fl' : List Pr) (vw : AVal) (hp : AHeap) : Prop where
  grow : Grow h0 hp
  o2 : ∃ ver, hp.objs.get b2 = some (ver, .cells false 24 [nv, .int .i64 g.root])
  o3 : ∃ ver, hp.objs.get b3 = some (ver, .cells false 24 [mv, .int .i64 h.root])
  o5 : ∃ ver es c, hp.objs.get r5 = some (ver, .map es c) ∧ MP es met
  o6 : ∃ ver es c, hp.objs.get r6 = some (ver, .map es c) ∧ FA es fl
  o7 : ∃ ver es c, hp.objs.get r7 = some (ver, .map es c) ∧ FA es fl'
  bw : Built hp h0.next 76 2 vw w.length (rowC w)
  low : h0.next ≤ r5 ∧ h0.next ≤ r6 ∧ h0.next ≤ r7 ∧ r5 ≠ r6 ∧ r5 ≠ r7 ∧ r6 ≠ r7
section
variable {h0 : AHeap} {b2 b3 r5 r6 r7 : Nat} {nv mv : AVal} {g h : Graph} {w w' met fl fl' : List Pr} {vw vw' : AVal} {hp hq : AHeap} (I : SInv h0 b2 b3 r5 r6 r7 nv mv g h w met fl fl' vw hp)
include I
theorem SInv.other (gr : Grow hp hq) : SInv h0 b2 b3 r5 r6 r7 nv mv g h w met fl fl' vw hq := by
  obtain ⟨v2, k2⟩ := I.o2
  obtain ⟨v3, k3⟩ := I.o3
  obtain ⟨v5, e5, c5, k5, f5⟩ := I.o5
  obtain ⟨v6, e6, c6, k6, f6⟩ := I.o6
  obtain ⟨v7, e7, c7, k7, f7⟩ := I.o7
  exact ⟨I.grow.trans gr, ⟨v2, gr.keep _ _ k2⟩, ⟨v3, gr.keep _ _ k3⟩, ⟨_, _, _, gr.keep _ _ k5, f5⟩, ⟨_, _, _, gr.keep _ _ k6, f6⟩, ⟨_, _, _, gr.keep _ _ k7, f7⟩, I.bw.grow gr, I.low⟩
theorem SInv.row (B : Built hp h0.next 76 2 vw' w'.length (rowC w')) : SInv h0 b2 b3 r5 r6 r7 nv mv g h w' met fl fl' vw' hp :=
  ⟨I.grow, I.o2, I.o3, I.o5, I.o6, I.o7, B, I.low⟩
/-- Rows put behind: all else stays. -/
theorem SInv.push (gr : Grow h0 hq) (kp : ∀ c p, hp.objs.get c = some p → (∀ n, vw ≠ .slice (some (c, 0)) n) → hq.objs.get c = some p) (B : Built hq h0.next 76 2 vw' w'.length (rowC w')) : SInv h0 b2 b3 r5 r6 r7 nv mv g h w' met fl fl' vw' hq := by
  obtain ⟨v2, k2⟩ := I.o2
  obtain ⟨v3, k3⟩ := I.o3
  obtain ⟨v5, e5, c5, k5, f5⟩ := I.o5
  obtain ⟨v6, e6, c6, k6, f6⟩ := I.o6
  obtain ⟨v7, e7, c7, k7, f7⟩ := I.o7
  have kk : ∀ c p, hp.objs.get c = some p → (∀ vs, p.2 ≠ .cells false 76 vs) → hq.objs.get c = some p := fun c p hc hne => kp c p hc (built_ne I.bw hc hne)
  exact ⟨gr, ⟨v2, kk _ _ k2 (fun vs hh => by cases hh)⟩, ⟨v3, kk _ _ k3 (fun vs hh => by cases hh)⟩, ⟨_, _, _, kk _ _ k5 (fun vs hh => by cases hh), f5⟩, ⟨_, _, _, kk _ _ k6 (fun vs hh => by cases hh), f6⟩, ⟨_, _, _, kk _ _ k7 (fun vs hh => by cases hh), f7⟩, B, I.low⟩
theorem SInv.put5 (w0 : WF h0) {ver : Nat} {es : List (AVal × AVal × Nat)} {c : Nat} {met' : List Pr} (p : But r5 hp hq) (o : hq.objs.get r5 = some (ver, .map es c)) (f : MP es met') : SInv h0 b2 b3 r5 r6 r7 nv mv g h w met' fl fl' vw hq := by
  obtain ⟨v2, k2⟩ := I.o2
  obtain ⟨v3, k3⟩ := I.o3
  obtain ⟨v5, e5, c5, k5, f5⟩ := I.o5
  obtain ⟨v6, e6, c6, k6, f6⟩ := I.o6
  obtain ⟨v7, e7, c7, k7, f7⟩ := I.o7
  obtain ⟨l5, l6, l7, n56, n57, n67⟩ := I.low
  exact ⟨p.grow h0 w0 I.grow l5, ⟨_, p.kp k5 k2 rfl⟩, ⟨_, p.kp k5 k3 rfl⟩, ⟨_, _, _, o, f⟩, ⟨_, _, _, p.keep _ (Ne.symm n56) _ k6, f6⟩, ⟨_, _, _, p.keep _ (Ne.symm n57) _ k7, f7⟩, built_but I.bw p k5 (fun vs hh => by cases hh), l5, l6, l7, n56, n57, n67⟩
theorem SInv.put6 (w0 : WF h0) {ver : Nat} {es : List (AVal × AVal × Nat)} {c : Nat} {fl2 : List Pr} (p : But r6 hp hq) (o : hq.objs.get r6 = some (ver, .map es c)) (f : FA es fl2) : SInv h0 b2 b3 r5 r6 r7 nv mv g h w met fl2 fl' vw hq := by
  obtain ⟨v2, k2⟩ := I.o2
  obtain ⟨v3, k3⟩ := I.o3
  obtain ⟨v5, e5, c5, k5, f5⟩ := I.o5
  obtain ⟨v6, e6, c6, k6, f6⟩ := I.o6
  obtain ⟨v7, e7, c7, k7, f7⟩ := I.o7
  obtain ⟨l5, l6, l7, n56, n57, n67⟩ := I.low
  exact ⟨p.grow h0 w0 I.grow l6, ⟨_, p.kp k6 k2 rfl⟩, ⟨_, p.kp k6 k3 rfl⟩, ⟨_, _, _, p.keep _ n56 _ k5, f5⟩, ⟨_, _, _, o, f⟩, ⟨_, _, _, p.keep _ (Ne.symm n67) _ k7, f7⟩, built_but I.bw p k6 (fun vs hh => by cases hh), l5, l6, l7, n56, n57, n67⟩
theorem SInv.put7 (w0 : WF h0) {ver : Nat} {es : List (AVal × AVal × Nat)} {c : Nat} {fl2 : List Pr} (p : But r7 hp hq) (o : hq.objs.get r7 = some (ver, .map es c)) (f : FA es fl2) : SInv h0 b2 b3 r5 r6 r7 nv mv g h w met fl fl2 vw hq := by
  obtain ⟨v2, k2⟩ := I.o2
  obtain ⟨v3, k3⟩ := I.o3
  obtain ⟨v5, e5, c5, k5, f5⟩ := I.o5
  obtain ⟨v6, e6, c6, k6, f6⟩ := I.o6
  obtain ⟨v7, e7, c7, k7, f7⟩ := I.o7
  obtain ⟨l5, l6, l7, n56, n57, n67⟩ := I.low
  exact ⟨p.grow h0 w0 I.grow l7, ⟨_, p.kp k7 k2 rfl⟩, ⟨_, p.kp k7 k3 rfl⟩, ⟨_, _, _, p.keep _ n57 _ k5, f5⟩, ⟨_, _, _, p.keep _ n67 _ k6, f6⟩, ⟨_, _, _, o, f⟩, built_but I.bw p k7 (fun vs hh => by cases hh), l5, l6, l7, n56, n57, n67⟩
end
theorem cd_post' {fns : FuncId → Option AFunc} {summ : FuncId → List AVal → AHeap → Option (D (AVal × AHeap))} {ro : Option Nat} {c : ACode} {a : AAct} {h : AHeap} {Q : AExit → AAct → AHeap → Prop} (I : AAct → AHeap → Prop) (k1 : Cd fns summ ro c a h (nxt I Q)) (k2 : ∀ a h, I a h → Q .normal a h) : Cd fns summ ro c a h Q :=
  k1.mono fun e a1 h1 hq => by cases e with
    | normal => exact k2 a1 h1 hq
    | ret => exact hq
    | exit i => exact hq
theorem flM_put (g : Graph) (met : List Pr) (p : Pr) : flM g (met ++ [p]) = flM g met ++ (if freeF (zAH g p.1) then [p] else []) := by
  simp only [flM, List.filter_append]
  congr 1
  cases h : freeF (zAH g p.1) <;> simp [h]
theorem bad_any {g : Graph} {met : List Pr} {p : Pr} (hp : p ∉ met) (hf : freeF (zAH g p.1) = true) : met.any (badS g p) = (((flM g met).any fun q => q.1 == p.1) || (((flM g met).map swP).any fun q => q.1 == p.2)) := by
  unfold flM
  rw [Bool.eq_iff_iff]
  simp only [List.any_eq_true, badS, hf, Bool.true_and, Bool.and_eq_true, Bool.or_eq_true, List.mem_filter, List.mem_map, beq_iff_eq, swP]
  constructor
  · rintro ⟨q, hq, hq2, h | h⟩
    · exact .inl ⟨q, ⟨hq, hq2⟩, h.symm⟩
    · exact .inr ⟨_, ⟨q, ⟨hq, hq2⟩, rfl⟩, h.symm⟩
  · rintro (⟨q, ⟨hq, hq2⟩, h⟩ | ⟨_, ⟨q, ⟨hq, hq2⟩, rfl⟩, h⟩)
    · exact ⟨q, hq, hq2, .inl h.symm⟩
    · exact ⟨q, hq, hq2, .inr h.symm⟩
theorem bad_none {g : Graph} {met : List Pr} {p : Pr} (hf : freeF (zAH g p.1) = false) : met.any (badS g p) = false := by
  rw [List.any_eq_false]; intro q _; simp [badS, hf]
/-- All that follows from two nodes is put behind. -/
def pushCode : ACode :=
 .seq (
 .ops [
 ⟨(some 111), none, .q (.fieldA 2 (.tmp 10))⟩,
 ⟨(some 112), none, .q (.load none (.tmp 111))⟩,
 ⟨(some 113), none, .q (.lenV (.tmp 112))⟩,
 ⟨(some 114), none, .q (.mov (.val (.int .i64 0)))⟩]) (
 .block 2 (
 .loop (
 .seq (
 .ops [
 ⟨(some 115), none, .q (.num .lss (.tmp 114) (.tmp 113))⟩]) (
 .seq (
 .cond (.tmp 115) (
 .skip) (
 .exit 2)) (
 .seq (
 .block 3 (
 .seq (
 .ops [
 ⟨(some 116), none, .q (.mov (.tmp 114))⟩,
 ⟨(some 16), none, .q (.mov (.tmp 116))⟩]) (
 .draw [
 ⟨0, 0, ⟨(some 117), none, .q (.mov (.tmp 8))⟩⟩,
 ⟨1, 0, ⟨(some 118), none, .q (.fieldA 2 (.tmp 10))⟩⟩,
 ⟨2, 2, ⟨(some 119), none, .q (.load none (.tmp 118))⟩⟩,
 ⟨3, 0, ⟨(some 120), none, .q (.mov (.tmp 16))⟩⟩,
 ⟨4, 12, ⟨(some 121), none, .q (.indexA 1 (.tmp 119) (.tmp 120))⟩⟩,
 ⟨5, 16, ⟨(some 122), none, .q (.load none (.tmp 121))⟩⟩,
 ⟨6, 0, ⟨(some 123), none, .q (.fieldA 2 (.tmp 11))⟩⟩,
 ⟨7, 64, ⟨(some 124), none, .q (.load none (.tmp 123))⟩⟩,
 ⟨8, 0, ⟨(some 125), none, .q (.mov (.tmp 16))⟩⟩,
 ⟨9, 384, ⟨(some 126), none, .q (.indexA 1 (.tmp 124) (.tmp 125))⟩⟩,
 ⟨10, 512, ⟨(some 127), none, .q (.load none (.tmp 126))⟩⟩,
 ⟨11, 1056, ⟨(some 128), none, .q (.build [(.int .i64 0), (.int .i64 0)] [(0, 1, (.tmp 122)), (1, 1, (.tmp 127))])⟩⟩,
 ⟨12, 2048, ⟨(some 129), none, .e (.bslice 76 2 1 [(.int .i64 0), (.int .i64 0)] [(0, (.tmp 128))])⟩⟩,
 ⟨13, 4097, ⟨(some 130), none, .e (.append 76 2 16 (.tmp 117) (.tmp 129))⟩⟩,
 ⟨14, 16383, ⟨(some 8), none, .q (.mov (.tmp 130))⟩⟩]))) (
 .ops [
 ⟨(some 131), none, .q (.num .add (.tmp 114) (.val (.int .i64 1)))⟩,
 ⟨(some 114), none, .q (.mov (.tmp 131))⟩]))))))
section
variable {fns : FuncId → Option AFunc} {summ : FuncId → List AVal → AHeap → Option (D (AVal × AHeap))}
theorem push_ok {h0 : AHeap} {b2 b3 r5 r6 r7 b10 b11 : Nat} {nv mv : AVal} {g h : Graph} {w met fl fl' : List Pr} {vw : AVal} {hq : AHeap} {a : AAct} {Q : AExit → AAct → AHeap → Prop} (w0 : WF h0) (I : SInv h0 b2 b3 r5 r6 r7 nv mv g h w met fl fl' vw hq) {x y : Node} {av lv bv mv' : AVal}
    (o10 : ∃ ver, hq.objs.get b10 = some (ver, .cells false 60 [.int .i64 x.kind, .str x.name, av, lv, .bool x.isOpen])) (o11 : ∃ ver, hq.objs.get b11 = some (ver, .cells false 60 [.int .i64 y.kind, .str y.name, bv, mv', .bool y.isOpen]))
    (ha : IntsAt h0 av x.args) (hb : IntsAt h0 bv y.args) (hxy : x.args.length = y.args.length) (hx : x.args.length ≤ 4096) (hw : w.length ≤ 2 ^ 36) (hd : a.defers = [])
    (h2' : ev a (.tmp 2) = some (.ptr (some (b2, 0)))) (h3' : ev a (.tmp 3) = some (.ptr (some (b3, 0)))) (h5' : ev a (.tmp 5) = some (.map (some r5))) (h6' : ev a (.tmp 6) = some (.map (some r6))) (h7' : ev a (.tmp 7) = some (.map (some r7))) (h8' : ev a (.tmp 8) = some vw) (h10' : ev a (.tmp 10) = some (.ptr (some (b10, 0)))) (h11' : ev a (.tmp 11) = some (.ptr (some (b11, 0))))
    (k : ∀ a hr vw', SInv h0 b2 b3 r5 r6 r7 nv mv g h ((List.zip x.args y.args).reverse ++ w) met fl fl' vw' hr → a.defers = [] → ev a (.tmp 2) = some (.ptr (some (b2, 0))) → ev a (.tmp 3) = some (.ptr (some (b3, 0))) → ev a (.tmp 5) = some (.map (some r5)) → ev a (.tmp 6) = some (.map (some r6)) → ev a (.tmp 7) = some (.map (some r7)) → ev a (.tmp 8) = some vw' → Q .normal a hr) : Cd fns summ none pushCode a hq Q := by
  have hla := ha.len
  have hlb := hb.len
  have e36 : (2 : Nat) ^ 36 = 68719476736 := by decide
  have e37 : (2 : Nat) ^ 37 = 137438953472 := by decide
  obtain ⟨v10, o10⟩ := o10
  obtain ⟨v11, o11⟩ := o11
  unfold pushCode
  repeat with_reducible first | refine zAA ?_ | refine zAB ?_ | refine zAC ?_ | refine zAD ?_ | (apply st_q; exact q1)
  refine cd_count (N := x.args.length) (by omega) (fun j a hr => ∃ vx, SInv h0 b2 b3 r5 r6 r7 nv mv g h (((List.zip x.args y.args).take j).reverse ++ w) met fl fl' vx hr ∧ (∃ ver, hr.objs.get b10 = some (ver, .cells false 60 [.int .i64 x.kind, .str x.name, av, lv, .bool x.isOpen])) ∧ (∃ ver, hr.objs.get b11 = some (ver, .cells false 60 [.int .i64 y.kind, .str y.name, bv, mv', .bool y.isOpen])) ∧ a.defers = [] ∧
      ev a (.tmp 2) = some (.ptr (some (b2, 0))) ∧ ev a (.tmp 3) = some (.ptr (some (b3, 0))) ∧ ev a (.tmp 5) = some (.map (some r5)) ∧ ev a (.tmp 6) = some (.map (some r6)) ∧ ev a (.tmp 7) = some (.map (some r7)) ∧ ev a (.tmp 8) = some vx ∧ ev a (.tmp 10) = some (.ptr (some (b10, 0))) ∧ ev a (.tmp 11) = some (.ptr (some (b11, 0))))
    (by rintro j a hp t w (rfl | rfl | rfl) ⟨vx, k1, k2, k3, k4, k5, k6, k7, k8, k9, k10, k11, k12⟩ <;> exact ⟨vx, k1, k2, k3, by rw [zAV]; exact k4, by exact e1, by exact e1, by exact e1, by exact e1, by exact e1, by exact e1, by exact e1, by exact e1⟩) (by decide) ?_ ?_ ⟨vw, by simpa using I, ⟨_, o10⟩, ⟨_, o11⟩, by exact n1, by exact e1, by exact e1, by exact e1, by exact e1, by exact e1, by exact e1, by exact e1, by exact e1⟩ (by exact e1) (by exact e1)
  · clear I o10 o11 hd h2' h3' h5' h6' h7' h8' h10' h11'
    rintro j a hr hj ⟨vx, I, ⟨v10, o10⟩, ⟨v11, o11⟩, hd, h2', h3', h5', h6', h7', h8', h10', h11'⟩ hi hn
    have hjy : j < y.args.length := by omega
    obtain ⟨ba, oa, vera, ra, ea, vsa, hixa, hga0, hva⟩ := ha.at (List.getElem?_eq_getElem hj)
    obtain ⟨bb, ob, verb, rb, eb, vsb, hixb, hgb0, hvb⟩ := hb.at (List.getElem?_eq_getElem hjy)
    have hga := I.grow.keep _ _ hga0
    have hgb := I.grow.keep _ _ hgb0
    have hzl : j < (List.zip x.args y.args).length := by rw [List.length_zip]; omega
    have hwl : (((List.zip x.args y.args).take j).reverse ++ w).length ≤ 2 ^ 36 + 4096 := by
      rw [List.length_append, List.length_reverse, List.length_take]; omega
    have hst : ((List.zip x.args y.args).take (j + 1)).reverse ++ w = (x.args[j], y.args[j]) :: (((List.zip x.args y.args).take j).reverse ++ w) := by
      rw [List.take_succ_eq_append_getElem hzl, List.reverse_append, List.getElem_zip]; rfl
    have hroom : roomA 16 ((((List.zip x.args y.args).take j).reverse ++ w).length + 1) = true := roomP (by omega)
    clear hla hlb hx hw hwl hzl
    replace hxy := Hid.mk hxy
    repeat with_reducible first | refine zAA ?_ | refine zAB ?_ | refine zAC ?_ | refine zAD ?_ | refine zAK ?_ | refine cd_draw ?_ | (apply dr_pair; exact e1; exact e1) | (apply dr_q; exact q1) | (apply dr_ql; exact q1; exact og1) | (apply st_q; exact q1)
    refine dr_st (st_bslice1 (v := .agg (pairC (x.args[j], y.args[j]))) (cs := pairC (x.args[j], y.args[j])) (by exact e1) rfl rfl rfl I.grow.wf ?_)
    rintro bx h9 hbx g9 ox
    refine zAB ⟨by simp [heldOk, Nat.testBit, g9.keep _ _ o10, g9.keep _ _ o11, g9.keep _ _ hga, g9.keep _ _ hgb], ?_⟩
    have B9 := I.bw.grow g9
    have I9 := I.other g9
    refine dr_st (st_append1 (by exact e1) (by exact e1) B9 ox rfl rfl hroom g9.wf (by have := I9.grow.next; omega) ?_)
    rintro vx' h10 B10 f10 w10 n10 gr10 kp10
    have G10 := gr10 h0 w0 I9.grow (Nat.le_refl _)
    rw [← rowC_cons, ← hst] at B10
    have hll : (((List.zip x.args y.args).take (j + 1)).reverse ++ w).length = (((List.zip x.args y.args).take j).reverse ++ w).length + 1 := by rw [hst]; rfl
    rw [← hll] at B10
    have I10 := I9.push G10 kp10 B10
    have o10' := kp10 _ _ (g9.keep _ _ o10) (built_ne B9 (g9.keep _ _ o10) fun vs hh => by cases hh)
    have o11' := kp10 _ _ (g9.keep _ _ o11) (built_ne B9 (g9.keep _ _ o11) fun vs hh => by cases hh)
    refine zAB ⟨by simp [heldOk, Nat.testBit, o10', o11', G10.keep _ _ hga0, G10.keep _ _ hgb0], ?_⟩
    clear I I9 B9 B10 kp10 gr10 f10 ox o10 o11 hga hgb hga0 hgb0 hixa hixb hva hvb g9 hst hll
    repeat with_reducible first | refine zAA ?_ | refine zAJ ?_ | refine dr_nil ?_ | (apply dr_q; exact q1)
    exact ⟨⟨vx', I10, ⟨_, o10'⟩, ⟨_, o11'⟩, by exact n1, by exact e1, by exact e1, by exact e1, by exact e1, by exact e1, by exact e1, by exact e1, by exact e1⟩, by exact e1, by exact e1⟩
  · rintro a hr ⟨vx, I, _, _, k4, k5, k6, k7, k8, k9, k10, _, _⟩
    rw [List.take_of_length_le (by rw [List.length_zip]; omega)] at I
    exact k a hr vx I k4 k5 k6 k7 k8 k9 k10
end
end Go.Ab.S
end
