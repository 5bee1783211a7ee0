import Derived.Test.YtapnoohglfhgeaaGreatDoorP19
/-
  Part 20 of the proof.
-/
set_option linter.all false
section
/-
  Names, as they are told by definition: the walks.
-/
namespace Go.Ab.S
open Go.Ab
set_option maxHeartbeats 4000000
theorem goS_drop {s : List Nat} {i : Nat} {c : Nat} (h : s[i]? = some c) : goS (s.drop i) = if letterF c || digitF c then 1 + goS (s.drop (i + 1)) else 0 := by
  obtain ⟨hi, rfl⟩ := List.getElem?_eq_some_iff.1 h
  rw [List.drop_eq_getElem_cons hi, goS]
section
variable {fns : FuncId → Option AFunc} {summ : FuncId → List AVal → AHeap → Option (D (AVal × AHeap))}
variable (H : Has fns summ)
include H
theorem rsmall_ok (c : Nat) (h : AHeap) : Cl fns summ 132 [.int .u8 c] h fun v h' => v = .bool (smallF c) ∧ h' = h := by
  refine H.go (fn := F_rsmall) rfl (by decide) rfl rfl ?_
  unfold F_rsmall
  dsimp only [qQ, qE, qN, gQ, gE, vi]
  repeat' with_reducible first | refine zAA ?_ | refine zAB ?_ | refine zAC ?_ | refine zAD ?_ | refine zAG ?_ | (apply st_q; exact q1) | (apply st_pA; exact e1; exact e2) | (apply st_pO; exact e1; exact e2) | (apply st_qS; exact e1; exact g1; exact q2) | (apply zAE; exact n1; exact r1)
  refine ⟨congrArg AVal.bool ?_, rfl⟩
  rw [Bool.eq_iff_iff]; simp [smallF]; omega
theorem rletter_ok (c : Nat) (h : AHeap) : Cl fns summ 133 [.int .u8 c] h fun v h' => v = .bool (letterF c) ∧ h' = h := by
  refine H.go (fn := F_rletter) rfl (by decide) rfl rfl ?_
  unfold F_rletter
  dsimp only [qQ, qE, qN, gQ, gE, vi]
  repeat' with_reducible first | refine zAA ?_ | refine zAB ?_ | refine zAC ?_ | refine zAD ?_ | refine zAG ?_ | (apply st_q; exact q1) | (apply st_pA; exact e1; exact e2) | (apply st_pO; exact e1; exact e2) | (apply st_qS; exact e1; exact g1; exact q2) | (apply st_sA; exact e1; exact g1; exact e2; exact e3) | (apply zAE; exact n1; exact r1)
  refine ⟨congrArg AVal.bool ?_, rfl⟩
  rw [Bool.eq_iff_iff]; simp [letterF]; omega
theorem rdigit_ok (c : Nat) (h : AHeap) : Cl fns summ 134 [.int .u8 c] h fun v h' => v = .bool (digitF c) ∧ h' = h := by
  refine H.go (fn := F_rdigit) rfl (by decide) rfl rfl ?_
  unfold F_rdigit
  dsimp only [qQ, qE, qN, gQ, gE, vi]
  repeat' with_reducible first | refine zAA ?_ | refine zAB ?_ | refine zAC ?_ | refine zAD ?_ | refine zAG ?_ | (apply st_q; exact q1) | (apply st_pA; exact e1; exact e2) | (apply st_qS; exact e1; exact g1; exact q2) | (apply zAE; exact n1; exact r1)
  refine ⟨congrArg AVal.bool ?_, rfl⟩
  rw [Bool.eq_iff_iff]; simp [digitF]; omega
theorem rword_ok (s : List Nat) (hs : s.length < 2 ^ 60) (h : AHeap) : Cl fns summ 98 [.str s] h fun v h' => v = .int .i64 (rwordF s) ∧ h' = h := by
  refine H.go (fn := F_rword) rfl (by decide) rfl rfl ?_
  unfold F_rword
  dsimp only [qQ, qE, qN, gQ, gE, vi]
  cases s with
  | nil =>
    have hz : ((Int.ofNat 0 : Int) == 0) = true := rfl
    repeat' with_reducible first | refine zAA ?_ | refine zAN ?_ | refine zAB ?_ | refine zAC ?_ | refine zAD ?_ | refine zAG ?_ | (apply st_q; exact q1) | (apply st_qF; exact e1) | (apply st_eF; exact e1) | (apply zAF; exact e1) | (apply zAE; exact n1; exact r1)
    exact ⟨rfl, rfl⟩
  | cons c0 r0 =>
    have hz : ((Int.ofNat (c0 :: r0).length : Int) == 0) = false := by
      simp only [Int.ofNat_eq_natCast, List.length_cons, beq_eq_false_iff_ne]; omega
    have hc0 : (c0 :: r0)[0]? = some c0 := rfl
    have hrw : rwordF (c0 :: r0) = if smallF c0 then 1 + goS ((c0 :: r0).drop 1) else 0 := rfl
    generalize hS : c0 :: r0 = s at *
    have hq0 : Hid (∀ A hh, ev A (.tmp 8) = some (.str s) → qA A hh (.indexS (.tmp 8) (.val (.int .i64 0))) = some (.int .u8 (Int.ofNat c0), none)) := ⟨fun A hh k => by
      have : asNat (.int .i64 0) = some 0 := by simp [asNat]
      simp only [qA_indexS, k, ev_val, this, hc0]⟩
    repeat with_reducible first | refine zAA ?_ | refine zAB ?_ | refine zAC ?_ | refine zAD ?_ | (apply st_q; exact q1) | (apply st_qT; exact e1; exact q1)
    refine st_qT (by exact e1) (hq0.out _ _ (by exact e1)) ?_
    skip
    refine st_callT (by exact e1) (by exact s1) ((rsmall_ok H c0 _).mono ?_)
    rintro _ h0 ⟨rfl, hh0⟩
    replace hh0 := hh0.symm
    subst hh0
    cases hsm : smallF c0
    · have hrz : rwordF s = 0 := by rw [hrw, hsm]; simp
      clear hrw
      repeat' with_reducible first | refine zAA ?_ | refine zAN ?_ | refine zAB ?_ | refine zAC ?_ | refine zAD ?_ | refine zAG ?_ | (apply st_q; exact q1) | (apply st_qT; exact e1; exact q1) | (apply zAF; exact e1) | (apply zAE; exact n1; exact r1)
      exact ⟨by rw [hrz]; rfl, rfl⟩
    · have hrz : rwordF s = 1 + goS (s.drop 1) := by rw [hrw, hsm]; simp
      have hl1 : 1 ≤ s.length := by rw [← hS]; simp
      clear hrw hS
      repeat with_reducible first | refine zAA ?_ | refine zAB ?_ | refine zAC ?_ | refine zAD ?_ | refine zAL ?_ | (apply st_q; exact q1) | (apply st_qT; exact e1; exact q1) | (apply zAI; exact e1)
      refine cd_block ?_
      refine cd_loop (fun k a hp => hp = h ∧ a.defers = [] ∧ ev a (.tmp 0) = some (.str s) ∧ ∃ i : Nat, k + i = s.length ∧ ev a (.tmp 3) = some (.int .i64 i) ∧ rwordF s = i + goS (s.drop i)) ?_ (n := s.length - 1) ⟨rfl, rfl, by exact e1, 1, by omega, by exact e1, hrz⟩
      clear hrz hz hc0 hsm
      rintro k a hp ⟨rfl, hd, h0, i, hi, h3, hw⟩
      by_cases hlt : i < s.length
      · have hlt' : decide ((i : Int) < Int.ofNat s.length) = true := by simpa using hlt
        have hc : s[i]? = some s[i] := List.getElem?_eq_getElem hlt
        have hi0 : (0 : Int) ≤ (i : Int) := by omega
        have hin : ((i : Int)).toNat = i := by omega
        rw [goS_drop hc] at hw
        replace hw := Hid.mk hw
        have hk := Hid.mk hi
        clear hi
        repeat with_reducible first | refine zAC ?_ | refine zAD ?_ | (apply st_q; exact q1) | (apply st_qT; exact e1; exact q1)
        refine st_callT (by exact e1) (by exact s1) ((rletter_ok H s[i] _).mono ?_)
        rintro _ _ ⟨rfl, rfl⟩
        have hwr : IntKind.i64.wrap ((i : Int) + 1) = ((i + 1 : Nat) : Int) := by rw [wrap_small (by omega) (by omega)]; omega
        cases hl : letterF s[i]
        · repeat with_reducible (apply st_qT; exact e1; exact q1)
          refine st_callT (by exact e1) (by exact s1) ((rdigit_ok H s[i] _).mono ?_)
          rintro _ _ ⟨rfl, rfl⟩
          cases hg : digitF s[i]
          · have hw' : Hid (rwordF s = i) := ⟨by rw [hw.out, hl, hg]; simp⟩
            clear hw
            repeat' with_reducible first | refine zAA ?_ | refine nxt_exit ?_ | refine blk_same ?_ | refine zAB ?_ | refine zAC ?_ | refine zAD ?_ | refine cd_exit ?_ | refine zAG ?_ | (apply st_q; exact q1) | (apply st_qT; exact e1; exact q1) | (apply zAI; exact e1) | (apply zAE; exact n1; exact r1)
            exact ⟨by rw [hw'.out], rfl⟩
          · have hw' : Hid (rwordF s = (i + 1 : Nat) + goS (s.drop (i + 1))) := ⟨by rw [hw.out, hl, hg]; simp; omega⟩
            clear hw
            repeat with_reducible first | refine zAA ?_ | refine zAJ ?_ | refine zAB ?_ | refine cd_blockO ?_ | refine zAL ?_ | (apply st_q; exact q1) | (apply st_qT; exact e1; exact q1) | (apply zAF; exact e1)
            exact ⟨k - 1, by have := hk.out; omega, rfl, by exact n1, by exact e1, i + 1, by have := hk.out; omega, by exact e1, hw'.out⟩
        · have hw' : Hid (rwordF s = (i + 1 : Nat) + goS (s.drop (i + 1))) := ⟨by rw [hw.out, hl]; simp; omega⟩
          clear hw
          repeat with_reducible first | refine zAA ?_ | refine zAJ ?_ | refine zAB ?_ | refine cd_blockO ?_ | refine zAL ?_ | (apply st_q; exact q1) | (apply st_qT; exact e1; exact q1) | (apply st_qF; exact e1) | (apply st_eF; exact e1) | (apply zAF; exact e1)
          exact ⟨k - 1, by have := hk.out; omega, rfl, by exact n1, by exact e1, i + 1, by have := hk.out; omega, by exact e1, hw'.out⟩
      · have hlt' : decide ((i : Int) < Int.ofNat s.length) = false := by simpa using hlt
        have : s.drop i = [] := List.drop_eq_nil_of_le (by omega)
        rw [this] at hw
        have hw' : rwordF s = i := hw
        clear hw
        repeat' with_reducible first | refine zAA ?_ | refine nxt_exit ?_ | refine blk_same ?_ | refine zAB ?_ | refine zAC ?_ | refine zAD ?_ | refine cd_exit ?_ | refine zAG ?_ | (apply st_q; exact q1) | (apply st_qF; exact e1) | (apply st_qU; exact e1) | (apply st_eF; exact e1) | (apply st_eU; exact e1) | (apply zAI; exact e1) | (apply zAE; exact n1; exact r1)
        exact ⟨by rw [hw'], rfl⟩
theorem rIsKey_ok (s : List Nat) (h : AHeap) : Cl fns summ 99 [.str s] h fun v h' => v = .bool (keyWords.contains s) ∧ h' = h := by
  refine H.go (fn := F_rIsKey) rfl (by decide) rfl rfl ?_
  unfold F_rIsKey
  dsimp only [qQ, qE, qN, gQ, gE, vi]
  refine zAC (zAD ?_)
  refine st_q (by rfl) (zAB ?_)
  refine zAC ?_
  refine zAC (zAD ?_)
  refine st_q (v := .agg (keyWords.map AVal.str)) (b := none) rfl ?_
  repeat with_reducible first | refine zAA ?_ | refine zAB ?_ | (apply st_q; exact q1)
  refine cd_block ?_
  refine cd_loop (fun k a hp => hp = h ∧ a.defers = [] ∧ ev a (.tmp 0) = some (.str s) ∧ ev a (.tmp 5) = some (.agg (keyWords.map AVal.str)) ∧ ∃ i : Nat, k + i = 19 ∧ ev a (.tmp 6) = some (.int .i64 i) ∧ keyWords.contains s = (keyWords.drop i).contains s) ?_ (n := 19) ⟨rfl, rfl, by exact e1, by exact e1, 0, rfl, by exact e1, rfl⟩
  rintro k a hp ⟨rfl, hd, h0, h5, i, hi, h6, hw⟩
  by_cases hlt : i < 19
  · have hlt' : decide ((i : Int) < 19) = true := decide_eq_true (by omega)
    have hkl : i < keyWords.length := hlt
    have hx : partA none (keyWords.map AVal.str) (i * 1) = some (.str keyWords[i]) := by
      rw [Nat.mul_one]; simp only [partA, List.getElem?_map, List.getElem?_eq_getElem hkl, Option.map_some]
    have hq0 : Hid (∀ A hh, ev A (.tmp 5) = some (.agg (keyWords.map AVal.str)) → ev A (.tmp 6) = some (.int .i64 (i : Nat)) → qA A hh (.indexV 19 1 false (.tmp 5) (.tmp 6)) = some (.str keyWords[i], none)) := ⟨fun A hh k5 k6 => by
      have : asNat (.int .i64 (i : Nat)) = some i := by simp [asNat]
      simp only [qA_indexV, k5, k6, this, if_pos hlt]
      rw [show (if false = true then some 1 else none : Option Nat) = none from rfl, hx]⟩
    rw [List.drop_eq_getElem_cons hkl, List.contains_cons] at hw
    have hwr : IntKind.i64.wrap ((i : Int) + 1) = ((i + 1 : Nat) : Int) := by rw [wrap_small (by omega) (by omega)]; omega
    clear hx
    generalize keyWords[i] = w at *
    generalize keyWords.map AVal.str = ws at *
    repeat with_reducible first | refine zAA ?_ | refine zAB ?_ | refine zAC ?_ | refine zAD ?_ | refine zAK ?_ | refine zAL ?_ | (apply st_q; exact q1) | (apply zAF; exact e1)
    refine st_q (hq0.out _ _ (by exact e1) (by exact e1)) ?_
    repeat with_reducible first | refine zAA ?_ | refine zAB ?_ | refine zAC ?_ | refine zAD ?_ | (apply st_q; exact q1)
    cases he : eqL w s
    · have hne : (s == w) = false := by
        rw [eqL_eq] at he
        have : w ≠ s := by simpa using he
        simpa using Ne.symm this
      rw [hne, Bool.false_or] at hw
      replace hw := Hid.mk hw
      repeat with_reducible first | refine zAA ?_ | refine zAJ ?_ | refine zAB ?_ | refine zAD ?_ | refine zAL ?_ | (apply st_q; exact q1) | (apply zAI; exact e1)
      exact ⟨k - 1, by omega, rfl, by exact n1, by exact e1, by exact e1, i + 1, by omega, by exact e1, hw.out⟩
    · have hne : (s == w) = true := by
        rw [eqL_eq] at he
        have : w = s := by simpa using he
        simp [this]
      rw [hne, Bool.true_or] at hw
      replace hw := Hid.mk hw
      repeat' with_reducible first | refine zAA ?_ | refine zAN ?_ | refine blk_ret ?_ | refine zAB ?_ | refine zAC ?_ | refine zAD ?_ | refine zAG ?_ | (apply st_q; exact q1) | (apply zAF; exact e1) | (apply zAE; exact n1; exact r1)
      exact ⟨by rw [hw.out], rfl⟩
  · have hlt' : decide ((i : Int) < 19) = false := decide_eq_false (by omega)
    have h19 : i = 19 := by omega
    have hw' : keyWords.contains s = false := by rw [hw, h19]; rfl
    replace hw' := Hid.mk hw'
    clear hw h19
    repeat' with_reducible first | refine zAA ?_ | refine nxt_exit ?_ | refine blk_same ?_ | refine zAB ?_ | refine zAC ?_ | refine zAD ?_ | refine cd_exit ?_ | refine zAG ?_ | (apply st_q; exact q1) | (apply zAI; exact e1) | (apply zAE; exact n1; exact r1)
    exact ⟨by rw [hw'.out], rfl⟩
theorem rIsName_ok (s : List Nat) (hs : s.length < 2 ^ 60) (h : AHeap) : Cl fns summ 66 [.str s] h fun v h' => v = .bool (isNameF s) ∧ h' = h := by
  rw [← rname_eq]
  refine H.go (fn := F_rIsName) rfl (by decide) rfl rfl ?_
  unfold F_rIsName
  dsimp only [qQ, qE, qN, gQ, gE, vi]
  cases hz : decide (s.length = 0)
  · have hz' : decide (Int.ofNat s.length > 0) = true := by
      have : s.length ≠ 0 := of_decide_eq_false hz
      simp only [Int.ofNat_eq_natCast, decide_eq_true_eq]; omega
    cases hl : decide (s.length ≤ 100)
    · have hl' : decide (Int.ofNat s.length ≤ 100) = false := by
        have := of_decide_eq_false hl
        simp only [Int.ofNat_eq_natCast, decide_eq_false_iff_not]; omega
      have hr : rnameF s = false := by simp only [rnameF, hl, Bool.and_false, Bool.false_and]
      replace hr := Hid.mk hr
      repeat' with_reducible first | refine zAA ?_ | refine zAB ?_ | refine zAC ?_ | refine zAD ?_ | refine zAG ?_ | (apply st_q; exact q1) | (apply st_qT; exact e1; exact q1) | (apply st_qF; exact e1) | (apply st_eF; exact e1) | (apply zAE; exact n1; exact r1)
      exact ⟨by rw [hr.out], rfl⟩
    · have hl' : decide (Int.ofNat s.length ≤ 100) = true := by
        have := of_decide_eq_true hl
        simp only [Int.ofNat_eq_natCast, decide_eq_true_eq]; omega
      repeat with_reducible first | refine zAA ?_ | refine zAB ?_ | refine zAC ?_ | refine zAD ?_ | (apply st_q; exact q1) | (apply st_qT; exact e1; exact q1)
      refine st_callT (by exact e1) (by exact s1) ((rword_ok H s hs _).mono ?_)
      rintro _ _ ⟨rfl, rfl⟩
      have hq : (((rwordF s : Nat) : Int) == Int.ofNat s.length) = (rwordF s == s.length) := by
        rw [Bool.eq_iff_iff]; simp; omega
      cases hw : rwordF s == s.length
      · rw [hw] at hq
        have hr : rnameF s = false := by simp only [rnameF, hw, Bool.and_false, Bool.false_and]
        replace hr := Hid.mk hr
        repeat' with_reducible first | refine zAA ?_ | refine zAB ?_ | refine zAG ?_ | (apply st_q; exact q1) | (apply st_qT; exact e1; exact q1) | (apply st_qF; exact e1) | (apply st_eF; exact e1) | (apply zAE; exact n1; exact r1)
        exact ⟨by rw [hr.out], rfl⟩
      · rw [hw] at hq
        have hr : rnameF s = !keyWords.contains s := by simp only [rnameF, hz, hl, hw, Bool.not_false, Bool.true_and]
        replace hr := Hid.mk hr
        repeat with_reducible first | (apply st_q; exact q1) | (apply st_qT; exact e1; exact q1)
        refine st_callT (by exact e1) (by exact s1) ((rIsKey_ok H s _).mono ?_)
        rintro _ _ ⟨rfl, rfl⟩
        repeat' with_reducible first | refine zAA ?_ | refine zAB ?_ | refine zAG ?_ | (apply st_q; exact q1) | (apply st_qT; exact e1; exact q1) | (apply zAE; exact n1; exact r1)
        exact ⟨by rw [hr.out], rfl⟩
  · have hz' : decide (Int.ofNat s.length > 0) = false := by
      have : s.length = 0 := of_decide_eq_true hz
      simp only [Int.ofNat_eq_natCast, decide_eq_false_iff_not]; omega
    have hr : rnameF s = false := by simp only [rnameF, hz, Bool.not_true, Bool.false_and]
    replace hr := Hid.mk hr
    repeat' with_reducible first | refine zAA ?_ | refine zAB ?_ | refine zAC ?_ | refine zAD ?_ | refine zAG ?_ | (apply st_q; exact q1) | (apply st_qF; exact e1) | (apply st_eF; exact e1) | (apply zAE; exact n1; exact r1)
    exact ⟨by rw [hr.out], rfl⟩
end
section
variable {fns : FuncId → Option AFunc} {summ : FuncId → List AVal → AHeap → Option (D (AVal × AHeap))}
variable (H : Has fns summ)
include H
theorem erising_ok (l : List (List Nat)) (hs : ∀ s ∈ l, s.length < 2 ^ 60) (hn : l.length < 2 ^ 60) (v : AVal) (h : AHeap) (hv : StrsAt h v l) : Cl fns summ 34 [v] h fun r h' => r = .bool (risingF l) ∧ h' = h := by
  refine H.go (fn := F_erising) rfl (by decide) rfl rfl ?_
  unfold F_erising
  dsimp only [qQ, qE, qN, gQ, gE, vi]
  have hlen := hv.len
  repeat with_reducible first | refine zAA ?_ | refine zAB ?_ | refine zAC ?_ | refine zAD ?_ | (apply st_q; exact q1)
  refine cd_count (N := l.length) (by omega) (fun j a hp => hp = h ∧ a.defers = [] ∧ ev a (.tmp 0) = some v ∧ ev a (.tmp 5) = some v ∧ risingF l = risG (prevL l j) (l.drop j))
    (by rintro j a hp t w (rfl | rfl | rfl) ⟨h1, h2, h3, h4, h5⟩ <;> exact ⟨h1, by rw [zAV]; exact h2, by exact e1, by exact e1, h5⟩) (by decide) ?_ ?_ ⟨rfl, by exact n1, by exact e1, by exact e1, rfl⟩ (by exact e1) (by exact e1)
  · rintro j a hp hj ⟨rfl, hd, h0, h5, hr⟩ hi hN
    have hc : l[j]? = some l[j] := List.getElem?_eq_getElem hj
    obtain ⟨b, o, ver, ro, e, vs, hix, hget, hvo⟩ := hv.at hc
    repeat with_reducible first | refine zAA ?_ | refine zAB ?_ | refine zAC ?_ | refine zAD ?_ | refine zAK ?_ | (apply st_q; exact q1)
    refine zAS (by exact s1) ((IsName_ok H _ (hs _ (List.getElem_mem hj)) _).mono ?_)
    rintro _ _ ⟨rfl, rfl⟩
    rw [risG_drop hc] at hr
    cases hg : isNameF l[j]
    · rw [hg] at hr
      repeat' with_reducible first | refine zAA ?_ | refine zAN ?_ | refine blk_ret ?_ | refine zAB ?_ | refine zAC ?_ | refine zAD ?_ | refine zAG ?_ | (apply st_q; exact q1) | (apply st_qF; exact e1) | (apply st_qU; exact e1) | (apply zAF; exact e1) | (apply zAE; exact n1; exact r1)
      exact ⟨by rw [hr]; rfl, rfl⟩
    · rw [hg] at hr
      cases j with
      | zero =>
        have hz : decide (((0 : Nat) : Int) > 0) = false := rfl
        repeat with_reducible first | refine zAA ?_ | refine zAJ ?_ | refine zAB ?_ | refine zAL ?_ | (apply st_q; exact q1) | (apply st_qT; exact e1; exact q1) | (apply st_qF; exact e1) | (apply zAI; exact e1)
        exact ⟨⟨rfl, by exact n1, by exact e1, by exact e1, by rw [hr]; show _ = risG (l[0]?) _; rw [hc]; rfl⟩, by exact e1, by exact e1⟩
      | succ j =>
        have hz : decide (((j + 1 : Nat) : Int) > 0) = true := by simp
        have hc' : l[j]? = some l[j] := List.getElem?_eq_getElem (by omega)
        obtain ⟨b', o', ver', ro', e', vs', hix', hget', hvo'⟩ := hv.at hc'
        have hw : IntKind.i64.wrap (((j + 1 : Nat) : Int) - 1) = (j : Nat) := by rw [wrap_small (by omega) (by omega)]; omega
        rw [prevL, hc'] at hr
        cases hlt : lessL l[j] l[j + 1]
        · simp only [hlt, Bool.and_false, Bool.false_and] at hr
          repeat' with_reducible first | refine zAA ?_ | refine zAN ?_ | refine blk_ret ?_ | refine zAB ?_ | refine zAC ?_ | refine zAD ?_ | refine zAG ?_ | (apply st_q; exact q1) | (apply st_qT; exact e1; exact q1) | (apply zAF; exact e1) | (apply zAE; exact n1; exact r1)
          exact ⟨by rw [hr], rfl⟩
        · simp only [hlt, Bool.and_true, Bool.true_and] at hr
          repeat with_reducible first | refine zAA ?_ | refine zAJ ?_ | refine zAB ?_ | refine zAL ?_ | (apply st_q; exact q1) | (apply st_qT; exact e1; exact q1) | (apply zAI; exact e1)
          exact ⟨⟨rfl, by exact n1, by exact e1, by exact e1, by rw [hr]; show _ = risG (l[j + 1]?) _; rw [hc]⟩, by exact e1, by exact e1⟩
  · rintro a hp ⟨rfl, hd, h0, h5, hr⟩
    rw [List.drop_length] at hr
    repeat' with_reducible first | refine zAA ?_ | refine zAB ?_ | refine zAC ?_ | refine zAD ?_ | refine zAG ?_ | (apply st_q; exact q1) | (apply zAE; exact n1; exact r1)
    exact ⟨by rw [hr]; rfl, rfl⟩
theorem r14rising_ok (l : List (List Nat)) (hs : ∀ s ∈ l, s.length < 2 ^ 60) (hn : l.length < 2 ^ 60) (v : AVal) (h : AHeap) (hv : StrsAt h v l) : Cl fns summ 40 [v] h fun r h' => r = .bool (risingF l) ∧ h' = h := by
  refine H.go (fn := F_r14rising) rfl (by decide) rfl rfl ?_
  unfold F_r14rising
  dsimp only [qQ, qE, qN, gQ, gE, vi]
  have hlen := hv.len
  repeat with_reducible first | refine zAA ?_ | refine zAB ?_ | refine zAC ?_ | refine zAD ?_ | (apply st_q; exact q1)
  refine cd_count (N := l.length) (by omega) (fun j a hp => hp = h ∧ a.defers = [] ∧ ev a (.tmp 0) = some v ∧ ev a (.tmp 5) = some v ∧ risingF l = risG (prevL l j) (l.drop j))
    (by rintro j a hp t w (rfl | rfl | rfl) ⟨h1, h2, h3, h4, h5⟩ <;> exact ⟨h1, by rw [zAV]; exact h2, by exact e1, by exact e1, h5⟩) (by decide) ?_ ?_ ⟨rfl, by exact n1, by exact e1, by exact e1, rfl⟩ (by exact e1) (by exact e1)
  · rintro j a hp hj ⟨rfl, hd, h0, h5, hr⟩ hi hN
    have hc : l[j]? = some l[j] := List.getElem?_eq_getElem hj
    obtain ⟨b, o, ver, ro, e, vs, hix, hget, hvo⟩ := hv.at hc
    repeat with_reducible first | refine zAA ?_ | refine zAB ?_ | refine zAC ?_ | refine zAD ?_ | refine zAK ?_ | (apply st_q; exact q1)
    refine zAS (by exact s1) ((rIsName_ok H _ (hs _ (List.getElem_mem hj)) _).mono ?_)
    rintro _ _ ⟨rfl, rfl⟩
    rw [risG_drop hc] at hr
    cases hg : isNameF l[j]
    · rw [hg] at hr
      repeat' with_reducible first | refine zAA ?_ | refine zAN ?_ | refine blk_ret ?_ | refine zAB ?_ | refine zAC ?_ | refine zAD ?_ | refine zAG ?_ | (apply st_q; exact q1) | (apply st_qF; exact e1) | (apply st_qU; exact e1) | (apply zAF; exact e1) | (apply zAE; exact n1; exact r1)
      exact ⟨by rw [hr]; rfl, rfl⟩
    · rw [hg] at hr
      cases j with
      | zero =>
        have hz : decide (((0 : Nat) : Int) > 0) = false := rfl
        repeat with_reducible first | refine zAA ?_ | refine zAJ ?_ | refine zAB ?_ | refine zAL ?_ | (apply st_q; exact q1) | (apply st_qT; exact e1; exact q1) | (apply st_qF; exact e1) | (apply zAI; exact e1)
        exact ⟨⟨rfl, by exact n1, by exact e1, by exact e1, by rw [hr]; show _ = risG (l[0]?) _; rw [hc]; rfl⟩, by exact e1, by exact e1⟩
      | succ j =>
        have hz : decide (((j + 1 : Nat) : Int) > 0) = true := by simp
        have hc' : l[j]? = some l[j] := List.getElem?_eq_getElem (by omega)
        obtain ⟨b', o', ver', ro', e', vs', hix', hget', hvo'⟩ := hv.at hc'
        have hw : IntKind.i64.wrap (((j + 1 : Nat) : Int) - 1) = (j : Nat) := by rw [wrap_small (by omega) (by omega)]; omega
        rw [prevL, hc'] at hr
        cases hlt : lessL l[j] l[j + 1]
        · simp only [hlt, Bool.and_false, Bool.false_and] at hr
          repeat' with_reducible first | refine zAA ?_ | refine zAN ?_ | refine blk_ret ?_ | refine zAB ?_ | refine zAC ?_ | refine zAD ?_ | refine zAG ?_ | (apply st_q; exact q1) | (apply st_qT; exact e1; exact q1) | (apply zAF; exact e1) | (apply zAE; exact n1; exact r1)
          exact ⟨by rw [hr], rfl⟩
        · simp only [hlt, Bool.and_true, Bool.true_and] at hr
          repeat with_reducible first | refine zAA ?_ | refine zAJ ?_ | refine zAB ?_ | refine zAL ?_ | (apply st_q; exact q1) | (apply st_qT; exact e1; exact q1) | (apply zAI; exact e1)
          exact ⟨⟨rfl, by exact n1, by exact e1, by exact e1, by rw [hr]; show _ = risG (l[j + 1]?) _; rw [hc]⟩, by exact e1, by exact e1⟩
  · rintro a hp ⟨rfl, hd, h0, h5, hr⟩
    rw [List.drop_length] at hr
    repeat' with_reducible first | refine zAA ?_ | refine zAB ?_ | refine zAC ?_ | refine zAD ?_ | refine zAG ?_ | (apply st_q; exact q1) | (apply zAE; exact n1; exact r1)
    exact ⟨by rw [hr]; rfl, rfl⟩
end
end Go.Ab.S
end
section
/-
  A class's fields, and it itself.
-/
namespace Go.Ab.S
open Go.Ab
set_option maxHeartbeats 4000000
theorem take5 (a b c d e : AVal) : List.take 5 [a, b, c, d, e] = [a, b, c, d, e] := rfl
theorem take21 (a b c d e : AVal) : List.take 2 (List.drop 1 [a, b, c, d, e]) = [b, c] := rfl
def zeroN : Node := ⟨0, [], [], [], false⟩
theorem ints_nil (h : AHeap) : IntsAt h (.slice none 0) [] := ⟨rfl, fun i x hx => by simp at hx⟩
theorem strs_nil (h : AHeap) : StrsAt h (.slice none 0) [] := ⟨rfl, fun i x hx => by simp at hx⟩
theorem ix_lit {v : AVal} {sz k : Nat} {p : Nat × Nat} (hs : slA v sz k = some p) : Hid (∀ (A : AAct) (hh : AHeap) (t : Nat), ev A (.tmp t) = some v → qA A hh (.indexA sz (.tmp t) (.val (.int .i64 (k : Nat)))) = some (.ptr (some p), none)) := ⟨fun A hh t e => by
  have : asNat (.int .i64 (k : Nat)) = some k := by simp [asNat]
  simp only [qA_indexA, e, ev_val, this, hs]⟩
/-- A node's cells, where it lies. -/
theorem node_at {h : AHeap} {nv : AVal} {g : Graph} (hN : NodesAt h nv g.nodes) {a : Int} (ha : 0 ≤ a ∧ a < g.nodes.length) : ∃ (k b o ver : Nat) (ro : Bool) (e : TypeId) (vs : List AVal) (av lv : AVal), a = (k : Int) ∧ slA nv 5 k = some (b, o) ∧ h.objs.get b = some (ver, .cells ro e vs) ∧
    o + 5 ≤ vs.length ∧ (vs.drop o).take 5 = [.int .i64 (zAH g a).kind, .str (zAH g a).name, av, lv, .bool (zAH g a).isOpen] ∧ IntsAt h av (zAH g a).args ∧ StrsAt h lv (zAH g a).labels := by
  obtain ⟨k, rfl⟩ : ∃ k : Nat, a = (k : Int) := ⟨a.toNat, by omega⟩
  have hk : k < g.nodes.length := by omega
  have hn : zAH g (k : Int) = g.nodes[k] := by simp [zAH, hk]
  obtain ⟨b, o, ver, ro, e, vs, av, lv, hix, hget, hvl, hvo, _, _, _, _, _, ia, il⟩ := hN.at (List.getElem?_eq_getElem hk)
  rw [hn]
  exact ⟨k, b, o, ver, ro, e, vs, av, lv, rfl, hix, hget, hvl, hvo, ia, il⟩
theorem int_at {h : AHeap} {av : AVal} {l : List Int} (hI : IntsAt h av l) {k : Nat} (hk : k < l.length) : ∃ (b o ver : Nat) (ro : Bool) (e : TypeId) (vs : List AVal), slA av 1 k = some (b, o) ∧ h.objs.get b = some (ver, .cells ro e vs) ∧ vs[o]? = some (.int .i64 (l.getD k 0)) := by
  obtain ⟨b, o, ver, ro, e, vs, h1, h2, h3⟩ := hI.at (List.getElem?_eq_getElem hk)
  exact ⟨b, o, ver, ro, e, vs, h1, h2, by rw [h3]; simp [hk]⟩
def notCon (n : Node) (s : List Nat) : Bool := (n.kind != 2) || !eqL n.name s
theorem notCon_arrow (n : Node) : notCon n [45, 62] = !isArrow n := by
  simp only [notCon, isArrow, bne]; cases n.kind == 2 <;> simp
theorem notCon_star (n : Node) : notCon n [42] = !isStar n := by
  simp only [notCon, isStar, bne]; cases n.kind == 2 <;> simp
def bothObj (x y : Node) : Bool := (x.kind == 3 && !x.isOpen) && y.kind == 3
theorem sub_succ {n j : Nat} (h : j < n) : n - j = (n - (j + 1)) + 1 := by omega
section
variable {fns : FuncId → Option AFunc} {summ : FuncId → List AVal → AHeap → Option (D (AVal × AHeap))}
variable (H : Has fns summ)
include H
theorem ebody_ok (c : CDef) (hc : zAT c.g = 0) (hp : 0 ≤ c.params ∧ c.params ≤ 100) (nv cv vv : AVal) (h : AHeap) (hw : WF h) (hN : NodesAt h nv c.g.nodes) (hcv : one cv = true) (hvv : one vv = true) :
    Cl fns summ 35 [.agg [.int .i64 c.params, nv, .int .i64 c.g.root, cv, vv]] h fun r h' => (∃ n1 n2 a1 l1 a2 l2, r = .tuple [nodeV n1 a1 l1, nodeV n2 a2 l2, .bool (bodyF c).isSome] ∧ IntsAt h' a1 n1.args ∧ StrsAt h' l1 n1.labels ∧ IntsAt h' a2 n2.args ∧ StrsAt h' l2 n2.labels ∧ (∀ p, bodyF c = some p → n1 = zAH c.g p.1 ∧ n2 = zAH c.g p.2)) ∧ Grow h h' := by
  obtain ⟨N, hNp⟩ : ∃ N : Nat, c.params = (N : Int) := ⟨c.params.toNat, by omega⟩
  have hcr := check_root hc
  have hmay := Hid.mk hcr.2.2.2
  have hdown : c.params.toNat = N := by rw [hNp]; exact Int.toNat_natCast N
  rw [hNp]
  refine H.go (fn := F_ebody) rfl (by decide) rfl rfl ?_
  unfold F_ebody
  dsimp only [qQ, qE, qN, gQ, gE, vi]
  refine zAC (zAD ?_)
  refine st_box (by exact e1) (by exact cc) hw ?_
  rintro b1 h1 hb1 g1 o1
  refine st_alloc g1.wf ?_
  rintro b2 h2 hb2 g2 o2
  refine st_alloc g2.wf ?_
  rintro b3 h3 hb3 g3 o3
  have l1 := g1.wf.lt o1
  have l2 := g2.wf.lt o2
  have l3 := g3.wf.lt o3
  have m1 := g1.next
  have m2 := g2.next
  have m3 := g3.next
  replace o1 := g3.keep _ _ (g2.keep _ _ o1)
  replace o2 := g3.keep _ _ o2
  have G := (g1.trans g2).trans g3
  clear g1 g2 g3
  obtain ⟨kr, br, orr, verr, ror, er, vsr, ar, lr, hkr, hix, hget, hpl, hpt, hia, hil⟩ := node_at hN ⟨hcr.1, hcr.2.1⟩
  replace hget := G.keep _ _ hget
  replace hkr := Hid.mk hkr
  have hroot : Hid (ev { tmps := .leaf, defers := [] } (.val (.int .i64 c.g.root)) = some (.int .i64 (kr : Nat))) := ⟨by rw [hkr.out]; rfl⟩
  rw [hkr.out] at o1
  repeat with_reducible first | refine zAA ?_ | refine zAB ?_ | refine zAC ?_ | refine zAD ?_ | (apply st_q; exact q1)
  refine st_alloc G.wf ?_
  rintro b5 h5 hb5 g5 o5
  replace o1 := g5.keep _ _ o1
  replace o2 := g5.keep _ _ o2
  replace o3 := g5.keep _ _ o3
  have hia5 := hia.mono (G.trans g5)
  have hil5 := hil.mono (G.trans g5)
  refine zAP (by exact e1) (by exact e1) (cs := [.int .i64 (zAH c.g c.g.root).kind, .str (zAH c.g c.g.root).name, ar, lr, .bool (zAH c.g c.g.root).isOpen]) rfl rfl g5.wf o5 (by simp) (ones_node hia.len hil.len) ?_
  rintro v6 h6 p6 o6
  simp only [List.take_zero, List.nil_append, List.length_cons, List.length_nil, List.drop_succ_cons, List.drop_zero, List.append_nil, Nat.zero_add, Nat.reduceAdd, List.drop_nil, List.cons_append] at o6
  have l5 := g5.wf.lt o5
  have m5 := g5.next
  have G6 : Grow h h6 := p6.grow h hw (G.trans g5) (by omega)
  have n6 := p6.next
  replace o1 := p6.keep _ (by omega) _ o1
  replace o2 := p6.keep _ (by omega) _ o2
  replace o3 := p6.keep _ (by omega) _ o3
  clear hget hpl hpt hix g5 p6 hia5 hil5 o5 G hroot
  repeat with_reducible first | refine zAA ?_ | refine zAB ?_ | refine zAC ?_ | refine zAD ?_ | (apply st_q; exact q1)
  refine cd_count (N := N) (by omega) (fun j a hp => Grow h hp ∧ a.defers = [] ∧ ev a (.tmp 1) = some (.ptr (some (b1, 0))) ∧ ev a (.tmp 2) = some (.ptr (some (b2, 0))) ∧ ev a (.tmp 3) = some (.ptr (some (b3, 0))) ∧ ev a (.tmp 5) = some (.ptr (some (b5, 0))) ∧
      (∃ ver, hp.objs.get b1 = some (ver, .cells false 42 [.int .i64 (N : Nat), nv, .int .i64 (kr : Nat), cv, vv])) ∧ (∃ ver, hp.objs.get b2 = some (ver, .cells false 60 [.int .i64 0, .str [], .slice none 0, .slice none 0, .bool false])) ∧ (∃ ver, hp.objs.get b3 = some (ver, .cells false 60 [.int .i64 0, .str [], .slice none 0, .slice none 0, .bool false])) ∧
      (b1 < hp.next ∧ b2 < hp.next ∧ b3 < hp.next ∧ b5 < hp.next) ∧ ∃ (x : Int) (ver : Nat) (av lv : AVal), (0 ≤ x ∧ x < c.g.nodes.length) ∧ hp.objs.get b5 = some (ver, .cells false 60 [.int .i64 (zAH c.g x).kind, .str (zAH c.g x).name, av, lv, .bool (zAH c.g x).isOpen]) ∧ IntsAt h av (zAH c.g x).args ∧ StrsAt h lv (zAH c.g x).labels ∧ downF c.g N c.g.root = downF c.g (N - j) x)
    (by rintro j a hp t w (rfl | rfl | rfl) ⟨k1, k2, k3, k4, k5, k6, k7⟩ <;> exact ⟨k1, by rw [zAV]; exact k2, by exact e1, by exact e1, by exact e1, by exact e1, k7⟩) (by decide) ?_ ?_
    ⟨G6, by exact n1, by exact e1, by exact e1, by exact e1, by exact e1, ⟨_, o1⟩, ⟨_, o2⟩, ⟨_, o3⟩, ⟨by omega, by omega, by omega, by omega⟩, c.g.root, _, ar, lr, ⟨hcr.1, hcr.2.1⟩, o6, hia, hil, rfl⟩ (by exact e1) (by exact e1)
  · clear G6 o1 o2 o3 o6 hia hil n6 m5 l5
    rintro j a hp hj ⟨G, hd, t1, t2, t3, t5, ⟨v1, o1⟩, ⟨v2, o2⟩, ⟨v3, o3⟩, ⟨q1', q2', q3', q5'⟩, x, v5, av, lv, hx, o5, hia, hil, hdw⟩ hi hn
    have hNj := sub_succ hj
    cases hna : notCon (zAH c.g x) [45, 62]
    · have harr : isArrow (zAH c.g x) = true := by rw [notCon_arrow] at hna; simpa using hna
      have hm := hmay.out _ (node_in hx)
      have hal := arrow_args hm (.inl harr)
      have hy := may_args hm _ (getD_mem (l := (zAH c.g x).args) (i := 1) (by omega))
      rw [hNj, downF, if_pos harr] at hdw
      obtain ⟨bi, oi, veri, roi, ei, vsi, hsi, hgi, hvi⟩ := int_at hia (k := 1) (by omega)
      obtain ⟨ky, by', oy, very, roy, ey, vsy, ay, ly, hky, hsy, hgy, hpyl, hpy, hiay, hily⟩ := node_at hN hy
      have hq1 := ix_lit hsi
      have hk2 : ((zAH c.g x).kind != 2) = false := by
        simp only [isArrow, Bool.and_eq_true, beq_iff_eq] at harr; simp [harr.1]
      have hn2 : eqL (zAH c.g x).name [45, 62] = true := by
        simp only [isArrow, Bool.and_eq_true] at harr; exact harr.2
      replace hgi := G.keep _ _ hgi
      replace hgy := G.keep _ _ hgy
      rw [hky] at hvi
      have hone := ones_node (n := zAH c.g ((zAH c.g x).args.getD 1 0)) hiay.len hily.len
      replace hdw := Hid.mk hdw
      replace hky := Hid.mk hky
      replace hy := Hid.mk hy
      clear hm hal harr hna hNj
      generalize (zAH c.g x).args.getD 1 0 = y at *
      repeat with_reducible first | refine zAA ?_ | refine zAB ?_ | refine zAC ?_ | refine zAD ?_ | refine zAK ?_ | refine zAL ?_ | refine cd_draw ?_ | (apply dr_q; exact q1) | (apply dr_ql; exact q1; exact og1) | (apply st_q; exact q1) | (apply st_qT; exact e1; exact q1) | (apply zAI; exact e1)
      refine dr_q (hq1.out _ _ _ (by exact e1)) ?_
      repeat with_reducible first | (apply dr_q; exact q1) | (apply dr_ql; exact q1; exact og1)
      refine dr_st (zAP (by exact e1) (by exact e1) (cs := [.int .i64 (zAH c.g y).kind, .str (zAH c.g y).name, ay, ly, .bool (zAH c.g y).isOpen]) rfl rfl G.wf o5 (by simp) hone ?_)
      rintro v7 h7 p7 o7
      simp only [List.take_zero, List.nil_append, List.length_cons, List.length_nil, List.drop_succ_cons, List.drop_zero, List.append_nil, Nat.zero_add, Nat.reduceAdd, List.drop_nil, List.cons_append] at o7
      refine zAB ⟨by simp [heldOk, Nat.testBit], ?_⟩
      have n7 := p7.next
      have G7 := p7.grow h hw G (by omega)
      have o17 := p7.keep b1 (by omega) _ o1
      have o27 := p7.keep b2 (by omega) _ o2
      have o37 := p7.keep b3 (by omega) _ o3
      clear o1 o2 o3 o5 p7 hgi hgy
      repeat with_reducible first | refine zAA ?_ | refine zAJ ?_ | refine dr_nil ?_
      exact ⟨⟨G7, by exact n1, by exact e1, by exact e1, by exact e1, by exact e1, ⟨_, o17⟩, ⟨_, o27⟩, ⟨_, o37⟩, ⟨by omega, by omega, by omega, by omega⟩, y, _, ay, ly, hy.out, o7, hiay, hily, hdw.out⟩, by exact e1, by exact e1⟩
    · have hb : bodyF c = none := by
        have harr : isArrow (zAH c.g x) = false := by rw [notCon_arrow] at hna; simpa using hna
        rw [hNj, downF, harr] at hdw
        unfold bodyF
        rw [hdown, hdw]; rfl
      replace hb := Hid.mk hb
      have ht5 := take5
      clear hdw hNj
      refine zAK (zAC (zAC (zAD ?_)))
      cases hk2 : (zAH c.g x).kind != 2
      · have hn2 : eqL (zAH c.g x).name [45, 62] = false := by
          rw [notCon, hk2, Bool.false_or] at hna; simpa using hna
        clear hna
        repeat with_reducible first | refine zAA ?_ | refine zAB ?_ | refine zAC ?_ | refine cd_draw ?_ | (apply dr_ql; exact q1; exact og1) | (apply st_q; exact q1) | (apply st_qT; exact e1; exact q1) | (apply zAF; exact e1)
        refine dr_st (zAP (by exact e1) (by exact e1) (cs := [.int .i64 0, .str [], .slice none 0, .slice none 0, .bool false]) rfl rfl G.wf o2 (by simp) rfl ?_)
        rintro v7 h7 p7 o7
        simp only [List.take_zero, List.nil_append, List.length_cons, List.length_nil, List.drop_succ_cons, List.drop_zero, List.append_nil, Nat.zero_add, Nat.reduceAdd, List.drop_nil, List.cons_append] at o7
        have o37 := p7.keep b3 (by omega) _ o3
        refine zAB ⟨by simp [heldOk, Nat.testBit, o37], ?_⟩
        refine dr_st (zAP (by exact e1) (by exact e1) (cs := [.int .i64 0, .str [], .slice none 0, .slice none 0, .bool false]) rfl rfl (p7.wf G.wf) o37 (by simp) rfl ?_)
        rintro v8 h8 p8 o8
        simp only [List.take_zero, List.nil_append, List.length_cons, List.length_nil, List.drop_succ_cons, List.drop_zero, List.append_nil, Nat.zero_add, Nat.reduceAdd, List.drop_nil, List.cons_append] at o8
        have o28 := p8.keep b2 (by omega) _ o7
        refine zAB ⟨by simp [heldOk, Nat.testBit], ?_⟩
        have G8 := p8.grow h hw (p7.grow h hw G (by omega)) (by omega)
        clear o2 o3 p7 p8 o37 o7
        repeat' with_reducible first | refine zAA ?_ | refine zAN ?_ | refine blk_ret ?_ | refine zAG ?_ | refine dr_nil ?_ | (apply dr_q; exact q1) | (apply zAE; exact n1; exact r1)
        exact ⟨⟨zeroN, zeroN, _, _, _, _, by rw [hb.out]; rfl, ints_nil _, strs_nil _, ints_nil _, strs_nil _, fun p hp => by rw [hb.out] at hp; cases hp⟩, G8⟩
      · clear hna
        repeat with_reducible first | refine zAA ?_ | refine zAB ?_ | refine zAC ?_ | refine cd_draw ?_ | (apply dr_ql; exact q1; exact og1) | (apply st_q; exact q1) | (apply st_qF; exact e1) | (apply zAF; exact e1)
        refine dr_st (zAP (by exact e1) (by exact e1) (cs := [.int .i64 0, .str [], .slice none 0, .slice none 0, .bool false]) rfl rfl G.wf o2 (by simp) rfl ?_)
        rintro v7 h7 p7 o7
        simp only [List.take_zero, List.nil_append, List.length_cons, List.length_nil, List.drop_succ_cons, List.drop_zero, List.append_nil, Nat.zero_add, Nat.reduceAdd, List.drop_nil, List.cons_append] at o7
        have o37 := p7.keep b3 (by omega) _ o3
        refine zAB ⟨by simp [heldOk, Nat.testBit, o37], ?_⟩
        refine dr_st (zAP (by exact e1) (by exact e1) (cs := [.int .i64 0, .str [], .slice none 0, .slice none 0, .bool false]) rfl rfl (p7.wf G.wf) o37 (by simp) rfl ?_)
        rintro v8 h8 p8 o8
        simp only [List.take_zero, List.nil_append, List.length_cons, List.length_nil, List.drop_succ_cons, List.drop_zero, List.append_nil, Nat.zero_add, Nat.reduceAdd, List.drop_nil, List.cons_append] at o8
        have o28 := p8.keep b2 (by omega) _ o7
        refine zAB ⟨by simp [heldOk, Nat.testBit], ?_⟩
        have G8 := p8.grow h hw (p7.grow h hw G (by omega)) (by omega)
        clear o2 o3 p7 p8 o37 o7
        repeat' with_reducible first | refine zAA ?_ | refine zAN ?_ | refine blk_ret ?_ | refine zAG ?_ | refine dr_nil ?_ | (apply dr_q; exact q1) | (apply zAE; exact n1; exact r1)
        exact ⟨⟨zeroN, zeroN, _, _, _, _, by rw [hb.out]; rfl, ints_nil _, strs_nil _, ints_nil _, strs_nil _, fun p hp => by rw [hb.out] at hp; cases hp⟩, G8⟩
  · rintro a hp ⟨G, hd, t1, t2, t3, t5, ⟨v1, o1⟩, ⟨v2, o2⟩, ⟨v3, o3⟩, ⟨q1', q2', q3', q5'⟩, x, v5, av, lv, hx, o5, hia, hil, hdw⟩
    clear G6 o6 n6 m5 l5
    rw [Nat.sub_self, downF] at hdw
    have hbd : Hid (bodyF c = partF c.g x) := ⟨by unfold bodyF; rw [hdown, hdw]⟩
    have ht5 := take5
    clear hdw
    refine zAC (zAC (zAD ?_))
    cases hna : notCon (zAH c.g x) [42]
    · have hst : isStar (zAH c.g x) = true := by rw [notCon_star] at hna; simpa using hna
      have hm := hmay.out _ (node_in hx)
      have hal := arrow_args hm (.inr hst)
      have hy0 := may_args hm _ (getD_mem (l := (zAH c.g x).args) (i := 0) (by omega))
      have hy1 := may_args hm _ (getD_mem (l := (zAH c.g x).args) (i := 1) (by omega))
      have hbe : bodyF c = if bothObj (zAH c.g ((zAH c.g x).args.getD 0 0)) (zAH c.g ((zAH c.g x).args.getD 1 0)) then some ((zAH c.g x).args.getD 0 0, (zAH c.g x).args.getD 1 0) else none := by
        rw [hbd.out]; unfold partF; rw [if_pos hst]; rfl
      have hk2 : ((zAH c.g x).kind != 2) = false := by
        simp only [isStar, Bool.and_eq_true, beq_iff_eq] at hst; simp [hst.1]
      have hn2 : eqL (zAH c.g x).name [42] = true := by
        simp only [isStar, Bool.and_eq_true] at hst; exact hst.2
      obtain ⟨bi, oi, veri, roi, ei, vsi, hsi, hgi, hvi⟩ := int_at hia (k := 0) (by omega)
      obtain ⟨bj, oj, verj, roj, ej, vsj, hsj, hgj, hvj⟩ := int_at hia (k := 1) (by omega)
      have hq0 := ix_lit hsi
      have hq1 := ix_lit hsj
      obtain ⟨k0, bx0, ox0, verx0, rox0, ex0, vsx0, av0, lv0, hk0, hsx0, hgx0, hpl0, hpx0, hia0, hil0⟩ := node_at hN hy0
      obtain ⟨k1, bx1, ox1, verx1, rox1, ex1, vsx1, av1, lv1, hk1, hsx1, hgx1, hpl1, hpx1, hia1, hil1⟩ := node_at hN hy1
      have hgi' := G.keep _ _ hgi
      have hgj' := G.keep _ _ hgj
      have hgx0' := G.keep _ _ hgx0
      have hgx1' := G.keep _ _ hgx1
      rw [hk0] at hvi
      rw [hk1] at hvj
      have z0 := ones_node (n := zAH c.g ((zAH c.g x).args.getD 0 0)) hia0.len hil0.len
      have z1 := ones_node (n := zAH c.g ((zAH c.g x).args.getD 1 0)) hia1.len hil1.len
      have w0 := G.wf.lt hgi'
      clear hm hal hst hna hy0 hy1 hbd
      generalize hY0 : (zAH c.g x).args.getD 0 0 = y0 at *
      generalize hY1 : (zAH c.g x).args.getD 1 0 = y1 at *
      clear hY0 hY1
      replace hbe := Hid.mk hbe
      replace hk0 := Hid.mk hk0
      replace hk1 := Hid.mk hk1
      have lb : ∀ c p, h.objs.get c = some p → c < h.next := fun c p hcp => hw.lt hcp
      repeat with_reducible first | refine zAA ?_ | refine zAB ?_ | refine zAC ?_ | refine zAL ?_ | refine cd_draw ?_ | (apply dr_q; exact q1) | (apply dr_ql; exact q1; exact og1) | (apply st_q; exact q1) | (apply st_qT; exact e1; exact q1) | (apply zAI; exact e1)
      refine dr_q (hq0.out _ _ _ (by exact e1)) ?_
      repeat with_reducible first | (apply dr_q; exact q1) | (apply dr_ql; exact q1; exact og1)
      refine dr_q (hq1.out _ _ _ (by exact e1)) ?_
      repeat with_reducible first | (apply dr_q; exact q1) | (apply dr_ql; exact q1; exact og1)
      refine dr_st (zAP (by exact e1) (by exact e1) (cs := [.int .i64 (zAH c.g y0).kind, .str (zAH c.g y0).name, av0, lv0, .bool (zAH c.g y0).isOpen]) rfl rfl G.wf o2 (by simp) z0 ?_)
      rintro v7 h7 p7 o27
      simp only [List.take_zero, List.nil_append, List.length_cons, List.length_nil, List.drop_succ_cons, List.drop_zero, List.append_nil, Nat.zero_add, Nat.reduceAdd, List.drop_nil, List.cons_append] at o27
      have hb25 : b5 ≠ b2 := by omega
      have o17 := p7.keep b1 (by omega) _ o1
      have o37 := p7.keep b3 (by omega) _ o3
      have o57 := p7.keep b5 hb25 _ o5
      have G7 := p7.grow h hw G (by omega)
      have hgj7 := G7.keep _ _ hgj
      have hgx17 := G7.keep _ _ hgx1
      refine zAB ⟨by simp [heldOk, Nat.testBit, o17, o57, hgj7, hgx17], ?_⟩
      refine dr_st (zAP (by exact e1) (by exact e1) (cs := [.int .i64 (zAH c.g y1).kind, .str (zAH c.g y1).name, av1, lv1, .bool (zAH c.g y1).isOpen]) rfl rfl G7.wf o37 (by simp) z1 ?_)
      rintro v8 h8 p8 o38
      simp only [List.take_zero, List.nil_append, List.length_cons, List.length_nil, List.drop_succ_cons, List.drop_zero, List.append_nil, Nat.zero_add, Nat.reduceAdd, List.drop_nil, List.cons_append] at o38
      have o28 := p8.keep b2 (by omega) _ o27
      refine zAB ⟨by simp [heldOk, Nat.testBit], ?_⟩
      have G8 := p8.grow h hw G7 (by omega)
      have nn8 := p8.next
      have nn7 := p7.next
      clear o1 o5 o17 o37 o57 hgi hgj hgx0 hgx1 hgi' hgj' hgx0' hgx1' hgj7 hgx17 o27 hvi hvj hsi hsj hsx0 hsx1 hpl0 hpl1 hpx0 hpx1 p7 p8 G7
      replace o2 := o28
      replace o3 := o38
      replace G := G8
      clear q1' q2' q3' q5' nn7 nn8
      cases d1 : (zAH c.g y0).kind == 3
      · repeat with_reducible first | refine zAA ?_ | refine zAC ?_ | refine dr_nil ?_ | refine cd_draw ?_ | (apply dr_gF; exact e1) | (apply dr_q; exact q1) | (apply dr_ql; exact q1; exact og1)
        refine dr_st (zAP (by exact e1) (by exact e1) (cs := [.int .i64 (zAH c.g y0).kind, .str (zAH c.g y0).name, av0, lv0, .bool (zAH c.g y0).isOpen]) rfl rfl G.wf o2 (by simp) (by exact z0) ?_)
        rintro v7 h7 p7 o7
        simp only [List.take_zero, List.nil_append, List.length_cons, List.length_nil, List.drop_succ_cons, List.drop_zero, List.append_nil, Nat.zero_add, Nat.reduceAdd, List.drop_nil, List.cons_append] at o7
        have o37 := p7.keep b3 (by omega) _ o3
        refine zAB ⟨by simp [heldOk, Nat.testBit, o37], ?_⟩
        refine dr_st (zAP (by exact e1) (by exact e1) (cs := [.int .i64 (zAH c.g y1).kind, .str (zAH c.g y1).name, av1, lv1, .bool (zAH c.g y1).isOpen]) rfl rfl (p7.wf G.wf) o37 (by simp) z1 ?_)
        rintro v8 h8 p8 o8
        simp only [List.take_zero, List.nil_append, List.length_cons, List.length_nil, List.drop_succ_cons, List.drop_zero, List.append_nil, Nat.zero_add, Nat.reduceAdd, List.drop_nil, List.cons_append] at o8
        have o28 := p8.keep b2 (by omega) _ o7
        refine zAB ⟨by simp [heldOk, Nat.testBit], ?_⟩
        have G8 := p8.grow h hw (p7.grow h hw G (by omega)) (by omega)
        clear o2 o3 p7 p8 o37 o7
        repeat' with_reducible first | refine zAA ?_ | refine zAG ?_ | refine dr_nil ?_ | (apply dr_q; exact q1) | (apply zAE; exact n1; exact r1)
        exact ⟨⟨zAH c.g y0, zAH c.g y1, av0, lv0, av1, lv1, by rw [hbe.out]; simp only [bothObj, d1, Bool.false_and]; rfl, hia0.mono G8, hil0.mono G8, hia1.mono G8, hil1.mono G8, fun p hp => by
          rw [hbe.out] at hp
          split at hp
          · cases hp; exact ⟨rfl, rfl⟩
          · cases hp⟩, G8⟩
      cases d2 : (zAH c.g y0).isOpen
      rotate_left
      · repeat with_reducible first | refine zAA ?_ | refine zAC ?_ | refine dr_nil ?_ | refine cd_draw ?_ | (apply dr_gT; exact e1) | (apply dr_gF; exact e1) | (apply dr_q; exact q1) | (apply dr_ql; exact q1; exact og1)
        refine dr_st (zAP (by exact e1) (by exact e1) (cs := [.int .i64 (zAH c.g y0).kind, .str (zAH c.g y0).name, av0, lv0, .bool true]) rfl rfl G.wf o2 (by simp) (by rw [d2] at z0; exact z0) ?_)
        rintro v7 h7 p7 o7
        simp only [List.take_zero, List.nil_append, List.length_cons, List.length_nil, List.drop_succ_cons, List.drop_zero, List.append_nil, Nat.zero_add, Nat.reduceAdd, List.drop_nil, List.cons_append] at o7
        have o37 := p7.keep b3 (by omega) _ o3
        refine zAB ⟨by simp [heldOk, Nat.testBit, o37], ?_⟩
        refine dr_st (zAP (by exact e1) (by exact e1) (cs := [.int .i64 (zAH c.g y1).kind, .str (zAH c.g y1).name, av1, lv1, .bool (zAH c.g y1).isOpen]) rfl rfl (p7.wf G.wf) o37 (by simp) z1 ?_)
        rintro v8 h8 p8 o8
        simp only [List.take_zero, List.nil_append, List.length_cons, List.length_nil, List.drop_succ_cons, List.drop_zero, List.append_nil, Nat.zero_add, Nat.reduceAdd, List.drop_nil, List.cons_append] at o8
        have o28 := p8.keep b2 (by omega) _ o7
        refine zAB ⟨by simp [heldOk, Nat.testBit], ?_⟩
        have G8 := p8.grow h hw (p7.grow h hw G (by omega)) (by omega)
        clear o2 o3 p7 p8 o37 o7
        repeat' with_reducible first | refine zAA ?_ | refine zAG ?_ | refine dr_nil ?_ | (apply dr_q; exact q1) | (apply zAE; exact n1; exact r1)
        exact ⟨⟨zAH c.g y0, zAH c.g y1, av0, lv0, av1, lv1, by rw [hbe.out]; simp only [bothObj, d1, d2, Bool.not_true, Bool.and_false, Bool.false_and, nodeV, d2]; rfl, hia0.mono G8, hil0.mono G8, hia1.mono G8, hil1.mono G8, fun p hp => by
          rw [hbe.out] at hp
          split at hp
          · cases hp; exact ⟨rfl, rfl⟩
          · cases hp⟩, G8⟩
      cases d3 : (zAH c.g y1).kind == 3
      · repeat with_reducible first | refine zAA ?_ | refine zAC ?_ | refine dr_nil ?_ | refine cd_draw ?_ | (apply dr_gT; exact e1) | (apply dr_q; exact q1) | (apply dr_ql; exact q1; exact og1)
        refine dr_st (zAP (by exact e1) (by exact e1) (cs := [.int .i64 (zAH c.g y0).kind, .str (zAH c.g y0).name, av0, lv0, .bool false]) rfl rfl G.wf o2 (by simp) (by rw [d2] at z0; exact z0) ?_)
        rintro v7 h7 p7 o7
        simp only [List.take_zero, List.nil_append, List.length_cons, List.length_nil, List.drop_succ_cons, List.drop_zero, List.append_nil, Nat.zero_add, Nat.reduceAdd, List.drop_nil, List.cons_append] at o7
        have o37 := p7.keep b3 (by omega) _ o3
        refine zAB ⟨by simp [heldOk, Nat.testBit, o37], ?_⟩
        refine dr_st (zAP (by exact e1) (by exact e1) (cs := [.int .i64 (zAH c.g y1).kind, .str (zAH c.g y1).name, av1, lv1, .bool (zAH c.g y1).isOpen]) rfl rfl (p7.wf G.wf) o37 (by simp) z1 ?_)
        rintro v8 h8 p8 o8
        simp only [List.take_zero, List.nil_append, List.length_cons, List.length_nil, List.drop_succ_cons, List.drop_zero, List.append_nil, Nat.zero_add, Nat.reduceAdd, List.drop_nil, List.cons_append] at o8
        have o28 := p8.keep b2 (by omega) _ o7
        refine zAB ⟨by simp [heldOk, Nat.testBit], ?_⟩
        have G8 := p8.grow h hw (p7.grow h hw G (by omega)) (by omega)
        clear o2 o3 p7 p8 o37 o7
        repeat' with_reducible first | refine zAA ?_ | refine zAG ?_ | refine dr_nil ?_ | (apply dr_q; exact q1) | (apply zAE; exact n1; exact r1)
        exact ⟨⟨zAH c.g y0, zAH c.g y1, av0, lv0, av1, lv1, by rw [hbe.out]; simp only [bothObj, d1, d2, d3, Bool.and_false, nodeV, d2]; rfl, hia0.mono G8, hil0.mono G8, hia1.mono G8, hil1.mono G8, fun p hp => by
          rw [hbe.out] at hp
          split at hp
          · cases hp; exact ⟨rfl, rfl⟩
          · cases hp⟩, G8⟩
      · repeat with_reducible first | refine zAA ?_ | refine zAC ?_ | refine dr_nil ?_ | refine cd_draw ?_ | (apply dr_gT; exact e1) | (apply dr_q; exact q1) | (apply dr_ql; exact q1; exact og1)
        refine dr_st (zAP (by exact e1) (by exact e1) (cs := [.int .i64 (zAH c.g y0).kind, .str (zAH c.g y0).name, av0, lv0, .bool false]) rfl rfl G.wf o2 (by simp) (by rw [d2] at z0; exact z0) ?_)
        rintro v7 h7 p7 o7
        simp only [List.take_zero, List.nil_append, List.length_cons, List.length_nil, List.drop_succ_cons, List.drop_zero, List.append_nil, Nat.zero_add, Nat.reduceAdd, List.drop_nil, List.cons_append] at o7
        have o37 := p7.keep b3 (by omega) _ o3
        refine zAB ⟨by simp [heldOk, Nat.testBit, o37], ?_⟩
        refine dr_st (zAP (by exact e1) (by exact e1) (cs := [.int .i64 (zAH c.g y1).kind, .str (zAH c.g y1).name, av1, lv1, .bool (zAH c.g y1).isOpen]) rfl rfl (p7.wf G.wf) o37 (by simp) z1 ?_)
        rintro v8 h8 p8 o8
        simp only [List.take_zero, List.nil_append, List.length_cons, List.length_nil, List.drop_succ_cons, List.drop_zero, List.append_nil, Nat.zero_add, Nat.reduceAdd, List.drop_nil, List.cons_append] at o8
        have o28 := p8.keep b2 (by omega) _ o7
        refine zAB ⟨by simp [heldOk, Nat.testBit], ?_⟩
        have G8 := p8.grow h hw (p7.grow h hw G (by omega)) (by omega)
        clear o2 o3 p7 p8 o37 o7
        repeat' with_reducible first | refine zAA ?_ | refine zAG ?_ | refine dr_nil ?_ | (apply dr_q; exact q1) | (apply zAE; exact n1; exact r1)
        exact ⟨⟨zAH c.g y0, zAH c.g y1, av0, lv0, av1, lv1, by rw [hbe.out]; simp only [bothObj, d1, d2, d3, Bool.not_false, Bool.and_self, nodeV, d2]; rfl, hia0.mono G8, hil0.mono G8, hia1.mono G8, hil1.mono G8, fun p hp => by
          rw [hbe.out] at hp
          split at hp
          · cases hp; exact ⟨rfl, rfl⟩
          · cases hp⟩, G8⟩
    · have hb : Hid (bodyF c = none) := ⟨by
        have hst : isStar (zAH c.g x) = false := by rw [notCon_star] at hna; simpa using hna
        rw [hbd.out]; unfold partF; rw [hst]; rfl⟩
      cases hk2 : (zAH c.g x).kind != 2
      · have hn2 : eqL (zAH c.g x).name [42] = false := by
          rw [notCon, hk2, Bool.false_or] at hna; simpa using hna
        clear hna
        repeat with_reducible first | refine zAA ?_ | refine zAB ?_ | refine zAC ?_ | refine cd_draw ?_ | (apply dr_ql; exact q1; exact og1) | (apply st_q; exact q1) | (apply st_qT; exact e1; exact q1) | (apply zAF; exact e1)
        refine dr_st (zAP (by exact e1) (by exact e1) (cs := [.int .i64 0, .str [], .slice none 0, .slice none 0, .bool false]) rfl rfl G.wf o2 (by simp) rfl ?_)
        rintro v7 h7 p7 o7
        simp only [List.take_zero, List.nil_append, List.length_cons, List.length_nil, List.drop_succ_cons, List.drop_zero, List.append_nil, Nat.zero_add, Nat.reduceAdd, List.drop_nil, List.cons_append] at o7
        have o37 := p7.keep b3 (by omega) _ o3
        refine zAB ⟨by simp [heldOk, Nat.testBit, o37], ?_⟩
        refine dr_st (zAP (by exact e1) (by exact e1) (cs := [.int .i64 0, .str [], .slice none 0, .slice none 0, .bool false]) rfl rfl (p7.wf G.wf) o37 (by simp) rfl ?_)
        rintro v8 h8 p8 o8
        simp only [List.take_zero, List.nil_append, List.length_cons, List.length_nil, List.drop_succ_cons, List.drop_zero, List.append_nil, Nat.zero_add, Nat.reduceAdd, List.drop_nil, List.cons_append] at o8
        have o28 := p8.keep b2 (by omega) _ o7
        refine zAB ⟨by simp [heldOk, Nat.testBit], ?_⟩
        have G8 := p8.grow h hw (p7.grow h hw G (by omega)) (by omega)
        clear o2 o3 p7 p8 o37 o7
        repeat' with_reducible first | refine zAA ?_ | refine zAN ?_ | refine zAG ?_ | refine dr_nil ?_ | (apply dr_q; exact q1) | (apply zAE; exact n1; exact r1)
        exact ⟨⟨zeroN, zeroN, _, _, _, _, by rw [hb.out]; rfl, ints_nil _, strs_nil _, ints_nil _, strs_nil _, fun p hp => by rw [hb.out] at hp; cases hp⟩, G8⟩
      · clear hna
        repeat with_reducible first | refine zAA ?_ | refine zAB ?_ | refine zAC ?_ | refine cd_draw ?_ | (apply dr_ql; exact q1; exact og1) | (apply st_q; exact q1) | (apply st_qF; exact e1) | (apply zAF; exact e1)
        refine dr_st (zAP (by exact e1) (by exact e1) (cs := [.int .i64 0, .str [], .slice none 0, .slice none 0, .bool false]) rfl rfl G.wf o2 (by simp) rfl ?_)
        rintro v7 h7 p7 o7
        simp only [List.take_zero, List.nil_append, List.length_cons, List.length_nil, List.drop_succ_cons, List.drop_zero, List.append_nil, Nat.zero_add, Nat.reduceAdd, List.drop_nil, List.cons_append] at o7
        have o37 := p7.keep b3 (by omega) _ o3
        refine zAB ⟨by simp [heldOk, Nat.testBit, o37], ?_⟩
        refine dr_st (zAP (by exact e1) (by exact e1) (cs := [.int .i64 0, .str [], .slice none 0, .slice none 0, .bool false]) rfl rfl (p7.wf G.wf) o37 (by simp) rfl ?_)
        rintro v8 h8 p8 o8
        simp only [List.take_zero, List.nil_append, List.length_cons, List.length_nil, List.drop_succ_cons, List.drop_zero, List.append_nil, Nat.zero_add, Nat.reduceAdd, List.drop_nil, List.cons_append] at o8
        have o28 := p8.keep b2 (by omega) _ o7
        refine zAB ⟨by simp [heldOk, Nat.testBit], ?_⟩
        have G8 := p8.grow h hw (p7.grow h hw G (by omega)) (by omega)
        clear o2 o3 p7 p8 o37 o7
        repeat' with_reducible first | refine zAA ?_ | refine zAN ?_ | refine zAG ?_ | refine dr_nil ?_ | (apply dr_q; exact q1) | (apply zAE; exact n1; exact r1)
        exact ⟨⟨zeroN, zeroN, _, _, _, _, by rw [hb.out]; rfl, ints_nil _, strs_nil _, ints_nil _, strs_nil _, fun p hp => by rw [hb.out] at hp; cases hp⟩, G8⟩
end
end Go.Ab.S
end
