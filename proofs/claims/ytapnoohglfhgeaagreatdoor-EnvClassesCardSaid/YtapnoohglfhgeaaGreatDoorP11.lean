import Derived.Test.YtapnoohglfhgeaaGreatDoorP10
/-
  Part 11 of the proof.
-/
set_option linter.all false
section
/-
  Names and texts.
-/
namespace Go.Ab.S
set_option maxHeartbeats 4000000
open Go.Ab
section
variable {fns : FuncId → Option AFunc} {summ : FuncId → List AVal → AHeap → Option (D (AVal × AHeap))}

def prefL : List Nat → List Nat → Bool
  | [], _ => true
  | _ :: _, [] => false
  | a :: x, b :: y => a == b && prefL x y
/-- Is t a part of s? -/
def inL : List Nat → List Nat → Bool
  | [], t => prefL t []
  | a :: s, t => prefL t (a :: s) || inL s t
/-- A number's digits, so many at the most. -/
def digF : Nat → Nat → List Nat
  | 0, n => [48 + n % 10]
  | f + 1, n => if n < 10 then [48 + n] else digF f (n / 10) ++ [48 + n % 10]
/-- A number's digits. -/
def digN (n : Nat) : List Nat := digF 19 n
def itoaN (n : Int) : List Nat := if n < 0 then 45 :: digN n.natAbs else digN n.toNat
/-- What is known of the functions, and what is taken of others at its word. -/
structure Has (fns : FuncId → Option AFunc) (summ : FuncId → List AVal → AHeap → Option (D (AVal × AHeap))) : Prop where
  contains : ∀ s t h, s.length ≤ 2000 → summ 82 [.str s, .str t] h = some (.ret (.bool (inL s t), h))
  itoa : ∀ n h, -9223372036854775808 ≤ n → n ≤ 9223372036854775807 → summ 119 [.int .i64 n] h = some (.ret (.str (itoaN n), h))
  checkNew : ∀ b ver s h, h.objs.get b = some (ver, .cells false 252 [.ptr none, s]) → one s = true → summ 176 [.ptr (some (b, 0))] h = some (.ret (.tuple [], putObjA h b (.cells false 252 [.ptr (some (b, 0)), s])))
  checkOld : ∀ b ver s h, h.objs.get b = some (ver, .cells false 252 [.ptr (some (b, 0)), s]) → summ 176 [.ptr (some (b, 0))] h = some (.ret (.tuple [], h))
  text : ∀ b ver p c ver' vs (l : List Nat) h, h.objs.get b = some (ver, .cells false 252 [p, .slice (some (c, 0)) l.length]) → h.objs.get c = some (ver', .cells false 5 vs) → vs.take l.length = l.map (fun x => AVal.int .u8 (x : Nat)) → l ≠ [] → (∀ x ∈ l, x < 256) → l.length ≤ 1000000 →
    summ 153 [.ptr (some (b, 0))] h = some (.ret (.str l, dropA h c))
  funs : ∀ f fn, tab f = some fn → fns f = some fn
  other : ∀ f fn, tab f = some fn → ∀ a h, summ f a h = none

variable (H : Has fns summ)
include H
theorem Has.go {f : FuncId} {fn : AFunc} (ht : tab f = some fn) (_ : True) (hr : fn.recovers = none) {args : List AVal} {h : AHeap} {K : AVal → AHeap → Prop} {t : T AVal} (hp : setParams .leaf (List.range args.length) args = some t)
    (k : Cd fns summ none fn.body { tmps := t, defers := [] } h (fin fns summ fn.results K)) : Cl fns summ f args h K := cl_enter (H.other f fn ht _ _) (H.funs f fn ht) hr hp k
omit H

def goesF (c : Nat) (b : Bool) : Bool := (((48 ≤ c && c ≤ 57) || (65 ≤ c && c ≤ 90)) && !b) || (97 ≤ c && c ≤ 122) || c == 95
include H
theorem goes_ok (c : Nat) (b : Bool) (h : AHeap) : Cl fns summ 81 [.int .u8 c, .bool b] h fun v h' => v = .bool (goesF c b) ∧ h' = h := by
  refine H.go (fn := F_goes) rfl (by decide) rfl rfl ?_
  unfold F_goes
  dsimp only [qQ, qE, qN, gQ, gE, vi]
  repeat' with_reducible first | refine zAA ?_ | refine zAN ?_ | refine nxt_exit ?_ | refine zAJ ?_ | refine blk_ret ?_ | refine blk_same ?_ | refine blk_other ?_ rfl | refine zAB ?_ | refine zAC ?_ | refine zAD ?_ | refine zAK ?_ | refine zAL ?_ | refine cd_exit ?_ | refine zAG ?_ | (apply st_q; exact q1) | (apply st_pA; exact e1; exact e2) | (apply st_qS; exact e1; exact g1; exact q2) | (apply zAF; exact e1) | (apply zAE; exact n1; exact r1) | (apply cd_cond; exact e1; all_goals intro _)
  all_goals (refine ⟨congrArg AVal.bool ?_, rfl⟩)
  all_goals (subst_vars; simp_all [goesF] <;> omega)
omit H

/-- How many letters of a word a text begins with, behind i. -/
def wordG : Nat → List Nat → Nat
  | i, [] => i
  | i, c :: r => if goesF c (i == 0) then wordG (i + 1) r else i
theorem wordG_drop {s : List Nat} {i : Nat} {c : Nat} (h : s[i]? = some c) : wordG i (s.drop i) = if goesF c (i == 0) then wordG (i + 1) (s.drop (i + 1)) else i := by
  obtain ⟨hi, rfl⟩ := List.getElem?_eq_some_iff.1 h
  rw [List.drop_eq_getElem_cons hi, wordG]
theorem wordG_le : ∀ (s : List Nat) (i : Nat), wordG i s ≤ i + s.length
  | [], i => Nat.le_refl _
  | c :: r, i => by
    rw [wordG]; split
    · have := wordG_le r (i + 1); simp only [List.length_cons]; omega
    · simp only [List.length_cons]; omega
include H
theorem word_ok (s : List Nat) (hs : s.length < 2 ^ 60) (h : AHeap) : Cl fns summ 55 [.str s] h fun v h' => v = .int .i64 (wordG 0 s) ∧ h' = h := by
  refine H.go (fn := F_word) rfl (by decide) rfl rfl ?_
  unfold F_word
  dsimp only [qQ, qE, qN, gQ, gE, vi]
  repeat with_reducible first | refine zAA ?_ | refine zAB ?_ | refine zAC ?_ | refine zAD ?_ | (apply st_q; exact q1)
  refine cd_block ?_
  refine cd_loop (fun k a hp => hp = h ∧ a.defers = [] ∧ ev a (.tmp 0) = some (.str s) ∧ ∃ i : Nat, k + i = s.length ∧ ev a (.tmp 3) = some (.int .i64 i) ∧ wordG i (s.drop i) = wordG 0 s) ?_ (n := s.length) ⟨rfl, rfl, by exact e1, 0, by simp, by exact e1, by simp⟩
  rintro k a hp ⟨rfl, hd, h0, i, hi, h3, hw⟩
  by_cases hlt : i < s.length
  · have hlt' : decide ((i : Int) < Int.ofNat s.length) = true := by simpa using hlt
    have hc : s[i]? = some s[i] := List.getElem?_eq_getElem hlt
    have hz : ((i : Int) == 0) = (i == 0) := by cases i <;> rfl
    have hi0 : (0 : Int) ≤ (i : Int) := by omega
    have hin : ((i : Int)).toNat = i := by omega
    repeat with_reducible first | refine zAC ?_ | refine zAD ?_ | (apply st_q; exact q1) | (apply st_qT; exact e1; exact q1)
    refine st_callT (by exact e1) (by exact s1) ((goes_ok H s[i] (i == 0) _).mono ?_)
    rintro _ _ ⟨rfl, rfl⟩
    rw [wordG_drop hc] at hw
    by_cases hg : goesF s[i] (i == 0) = true
    · rw [if_pos hg] at hw
      have hwr : IntKind.i64.wrap ((i : Int) + 1) = ((i + 1 : Nat) : Int) := by rw [wrap_small (by omega) (by omega)]; omega
      repeat with_reducible first | refine zAA ?_ | refine zAJ ?_ | refine zAB ?_ | refine cd_blockO ?_ | refine zAL ?_ | (apply st_q; exact q1) | (apply zAF; exact e1)
      exact ⟨k - 1, by omega, rfl, hd, by exact e1, i + 1, by omega, by exact e1, hw⟩
    · rw [if_neg hg] at hw
      replace hw := hw.symm
      have hg' : goesF s[i] (i == 0) = false := by simpa using hg
      repeat' with_reducible first | refine zAA ?_ | refine nxt_exit ?_ | refine blk_same ?_ | refine zAB ?_ | refine zAC ?_ | refine zAD ?_ | refine cd_exit ?_ | refine zAG ?_ | (apply st_q; exact q1) | (apply zAI; exact e1) | (apply zAE; exact n1; exact r1)
      exact ⟨by rw [hw], rfl⟩
  · have hlt' : decide ((i : Int) < Int.ofNat s.length) = false := by simpa using hlt
    have : s.drop i = [] := List.drop_eq_nil_of_le (by omega)
    rw [this, wordG] at hw
    replace hw := hw.symm
    repeat' with_reducible first | refine zAA ?_ | refine nxt_exit ?_ | refine blk_same ?_ | refine zAB ?_ | refine zAC ?_ | refine zAD ?_ | refine cd_exit ?_ | refine zAG ?_ | (apply st_q; exact q1) | (apply st_qF; exact e1) | (apply st_eF; exact e1) | (apply zAI; exact e1) | (apply zAE; exact n1; exact r1)
    exact ⟨by rw [hw], rfl⟩

omit H
def keysS : List Nat := [32, 97, 110, 100, 32, 97, 115, 32, 99, 108, 97, 115, 115, 32, 101, 108, 115, 101, 32, 101, 110, 100, 32, 102, 97, 108, 115, 101, 32, 102, 117, 110, 32, 105, 102, 32, 105, 110, 32, 105, 110, 104, 101, 114, 105, 116, 32, 108, 101, 116, 32, 109, 101, 116, 104, 111, 100, 32, 110, 101, 119, 32, 111, 98, 106, 101, 99, 116, 32, 114, 101, 99, 32, 116, 104, 101, 110, 32, 116, 114, 117, 101, 32, 118, 97, 108, 32, 118, 105, 114, 116, 117, 97, 108, 32]
def isKeyF (s : List Nat) : Bool := !eqL s [] && !inL s [32] && inL keysS ([32] ++ s ++ [32])
include H
theorem IsKey_ok (s : List Nat) (hs : s.length ≤ 100) (h : AHeap) : Cl fns summ 56 [.str s] h fun v h' => v = .bool (isKeyF s) ∧ h' = h := by
  have hk : keysS.length ≤ 2000 := by decide
  have hadd : ([32] : List Nat).length + s.length < 1000000000000 := by simp; omega
  have hadd2 : (([32] : List Nat) ++ s).length + ([32] : List Nat).length < 1000000000000 := by simp; omega
  have c1 := H.contains s [32] h (by omega)
  have c2 := H.contains keysS ([32] ++ s ++ [32]) h hk
  refine H.go (fn := F_IsKey) rfl (by decide) rfl rfl ?_
  unfold F_IsKey
  dsimp only [qQ, qE, qN, gQ, gE, vi]
  cases he : eqL s []
  · repeat with_reducible first | refine zAA ?_ | refine zAB ?_ | refine zAC ?_ | refine zAD ?_ | (apply st_q; exact q1) | (apply st_qT; exact e1; exact q1)
    refine st_callT (by exact e1) (by exact s1) (cl_summ c1 ?_)
    simp only [D.sat_ret]
    cases hp : inL s [32]
    · repeat with_reducible first | (apply st_q; exact q1) | (apply st_qT; exact e1; exact q1)
      refine st_callT (by exact e1) (by exact s1) (cl_summ c2 ?_)
      simp only [D.sat_ret]
      repeat' with_reducible first | refine zAA ?_ | refine zAB ?_ | refine zAG ?_ | (apply st_q; exact q1) | (apply zAE; exact n1; exact r1)
      exact ⟨by simp only [isKeyF, he, hp]; rfl, rfl⟩
    · repeat' with_reducible first | refine zAA ?_ | refine zAB ?_ | refine zAG ?_ | (apply st_q; exact q1) | (apply st_qT; exact e1; exact q1) | (apply st_qF; exact e1) | (apply st_eF; exact e1) | (apply zAE; exact n1; exact r1)
      exact ⟨by simp only [isKeyF, he, hp]; rfl, rfl⟩
  · repeat' with_reducible first | refine zAA ?_ | refine zAB ?_ | refine zAC ?_ | refine zAD ?_ | refine zAG ?_ | (apply st_q; exact q1) | (apply st_qF; exact e1) | (apply st_eF; exact e1) | (apply zAE; exact n1; exact r1)
    exact ⟨by simp only [isKeyF, he]; rfl, rfl⟩
omit H
def isNameF (s : List Nat) : Bool := !eqL s [] && s.length ≤ 100 && wordG 0 s == s.length && !isKeyF s
include H
theorem IsName_ok (s : List Nat) (hs : s.length < 2 ^ 60) (h : AHeap) : Cl fns summ 28 [.str s] h fun v h' => v = .bool (isNameF s) ∧ h' = h := by
  refine H.go (fn := F_IsName) rfl (by decide) rfl rfl ?_
  unfold F_IsName
  dsimp only [qQ, qE, qN, gQ, gE, vi]
  cases he : eqL s []
  · by_cases hl : s.length ≤ 100
    · have hl' : decide (Int.ofNat s.length ≤ 100) = true := by simp; omega
      repeat with_reducible first | refine zAA ?_ | refine zAB ?_ | refine zAC ?_ | refine zAD ?_ | (apply st_q; exact q1) | (apply st_qT; exact e1; exact q1)
      refine st_callT (by exact e1) (by exact s1) ((word_ok H s hs _).mono ?_)
      rintro _ _ ⟨rfl, rfl⟩
      have hz : (((wordG 0 s : Nat) : Int) == Int.ofNat s.length) = (wordG 0 s == s.length) := by
        rw [Bool.eq_iff_iff]; simp; omega
      cases hw : wordG 0 s == s.length
      · rw [hw] at hz
        repeat' with_reducible first | refine zAA ?_ | refine zAB ?_ | refine zAG ?_ | (apply st_q; exact q1) | (apply st_qT; exact e1; exact q1) | (apply st_qF; exact e1) | (apply st_eF; exact e1) | (apply zAE; exact n1; exact r1)
        exact ⟨by simp only [isNameF, he, hw]; simp, rfl⟩
      · rw [hw] at hz
        repeat with_reducible first | (apply st_q; exact q1) | (apply st_qT; exact e1; exact q1)
        refine st_callT (by exact e1) (by exact s1) ((IsKey_ok H s hl _).mono ?_)
        rintro _ _ ⟨rfl, rfl⟩
        repeat' with_reducible first | refine zAA ?_ | refine zAB ?_ | refine zAG ?_ | (apply st_q; exact q1) | (apply st_qT; exact e1; exact q1) | (apply zAE; exact n1; exact r1)
        exact ⟨by simp only [isNameF, he, hw]; simp [hl], rfl⟩
    · have hl' : decide (Int.ofNat s.length ≤ 100) = false := by simp; omega
      repeat' with_reducible first | refine zAA ?_ | refine zAB ?_ | refine zAC ?_ | refine zAD ?_ | refine zAG ?_ | (apply st_q; exact q1) | (apply st_qT; exact e1; exact q1) | (apply st_qF; exact e1) | (apply st_eF; exact e1) | (apply zAE; exact n1; exact r1)
      exact ⟨by simp only [isNameF, he]; simp [hl], rfl⟩
  · repeat' with_reducible first | refine zAA ?_ | refine zAB ?_ | refine zAC ?_ | refine zAD ?_ | refine zAG ?_ | (apply st_q; exact q1) | (apply st_qF; exact e1) | (apply st_eF; exact e1) | (apply zAE; exact n1; exact r1)
    exact ⟨by simp only [isNameF, he]; rfl, rfl⟩
end
end Go.Ab.S
end
section
/-
  Rising names; what a node may be.
-/
namespace Go.Ab.S
open Go.Ab
set_option maxHeartbeats 4000000
/-- Names that rise, behind one. -/
def risG : Option (List Nat) → List (List Nat) → Bool
  | _, [] => true
  | p, s :: r => isNameF s && (match p with | none => true | some q => lessL q s) && risG (some s) r
def risingF (l : List (List Nat)) : Bool := risG none l
theorem risG_drop {l : List (List Nat)} {i : Nat} {c : List Nat} {p : Option (List Nat)} (h : l[i]? = some c) : risG p (l.drop i) = (isNameF c && (match p with | none => true | some q => lessL q c) && risG (some c) (l.drop (i + 1))) := by
  obtain ⟨hi, rfl⟩ := List.getElem?_eq_some_iff.1 h
  rw [List.drop_eq_getElem_cons hi]; cases p <;> rfl
def prevL (l : List (List Nat)) : Nat → Option (List Nat)
  | 0 => none
  | i + 1 => l[i]?
section
variable {fns : FuncId → Option AFunc} {summ : FuncId → List AVal → AHeap → Option (D (AVal × AHeap))}
variable (H : Has fns summ)
include H
theorem grising_ok (l : List (List Nat)) (hs : ∀ s ∈ l, s.length < 2 ^ 60) (hn : l.length < 2 ^ 60) (v : AVal) (h : AHeap) (hv : StrsAt h v l) : Cl fns summ 85 [v] h fun r h' => r = .bool (risingF l) ∧ h' = h := by
  refine H.go (fn := F_grising) rfl (by decide) rfl rfl ?_
  unfold F_grising
  dsimp only [qQ, qE, qN, gQ, gE, vi]
  have hlen := hv.len
  repeat with_reducible first | refine zAA ?_ | refine zAB ?_ | refine zAC ?_ | refine zAD ?_ | (apply st_q; exact q1)
  refine cd_count (N := l.length) (by omega) (fun j a hp => hp = h ∧ a.defers = [] ∧ ev a (.tmp 0) = some v ∧ ev a (.tmp 5) = some v ∧ risingF l = risG (prevL l j) (l.drop j))
    (by rintro j a hp t w (rfl | rfl | rfl) ⟨h1, h2, h3, h4, h5⟩ <;> exact ⟨h1, by rw [zAV]; exact h2, by exact e1, by exact e1, h5⟩) (by decide) ?_ ?_ ⟨rfl, by exact n1, by exact e1, by exact e1, rfl⟩ (by exact e1) (by exact e1)
  · rintro j a hp hj ⟨rfl, hd, h0, h5, hr⟩ hi hN
    have hc : l[j]? = some l[j] := List.getElem?_eq_getElem hj
    obtain ⟨b, o, ver, ro, e, vs, hix, hget, hvo⟩ := hv.at hc
    repeat with_reducible first | refine zAA ?_ | refine zAB ?_ | refine zAC ?_ | refine zAD ?_ | refine zAK ?_ | (apply st_q; exact q1)
    refine zAS (by exact s1) ((IsName_ok H _ (hs _ (List.getElem_mem hj)) _).mono ?_)
    rintro _ _ ⟨rfl, rfl⟩
    rw [risG_drop hc] at hr
    cases hg : isNameF l[j]
    · rw [hg] at hr
      repeat' with_reducible first | refine zAA ?_ | refine zAN ?_ | refine blk_ret ?_ | refine zAB ?_ | refine zAC ?_ | refine zAD ?_ | refine zAG ?_ | (apply st_q; exact q1) | (apply st_qF; exact e1) | (apply st_qU; exact e1) | (apply zAF; exact e1) | (apply zAE; exact n1; exact r1)
      exact ⟨by rw [hr]; rfl, rfl⟩
    · rw [hg] at hr
      cases j with
      | zero =>
        have hz : decide (((0 : Nat) : Int) > 0) = false := rfl
        repeat with_reducible first | refine zAA ?_ | refine zAJ ?_ | refine zAB ?_ | refine zAL ?_ | (apply st_q; exact q1) | (apply st_qT; exact e1; exact q1) | (apply st_qF; exact e1) | (apply zAI; exact e1)
        exact ⟨⟨rfl, by exact n1, by exact e1, by exact e1, by rw [hr]; show _ = risG (l[0]?) _; rw [hc]; rfl⟩, by exact e1, by exact e1⟩
      | succ j =>
        have hz : decide (((j + 1 : Nat) : Int) > 0) = true := by simp
        have hc' : l[j]? = some l[j] := List.getElem?_eq_getElem (by omega)
        obtain ⟨b', o', ver', ro', e', vs', hix', hget', hvo'⟩ := hv.at hc'
        have hw : IntKind.i64.wrap (((j + 1 : Nat) : Int) - 1) = (j : Nat) := by rw [wrap_small (by omega) (by omega)]; omega
        rw [prevL, hc'] at hr
        cases hlt : lessL l[j] l[j + 1]
        · simp only [hlt, Bool.and_false, Bool.false_and] at hr
          repeat' with_reducible first | refine zAA ?_ | refine zAN ?_ | refine blk_ret ?_ | refine zAB ?_ | refine zAC ?_ | refine zAD ?_ | refine zAG ?_ | (apply st_q; exact q1) | (apply st_qT; exact e1; exact q1) | (apply zAF; exact e1) | (apply zAE; exact n1; exact r1)
          exact ⟨by rw [hr], rfl⟩
        · simp only [hlt, Bool.and_true, Bool.true_and] at hr
          repeat with_reducible first | refine zAA ?_ | refine zAJ ?_ | refine zAB ?_ | refine zAL ?_ | (apply st_q; exact q1) | (apply st_qT; exact e1; exact q1) | (apply zAI; exact e1)
          exact ⟨⟨rfl, by exact n1, by exact e1, by exact e1, by rw [hr]; show _ = risG (l[j + 1]?) _; rw [hc]⟩, by exact e1, by exact e1⟩
  · rintro a hp ⟨rfl, hd, h0, h5, hr⟩
    rw [List.drop_length] at hr
    repeat' with_reducible first | refine zAA ?_ | refine zAB ?_ | refine zAC ?_ | refine zAD ?_ | refine zAG ?_ | (apply st_q; exact q1) | (apply zAE; exact n1; exact r1)
    exact ⟨by rw [hr]; rfl, rfl⟩
omit H
/-- The constructors, and how many parts each has. -/
def arEs : List (AVal × AVal × Nat) := [(.str [105, 110, 116], .int .i64 0, 0), (.str [98, 111, 111, 108], .int .i64 0, 1), (.str [115, 116, 114, 105, 110, 103], .int .i64 0, 2), (.str [117, 110, 105, 116], .int .i64 0, 3), (.str [45, 62], .int .i64 2, 4), (.str [42], .int .i64 2, 5)]
def arIs (s : List Nat) : Bool := eqL s [105, 110, 116] || eqL s [98, 111, 111, 108] || eqL s [115, 116, 114, 105, 110, 103] || eqL s [117, 110, 105, 116] || eqL s [45, 62] || eqL s [42]
def arK (s : List Nat) : Nat := if eqL s [105, 110, 116] || eqL s [98, 111, 111, 108] || eqL s [115, 116, 114, 105, 110, 103] || eqL s [117, 110, 105, 116] then 0 else if eqL s [45, 62] || eqL s [42] then 2 else 0
theorem findA_ar (s : List Nat) : ∃ i, findA .str (.str s) arEs 0 = some (if arIs s then some (i, .int .i64 (arK s : Nat)) else none) := by
  simp only [findA, arEs, keyA, arIs, arK]
  rcases Bool.eq_false_or_eq_true (eqL s [105, 110, 116]) with h1 | h1
  · exact ⟨0, by simp [h1]⟩
  rcases Bool.eq_false_or_eq_true (eqL s [98, 111, 111, 108]) with h2 | h2
  · exact ⟨1, by simp [h1, h2]⟩
  rcases Bool.eq_false_or_eq_true (eqL s [115, 116, 114, 105, 110, 103]) with h3 | h3
  · exact ⟨2, by simp [h1, h2, h3]⟩
  rcases Bool.eq_false_or_eq_true (eqL s [117, 110, 105, 116]) with h4 | h4
  · exact ⟨3, by simp [h1, h2, h3, h4]⟩
  rcases Bool.eq_false_or_eq_true (eqL s [45, 62]) with h5 | h5
  · exact ⟨4, by simp [h1, h2, h3, h4, h5]⟩
  rcases Bool.eq_false_or_eq_true (eqL s [42]) with h6 | h6
  · exact ⟨5, by simp [h1, h2, h3, h4, h5, h6]⟩
  · exact ⟨0, by simp [h1, h2, h3, h4, h5, h6]⟩
theorem look_ar {h : AHeap} {r ver c : Nat} (hg : h.objs.get r = some (ver, .map arEs c)) (s : List Nat) : lookA h .str (.int .i64 0) true (.map (some r)) (.str s) = some (.tuple [.int .i64 (arK s : Nat), .bool (arIs s)], some r) := by
  obtain ⟨i, hf⟩ := findA_ar s
  simp only [lookA, isKey, hg, hf]
  cases ha : arIs s
  · have : arK s = 0 := by
      simp only [arIs, Bool.or_eq_false_iff] at ha
      obtain ⟨⟨⟨⟨⟨h1, h2⟩, h3⟩, h4⟩, h5⟩, h6⟩ := ha
      simp [arK, h1, h2, h3, h4, h5, h6]
    simp [this]
  · simp
include H
theorem arity_ok (h : AHeap) (hw : WF h) : Cl fns summ 57 [] h fun v h' => ∃ r ver, v = .map (some r) ∧ h'.objs.get r = some (ver, .map arEs 6) ∧ Grow h h' := by
  refine H.go (fn := F_arity) rfl (by decide) rfl rfl ?_
  unfold F_arity
  dsimp only [qQ, qE, qN, gQ, gE, vi]
  repeat with_reducible first | refine zAA ?_ | refine zAB ?_ | refine zAC ?_ | refine zAD ?_ | (apply st_q; exact q1)
  refine st_T (by exact tE) (by exact t1) ?_
  iterate 6 refine st_upd_new (by exact e1) (by exact e1) (by exact e1) (by intro hh; cases hh) rfl (by simp only [zAQ, zAR]; rfl) rfl ?_
  repeat' with_reducible first | refine zAA ?_ | refine zAB ?_ | refine zAG ?_ | (apply st_q; exact q1) | (apply zAE; exact n1; exact r1)
  refine ⟨_, _, rfl, zAR _ _ _, ?_⟩
  have g := (Grow.refl hw).new (.map [] 0)
  have hp := fun (h1 : AHeap) (o : AObj) (gg : Grow h h1) (hl : h.next < h1.next) => gg.put hw (id := h.next) o (Nat.le_refl _) hl
  refine hp _ _ (hp _ _ (hp _ _ (hp _ _ (hp _ _ (hp _ _ g ?_) ?_) ?_) ?_) ?_) ?_ <;> simp only [new_next, put_next] <;> omega

theorem may1_ok (x : Int) (n : Int) (b ver : Nat) (ro : Bool) (e : TypeId) (h : AHeap) (hb : h.objs.get b = some (ver, .cells ro e [.int .i64 n])) : Cl fns summ 84 [.int .i64 x, .ptr (some (b, 0))] h fun v h' => v = .bool (decide (x < 0) || decide (x ≥ n)) ∧ h' = h := by
  refine H.go (fn := F_may1) rfl (by decide) rfl rfl ?_
  unfold F_may1
  dsimp only [qQ, qE, qN, gQ, gE, vi]
  have h0 : ([AVal.int .i64 n] : List AVal)[0]? = some (.int .i64 n) := rfl
  repeat' with_reducible first | refine zAA ?_ | refine zAB ?_ | refine zAC ?_ | refine zAD ?_ | refine zAG ?_ | (apply st_q; exact q1) | (apply st_pO; exact e1; exact e2) | (apply st_qS; exact e1; exact g1; exact q2) | (apply zAE; exact n1; exact r1)
  exact ⟨rfl, rfl⟩

/-- Whether one of a row's numbers is so. -/
theorem IFint_ok (l : List Int) (hn : l.length < 2 ^ 60) (p : Int → Bool) (v fv : AVal) (h : AHeap) (hw : WF h) (hv : IntsAt h v l) (hf : ∀ h', Grow h h' → ∀ x ∈ l, Cv fns summ fv [.int .i64 x] h' fun r h'' => r = .bool (p x) ∧ Grow h' h'') :
    Cl fns summ 125 [v, fv] h fun r h' => (∃ k : Int, r = .int .i64 k ∧ decide (k ≥ 0) = l.any p) ∧ Grow h h' := by
  refine H.go (fn := F_IFint) rfl (by decide) rfl rfl ?_
  unfold F_IFint
  dsimp only [qQ, qE, qN, gQ, gE, vi]
  have hlen := hv.len
  repeat with_reducible first | refine zAA ?_ | refine zAB ?_ | refine zAC ?_ | refine zAD ?_ | (apply st_q; exact q1)
  refine cd_count (N := l.length) (by omega) (fun j a hp => Grow h hp ∧ a.defers = [] ∧ ev a (.tmp 0) = some v ∧ ev a (.tmp 1) = some fv ∧ ((l.take j).any p = false))
    (by rintro j a hp t w (rfl | rfl | rfl) ⟨h1, h2, h3, h4, h5⟩ <;> exact ⟨h1, by rw [zAV]; exact h2, by exact e1, by exact e1, h5⟩) (by decide) ?_ ?_ ⟨Grow.refl hw, by exact n1, by exact e1, by exact e1, rfl⟩ (by exact e1) (by exact e1)
  · rintro j a hp hj ⟨hg, hd, h0, h5, hr⟩ hi hN
    have hc : l[j]? = some l[j] := List.getElem?_eq_getElem hj
    obtain ⟨b, o, ver, ro, e, vs, hix, hget', hvo⟩ := hv.at hc
    have hget := hg.keep _ _ hget'
    clear hget'
    repeat with_reducible first | refine zAA ?_ | refine zAB ?_ | refine zAC ?_ | refine zAD ?_ | refine zAK ?_ | (apply st_q; exact q1)
    refine st_e (ex_call (by exact e1) (by exact s1) ((hf _ hg _ (List.getElem_mem hj)).mono ?_))
    rintro _ hp' ⟨rfl, hg'⟩
    have ht : (l.take (j + 1)).any p = (p l[j]) := by
      rw [List.take_succ_eq_append_getElem hj, List.any_append, hr]; simp
    cases hpj : p l[j]
    · rw [hpj] at ht
      repeat with_reducible first | refine zAA ?_ | refine zAJ ?_ | refine zAB ?_ | refine zAL ?_ | (apply zAI; exact e1)
      exact ⟨⟨hg.trans hg', by exact n1, by exact e1, by exact e1, ht⟩, by exact e1, by exact e1⟩
    · clear ht
      repeat' with_reducible first | refine zAA ?_ | refine zAN ?_ | refine blk_ret ?_ | refine zAB ?_ | refine zAC ?_ | refine zAD ?_ | refine zAG ?_ | (apply st_q; exact q1) | (apply zAF; exact e1) | (apply zAE; exact n1; exact r1)
      refine ⟨⟨_, rfl, ?_⟩, hg.trans hg'⟩
      rw [show l.any p = true from List.any_eq_true.2 ⟨_, List.getElem_mem hj, hpj⟩]
      simp
  · rintro a hp ⟨hg, hd, h0, h5, hr⟩
    rw [List.take_length] at hr
    repeat' with_reducible first | refine zAA ?_ | refine zAB ?_ | refine zAC ?_ | refine zAD ?_ | refine zAG ?_ | (apply st_q; exact q1) | (apply zAE; exact n1; exact r1)
    exact ⟨⟨_, rfl, by rw [hr]; rfl⟩, hg⟩

theorem CFint_ok (l : List Int) (hn : l.length < 2 ^ 60) (p : Int → Bool) (v fv : AVal) (h : AHeap) (hw : WF h) (hv : IntsAt h v l) (hf : ∀ h', Grow h h' → ∀ x ∈ l, Cv fns summ fv [.int .i64 x] h' fun r h'' => r = .bool (p x) ∧ Grow h' h'') :
    Cl fns summ 83 [v, fv] h fun r h' => r = .bool (l.any p) ∧ Grow h h' := by
  refine H.go (fn := F_CFint) rfl (by decide) rfl rfl ?_
  unfold F_CFint
  dsimp only [qQ, qE, qN, gQ, gE, vi]
  repeat with_reducible first | refine zAA ?_ | refine zAB ?_ | refine zAC ?_ | refine zAD ?_ | (apply st_q; exact q1)
  refine zAS (by exact s1) ((IFint_ok H l hn p v fv h hw hv hf).mono ?_)
  rintro _ _ ⟨⟨k, rfl, hk⟩, hg⟩
  repeat' with_reducible first | refine zAA ?_ | refine zAB ?_ | refine zAG ?_ | (apply st_q; exact q1) | (apply zAE; exact n1; exact r1)
  exact ⟨rfl, hg⟩
end
end Go.Ab.S
end
section
/-
  Graphs that may be.
-/
namespace Go.Ab.S
open Go.Ab
set_option maxHeartbeats 4000000
/-- So small that no count goes round. -/
structure NodeSm (n : Node) : Prop where
  args : n.args.length < 2 ^ 60
  labels : n.labels.length < 2 ^ 60
  texts : ∀ s ∈ n.labels, s.length < 2 ^ 60
structure GraphSm (g : Graph) : Prop where
  nodes : g.nodes.length < 2 ^ 60
  all : ∀ n ∈ g.nodes, NodeSm n
def mayF (n : Node) (size : Int) : Bool :=
  if n.args.any (fun a => decide (a < 0) || decide (a ≥ size)) then false
  else if n.kind == 1 then ((n.labels.length == 0 && !n.isOpen) && eqL n.name []) && n.args.length == 0
  else if n.kind == 2 then ((n.labels.length == 0 && !n.isOpen) && arIs n.name) && n.args.length == arK n.name
  else if n.kind == 3 then (eqL n.name [] && n.labels.length == n.args.length) && risingF n.labels
  else false
/-- A node as a value. -/
def nodeV (n : Node) (av lv : AVal) : AVal := .agg [.int .i64 n.kind, .str n.name, av, lv, .bool n.isOpen]
section
variable {fns : FuncId → Option AFunc} {summ : FuncId → List AVal → AHeap → Option (D (AVal × AHeap))}
variable (H : Has fns summ)
include H
theorem may_ok (n : Node) (hn : NodeSm n) (size : Int) (r ver c : Nat) (av lv : AVal) (h : AHeap) (hw : WF h) (ha : IntsAt h av n.args) (hl : StrsAt h lv n.labels) (hr : h.objs.get r = some (ver, .map arEs c)) :
    Cl fns summ 59 [nodeV n av lv, .int .i64 size, .map (some r)] h fun v h' => v = .bool (mayF n size) ∧ Grow h h' := by
  unfold nodeV
  refine H.go (fn := F_may) rfl (by decide) rfl rfl ?_
  unfold F_may
  dsimp only [qQ, qE, qN, gQ, gE, vi]
  repeat with_reducible first | refine zAC ?_ | refine zAD ?_
  refine st_box (by exact e1) (by exact cc) hw ?_
  rintro b3 h1 hb3 g1 o3
  refine st_box (by exact e1) (by exact cc) g1.wf ?_
  rintro b4 h2 hb4 g2 o4
  replace o3 := g2.keep _ _ o3
  repeat with_reducible first | refine zAA ?_ | refine zAB ?_ | refine zAC ?_ | refine zAD ?_ | (apply st_q; exact q1)
  have g02 := g1.trans g2
  refine zAS (by exact s1) ((CFint_ok H n.args hn.args (fun a => decide (a < 0) || decide (a ≥ size)) av _ h2 g2.wf (ha.mono g02) ?_).mono ?_)
  · intro h' g' x _
    refine cv_func ((may1_ok H x size b4 b4 false _ h' (g'.keep _ _ o4)).mono ?_)
    rintro _ _ ⟨rfl, rfl⟩
    exact ⟨rfl, Grow.refl g'.wf⟩
  rintro _ h3 ⟨rfl, g3⟩
  replace o3 := g3.keep _ _ o3
  have g03 := g02.trans g3
  have hr3 := look_ar (g03.keep _ _ hr)
  have hlen1 := ha.len
  have hlen2 := hl.len
  clear o4 g1 g2 g3 g02 ha hr hb3 hb4
  cases hany : n.args.any fun a => decide (a < 0) || decide (a ≥ size)
  · have hz1 : ((Int.ofNat n.labels.length : Int) == 0) = (n.labels.length == 0) := by cases n.labels.length <;> rfl
    have hz2 : ((Int.ofNat n.args.length : Int) == 0) = (n.args.length == 0) := by cases n.args.length <;> rfl
    have hz3 : ((Int.ofNat n.args.length : Int) == ((arK n.name : Nat) : Int)) = (n.args.length == arK n.name) := by rw [Bool.eq_iff_iff]; simp; omega
    have hz4 : ((Int.ofNat n.labels.length : Int) == Int.ofNat n.args.length) = (n.labels.length == n.args.length) := by rw [Bool.eq_iff_iff]; simp; omega
    have hm : mayF n size = if n.kind == 1 then ((n.labels.length == 0 && !n.isOpen) && eqL n.name []) && n.args.length == 0
      else if n.kind == 2 then ((n.labels.length == 0 && !n.isOpen) && arIs n.name) && n.args.length == arK n.name
      else if n.kind == 3 then (eqL n.name [] && n.labels.length == n.args.length) && risingF n.labels
      else false := by simp only [mayF, hany]; rfl
    cases k1 : n.kind == 1
    · cases k2 : n.kind == 2
      · cases k3 : n.kind == 3
        · have hm' : mayF n size = false := by rw [hm, k1, k2, k3]; rfl
          clear hm
          repeat' with_reducible first | refine zAA ?_ | refine zAJ ?_ | refine zAB ?_ | refine zAC ?_ | refine zAD ?_ | refine zAK ?_ | refine zAL ?_ | refine zAG ?_ | (apply st_q; exact q1) | (apply st_pA; exact e1; exact e2) | (apply st_qS; exact e1; exact g1; exact q2) | (apply zAI; exact e1) | (apply zAE; exact n1; exact r1)
          exact ⟨by rw [hm'], g03⟩
        · have hm' : mayF n size = ((eqL n.name [] && n.labels.length == n.args.length) && risingF n.labels) := by rw [hm, k1, k2, k3]; rfl
          clear hm
          cases hc : (eqL n.name [] && n.labels.length == n.args.length)
          · rw [hc, Bool.false_and] at hm'
            repeat' with_reducible first | refine zAA ?_ | refine zAN ?_ | refine blk_ret ?_ | refine zAB ?_ | refine zAC ?_ | refine zAD ?_ | refine zAK ?_ | refine zAL ?_ | refine zAG ?_ | (apply st_q; exact q1) | (apply st_pA; exact e1; exact e2) | (apply st_qF; exact e1) | (apply st_eF; exact e1) | (apply st_qS; exact e1; exact g1; exact q2) | (apply zAF; exact e1) | (apply zAI; exact e1) | (apply zAE; exact n1; exact r1)
            exact ⟨by rw [hm'], g03⟩
          · rw [hc, Bool.true_and] at hm'
            repeat with_reducible first | refine zAA ?_ | refine zAB ?_ | refine zAC ?_ | refine zAD ?_ | refine zAK ?_ | refine zAL ?_ | (apply st_q; exact q1) | (apply st_pA; exact e1; exact e2) | (apply st_qT; exact e1; exact q1) | (apply st_qS; exact e1; exact g1; exact q2) | (apply zAF; exact e1) | (apply zAI; exact e1)
            refine st_callT (by exact e1) (by exact s1) ((grising_ok H n.labels hn.texts hn.labels lv h3 (hl.mono g03)).mono ?_)
            rintro _ _ ⟨rfl, rfl⟩
            repeat' with_reducible first | refine zAA ?_ | refine zAN ?_ | refine blk_ret ?_ | refine zAB ?_ | refine zAG ?_ | (apply st_q; exact q1) | (apply zAE; exact n1; exact r1)
            exact ⟨by rw [hm'], g03⟩
      · have hm' : mayF n size = (((n.labels.length == 0 && !n.isOpen) && arIs n.name) && n.args.length == arK n.name) := by rw [hm, k1, k2]; rfl
        clear hm
        repeat' with_reducible first | refine zAA ?_ | refine zAN ?_ | refine blk_ret ?_ | refine zAB ?_ | refine zAC ?_ | refine zAD ?_ | refine zAK ?_ | refine zAL ?_ | refine zAG ?_ | (apply st_q; exact q1) | (apply st_pA; exact e1; exact e2) | (apply st_qS; exact e1; exact g1; exact q2) | (apply zAF; exact e1) | (apply zAI; exact e1) | (apply zAE; exact n1; exact r1)
        exact ⟨by rw [hm'], g03⟩
    · have hm' : mayF n size = (((n.labels.length == 0 && !n.isOpen) && eqL n.name []) && n.args.length == 0) := by rw [hm, k1]; rfl
      clear hm
      repeat' with_reducible first | refine zAA ?_ | refine zAN ?_ | refine blk_ret ?_ | refine zAB ?_ | refine zAC ?_ | refine zAD ?_ | refine zAK ?_ | refine zAL ?_ | refine zAG ?_ | (apply st_q; exact q1) | (apply st_pA; exact e1; exact e2) | (apply st_qS; exact e1; exact g1; exact q2) | (apply zAF; exact e1) | (apply zAI; exact e1) | (apply zAE; exact n1; exact r1)
      exact ⟨by rw [hm'], g03⟩
  · repeat' with_reducible first | refine zAA ?_ | refine zAN ?_ | refine zAB ?_ | refine zAC ?_ | refine zAD ?_ | refine zAG ?_ | (apply st_q; exact q1) | (apply zAF; exact e1) | (apply zAE; exact n1; exact r1)
    exact ⟨by simp only [mayF, hany]; rfl, g03⟩
end
end Go.Ab.S
end
section
/-
  Graphs that may be, altogether; how great a graph is.
-/
namespace Go.Ab.S
open Go.Ab
set_option maxHeartbeats 4000000
theorem one_of_len {v : AVal} {n : Nat} (h : lenO v = some n) : one v = true := by
  cases v <;> first | rfl | cases h
theorem ones_node {n : Node} {av lv : AVal} {i j : Nat} (ha : lenO av = some i) (hl : lenO lv = some j) : ([.int .i64 n.kind, .str n.name, av, lv, .bool n.isOpen] : List AVal).all one = true := by
  simp only [List.all_cons, List.all_nil, one_of_len ha, one_of_len hl]; rfl
def zAT (g : Graph) : Int :=
  if (Int.ofNat g.nodes.length : Int) > 1048576 then 3
  else if g.root < 0 then 2 else if g.root ≥ Int.ofNat g.nodes.length then 2
  else if g.nodes.any (fun n => !mayF n g.nodes.length) then 2 else 0
section
variable {fns : FuncId → Option AFunc} {summ : FuncId → List AVal → AHeap → Option (D (AVal × AHeap))}
variable (H : Has fns summ)
include H
theorem IFnode_ok (l : List Node) (hn : l.length < 2 ^ 60) (p : Node → Bool) (v fv : AVal) (h : AHeap) (hw : WF h) (hv : NodesAt h v l) (hf : ∀ h', Grow h h' → ∀ x ∈ l, ∀ av lv, IntsAt h av x.args → StrsAt h lv x.labels → Cv fns summ fv [nodeV x av lv] h' fun r h'' => r = .bool (p x) ∧ Grow h' h'') :
    Cl fns summ 86 [v, fv] h fun r h' => (∃ k : Int, r = .int .i64 k ∧ decide (k ≥ 0) = l.any p) ∧ Grow h h' := by
  refine H.go (fn := F_IFnode) rfl (by decide) rfl rfl ?_
  unfold F_IFnode
  dsimp only [qQ, qE, qN, gQ, gE, vi]
  have hlen := hv.len
  repeat with_reducible first | refine zAA ?_ | refine zAB ?_ | refine zAC ?_ | refine zAD ?_ | (apply st_q; exact q1)
  refine cd_count (N := l.length) (by omega) (fun j a hp => Grow h hp ∧ a.defers = [] ∧ ev a (.tmp 0) = some v ∧ ev a (.tmp 1) = some fv ∧ ((l.take j).any p = false))
    (by rintro j a hp t w (rfl | rfl | rfl) ⟨h1, h2, h3, h4, h5⟩ <;> exact ⟨h1, by rw [zAV]; exact h2, by exact e1, by exact e1, h5⟩) (by decide) ?_ ?_ ⟨Grow.refl hw, by exact n1, by exact e1, by exact e1, rfl⟩ (by exact e1) (by exact e1)
  · rintro j a hp hj ⟨hg, hd, h0, h5, hr⟩ hi hN
    have hc : l[j]? = some l[j] := List.getElem?_eq_getElem hj
    obtain ⟨b, o, ver, ro, e, vs, av, lv, hix, hget', hvl, hvo, _, _, _, _, _, ha, hl⟩ := hv.at hc
    have hget := hg.keep _ _ hget'
    have hpart : partA (some 5) vs o = some (nodeV l[j] av lv) := by rw [partA, if_pos hvl, hvo]; rfl
    clear hget'
    repeat with_reducible first | refine zAA ?_ | refine zAB ?_ | refine zAC ?_ | refine zAD ?_ | refine zAK ?_ | (apply st_q; exact q1)
    refine st_e (ex_call (by exact e1) (by exact s1) ((hf _ hg _ (List.getElem_mem hj) av lv ha hl).mono ?_))
    rintro _ hp' ⟨rfl, hg'⟩
    have ht : (l.take (j + 1)).any p = (p l[j]) := by
      rw [List.take_succ_eq_append_getElem hj, List.any_append, hr]; simp
    cases hpj : p l[j]
    · rw [hpj] at ht
      repeat with_reducible first | refine zAA ?_ | refine zAJ ?_ | refine zAB ?_ | refine zAL ?_ | (apply zAI; exact e1)
      exact ⟨⟨hg.trans hg', by exact n1, by exact e1, by exact e1, ht⟩, by exact e1, by exact e1⟩
    · clear ht
      repeat' with_reducible first | refine zAA ?_ | refine zAN ?_ | refine blk_ret ?_ | refine zAB ?_ | refine zAC ?_ | refine zAD ?_ | refine zAG ?_ | (apply st_q; exact q1) | (apply zAF; exact e1) | (apply zAE; exact n1; exact r1)
      refine ⟨⟨_, rfl, ?_⟩, hg.trans hg'⟩
      rw [show l.any p = true from List.any_eq_true.2 ⟨_, List.getElem_mem hj, hpj⟩]
      simp
  · rintro a hp ⟨hg, hd, h0, h5, hr⟩
    rw [List.take_length] at hr
    repeat' with_reducible first | refine zAA ?_ | refine zAB ?_ | refine zAC ?_ | refine zAD ?_ | refine zAG ?_ | (apply st_q; exact q1) | (apply zAE; exact n1; exact r1)
    exact ⟨⟨_, rfl, by rw [hr]; rfl⟩, hg⟩
theorem CFnode_ok (l : List Node) (hn : l.length < 2 ^ 60) (p : Node → Bool) (v fv : AVal) (h : AHeap) (hw : WF h) (hv : NodesAt h v l) (hf : ∀ h', Grow h h' → ∀ x ∈ l, ∀ av lv, IntsAt h av x.args → StrsAt h lv x.labels → Cv fns summ fv [nodeV x av lv] h' fun r h'' => r = .bool (p x) ∧ Grow h' h'') :
    Cl fns summ 60 [v, fv] h fun r h' => r = .bool (l.any p) ∧ Grow h h' := by
  refine H.go (fn := F_CFnode) rfl (by decide) rfl rfl ?_
  unfold F_CFnode
  dsimp only [qQ, qE, qN, gQ, gE, vi]
  repeat with_reducible first | refine zAA ?_ | refine zAB ?_ | refine zAC ?_ | refine zAD ?_ | (apply st_q; exact q1)
  refine zAS (by exact s1) ((IFnode_ok H l hn p v fv h hw hv hf).mono ?_)
  rintro _ _ ⟨⟨k, rfl, hk⟩, hg⟩
  repeat' with_reducible first | refine zAA ?_ | refine zAB ?_ | refine zAG ?_ | (apply st_q; exact q1) | (apply zAE; exact n1; exact r1)
  exact ⟨rfl, hg⟩

theorem Check1_ok (n : Node) (hn : NodeSm n) (nv : AVal) (root : Int) (N : Nat) (hN : lenO nv = some N) (b1 b3 r ver1 ver3 verr c : Nat) (ro1 ro3 : Bool) (e1' e3' : TypeId) (av lv : AVal) (h : AHeap) (hw : WF h) (ha : IntsAt h av n.args) (hl : StrsAt h lv n.labels)
    (hb1 : h.objs.get b1 = some (ver1, .cells ro1 e1' [nv, .int .i64 root])) (hb3 : h.objs.get b3 = some (ver3, .cells ro3 e3' [.map (some r)])) (hr : h.objs.get r = some (verr, .map arEs c)) :
    Cl fns summ 58 [nodeV n av lv, .ptr (some (b1, 0)), .ptr (some (b3, 0))] h fun v h' => v = .bool (!mayF n N) ∧ Grow h h' := by
  unfold nodeV
  refine H.go (fn := F_Check1) rfl (by decide) rfl rfl ?_
  unfold F_Check1
  dsimp only [qQ, qE, qN, gQ, gE, vi]
  refine zAC (zAD ?_)
  refine st_box (by exact e1) (by exact cc) hw ?_
  rintro b h1 hb g1 o1
  replace hb1 := g1.keep _ _ hb1
  replace hb3 := g1.keep _ _ hb3
  replace hr := g1.keep _ _ hr
  have hp5 : partA (some 5) (cellsA (.agg [.int .i64 n.kind, .str n.name, av, lv, .bool n.isOpen])) 0 = some (nodeV n av lv) := rfl
  repeat with_reducible first | refine zAA ?_ | refine zAB ?_ | refine zAC ?_ | refine zAD ?_ | (apply st_q; exact q1)
  refine zAS (by exact s1) ((may_ok H n hn N r verr c av lv h1 g1.wf (ha.mono g1) (hl.mono g1) hr).mono ?_)
  rintro _ h2 ⟨rfl, g2⟩
  repeat' with_reducible first | refine zAA ?_ | refine zAB ?_ | refine zAG ?_ | (apply st_q; exact q1) | (apply zAE; exact n1; exact r1)
  exact ⟨rfl, g1.trans g2⟩

theorem Check_ok (g : Graph) (hg : GraphSm g) (v : AVal) (h : AHeap) (hw : WF h) (hv : GraphAt h v g) : Cl fns summ 29 [v] h fun r h' => r = .int .i64 (zAT g) ∧ Grow h h' := by
  obtain ⟨nv, rfl, hN⟩ := hv
  have hlen := hN.len
  refine H.go (fn := F_Check) rfl (by decide) rfl rfl ?_
  unfold F_Check
  dsimp only [qQ, qE, qN, gQ, gE, vi]
  refine zAC (zAD ?_)
  refine st_box (by exact e1) (by exact cc) hw ?_
  rintro b1 h1 hb1 g1 o1
  cases c8 : decide ((Int.ofNat g.nodes.length : Int) > 1048576)
  · repeat with_reducible first | refine zAA ?_ | refine zAB ?_ | refine zAC ?_ | refine zAD ?_ | refine zAL ?_ | (apply st_q; exact q1) | (apply zAI; exact e1)
    refine zAS (by exact s1) ((arity_ok H h1 g1.wf).mono ?_)
    rintro _ h2 ⟨r, vr, rfl, or, g2⟩
    replace o1 := g2.keep _ _ o1
    have l1 := g2.wf.lt o1
    have lr := g2.wf.lt or
    refine st_alloc g2.wf ?_
    rintro b3 h3 hb3 g3 o3
    refine zAP (by exact e1) (by exact e1) (by exact cc) rfl g3.wf o3 (by simp) rfl ?_
    rintro v4 h4 p4 o4
    simp only [List.take_zero, List.nil_append, List.length_cons, List.length_nil, List.drop_succ_cons, List.drop_zero, List.append_nil, Nat.zero_add, Nat.reduceAdd, List.drop_nil, List.cons_append] at o4
    have gb : Grow h2 h4 := p4.grow h2 g2.wf g3 hb3
    replace o1 := gb.keep _ _ o1
    replace or := gb.keep _ _ or
    have g4 : Grow h h4 := (g1.trans g2).trans gb
    clear g1 g2 g3 gb p4 l1 lr hb3 hb1 o3
    repeat with_reducible first | refine zAA ?_ | refine zAB ?_ | refine zAC ?_ | refine zAD ?_ | (apply st_q; exact q1) | (apply st_pO; exact e1; exact e2) | (apply st_qS; exact e1; exact g1; exact q2)
    cases c1 : decide (g.root < 0)
    · cases c2 : decide (g.root ≥ Int.ofNat g.nodes.length)
      · skip
        refine st_callT (by exact e1) (by exact s1) ((CFnode_ok H g.nodes hg.nodes (fun n => !mayF n g.nodes.length) nv _ h4 g4.wf (hN.mono g4) ?_).mono ?_)
        · intro h' g' x hx av lv ha hl
          exact cv_func (Check1_ok H x (hg.all x hx) nv g.root g.nodes.length hlen b1 b3 r _ _ _ _ _ _ _ _ av lv h' g'.wf (ha.mono g') (hl.mono g') (g'.keep _ _ o1) (g'.keep _ _ o4) (g'.keep _ _ or))
        rintro _ h5 ⟨rfl, g5⟩
        cases c3 : g.nodes.any (fun n => !mayF n g.nodes.length)
        · repeat' with_reducible first | refine zAA ?_ | refine zAB ?_ | refine zAC ?_ | refine zAD ?_ | refine zAL ?_ | refine zAG ?_ | (apply st_q; exact q1) | (apply zAI; exact e1) | (apply zAE; exact n1; exact r1)
          refine ⟨?_, g4.trans g5⟩
          unfold zAT
          rw [if_neg (of_decide_eq_false c8), if_neg (of_decide_eq_false c1), if_neg (of_decide_eq_false c2), if_neg (by rw [c3]; simp)]
        · repeat' with_reducible first | refine zAA ?_ | refine zAN ?_ | refine zAB ?_ | refine zAC ?_ | refine zAD ?_ | refine zAG ?_ | (apply st_q; exact q1) | (apply zAF; exact e1) | (apply zAE; exact n1; exact r1)
          refine ⟨?_, g4.trans g5⟩
          unfold zAT
          rw [if_neg (of_decide_eq_false c8), if_neg (of_decide_eq_false c1), if_neg (of_decide_eq_false c2), if_pos c3]
      · repeat' with_reducible first | refine zAA ?_ | refine zAN ?_ | refine zAB ?_ | refine zAC ?_ | refine zAD ?_ | refine zAG ?_ | (apply st_q; exact q1) | (apply st_eF; exact e1) | (apply zAF; exact e1) | (apply zAE; exact n1; exact r1)
        refine ⟨?_, g4⟩
        unfold zAT
        rw [if_neg (of_decide_eq_false c8), if_neg (of_decide_eq_false c1), if_pos (of_decide_eq_true c2)]
    · repeat' with_reducible first | refine zAA ?_ | refine zAN ?_ | refine zAB ?_ | refine zAC ?_ | refine zAD ?_ | refine zAG ?_ | (apply st_q; exact q1) | (apply st_eF; exact e1) | (apply zAF; exact e1) | (apply zAE; exact n1; exact r1)
      refine ⟨?_, g4⟩
      unfold zAT
      rw [if_neg (of_decide_eq_false c8), if_pos (of_decide_eq_true c1)]
  · repeat' with_reducible first | refine zAA ?_ | refine zAN ?_ | refine zAB ?_ | refine zAC ?_ | refine zAD ?_ | refine zAG ?_ | (apply st_q; exact q1) | (apply zAF; exact e1) | (apply zAE; exact n1; exact r1)
    refine ⟨?_, g1⟩
    unfold zAT
    rw [if_pos (of_decide_eq_true c8)]
end
end Go.Ab.S
end
section
/-
  How great a graph is.
-/
namespace Go.Ab.S
open Go.Ab
set_option maxHeartbeats 4000000
def bigT (s : List Nat) : Nat := if s.length > 1000 then 1000 else 0
def sumL {α : Type} (f : α → Nat) : List α → Nat
  | [] => 0
  | x :: r => f x + sumL f r
/-- A fact that is not used as a rule. -/
structure Hid (p : Prop) : Prop where
  out : p
theorem wrap_if (x : Int) : IntKind.i64.wrap x = if x % 18446744073709551616 ≥ 9223372036854775808 then x % 18446744073709551616 - 18446744073709551616 else x % 18446744073709551616 := by
  have hs : IntKind.i64.signed = true := rfl
  have hb : IntKind.i64.bits = 64 := rfl
  unfold IntKind.wrap
  have e63 : (2 : Int) ^ (64 - 1) = 9223372036854775808 := by decide
  have e64 : (2 : Int) ^ 64 = 18446744073709551616 := by decide
  simp only [hs, hb, e63, e64, Bool.true_and, decide_eq_true_eq]
theorem wrap_more (a b : Int) : IntKind.i64.wrap (IntKind.i64.wrap a + b) = IntKind.i64.wrap (a + b) := by
  rw [wrap_if (IntKind.i64.wrap a + b), wrap_if (a + b), wrap_if a]
  split <;> split <;> split <;> omega
theorem sumL_take {α : Type} (f : α → Nat) : ∀ (l : List α) (j : Nat) (hj : j < l.length), sumL f (l.take (j + 1)) = sumL f (l.take j) + f l[j]
  | [], j, h => by simp at h
  | x :: r, 0, _ => by simp [sumL]
  | x :: r, j + 1, h => by
    simp only [List.take_succ_cons, sumL, List.getElem_cons_succ]
    rw [sumL_take f r j (by simpa using h)]; omega
theorem sumL_le {α : Type} (f : α → Nat) : ∀ (l : List α) (j : Nat), sumL f (l.take j) ≤ sumL f l
  | [], j => by simp
  | x :: r, 0 => by simp [sumL]
  | x :: r, j + 1 => by simp only [List.take_succ_cons, sumL]; have := sumL_le f r j; omega
def greatN (n : Node) : Nat := n.args.length + n.labels.length + bigT n.name + sumL bigT n.labels
def greatF (g : Graph) : Nat := g.nodes.length + sumL greatN g.nodes
section
variable {fns : FuncId → Option AFunc} {summ : FuncId → List AVal → AHeap → Option (D (AVal × AHeap))}
variable (H : Has fns summ)
include H
theorem Great_ok (g : Graph) (hg : GraphSm g) (v : AVal) (h : AHeap) (hw : WF h) (hv : GraphAt h v g) : Cl fns summ 8 [v] h fun r h' => r = .int .i64 (IntKind.i64.wrap ((greatF g : Nat) : Int)) ∧ Grow h h' := by
  obtain ⟨nv, rfl, hN⟩ := hv
  have hlen := hN.len
  have hgn := hg.nodes
  have hgs := Hid.mk hg.all
  have hs0 : IntKind.i64.wrap ((g.nodes.length + sumL greatN (g.nodes.take 0) : Nat) : Int) = Int.ofNat g.nodes.length := by
    rw [List.take_zero]; show IntKind.i64.wrap ((g.nodes.length + 0 : Nat) : Int) = _
    exact wrap_small (by omega) (by omega)
  clear hg
  replace hs0 := Hid.mk hs0
  refine H.go (fn := F_Great) rfl (by decide) rfl rfl ?_
  unfold F_Great
  dsimp only [qQ, qE, qN, gQ, gE, vi]
  refine zAC (zAD ?_)
  refine st_box (by exact e1) (by exact cc) hw ?_
  rintro b1 h1 hb1 g1 o1
  repeat with_reducible first | refine zAA ?_ | refine zAB ?_ | refine zAC ?_ | refine zAD ?_ | (apply st_q; exact q1)
  refine cd_count (N := g.nodes.length) (by omega) (fun j a hp => Grow h hp ∧ a.defers = [] ∧ ev a (.tmp 12) = some nv ∧ ev a (.tmp 3) = some (.int .i64 (IntKind.i64.wrap ((g.nodes.length + sumL greatN (g.nodes.take j) : Nat) : Int))))
    (by rintro j a hp t w (rfl | rfl | rfl) ⟨h1, h2, h3, h4⟩ <;> exact ⟨h1, by rw [zAV]; exact h2, by exact e1, by exact e1⟩) (by decide) ?_ ?_ ⟨g1, by exact n1, by exact e1, by rw [hs0.out]; exact e1⟩ (by exact e1) (by exact e1)
  · clear g1 o1 hb1
    rintro j a hp hj ⟨hgr, hd, h12, h3⟩ hi hn
    have hc : g.nodes[j]? = some g.nodes[j] := List.getElem?_eq_getElem hj
    obtain ⟨b, o, ver, ro, e, vs, av, lv, hix, hget', hvl, hvo, _, _, _, _, _, ha, hl⟩ := hN.at hc
    have hget := hgr.keep _ _ hget'
    have hpart : partA (some 5) vs o = some (nodeV g.nodes[j] av lv) := by rw [partA, if_pos hvl, hvo]; rfl
    obtain ⟨na60, nl60, _⟩ := hgs.out _ (List.getElem_mem hj)
    clear hget'
    refine zAK (zAC (zAD ?_))
    repeat with_reducible (apply st_q; exact q1)
    refine st_alloc hgr.wf ?_
    rintro b5 h5 hb5 g5 o5
    refine zAP (by exact e1) (by exact e1) (cs := [.int .i64 g.nodes[j].kind, .str g.nodes[j].name, av, lv, .bool g.nodes[j].isOpen]) rfl rfl g5.wf o5 (by simp) (ones_node ha.len hl.len) ?_
    rintro v6 h6 p6 o6
    simp only [List.take_zero, List.nil_append, List.length_cons, List.length_nil, List.drop_succ_cons, List.drop_zero, List.append_nil, Nat.zero_add, Nat.reduceAdd, List.drop_nil, List.cons_append] at o6
    have g6 : Grow hp h6 := p6.grow hp hgr.wf g5 hb5
    replace hgr := hgr.trans g6
    have hla := ha.len
    have hll := hl.len
    clear o5 g5 p6 hb5
    have hw1 : IntKind.i64.wrap (Int.ofNat g.nodes[j].args.length + Int.ofNat g.nodes[j].labels.length) = ((g.nodes[j].args.length + g.nodes[j].labels.length : Nat) : Int) := by
      rw [wrap_small (by simp; omega) (by simp; omega)]; simp
    obtain ⟨s0, k0⟩ : ∃ s0 : Int, s0 = IntKind.i64.wrap ((g.nodes.length + sumL greatN (g.nodes.take j) : Nat) : Int) := ⟨_, rfl⟩
    rw [← k0] at h3
    obtain ⟨X, kX⟩ : ∃ X : Nat, X = g.nodes.length + sumL greatN (g.nodes.take j) + (g.nodes[j].args.length + g.nodes[j].labels.length) := ⟨_, rfl⟩
    obtain ⟨s1, k1⟩ : ∃ s1 : Int, s1 = IntKind.i64.wrap (X : Int) := ⟨_, rfl⟩
    have hw2 : IntKind.i64.wrap (s0 + ((g.nodes[j].args.length + g.nodes[j].labels.length : Nat) : Int)) = s1 := by
      have e : (X : Int) = ((g.nodes.length + sumL greatN (g.nodes.take j) : Nat) : Int) + ((g.nodes[j].args.length + g.nodes[j].labels.length : Nat) : Int) := by omega
      rw [k0, k1, wrap_more, e]
    have hX : X + bigT g.nodes[j].name + sumL bigT g.nodes[j].labels = g.nodes.length + sumL greatN (g.nodes.take (j + 1)) := by
      rw [sumL_take greatN g.nodes j hj, kX]; simp only [greatN]; omega
    obtain ⟨s2, k2⟩ : ∃ s2 : Int, s2 = IntKind.i64.wrap ((X + bigT g.nodes[j].name : Nat) : Int) := ⟨_, rfl⟩
    clear k0 kX
    replace k1 := Hid.mk k1
    replace k2 := Hid.mk k2
    replace hX := Hid.mk hX
    refine zAB (zAA ?_)
    refine zAC (zAD ?_)
    repeat with_reducible first | refine zAA ?_ | refine zAB ?_ | (apply st_q; exact q1)
    refine cd_cut (fun a' h' => h' = h6 ∧ a'.defers = [] ∧ ev a' (.tmp 12) = some nv ∧ ev a' (.tmp 14) = some (.int .i64 (j : Nat)) ∧ ev a' (.tmp 13) = some (.int .i64 (g.nodes.length : Nat)) ∧ ev a' (.tmp 5) = some (.ptr (some (b5, 0))) ∧ ev a' (.tmp 3) = some (.int .i64 s2)) ?_ ?_
    · cases cn : decide ((Int.ofNat g.nodes[j].name.length : Int) > 1000)
      · have hb : bigT g.nodes[j].name = 0 := by
          have := of_decide_eq_false cn
          simp only [bigT]; rw [if_neg]; simp at this; omega
        have h21 : s2 = s1 := by rw [k2.out, k1.out, hb, Nat.add_zero]
        subst h21
        repeat with_reducible first | refine zAA ?_ | refine zAB ?_ | refine zAC ?_ | refine zAD ?_ | refine zAL ?_ | (apply st_q; exact q1) | (apply zAI; exact e1)
        exact ⟨rfl, by exact n1, by exact e1, by exact e1, by exact e1, by exact e1, by exact e1⟩
      · have hb : bigT g.nodes[j].name = 1000 := by
          have := of_decide_eq_true cn
          simp only [bigT]; rw [if_pos]; simp at this; omega
        have hw3 : IntKind.i64.wrap (s1 + 1000) = s2 := by
          have e : ((X + bigT g.nodes[j].name : Nat) : Int) = (X : Int) + 1000 := by omega
          rw [k1.out, k2.out, wrap_more, e]
        repeat with_reducible first | refine zAA ?_ | refine zAB ?_ | refine zAC ?_ | refine zAD ?_ | (apply st_q; exact q1) | (apply zAF; exact e1)
        exact ⟨rfl, by exact n1, by exact e1, by exact e1, by exact e1, by exact e1, by exact e1⟩
    · clear hw1 hw2 hi hn h12 h3 hd k1
      rintro a h ⟨rfl, hd, h12, hi, hn, h5, h3⟩
      obtain ⟨Y, kY⟩ : ∃ Y : Nat, Y = X + bigT g.nodes[j].name := ⟨_, rfl⟩
      replace hX : Hid (Y + sumL bigT g.nodes[j].labels = g.nodes.length + sumL greatN (g.nodes.take (j + 1))) := ⟨by rw [kY]; exact hX.out⟩
      replace k2 : Hid (IntKind.i64.wrap ((Y + sumL bigT (g.nodes[j].labels.take 0) : Nat) : Int) = s2) := ⟨by rw [k2.out, kY, List.take_zero]; rfl⟩
      clear kY
      refine zAC (zAD ?_)
      repeat with_reducible first | refine zAA ?_ | refine zAB ?_ | (apply st_q; exact q1)

      refine cd_count (N := g.nodes[j].labels.length) (by omega) (fun i a hp => hp = h ∧ a.defers = [] ∧ ev a (.tmp 12) = some nv ∧ ev a (.tmp 14) = some (.int .i64 (j : Nat)) ∧ ev a (.tmp 13) = some (.int .i64 (g.nodes.length : Nat)) ∧ ev a (.tmp 34) = some lv ∧ ev a (.tmp 3) = some (.int .i64 (IntKind.i64.wrap ((Y + sumL bigT (g.nodes[j].labels.take i) : Nat) : Int))))
        (by rintro j a hp t w (rfl | rfl | rfl) ⟨h1, h2, h3, h4, h5, h6, h7⟩ <;> exact ⟨h1, by rw [zAV]; exact h2, by exact e1, by exact e1, by exact e1, by exact e1, by exact e1⟩) (by decide) ?_ ?_ ⟨rfl, by exact n1, by exact e1, by exact e1, by exact e1, by exact e1, by rw [k2.out]; exact e1⟩ (by exact e1) (by exact e1)
      · clear h3 h5 hd h12 hi hn k2
        rintro i a hp hil ⟨rfl, hd, h12, hi, hn, h34, h3⟩ h36 h35
        have hci : g.nodes[j].labels[i]? = some g.nodes[j].labels[i] := List.getElem?_eq_getElem hil
        obtain ⟨b', o', ver', ro', e', vs', hix', hget', hvo'⟩ := hl.at hci
        replace hget' := hgr.keep _ _ hget'
        have hs2 := Hid.mk (sumL_take bigT g.nodes[j].labels i hil)
        obtain ⟨z0, kz⟩ : ∃ z0 : Int, z0 = IntKind.i64.wrap ((Y + sumL bigT (g.nodes[j].labels.take i) : Nat) : Int) := ⟨_, rfl⟩
        rw [← kz] at h3
        replace kz := Hid.mk kz
        cases cn : decide ((Int.ofNat g.nodes[j].labels[i].length : Int) > 1000)
        · have hb : bigT g.nodes[j].labels[i] = 0 := by
            have := of_decide_eq_false cn
            simp only [bigT]; rw [if_neg]; simp at this; omega
          have he := Hid.mk (show IntKind.i64.wrap ((Y + sumL bigT (g.nodes[j].labels.take (i + 1)) : Nat) : Int) = z0 from by rw [hs2.out, hb, kz.out, Nat.add_zero])
          repeat with_reducible first | refine zAA ?_ | refine zAJ ?_ | refine zAB ?_ | refine zAC ?_ | refine zAD ?_ | refine zAK ?_ | refine zAL ?_ | (apply st_q; exact q1) | (apply zAI; exact e1)
          exact ⟨⟨rfl, by exact n1, by exact e1, by exact e1, by exact e1, by exact e1, by rw [he.out]; exact e1⟩, by exact e1, by exact e1⟩
        · have hb : bigT g.nodes[j].labels[i] = 1000 := by
            have := of_decide_eq_true cn
            simp only [bigT]; rw [if_pos]; simp at this; omega
          obtain ⟨z1, kz1⟩ : ∃ z1 : Int, z1 = IntKind.i64.wrap (z0 + 1000) := ⟨_, rfl⟩
          have he := Hid.mk (show IntKind.i64.wrap ((Y + sumL bigT (g.nodes[j].labels.take (i + 1)) : Nat) : Int) = z1 from by
            have e : ((Y + sumL bigT (g.nodes[j].labels.take (i + 1)) : Nat) : Int) = ((Y + sumL bigT (g.nodes[j].labels.take i) : Nat) : Int) + 1000 := by have := hs2.out; omega
            rw [kz1, kz.out, wrap_more, e])
          have hw3 := kz1.symm
          clear kz1
          repeat with_reducible first | refine zAA ?_ | refine zAJ ?_ | refine zAB ?_ | refine zAC ?_ | refine zAD ?_ | refine zAK ?_ | (apply st_q; exact q1) | (apply zAF; exact e1)
          exact ⟨⟨rfl, by exact n1, by exact e1, by exact e1, by exact e1, by exact e1, by rw [he.out]; exact e1⟩, by exact e1, by exact e1⟩
      · rintro a hp ⟨rfl, hd, h12, hi, hn, h34, h3⟩
        rw [List.take_length] at h3
        rw [hX.out] at h3
        exact ⟨⟨hgr, hd, h12, h3⟩, hi, hn⟩
  · rintro a hp ⟨hgr, hd, h12, h3⟩
    rw [List.take_length] at h3
    repeat' with_reducible first | refine zAA ?_ | refine zAB ?_ | refine zAC ?_ | refine zAD ?_ | refine zAG ?_ | (apply st_q; exact q1) | (apply zAE; exact n1; exact r1)
    exact ⟨rfl, hgr⟩
end
end Go.Ab.S
end
section
/-
  What is gone through from behind.
-/
namespace Go.Ab.S
open Go.Ab
set_option maxHeartbeats 4000000
section
variable {fns : FuncId → Option AFunc} {summ : FuncId → List AVal → AHeap → Option (D (AVal × AHeap))}

/-- Marks of ranges over functions, all on the way out. -/
theorem lv_all {base : Nat} : ∀ (rs : List Nat) {h : AHeap} {K : AHeap → Prop}, WF h → rs.Nodup → (∀ r ∈ rs, base ≤ r ∧ ∃ ver, h.objs.get r = some (ver, .dfr false)) →
    (∀ h', WF h' → h.next ≤ h'.next → (∀ c, c ∉ rs → h'.objs.get c = h.objs.get c) → (∀ h0, WF h0 → Grow h0 h → h0.next ≤ base → Grow h0 h') → K h') → Lv fns summ (rs.map ADef.collected) h K
  | [], h, K, w, _, _, k => lv_nil (k h w (Nat.le_refl _) (fun _ _ => rfl) (fun _ _ g _ => g))
  | r :: rs, h, K, w, hn, hr, k => by
    obtain ⟨hb, ver, hg⟩ := hr r (by simp)
    have hn' := List.nodup_cons.1 hn
    have p := but_put w hg (.dfr true)
    refine lv_collected hg (lv_all (base := base) rs (p.wf w) hn'.2 (fun r' h' => ?_) fun h' w' hl hs hg' => k h' w' (Nat.le_trans p.next hl) (fun c hc => ?_) fun h0 w0 g hb' => hg' h0 w0 (p.grow h0 w0 g (Nat.le_trans hb' hb)) hb')
    · obtain ⟨h1, ver', h2⟩ := hr r' (by simp [h'])
      exact ⟨h1, ver', p.keep r' (fun e => hn'.1 (e ▸ h')) _ h2⟩
    · simp only [List.mem_cons, not_or] at hc
      rw [hs c hc.2, put_get_ne _ _ _ hc.1]

variable (H : Has fns summ)
include H
theorem Backward_ok (v : AVal) (h : AHeap) (hw : WF h) (hv1 : one v = true) : Cl fns summ 123 [v] h fun r h' => ∃ b ver, r = .func 154 [] [.ptr (some (b, 0))] ∧ h.next ≤ b ∧ h'.objs.get b = some (ver, .cells false 58 [v]) ∧ Grow h h' := by
  refine H.go (fn := F_Backward) rfl (by decide) rfl rfl ?_
  unfold F_Backward
  dsimp only [qQ, qE, qN, gQ, gE, vi]
  refine zAC (zAD ?_)
  have hc : cellsA v = [v] := by cases v <;> first | rfl | cases hv1
  refine st_box (by exact e1) hc hw ?_
  rintro b h1 hb g1 o1
  repeat' with_reducible first | refine zAA ?_ | refine zAB ?_ | refine zAC ?_ | refine zAD ?_ | refine zAG ?_ | (apply st_q; exact q1) | (apply zAE; exact n1; exact r1)
  exact ⟨b, _, rfl, hb, o1, g1⟩

/-- Each element, from behind, is handed on. -/
theorem Backward1_ok (l : List Int) (hl : l.length < 2 ^ 60) (v y : AVal) (b : Nat) (I : Nat → AHeap → Prop) (hb : ∀ k h, I k h → ∃ ver ro e, h.objs.get b = some (ver, .cells ro e [v]) ∧ IntsAt h v l)
    (hy : ∀ k h, I k h → ∀ (hk : k < l.length), Cv fns summ y [.int .i64 ((l.length - 1 - k : Nat) : Int), .int .i64 (l[l.length - 1 - k]'(by omega))] h fun r h' => r = .bool true ∧ I (k + 1) h') (h : AHeap) (hI : I 0 h) :
    Cl fns summ 154 [y, .ptr (some (b, 0))] h fun _ h' => I l.length h' := by
  refine H.go (fn := F_Backward1) rfl (by decide) rfl rfl ?_
  unfold F_Backward1
  dsimp only [qQ, qE, qN, gQ, gE, vi]
  obtain ⟨ver, ro, e, o1, hv⟩ := hb 0 h hI
  have hlen := hv.len
  have hw0 : IntKind.i64.wrap (Int.ofNat l.length - 1) = (l.length : Int) - 1 := by
    show IntKind.i64.wrap ((l.length : Int) - 1) = _
    exact wrap_small (by omega) (by omega)
  repeat with_reducible first | refine zAA ?_ | refine zAB ?_ | refine zAC ?_ | refine zAD ?_ | (apply st_q; exact q1)
  refine cd_block ?_
  refine cd_loop (fun m a hp => ∃ k, m = l.length + 1 - k ∧ k ≤ l.length ∧ I k hp ∧ a.defers = [] ∧ ev a (.tmp 0) = some y ∧ ev a (.tmp 1) = some (.ptr (some (b, 0))) ∧ ev a (.tmp 3) = some (.int .i64 ((l.length : Int) - 1 - (k : Nat)))) ?_ (n := l.length + 1) ⟨0, rfl, Nat.zero_le _, hI, by exact n1, by exact e1, by exact e1, by simpa using e1⟩
  clear hI o1 hv
  rintro m a hp ⟨k, hm, hk, hI, hd, h0, h1, h3⟩
  by_cases hlt : k < l.length
  · have hge : decide ((l.length : Int) - 1 - (k : Nat) ≥ 0) = true := by simp; omega
    have hi : (l.length : Int) - 1 - (k : Nat) = ((l.length - 1 - k : Nat) : Int) := by omega
    rw [hi] at h3 hge
    obtain ⟨ver, ro, e, o1, hv⟩ := hb k hp hI
    have hj : l.length - 1 - k < l.length := by omega
    obtain ⟨b', o', ver', ro', e', vs', hix, hget, hvo⟩ := hv.at (List.getElem?_eq_getElem hj)
    have hw1 : IntKind.i64.wrap (((l.length - 1 - k : Nat) : Int) - 1) = (l.length : Int) - 1 - ((k + 1 : Nat) : Int) := by rw [wrap_small (by omega) (by omega)]; omega
    clear hi hv hlen hw0

    repeat with_reducible first | refine zAA ?_ | refine zAB ?_ | refine zAC ?_ | refine zAD ?_ | refine zAK ?_ | refine zAL ?_ | (apply st_q; exact q1) | (apply zAF; exact e1)
    refine st_e (ex_call (by exact e1) (by exact s1) ((hy k hp hI hlt).mono ?_))
    rintro _ h2 ⟨rfl, hI2⟩
    repeat with_reducible first | refine zAA ?_ | refine zAJ ?_ | refine zAB ?_ | refine zAD ?_ | refine zAL ?_ | (apply st_q; exact q1) | (apply zAI; exact e1)
    exact ⟨l.length + 1 - (k + 1), by omega, k + 1, rfl, by omega, hI2, by exact n1, by exact e1, by exact e1, by exact e1⟩
  · have hge : decide ((l.length : Int) - 1 - (k : Nat) ≥ 0) = false := by simp; omega
    obtain rfl : k = l.length := by omega
    repeat with_reducible first | refine zAA ?_ | refine nxt_exit ?_ | refine blk_same ?_ | refine zAB ?_ | refine zAC ?_ | refine zAD ?_ | refine cd_exit ?_ | (apply st_q; exact q1) | (apply zAI; exact e1)
    refine fin_normal (by exact n1) (v := .tuple []) (by exact r1) hI
end
end Go.Ab.S
end
