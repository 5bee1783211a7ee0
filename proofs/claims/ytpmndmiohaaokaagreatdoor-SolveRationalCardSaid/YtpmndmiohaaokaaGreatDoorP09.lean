import Derived.Test.YtpmndmiohaaokaaGreatDoorP08
/-
  Part 9 of the proof.
-/
set_option linter.all false
section
namespace Go.Ab.S
set_option maxHeartbeats 4000000
open Go.Ab
section
variable {fns : FnsT} {summ : SumT}

def zOK : List Nat -> List Nat -> Bool
 | [], _ => true
 | _ :: _, [] => false
 | a :: x, b :: y => a == b && zOK x y
def inL : List Nat -> List Nat -> Bool
 | [], t => zOK t []
 | a :: s, t => zOK t (a :: s) || inL s t
def digF : Nat -> Nat -> List Nat
 | 0, n => [48 + n % 10]
 | f + 1, n => if n < 10 then [48 + n] else digF f (n / 10) ++ [48 + n % 10]
def digN (n : Nat) : List Nat := digF 19 n
def zFD (n : Int) : List Nat := if n < 0 then 45 :: digN n.natAbs else digN n.toNat
structure Has (fns : FnsT) (summ : SumT) : Prop where
 contains : ∀ s t h, s.length <= 2000 -> summ 140 [.str s, .str t] h = some (.ret (.bool (inL s t), h))
 itoa : ∀ n h, -9223372036854775808 <= n -> n <= 9223372036854775807 -> summ 186 [.int .i64 n] h = some (.ret (.str (zFD n), h))
 checkNew : ∀ b ver s h, h.objs.get b = some (ver, .cells false 258 [.ptr none, s]) -> one s = true -> summ 173 [.ptr (some (b, 0))] h = some (.ret (.tuple [], zAd h b (.cells false 258 [.ptr (some (b, 0)), s])))
 checkOld : ∀ b ver s h, h.objs.get b = some (ver, .cells false 258 [.ptr (some (b, 0)), s]) -> summ 173 [.ptr (some (b, 0))] h = some (.ret (.tuple [], h))
 text : ∀ b ver p c ver' vs (l : List Nat) h, h.objs.get b = some (ver, .cells false 258 [p, .slice (some (c, 0)) l.length]) -> h.objs.get c = some (ver', .cells false 5 vs) -> vs.take l.length = l.map (fun x => AVal.int .u8 (x : Nat)) -> l ≠ [] -> (∀ x ∈ l, x < 256) -> l.length <= 1000000 →
  summ 149 [.ptr (some (b, 0))] h = some (.ret (.str l, zDN h c))
 funs : ∀ f fn, tab f = some fn -> fns f = some fn
 other : ∀ f fn, tab f = some fn -> ∀ a h, summ f a h = none

variable (H : Has fns summ)
include H
theorem Has.go {f : FuncId} {fn : AFunc} (ht : tab f = some fn) (_ : True) (hr : fn.recovers = none) {args : List AVal} {h : AHeap} {K : AVal -> AHeap -> Prop} {t : T AVal} (hp : zBb .leaf (List.range args.length) args = some t)
  (k : Cd fns summ none fn.body { tmps := t, defers := [] } h (fin fns summ fn.results K)) : Cl fns summ f args h K := cl_enter (H.other f fn ht _ _) (H.funs f fn ht) hr hp k
omit H

def zJY (c : Nat) (b : Bool) : Bool := (((48 <= c && c <= 57) || (65 <= c && c <= 90)) && !b) || (97 <= c && c <= 122) || c == 95
include H
theorem goes_ok (c : Nat) (b : Bool) (h : AHeap) : Cl fns summ 139 [.int .u8 c, .bool b] h fun v h' => v = .bool (zJY c b) /\ h' = h := by
 refine H.go (fn := F_goes) rfl (by decide) rfl rfl ?_
 unfold F_goes
 dsimp only [qQ, qE, qN, gQ, gE, vi, tm, mt, lo, fa]
 repeat' with_reducible first | refine zAA ?_ | refine zAa ?_ | refine zBg ?_ | refine zAQ ?_ | refine zBP ?_ | refine zBf ?_ | refine zNK ?_ rfl | refine zAC ?_ | refine zAE ?_ | refine zAD ?_ | refine zAP ?_ | refine zAT ?_ | refine zCF ?_ | refine zAO ?_ | (apply st_q; exact q1) | (apply zIO; exact e1; exact e2) | (apply zGE; exact e1; exact g1; exact q2) | (apply zAJ; exact e1) | (apply zAI; exact n1; exact r1) | (apply zJO; exact e1; all_goals intro _)
 all_goals (refine ⟨congrArg AVal.bool ?_, rfl⟩)
 all_goals (subst_vars; simp_all [zJY] <;> omega)
omit H

def zGh : Nat -> List Nat -> Nat
 | i, [] => i
 | i, c :: r => if zJY c (i == 0) then zGh (i + 1) r else i
theorem zNE {s : List Nat} {i : Nat} {c : Nat} (h : s[i]? = some c) : zGh i (s.drop i) = if zJY c (i == 0) then zGh (i + 1) (s.drop (i + 1)) else i := by
 obtain ⟨hi, rfl⟩ := List.getElem?_eq_some_iff.1 h
 rw [List.drop_eq_getElem_cons hi, zGh]
include H
theorem word_ok (s : List Nat) (hs : s.length < 2 ^ 60) (h : AHeap) : Cl fns summ 116 [.str s] h fun v h' => v = .int .i64 (zGh 0 s) /\ h' = h := by
 refine H.go (fn := F_word) rfl (by decide) rfl rfl ?_
 unfold F_word
 dsimp only [qQ, qE, qN, gQ, gE, vi, tm, mt, lo, fa]
 repeat with_reducible first | refine zAA ?_ | refine zAC ?_ | refine zAE ?_ | refine zAD ?_ | (apply st_q; exact q1)
 refine zBy ?_
 refine zDM (fun k a hp => hp = h /\ a.defers = [] /\ ev a (.tmp 0) = some (.str s) /\ ∃ i : Nat, k + i = s.length /\ ev a (.tmp 3) = some (.int .i64 i) /\ zGh i (s.drop i) = zGh 0 s) ?_ (n := s.length) ⟨rfl, rfl, by exact e1, 0, by simp, by exact e1, by simp⟩
 rintro k a hp ⟨rfl, hd, h0, i, hi, h3, hw⟩
 by_cases hlt : i < s.length
 ·have hlt' : decide ((i : Int) < Int.ofNat s.length) = true := by simpa using hlt
  have hc : s[i]? = some s[i] := List.getElem?_eq_getElem hlt
  have hz : ((i : Int) == 0) = (i == 0) := by cases i <;> rfl
  have hi0 : (0 : Int) <= (i : Int) := by omega
  have hin : ((i : Int)).toNat = i := by omega
  repeat with_reducible first | refine zAE ?_ | refine zAD ?_ | (apply st_q; exact q1) | (apply zBW; exact e1; exact q1)
  refine zBi (by exact e1) (by exact s1) ((goes_ok H s[i] (i == 0) _).mono ?_)
  rintro _ _ ⟨rfl, rfl⟩
  rw [zNE hc] at hw
  by_cases hg : zJY s[i] (i == 0) = true
  ·rw [if_pos hg] at hw
   have hwr : IntKind.i64.wrap ((i : Int) + 1) = ((i + 1 : Nat) : Int) := by rw [zAq (by omega) (by omega)]; omega
   repeat with_reducible first | refine zAA ?_ | refine zAQ ?_ | refine zAC ?_ | refine zKO ?_ | refine zAT ?_ | (apply st_q; exact q1) | (apply zAJ; exact e1)
   exact ⟨k - 1, by omega, rfl, hd, by exact e1, i + 1, by omega, by exact e1, hw⟩
  ·rw [if_neg hg] at hw
   replace hw := hw.symm
   have hg' : zJY s[i] (i == 0) = false := by simpa using hg
   repeat' with_reducible first | refine zAA ?_ | refine zBg ?_ | refine zBf ?_ | refine zAC ?_ | refine zAE ?_ | refine zAD ?_ | refine zCF ?_ | refine zAO ?_ | (apply st_q; exact q1) | (apply zAL; exact e1) | (apply zAI; exact n1; exact r1)
   exact ⟨by rw [hw], rfl⟩
 ·have hlt' : decide ((i : Int) < Int.ofNat s.length) = false := by simpa using hlt
  have : s.drop i = [] := List.drop_eq_nil_of_le (by omega)
  rw [this, zGh] at hw
  replace hw := hw.symm
  repeat' with_reducible first | refine zAA ?_ | refine zBg ?_ | refine zBf ?_ | refine zAC ?_ | refine zAE ?_ | refine zAD ?_ | refine zCF ?_ | refine zAO ?_ | (apply st_q; exact q1) | (apply zDV; exact e1) | (apply zFN; exact e1) | (apply zAL; exact e1) | (apply zAI; exact n1; exact r1)
  exact ⟨by rw [hw], rfl⟩

omit H
def keysS : List Nat := [32, 97, 110, 100, 32, 97, 115, 32, 99, 108, 97, 115, 115, 32, 101, 108, 115, 101, 32, 101, 110, 100, 32, 102, 97, 108, 115, 101, 32, 102, 117, 110, 32, 105, 102, 32, 105, 110, 32, 105, 110, 104, 101, 114, 105, 116, 32, 108, 101, 116, 32, 109, 101, 116, 104, 111, 100, 32, 110, 101, 119, 32, 111, 98, 106, 101, 99, 116, 32, 114, 101, 99, 32, 116, 104, 101, 110, 32, 116, 114, 117, 101, 32, 118, 97, 108, 32, 118, 105, 114, 116, 117, 97, 108, 32]
def zKa (s : List Nat) : Bool := !eqL s [] && !inL s [32] && inL keysS ([32] ++ s ++ [32])
include H
theorem IsKey_ok (s : List Nat) (hs : s.length <= 100) (h : AHeap) : Cl fns summ 117 [.str s] h fun v h' => v = .bool (zKa s) /\ h' = h := by
 have hk : keysS.length <= 2000 := by decide
 have hadd : ([32] : List Nat).length + s.length < 1000000000000 := by simp; omega
 have hadd2 : (([32] : List Nat) ++ s).length + ([32] : List Nat).length < 1000000000000 := by simp; omega
 have c1 := H.contains s [32] h (by omega)
 have c2 := H.contains keysS ([32] ++ s ++ [32]) h hk
 refine H.go (fn := F_IsKey) rfl (by decide) rfl rfl ?_
 unfold F_IsKey
 dsimp only [qQ, qE, qN, gQ, gE, vi, tm, mt, lo, fa]
 cases he : eqL s []
 ·repeat with_reducible first | refine zAA ?_ | refine zAC ?_ | refine zAE ?_ | refine zAD ?_ | (apply st_q; exact q1) | (apply zBW; exact e1; exact q1)
  refine zBi (by exact e1) (by exact s1) (zDh c1 ?_)
  simp only [D.sat_ret]
  cases hp : inL s [32]
  ·repeat with_reducible first | (apply st_q; exact q1) | (apply zBW; exact e1; exact q1)
   refine zBi (by exact e1) (by exact s1) (zDh c2 ?_)
   simp only [D.sat_ret]
   repeat' with_reducible first | refine zAA ?_ | refine zAC ?_ | refine zAO ?_ | (apply st_q; exact q1) | (apply zAI; exact n1; exact r1)
   exact ⟨by simp only [zKa, he, hp]; rfl, rfl⟩
  ·repeat' with_reducible first | refine zAA ?_ | refine zAC ?_ | refine zAO ?_ | (apply st_q; exact q1) | (apply zBW; exact e1; exact q1) | (apply zDV; exact e1) | (apply zFN; exact e1) | (apply zAI; exact n1; exact r1)
   exact ⟨by simp only [zKa, he, hp]; rfl, rfl⟩
 ·repeat' with_reducible first | refine zAA ?_ | refine zAC ?_ | refine zAE ?_ | refine zAD ?_ | refine zAO ?_ | (apply st_q; exact q1) | (apply zDV; exact e1) | (apply zFN; exact e1) | (apply zAI; exact n1; exact r1)
  exact ⟨by simp only [zKa, he]; rfl, rfl⟩
omit H
def zCy (s : List Nat) : Bool := !eqL s [] && s.length <= 100 && zGh 0 s == s.length && !zKa s
include H
theorem IsName_ok (s : List Nat) (hs : s.length < 2 ^ 60) (h : AHeap) : Cl fns summ 88 [.str s] h fun v h' => v = .bool (zCy s) /\ h' = h := by
 refine H.go (fn := F_IsName) rfl (by decide) rfl rfl ?_
 unfold F_IsName
 dsimp only [qQ, qE, qN, gQ, gE, vi, tm, mt, lo, fa]
 cases he : eqL s []
 ·by_cases hl : s.length <= 100
  ·have hl' : decide (Int.ofNat s.length <= 100) = true := by simp; omega
   repeat with_reducible first | refine zAA ?_ | refine zAC ?_ | refine zAE ?_ | refine zAD ?_ | (apply st_q; exact q1) | (apply zBW; exact e1; exact q1)
   refine zBi (by exact e1) (by exact s1) ((word_ok H s hs _).mono ?_)
   rintro _ _ ⟨rfl, rfl⟩
   have hz : (((zGh 0 s : Nat) : Int) == Int.ofNat s.length) = (zGh 0 s == s.length) := by
    rw [Bool.eq_iff_iff]; simp; omega
   cases hw : zGh 0 s == s.length
   ·rw [hw] at hz
    repeat' with_reducible first | refine zAA ?_ | refine zAC ?_ | refine zAO ?_ | (apply st_q; exact q1) | (apply zBW; exact e1; exact q1) | (apply zDV; exact e1) | (apply zFN; exact e1) | (apply zAI; exact n1; exact r1)
    exact ⟨by simp only [zCy, he, hw]; simp, rfl⟩
   ·rw [hw] at hz
    repeat with_reducible first | (apply st_q; exact q1) | (apply zBW; exact e1; exact q1)
    refine zBi (by exact e1) (by exact s1) ((IsKey_ok H s hl _).mono ?_)
    rintro _ _ ⟨rfl, rfl⟩
    repeat' with_reducible first | refine zAA ?_ | refine zAC ?_ | refine zAO ?_ | (apply st_q; exact q1) | (apply zBW; exact e1; exact q1) | (apply zAI; exact n1; exact r1)
    exact ⟨by simp only [zCy, he, hw]; simp [hl], rfl⟩
  ·have hl' : decide (Int.ofNat s.length <= 100) = false := by simp; omega
   repeat' with_reducible first | refine zAA ?_ | refine zAC ?_ | refine zAE ?_ | refine zAD ?_ | refine zAO ?_ | (apply st_q; exact q1) | (apply zBW; exact e1; exact q1) | (apply zDV; exact e1) | (apply zFN; exact e1) | (apply zAI; exact n1; exact r1)
   exact ⟨by simp only [zCy, he]; simp [hl], rfl⟩
 ·repeat' with_reducible first | refine zAA ?_ | refine zAC ?_ | refine zAE ?_ | refine zAD ?_ | refine zAO ?_ | (apply st_q; exact q1) | (apply zDV; exact e1) | (apply zFN; exact e1) | (apply zAI; exact n1; exact r1)
  exact ⟨by simp only [zCy, he]; rfl, rfl⟩
end
end Go.Ab.S
end
section
namespace Go.Ab.S
open Go.Ab
set_option maxHeartbeats 4000000
def risG : Option (List Nat) -> List (List Nat) -> Bool
 | _, [] => true
 | p, s :: r => zCy s && (match p with | none => true | some q => zBB q s) && risG (some s) r
def zEm (l : List (List Nat)) : Bool := risG none l
theorem zOL {l : List (List Nat)} {i : Nat} {c : List Nat} {p : Option (List Nat)} (h : l[i]? = some c) : risG p (l.drop i) = (zCy c && (match p with | none => true | some q => zBB q c) && risG (some c) (l.drop (i + 1))) := by
 obtain ⟨hi, rfl⟩ := List.getElem?_eq_some_iff.1 h
 rw [List.drop_eq_getElem_cons hi]; cases p <;> rfl
def prevL (l : List (List Nat)) : Nat -> Option (List Nat)
 | 0 => none
 | i + 1 => l[i]?
section
variable {fns : FnsT} {summ : SumT}
variable (H : Has fns summ)
include H
theorem zMj (l : List (List Nat)) (hs : ∀ s ∈ l, s.length < 2 ^ 60) (hn : l.length < 2 ^ 60) (v : AVal) (h : AHeap) (hv : StrsAt h v l) : Cl fns summ 67 [v] h fun r h' => r = .bool (zEm l) /\ h' = h := by
 refine H.go (fn := F_grising) rfl (by decide) rfl rfl ?_
 unfold F_grising
 dsimp only [qQ, qE, qN, gQ, gE, vi, tm, mt, lo, fa]
 have hlen := hv.len
 repeat with_reducible first | refine zAA ?_ | refine zAC ?_ | refine zAE ?_ | refine zAD ?_ | (apply st_q; exact q1)
 refine zAz (N := l.length) (by omega) (fun j a hp => hp = h /\ a.defers = [] /\ ev a (.tmp 0) = some v /\ ev a (.tmp 5) = some v /\ zEm l = risG (prevL l j) (l.drop j))
  (by rintro j a hp t w (rfl | rfl | rfl) ⟨h1, h2, h3, h4, h5⟩ <;> exact ⟨h1, by rw [zAc]; exact h2, by exact e1, by exact e1, h5⟩) (by decide) ?_ ?_ ⟨rfl, by exact n1, by exact e1, by exact e1, rfl⟩ (by exact e1) (by exact e1)
 ·rintro j a hp hj ⟨rfl, hd, h0, h5, hr⟩ hi hN
  have hc : l[j]? = some l[j] := List.getElem?_eq_getElem hj
  obtain ⟨b, o, ver, ro, e, vs, hix, hget, hvo⟩ := hv.at hc
  repeat with_reducible first | refine zAA ?_ | refine zAC ?_ | refine zAE ?_ | refine zAD ?_ | refine zAP ?_ | (apply st_q; exact q1)
  refine zAb (by exact s1) ((IsName_ok H _ (hs _ (List.getElem_mem hj)) _).mono ?_)
  rintro _ _ ⟨rfl, rfl⟩
  rw [zOL hc] at hr
  cases hg : zCy l[j]
  ·rw [hg] at hr
   repeat' with_reducible first | refine zAA ?_ | refine zAa ?_ | refine zBP ?_ | refine zAC ?_ | refine zAE ?_ | refine zAD ?_ | refine zAO ?_ | (apply st_q; exact q1) | (apply zDV; exact e1) | (apply st_qU; exact e1) | (apply zAJ; exact e1) | (apply zAI; exact n1; exact r1)
   exact ⟨by rw [hr]; rfl, rfl⟩
  ·rw [hg] at hr
   cases j with
   | zero =>
    have hz : decide (((0 : Nat) : Int) > 0) = false := rfl
    repeat with_reducible first | refine zAA ?_ | refine zAQ ?_ | refine zAC ?_ | refine zAT ?_ | (apply st_q; exact q1) | (apply zBW; exact e1; exact q1) | (apply zDV; exact e1) | (apply zAL; exact e1)
    exact ⟨⟨rfl, by exact n1, by exact e1, by exact e1, by rw [hr]; show _ = risG (l[0]?) _; rw [hc]; rfl⟩, by exact e1, by exact e1⟩
   | succ j =>
    have hz : decide (((j + 1 : Nat) : Int) > 0) = true := by simp
    have hc' : l[j]? = some l[j] := List.getElem?_eq_getElem (by omega)
    obtain ⟨b', o', ver', ro', e', vs', hix', hget', hvo'⟩ := hv.at hc'
    have hw : IntKind.i64.wrap (((j + 1 : Nat) : Int) - 1) = (j : Nat) := by rw [zAq (by omega) (by omega)]; omega
    rw [prevL, hc'] at hr
    cases hlt : zBB l[j] l[j + 1]
    ·simp only [hlt, Bool.and_false, Bool.false_and] at hr
     repeat' with_reducible first | refine zAA ?_ | refine zAa ?_ | refine zBP ?_ | refine zAC ?_ | refine zAE ?_ | refine zAD ?_ | refine zAO ?_ | (apply st_q; exact q1) | (apply zBW; exact e1; exact q1) | (apply zAJ; exact e1) | (apply zAI; exact n1; exact r1)
     exact ⟨by rw [hr], rfl⟩
    ·simp only [hlt, Bool.and_true, Bool.true_and] at hr
     repeat with_reducible first | refine zAA ?_ | refine zAQ ?_ | refine zAC ?_ | refine zAT ?_ | (apply st_q; exact q1) | (apply zBW; exact e1; exact q1) | (apply zAL; exact e1)
     exact ⟨⟨rfl, by exact n1, by exact e1, by exact e1, by rw [hr]; show _ = risG (l[j + 1]?) _; rw [hc]⟩, by exact e1, by exact e1⟩
 ·rintro a hp ⟨rfl, hd, h0, h5, hr⟩
  rw [List.drop_length] at hr
  repeat' with_reducible first | refine zAA ?_ | refine zAC ?_ | refine zAE ?_ | refine zAD ?_ | refine zAO ?_ | (apply st_q; exact q1) | (apply zAI; exact n1; exact r1)
  exact ⟨by rw [hr]; rfl, rfl⟩
omit H
def arEs : List (AVal × AVal × Nat) := [(.str [105, 110, 116], .int .i64 0, 0), (.str [98, 111, 111, 108], .int .i64 0, 1), (.str [115, 116, 114, 105, 110, 103], .int .i64 0, 2), (.str [117, 110, 105, 116], .int .i64 0, 3), (.str [45, 62], .int .i64 2, 4), (.str [42], .int .i64 2, 5)]
def arIs (s : List Nat) : Bool := eqL s [105, 110, 116] || eqL s [98, 111, 111, 108] || eqL s [115, 116, 114, 105, 110, 103] || eqL s [117, 110, 105, 116] || eqL s [45, 62] || eqL s [42]
def arK (s : List Nat) : Nat := if eqL s [105, 110, 116] || eqL s [98, 111, 111, 108] || eqL s [115, 116, 114, 105, 110, 103] || eqL s [117, 110, 105, 116] then 0 else if eqL s [45, 62] || eqL s [42] then 2 else 0
theorem findA_ar (s : List Nat) : ∃ i, zBm .str (.str s) arEs 0 = some (if arIs s then some (i, .int .i64 (arK s : Nat)) else none) := by
 simp only [zBm, arEs, keyA, arIs, arK]
 rcases Bool.eq_false_or_eq_true (eqL s [105, 110, 116]) with h1 | h1
 ·exact ⟨0, by simp [h1]⟩
 rcases Bool.eq_false_or_eq_true (eqL s [98, 111, 111, 108]) with h2 | h2
 ·exact ⟨1, by simp [h1, h2]⟩
 rcases Bool.eq_false_or_eq_true (eqL s [115, 116, 114, 105, 110, 103]) with h3 | h3
 ·exact ⟨2, by simp [h1, h2, h3]⟩
 rcases Bool.eq_false_or_eq_true (eqL s [117, 110, 105, 116]) with h4 | h4
 ·exact ⟨3, by simp [h1, h2, h3, h4]⟩
 rcases Bool.eq_false_or_eq_true (eqL s [45, 62]) with h5 | h5
 ·exact ⟨4, by simp [h1, h2, h3, h4, h5]⟩
 rcases Bool.eq_false_or_eq_true (eqL s [42]) with h6 | h6
 ·exact ⟨5, by simp [h1, h2, h3, h4, h5, h6]⟩
 ·exact ⟨0, by simp [h1, h2, h3, h4, h5, h6]⟩
theorem look_ar {h : AHeap} {r ver c : Nat} (hg : h.objs.get r = some (ver, .map arEs c)) (s : List Nat) : zCz h .str (.int .i64 0) true (.map (some r)) (.str s) = some (.tuple [.int .i64 (arK s : Nat), .bool (arIs s)], some r) := by
 obtain ⟨i, hf⟩ := findA_ar s
 simp only [zCz, zEh, hg, hf]
 cases ha : arIs s
 ·have : arK s = 0 := by
   simp only [arIs, Bool.or_eq_false_iff] at ha
   obtain ⟨⟨⟨⟨⟨h1, h2⟩, h3⟩, h4⟩, h5⟩, h6⟩ := ha
   simp [arK, h1, h2, h3, h4, h5, h6]
  simp [this]
 ·simp
include H
theorem arity_ok (h : AHeap) (hw : WF h) : Cl fns summ 43 [] h fun v h' => ∃ r ver, v = .map (some r) /\ h'.objs.get r = some (ver, .map arEs 6) /\ Grow h h' := by
 refine H.go (fn := F_arity) rfl (by decide) rfl rfl ?_
 unfold F_arity
 dsimp only [qQ, qE, qN, gQ, gE, vi, tm, mt, lo, fa]
 repeat with_reducible first | refine zAA ?_ | refine zAC ?_ | refine zAE ?_ | refine zAD ?_ | (apply st_q; exact q1)
 refine st_T (by exact tE) (by exact t1) ?_
 iterate 6 refine zJJ (by exact e1) (by exact e1) (by exact e1) (by intro hh; cases hh) rfl (by simp only [zAV, zAh]; rfl) rfl ?_
 repeat' with_reducible first | refine zAA ?_ | refine zAC ?_ | refine zAO ?_ | (apply st_q; exact q1) | (apply zAI; exact n1; exact r1)
 refine ⟨_, _, rfl, zAh _ _ _, ?_⟩
 have g := (Grow.refl hw).new (.map [] 0)
 have hp := fun (h1 : AHeap) (o : AObj) (gg : Grow h h1) (hl : h.next < h1.next) => gg.put hw (id := h.next) o (Nat.le_refl _) hl
 refine hp _ _ (hp _ _ (hp _ _ (hp _ _ (hp _ _ (hp _ _ g ?_) ?_) ?_) ?_) ?_) ?_ <;> simp only [zBK, zCC] <;> omega

theorem may1_ok (x : Int) (n : Int) (b ver : Nat) (ro : Bool) (e : TypeId) (h : AHeap) (hb : h.objs.get b = some (ver, .cells ro e [.int .i64 n])) : Cl fns summ 66 [.int .i64 x, .ptr (some (b, 0))] h fun v h' => v = .bool (decide (x < 0) || decide (x >= n)) /\ h' = h := by
 refine H.go (fn := F_may1) rfl (by decide) rfl rfl ?_
 unfold F_may1
 dsimp only [qQ, qE, qN, gQ, gE, vi, tm, mt, lo, fa]
 have h0 : ([AVal.int .i64 n] : List AVal)[0]? = some (.int .i64 n) := rfl
 repeat' with_reducible first | refine zAA ?_ | refine zAC ?_ | refine zAE ?_ | refine zAD ?_ | refine zAO ?_ | (apply st_q; exact q1) | (apply st_pO; exact e1; exact e2) | (apply zGE; exact e1; exact g1; exact q2) | (apply zAI; exact n1; exact r1)
 exact ⟨rfl, rfl⟩

theorem IFint_ok (l : List Int) (hn : l.length < 2 ^ 60) (p : Int -> Bool) (v fv : AVal) (h : AHeap) (hw : WF h) (hv : IntsAt h v l) (hf : ∀ h', Grow h h' -> ∀ x ∈ l, Cv fns summ fv [.int .i64 x] h' fun r h'' => r = .bool (p x) /\ Grow h' h'') :
  Cl fns summ 87 [v, fv] h fun r h' => (∃ k : Int, r = .int .i64 k /\ decide (k >= 0) = l.any p) /\ Grow h h' := by
 refine H.go (fn := F_IFint) rfl (by decide) rfl rfl ?_
 unfold F_IFint
 dsimp only [qQ, qE, qN, gQ, gE, vi, tm, mt, lo, fa]
 have hlen := hv.len
 repeat with_reducible first | refine zAA ?_ | refine zAC ?_ | refine zAE ?_ | refine zAD ?_ | (apply st_q; exact q1)
 refine zAz (N := l.length) (by omega) (fun j a hp => Grow h hp /\ a.defers = [] /\ ev a (.tmp 0) = some v /\ ev a (.tmp 1) = some fv /\ ((l.take j).any p = false))
  (by rintro j a hp t w (rfl | rfl | rfl) ⟨h1, h2, h3, h4, h5⟩ <;> exact ⟨h1, by rw [zAc]; exact h2, by exact e1, by exact e1, h5⟩) (by decide) ?_ ?_ ⟨Grow.refl hw, by exact n1, by exact e1, by exact e1, rfl⟩ (by exact e1) (by exact e1)
 ·rintro j a hp hj ⟨hg, hd, h0, h5, hr⟩ hi hN
  have hc : l[j]? = some l[j] := List.getElem?_eq_getElem hj
  obtain ⟨b, o, ver, ro, e, vs, hix, hget', hvo⟩ := hv.at hc
  have hget := hg.keep _ _ hget'
  clear hget'
  repeat with_reducible first | refine zAA ?_ | refine zAC ?_ | refine zAE ?_ | refine zAD ?_ | refine zAP ?_ | (apply st_q; exact q1)
  refine st_e (zFy (by exact e1) (by exact s1) ((hf _ hg _ (List.getElem_mem hj)).mono ?_))
  rintro _ hp' ⟨rfl, hg'⟩
  have ht : (l.take (j + 1)).any p = (p l[j]) := by
   rw [List.take_succ_eq_append_getElem hj, List.any_append, hr]; simp
  cases hpj : p l[j]
  ·rw [hpj] at ht
   repeat with_reducible first | refine zAA ?_ | refine zAQ ?_ | refine zAC ?_ | refine zAT ?_ | (apply zAL; exact e1)
   exact ⟨⟨hg.trans hg', by exact n1, by exact e1, by exact e1, ht⟩, by exact e1, by exact e1⟩
  ·clear ht
   repeat' with_reducible first | refine zAA ?_ | refine zAa ?_ | refine zBP ?_ | refine zAC ?_ | refine zAE ?_ | refine zAD ?_ | refine zAO ?_ | (apply st_q; exact q1) | (apply zAJ; exact e1) | (apply zAI; exact n1; exact r1)
   refine ⟨⟨_, rfl, ?_⟩, hg.trans hg'⟩
   rw [show l.any p = true from List.any_eq_true.2 ⟨_, List.getElem_mem hj, hpj⟩]
   simp
 ·rintro a hp ⟨hg, hd, h0, h5, hr⟩
  rw [List.take_length] at hr
  repeat' with_reducible first | refine zAA ?_ | refine zAC ?_ | refine zAE ?_ | refine zAD ?_ | refine zAO ?_ | (apply st_q; exact q1) | (apply zAI; exact n1; exact r1)
  exact ⟨⟨_, rfl, by rw [hr]; rfl⟩, hg⟩

theorem CFint_ok (l : List Int) (hn : l.length < 2 ^ 60) (p : Int -> Bool) (v fv : AVal) (h : AHeap) (hw : WF h) (hv : IntsAt h v l) (hf : ∀ h', Grow h h' -> ∀ x ∈ l, Cv fns summ fv [.int .i64 x] h' fun r h'' => r = .bool (p x) /\ Grow h' h'') :
  Cl fns summ 65 [v, fv] h fun r h' => r = .bool (l.any p) /\ Grow h h' := by
 refine H.go (fn := F_CFint) rfl (by decide) rfl rfl ?_
 unfold F_CFint
 dsimp only [qQ, qE, qN, gQ, gE, vi, tm, mt, lo, fa]
 repeat with_reducible first | refine zAA ?_ | refine zAC ?_ | refine zAE ?_ | refine zAD ?_ | (apply st_q; exact q1)
 refine zAb (by exact s1) ((IFint_ok H l hn p v fv h hw hv hf).mono ?_)
 rintro _ _ ⟨⟨k, rfl, hk⟩, hg⟩
 repeat' with_reducible first | refine zAA ?_ | refine zAC ?_ | refine zAO ?_ | (apply st_q; exact q1) | (apply zAI; exact n1; exact r1)
 exact ⟨rfl, hg⟩
end
end Go.Ab.S
end
section
namespace Go.Ab.S
open Go.Ab
set_option maxHeartbeats 4000000
structure NodeSm (n : Node) : Prop where
 args : n.args.length < 2 ^ 60
 labels : n.labels.length < 2 ^ 60
 texts : ∀ s ∈ n.labels, s.length < 2 ^ 60
structure GraphSm (g : Graph) : Prop where
 nodes : g.nodes.length < 2 ^ 60
 all : ∀ n ∈ g.nodes, NodeSm n
def mayF (n : Node) (size : Int) : Bool :=
 if n.args.any (fun a => decide (a < 0) || decide (a >= size)) then false
 else if n.kind == 1 then ((n.labels.length == 0 && !n.isOpen) && eqL n.name []) && n.args.length == 0
 else if n.kind == 2 then ((n.labels.length == 0 && !n.isOpen) && arIs n.name) && n.args.length == arK n.name
 else if n.kind == 3 then (eqL n.name [] && n.labels.length == n.args.length) && zEm n.labels
 else false
def zEj (n : Node) (av lv : AVal) : AVal := .agg [.int .i64 n.kind, .str n.name, av, lv, .bool n.isOpen]
section
variable {fns : FnsT} {summ : SumT}
variable (H : Has fns summ)
include H
theorem may_ok (n : Node) (hn : NodeSm n) (size : Int) (r ver c : Nat) (av lv : AVal) (h : AHeap) (hw : WF h) (ha : IntsAt h av n.args) (hl : StrsAt h lv n.labels) (hr : h.objs.get r = some (ver, .map arEs c)) :
  Cl fns summ 45 [zEj n av lv, .int .i64 size, .map (some r)] h fun v h' => v = .bool (mayF n size) /\ Grow h h' := by
 unfold zEj
 refine H.go (fn := F_may) rfl (by decide) rfl rfl ?_
 unfold F_may
 dsimp only [qQ, qE, qN, gQ, gE, vi, tm, mt, lo, fa]
 repeat with_reducible first | refine zAE ?_ | refine zAD ?_
 refine zBL (by exact e1) (by exact cc) hw ?_
 rintro b3 h1 hb3 g1 o3
 refine zBL (by exact e1) (by exact cc) g1.wf ?_
 rintro b4 h2 hb4 g2 o4
 replace o3 := g2.keep _ _ o3
 repeat with_reducible first | refine zAA ?_ | refine zAC ?_ | refine zAE ?_ | refine zAD ?_ | (apply st_q; exact q1)
 have g02 := g1.trans g2
 refine zAb (by exact s1) ((CFint_ok H n.args hn.args (fun a => decide (a < 0) || decide (a >= size)) av _ h2 g2.wf (ha.mono g02) ?_).mono ?_)
 ·intro h' g' x _
  refine zGm ((may1_ok H x size b4 b4 false _ h' (g'.keep _ _ o4)).mono ?_)
  rintro _ _ ⟨rfl, rfl⟩
  exact ⟨rfl, Grow.refl g'.wf⟩
 rintro _ h3 ⟨rfl, g3⟩
 replace o3 := g3.keep _ _ o3
 have g03 := g02.trans g3
 have hr3 := look_ar (g03.keep _ _ hr)
 have hlen1 := ha.len
 have hlen2 := hl.len
 clear o4 g1 g2 g3 g02 ha hr hb3 hb4
 cases hany : n.args.any fun a => decide (a < 0) || decide (a >= size)
 ·have hz1 : ((Int.ofNat n.labels.length : Int) == 0) = (n.labels.length == 0) := by cases n.labels.length <;> rfl
  have hz2 : ((Int.ofNat n.args.length : Int) == 0) = (n.args.length == 0) := by cases n.args.length <;> rfl
  have hz3 : ((Int.ofNat n.args.length : Int) == ((arK n.name : Nat) : Int)) = (n.args.length == arK n.name) := by rw [Bool.eq_iff_iff]; simp; omega
  have hz4 : ((Int.ofNat n.labels.length : Int) == Int.ofNat n.args.length) = (n.labels.length == n.args.length) := by rw [Bool.eq_iff_iff]; simp; omega
  have hm : mayF n size = if n.kind == 1 then ((n.labels.length == 0 && !n.isOpen) && eqL n.name []) && n.args.length == 0
   else if n.kind == 2 then ((n.labels.length == 0 && !n.isOpen) && arIs n.name) && n.args.length == arK n.name
   else if n.kind == 3 then (eqL n.name [] && n.labels.length == n.args.length) && zEm n.labels
   else false := by simp only [mayF, hany]; rfl
  cases k1 : n.kind == 1
  ·cases k2 : n.kind == 2
   ·cases k3 : n.kind == 3
    ·have hm' : mayF n size = false := by rw [hm, k1, k2, k3]; rfl
     clear hm
     repeat' with_reducible first | refine zAA ?_ | refine zAQ ?_ | refine zAC ?_ | refine zAE ?_ | refine zAD ?_ | refine zAP ?_ | refine zAT ?_ | refine zAO ?_ | (apply st_q; exact q1) | (apply zIO; exact e1; exact e2) | (apply zGE; exact e1; exact g1; exact q2) | (apply zAL; exact e1) | (apply zAI; exact n1; exact r1)
     exact ⟨by rw [hm'], g03⟩
    ·have hm' : mayF n size = ((eqL n.name [] && n.labels.length == n.args.length) && zEm n.labels) := by rw [hm, k1, k2, k3]; rfl
     clear hm
     cases hc : (eqL n.name [] && n.labels.length == n.args.length)
     ·rw [hc, Bool.false_and] at hm'
      repeat' with_reducible first | refine zAA ?_ | refine zAa ?_ | refine zBP ?_ | refine zAC ?_ | refine zAE ?_ | refine zAD ?_ | refine zAP ?_ | refine zAT ?_ | refine zAO ?_ | (apply st_q; exact q1) | (apply zIO; exact e1; exact e2) | (apply zDV; exact e1) | (apply zFN; exact e1) | (apply zGE; exact e1; exact g1; exact q2) | (apply zAJ; exact e1) | (apply zAL; exact e1) | (apply zAI; exact n1; exact r1)
      exact ⟨by rw [hm'], g03⟩
     ·rw [hc, Bool.true_and] at hm'
      repeat with_reducible first | refine zAA ?_ | refine zAC ?_ | refine zAE ?_ | refine zAD ?_ | refine zAP ?_ | refine zAT ?_ | (apply st_q; exact q1) | (apply zIO; exact e1; exact e2) | (apply zBW; exact e1; exact q1) | (apply zGE; exact e1; exact g1; exact q2) | (apply zAJ; exact e1) | (apply zAL; exact e1)
      refine zBi (by exact e1) (by exact s1) ((zMj H n.labels hn.texts hn.labels lv h3 (hl.mono g03)).mono ?_)
      rintro _ _ ⟨rfl, rfl⟩
      repeat' with_reducible first | refine zAA ?_ | refine zAa ?_ | refine zBP ?_ | refine zAC ?_ | refine zAO ?_ | (apply st_q; exact q1) | (apply zAI; exact n1; exact r1)
      exact ⟨by rw [hm'], g03⟩
   ·have hm' : mayF n size = (((n.labels.length == 0 && !n.isOpen) && arIs n.name) && n.args.length == arK n.name) := by rw [hm, k1, k2]; rfl
    clear hm
    repeat' with_reducible first | refine zAA ?_ | refine zAa ?_ | refine zBP ?_ | refine zAC ?_ | refine zAE ?_ | refine zAD ?_ | refine zAP ?_ | refine zAT ?_ | refine zAO ?_ | (apply st_q; exact q1) | (apply zIO; exact e1; exact e2) | (apply zGE; exact e1; exact g1; exact q2) | (apply zAJ; exact e1) | (apply zAL; exact e1) | (apply zAI; exact n1; exact r1)
    exact ⟨by rw [hm'], g03⟩
  ·have hm' : mayF n size = (((n.labels.length == 0 && !n.isOpen) && eqL n.name []) && n.args.length == 0) := by rw [hm, k1]; rfl
   clear hm
   repeat' with_reducible first | refine zAA ?_ | refine zAa ?_ | refine zBP ?_ | refine zAC ?_ | refine zAE ?_ | refine zAD ?_ | refine zAP ?_ | refine zAT ?_ | refine zAO ?_ | (apply st_q; exact q1) | (apply zIO; exact e1; exact e2) | (apply zGE; exact e1; exact g1; exact q2) | (apply zAJ; exact e1) | (apply zAL; exact e1) | (apply zAI; exact n1; exact r1)
   exact ⟨by rw [hm'], g03⟩
 ·repeat' with_reducible first | refine zAA ?_ | refine zAa ?_ | refine zAC ?_ | refine zAE ?_ | refine zAD ?_ | refine zAO ?_ | (apply st_q; exact q1) | (apply zAJ; exact e1) | (apply zAI; exact n1; exact r1)
  exact ⟨by simp only [mayF, hany]; rfl, g03⟩
end
end Go.Ab.S
end
section
namespace Go.Ab.S
open Go.Ab
set_option maxHeartbeats 4000000
theorem zAR {v : AVal} {n : Nat} (h : lenO v = some n) : one v = true := by
 cases v <;> first | rfl | cases h
theorem zCP {n : Node} {av lv : AVal} {i j : Nat} (ha : lenO av = some i) (hl : lenO lv = some j) : ([.int .i64 n.kind, .str n.name, av, lv, .bool n.isOpen] : List AVal).all one = true := by
 simp only [List.all_cons, List.all_nil, zAR ha, zAR hl]; rfl
def zAF (g : Graph) : Int :=
 if (Int.ofNat g.nodes.length : Int) > 1048576 then 3
 else if g.root < 0 then 2 else if g.root >= Int.ofNat g.nodes.length then 2
 else if g.nodes.any (fun n => !mayF n g.nodes.length) then 2 else 0
section
variable {fns : FnsT} {summ : SumT}
variable (H : Has fns summ)
include H
theorem IFnode_ok (l : List Node) (hn : l.length < 2 ^ 60) (p : Node -> Bool) (v fv : AVal) (h : AHeap) (hw : WF h) (hv : NodesAt h v l) (hf : ∀ h', Grow h h' -> ∀ x ∈ l, ∀ av lv, IntsAt h av x.args -> StrsAt h lv x.labels -> Cv fns summ fv [zEj x av lv] h' fun r h'' => r = .bool (p x) /\ Grow h' h'') :
  Cl fns summ 68 [v, fv] h fun r h' => (∃ k : Int, r = .int .i64 k /\ decide (k >= 0) = l.any p) /\ Grow h h' := by
 refine H.go (fn := F_IFnode) rfl (by decide) rfl rfl ?_
 unfold F_IFnode
 dsimp only [qQ, qE, qN, gQ, gE, vi, tm, mt, lo, fa]
 have hlen := hv.len
 repeat with_reducible first | refine zAA ?_ | refine zAC ?_ | refine zAE ?_ | refine zAD ?_ | (apply st_q; exact q1)
 refine zAz (N := l.length) (by omega) (fun j a hp => Grow h hp /\ a.defers = [] /\ ev a (.tmp 0) = some v /\ ev a (.tmp 1) = some fv /\ ((l.take j).any p = false))
  (by rintro j a hp t w (rfl | rfl | rfl) ⟨h1, h2, h3, h4, h5⟩ <;> exact ⟨h1, by rw [zAc]; exact h2, by exact e1, by exact e1, h5⟩) (by decide) ?_ ?_ ⟨Grow.refl hw, by exact n1, by exact e1, by exact e1, rfl⟩ (by exact e1) (by exact e1)
 ·rintro j a hp hj ⟨hg, hd, h0, h5, hr⟩ hi hN
  have hc : l[j]? = some l[j] := List.getElem?_eq_getElem hj
  obtain ⟨b, o, ver, ro, e, vs, av, lv, hix, hget', hvl, hvo, _, _, _, _, _, ha, hl⟩ := hv.at hc
  have hget := hg.keep _ _ hget'
  have hpart : zBC (some 5) vs o = some (zEj l[j] av lv) := by rw [zBC, if_pos hvl, hvo]; rfl
  clear hget'
  repeat with_reducible first | refine zAA ?_ | refine zAC ?_ | refine zAE ?_ | refine zAD ?_ | refine zAP ?_ | (apply st_q; exact q1)
  refine st_e (zFy (by exact e1) (by exact s1) ((hf _ hg _ (List.getElem_mem hj) av lv ha hl).mono ?_))
  rintro _ hp' ⟨rfl, hg'⟩
  have ht : (l.take (j + 1)).any p = (p l[j]) := by
   rw [List.take_succ_eq_append_getElem hj, List.any_append, hr]; simp
  cases hpj : p l[j]
  ·rw [hpj] at ht
   repeat with_reducible first | refine zAA ?_ | refine zAQ ?_ | refine zAC ?_ | refine zAT ?_ | (apply zAL; exact e1)
   exact ⟨⟨hg.trans hg', by exact n1, by exact e1, by exact e1, ht⟩, by exact e1, by exact e1⟩
  ·clear ht
   repeat' with_reducible first | refine zAA ?_ | refine zAa ?_ | refine zBP ?_ | refine zAC ?_ | refine zAE ?_ | refine zAD ?_ | refine zAO ?_ | (apply st_q; exact q1) | (apply zAJ; exact e1) | (apply zAI; exact n1; exact r1)
   refine ⟨⟨_, rfl, ?_⟩, hg.trans hg'⟩
   rw [show l.any p = true from List.any_eq_true.2 ⟨_, List.getElem_mem hj, hpj⟩]
   simp
 ·rintro a hp ⟨hg, hd, h0, h5, hr⟩
  rw [List.take_length] at hr
  repeat' with_reducible first | refine zAA ?_ | refine zAC ?_ | refine zAE ?_ | refine zAD ?_ | refine zAO ?_ | (apply st_q; exact q1) | (apply zAI; exact n1; exact r1)
  exact ⟨⟨_, rfl, by rw [hr]; rfl⟩, hg⟩
theorem CFnode_ok (l : List Node) (hn : l.length < 2 ^ 60) (p : Node -> Bool) (v fv : AVal) (h : AHeap) (hw : WF h) (hv : NodesAt h v l) (hf : ∀ h', Grow h h' -> ∀ x ∈ l, ∀ av lv, IntsAt h av x.args -> StrsAt h lv x.labels -> Cv fns summ fv [zEj x av lv] h' fun r h'' => r = .bool (p x) /\ Grow h' h'') :
  Cl fns summ 46 [v, fv] h fun r h' => r = .bool (l.any p) /\ Grow h h' := by
 refine H.go (fn := F_CFnode) rfl (by decide) rfl rfl ?_
 unfold F_CFnode
 dsimp only [qQ, qE, qN, gQ, gE, vi, tm, mt, lo, fa]
 repeat with_reducible first | refine zAA ?_ | refine zAC ?_ | refine zAE ?_ | refine zAD ?_ | (apply st_q; exact q1)
 refine zAb (by exact s1) ((IFnode_ok H l hn p v fv h hw hv hf).mono ?_)
 rintro _ _ ⟨⟨k, rfl, hk⟩, hg⟩
 repeat' with_reducible first | refine zAA ?_ | refine zAC ?_ | refine zAO ?_ | (apply st_q; exact q1) | (apply zAI; exact n1; exact r1)
 exact ⟨rfl, hg⟩

theorem Check1_ok (n : Node) (hn : NodeSm n) (nv : AVal) (root : Int) (N : Nat) (hN : lenO nv = some N) (b1 b3 r ver1 ver3 verr c : Nat) (ro1 ro3 : Bool) (e1' e3' : TypeId) (av lv : AVal) (h : AHeap) (hw : WF h) (ha : IntsAt h av n.args) (hl : StrsAt h lv n.labels)
  (hb1 : h.objs.get b1 = some (ver1, .cells ro1 e1' [nv, .int .i64 root])) (hb3 : h.objs.get b3 = some (ver3, .cells ro3 e3' [.map (some r)])) (hr : h.objs.get r = some (verr, .map arEs c)) :
  Cl fns summ 44 [zEj n av lv, .ptr (some (b1, 0)), .ptr (some (b3, 0))] h fun v h' => v = .bool (!mayF n N) /\ Grow h h' := by
 unfold zEj
 refine H.go (fn := F_Check1) rfl (by decide) rfl rfl ?_
 unfold F_Check1
 dsimp only [qQ, qE, qN, gQ, gE, vi, tm, mt, lo, fa]
 refine zAE (zAD ?_)
 refine zBL (by exact e1) (by exact cc) hw ?_
 rintro b h1 hb g1 o1
 replace hb1 := g1.keep _ _ hb1
 replace hb3 := g1.keep _ _ hb3
 replace hr := g1.keep _ _ hr
 have hp5 : zBC (some 5) (zAi (.agg [.int .i64 n.kind, .str n.name, av, lv, .bool n.isOpen])) 0 = some (zEj n av lv) := rfl
 repeat with_reducible first | refine zAA ?_ | refine zAC ?_ | refine zAE ?_ | refine zAD ?_ | (apply st_q; exact q1)
 refine zAb (by exact s1) ((may_ok H n hn N r verr c av lv h1 g1.wf (ha.mono g1) (hl.mono g1) hr).mono ?_)
 rintro _ h2 ⟨rfl, g2⟩
 repeat' with_reducible first | refine zAA ?_ | refine zAC ?_ | refine zAO ?_ | (apply st_q; exact q1) | (apply zAI; exact n1; exact r1)
 exact ⟨rfl, g1.trans g2⟩

theorem Check_ok (g : Graph) (hg : GraphSm g) (v : AVal) (h : AHeap) (hw : WF h) (hv : GraphAt h v g) : Cl fns summ 19 [v] h fun r h' => r = .int .i64 (zAF g) /\ Grow h h' := by
 obtain ⟨nv, rfl, hN⟩ := hv
 have hlen := hN.len
 refine H.go (fn := F_Check) rfl (by decide) rfl rfl ?_
 unfold F_Check
 dsimp only [qQ, qE, qN, gQ, gE, vi, tm, mt, lo, fa]
 refine zAE (zAD ?_)
 refine zBL (by exact e1) (by exact cc) hw ?_
 rintro b1 h1 hb1 g1 o1
 cases c8 : decide ((Int.ofNat g.nodes.length : Int) > 1048576)
 ·repeat with_reducible first | refine zAA ?_ | refine zAC ?_ | refine zAE ?_ | refine zAD ?_ | refine zAT ?_ | (apply st_q; exact q1) | (apply zAL; exact e1)
  refine zAb (by exact s1) ((arity_ok H h1 g1.wf).mono ?_)
  rintro _ h2 ⟨r, vr, rfl, or, g2⟩
  replace o1 := g2.keep _ _ o1
  have l1 := g2.wf.lt o1
  have lr := g2.wf.lt or
  refine zAY g2.wf ?_
  rintro b3 h3 hb3 g3 o3
  refine zAG (by exact e1) (by exact e1) (by exact cc) rfl g3.wf o3 (by simp) rfl ?_
  rintro v4 h4 p4 o4
  simp only [zlY, zlA, zlC, zlN, zlD, zlZ, zlE, Nat.zero_add, Nat.reduceAdd, zlX, zlK] at o4
  have gb : Grow h2 h4 := p4.grow h2 g2.wf g3 hb3
  replace o1 := gb.keep _ _ o1
  replace or := gb.keep _ _ or
  have g4 : Grow h h4 := (g1.trans g2).trans gb
  clear g1 g2 g3 gb p4 l1 lr hb3 hb1 o3
  repeat with_reducible first | refine zAA ?_ | refine zAC ?_ | refine zAE ?_ | refine zAD ?_ | (apply st_q; exact q1) | (apply st_pO; exact e1; exact e2) | (apply zGE; exact e1; exact g1; exact q2)
  cases c1 : decide (g.root < 0)
  ·cases c2 : decide (g.root >= Int.ofNat g.nodes.length)
   ·skip
    refine zBi (by exact e1) (by exact s1) ((CFnode_ok H g.nodes hg.nodes (fun n => !mayF n g.nodes.length) nv _ h4 g4.wf (hN.mono g4) ?_).mono ?_)
    ·intro h' g' x hx av lv ha hl
     exact zGm (Check1_ok H x (hg.all x hx) nv g.root g.nodes.length hlen b1 b3 r _ _ _ _ _ _ _ _ av lv h' g'.wf (ha.mono g') (hl.mono g') (g'.keep _ _ o1) (g'.keep _ _ o4) (g'.keep _ _ or))
    rintro _ h5 ⟨rfl, g5⟩
    cases c3 : g.nodes.any (fun n => !mayF n g.nodes.length)
    ·repeat' with_reducible first | refine zAA ?_ | refine zAC ?_ | refine zAE ?_ | refine zAD ?_ | refine zAT ?_ | refine zAO ?_ | (apply st_q; exact q1) | (apply zAL; exact e1) | (apply zAI; exact n1; exact r1)
     refine ⟨?_, g4.trans g5⟩
     unfold zAF
     rw [if_neg (of_decide_eq_false c8), if_neg (of_decide_eq_false c1), if_neg (of_decide_eq_false c2), if_neg (by rw [c3]; simp)]
    ·repeat' with_reducible first | refine zAA ?_ | refine zAa ?_ | refine zAC ?_ | refine zAE ?_ | refine zAD ?_ | refine zAO ?_ | (apply st_q; exact q1) | (apply zAJ; exact e1) | (apply zAI; exact n1; exact r1)
     refine ⟨?_, g4.trans g5⟩
     unfold zAF
     rw [if_neg (of_decide_eq_false c8), if_neg (of_decide_eq_false c1), if_neg (of_decide_eq_false c2), if_pos c3]
   ·repeat' with_reducible first | refine zAA ?_ | refine zAa ?_ | refine zAC ?_ | refine zAE ?_ | refine zAD ?_ | refine zAO ?_ | (apply st_q; exact q1) | (apply zFN; exact e1) | (apply zAJ; exact e1) | (apply zAI; exact n1; exact r1)
    refine ⟨?_, g4⟩
    unfold zAF
    rw [if_neg (of_decide_eq_false c8), if_neg (of_decide_eq_false c1), if_pos (of_decide_eq_true c2)]
  ·repeat' with_reducible first | refine zAA ?_ | refine zAa ?_ | refine zAC ?_ | refine zAE ?_ | refine zAD ?_ | refine zAO ?_ | (apply st_q; exact q1) | (apply zFN; exact e1) | (apply zAJ; exact e1) | (apply zAI; exact n1; exact r1)
   refine ⟨?_, g4⟩
   unfold zAF
   rw [if_neg (of_decide_eq_false c8), if_pos (of_decide_eq_true c1)]
 ·repeat' with_reducible first | refine zAA ?_ | refine zAa ?_ | refine zAC ?_ | refine zAE ?_ | refine zAD ?_ | refine zAO ?_ | (apply st_q; exact q1) | (apply zAJ; exact e1) | (apply zAI; exact n1; exact r1)
  refine ⟨?_, g1⟩
  unfold zAF
  rw [if_pos (of_decide_eq_true c8)]
end
end Go.Ab.S
end
section
namespace Go.Ab.S
open Go.Ab
set_option maxHeartbeats 4000000
def bigT (s : List Nat) : Nat := if s.length > 1000 then 1000 else 0
def sumL {α : Type} (f : α -> Nat) : List α -> Nat
 | [] => 0
 | x :: r => f x + sumL f r
theorem zIT {α : Type} (f : α -> Nat) : ∀ (l : List α) (j : Nat) (hj : j < l.length), sumL f (l.take (j + 1)) = sumL f (l.take j) + f l[j]
 | [], j, h => by simp at h
 | x :: r, 0, _ => by simp [sumL]
 | x :: r, j + 1, h => by
  simp only [zlT, sumL, List.getElem_cons_succ]
  rw [zIT f r j (by simpa using h)]; omega
theorem zLe {α : Type} (f : α -> Nat) : ∀ (l : List α) (j : Nat), sumL f (l.take j) <= sumL f l
 | [], j => by simp
 | x :: r, 0 => by simp [sumL]
 | x :: r, j + 1 => by simp only [zlT, sumL]; have := zLe f r j; omega
def zBr (n : Node) : Nat := n.args.length + n.labels.length + bigT n.name + sumL bigT n.labels
def zDO (g : Graph) : Nat := g.nodes.length + sumL zBr g.nodes
section
variable {fns : FnsT} {summ : SumT}
variable (H : Has fns summ)
include H
theorem Great_ok (g : Graph) (hg : zDO g < 2 ^ 60) (v : AVal) (h : AHeap) (hw : WF h) (hv : GraphAt h v g) : Cl fns summ 11 [v] h fun r h' => r = .int .i64 (zDO g : Nat) /\ Grow h h' := by
 obtain ⟨nv, rfl, hN⟩ := hv
 have hlen := hN.len
 have hgn : g.nodes.length + sumL zBr g.nodes < 2 ^ 60 := hg
 refine H.go (fn := F_Great) rfl (by decide) rfl rfl ?_
 unfold F_Great
 dsimp only [qQ, qE, qN, gQ, gE, vi, tm, mt, lo, fa]
 refine zAE (zAD ?_)
 refine zBL (by exact e1) (by exact cc) hw ?_
 rintro b1 h1 hb1 g1 o1
 repeat with_reducible first | refine zAA ?_ | refine zAC ?_ | refine zAE ?_ | refine zAD ?_ | (apply st_q; exact q1)
 refine zAz (N := g.nodes.length) (by omega) (fun j a hp => Grow h hp /\ a.defers = [] /\ ev a (.tmp 12) = some nv /\ ev a (.tmp 3) = some (.int .i64 ((g.nodes.length + sumL zBr (g.nodes.take j) : Nat) : Int)))
  (by rintro j a hp t w (rfl | rfl | rfl) ⟨h1, h2, h3, h4⟩ <;> exact ⟨h1, by rw [zAc]; exact h2, by exact e1, by exact e1⟩) (by decide) ?_ ?_ ⟨g1, by exact n1, by exact e1, by exact e1⟩ (by exact e1) (by exact e1)
 ·clear g1 o1 hb1
  rintro j a hp hj ⟨hgr, hd, h12, h3⟩ hi hn
  have hc : g.nodes[j]? = some g.nodes[j] := List.getElem?_eq_getElem hj
  obtain ⟨b, o, ver, ro, e, vs, av, lv, hix, hget', hvl, hvo, _, _, _, _, _, ha, hl⟩ := hN.at hc
  have hget := hgr.keep _ _ hget'
  have hpart : zBC (some 5) vs o = some (zEj g.nodes[j] av lv) := by rw [zBC, if_pos hvl, hvo]; rfl
  have hst := zIT zBr g.nodes j hj
  have hle := zLe zBr g.nodes (j + 1)
  clear hget'
  refine zAP (zAE (zAD ?_))
  repeat with_reducible (apply st_q; exact q1)
  refine zAY hgr.wf ?_
  rintro b5 h5 hb5 g5 o5
  refine zAG (by exact e1) (by exact e1) (cs := [.int .i64 g.nodes[j].kind, .str g.nodes[j].name, av, lv, .bool g.nodes[j].isOpen]) rfl rfl g5.wf o5 (by simp) (zCP ha.len hl.len) ?_
  rintro v6 h6 p6 o6
  simp only [zlY, zlA, zlC, zlN, zlD, zlZ, zlE, Nat.zero_add, Nat.reduceAdd, zlX, zlK] at o6
  have g6 : Grow hp h6 := p6.grow hp hgr.wf g5 hb5
  replace hgr := hgr.trans g6
  have hla := ha.len
  have hll := hl.len
  clear o5 g5 p6 hb5
  have hw1 : IntKind.i64.wrap (Int.ofNat g.nodes[j].args.length + Int.ofNat g.nodes[j].labels.length) = ((g.nodes[j].args.length + g.nodes[j].labels.length : Nat) : Int) := by
   simp only [zBr] at hst
   rw [zAq (by simp; omega) (by simp; omega)]; simp
  have hw2 : IntKind.i64.wrap (((g.nodes.length + sumL zBr (g.nodes.take j) : Nat) : Int) + ((g.nodes[j].args.length + g.nodes[j].labels.length : Nat) : Int)) = ((g.nodes.length + sumL zBr (g.nodes.take j) + (g.nodes[j].args.length + g.nodes[j].labels.length) : Nat) : Int) := by
   simp only [zBr] at hst
   rw [zAq (by omega) (by omega)]; omega
  have hX : g.nodes.length + sumL zBr (g.nodes.take j) + (g.nodes[j].args.length + g.nodes[j].labels.length) + bigT g.nodes[j].name + sumL bigT g.nodes[j].labels = g.nodes.length + sumL zBr (g.nodes.take (j + 1)) := by
   rw [hst]; simp only [zBr]; omega
  have hXs : g.nodes.length + sumL zBr (g.nodes.take (j + 1)) < 2 ^ 60 := by omega
  generalize g.nodes.length + sumL zBr (g.nodes.take j) + (g.nodes[j].args.length + g.nodes[j].labels.length) = X at hw2 hX
  refine zAC (zAA ?_)
  refine zAE (zAD ?_)
  repeat with_reducible first | refine zAA ?_ | refine zAC ?_ | (apply st_q; exact q1)
  refine cd_cut (fun a' h' => h' = h6 /\ a'.defers = [] /\ ev a' (.tmp 12) = some nv /\ ev a' (.tmp 14) = some (.int .i64 (j : Nat)) /\ ev a' (.tmp 13) = some (.int .i64 (g.nodes.length : Nat)) /\ ev a' (.tmp 5) = some (.ptr (some (b5, 0))) /\ ev a' (.tmp 3) = some (.int .i64 ((X + bigT g.nodes[j].name : Nat) : Int))) ?_ ?_
  ·cases cn : decide ((Int.ofNat g.nodes[j].name.length : Int) > 1000)
   ·have hb : bigT g.nodes[j].name = 0 := by
     have := of_decide_eq_false cn
     simp only [bigT]; rw [if_neg]; simp at this; omega
    rw [hb]
    repeat with_reducible first | refine zAA ?_ | refine zAC ?_ | refine zAE ?_ | refine zAD ?_ | refine zAT ?_ | (apply st_q; exact q1) | (apply zAL; exact e1)
    exact ⟨rfl, by exact n1, by exact e1, by exact e1, by exact e1, by exact e1, by exact e1⟩
   ·have hb : bigT g.nodes[j].name = 1000 := by
     have := of_decide_eq_true cn
     simp only [bigT]; rw [if_pos]; simp at this; omega
    rw [hb] at hX ⊢
    have hw3 : IntKind.i64.wrap ((X : Int) + 1000) = ((X + 1000 : Nat) : Int) := by rw [zAq (by omega) (by omega)]; omega
    repeat with_reducible first | refine zAA ?_ | refine zAC ?_ | refine zAE ?_ | refine zAD ?_ | (apply st_q; exact q1) | (apply zAJ; exact e1)
    exact ⟨rfl, by exact n1, by exact e1, by exact e1, by exact e1, by exact e1, by exact e1⟩
  ·clear hw1 hw2 hi hn h12 h3 hd
   rintro a h ⟨rfl, hd, h12, hi, hn, h5, h3⟩
   generalize X + bigT g.nodes[j].name = Y at h3 hX
   refine zAE (zAD ?_)
   repeat with_reducible first | refine zAA ?_ | refine zAC ?_ | (apply st_q; exact q1)

   refine zAz (N := g.nodes[j].labels.length) (by simp only [zBr] at hst; omega) (fun i a hp => hp = h /\ a.defers = [] /\ ev a (.tmp 12) = some nv /\ ev a (.tmp 14) = some (.int .i64 (j : Nat)) /\ ev a (.tmp 13) = some (.int .i64 (g.nodes.length : Nat)) /\ ev a (.tmp 34) = some lv /\ ev a (.tmp 3) = some (.int .i64 ((Y + sumL bigT (g.nodes[j].labels.take i) : Nat) : Int)))
    (by rintro j a hp t w (rfl | rfl | rfl) ⟨h1, h2, h3, h4, h5, h6, h7⟩ <;> exact ⟨h1, by rw [zAc]; exact h2, by exact e1, by exact e1, by exact e1, by exact e1, by exact e1⟩) (by decide) ?_ ?_ ⟨rfl, by exact n1, by exact e1, by exact e1, by exact e1, by exact e1, by exact e1⟩ (by exact e1) (by exact e1)
   ·clear h3 h5 hd h12 hi hn
    rintro i a hp hil ⟨rfl, hd, h12, hi, hn, h34, h3⟩ h36 h35
    have hci : g.nodes[j].labels[i]? = some g.nodes[j].labels[i] := List.getElem?_eq_getElem hil
    obtain ⟨b', o', ver', ro', e', vs', hix', hget', hvo'⟩ := hl.at hci
    replace hget' := hgr.keep _ _ hget'
    have hs2 := zIT bigT g.nodes[j].labels i hil
    have hl2 := zLe bigT g.nodes[j].labels (i + 1)
    generalize hZ : Y + sumL bigT (g.nodes[j].labels.take i) = Z at h3
    cases cn : decide ((Int.ofNat g.nodes[j].labels[i].length : Int) > 1000)
    ·have hb : bigT g.nodes[j].labels[i] = 0 := by
      have := of_decide_eq_false cn
      simp only [bigT]; rw [if_neg]; simp at this; omega
     have he : ((Y + sumL bigT (g.nodes[j].labels.take (i + 1)) : Nat) : Int) = (Z : Int) := by rw [hs2, hb, <- hZ]; rfl
     repeat with_reducible first | refine zAA ?_ | refine zAQ ?_ | refine zAC ?_ | refine zAE ?_ | refine zAD ?_ | refine zAP ?_ | refine zAT ?_ | (apply st_q; exact q1) | (apply zAL; exact e1)
     exact ⟨⟨rfl, by exact n1, by exact e1, by exact e1, by exact e1, by exact e1, by rw [he]; exact e1⟩, by exact e1, by exact e1⟩
    ·have hb : bigT g.nodes[j].labels[i] = 1000 := by
      have := of_decide_eq_true cn
      simp only [bigT]; rw [if_pos]; simp at this; omega
     have he : ((Y + sumL bigT (g.nodes[j].labels.take (i + 1)) : Nat) : Int) = ((Z + 1000 : Nat) : Int) := by rw [hs2, hb, <- hZ]; omega
     have hw3 : IntKind.i64.wrap ((Z : Int) + 1000) = ((Z + 1000 : Nat) : Int) := by rw [zAq (by omega) (by omega)]; omega
     repeat with_reducible first | refine zAA ?_ | refine zAQ ?_ | refine zAC ?_ | refine zAE ?_ | refine zAD ?_ | refine zAP ?_ | (apply st_q; exact q1) | (apply zAJ; exact e1)
     exact ⟨⟨rfl, by exact n1, by exact e1, by exact e1, by exact e1, by exact e1, by rw [he]; exact e1⟩, by exact e1, by exact e1⟩
   ·rintro a hp ⟨rfl, hd, h12, hi, hn, h34, h3⟩
    rw [List.take_length] at h3
    rw [hX] at h3
    exact ⟨⟨hgr, hd, h12, h3⟩, hi, hn⟩
 ·rintro a hp ⟨hgr, hd, h12, h3⟩
  rw [List.take_length] at h3
  repeat' with_reducible first | refine zAA ?_ | refine zAC ?_ | refine zAE ?_ | refine zAD ?_ | refine zAO ?_ | (apply st_q; exact q1) | (apply zAI; exact n1; exact r1)
  exact ⟨rfl, hgr⟩
end
end Go.Ab.S
end
section
namespace Go.Ab.S
open Go.Ab
set_option maxHeartbeats 4000000
section
variable {fns : FnsT} {summ : SumT}

theorem lv_all {base : Nat} : ∀ (rs : List Nat) {h : AHeap} {K : AHeap -> Prop}, WF h -> rs.Nodup -> (∀ r ∈ rs, base <= r /\ ∃ ver, h.objs.get r = some (ver, .dfr false)) →
  (∀ h', WF h' -> h.next <= h'.next -> (∀ c, c ∉ rs -> h'.objs.get c = h.objs.get c) -> (∀ h0, WF h0 -> Grow h0 h -> h0.next <= base -> Grow h0 h') -> K h') -> Lv fns summ (rs.map ADef.collected) h K
 | [], h, K, w, _, _, k => zOC (k h w (Nat.le_refl _) (fun _ _ => rfl) (fun _ _ g _ => g))
 | r :: rs, h, K, w, hn, hr, k => by
  obtain ⟨hb, ver, hg⟩ := hr r (by simp)
  have hn' := List.nodup_cons.1 hn
  have p := zEY w hg (.dfr true)
  refine zKc hg (lv_all (base := base) rs (p.wf w) hn'.2 (fun r' h' => ?_) fun h' w' hl hs hg' => k h' w' (Nat.le_trans p.next hl) (fun c hc => ?_) fun h0 w0 g hb' => hg' h0 w0 (p.grow h0 w0 g (Nat.le_trans hb' hb)) hb')
  ·obtain ⟨h1, ver', h2⟩ := hr r' (by simp [h'])
   exact ⟨h1, ver', p.keep r' (fun e => hn'.1 (e ▸ h')) _ h2⟩
  ·simp only [List.mem_cons, not_or] at hc
   rw [hs c hc.2, zBN _ _ _ hc.1]

variable (H : Has fns summ)
include H
theorem Backward_ok (v : AVal) (h : AHeap) (hw : WF h) (hv1 : one v = true) : Cl fns summ 85 [v] h fun r h' => ∃ b ver, r = .func 115 [] [.ptr (some (b, 0))] /\ h.next <= b /\ h'.objs.get b = some (ver, .cells false 28 [v]) /\ Grow h h' := by
 refine H.go (fn := F_Backward) rfl (by decide) rfl rfl ?_
 unfold F_Backward
 dsimp only [qQ, qE, qN, gQ, gE, vi, tm, mt, lo, fa]
 refine zAE (zAD ?_)
 have hc : zAi v = [v] := by cases v <;> first | rfl | cases hv1
 refine zBL (by exact e1) hc hw ?_
 rintro b h1 hb g1 o1
 repeat' with_reducible first | refine zAA ?_ | refine zAC ?_ | refine zAE ?_ | refine zAD ?_ | refine zAO ?_ | (apply st_q; exact q1) | (apply zAI; exact n1; exact r1)
 exact ⟨b, _, rfl, hb, o1, g1⟩

theorem Backward1_ok (l : List Int) (hl : l.length < 2 ^ 60) (v y : AVal) (b : Nat) (I : Nat -> AHeap -> Prop) (hb : ∀ k h, I k h -> ∃ ver ro e, h.objs.get b = some (ver, .cells ro e [v]) /\ IntsAt h v l)
  (hy : ∀ k h, I k h -> ∀ (hk : k < l.length), Cv fns summ y [.int .i64 ((l.length - 1 - k : Nat) : Int), .int .i64 (l[l.length - 1 - k]'(by omega))] h fun r h' => r = .bool true /\ I (k + 1) h') (h : AHeap) (hI : I 0 h) :
  Cl fns summ 115 [y, .ptr (some (b, 0))] h fun _ h' => I l.length h' := by
 refine H.go (fn := F_Backward1) rfl (by decide) rfl rfl ?_
 unfold F_Backward1
 dsimp only [qQ, qE, qN, gQ, gE, vi, tm, mt, lo, fa]
 obtain ⟨ver, ro, e, o1, hv⟩ := hb 0 h hI
 have hlen := hv.len
 have hw0 : IntKind.i64.wrap (Int.ofNat l.length - 1) = (l.length : Int) - 1 := by
  show IntKind.i64.wrap ((l.length : Int) - 1) = _
  exact zAq (by omega) (by omega)
 repeat with_reducible first | refine zAA ?_ | refine zAC ?_ | refine zAE ?_ | refine zAD ?_ | (apply st_q; exact q1)
 refine zBy ?_
 refine zDM (fun m a hp => ∃ k, m = l.length + 1 - k /\ k <= l.length /\ I k hp /\ a.defers = [] /\ ev a (.tmp 0) = some y /\ ev a (.tmp 1) = some (.ptr (some (b, 0))) /\ ev a (.tmp 3) = some (.int .i64 ((l.length : Int) - 1 - (k : Nat)))) ?_ (n := l.length + 1) ⟨0, rfl, Nat.zero_le _, hI, by exact n1, by exact e1, by exact e1, by simpa using e1⟩
 clear hI o1 hv
 rintro m a hp ⟨k, hm, hk, hI, hd, h0, h1, h3⟩
 by_cases hlt : k < l.length
 ·have hge : decide ((l.length : Int) - 1 - (k : Nat) >= 0) = true := by simp; omega
  have hi : (l.length : Int) - 1 - (k : Nat) = ((l.length - 1 - k : Nat) : Int) := by omega
  rw [hi] at h3 hge
  obtain ⟨ver, ro, e, o1, hv⟩ := hb k hp hI
  have hj : l.length - 1 - k < l.length := by omega
  obtain ⟨b', o', ver', ro', e', vs', hix, hget, hvo⟩ := hv.at (List.getElem?_eq_getElem hj)
  have hw1 : IntKind.i64.wrap (((l.length - 1 - k : Nat) : Int) - 1) = (l.length : Int) - 1 - ((k + 1 : Nat) : Int) := by rw [zAq (by omega) (by omega)]; omega
  clear hi hv hlen hw0

  repeat with_reducible first | refine zAA ?_ | refine zAC ?_ | refine zAE ?_ | refine zAD ?_ | refine zAP ?_ | refine zAT ?_ | (apply st_q; exact q1) | (apply zAJ; exact e1)
  refine st_e (zFy (by exact e1) (by exact s1) ((hy k hp hI hlt).mono ?_))
  rintro _ h2 ⟨rfl, hI2⟩
  repeat with_reducible first | refine zAA ?_ | refine zAQ ?_ | refine zAC ?_ | refine zAD ?_ | refine zAT ?_ | (apply st_q; exact q1) | (apply zAL; exact e1)
  exact ⟨l.length + 1 - (k + 1), by omega, k + 1, rfl, by omega, hI2, by exact n1, by exact e1, by exact e1, by exact e1⟩
 ·have hge : decide ((l.length : Int) - 1 - (k : Nat) >= 0) = false := by simp; omega
  obtain rfl : k = l.length := by omega
  repeat with_reducible first | refine zAA ?_ | refine zBg ?_ | refine zBf ?_ | refine zAC ?_ | refine zAE ?_ | refine zAD ?_ | refine zCF ?_ | (apply st_q; exact q1) | (apply zAL; exact e1)
  refine zMh (by exact n1) (v := .tuple []) (by exact r1) hI
end
end Go.Ab.S
end
section
namespace Go.Ab.S
open Go.Ab
set_option maxHeartbeats 4000000
section
variable {fns : FnsT} {summ : SumT} {ro : Option Nat}
theorem zLU (z : AVal) : ∀ n, rep [z] n = List.replicate n z
 | 0 => rfl
 | n + 1 => by simp only [rep, zLU z n, List.replicate_succ]; rfl
theorem zNA {d : Option Tmp} {e : TypeId} {bytes n : Nat} {z : AVal} {x y : AOpd} {l : List Step} {a : AAct} {h : AHeap} {K : AAct -> AHeap -> Prop} (hx : ev a x = some (.int .i64 (Int.ofNat n))) (hy : ev a y = some (.int .i64 (Int.ofNat n))) (hn : n <= 2 ^ 30) (hr : zCv bytes n = true) (w : WF h)
  (k : ∀ b h', h.next <= b -> Grow h h' -> h'.objs.get b = some (b, .cells false e (List.replicate n z)) -> St fns summ ro l (putA a d (.slice (some (b, 0)) n)) h' K) : St fns summ ro (⟨d, none, .e (.mkslice e 1 bytes [z] x y)⟩ :: l) a h K := by
 refine st_t (by intro _ _ hh; cases hh) (by intro _ _ hh; cases hh) (v := .slice (some (h.next, 0)) n) (h' := newA h (.cells false e (List.replicate n z))) ?_ (k _ _ (Nat.le_refl _) ((Grow.refl w).new _) (zAV _ _))
 have h1 : zCU (.int .i64 (Int.ofNat n)) = some n := by simp [zCU]
 have h30 : (2 : Nat) ^ 30 <= 2 ^ 40 := by decide
 have hc : n <= n /\ n <= 2 ^ 40 /\ zCv bytes n = true := ⟨Nat.le_refl _, Nat.le_trans hn h30, hr⟩
 simp only [zBU, hx, hy, h1, if_pos hc, zLU]
theorem zAp {d : Option Tmp} {e : TypeId} {sz : Nat} {z cs : List AVal} {x : AOpd} {v : AVal} {l : List Step} {a : AAct} {h : AHeap} {K : AAct -> AHeap -> Prop} (hx : ev a x = some v) (hcs : zAi v = cs) (hl : cs.length = sz) (hz : z.length = sz) (w : WF h)
  (k : ∀ b h', h.next <= b -> Grow h h' -> h'.objs.get b = some (b, .cells false e cs) -> St fns summ ro l (putA a d (.slice (some (b, 0)) 1)) h' K) : St fns summ ro (⟨d, none, .e (.bslice e sz 1 z [(0, x)])⟩ :: l) a h K := by
 refine st_t (by intro _ _ hh; cases hh) (by intro _ _ hh; cases hh) (v := .slice (some (h.next, 0)) 1) (h' := newA h (.cells false e cs)) ?_ (k _ _ (Nat.le_refl _) ((Grow.refl w).new _) (zAV _ _))
 have hr : rep z 1 = z := by simp [rep]
 have hcc : cs.length = sz /\ 0 * sz + sz <= z.length := ⟨hl, by omega⟩
 have hd : z.drop (0 * sz + sz) = [] := List.drop_eq_nil_of_le (by omega)
 simp only [zBU, hr, rowA, hx, hcs, if_pos hcc, hd]
 simp
theorem zAy {d : Option Tmp} {e : TypeId} {sz base bytes n b ver : Nat} {cells new : List AVal} {rb : Bool} {eb : TypeId} {v : AVal} {x y : AOpd} {l : List Step} {a : AAct} {h : AHeap} {K : AAct -> AHeap -> Prop} (hs : ev a x = some v) (hx : ev a y = some (.slice (some (b, 0)) 1)) (B : Built h base e sz v n cells)
  (hb : h.objs.get b = some (ver, .cells rb eb new)) (hnl : new.length = sz) (ho : new.all one = true) (hr : zCv bytes (n + 1) = true) (w : WF h) (hbase : base <= h.next)
  (k : ∀ v' h', Built h' base e sz v' (n + 1) (cells ++ new) -> (∀ c j, v' = .slice (some (c, 0)) j -> h.next <= c) -> WF h' -> h.next <= h'.next -> (∀ h0, WF h0 -> Grow h0 h -> h0.next <= base -> Grow h0 h') -> (∀ c p, h.objs.get c = some p -> (∀ n, v ≠ .slice (some (c, 0)) n) -> h'.objs.get c = some p) -> St fns summ ro l (putA a d v') h' K) :
  St fns summ ro (⟨d, none, .e (.append e sz bytes x y)⟩ :: l) a h K :=
 zKv hs hx B (m := 1) rfl (by decide) (by simp only [zFQ, hb, Nat.one_mul, Nat.zero_add]; rw [if_pos (by omega), zlZ, List.take_of_length_le (by omega)]) ho hr (by omega) w hbase k
end

def zHY (ns : List Node) (i : Int) : List Int := match ns[i.toNat]? with | some n => n.args | none => []
def zBZ (ns : List Node) : Nat -> List Int -> List Int -> List Int
 | 0, _, out => out
 | _ + 1, [], out => out
 | m + 1, a :: st, out => if out.contains a then zBZ ns m st out else zBZ ns m (zHY ns a ++ st) (out ++ [a])
def zAk (out : List Int) : List Node -> Nat -> Nat
 | [], _ => 0
 | n :: r, i => (if out.contains (i : Int) then 0 else n.args.length) + zAk out r (i + 1)
def zAM (g : Graph) : List Int := if zAF g = 0 then zBZ g.nodes (1 + zAk [] g.nodes 0) [g.root] [] else []
theorem zHo (out : List Int) (a : Nat) : ∀ (ns : List Node) (i : Nat), (a < i -> zAk (out ++ [(a : Int)]) ns i = zAk out ns i) /\ (i <= a -> out.contains (a : Int) = false -> ∀ n, ns[a - i]? = some n -> zAk (out ++ [(a : Int)]) ns i + n.args.length = zAk out ns i)
 | [], i => ⟨fun _ => rfl, fun _ _ n h => by simp at h⟩
 | n :: r, i => by
  have ih := zHo out a r (i + 1)
  have hc : ∀ j : Nat, j ≠ a -> (out ++ [(a : Int)]).contains (j : Int) = out.contains (j : Int) := fun j hj => by
   have : ¬ (j : Int) = (a : Int) := by omega
   simp [this]
  refine ⟨fun h => ?_, fun h ho m hm => ?_⟩
  ·simp only [zAk, hc i (by omega), ih.1 (by omega)]
  ·by_cases hi : i = a
   ·subst hi
    simp only [Nat.sub_self, List.getElem?_cons_zero, oI] at hm
    subst hm
    have h1 : (out ++ [(i : Int)]).contains (i : Int) = true := by simp
    simp only [zAk, h1, ho, if_true, Bool.false_eq_true, if_false, ih.1 (by omega)]
    omega
   ·have h2 : r[a - (i + 1)]? = some m := by
     rw [show a - i = (a - (i + 1)) + 1 by omega, List.getElem?_cons_succ] at hm
     exact hm
    have := ih.2 (by omega) ho m h2
    simp only [zAk, hc i hi]
    omega
theorem zJf (out : List Int) : ∀ (ns : List Node) (i : Nat), zAk out ns i <= zAk [] ns i
 | [], _ => Nat.le_refl _
 | n :: r, i => by
  have := zJf out r (i + 1)
  simp only [zAk]
  split <;> simp <;> omega
def metC (n : Nat) (out : List Int) : List AVal := (List.range n).map fun (i : Nat) => AVal.bool (out.contains (i : Int))
theorem zGY {n : Nat} {out : List Int} {i : Nat} (h : i < n) : (metC n out)[i]? = some (.bool (out.contains (i : Int))) := by
 simp [metC, h]
theorem metC_nil (n : Nat) : List.replicate n (AVal.bool false) = metC n [] := by
 apply List.ext_getElem?
 intro i
 by_cases h : i < n
 ·rw [zGY h]; simp [h]
 ·simp [metC, h]
theorem metC_put {n : Nat} {out : List Int} {a : Nat} (h : a < n) : (metC n out).take a ++ [AVal.bool true] ++ (metC n out).drop (a + 1) = metC n (out ++ [(a : Int)]) := by
 apply List.ext_getElem?
 intro i
 by_cases hi : i < n
 ·rw [zGY hi]
  rcases Nat.lt_trichotomy i a with h1 | h1 | h1
  ·have : ¬ (i : Int) = (a : Int) := by omega
   rw [List.append_assoc, List.getElem?_append_left (by simp [metC]; omega), List.getElem?_take, if_pos h1, zGY hi]
   simp [this]
  ·subst h1
   rw [List.append_assoc, List.getElem?_append_right (by simp [metC]; omega)]
   simp [metC, Nat.min_eq_left (Nat.le_of_lt h)]
  ·have : ¬ (i : Int) = (a : Int) := by omega
   rw [List.getElem?_append_right (by simp [metC]; omega)]
   have hl : ((metC n out).take a ++ [AVal.bool true]).length = a + 1 := by simp [metC]; omega
   rw [hl, List.getElem?_drop, show a + 1 + (i - (a + 1)) = i by omega, zGY hi]
   simp [this]
 ·have h1 : ((metC n out).take a ++ [AVal.bool true] ++ (metC n out).drop (a + 1)).length = n := by simp [metC]; omega
  rw [List.getElem?_eq_none (by omega), List.getElem?_eq_none (by simp [metC]; omega)]
end Go.Ab.S
end
