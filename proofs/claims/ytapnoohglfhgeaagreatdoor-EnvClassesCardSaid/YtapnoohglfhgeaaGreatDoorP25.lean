import Derived.Test.YtapnoohglfhgeaaGreatDoorP07
import Derived.Test.YtapnoohglfhgeaaGreatDoorP08
import Derived.Test.YtapnoohglfhgeaaGreatDoorP19
import Derived.Test.YtapnoohglfhgeaaGreatDoorP21
import Derived.Test.YtapnoohglfhgeaaGreatDoorP22
import Derived.Test.YtapnoohglfhgeaaGreatDoorP24
import Derived.Shelf.Spec.SlicesGrow
import Derived.Shelf.Vars
import Derived.Lib.LaidTab
import Derived.Deep.Slices
import Derived.Deep.Strs
/-
  Part 25 of the proof.
-/
set_option linter.all false
section
/-
  Room for a row of texts that is to come.
-/
namespace Go.Ab
open Go Go.Proofs Go.Shelf Go.RowKit
section
variable {P : Program} {ρ : Ren} {N : Nat} {w0 : World}
theorem s_grow_none (L : Lays8.n4 P ρ) {h : AHeap} {G : GM} {argsV : Array Value} {w : World} {Q : AVal × AHeap → Prop} (hR : Rel P N w0 G h w) (hv : VsR P G [.slice none 0, .int .i64 0] argsV.toList)
    (hq : Q (.slice none 0, h)) : CallsIn (FR none) 0 P (ρ.f 4) argsV w (PostC P N w0 G h w Q) := by
  obtain ⟨x, y, rfl, h1, h2⟩ := args2 hv
  obtain rfl : x = .slice none 0 0 := (show (0 : Nat) = 0 ∧ x = .slice none 0 0 from h1).2
  obtain rfl : y = .int .i64 0 := h2
  exact post_same hR (v := .slice none 0) ⟨rfl, rfl⟩ hq (Any8.slices_Grow_room L none 0 0 0 w (by decide) (by decide) (by decide) (by decide))
theorem s_grow (L : Lays8.n4 P ρ) {i0 : TypeInfo} {z : Value} (hi0 : P.info? (ρ.t 25) = some i0) (hz0 : i0.zero = some z) (hs0 : i0.size = 1) (hb0 : i0.bytes = 16) (hc : P.cellsOf (ρ.t 25) = 1) (hz1 : z.cells.size = 1) {n : Nat} (hn0 : 0 < n) (hn : n ≤ 2147483648)
    {h : AHeap} {G : GM} {argsV : Array Value} {w : World} {Q : AVal × AHeap → Prop} (hR : Rel P N w0 G h w) (hv : VsR P G [.slice none 0, .int .i64 (n : Nat)] argsV.toList)
    (hq : Q (.slice (some (h.next, 0)) 0, newA h (.cells false (ρ.t 25) []))) : CallsIn (FR none) 0 P (ρ.f 4) argsV w (PostC P N w0 G h w Q) := by
  obtain ⟨x, y, rfl, h1, h2⟩ := args2 hv
  obtain rfl : x = .slice none 0 0 := (show (0 : Nat) = 0 ∧ x = .slice none 0 0 from h1).2
  obtain rfl : y = .int .i64 (n : Nat) := h2
  refine callsIn_wide.2 ((Any8.slices_Grow_grow L i0 z hi0 hz0 (by omega) none 0 0 n [] w (by decide) (by omega) (by rw [hb0]; omega) (by omega) (by simp) (fun _ => rfl) (fun a ha => by cases ha)).mono fun e w' hp => ?_)
  obtain ⟨rfl, rfl⟩ := hp
  have hge : 0 + n ≤ grownCap w (0 + n) 0 (ρ.t 25) := grownCap_ge w _ _ _
  generalize grownCap w (0 + n) 0 (ρ.t 25) = g at hge
  obtain ⟨R1, E1⟩ := alloc_cells (vs := []) (c := ([] : List Value).toArray ++ Builtin.zeroCells z.cells (0 + n - 0) ++ Builtin.zeroCells z.cells (g - (0 + n))) hR.drew (ρ.t 25) (by simp [VsR]) (by simp)
  have hsz : (([] : List Value).toArray ++ Builtin.zeroCells z.cells (0 + n - 0) ++ Builtin.zeroCells z.cells (g - (0 + n))).size = g := by
    rw [Array.size_append, Array.size_append, size_zeroCells, size_zeroCells, hz1]; simp; omega
  refine ⟨_, _, _, _, rfl, hq, R1, (Ext.drew (Ext.refl G h w)).trans E1, ⟨_, g, addG_same, ?_, by omega, ?_⟩⟩
  · rfl
  · rw [hc]; simp only; omega
end
end Go.Ab
end
section
/-
  Library functions taken at their word, and the document's texts: all of it is so in this program.
-/
namespace Go.Proofs
open Go Go.Ab Go.Ab.S
open Go.RowKit (Below)
theorem prefL_N : ∀ a b : List Nat, prefL a b = prefN a b
  | [], _ => rfl
  | _ :: _, [] => rfl
  | x :: a, y :: b => by
    rw [prefL, prefN, prefL_N a b]
    cases h : Nat.beq x y with
    | true => rw [Nat.eq_of_beq_eq_true h]; simp
    | false =>
      have : (x == y) = false := by
        rw [beq_eq_false_iff_ne]; rintro rfl; rw [Nat.beq_refl] at h; cases h
      rw [this]; rfl
theorem inL_N : ∀ s t : List Nat, inL s t = inN s t
  | [], t => by rw [inL, inN, prefL_N]
  | a :: s, t => by
    rw [inL, inN, prefL_N, inL_N s t]
    cases prefN t (a :: s) <;> rfl
theorem digF_dec : ∀ (f n : Nat), n < 10 ^ (f + 1) → digF f n = numsOf (Lib.decDigits n)
  | 0, n, h => by
    rw [Lib.decDigits, dif_pos (by omega), digF, Nat.mod_eq_of_lt (by omega)]
    simp only [numsOf, List.map_cons, List.map_nil, UInt8.toNat_ofNat']
    rw [Nat.mod_eq_of_lt (by omega)]
  | f + 1, n, h => by
    rw [Lib.decDigits, digF]
    by_cases h10 : n < 10
    · rw [dif_pos h10, if_pos h10]
      simp only [numsOf, List.map_cons, List.map_nil, UInt8.toNat_ofNat']
      rw [Nat.mod_eq_of_lt (by omega)]
    · rw [dif_neg h10, if_neg h10, digF_dec f (n / 10) (by rw [Nat.pow_succ] at h; omega)]
      simp only [numsOf, List.map_append, List.map_cons, List.map_nil, UInt8.toNat_ofNat']
      rw [Nat.mod_eq_of_lt (a := 48 + n % 10) (by omega)]
theorem itoa_eq {n : Int} (h0 : -9223372036854775808 ≤ n) (h1 : n ≤ 9223372036854775807) : numsOf (Lib.itoa n) = itoaN n := by
  unfold Lib.itoa itoaN
  by_cases hn : n < 0
  · rw [if_pos hn, if_pos hn, digN, digF_dec 19 _ (by omega)]; rfl
  · rw [if_neg hn, if_neg hn, digN, digF_dec 19 _ (by omega)]
/-- Letters out of cells. -/
def bytesOf : List AVal → Option (List UInt8)
  | [] => some []
  | .int .u8 (.ofNat x) :: r => (match Nat.blt x 256, bytesOf r with | true, some l => some (UInt8.ofNat x :: l) | _, _ => none)
  | _ => none
theorem bytesOf_sound : ∀ {vs : List AVal} {l : List UInt8}, bytesOf vs = some l → vs = l.map fun x => AVal.int .u8 (x.toNat : Nat)
  | [], l, h => by simp only [bytesOf, Option.some.injEq] at h; subst h; rfl
  | v :: r, l, h => by
    unfold bytesOf at h
    split at h
    · rename_i heq; cases heq
    · rename_i x r' heq
      cases heq
      split at h
      · rename_i l' hx hl
        simp only [Option.some.injEq] at h
        subst h
        rw [bytesOf_sound hl, List.map_cons, UInt8.toNat_ofNat', Nat.mod_eq_of_lt (Nat.blt_eq.mp hx)]; rfl
      · cases h
    · cases h
theorem bytesOf_map : ∀ (l : List Nat), (∀ x ∈ l, x < 256) → ∃ b, bytesOf (l.map fun x => AVal.int .u8 (x : Nat)) = some b ∧ numsOf b = l ∧ b.length = l.length
  | [], _ => ⟨[], rfl, rfl, rfl⟩
  | x :: l, h => by
    obtain ⟨b, h1, h2, h3⟩ := bytesOf_map l fun y hy => h y (by simp [hy])
    have hx := h x (by simp)
    refine ⟨UInt8.ofNat x :: b, ?_, ?_, by simp [h3]⟩
    · rw [List.map_cons]
      show (match Nat.blt x 256, bytesOf _ with | true, some l => some (UInt8.ofNat x :: l) | _, _ => none) = _
      rw [h1, Nat.blt_eq.mpr hx]
    · simp only [numsOf, List.map_cons, UInt8.toNat_ofNat'] at h2 ⊢
      rw [h2, Nat.mod_eq_of_lt hx]
/-- What is asked of the world as it begins. -/
structure WOK (W : World) : Prop where
  maxLen : ∃ m, W.cell? ⟨2, 0, none⟩ = some (.int .i64 m)
  space : TblOK Tryz.prog W.heap.size W 1 200 tabA
  pow : ∀ w, Below W.heap.size W w → Lib.TabIs Tryz.prog w "internal/strconv.uint64pow10" .u64 Lib.pow10Tab
  globs : Tryz.prog.globals.size ≤ W.heap.size
theorem mixed : Tryz.prog.follows .mixedOrders = true := by kernel_rfl
theorem globs12 : Tryz.prog.globals.size = 12 := by kernel_rfl
theorem enters82 : Ab.Enters Tryz.prog 82 := ⟨Tryz.f82, _, Tryz.func82, by kernel_rfl, rfl⟩
theorem enters119 : Ab.Enters Tryz.prog 119 := ⟨Tryz.f119, _, Tryz.func119, by kernel_rfl, rfl⟩
theorem enters176 : Ab.Enters Tryz.prog 176 := ⟨Tryz.f176, _, Tryz.func176, by kernel_rfl, rfl⟩
theorem enters153 : Ab.Enters Tryz.prog 153 := ⟨Tryz.f153, _, Tryz.func153, by kernel_rfl, rfl⟩
theorem enters37 : Ab.Enters Tryz.prog 37 := ⟨Tryz.f37, _, Tryz.func37, by kernel_rfl, rfl⟩
theorem enters62 : Ab.Enters Tryz.prog 62 := ⟨Tryz.f62, _, Tryz.func62, by kernel_rfl, rfl⟩
theorem enters25 : Ab.Enters Tryz.prog 25 := ⟨Tryz.f25, _, Tryz.func25, by kernel_rfl, rfl⟩
section
variable {W : World} (K : WOK W)
include K
theorem summ0_ok : SummOK Tryz.prog W.heap.size W summ0 := by
  intro f args h d hd
  unfold summ0 at hd
  split at hd
  · rename_i hf
    have hf := Nat.eq_of_beq_eq_true hf
    subst hf
    split at hd
    · rename_i s t
      split at hd
      · rename_i hs
        have hs := Nat.le_of_ble_eq_true hs
        simp only [Option.some.injEq] at hd
        subst hd
        refine ⟨enters82, fun G argsV w Q R hv hq => ?_⟩
        exact s_contains Tryz.lays144 (w0 := W) K.maxLen (by have := K.globs; rw [globs12] at this; show 2 < _; omega) (by omega) R hv hq
      · cases hd
    · cases hd
  · cases hd
end
def rdOf (s : List Nat) : Option (Nat × List (TypeId × List AVal)) :=
  match eqL s tF with
  | true => some (4, osF)
  | false => (match eqL s tS with
    | true => some (4, osS)
    | false => (match eqL s tN with
      | true => some (3, osN)
      | false => none))
/-- Texts out of cells. -/
def strsOf : List AVal → Option (List (List Nat))
  | [] => some []
  | .str s :: r => (match strsOf r with | some l => some (s :: l) | none => none)
  | _ => none
theorem strsOf_sound : ∀ {vs : List AVal} {l : List (List Nat)}, strsOf vs = some l → vs = l.map AVal.str
  | [], l, h => by simp only [strsOf, Option.some.injEq] at h; subst h; rfl
  | v :: r, l, h => by
    unfold strsOf at h
    split at h
    · rename_i heq; cases heq
    · rename_i s r' heq
      cases heq
      split at h
      · rename_i l' hl
        simp only [Option.some.injEq] at h
        subst h
        rw [strsOf_sound hl]; rfl
      · cases h
    · cases h
theorem strsOf_map : ∀ l : List (List Nat), strsOf (l.map AVal.str) = some l
  | [] => rfl
  | s :: l => by
    rw [List.map_cons]
    show (match strsOf (l.map AVal.str) with | some l => some (s :: l) | none => none) = _
    rw [strsOf_map l]
/-- All that is taken at its word. -/
def summ1 : FuncId → List AVal → AHeap → Option (D (AVal × AHeap)) := fun f args h =>
  if f = 82 then (match args with
    | [.str s, .str t] => if s.length ≤ 2000 then some (.ret (.bool (inL s t), h)) else none
    | _ => none)
  else if f = 119 then (match args with
    | [.int .i64 n] => if -9223372036854775808 ≤ n ∧ n ≤ 9223372036854775807 then some (.ret (.str (itoaN n), h)) else none
    | _ => none)
  else if f = 176 then (match args with
    | [.ptr (some (b, 0))] => (match h.objs.get b with
      | some (_, .cells false e [.ptr none, s]) => if e = 252 ∧ Go.Ab.one s = true then some (.ret (.tuple [], putObjA h b (.cells false 252 [.ptr (some (b, 0)), s]))) else none
      | some (_, .cells false e [.ptr (some (c, 0)), _]) => if e = 252 ∧ c = b then some (.ret (.tuple [], h)) else none
      | _ => none)
    | _ => none)
  else if f = 153 then (match args with
    | [.ptr (some (b, 0))] => (match h.objs.get b with
      | some (_, .cells false _ [_, .slice (some (c, 0)) n]) => (match h.objs.get c with
        | some (_, .cells false e vs) => (match bytesOf (vs.take n) with
          | some l => if e = 5 ∧ l ≠ [] ∧ l.length = n ∧ n ≤ 1000000 then some (.ret (.str (numsOf l), dropA h c)) else none
          | none => none)
        | _ => none)
      | _ => none)
    | _ => none)
  else if f = 25 then (match args with
    | [.str s] => (match rdOf s with
      | some (n, os) => some (.ret (mapV (h.next + ·) (vR n), layH h.next os h))
      | none => none)
    | _ => none)
  else if f = 37 then (match args with
    | [.slice none n] => if n = 0 then some (.ret (.tuple [], h)) else none
    | [.slice0] => some (.ret (.tuple [], h))
    | [.slice (some (b, 0)) n] => (match h.objs.get b with
      | some (_, .cells false e vs) => (match strsOf (vs.take n) with
        | some l => if e = 9 ∧ l.length = n ∧ n ≤ 2147483648 ∧ (l.all fun s => s.all fun c => decide (c < 256)) = true then some (.ret (.tuple [], putObjA h b (.cells false 9 ((sortL l).map AVal.str ++ vs.drop n)))) else none
        | none => none)
      | _ => none)
    | _ => none)
  else if f = 62 then (match args with
    | [.slice none z, .int .i64 n] => if z = 0 ∧ n = 0 then some (.ret (.slice none 0, h)) else if z = 0 ∧ 0 < n ∧ n ≤ 2147483648 then some (.ret (.slice (some (h.next, 0)) 0, newA h (.cells false 9 []))) else none
    | _ => none)
  else none
section
variable {W : World} (K : WOK W)
include K
theorem read_ok {s : List Nat} {keep : List Nat} {n : Nat} {os : List (TypeId × List AVal)} (hk : keep.length = os.length) (hnd : keep.Nodup) (hpl : ∀ o ∈ os, plainVs os.length o.2 = true) (hv0 : plainV os.length (vR n) = true)
    (he : ((run (fnsP Tryz.prog) summ0 4000).call 25 [.str s] (tblH 1 200 tabA)).all (isAt keep (vR n) os) = true) {h : AHeap} {G : GM} {argsV : Array Value} {w : World} {Q : AVal × AHeap → Prop} (R : Rel Tryz.prog W.heap.size W G h w) (hv : VsR Tryz.prog G [.str s] argsV.toList) (hq : (D.ret (mapV (h.next + ·) (vR n), layH h.next os h)).sat Q) :
    CallsIn (FR none) 0 Tryz.prog 25 argsV w (PostC Tryz.prog W.heap.size W G h w Q) :=
  summ_run mixed (fnsP_ok _) (summ0_ok K) K.space rfl hk hnd hpl hv0 he R hv hq
theorem summ1_ok : SummOK Tryz.prog W.heap.size W summ1 := by
  intro f args h d hd
  unfold summ1 at hd
  split at hd
  · rename_i hf
    subst hf
    split at hd
    · split at hd
      · simp only [Option.some.injEq] at hd
        subst hd
        refine ⟨enters82, fun G argsV w Q R hv hq => ?_⟩
        rw [D.sat_ret, inL_N] at hq
        exact s_contains Tryz.lays144 (w0 := W) K.maxLen (by have := K.globs; rw [globs12] at this; show 2 < _; omega) (by omega) R hv hq
      · cases hd
    · cases hd
  split at hd
  · rename_i hf
    subst hf
    split at hd
    · split at hd
      · rename_i n hn
        simp only [Option.some.injEq] at hd
        subst hd
        refine ⟨enters119, fun G argsV w Q R hv hq => ?_⟩
        rw [D.sat_ret, ← itoa_eq hn.1 hn.2] at hq
        exact s_itoa Tryz.laysM171 n hn.1 hn.2 K.pow R hv hq
      · cases hd
    · cases hd
  split at hd
  · rename_i hf
    subst hf
    split at hd
    · rename_i b
      split at hd
      · rename_i ver e s hb
        split at hd
        · rename_i he
          obtain ⟨rfl, hs⟩ := he
          simp only [Option.some.injEq] at hd
          subst hd
          exact ⟨enters176, fun G argsV w Q R hv hq => s_check_fresh Tryz.lays240 Tryz.Builder_X72_240 hs hb R hv hq⟩
        · cases hd
      · rename_i ver e c s hb
        split at hd
        · rename_i he
          obtain ⟨rfl, rfl⟩ := he
          simp only [Option.some.injEq] at hd
          subst hd
          exact ⟨enters176, fun G argsV w Q R hv hq => s_check_used (ro := false) Tryz.lays240 Tryz.Builder_X72_240 hb R hv hq⟩
        · cases hd
      · cases hd
    · cases hd
  split at hd
  · rename_i hf
    subst hf
    split at hd
    · rename_i b
      split at hd
      · rename_i ver e x0 c n hb
        split at hd
        · rename_i ver' e' vs hc
          split at hd
          · rename_i l hl
            split at hd
            · rename_i he
              obtain ⟨rfl, h1, rfl, h3⟩ := he
              simp only [Option.some.injEq] at hd
              subst hd
              exact ⟨enters153, fun G argsV w Q R hv hq => s_string Tryz.lays169 Tryz.Builder_Extra_169 h1 hb hc (bytesOf_sound hl) h3 R hv hq⟩
            · cases hd
          · cases hd
        · cases hd
      · cases hd
    · cases hd
  split at hd
  · rename_i hf
    subst hf
    split at hd
    · rename_i s
      split at hd
      · rename_i n os hr
        simp only [Option.some.injEq] at hd
        subst hd
        refine ⟨enters25, fun G argsV w Q R hv hq => ?_⟩
        unfold rdOf at hr
        split at hr
        · rename_i hs
          rw [eqL_iff.1 hs] at hv
          simp only [Option.some.injEq, Prod.mk.injEq] at hr
          obtain ⟨rfl, rfl⟩ := hr
          exact read_ok K rfl (by decide) (by decide) (by decide) readF R hv hq
        split at hr
        · rename_i hs
          rw [eqL_iff.1 hs] at hv
          simp only [Option.some.injEq, Prod.mk.injEq] at hr
          obtain ⟨rfl, rfl⟩ := hr
          exact read_ok K rfl (by decide) (by decide) (by decide) readS R hv hq
        split at hr
        · rename_i hs
          rw [eqL_iff.1 hs] at hv
          simp only [Option.some.injEq, Prod.mk.injEq] at hr
          obtain ⟨rfl, rfl⟩ := hr
          exact read_ok K rfl (by decide) (by decide) (by decide) readN R hv hq
        · cases hr
      · cases hd
    · cases hd
  split at hd
  · rename_i hf
    subst hf
    split at hd
    · split at hd
      · rename_i hn
        subst hn
        simp only [Option.some.injEq] at hd
        subst hd
        exact ⟨enters37, fun G argsV w Q R hv hq => s_sort_none Tryz.lays190 (.inl rfl) R hv hq⟩
      · cases hd
    · simp only [Option.some.injEq] at hd
      subst hd
      exact ⟨enters37, fun G argsV w Q R hv hq => s_sort_none Tryz.lays190 (.inr rfl) R hv hq⟩
    · rename_i b n
      split at hd
      · rename_i ver e vs hb
        split at hd
        · rename_i l hl
          split at hd
          · rename_i he
            obtain ⟨rfl, rfl, h3, h4⟩ := he
            simp only [Option.some.injEq] at hd
            subst hd
            refine ⟨enters37, fun G argsV w Q R hv hq => s_sort Tryz.lays190 (fun s hs c hc => ?_) h3 hb (strsOf_sound hl) R hv hq⟩
            exact of_decide_eq_true (List.all_eq_true.1 (List.all_eq_true.1 h4 s hs) c hc)
          · cases hd
        · cases hd
      · cases hd
    · cases hd
  split at hd
  · rename_i hf
    subst hf
    split at hd
    · rename_i z n
      split at hd
      · rename_i hn
        obtain ⟨rfl, rfl⟩ := hn
        simp only [Option.some.injEq] at hd
        subst hd
        exact ⟨enters62, fun G argsV w Q R hv hq => s_grow_none Tryz.growS R hv hq⟩
      · split at hd
        · rename_i hn
          obtain ⟨rfl, h0, h1⟩ := hn
          obtain ⟨m, rfl⟩ : ∃ m : Nat, n = (m : Int) := ⟨n.toNat, by omega⟩
          simp only [Option.some.injEq] at hd
          subst hd
          obtain ⟨i, j1, j2, j3, j4⟩ := Tryz.strInfo
          exact ⟨enters62, fun G argsV w Q R hv hq => s_grow Tryz.growS j1 j2 j3 j4 (by kernel_rfl) rfl (by omega) (by omega) R hv hq⟩
        · cases hd
    · cases hd
  · cases hd
end
end Go.Proofs
end
section
/-
  All that the walk takes at its word is so.
-/
namespace Go.Proofs
open Go Go.Ab Go.Ab.S
theorem bytesOf_isMap (l : List Nat) (h : ∀ x ∈ l, x < 256) : ∃ b, bytesOf (l.map fun x => AVal.int .u8 (x : Nat)) = some b ∧ numsOf b = l ∧ b.length = l.length := bytesOf_map l h
theorem hasTab : Has tab summ1 where
  contains := fun s t h hs => by
    unfold summ1
    rw [if_pos rfl]
    simp only [hs, if_true]
  itoa := fun n h h0 h1 => by
    unfold summ1
    rw [if_neg (by decide), if_pos rfl]
    simp only [h0, h1, and_self, if_true]
  checkNew := fun b ver s h hb hs => by
    unfold summ1
    rw [if_neg (by decide), if_neg (by decide), if_pos rfl]
    simp only [hb, hs, and_self, if_true]
  checkOld := fun b ver s h hb => by
    unfold summ1
    rw [if_neg (by decide), if_neg (by decide), if_pos rfl]
    simp only [hb, and_self, if_true]
  text := fun b ver p c ver' vs l h hb hc ht hn hl hs => by
    obtain ⟨bs, h1, h2, h3⟩ := bytesOf_map l hl
    unfold summ1
    rw [if_neg (by decide), if_neg (by decide), if_neg (by decide), if_pos rfl]
    have hne : bs ≠ [] := by rintro rfl; simp at h3; exact hn (by simpa using h3.symm)
    simp only [hb, hc, ht, h1]
    rw [if_pos ⟨trivial, hne, h3, hs⟩, h2]
  funs := fun _ _ h => h
  other := fun f fn hf a h => by
    unfold summ1
    by_cases h1 : f = 82
    · subst h1; cases hf
    by_cases h2 : f = 119
    · subst h2; cases hf
    by_cases h3 : f = 176
    · subst h3; cases hf
    by_cases h4 : f = 153
    · subst h4; cases hf
    by_cases h5 : f = 25
    · subst h5; cases hf
    by_cases h6 : f = 37
    · subst h6; cases hf
    by_cases h7 : f = 62
    · subst h7; cases hf
    rw [if_neg h1, if_neg h2, if_neg h3, if_neg h4, if_neg h5, if_neg h6, if_neg h7]
theorem layH_grow (n : Nat) : ∀ (os : List (TypeId × List AVal)) {h0 h : AHeap}, Grow h0 h → Grow h0 (layH n os h)
  | [], _, _, g => g
  | (e, vs) :: r, _, _, g => by rw [layH]; exact layH_grow n r (g.new _)
theorem sl_of {h : AHeap} {b ver : Nat} {ro : Bool} {e : TypeId} {vs : List AVal} {sz n : Nat} {xs : List (List AVal)} (hb : h.objs.get b = some (ver, .cells ro e vs)) (hn : n = xs.length) (hx : ∀ x ∈ xs, x.length = sz) (hv : vs = xs.flatten) : SlAt h sz (.slice (some (b, 0)) n) xs := by
  subst hn; subst hv
  refine ⟨rfl, fun i x hi => ?_⟩
  have hil := (List.getElem?_eq_some_iff.1 hi).1
  have hxl := hx x (List.mem_of_getElem? hi)
  refine ⟨hxl, b, 0 + i * sz, ver, ro, e, _, by simp [slA, hil], hb, ?_⟩
  clear hb
  induction xs generalizing i with
  | nil => simp at hi
  | cons y xs ih =>
    cases i with
    | zero =>
      simp only [List.getElem?_cons_zero, Option.some.injEq] at hi
      subst hi
      simp only [Nat.zero_mul, Nat.add_zero, List.drop_zero, List.flatten_cons]
      rw [List.take_append_of_le_length (by omega), List.take_of_length_le (by omega)]
    | succ i =>
      have hy := hx y (by simp)
      have := ih (fun x hx' => hx x (by simp [hx'])) i (by simpa using hi) (by simpa using hil)
      rw [← this, List.flatten_cons]
      have he : 0 + (i + 1) * sz = y.length + (0 + i * sz) := by rw [hy, Nat.add_mul]; omega
      rw [he, List.drop_append, List.drop_eq_nil_of_le (by omega)]
      simp
theorem sl_nil (h : AHeap) (sz : Nat) : SlAt h sz (.slice none 0) [] := ⟨rfl, fun i x hx => by simp at hx⟩
theorem ints_of {h : AHeap} {b ver : Nat} {ro : Bool} {e : TypeId} {n : Nat} {l : List Int} (hb : h.objs.get b = some (ver, .cells ro e (l.map fun k => .int .i64 k))) (hn : n = l.length) : IntsAt h (.slice (some (b, 0)) n) l := by
  refine sl_of hb (by simp [hn]) (fun x hx => ?_) ?_
  · obtain ⟨k, _, rfl⟩ := List.mem_map.1 hx; rfl
  · clear hb hn; induction l with
    | nil => rfl
    | cons a l ih => rw [List.map_cons, List.map_cons, List.flatten_cons, ← ih]; rfl
theorem strs_of {h : AHeap} {b ver : Nat} {ro : Bool} {e : TypeId} {n : Nat} {l : List (List Nat)} (hb : h.objs.get b = some (ver, .cells ro e (l.map fun k => .str k))) (hn : n = l.length) : StrsAt h (.slice (some (b, 0)) n) l := by
  refine sl_of hb (by simp [hn]) (fun x hx => ?_) ?_
  · obtain ⟨k, _, rfl⟩ := List.mem_map.1 hx; rfl
  · clear hb hn; induction l with
    | nil => rfl
    | cons a l ih => rw [List.map_cons, List.map_cons, List.flatten_cons, ← ih]; rfl
theorem nodes3 {h : AHeap} {v : AVal} {c1 c2 c3 : List AVal} {n1 n2 n3 : Ab.Node} (hs : SlAt h 5 v [c1, c2, c3]) (h1 : NodeAt h c1 n1) (h2 : NodeAt h c2 n2) (h3 : NodeAt h c3 n3) : NodesAt h v [n1, n2, n3] := by
  refine ⟨_, hs, rfl, fun i n c hn hc => ?_⟩
  match i with
  | 0 => cases hn; cases hc; exact h1
  | 1 => cases hn; cases hc; exact h2
  | 2 => cases hn; cases hc; exact h3
  | i + 3 => simp at hn
theorem nodes4 {h : AHeap} {v : AVal} {c1 c2 c3 c4 : List AVal} {n1 n2 n3 n4 : Ab.Node} (hs : SlAt h 5 v [c1, c2, c3, c4]) (h1 : NodeAt h c1 n1) (h2 : NodeAt h c2 n2) (h3 : NodeAt h c3 n3) (h4 : NodeAt h c4 n4) : NodesAt h v [n1, n2, n3, n4] := by
  refine ⟨_, hs, rfl, fun i n c hn hc => ?_⟩
  match i with
  | 0 => cases hn; cases hc; exact h1
  | 1 => cases hn; cases hc; exact h2
  | 2 => cases hn; cases hc; exact h3
  | 3 => cases hn; cases hc; exact h4
  | i + 4 => simp at hn
theorem nilI (h : AHeap) : IntsAt h (.slice none 0) [] := sl_nil h 1
theorem nilS (h : AHeap) : StrsAt h (.slice none 0) [] := sl_nil h 1
theorem node_bool (h : AHeap) : NodeAt h [.int .i64 2, .str [98, 111, 111, 108], .slice none 0, .slice none 0, .bool false] boolN := ⟨_, _, rfl, nilI h, nilS h⟩
theorem node_v (h : AHeap) : NodeAt h [.int .i64 1, .str [], .slice none 0, .slice none 0, .bool false] varN := ⟨_, _, rfl, nilI h, nilS h⟩
theorem five3 {c1 c2 c3 : List AVal} (h1 : c1.length = 5) (h2 : c2.length = 5) (h3 : c3.length = 5) : ∀ x ∈ [c1, c2, c3], x.length = 5 := by
  intro x hx
  simp only [List.mem_cons, List.not_mem_nil, or_false] at hx
  rcases hx with rfl | rfl | rfl <;> assumption
theorem five4 {c1 c2 c3 c4 : List AVal} (h1 : c1.length = 5) (h2 : c2.length = 5) (h3 : c3.length = 5) (h4 : c4.length = 5) : ∀ x ∈ [c1, c2, c3, c4], x.length = 5 := by
  intro x hx
  simp only [List.mem_cons, List.not_mem_nil, or_false] at hx
  rcases hx with rfl | rfl | rfl | rfl <;> assumption
theorem readGF (h : AHeap) : GraphAt (layH h.next osF h) (.agg [.slice (some (h.next + 0, 0)) 4, .int .i64 0]) gF :=
  ⟨_, rfl, nodes4 (c1 := [.int .i64 2, .str [45, 62], .slice (some (h.next + 1, 0)) 2, .slice none 0, .bool false]) (c2 := [.int .i64 2, .str [42], .slice (some (h.next + 2, 0)) 2, .slice none 0, .bool false]) (sl_of (layH_new h.next osF h 0 60 _ rfl) rfl (five4 rfl rfl rfl rfl) rfl) ⟨_, _, rfl, ints_of (l := [1, 2]) (layH_new h.next osF h 1 3 _ rfl) rfl, nilS _⟩ ⟨_, _, rfl, ints_of (l := [2, 3]) (layH_new h.next osF h 2 3 _ rfl) rfl, nilS _⟩ (node_v _) (node_v _)⟩
theorem readGS (h : AHeap) : GraphAt (layH h.next osS h) (.agg [.slice (some (h.next + 0, 0)) 4, .int .i64 0]) gS :=
  ⟨_, rfl, nodes4 (c1 := [.int .i64 2, .str [45, 62], .slice (some (h.next + 1, 0)) 2, .slice none 0, .bool false]) (c2 := [.int .i64 2, .str [42], .slice (some (h.next + 2, 0)) 2, .slice none 0, .bool false]) (sl_of (layH_new h.next osS h 0 60 _ rfl) rfl (five4 rfl rfl rfl rfl) rfl) ⟨_, _, rfl, ints_of (l := [1, 3]) (layH_new h.next osS h 1 3 _ rfl) rfl, nilS _⟩ ⟨_, _, rfl, ints_of (l := [2, 3]) (layH_new h.next osS h 2 3 _ rfl) rfl, nilS _⟩ (node_v _) (node_v _)⟩
theorem readGN (h : AHeap) : GraphAt (layH h.next osN h) (.agg [.slice (some (h.next + 0, 0)) 3, .int .i64 0]) gN :=
  ⟨_, rfl, nodes3 (c1 := [.int .i64 2, .str [45, 62], .slice (some (h.next + 1, 0)) 2, .slice none 0, .bool false]) (sl_of (layH_new h.next osN h 0 60 _ rfl) rfl (five3 rfl rfl rfl) rfl) ⟨_, _, rfl, ints_of (l := [1, 2]) (layH_new h.next osN h 1 3 _ rfl) rfl, nilS _⟩ (node_bool _) (node_bool _)⟩
theorem summ1_read (s : List Nat) (h : AHeap) {n : Nat} {os : List (TypeId × List AVal)} (hr : rdOf s = some (n, os)) : summ1 25 [.str s] h = some (.ret (.tuple [.agg [.slice (some (h.next + 0, 0)) n, .int .i64 0], .int .i64 0], layH h.next os h)) := by
  unfold summ1
  rw [if_neg (by decide), if_neg (by decide), if_neg (by decide), if_neg (by decide), if_pos rfl]
  dsimp only
  rw [hr]; rfl
theorem hasRead : HasRead summ1 := by
  refine ⟨fun s G hm h hw => ?_⟩
  simp only [List.mem_cons, Prod.mk.injEq, List.not_mem_nil, or_false] at hm
  rcases hm with ⟨rfl, rfl⟩ | ⟨rfl, rfl⟩ | ⟨rfl, rfl⟩
  · exact ⟨_, _, summ1_read _ h rfl, readGF h, layH_grow _ _ (Grow.refl hw)⟩
  · exact ⟨_, _, summ1_read _ h rfl, readGS h, layH_grow _ _ (Grow.refl hw)⟩
  · exact ⟨_, _, summ1_read _ h rfl, readGN h, layH_grow _ _ (Grow.refl hw)⟩
theorem hasSort : HasSort summ1 where
  none := fun h => by
    unfold summ1
    rw [if_neg (by decide), if_neg (by decide), if_neg (by decide), if_neg (by decide), if_neg (by decide), if_pos rfl]
    simp
  zero := fun h => by
    unfold summ1
    rw [if_neg (by decide), if_neg (by decide), if_neg (by decide), if_neg (by decide), if_neg (by decide), if_pos rfl]
  some := fun l hl hn h b ver vs hw hb hle ht => by
    unfold summ1
    rw [if_neg (by decide), if_neg (by decide), if_neg (by decide), if_neg (by decide), if_neg (by decide), if_pos rfl]
    simp only [hb, ht, strsOf_map]
    have h31 : (2 : Nat) ^ 31 = 2147483648 := by decide
    rw [if_pos ⟨trivial, trivial, by omega, List.all_eq_true.2 fun s hs => List.all_eq_true.2 fun c hc => decide_eq_true (hl s hs c hc)⟩]
theorem hasGrow : HasGrow summ1 where
  zero := fun h => by
    unfold summ1
    rw [if_neg (by decide), if_neg (by decide), if_neg (by decide), if_neg (by decide), if_neg (by decide), if_neg (by decide), if_pos rfl]
    simp
  more := fun n h h0 h1 => by
    have h31 : (2 : Nat) ^ 31 = 2147483648 := by decide
    unfold summ1
    rw [if_neg (by decide), if_neg (by decide), if_neg (by decide), if_neg (by decide), if_neg (by decide), if_neg (by decide), if_pos rfl]
    dsimp only
    rw [if_neg (by omega), if_pos ⟨rfl, by omega, by omega⟩]
end Go.Proofs
end
section
/-
  Arguments laid out: graphs that a call is handed, as abstract memory that nobody turns.
-/
namespace Go.Ab
open Go.RowKit (Below)

section
variable {H : Type} {enc : TypeId × Value → H} {P : Program} {W : World} {G : GM} {h : AHeap}

theorem addG_lt {G : GM} {k : Nat} {gi : GI} {i : Nat} (hi : i ≠ k) : (fun j => if j = k then some gi else G j) i = G i := by simp [hi]
/-- A row that nobody turns, told of anew. -/
theorem Rel.addRo (R : Rel P W.heap.size W G h W) (hw : WF h) {b off size : Nat} {e : TypeId} {c : Array Value} {t : TypeId} {fr : Nat × Nat} {vs : List AVal} (hb : W.heap[b]? = some (.cells c t fr)) (hs : off + size ≤ c.size) (hl : vs.length ≤ size) (hv : VsR P G vs ((c.toList.drop off).take vs.length)) :
    ∃ G', Rel P W.heap.size W G' (newA h (.cells true e vs)) W ∧ GLe G G' ∧ Grow h (newA h (.cells true e vs)) ∧ G' h.next = some ⟨b, size, e, off⟩ ∧ (newA h (.cells true e vs)).objs.get h.next = some (h.next, .cells true e vs) := by
  have hbN : b < W.heap.size := lt_of_heap hb
  let G' : GM := fun j => if j = h.next then some ⟨b, size, e, off⟩ else G j
  have hold : ∀ i, i ≠ h.next → G' i = G i := fun i hi => addG_lt hi
  have hnew : G' h.next = some ⟨b, size, e, off⟩ := if_pos rfl
  have hle : GLe G G' := fun i gi hi => by
    by_cases hk : i = h.next
    · subst hk; rw [R.fresh _ (Nat.le_refl _)] at hi; cases hi
    · rw [hold i hk]; exact hi
  have hcase : ∀ id x, (newA h (.cells true e vs)).objs.get id = some x → (id ≠ h.next ∧ h.objs.get id = some x) ∨ (id = h.next ∧ x = (h.next, .cells true e vs)) := by
    intro id x hx
    rw [new_get] at hx
    split at hx
    · rename_i hk; simp only [Option.some.injEq] at hx; exact .inr ⟨hk, hx.symm⟩
    · rename_i hk; exact .inl ⟨hk, hx⟩
  refine ⟨G', ⟨?_, ?_, ?_, ?_, ?_, ?_, ?_, R.below, R.size, ?_⟩, hle, (Grow.refl hw).new _, hnew, zAQ _ _⟩
  · intro id ver o hx
    rcases hcase id _ hx with ⟨hk, h1⟩ | ⟨rfl, h1⟩
    · obtain ⟨gi, k1, ob, k2, k3⟩ := R.obj id ver o h1
      exact ⟨gi, by rw [hold id hk]; exact k1, ob, k2, k3.mono hle⟩
    · simp only [Prod.mk.injEq] at h1
      obtain ⟨rfl, rfl⟩ := h1
      exact ⟨_, hnew, _, hb, c, t, fr, rfl, (fun hh => by cases hh), hs, rfl, hl, hv.mono hle⟩
  · intro id id' x x' gi gi' hx hx' hf hg hg' hbb
    rcases hcase id _ hx with ⟨hk, h1⟩ | ⟨rfl, h1⟩
    · rw [hold id hk] at hg
      rcases hcase id' _ hx' with ⟨hk', h1'⟩ | ⟨rfl, h1'⟩
      · rw [hold id' hk'] at hg'
        exact R.inj id id' x x' gi gi' h1 h1' hf hg hg' hbb
      · rw [hnew] at hg'; cases hg'
        have := R.own id x.1 x.2 gi h1 hg hf
        have hbb : gi.blk = b := hbb
        omega
    · rw [h1] at hf; cases hf
  · intro id ver o gi hx hg hf
    rcases hcase id _ hx with ⟨hk, h1⟩ | ⟨rfl, h1⟩
    · rw [hold id hk] at hg; exact R.own id ver o gi h1 hg hf
    · simp only [Prod.mk.injEq] at h1; rw [h1.2] at hf; cases hf
  · intro id hid
    rw [new_next] at hid
    rw [hold id (by omega)]; exact R.fresh id (by omega)
  · intro id ver o hx
    rw [new_next]
    rcases hcase id _ hx with ⟨_, h1⟩ | ⟨_, h1⟩
    · have := R.vers id ver o h1; omega
    · simp only [Prod.mk.injEq] at h1; omega
  · intro g hg
    have := R.low
    rw [hold g (by omega)]; exact R.glob g hg
  · rw [new_next]; have := R.low; omega
  · intro id ver o gi hx hg hr
    rcases hcase id _ hx with ⟨hk, h1⟩ | ⟨rfl, h1⟩
    · rw [hold id hk] at hg; exact R.rolow id ver o gi h1 hg hr
    · rw [hnew] at hg; cases hg; exact hbN

theorem cell_at {w : World} {a : Addr} {v : Value} (h : w.cell? a = some v) : ∃ c t fr, w.heap[a.block]? = some (.cells c t fr) ∧ a.spot = none ∧ c[a.off]? = some v := by
  simp only [World.cell?] at h
  split at h
  · rename_i c t fr hc
    cases hs : a.spot with
    | none => rw [hs] at h; exact ⟨c, t, fr, hc, rfl, by simpa using h⟩
    | some s => rw [hs] at h; simp at h
  · cases h
theorem add_off (a : Addr) (n : Nat) : (a.add n).block = a.block ∧ (a.add n).off = a.off + n := by
  unfold Addr.add; split
  · rename_i hn; subst hn; exact ⟨rfl, rfl⟩
  · exact ⟨rfl, rfl⟩
/-- All cells of a row at once. -/
theorem row_cells {w : World} {a : Addr} {m : Nat} (hm : 0 < m) {V : Nat → Value} (h : ∀ i, i < m → w.cell? (a.add i) = some (V i)) : ∃ c t fr, w.heap[a.block]? = some (.cells c t fr) ∧ a = ⟨a.block, a.off, none⟩ ∧ a.off + m ≤ c.size ∧ ∀ i, i < m → c[a.off + i]? = some (V i) := by
  obtain ⟨c, t, fr, hc, hs, _⟩ := cell_at (h 0 hm)
  have hs : a.spot = none := by
    have : a.add 0 = a := by simp [Addr.add]
    rwa [this] at hs
  rw [(add_off a 0).1] at hc
  have hall : ∀ i, i < m → c[a.off + i]? = some (V i) := fun i hi => by
    obtain ⟨c', t', fr', hc', _, hv⟩ := cell_at (h i hi)
    rw [(add_off a i).1, hc] at hc'
    cases hc'
    rwa [(add_off a i).2] at hv
  refine ⟨c, t, fr, hc, by cases a; simp_all, ?_, hall⟩
  have := hall (m - 1) (by omega)
  have := (Array.getElem?_eq_some_iff.1 this).1
  omega
theorem VsR_of {G : GM} : ∀ {xs : List AVal} {vs : List Value}, vs.length = xs.length → (∀ (i : Nat) x v, xs[i]? = some x → vs[i]? = some v → VR P G x v) → VsR P G xs vs
  | [], [], _, _ => rfl
  | [], _ :: _, h, _ => by simp at h
  | _ :: _, [], h, _ => by simp at h
  | x :: xs, v :: vs, h, hh => ⟨v, vs, rfl, hh 0 x v rfl rfl, VsR_of (by simpa using h) fun i x v hx hv => hh (i + 1) x v (by simpa using hx) (by simpa using hv)⟩
theorem VsR_row {G : GM} {c : Array Value} {off : Nat} {vs : List AVal} (hs : off + vs.length ≤ c.size) (hh : ∀ (i : Nat) x v, vs[i]? = some x → c[off + i]? = some v → VR P G x v) : VsR P G vs ((c.toList.drop off).take vs.length) := by
  refine VsR_of (by simp; omega) fun i x v hx hv => ?_
  have hi := (List.getElem?_eq_some_iff.1 hx).1
  rw [List.getElem?_take, if_pos hi, List.getElem?_drop, Array.getElem?_toList] at hv
  exact hh i x v hx hv
/-- No row of a reading is greater. -/
def Wt (P : Program) (B : Nat) (t : TypeId) (d : DataW H) : Prop := ∀ n ∈ d.weights P t, n ≤ B
theorem mem_all {P : Program} {e : TypeId} {d : DataW H} {n : Nat} : ∀ {l : List (DataW H)}, d ∈ l → n ∈ d.weights P e → n ∈ DataW.weightsAll P e l
  | x :: l, hd, hn => by
    rw [DataW.weightsAll, List.mem_append]
    rcases List.mem_cons.1 hd with rfl | hd
    · exact .inl hn
    · exact .inr (mem_all hd hn)
theorem Wt.len {P : Program} {B : Nat} {t e : TypeId} (ht : P.underlying t = some (.slice e)) {l r : List (DataW H)} (h : Wt P B t (.slice l r)) : l.length * P.bytesOf e ≤ B := by
  have := h ((l.length + r.length) * P.bytesOf e) (by simp [DataW.weights, ht])
  exact Nat.le_trans (Nat.mul_le_mul_right _ (Nat.le_add_right _ _)) this
theorem Wt.elem {P : Program} {B : Nat} {t e : TypeId} (ht : P.underlying t = some (.slice e)) {l r : List (DataW H)} (h : Wt P B t (.slice l r)) {d : DataW H} (hd : d ∈ l) : Wt P B e d := fun n hn =>
  h n (by simp only [DataW.weights, ht, List.mem_cons, List.mem_append]; exact .inr (.inl (mem_all hd hn)))
theorem mem_each {P : Program} {n : Nat} : ∀ {ts : List TypeId} {l : List (DataW H)} {i : Nat} {t : TypeId} {d : DataW H}, ts[i]? = some t → l[i]? = some d → n ∈ d.weights P t → n ∈ DataW.weightsEach P ts l
  | t' :: ts, d' :: l, i, t, d, ht, hd, hn => by
    rw [DataW.weightsEach, List.mem_append]
    cases i with
    | zero =>
      simp only [List.getElem?_cons_zero, Option.some.injEq] at ht hd
      subst ht; subst hd
      exact .inl hn
    | succ i => exact .inr (mem_each (by simpa using ht) (by simpa using hd) hn)
  | [], _, i, t, d, ht, _, _ => by simp at ht
  | _ :: _, [], i, t, d, _, hd, _ => by simp at hd
theorem Wt.part {P : Program} {B : Nat} {t : TypeId} {fs : Array Field} (ht : P.underlying t = some (.struct fs)) {l : List (DataW H)} (h : Wt P B t (.agg l)) {i : Nat} {f : Field} {d : DataW H} (hf : fs[i]? = some f) (hd : l[i]? = some d) : Wt P B f.type d := fun n hn =>
  h n (by simp only [DataW.weights, ht]; exact mem_each (i := i) (by rw [List.getElem?_map, Array.getElem?_toList, hf]; rfl) hd hn)
/-- What is known of the memory, and what a value is. -/
def Laid (P : Program) (W : World) (G : GM) (h : AHeap) (Q : GM → AHeap → Prop) : Prop := ∃ G' h', Rel P W.heap.size W G' h' W ∧ GLe G G' ∧ Grow h h' ∧ Q G' h'

theorem lay_ints {B : Nat} {t e : TypeId} {fuel : Nat} {v : Value} {x : DataW H × List MemPlace} (ht : P.underlying t = some (.slice e)) (he : P.underlying e = some (.int .i64)) (hc : P.cellsOf e = 1)
    (hx : DataW.trod enc P W 0 (fun _ => true) true fuel t [v] = some x) (hB : Wt P B t x.1) (R : Rel P W.heap.size W G h W) (hw : WF h) : Laid P W G h fun G' h' => ∃ av l, VR P G' av v ∧ IntsAt h' av l ∧ l.length * P.bytesOf e ≤ B := by
  rcases Go.Deep.open_slice1 ht hc hx with ⟨h1, rfl⟩ | ⟨a, len, capx, cap, n, V, D, Pl, h1, hb, hl, hm, hmm, rfl, hx'⟩
  · simp only [List.cons.injEq, and_true] at h1
    subst h1
    exact ⟨G, h, R, GLe.refl G, Grow.refl hw, .slice none 0, [], ⟨rfl, rfl⟩, ⟨rfl, fun i x hx => by simp at hx⟩, by simp⟩
  · simp only [List.cons.injEq, and_true] at h1
    subst h1
    simp only [if_true] at hmm
    subst hmm
    rcases Nat.eq_zero_or_pos cap with h0 | h0
    · subst h0
      obtain rfl : len = 0 := by omega
      exact ⟨G, h, R, GLe.refl G, Grow.refl hw, .slice0, [], ⟨a, rfl⟩, ⟨rfl, fun i x hx => by simp at hx⟩, by simp⟩
    obtain ⟨c, ty, fr, hc1, ha, hsz, hall⟩ := row_cells h0 fun i hi => (hx' i hi).1
    have each : ∀ i, i < cap → ∃ k : Int, V i = .int .i64 k := fun i hi => by
      obtain ⟨k, h1, _⟩ := DataW.trod_int he (hx' i hi).2
      exact ⟨k, by simpa using h1⟩
    obtain ⟨K, hK⟩ := Go.Deep.choose_lt each
    have hlen : ((List.range len).map fun i => AVal.int .i64 (K i)).length = len := by simp
    obtain ⟨G', R', g1, g2, g3, g4⟩ := R.addRo hw (e := e) (off := a.off) (size := cap) (vs := (List.range len).map fun i => AVal.int .i64 (K i)) hc1 hsz (by rw [hlen]; exact hl) (VsR_row (by rw [hlen]; omega) fun i x v hx hv => by
      have hi := (List.getElem?_eq_some_iff.1 hx).1
      rw [hlen] at hi
      rw [hall i (by omega), Option.some.injEq] at hv
      rw [List.getElem?_map, List.getElem?_range hi] at hx
      simp only [Option.map_some, Option.some.injEq] at hx
      rw [← hx, ← hv, hK i (by omega)]; rfl)
    refine ⟨G', _, R', g1, g2, .slice (some (h.next, 0)) len, (List.range len).map K, ⟨_, cap, g3, ?_, hl, ?_⟩, ⟨by simp [lenO], fun i x hx => ?_⟩, ?_⟩
    · rw [ha]; rfl
    · rw [hc]; simp
    · simp only [List.map_map, List.getElem?_map] at hx
      obtain ⟨j, hj, rfl⟩ := Option.map_eq_some_iff.1 hx
      obtain ⟨hij, rfl⟩ := List.getElem?_eq_some_iff.1 hj
      simp only [List.length_range] at hij
      simp only [List.getElem_range]
      refine ⟨rfl, h.next, i, h.next, true, e, _, by simp [slA, hij], g4, ?_⟩
      apply List.ext_getElem?
      intro k
      cases k with
      | zero => simp [List.getElem?_take, List.getElem?_drop, hij, intC]
      | succ k => simp [List.getElem?_take, intC]
    · have := hB.len ht
      simpa using this


theorem lay_strs {B : Nat} {t e : TypeId} {fuel : Nat} {v : Value} {x : DataW H × List MemPlace} (ht : P.underlying t = some (.slice e)) (he : P.underlying e = some .string) (hc : P.cellsOf e = 1)
    (hx : DataW.trod enc P W 0 (fun _ => true) true fuel t [v] = some x) (hB : Wt P B t x.1) (R : Rel P W.heap.size W G h W) (hw : WF h) : Laid P W G h fun G' h' => ∃ av l, VR P G' av v ∧ StrsAt h' av l ∧ l.length * P.bytesOf e ≤ B ∧ ∀ s ∈ l, s.length ≤ B := by
  rcases Go.Deep.open_strs ht he hc hx with ⟨h1, rfl⟩ | ⟨a, len, capx, cap, Sx, h1, hb, hl, hm, hmm, rfl, hx'⟩
  · simp only [List.cons.injEq, and_true] at h1
    subst h1
    exact ⟨G, h, R, GLe.refl G, Grow.refl hw, .slice none 0, [], ⟨rfl, rfl⟩, ⟨rfl, fun i x hx => by simp at hx⟩, by simp⟩
  · simp only [List.cons.injEq, and_true] at h1
    subst h1
    simp only [if_true] at hmm
    subst hmm
    rcases Nat.eq_zero_or_pos cap with h0 | h0
    · subst h0
      obtain rfl : len = 0 := by omega
      exact ⟨G, h, R, GLe.refl G, Grow.refl hw, .slice0, [], ⟨a, rfl⟩, ⟨rfl, fun i x hx => by simp at hx⟩, by simp⟩
    obtain ⟨c, ty, fr, hc1, ha, hsz, hall⟩ := row_cells h0 fun i hi => (hx' i hi).1
    let K : Nat → List Nat := fun i => (Sx i).data.toList.map UInt8.toNat
    have hlen : ((List.range len).map fun i => AVal.str (K i)).length = len := by simp
    obtain ⟨G', R', g1, g2, g3, g4⟩ := R.addRo hw (e := e) (off := a.off) (size := cap) (vs := (List.range len).map fun i => AVal.str (K i)) hc1 hsz (by rw [hlen]; exact hl) (VsR_row (by rw [hlen]; omega) fun i x v hx hv => by
      have hi := (List.getElem?_eq_some_iff.1 hx).1
      rw [hlen] at hi
      rw [hall i (by omega), Option.some.injEq] at hv
      rw [List.getElem?_map, List.getElem?_range hi] at hx
      simp only [Option.map_some, Option.some.injEq] at hx
      rw [← hx, ← hv]
      exact ⟨Sx i, rfl, rfl⟩)
    refine ⟨G', _, R', g1, g2, .slice (some (h.next, 0)) len, (List.range len).map K, ⟨_, cap, g3, ?_, hl, ?_⟩, ⟨by simp [lenO], fun i x hx => ?_⟩, ?_⟩
    · rw [ha]; rfl
    · rw [hc]; simp
    · simp only [List.map_map, List.getElem?_map] at hx
      obtain ⟨j, hj, rfl⟩ := Option.map_eq_some_iff.1 hx
      obtain ⟨hij, rfl⟩ := List.getElem?_eq_some_iff.1 hj
      simp only [List.length_range] at hij
      simp only [List.getElem_range]
      refine ⟨rfl, h.next, i, h.next, true, e, _, by simp [slA, hij], g4, ?_⟩
      apply List.ext_getElem?
      intro k
      cases k with
      | zero => simp [List.getElem?_take, List.getElem?_drop, hij, strC]
      | succ k => simp [List.getElem?_take, strC]
    · refine ⟨by simpa using hB.len ht, fun s hs => ?_⟩
      obtain ⟨i, hi, rfl⟩ := List.mem_map.1 hs
      have := hB.elem ht (d := .lit (.string (Sx i).data.toList)) (List.mem_map.2 ⟨i, hi, rfl⟩) (Sx i).data.toList.length (by simp [DataW.weights])
      simpa [K] using this

/-- Of what sort the types are that graphs are made of. -/
structure GTypes (P : Program) (tG tNs tN tI tS tB tIs tSs : TypeId) : Prop where
  int : P.underlying tI = some (.int .i64)
  str : P.underlying tS = some .string
  bool : P.underlying tB = some .bool
  ints : P.underlying tIs = some (.slice tI)
  strs : P.underlying tSs = some (.slice tS)
  nodes : P.underlying tNs = some (.slice tN)
  node : ∃ f0 f1 f2 f3 f4, P.underlying tN = some (.struct #[f0, f1, f2, f3, f4]) ∧ (f0.type = tI ∧ f0.offset = 0) ∧ (f1.type = tS ∧ f1.offset = 1) ∧ (f2.type = tIs ∧ f2.offset = 2) ∧ (f3.type = tSs ∧ f3.offset = 3) ∧ (f4.type = tB ∧ f4.offset = 4)
  graph : ∃ f0 f1, P.underlying tG = some (.struct #[f0, f1]) ∧ (f0.type = tNs ∧ f0.offset = 0) ∧ (f1.type = tI ∧ f1.offset = 1)
  cI : P.cellsOf tI = 1
  cS : P.cellsOf tS = 1
  cB : P.cellsOf tB = 1
  cIs : P.cellsOf tIs = 1
  cSs : P.cellsOf tSs = 1
  cNs : P.cellsOf tNs = 1
  cN : P.cellsOf tN = 5
  cG : P.cellsOf tG = 2
/-- No row of a node is greater. -/
structure NodeB (P : Program) (tI tS : TypeId) (B : Nat) (n : Node) : Prop where
  args : n.args.length * P.bytesOf tI ≤ B
  labels : n.labels.length * P.bytesOf tS ≤ B
  texts : ∀ s ∈ n.labels, s.length ≤ B
/-- No row of a graph is greater. -/
structure GraphB (P : Program) (tI tS tN : TypeId) (B : Nat) (ns : List Node) : Prop where
  nodes : ns.length * P.bytesOf tN ≤ B
  all : ∀ n ∈ ns, NodeB P tI tS B n
theorem cut1 {cs : List Value} {o : Nat} {v : Value} (h : (cs.drop o).take 1 = [v]) : cs[o]? = some v := by
  have := congrArg (fun l => l[0]?) h
  simpa using this
theorem five {cs : List Value} (h : cs.length = 5) {a b c d e : Value} (h0 : cs[0]? = some a) (h1 : cs[1]? = some b) (h2 : cs[2]? = some c) (h3 : cs[3]? = some d) (h4 : cs[4]? = some e) : cs = [a, b, c, d, e] := by
  match cs, h with
  | [a', b', c', d', e'], _ => simp at h0 h1 h2 h3 h4; subst h0; subst h1; subst h2; subst h3; subst h4; rfl
theorem drop_one {cs : List Value} {o : Nat} (h : o < cs.length) : (cs.drop o).take 1 = [cs[o]] := by
  rw [List.drop_eq_getElem_cons h]; rfl
/-- A node's cells. -/
theorem lay_node {tG tNs tN tI tS tB tIs tSs : TypeId} (T : GTypes P tG tNs tN tI tS tB tIs tSs) {B : Nat} {fuel : Nat} {cs : List Value} {x : DataW H × List MemPlace} (hx : DataW.trod enc P W 0 (fun _ => true) true fuel tN cs = some x) (hB : Wt P B tN x.1) (R : Rel P W.heap.size W G h W) (hw : WF h) :
    Laid P W G h fun G' h' => ∃ (n : Node) (c : List AVal), VsR P G' c cs ∧ c.length = 5 ∧ NodeAt h' c n ∧ NodeB P tI tS B n := by
  obtain ⟨f0, f1, f2, f3, f4, hs, ⟨t0, o0⟩, ⟨t1, o1⟩, ⟨t2, o2⟩, ⟨t3, o3⟩, ⟨t4, o4⟩⟩ := T.node
  obtain ⟨xs, n, _, rfl, hl, hxs, hf⟩ := DataW.trod_struct hs hx
  rw [T.cN] at hl
  have k0 := hf 0 f0 rfl
  have k1 := hf 1 f1 rfl
  have k2 := hf 2 f2 rfl
  have k3 := hf 3 f3 rfl
  have k4 := hf 4 f4 rfl
  rw [t0, o0, T.cI, drop_one (by omega)] at k0
  rw [t1, o1, T.cS, drop_one (by omega)] at k1
  rw [t2, o2, T.cIs, drop_one (by omega)] at k2
  rw [t3, o3, T.cSs, drop_one (by omega)] at k3
  rw [t4, o4, T.cB, drop_one (by omega)] at k4
  match xs, hxs with
  | [y0, y1, y2, y3, y4], _ =>
    simp only [List.getElem?_cons_zero, List.getElem?_cons_succ] at k0 k1 k2 k3 k4
    obtain ⟨kd, q0, r0, _⟩ := DataW.trod_int T.int k0
    obtain ⟨nm, q1, r1, _⟩ := DataW.trod_string T.str k1
    obtain ⟨op, q4, r4⟩ := DataW.trod_bool T.bool k4
    simp only [List.cons.injEq, and_true] at q0 q1 q4
    obtain ⟨G1, h1, R1, g1, w1, av, l, hav, hl1, hs1⟩ := lay_ints T.ints T.int T.cI k2 (by have := hB.part hs (i := 2) (f := f2) (d := y2.1) rfl rfl; rwa [t2] at this) R hw
    obtain ⟨G2, h2, R2, g2, w2, lv, ls, hlv, hl2, hs2⟩ := lay_strs T.strs T.str T.cS k3 (by have := hB.part hs (i := 3) (f := f3) (d := y3.1) rfl rfl; rwa [t3] at this) R1 w1.wf
    refine ⟨G2, h2, R2, g1.trans g2, w1.trans w2, ⟨kd, nm.data.toList.map UInt8.toNat, l, ls, op⟩, [.int .i64 kd, .str (nm.data.toList.map UInt8.toNat), av, lv, .bool op], ?_, rfl, ⟨av, lv, rfl, hl1.mono w2, hl2⟩, ?_⟩
    · have hcs := five hl (List.getElem?_eq_getElem (by omega)) (List.getElem?_eq_getElem (by omega)) (List.getElem?_eq_getElem (by omega)) (List.getElem?_eq_getElem (by omega)) (List.getElem?_eq_getElem (by omega))
      rw [hcs, q0, q1, q4]
      exact ⟨_, _, rfl, rfl, _, _, rfl, ⟨nm, rfl, rfl⟩, _, _, rfl, hav.mono g2, _, _, rfl, hlv, _, _, rfl, rfl, rfl⟩
    · exact ⟨hs1, hs2.1, hs2.2⟩
theorem cells_len {w : World} {base : Nat} {a : Addr} {n : Nat} {cs : List Value} (h : w.cells? base a n = some cs) : cs.length = n ∧ ∀ j, j < n → w.cell? (a.add j) = cs[j]? := by
  simp only [World.cells?] at h
  split at h
  · exact ⟨by simpa using mapM_some_length h, fun j hj => by simpa using mapM_some_get h j j (by simp [hj])⟩
  · cases h
theorem add_add (a : Addr) (n m : Nat) (hs : a.spot = none) : (a.add n).add m = a.add (n + m) := by
  obtain ⟨b, o, s⟩ := a
  simp only at hs
  subst hs
  unfold Addr.add
  by_cases hn : n = 0
  · subst hn; simp
  · by_cases hm : m = 0
    · subst hm; simp
    · simp [hn, hm, Nat.add_assoc]
/-- Rows of nodes, one by one. -/
theorem lay_rows {tG tNs tN tI tS tB tIs tSs : TypeId} (T : GTypes P tG tNs tN tI tS tB tIs tSs) {B : Nat} {fuel : Nat} {C : Nat → List Value} {D : Nat → DataW H} {Pl : Nat → List MemPlace} : ∀ (len : Nat), (∀ i, i < len → DataW.trod enc P W 0 (fun _ => true) true fuel tN (C i) = some (D i, Pl i)) → (∀ i, i < len → Wt P B tN (D i)) → Rel P W.heap.size W G h W → WF h →
    Laid P W G h fun G' h' => ∃ (ns : List Node) (cs : List (List AVal)), ns.length = len ∧ cs.length = len ∧ (∀ i c, cs[i]? = some c → c.length = 5 ∧ VsR P G' c (C i)) ∧ (∀ (i : Nat) n c, ns[i]? = some n → cs[i]? = some c → NodeAt h' c n) ∧ ∀ n ∈ ns, NodeB P tI tS B n
  | 0, _, _, R, hw => ⟨G, h, R, GLe.refl G, Grow.refl hw, [], [], rfl, rfl, fun i c hc => by simp at hc, fun i n c hn => by simp at hn, by simp⟩
  | len + 1, hx, hB, R, hw => by
    obtain ⟨G1, h1, R1, g1, w1, ns, cs, hn, hc, hv, ha, hs⟩ := lay_rows T len (fun i hi => hx i (by omega)) (fun i hi => hB i (by omega)) R hw
    obtain ⟨G2, h2, R2, g2, w2, n, c, hcv, hcl, hna, hsz⟩ := lay_node T (hx len (by omega)) (hB len (by omega)) R1 w1.wf
    refine ⟨G2, h2, R2, g1.trans g2, w1.trans w2, ns ++ [n], cs ++ [c], by simp [hn], by simp [hc], fun i d hd => ?_, fun i m d hm hd => ?_, ?_⟩
    · rcases Nat.lt_or_ge i len with hi | hi
      · rw [List.getElem?_append_left (by omega)] at hd
        obtain ⟨q1, q2⟩ := hv i d hd
        exact ⟨q1, q2.mono g2⟩
      · rw [List.getElem?_append_right (by omega), hc] at hd
        obtain rfl : i = len := by
          have := (List.getElem?_eq_some_iff.1 hd).1
          simp at this; omega
        rw [Nat.sub_self, List.getElem?_cons_zero, Option.some.injEq] at hd
        subst hd
        exact ⟨hcl, hcv⟩
    · rcases Nat.lt_or_ge i len with hi | hi
      · rw [List.getElem?_append_left (by omega)] at hd hm
        exact (ha i m d hm hd).mono w2
      · rw [List.getElem?_append_right (by omega), hc] at hd
        rw [List.getElem?_append_right (by omega), hn] at hm
        obtain rfl : i = len := by
          have := (List.getElem?_eq_some_iff.1 hd).1
          simp at this; omega
        rw [Nat.sub_self, List.getElem?_cons_zero, Option.some.injEq] at hd hm
        subst hd; subst hm
        exact hna
    · intro m hm
      rcases List.mem_append.1 hm with hm | hm
      · exact hs m hm
      · rw [List.mem_singleton.1 hm]; exact hsz

theorem flat_cut {sz : Nat} : ∀ (ys : List (List AVal)), (∀ c ∈ ys, c.length = sz) → ∀ (j : Nat) (hj : j < ys.length), (ys.flatten.drop (j * sz)).take sz = ys[j]
  | [], _, j, hj => by simp at hj
  | y :: ys, hall, 0, _ => by simp [← hall y (by simp)]
  | y :: ys, hall, j + 1, hj => by
    have hy : y.length = sz := hall y (by simp)
    have e1 : (j + 1) * sz - y.length = j * sz := by rw [hy, Nat.succ_mul]; omega
    have e2 : y.drop ((j + 1) * sz) = [] := List.drop_eq_nil_of_le (by rw [hy, Nat.succ_mul]; omega)
    rw [List.flatten_cons, List.drop_append, e1, e2, List.nil_append, List.getElem_cons_succ]
    exact flat_cut ys (fun c hc => hall c (by simp [hc])) j (by simpa using hj)
theorem flat_len {sz : Nat} : ∀ (ys : List (List AVal)), (∀ c ∈ ys, c.length = sz) → ys.flatten.length = ys.length * sz
  | [], _ => by simp
  | y :: ys, h => by
    rw [List.flatten_cons, List.length_append, flat_len ys fun c hc => h c (by simp [hc]), h y (by simp), List.length_cons, Nat.succ_mul]; omega
theorem flat_get {ys : List (List AVal)} (hall : ∀ c ∈ ys, c.length = 5) {k : Nat} {x : AVal} (hk : ys.flatten[k]? = some x) : ∃ c, ys[k / 5]? = some c ∧ c[k % 5]? = some x := by
  have hlt := (List.getElem?_eq_some_iff.1 hk).1
  rw [flat_len ys hall] at hlt
  have hj : k / 5 < ys.length := by omega
  refine ⟨ys[k / 5], List.getElem?_eq_getElem hj, ?_⟩
  rw [← flat_cut ys hall (k / 5) hj, List.getElem?_take, if_pos (by omega), List.getElem?_drop, show k / 5 * 5 + k % 5 = k by omega]
  exact hk
theorem lay_nodes {tG tNs tN tI tS tB tIs tSs : TypeId} (T : GTypes P tG tNs tN tI tS tB tIs tSs) {B : Nat} {fuel : Nat} {v : Value} {x : DataW H × List MemPlace} (hx : DataW.trod enc P W 0 (fun _ => true) true fuel tNs [v] = some x) (hB : Wt P B tNs x.1) (R : Rel P W.heap.size W G h W) (hw : WF h) :
    Laid P W G h fun G' h' => ∃ (nv : AVal) (ns : List Node), VR P G' nv v ∧ NodesAt h' nv ns ∧ GraphB P tI tS tN B ns := by
  rcases Go.Deep.open_slice T.nodes hx with ⟨h1, rfl⟩ | ⟨a, len, capx, cap, n, D, Pl, h1, hb, hl, hm, hmm, rfl, hx'⟩
  · simp only [List.cons.injEq, and_true] at h1
    subst h1
    exact ⟨G, h, R, GLe.refl G, Grow.refl hw, .slice none 0, [], ⟨rfl, rfl⟩, ⟨[], ⟨rfl, fun i x hx => by simp at hx⟩, rfl, fun i n c hn => by simp at hn⟩, ⟨by simp, by simp⟩⟩
  · simp only [List.cons.injEq, and_true] at h1
    subst h1
    simp only [if_true] at hmm
    subst hmm
    rcases Nat.eq_zero_or_pos cap with h0 | h0
    · subst h0
      obtain rfl : len = 0 := by omega
      exact ⟨G, h, R, GLe.refl G, Grow.refl hw, .slice0, [], ⟨a, rfl⟩, ⟨[], ⟨rfl, fun i x hx => by simp at hx⟩, rfl, fun i n c hn => by simp at hn⟩, ⟨by simp, by simp⟩⟩
    rw [T.cN] at hx'
    obtain ⟨C, hC⟩ := Go.Deep.choose_lt hx'
    have hC5 : ∀ i, i < cap → (C i).length = 5 ∧ ∀ j, j < 5 → W.cell? ((a.add (i * 5)).add j) = (C i)[j]? := fun i hi => cells_len (hC i hi).1
    have hspot : a.spot = none := by
      obtain ⟨q1, q2⟩ := hC5 0 h0
      have := q2 0 (by omega)
      rw [Nat.zero_mul, show a.add 0 = a by simp [Addr.add], show a.add 0 = a by simp [Addr.add], List.getElem?_eq_getElem (by omega)] at this
      obtain ⟨_, _, _, _, hs, _⟩ := cell_at this
      exact hs
    obtain ⟨c, ty, fr, hc1, ha, hsz, hall⟩ := row_cells (w := W) (a := a) (m := cap * 5) (by omega) (V := fun k => (C (k / 5)).getD (k % 5) default) fun k hk => by
      obtain ⟨q1, q2⟩ := hC5 (k / 5) (by omega)
      have := q2 (k % 5) (by omega)
      rw [add_add _ _ _ hspot, show k / 5 * 5 + k % 5 = k by omega] at this
      rw [this, List.getElem?_eq_getElem (by omega), List.getD, List.getElem?_eq_getElem (by omega)]; rfl
    obtain ⟨G1, h1, R1, g1, w1, ns, cs, hn, hc, hv, hna, hs⟩ := lay_rows T len (fun i hi => (hC i (by omega)).2) (fun i hi => hB.elem T.nodes (List.mem_map.2 ⟨i, List.mem_range.2 hi, rfl⟩)) R hw
    have hcs5 : ∀ d ∈ cs, d.length = 5 := fun d hd => by
      obtain ⟨i, hi, rfl⟩ := List.mem_iff_getElem.1 hd
      exact (hv i _ (List.getElem?_eq_getElem hi)).1
    have hfl := flat_len cs hcs5
    obtain ⟨G', R', g2, w2, g3, g4⟩ := R1.addRo w1.wf (e := tN) (off := a.off) (size := cap * 5) (vs := cs.flatten) hc1 hsz (by rw [hfl, hc]; omega) (VsR_row (by rw [hfl, hc]; omega) fun k x v hx hv' => by
      have hk := (List.getElem?_eq_some_iff.1 hx).1
      rw [hfl, hc] at hk
      rw [hall k (by omega), Option.some.injEq] at hv'
      obtain ⟨d, hd1, hd2⟩ := flat_get hcs5 hx
      obtain ⟨_, hd3⟩ := hv _ _ hd1
      obtain ⟨u, hu1, hu2⟩ := hd3.get hd2
      rw [← hv', List.getD, hu1]
      exact hu2)
    refine ⟨G', _, R', g1.trans g2, w1.trans w2, .slice (some (h1.next, 0)) len, ns, ⟨_, cap, g3, ?_, hl, ?_⟩, ⟨cs, ⟨by simp [lenO, hc], fun i d hd => ?_⟩, by omega, fun i n d hn' hd => (hna i n d hn' hd).mono w2⟩, ?_⟩
    · rw [ha]; rfl
    · rw [T.cN]; simp
    · have hi := (List.getElem?_eq_some_iff.1 hd).1
      have hd' := (List.getElem?_eq_some_iff.1 hd).2
      refine ⟨hcs5 d (List.mem_of_getElem? hd), h1.next, i * 5, h1.next, true, tN, _, by simp [slA]; omega, g4, ?_⟩
      rw [flat_cut cs hcs5 i hi, hd']
    · refine ⟨?_, hs⟩
      have := hB.len T.nodes
      rw [hn]; simpa using this
/-- **A graph that a call is handed.** -/
theorem lay_graph {tG tNs tN tI tS tB tIs tSs : TypeId} (T : GTypes P tG tNs tN tI tS tB tIs tSs) {B : Nat} {cs : Array Value} {d : DataW H} {ps : List MemPlace} (hx : DataW.Trod enc P W 0 (fun _ => true) true tG (.agg cs) d ps) (hB : Wt P B tG d) (R : Rel P W.heap.size W G h W) (hw : WF h) :
    Laid P W G h fun G' h' => ∃ (v : AVal) (g : Graph), VR P G' v (.agg cs) ∧ GraphAt h' v g ∧ GraphB P tI tS tN B g.nodes := by
  obtain ⟨fuel, hx⟩ := hx
  obtain ⟨f0, f1, hs, ⟨t0, o0⟩, ⟨t1, o1⟩⟩ := T.graph
  obtain ⟨xs, n, _, hx1, hl, hxs, hf⟩ := DataW.trod_struct hs hx
  rw [T.cG] at hl
  have hl : cs.toList.length = 2 := hl
  have k0 := hf 0 f0 rfl
  have k1 := hf 1 f1 rfl
  have hcs : (Value.agg cs).cells.toList = cs.toList := rfl
  rw [hcs] at k0 k1
  rw [t0, o0, T.cNs, drop_one (by omega)] at k0
  rw [t1, o1, T.cI, drop_one (by omega)] at k1
  match xs, hxs with
  | [y0, y1], _ =>
    simp only [List.getElem?_cons_zero, List.getElem?_cons_succ] at k0 k1
    obtain ⟨rt, q1, r1, _⟩ := DataW.trod_int T.int k1
    simp only [List.cons.injEq, and_true] at q1
    obtain ⟨G1, h1, R1, g1, w1, nv, ns, hv, hN, hsz⟩ := lay_nodes T k0 (by simp only [Prod.mk.injEq] at hx1; rw [hx1.1] at hB; have := hB.part hs (i := 0) (f := f0) (d := y0.1) rfl rfl; rwa [t0] at this) R hw
    refine ⟨G1, h1, R1, g1, w1, .agg [nv, .int .i64 rt], ⟨ns, rt⟩, ⟨cs, rfl, ?_⟩, ⟨nv, rfl, hN⟩, ?_⟩
    · match hh : cs.toList, hl with
      | [u0, u1], _ =>
        simp only [hh, List.getElem_cons_zero, List.getElem_cons_succ] at hv q1
        exact ⟨_, _, rfl, hv, _, _, rfl, q1, rfl⟩
    · exact hsz
end
end Go.Ab
end
