/-
  The statement SolveRational holds of the given program: at every two bytes it answers true and never panics.
  Conditions: those of the given row SolveRationalUptoCardSaid alone (what is handed in reads as at most 1048576 values and letters).
-/
import Derived.Test.YtpmndmiohaaokaaGreatDoorP27
import Derived.Test.YtpmndmiohaaokaaGreatDoorP28
import Derived.OpenShut
set_option linter.all false
/-
 SolveRational: the contract.
-/
namespace Go.Proofs.YtpmndmiohaaokaaGreatDoor
open Go Go.Ab Go.Ab.S
open Go.ChangeShapes Go.WideShapes Go.ChangeAt Go.RowKit
theorem wf_u8 {n : Int} (h : (Lit.int .u8 n).wf = true) : 0 <= n /\ n < 256 := by
 simp only [Lit.wf, Bool.and_eq_true, decide_eq_true_eq] at h
 have h1 : IntKind.u8.min = 0 := by decide
 have h2 : IntKind.u8.max = 255 := by decide
 omega
set_option maxRecDepth 100000 in
theorem contract : Contract := by
 intro H enc W base args ds gs before hval hW hk hL hS
 have hW' := hW
 obtain ⟨p, q, hA0, hV, rfl, _, _⟩ := hW
 have hA : DataW.TrodAll enc Tryz.prog W 0 (fun _ => true) true Tryz.f7.params.toList args.toList ds p := hA0
 have hval' := hval
 rw [Tryz.params7] at hA hval'
 obtain ⟨v0, v1, d0, d1, p0, p1, rfl, rfl, rfl, h0, h1⟩ := trodAll_two hA
 obtain ⟨rfl, rfl⟩ := trodVars_none hV
 obtain ⟨x, rfl, rfl, rfl, hx⟩ := open_int Tryz.underlying5 (hval' 0 5 v0 rfl rfl) h0
 obtain ⟨y, rfl, rfl, rfl, hy⟩ := open_int Tryz.underlying5 (hval' 1 5 v1 rfl rfl) h1
 obtain ⟨x0, x1⟩ := wf_u8 hx
 obtain ⟨y0, y1⟩ := wf_u8 hy
 have hN := globs_le hS
 obtain ⟨a, rfl⟩ : ∃ a : Nat, x = a := ⟨x.toNat, by omega⟩
 obtain ⟨b, rfl⟩ : ∃ b : Nat, y = b := ⟨y.toNat, by omega⟩
 have walk : Calls Tryz.prog 7 #[.int .u8 (a : Nat), .int .u8 (b : Nat)] W (Tells W) := by
  refine tells_of (args := [.int .u8 (a : Nat), .int .u8 (b : Nat)]) (wok hL hS hN) (rel_zero hN) ⟨_, _, rfl, rfl, _, _, rfl, rfl, rfl⟩ ?_
  exact (SolveRational_ok hasTab hasSort hasAs hasRead a b (by omega) (by omega) zKY wf_zero).mono fun _ _ h => h.1
 refine walk.mono fun e W' ⟨he, hb⟩ => ?_
 subst he
 refine ⟨_, rfl, zJl (pa := []) (pv := []) hW' (fun _ _ _ => trodAll_cons_mk (shut_bool Tryz.underlying4 _) trodAll_mk0) (fun sp hs => ?_) (fun _ _ => rfl) (by simp) hb (RowKit.ok_one (by kernel_rfl) rfl (okWide_bool_mk Tryz.underlying4 _))⟩
 exact trodAll_mk2 (shut_int Tryz.underlying5 hx) (shut_int Tryz.underlying5 hy)
/-- The card. -/
theorem cardUpto : Rows.SolveRationalUptoCardSaid := cardOf contract
#print axioms cardUpto
end Go.Proofs.YtpmndmiohaaokaaGreatDoor
