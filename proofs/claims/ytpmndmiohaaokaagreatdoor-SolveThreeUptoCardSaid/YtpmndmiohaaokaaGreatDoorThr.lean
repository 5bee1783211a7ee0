/-
  The statement SolveThree holds of the given program: at every three graphs it answers true and never panics.
  Conditions: those of the given row SolveThreeUptoCardSaid alone (what is handed in reads as at most 1048576 values and letters).
-/
import Derived.Test.YtpmndmiohaaokaaGreatDoorP27
import Derived.Test.YtpmndmiohaaokaaGreatDoorP28
import Derived.OpenShut
set_option linter.all false
/-
 SolveThree: the contract.
-/
namespace Go.Proofs.YtpmndmiohaaokaaGreatDoor
open Go Go.Ab Go.Ab.S
open Go.ChangeShapes Go.WideShapes Go.ChangeAt Go.RowKit
theorem laidOut : laidOutB Tryz.prog = true := by kernel_rfl
theorem stays {H : Type} {enc : TypeId × Value -> H} {W W' : World} {v : Value} {d : DataW H} {ps : List MemPlace} (h : DataW.Trod enc Tryz.prog W 0 (fun _ => true) true 24 v d ps) (hb : Below W.heap.size W W') (hlt : ∀ x ∈ ps, x.block < W.heap.size) (sp : Nat -> Bool) (hs : ∀ p ∈ ps, sp p.block = true) : DataW.Trod enc Tryz.prog W' 0 sp true 24 v d ps :=
 WideElems.Trod_stays laidOut (by kernel_rfl) (of_decide_eq_true (by kernel_rfl)) h (fun x hx => hb.same (hlt x hx)) hs
set_option maxRecDepth 100000 in
/-- A struct is an aggregate. -/
theorem zNF {W : World} {base : Nat} {v : Value} (h : Value.okWide Tryz.prog W .any base 24 v) : ∃ cs, v = .agg cs := by
 obtain ⟨cs, h, _⟩ := okWide_struct Tryz.underlying24 h
 exact ⟨cs, h⟩
set_option maxRecDepth 100000 in
theorem contract : Contract := by
 intro H enc W base args ds gs before hval hW hk hL hS
 have hW' := hW
 have hlt := hW.lt
 obtain ⟨p, q, hA0, hV, rfl, _, _⟩ := hW
 have hA : DataW.TrodAll enc Tryz.prog W 0 (fun _ => true) true Tryz.f8.params.toList args.toList ds p := hA0
 have hval' := hval
 rw [Tryz.params8] at hA hval'
 obtain ⟨v, v', v'', d, d', d'', p, p', p'', rfl, rfl, rfl, h0, h1, h2⟩ := trodAll_three hA
 obtain ⟨rfl, rfl⟩ := trodVars_none hV
 obtain ⟨c0, rfl⟩ := zNF (hval' 0 24 v rfl rfl)
 obtain ⟨c1, rfl⟩ := zNF (hval' 1 24 v' rfl rfl)
 obtain ⟨c2, rfl⟩ := zNF (hval' 2 24 v'' rfl rfl)
 have hk := of_decide_eq_true hk
 simp only [zlE, Rows.uptoBulkAll] at hk
 have hN := globs_le hS
 obtain ⟨G1, k1, R1, g1, w1, a0, x0, b0, e0, s0⟩ := zHn zNp (meas H) h0 (rel_zero hN) wf_zero
 obtain ⟨G2, k2, R2, g2, w2, a1, x1, b1, e1, s1⟩ := zHn zNp (meas H) h1 R1 w1.wf
 obtain ⟨G3, k3, R3, g3, w3, a2, x2, b2, e2, s2⟩ := zHn zNp (meas H) h2 R2 w2.wf
 have walk : Calls Tryz.prog 8 #[.agg c0, .agg c1, .agg c2] W (Tells W) := by
  refine tells_of (args := [a0, a1, a2]) (wok hL hS hN) R3 ⟨_, _, rfl, b0.mono (g2.trans g3), _, _, rfl, b1.mono g3, _, _, rfl, b2, rfl⟩ ?_
  exact (SolveThree_ok hasTab hasSort hasAs hasRead x0 x1 x2 (zLX (by omega)) (zLX (by omega)) (zLX (by omega)) a0 a1 a2 k3 w3.wf (e0.mono (w2.trans w3)) (e1.mono w3) e2).mono fun _ _ h => h.1
 refine walk.mono fun e W' ⟨he, hb⟩ => ?_
 subst he
 refine ⟨_, rfl, zJl (pa := p ++ (p' ++ p'')) (pv := []) hW' (fun _ _ _ => trodAll_cons_mk (shut_bool Tryz.underlying4 _) trodAll_mk0) (fun sp hs => ?_) (fun _ _ => rfl) (by simp) hb (RowKit.ok_one (by kernel_rfl) rfl (okWide_bool_mk Tryz.underlying4 _))⟩
 refine trodAll_mk3 (stays h0 hb (fun x hx => hlt x ?_) sp fun x hx => hs x ?_) (stays h1 hb (fun x hx => hlt x ?_) sp fun x hx => hs x ?_) (stays h2 hb (fun x hx => hlt x ?_) sp fun x hx => hs x ?_) <;> simp [hx]
/-- The card. -/
theorem cardUpto : Rows.SolveThreeUptoCardSaid := cardOf contract
#print axioms cardUpto
end Go.Proofs.YtpmndmiohaaokaaGreatDoor
