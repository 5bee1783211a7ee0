/-
  The statement InstMeets holds of the given program: at every pair of graphs it answers true and never panics.
  Conditions: those of the given row InstMeetsUptoCardSaid alone (what is handed in reads as at most 1048576 values and letters).
-/
import Derived.Test.YtffgndlognihcaaGreatDoorP22
import Derived.Test.YtffgndlognihcaaGreatDoorP26
import Derived.Test.YtffgndlognihcaaGreatDoorP27
import Derived.OpenShut
set_option linter.all false
/-
 InstMeets: the contract.
-/
namespace Go.Proofs.YtffgndlognihcaaGreatDoor
open Go Go.Ab Go.Ab.S
open Go.ChangeShapes Go.WideShapes Go.ChangeAt Go.RowKit
theorem laidOut : laidOutB Tryz.prog = true := by kernel_rfl
theorem zOv {H : Type} {enc : TypeId × Value -> H} {W W' : World} {v : Value} {d : DataW H} {ps : List MemPlace} (h : DataW.Trod enc Tryz.prog W 0 (fun _ => true) true 24 v d ps) (hb : Below W.heap.size W W') (hlt : ∀ x ∈ ps, x.block < W.heap.size) (sp : Nat -> Bool) (hs : ∀ p ∈ ps, sp p.block = true) : DataW.Trod enc Tryz.prog W' 0 sp true 24 v d ps :=
 WideElems.Trod_stays laidOut (by kernel_rfl) (of_decide_eq_true (by kernel_rfl)) h (fun x hx => hb.same (hlt x hx)) hs
set_option maxRecDepth 100000 in
theorem agg_of {W : World} {base : Nat} {v : Value} (h : Value.okWide Tryz.prog W .any base 24 v) : ∃ cs, v = .agg cs := by
 obtain ⟨cs, h, _⟩ := okWide_struct Tryz.underlying24 h
 exact ⟨cs, h⟩
theorem gmono {h h' : AHeap} {v : AVal} {g : Graph} (k : GraphAt h v g) (w : Grow h h') : GraphAt h' v g := by
 obtain ⟨nv, rfl, hN⟩ := k
 exact ⟨nv, rfl, hN.mono w⟩
set_option maxRecDepth 100000 in
theorem contract : Contract := by
 intro H enc W base args ds gs before hval hW hk hL hS
 have hW' := hW
 have hlt := hW.lt
 obtain ⟨p, q, hA0, hV, rfl, _, _⟩ := hW
 have hA : DataW.TrodAll enc Tryz.prog W 0 (fun _ => true) true Tryz.f6.params.toList args.toList ds p := hA0
 have hval' := hval
 rw [Tryz.params6] at hA hval'
 obtain ⟨v0, v1, d0, d1, p0, p1, rfl, rfl, rfl, h0, h1⟩ := trodAll_two hA
 obtain ⟨rfl, rfl⟩ := trodVars_none hV
 obtain ⟨c0, rfl⟩ := agg_of (hval' 0 24 v0 rfl rfl)
 obtain ⟨c1, rfl⟩ := agg_of (hval' 1 24 v1 rfl rfl)
 have hk := of_decide_eq_true hk
 simp only [zlE, Rows.uptoBulkAll] at hk
 have hN := globs_le hS
 obtain ⟨G1, k1, R1, g1, w1, a0, gr, b0, e0, s0⟩ := zKV gtypes (meas H) h0 (rel_zero hN) wf_zero
 obtain ⟨G2, k2, R2, g2, w2, a1, gr1, b1, e1', s1'⟩ := zKV gtypes (meas H) h1 R1 w1.wf
 have walk : Calls Tryz.prog 6 #[.agg c0, .agg c1] W (Tells W) := by
  refine tells_of (args := [a0, a1]) (wok hL hS hN) R2 ⟨_, _, rfl, b0.mono g2, _, _, rfl, b1, rfl⟩ ?_
  exact (InstMeets_ok hasTab hasSort hasAs hasRead gr gr1 (zOi (by omega)) (zOi (by omega)) a0 a1 k2 w2.wf (gmono e0 w2) e1').mono fun _ _ h => h.1
 refine walk.mono fun e W' ⟨he, hb⟩ => ?_
 subst he
 refine ⟨_, rfl, zJb (pa := p0 ++ p1) (pv := []) hW' (fun _ _ _ => trodAll_cons_mk (shut_bool Tryz.underlying4 _) trodAll_mk0) (fun sp hs => ?_) (fun _ _ => rfl) (by simp) hb (RowKit.ok_one (by kernel_rfl) rfl (okWide_bool_mk Tryz.underlying4 _))⟩
 exact trodAll_mk2 (zOv h0 hb (fun x hx => hlt x (by simp [hx])) sp fun x hx => hs x (by simp [hx])) (zOv h1 hb (fun x hx => hlt x (by simp [hx])) sp fun x hx => hs x (by simp [hx]))
/-- The card. -/
theorem cardUpto : Rows.InstMeetsUptoCardSaid := cardOf contract
#print axioms cardUpto
end Go.Proofs.YtffgndlognihcaaGreatDoor
