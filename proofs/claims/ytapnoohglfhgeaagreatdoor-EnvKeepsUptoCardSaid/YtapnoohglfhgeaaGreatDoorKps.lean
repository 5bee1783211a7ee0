/-
  The statement EnvKeeps holds of the given program: at every row of steps it answers true and never panics.
  Conditions: those of the given row EnvKeepsUptoCardSaid alone (what is handed in reads as at most 1048576 values and letters).
-/
import Derived.Test.YtapnoohglfhgeaaGreatDoorP23
import Derived.Test.YtapnoohglfhgeaaGreatDoorP28
import Derived.Test.YtapnoohglfhgeaaGreatDoorP29
import Derived.OpenShut
set_option linter.all false
/-
  EnvKeeps: the contract.
-/
namespace Go.Proofs.YtapnoohglfhgeaaGreatDoor
open Go Go.Ab Go.Ab.S
open Go.ChangeShapes Go.WideShapes Go.ChangeAt Go.RowKit
theorem laidOut : laidOutB Tryz.prog = true := by kernel_rfl
theorem stays49 {H : Type} {enc : TypeId × Value → H} {W W' : World} {v : Value} {d : DataW H} {ps : List MemPlace} (h : DataW.Trod enc Tryz.prog W 0 (fun _ => true) true 49 v d ps) (hb : Below W.heap.size W W') (hlt : ∀ x ∈ ps, x.block < W.heap.size) (sp : Nat → Bool) (hs : ∀ p ∈ ps, sp p.block = true) : DataW.Trod enc Tryz.prog W' 0 sp true 49 v d ps :=
  WideElems.Trod_stays laidOut (by kernel_rfl) (of_decide_eq_true (by kernel_rfl)) h (fun x hx => hb.same (hlt x hx)) hs
set_option maxRecDepth 100000 in
theorem contract : Contract := by
  intro H enc W base args ds gs before hval hW hk hL hS
  have hW' := hW
  have hlt := hW.lt
  obtain ⟨p, q, hA0, hV, rfl, _, _⟩ := hW
  have hA : DataW.TrodAll enc Tryz.prog W 0 (fun _ => true) true Tryz.f5.params.toList args.toList ds p := hA0
  have hval' := hval
  rw [Tryz.params5] at hA hval'
  obtain ⟨v0, d0, rfl, rfl, h0⟩ := trodAll_one hA
  obtain ⟨rfl, rfl⟩ := trodVars_none hV
  obtain ⟨ad, len, cap, rfl⟩ := okWide_slice (show Tryz.prog.underlying 49 = some (.slice 52) from by kernel_rfl) (hval' 0 49 v0 rfl rfl)
  have hk := of_decide_eq_true hk
  simp only [List.append_nil, Rows.uptoBulkAll] at hk
  have hN := globs_le hS
  have h0' := h0
  obtain ⟨fu0, h0'⟩ := h0'
  obtain ⟨G1, k1, R1, g1, w1, nv, l, b0, e0, z⟩ := lay_steps h0' (rel_zero hN) wf_zero
  have e60 : (2 : Nat) ^ 60 = 1152921504606846976 := by decide
  obtain ⟨zl, zs⟩ := sum_each l 1048576 (by simp only at z; omega)
  have walk : Calls Tryz.prog 5 #[.slice ad len cap] W (Tells W) := by
    refine tells_of (args := [nv]) (wok hL hS hN) R1 ⟨_, _, rfl, b0, rfl⟩ ?_
    exact (EnvKeeps_ok hasTab hasSort hasRead hasGrow l (by omega) (fun s hs => step_ok (zs s hs)) nv k1 w1.wf e0).mono fun _ _ h => h.1
  refine walk.mono fun e W' ⟨he, hb⟩ => ?_
  subst he
  refine ⟨_, rfl, post_of_tells (pa := p) (pv := []) hW' (fun _ _ _ => trodAll_cons_mk (shut_bool Tryz.underlying4 _) trodAll_mk0) (fun sp hs => ?_) (fun _ _ => rfl) (by simp) hb (RowKit.ok_one (by kernel_rfl) rfl (okWide_bool_mk Tryz.underlying4 _))⟩
  exact trodAll_mk1 (stays49 h0 hb (fun x hx => hlt x (by simp [hx])) sp fun x hx => hs x (by simp [hx]))
/-- The card. -/
theorem cardUpto : Rows.EnvKeepsUptoCardSaid := cardOf contract
#print axioms cardUpto
end Go.Proofs.YtapnoohglfhgeaaGreatDoor
