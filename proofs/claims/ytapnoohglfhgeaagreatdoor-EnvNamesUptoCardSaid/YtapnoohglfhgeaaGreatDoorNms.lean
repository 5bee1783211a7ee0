/-
  The statement EnvNames holds of the given program: at every row of steps and every name it answers true and never panics.
  Conditions: those of the given row EnvNamesUptoCardSaid alone (what is handed in reads as at most 1048576 values and letters).
-/
import Derived.Test.YtapnoohglfhgeaaGreatDoorP23
import Derived.Test.YtapnoohglfhgeaaGreatDoorP27
import Derived.Test.YtapnoohglfhgeaaGreatDoorP28
import Derived.OpenShut
set_option linter.all false
/-
  EnvNames: the contract.
-/
namespace Go.Proofs.YtapnoohglfhgeaaGreatDoor
open Go Go.Ab Go.Ab.S
open Go.ChangeShapes Go.WideShapes Go.ChangeAt Go.RowKit
theorem laidOut : laidOutB Tryz.prog = true := by kernel_rfl
theorem stays49 {H : Type} {enc : TypeId × Value → H} {W W' : World} {v : Value} {d : DataW H} {ps : List MemPlace} (h : DataW.Trod enc Tryz.prog W 0 (fun _ => true) true 49 v d ps) (hb : Below W.heap.size W W') (hlt : ∀ x ∈ ps, x.block < W.heap.size) (sp : Nat → Bool) (hs : ∀ p ∈ ps, sp p.block = true) : DataW.Trod enc Tryz.prog W' 0 sp true 49 v d ps :=
  WideElems.Trod_stays laidOut (by kernel_rfl) (of_decide_eq_true (by kernel_rfl)) h (fun x hx => hb.same (hlt x hx)) hs
theorem stays9 {H : Type} {enc : TypeId × Value → H} {W W' : World} {v : Value} {d : DataW H} {ps : List MemPlace} (h : DataW.Trod enc Tryz.prog W 0 (fun _ => true) true 9 v d ps) (hb : Below W.heap.size W W') (hlt : ∀ x ∈ ps, x.block < W.heap.size) (sp : Nat → Bool) (hs : ∀ p ∈ ps, sp p.block = true) : DataW.Trod enc Tryz.prog W' 0 sp true 9 v d ps :=
  WideElems.Trod_stays laidOut (by kernel_rfl) (of_decide_eq_true (by kernel_rfl)) h (fun x hx => hb.same (hlt x hx)) hs
set_option maxRecDepth 100000 in
theorem contract : Contract := by
  intro H enc W base args ds gs before hval hW hk hL hS
  have hW' := hW
  have hlt := hW.lt
  obtain ⟨p, q, hA0, hV, rfl, _, _⟩ := hW
  have hA : DataW.TrodAll enc Tryz.prog W 0 (fun _ => true) true Tryz.f6.params.toList args.toList ds p := hA0
  have hval' := hval
  rw [Tryz.params6] at hA hval'
  obtain ⟨v0, v1, d0, d1, p0, p1, rfl, rfl, rfl, h0, h1⟩ := trodAll_two hA
  obtain ⟨rfl, rfl⟩ := trodVars_none hV
  obtain ⟨ad, len, cap, rfl⟩ := okWide_slice (show Tryz.prog.underlying 49 = some (.slice 52) from by kernel_rfl) (hval' 0 49 v0 rfl rfl)
  obtain ⟨str, rfl⟩ := okWide_string Tryz.underlying9 (hval' 1 9 v1 rfl rfl)
  have hk := of_decide_eq_true hk
  simp only [List.append_nil, Rows.uptoBulkAll] at hk
  have hN := globs_le hS
  have h0' := h0
  have h1' := h1
  obtain ⟨fu0, h0'⟩ := h0'
  obtain ⟨fu1, h1'⟩ := h1'
  obtain ⟨G1, k1, R1, g1, w1, nv, l, b0, e0, z⟩ := lay_steps h0' (rel_zero hN) wf_zero
  have e60 : (2 : Nat) ^ 60 = 1152921504606846976 := by decide
  obtain ⟨zl, zs⟩ := sum_each l 1048576 (by simp only at z; omega)
  have hsl : (str.data.toList.map UInt8.toNat).length < 2 ^ 60 := by
    obtain ⟨na, q0, r0, _⟩ := DataW.trod_string Tryz.underlying9 h1'
    have hs0 := (meas H).str na.data.toList
    obtain rfl : str = na := by
      have := (List.cons.inj (show [Value.string str] = [Value.string na] from q0)).1
      simpa using this
    have e0' : d1 = .lit (.string str.data.toList) := by
      simp only [Prod.mk.injEq] at r0
      exact r0.1
    rw [← e0'] at hs0
    rw [List.length_map]
    omega
  have walk : Calls Tryz.prog 6 #[.slice ad len cap, .string str] W (Tells W) := by
    refine tells_of (args := [nv, .str (str.data.toList.map UInt8.toNat)]) (wok hL hS hN) R1 ⟨_, _, rfl, b0, _, _, rfl, ⟨str, rfl, rfl⟩, rfl⟩ ?_
    exact (EnvNames_ok hasTab hasSort hasRead hasGrow l (by omega) (fun s hs => step_ok (zs s hs)) _ hsl nv k1 w1.wf e0).mono fun _ _ h => h.1
  refine walk.mono fun e W' ⟨he, hb⟩ => ?_
  subst he
  refine ⟨_, rfl, post_of_tells (pa := p0 ++ p1) (pv := []) hW' (fun _ _ _ => trodAll_cons_mk (shut_bool Tryz.underlying4 _) trodAll_mk0) (fun sp hs => ?_) (fun _ _ => rfl) (by simp) hb (RowKit.ok_one (by kernel_rfl) rfl (okWide_bool_mk Tryz.underlying4 _))⟩
  exact trodAll_mk2 (stays49 h0 hb (fun x hx => hlt x (by simp [hx])) sp fun x hx => hs x (by simp [hx])) (stays9 h1 hb (fun x hx => hlt x (by simp [hx])) sp fun x hx => hs x (by simp [hx]))
/-- The card. -/
theorem cardUpto : Rows.EnvNamesUptoCardSaid := cardOf contract
#print axioms cardUpto
end Go.Proofs.YtapnoohglfhgeaaGreatDoor
