import Derived.Test.YtapnoohglfhgeaaGreatDoorP26
import Derived.LaidHandle
import Derived.Lay
import Derived.Deep.DeepWitnessRowRef
import Derived.ProofKit
import Derived.KernelRfl
import Derived.JoinedCond
import Derived.SevenTiedAt
/-
  Part 28 of the proof.
-/
set_option linter.all false
section
/-
  The world that the rows' condition is met in.
-/
namespace Go.Proofs.YtapnoohglfhgeaaGreatDoor
open Go
noncomputable def handleW (os : Os) : World :=
  { World.holding Tryz.prog os ⟨#[], #[], []⟩ with heap := (World.holding Tryz.prog os ⟨#[], #[], []⟩).heap.modify 0 fun
      | .cells _ t frozen => .cells #[.iface 231 (.agg #[.pointer (some ⟨12, 123, none⟩)])] t frozen
      | o => o }
def plainLaids : List (String × DataW Unit) := laids.filter fun x => x.2.handleName?.isNone
noncomputable def laidW (os : Os) : World := (handleW os).layVars Tryz.prog plainLaids
theorem laidW_os (os : Os) : (laidW os).os = os := World.layVars_os _ _ _
noncomputable abbrev heldW (os : Os) (args : Array Value) : World := (laidW os).forCall (fun _ _ => 0) ⟨#[], args, []⟩
theorem noGreat : (plainLaids.filter fun x => !(plainLaids.map (·.1)).contains x.1) = [] := by kernel_rfl
set_option maxRecDepth 100000 in
theorem laid_met (os : Os) (args : Array Value) : laidMetH Tryz.prog laids (heldW os args).memory := by
  refine laidMetH_of_parts ?_ (by kernel_rfl)
  have h : laidMet Tryz.prog plainLaids (laidW os) := laidMet_layVars (w0 := handleW os) (plainLaids.map (·.1)) [] (by kernel_rfl) (by kernel_rfl) (by kernel_rfl) (by rw [noGreat]; exact LaidIn.none)
  exact h.of_heap (by simp [heldW, World.memory, World.forCall, Input.heap])
set_option maxRecDepth 100000 in
theorem w_vars (os : Os) (args : Array Value) : (heldW os args).variablesRefB Tryz.prog = true := by kernel_rfl
set_option maxRecDepth 100000 in
theorem w_rest (os : Os) (args : Array Value) : ((heldW os args).heap.toList.drop Tryz.prog.globals.size).take ((begin Tryz.prog (fun _ _ => 0) default).world.heap.size - Tryz.prog.globals.size) =
      (begin Tryz.prog (fun _ _ => 0) default).world.heap.toList.drop Tryz.prog.globals.size := by kernel_rfl
end Go.Proofs.YtapnoohglfhgeaaGreatDoor
end
section
/-
  EnvClasses: the row and the card, if the contract holds.
-/
namespace Go.Proofs.YtapnoohglfhgeaaGreatDoor
open Go
open Go.ChangeShapes Go.WideShapes Go.ChangeAt Go.RowKit
theorem own : ownKnob Tryz.prog.godebug = none := by kernel_rfl
/-- The contract. -/
def Contract : Prop := ∀ (H : Type) (enc : TypeId × Value → H) (W : World) (base : Nat) (args : Array Value) (ds gs : List (DataW H)) (before : List MemPlace),
    (∀ (j : Nat) t v, Tryz.f4.params[j]? = some t → args[j]? = some v → Value.okWide Tryz.prog W .any base t v) →
    (DataW.Whole enc Tryz.prog Tryz.f4.params.toList Rows.envClassesSpec.vars false W args.toList ds gs before) → ((DataW.weightsEach Tryz.prog (Tryz.f4.params.toList ++ (OpenSpec.ofChange Rows.envClassesSpec).bare.plain.varTypes Tryz.prog) (ds ++ gs)).all (· ≤ reachBytes) = true) → (laidMetH Tryz.prog laids W) → (W.ShapedOpen Tryz.prog) →
    Calls Tryz.prog 4 args W fun e W' => ∃ v, e = .returned v ∧ Rows.envClassesSpec.post enc Tryz.prog Tryz.f4 false true false false W args v W'
def noneV : Array Value := #[.agg #[.int .i64 0, .slice none 0 0, .int .i64 0, .slice none 0 0, .slice none 0 0]]
theorem reads (os : Os) {H : Type} (enc : TypeId × Value → H) : ∃ places, DataW.whole enc Tryz.prog (heldW os noneV).memory Tryz.f4.params.toList Rows.envClassesSpec.vars false noneV.toList 8 = some ([.agg [.lit (.int .i64 0), .agg [.nil, .lit (.int .i64 0)], .nil, .nil]], [], places) :=
  ⟨[], by kernel_rfl⟩
set_option maxRecDepth 100000 in
theorem lifted (os : Os) (started : os.Started) (H : Type) (enc : TypeId × Value → H) (F : Stop.Interp) (hC : Contract) :
    ReturnsInHanded {} Tryz.checked os 4 .any ((OpenSpec.ofChange Rows.envClassesSpec).preRow enc Tryz.prog Tryz.f4 Rows.envClassesRow.domain false Rows.envClassesRow.laid) (((OpenSpec.ofChange Rows.envClassesSpec).at F).post enc Tryz.prog Tryz.f4 false true false false) := by
  obtain ⟨places, hx⟩ := reads os enc
  refine returnsInHanded_of_row (C := Tryz.checked) (s := OpenSpec.ofChange Rows.envClassesSpec) own started (by kernel_rfl) Tryz.func4
    (witness_row_atRef (enc := enc) (C := Tryz.checked) false (laidW os) noneV (laidW_os os) (w_vars os _) (w_rest os _) (by kernel_rfl)
      (OpenSpec.preRow_of_cond 8 hx (by kernel_rfl) (fun k hk => by cases hk) (by kernel_rfl) (laid_met os _))) ?_
  intro W base args ds gs before hval hW _ _ hz hL hS _
  exact hC H enc W base args ds gs before hval hW hz hL hS
theorem said (hC : Contract) : Rows.EnvClassesSaid :=
  OpenClaim.holds_of_cond 4 Tryz.f4 rfl rfl rfl rfl rfl rfl rfl ⟨rfl, rfl, rfl, rfl, rfl⟩ rfl rfl rfl rfl rfl (by kernel_rfl) Tryz.func4 (by kernel_rfl)
    (of_decide_eq_true (by kernel_rfl)) (by unfold Func.isWrapper; first | (rw [if_pos (by decide +kernel)]; kernel_rfl) | (rw [if_neg (by decide +kernel)]; exact ⟨rfl, rfl⟩))
    (fun os started H enc _ F => by rw [OpenClaim.pre_eq_preRow]; exact lifted os started H enc F hC)
theorem plain (f : FuncId) (fn : Func) (hf : Tryz.pinned.checked.prog.funcNamed "trefoil/trefoillaw14.EnvClasses" = some f) (hfn : Tryz.pinned.checked.prog.funcs[f]? = some fn) :
    true = Tryz.pinned.checked.prog.looks [] ∧ ∀ (j : Nat) t, fn.params[j]? = some t → Tryz.pinned.checked.prog.wantsStandIn t = false := by
  obtain rfl : f = 4 := Option.some.inj ((show Tryz.prog.funcNamed "trefoil/trefoillaw14.EnvClasses" = some 4 by kernel_rfl).symm.trans hf) |>.symm
  obtain rfl : fn = Tryz.f4 := (Option.some.inj (Tryz.func4.symm.trans hfn)).symm
  refine ⟨by kernel_rfl, fun j t ht => ?_⟩
  rw [Tryz.params4] at ht
  obtain rfl : t = 40 := by simpa using Array.mem_of_getElem? ht
  exact (show Tryz.prog.wantsStandIn 40 = false by kernel_rfl)
/-- The card, if the contract holds. -/
theorem cardOf (hC : Contract) : Rows.EnvClassesCardSaid :=
  Claim7.holds_tied_plain_at .later [] _ _ _ _ (said hC) (fun _ h => by cases h) (by kernel_rfl) (fun _ h => by cases h) envClasses_row_tie rfl ⟨rfl, rfl⟩ (by kernel_rfl) rfl plain (by kernel_rfl)
end Go.Proofs.YtapnoohglfhgeaaGreatDoor
end
