import Derived.Test.YtffgndlognihcaaGreatDoorP25
import Derived.LaidHandle
import Derived.Lay
import Derived.Deep.DeepWitnessRowRef
import Derived.ProofKit
import Derived.KernelRfl
import Derived.JoinedCond
import Derived.SevenTiedAt
/-
  Part 27 of the proof.
-/
set_option linter.all false
section
namespace Go.Proofs.YtffgndlognihcaaGreatDoor
open Go
noncomputable def zOF(os:Os):World:=
 {World.holding Tryz.prog os ⟨#[], #[],[]⟩ with heap:=(World.holding Tryz.prog os ⟨#[], #[],[]⟩).heap.modify 0 fun
   | .cells _ t frozen=>.cells #[.iface 185 (.agg #[.pointer (some ⟨12,102,none⟩)])] t frozen
   |o=>o}
def zEF:List (String×DataW Unit):=zOO.filter fun x=>x.2.handleName?.isNone
noncomputable def laidW(os:Os):World:=(zOF os).layVars Tryz.prog zEF
theorem laidW_os(os:Os):(laidW os).os=os:=World.layVars_os _ _ _
noncomputable abbrev zOH(os:Os)(args:Array Value):World:=(laidW os).forCall (fun _ _=>0) ⟨#[],args,[]⟩
theorem noGreat:(zEF.filter fun x=> !(zEF.map (·.1)).contains x.1)=[]:=by kernel_rfl
set_option maxRecDepth 100000 in
theorem laid_met(os:Os)(args:Array Value):laidMetH Tryz.prog zOO (zOH os args).memory:=by
 refine laidMetH_of_parts ?_ (by kernel_rfl)
 have h:laidMet Tryz.prog zEF (laidW os):=laidMet_layVars (w0:=zOF os) (zEF.map (·.1)) [] (by kernel_rfl) (by kernel_rfl) (by kernel_rfl) (by rw[noGreat];exact LaidIn.none)
 exact h.of_heap (by simp[zOH,World.memory,World.forCall,Input.heap])
set_option maxRecDepth 100000 in
theorem w_vars(os:Os)(args:Array Value):(zOH os args).variablesRefB Tryz.prog=true:=by kernel_rfl
set_option maxRecDepth 100000 in
theorem w_rest (os : Os) (args : Array Value) : ((zOH os args).heap.toList.drop Tryz.prog.globals.size).take ((begin Tryz.prog (fun _ _ => 0) default).world.heap.size - Tryz.prog.globals.size) =
      (begin Tryz.prog (fun _ _=>0) default).world.heap.toList.drop Tryz.prog.globals.size:=by kernel_rfl
end Go.Proofs.YtffgndlognihcaaGreatDoor
end
section
namespace Go.Proofs.YtffgndlognihcaaGreatDoor
open Go
open Go.ChangeShapes Go.WideShapes Go.ChangeAt Go.RowKit
theorem own:ownKnob Tryz.prog.godebug=none:=by kernel_rfl
def Contract:Prop:=∀(H:Type) (enc:TypeId×Value->H) (W:World) (base:Nat) (args:Array Value) (ds gs:List (DataW H)) (before:List MemPlace),
  (∀(j:Nat) t v,Tryz.f6.params[j]?=some t->args[j]?=some v->Value.okWide Tryz.prog W .any base t v) →
  (DataW.Whole enc Tryz.prog Tryz.f6.params.toList Rows.instMeetsSpec.vars false W args.toList ds gs before)->(Rows.uptoSmall H (ds++gs)=true)->(laidMetH Tryz.prog zOO W)->(W.ShapedOpen Tryz.prog) →
  Calls Tryz.prog 6 args W fun e W'=>∃v,e=.returned v/\Rows.instMeetsSpec.post enc Tryz.prog Tryz.f6 false true false false W args v W'
def noneV:Array Value:= #[.agg #[.slice none 0 0,.int .i64 0],.agg #[.slice none 0 0,.int .i64 0]]
theorem reads(os:Os){H:Type}(enc:TypeId×Value->H):∃places,DataW.whole enc Tryz.prog (zOH os noneV).memory Tryz.f6.params.toList Rows.instMeetsSpec.vars false noneV.toList 8=some ([.agg [.nil,.lit (.int .i64 0)],.agg [.nil,.lit (.int .i64 0)]],[],places):=
 ⟨[],by kernel_rfl⟩
set_option maxRecDepth 100000 in
theorem lifted(os:Os)(started:os.Started)(H:Type)(enc:TypeId×Value->H)(F:Stop.Interp)(hC:Contract):
  ReturnsInHanded {} Tryz.checked os 6 .any ((Rows.OpenSpec.upto Rows.instMeetsSpec).preRow enc Tryz.prog Tryz.f6 Rows.instMeetsUptoRow.domain false Rows.instMeetsUptoRow.laid) (((Rows.OpenSpec.upto Rows.instMeetsSpec).at F).post enc Tryz.prog Tryz.f6 false true false false):=by
 obtain⟨places,hx⟩:=reads os enc
 refine returnsInHanded_of_row (C:=Tryz.checked) (s:=Rows.OpenSpec.upto Rows.instMeetsSpec) own started (by kernel_rfl) Tryz.func6
  (witness_row_atRef (enc:=enc) (C:=Tryz.checked) false (laidW os) noneV (laidW_os os) (w_vars os _) (w_rest os _) (by kernel_rfl)
   (OpenSpec.preRow_of_cond 8 hx (by kernel_rfl) (fun k hk=>by cases hk;kernel_rfl) (by kernel_rfl) (laid_met os _))) ?_
 intro W base args ds gs before hval hW _ hcond _ hL hS _
 exact hC H enc W base args ds gs before hval hW (hcond _ rfl) hL hS
theorem saidUpto(hC:Contract):Rows.InstMeetsUptoSaid:=
 OpenClaim.holds_of_cond 6 Tryz.f6 rfl rfl rfl rfl rfl rfl rfl ⟨rfl,rfl,rfl,rfl,rfl⟩ rfl rfl rfl rfl rfl (by kernel_rfl) Tryz.func6 (by kernel_rfl)
  (of_decide_eq_true (by kernel_rfl)) (by unfold Func.isWrapper;first|(rw[if_pos (by decide+kernel)];kernel_rfl)|(rw[if_neg (by decide+kernel)];exact⟨rfl,rfl⟩))
  (fun os started H enc _ F=>by rw[OpenClaim.pre_eq_preRow];exact lifted os started H enc F hC)
theorem plain(f:FuncId)(fn:Func)(hf:Tryz.pinned.checked.prog.funcNamed "trefoil/trefoillaw11.InstMeets" =some f)(hfn:Tryz.pinned.checked.prog.funcs[f]?=some fn):
  true=Tryz.pinned.checked.prog.looks []/\∀(j:Nat) t,fn.params[j]?=some t->Tryz.pinned.checked.prog.wantsStandIn t=false:=by
 obtain rfl:f=6:=Option.some.inj ((show Tryz.prog.funcNamed "trefoil/trefoillaw11.InstMeets" =some 6 by kernel_rfl).symm.trans hf) |>.symm
 obtain rfl:fn=Tryz.f6:=(Option.some.inj (Tryz.func6.symm.trans hfn)).symm
 refine⟨by kernel_rfl,fun j t ht=>?_⟩
 rw[Tryz.params6] at ht
 match j,ht with
 |0,ht=>
  obtain rfl:t=24:=by simpa using ht.symm
  exact(show Tryz.prog.wantsStandIn 24=false by kernel_rfl)
 |1,ht=>
  obtain rfl:t=24:=by simpa using ht.symm
  exact(show Tryz.prog.wantsStandIn 24=false by kernel_rfl)
 |j+2,ht=>simp at ht
theorem cardOf(hC:Contract):Rows.InstMeetsUptoCardSaid:=
 Claim7.holds_tied_plain_at .later [] _ _ _ _ (saidUpto hC) (fun _ h=>by cases h) (by kernel_rfl) (fun _ h=>by cases h) instMeetsUpto_row_tie rfl ⟨rfl,rfl⟩ (by kernel_rfl) rfl plain (by kernel_rfl)
end Go.Proofs.YtffgndlognihcaaGreatDoor
end
