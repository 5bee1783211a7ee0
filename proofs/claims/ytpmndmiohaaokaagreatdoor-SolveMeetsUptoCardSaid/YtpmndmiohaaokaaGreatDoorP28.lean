import Derived.Test.YtpmndmiohaaokaaGreatDoorP25
import Derived.LaidHandle
import Derived.Lay
import Derived.Deep.DeepWitnessRowRef
import Derived.ProofKit
import Derived.KernelRfl
import Derived.JoinedCond
import Derived.SevenTiedAt
/-
  Part 28 of the proof.
-/
set_option linter.all false
section
namespace Go.Proofs.YtpmndmiohaaokaaGreatDoor
open Go
noncomputable def zOb(os:Os):World:=
 {World.holding Tryz.prog os ⟨#[], #[],[]⟩ with heap:=(World.holding Tryz.prog os ⟨#[], #[],[]⟩).heap.modify 0 fun
   | .cells _ t frozen=>.cells #[.iface 157 (.agg #[.pointer (some ⟨12,60,none⟩)])] t frozen
   |o=>o}
def zEG:List (String×DataW Unit):=zOm.filter fun x=>x.2.handleName?.isNone
noncomputable def zQW(os:Os):World:=(zOb os).layVars Tryz.prog zEG
theorem zQX(os:Os):(zQW os).os=os:=World.layVars_os _ _ _
noncomputable abbrev zOe(os:Os)(args:Array Value):World:=(zQW os).forCall (fun _ _=>0) ⟨#[],args,[]⟩
theorem zSS:(zEG.filter fun x=> !(zEG.map (·.1)).contains x.1)=[]:=by kernel_rfl
set_option maxRecDepth 100000 in
theorem zQY(os:Os)(args:Array Value):laidMetH Tryz.prog zOm (zOe os args).memory:=by refine laidMetH_of_parts ?_ (by kernel_rfl);have h:laidMet Tryz.prog zEG (zQW os):=laidMet_layVars (w0:=zOb os) (zEG.map (·.1)) [] (by kernel_rfl) (by kernel_rfl) (by kernel_rfl) (by rw[zSS];exact LaidIn.none);exact h.of_heap (by simp[zOe,World.memory,World.forCall,Input.heap])
set_option maxRecDepth 100000 in
theorem zUS(os:Os)(args:Array Value):(zOe os args).variablesRefB Tryz.prog=true:=by kernel_rfl
set_option maxRecDepth 100000 in
theorem zUR (os : Os) (args : Array Value) : ((zOe os args).heap.toList.drop Tryz.prog.globals.size).take ((begin Tryz.prog (fun _ _ => 0) default).world.heap.size - Tryz.prog.globals.size) =
      (begin Tryz.prog (fun _ _=>0) default).world.heap.toList.drop Tryz.prog.globals.size:=by kernel_rfl
end Go.Proofs.YtpmndmiohaaokaaGreatDoor
end
section
namespace Go.Proofs.YtpmndmiohaaokaaGreatDoor
open Go
open Go.ChangeShapes Go.WideShapes Go.ChangeAt Go.RowKit
theorem own:ownKnob Tryz.prog.godebug=none:=by kernel_rfl
def Contract:Prop:=∀(H:Type) (enc:TypeId×Value->H) (W:World) (base:Nat) (args:Array Value) (ds gs:List (DataW H)) (before:List MemPlace),
  (∀(j:Nat) t v,Tryz.f4.params[j]?=some t->args[j]?=some v->Value.okWide Tryz.prog W .any base t v) →
  (DataW.Whole enc Tryz.prog Tryz.f4.params.toList Rows.solveMeetsSpec.vars false W args.toList ds gs before)->(Rows.uptoSmall H (ds++gs)=true)->(laidMetH Tryz.prog zOm W)->(W.ShapedOpen Tryz.prog) →
  Calls Tryz.prog 4 args W fun e W'=>∃v,e=.returned v/\Rows.solveMeetsSpec.post enc Tryz.prog Tryz.f4 false true false false W args v W'
def zSU:Array Value:= #[.agg #[.slice none 0 0,.int .i64 0],.agg #[.slice none 0 0,.int .i64 0]]
theorem reads(os:Os){H:Type}(enc:TypeId×Value->H):∃places,DataW.whole enc Tryz.prog (zOe os zSU).memory Tryz.f4.params.toList Rows.solveMeetsSpec.vars false zSU.toList 8=some ([.agg [.nil,.lit (.int .i64 0)],.agg [.nil,.lit (.int .i64 0)]],[],places):=
 ⟨[],by kernel_rfl⟩
set_option maxRecDepth 100000 in
theorem lifted(os:Os)(started:os.Started)(H:Type)(enc:TypeId×Value->H)(F:Stop.Interp)(hC:Contract):
  ReturnsInHanded {} Tryz.checked os 4 .any ((Rows.OpenSpec.upto Rows.solveMeetsSpec).preRow enc Tryz.prog Tryz.f4 Rows.solveMeetsUptoRow.domain false Rows.solveMeetsUptoRow.laid) (((Rows.OpenSpec.upto Rows.solveMeetsSpec).at F).post enc Tryz.prog Tryz.f4 false true false false):=by
 obtain⟨ad,hx⟩:=reads os enc;refine returnsInHanded_of_row (C:=Tryz.checked) (s:=Rows.OpenSpec.upto Rows.solveMeetsSpec) own started (by kernel_rfl) Tryz.func4
  (witness_row_atRef (enc:=enc) (C:=Tryz.checked) false (zQW os) zSU (zQX os) (zUS os _) (zUR os _) (by kernel_rfl)
   (OpenSpec.preRow_of_cond 8 hx (by kernel_rfl) (fun k hk=>by cases hk;kernel_rfl) (by kernel_rfl) (zQY os _))) ?_
 intro W base args ds gs aa ac hW _ ab _ hL hS _;exact hC H enc W base args ds gs aa ac hW (ab _ rfl) hL hS
theorem saidUpto(hC:Contract):Rows.SolveMeetsUptoSaid:=
 OpenClaim.holds_of_cond 4 Tryz.f4 rfl rfl rfl rfl rfl rfl rfl ⟨rfl,rfl,rfl,rfl,rfl⟩ rfl rfl rfl rfl rfl (by kernel_rfl) Tryz.func4 (by kernel_rfl)
  (of_decide_eq_true (by kernel_rfl)) (by unfold Func.isWrapper;first|(rw[if_pos (by decide+kernel)];kernel_rfl)|(rw[if_neg (by decide+kernel)];exact⟨rfl,rfl⟩))
  (fun os aa H enc _ F=>by rw[OpenClaim.pre_eq_preRow];exact lifted os aa H enc F hC)
theorem plain(f:FuncId)(fn:Func)(hf:Tryz.pinned.checked.prog.funcNamed "trefoil/trefoillaw08.SolveMeets" =some f)(hfn:Tryz.pinned.checked.prog.funcs[f]?=some fn):
  true=Tryz.pinned.checked.prog.looks []/\∀(j:Nat) t,fn.params[j]?=some t->Tryz.pinned.checked.prog.wantsStandIn t=false:=by
 obtain rfl:f=4:=Option.some.inj ((show Tryz.prog.funcNamed "trefoil/trefoillaw08.SolveMeets" =some 4 by kernel_rfl).symm.trans hf) |>.symm;obtain rfl:fn=Tryz.f4:=(Option.some.inj (Tryz.func4.symm.trans hfn)).symm;refine⟨by kernel_rfl,fun j t ht=>?_⟩;rw[Tryz.params4] at ht
 match j,ht with
 |0,ht=>
  obtain rfl:t=24:=by simpa using ht.symm
  exact(show Tryz.prog.wantsStandIn 24=false by kernel_rfl)
 |1,ht=>
  obtain rfl:t=24:=by simpa using ht.symm
  exact(show Tryz.prog.wantsStandIn 24=false by kernel_rfl)
 |j+2,ht=>simp at ht
theorem zSz(hC:Contract):Rows.SolveMeetsUptoCardSaid:=
 Claim7.holds_tied_plain_at .later [] _ _ _ _ (saidUpto hC) (fun _ h=>by cases h) (by kernel_rfl) (fun _ h=>by cases h) solveMeetsUpto_row_tie rfl ⟨rfl,rfl⟩ (by kernel_rfl) rfl plain (by kernel_rfl)
end Go.Proofs.YtpmndmiohaaokaaGreatDoor
end
