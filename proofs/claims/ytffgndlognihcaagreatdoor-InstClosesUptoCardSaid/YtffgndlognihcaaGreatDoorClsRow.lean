/-
  The statement InstCloses holds of the given program: at every graph it answers true and never panics.
  Conditions: those of the given row InstClosesUptoCardSaid alone (what is handed in reads as at most 1048576 values and letters).
-/
import Derived.Test.YtffgndlognihcaaGreatDoorP19
import Derived.Test.YtffgndlognihcaaGreatDoorP21
import Derived.Test.YtffgndlognihcaaGreatDoorP22
import Derived.OpenShut
import Derived.LaidHandle
import Derived.JoinedCond
import Derived.SevenTiedAt
set_option linter.all false
section
/-
  What is closed is an instance of what it was: the law's walk.
-/
namespace Go.Ab.S
open Go.Ab
set_option maxHeartbeats 1500000
section
variable {fns : FuncId → Option AFunc} {summ : FuncId → List AVal → AHeap → Option (D (AVal × AHeap))}
variable (H : Has fns summ) (HR : HasRead summ)
include H HR
theorem InstCloses_ok (g : Graph) (hg : Sane g) (v : AVal) (h0 : AHeap) (hw : WF h0) (hv : GraphAt h0 v g) : Cl fns summ 4 [v] h0 fun r h' => r = .bool true ∧ Grow h0 h' := by
  obtain ⟨nv, rfl, hN⟩ := hv
  refine H.go (fn := F_InstCloses) rfl (by decide) rfl rfl ?_
  unfold F_InstCloses
  dsimp only
  refine cd_seq (cd_ops ?_)
  refine st_box (by exact e1) (by exact cc) hw ?_
  rintro b1 h1 hb1 G o1
  clear hb1
  have p1 : partA (some 2) [nv, .int .i64 g.root] 0 = some (.agg [nv, .int .i64 g.root]) := rfl
  have ht2 : ∀ x y : AVal, List.take 2 [x, y] = [x, y] := fun _ _ => rfl
  repeat with_reducible first | refine nxt_normal ?_ | refine st_nil ?_ | refine cd_seq ?_ | refine cd_ops ?_ | (apply st_q; exact q1)
  refine st_call (by exact s1) ((alive11_ok H HR h1 G.wf).mono ?_)
  rintro _ h2 ⟨rfl, g2⟩
  replace o1 := g2.keep _ _ o1
  replace G := G.trans g2
  clear g2
  repeat with_reducible first | refine nxt_normal ?_ | refine st_nil ?_ | refine cd_seq ?_ | refine cd_ops ?_ | refine cd_skip ?_ | (apply st_q; exact q1) | (apply cd_condF; exact e1)
  refine st_call (by exact s1) ((Great_ok H g hg.great _ h2 G.wf ⟨nv, rfl, hN.mono G⟩).mono ?_)
  rintro _ h3 ⟨rfl, g3⟩
  replace o1 := g3.keep _ _ o1
  replace G := G.trans g3
  clear g3
  cases c1 : decide ((greatF g : Int) > 300)
  rotate_left
  · repeat' with_reducible first | refine nxt_normal ?_ | refine nxt_ret ?_ | refine st_nil ?_ | refine cd_seq ?_ | refine cd_ops ?_ | refine cd_ret ?_ | (apply st_q; exact q1) | (apply st_qF; exact e1) | (apply st_eF; exact e1) | (apply cd_condT; exact e1) | (apply fin_ret; exact n1; exact r1)
    exact ⟨rfl, G⟩
  have tg : Hid (GTi g) := ⟨hg.tiny (by simp at c1; omega)⟩
  repeat with_reducible first | (apply st_q; exact q1) | (apply st_qT; exact e1; exact q1)
  refine st_callT (by exact e1) (by exact s1) ((Check_ok H g hg.sm _ h3 G.wf ⟨nv, rfl, hN.mono G⟩).mono ?_)
  rintro _ h4 ⟨rfl, g4⟩
  replace o1 := g4.keep _ _ o1
  replace G := G.trans g4
  clear g4
  cases c2 : (checkF g != 0)
  rotate_left
  · repeat' with_reducible first | refine nxt_normal ?_ | refine nxt_ret ?_ | refine st_nil ?_ | refine cd_seq ?_ | refine cd_ops ?_ | refine cd_ret ?_ | (apply st_q; exact q1) | (apply st_qT; exact e1; exact q1) | (apply cd_condT; exact e1) | (apply fin_ret; exact n1; exact r1)
    exact ⟨rfl, G⟩
  have cg : Hid (checkF g = 0) := ⟨by simpa using c2⟩
  have f0 := Hid.mk (close_tiny tg.out cg.out)
  have f1 := Hid.mk (close_closed cg.out)
  have f2 := Hid.mk (is_close tg.out f0.out cg.out)
  have f3 := Hid.mk (close_close cg.out)
  have f4 := Hid.mk (close_same cg.out)
  have f5 := Hid.mk (close_back tg.out cg.out)
  repeat with_reducible first | refine nxt_normal ?_ | refine st_nil ?_ | refine cd_seq ?_ | refine cd_ops ?_ | refine cd_skip ?_ | (apply st_q; exact q1) | (apply st_qT; exact e1; exact q1) | (apply cd_condF; exact e1)
  refine st_call (by exact s1) ((Close_ok H g tg.out _ h4 G.wf ⟨nv, rfl, hN.mono G⟩).mono ?_)
  rintro _ h5 ⟨⟨cn, rfl, hC⟩, g5⟩
  replace o1 := g5.keep _ _ o1
  replace G := G.trans g5
  clear g5
  generalize hCC : closeF g = C at *
  clear hCC
  have hone : one cn = true := one_of_len hC.len
  skip
  refine st_alloc G.wf ?_
  rintro b3 h6 hb3 g6 o3
  refine st_store (by exact e1) (by exact e1) (cs := [cn, .int .i64 C.root]) rfl rfl g6.wf o3 (by simp) (by rw [List.all_cons, List.all_cons, hone]; rfl) ?_
  rintro v7 h7 p7 o7
  simp only [List.take_zero, List.nil_append, List.length_cons, List.length_nil, List.drop_succ_cons, List.drop_zero, List.append_nil, Nat.zero_add, Nat.reduceAdd, List.drop_nil, List.cons_append] at o7
  have g57 : Grow h5 h7 := p7.grow h5 G.wf g6 hb3
  replace o1 := g57.keep _ _ o1
  replace G := G.trans g57
  replace hC := hC.mono g57
  have p3 : partA (some 2) [cn, .int .i64 C.root] 0 = some (.agg [cn, .int .i64 C.root]) := rfl
  clear o3 p7 g6 g57 hb3
  replace hN := hN.mono G
  have w7 := G.wf
  repeat with_reducible first | refine nxt_normal ?_ | refine st_nil ?_ | refine cd_seq ?_ | refine cd_draw ?_ | (apply dr_ql; exact q1; exact og1)
  refine dr_e (ex_callF (by exact s1) ((Closed_ok H C f0.out _ h7 w7 ⟨cn, rfl, hC⟩).mono ?_))
  rw [f1.out]
  rintro _ h8 ⟨rfl, k8⟩
  have o18 := k8.keep _ _ o1
  have o38 := k8.keep _ _ o7
  refine ⟨by simp [heldOk, Nat.testBit, o18, o38], ?_⟩
  clear o1 o7
  repeat with_reducible first | (apply dr_gT; exact e1) | (apply dr_q; exact q1) | (apply dr_ql; exact q1; exact og1)
  refine dr_e (ex_callF (by exact s1) ((Is_ok H g C tg.out f0.out _ _ h8 k8.wf ⟨nv, rfl, hN.mono k8⟩ ⟨cn, rfl, hC.mono k8⟩).mono ?_))
  rw [f2.out]
  rintro _ h9 ⟨rfl, k9⟩
  have o19 := k9.keep _ _ o18
  have o39 := k9.keep _ _ o38
  refine ⟨by simp [heldOk, Nat.testBit, o19, o39], ?_⟩
  have K9 := k8.trans k9
  clear o18 o38 k8 k9
  repeat with_reducible first | (apply dr_gT; exact e1) | (apply dr_q; exact q1) | (apply dr_ql; exact q1; exact og1)
  refine dr_e (ex_callF (by exact s1) ((Close_ok H C f0.out _ h9 K9.wf ⟨cn, rfl, hC.mono K9⟩).mono ?_))
  rw [f3.out]
  rintro _ h10 ⟨⟨dn, rfl, hD⟩, k10⟩
  have o110 := k10.keep _ _ o19
  have o310 := k10.keep _ _ o39
  refine ⟨by simp [heldOk, Nat.testBit, o110, o310], ?_⟩
  have K10 := K9.trans k10
  clear o19 o39 k10
  repeat with_reducible (apply dr_gT; exact e1)
  refine dr_e (ex_callF (by exact s1) ((Equal_ok H C f0.out.toGraphSm _ _ h10 K10.wf ⟨dn, rfl, hD⟩ ⟨cn, rfl, hC.mono K10⟩).mono ?_))
  rintro _ h11 ⟨rfl, k11⟩
  have o111 := k11.keep _ _ o110
  have o311 := k11.keep _ _ o310
  refine ⟨by simp [heldOk, Nat.testBit, o111, o311], ?_⟩
  have K11 := K10.trans k11
  clear o110 o310 k11 K9 K10 hD
  repeat with_reducible first | (apply dr_gT; exact e1) | (apply dr_q; exact q1) | (apply dr_ql; exact q1; exact og1)
  refine dr_e (ex_callF (by exact s1) ((Closed_ok H g tg.out _ h11 K11.wf ⟨nv, rfl, hN.mono K11⟩).mono ?_))
  rintro _ h12 ⟨rfl, k12⟩
  have o112 := k12.keep _ _ o111
  have o312 := k12.keep _ _ o311
  refine ⟨by simp [heldOk, Nat.testBit, o112, o312], ?_⟩
  have K12 := K11.trans k12
  clear o111 o311 k12 K11
  repeat with_reducible (apply dr_gT; exact e1)
  refine dr_e (ex_callF (by exact s1) ((Same_ok H g C tg.out f0.out _ _ h12 K12.wf ⟨nv, rfl, hN.mono K12⟩ ⟨cn, rfl, hC.mono K12⟩).mono ?_))
  rw [← f4.out]
  rintro _ h13 ⟨rfl, k13⟩
  have o113 := k13.keep _ _ o112
  have o313 := k13.keep _ _ o312
  refine ⟨by simp [heldOk, Nat.testBit, o113, o313], ?_⟩
  have K13 := K12.trans k13
  clear o112 o312 k13 K12
  have hbb : ∀ b : Bool, (b == b) = true := fun b => by cases b <;> rfl
  generalize hcl : closedF g = bb at *
  replace hcl := Hid.mk hcl
  repeat with_reducible first | (apply dr_gT; exact e1) | (apply dr_q; exact q1) | (apply dr_ql; exact q1; exact og1)
  refine dr_e (ex_callF (by exact s1) ((Is_ok H C g f0.out tg.out _ _ h13 K13.wf ⟨cn, rfl, hC.mono K13⟩ ⟨nv, rfl, hN.mono K13⟩).mono ?_))
  rw [f5.out]
  rintro _ h14 ⟨rfl, k14⟩
  have o114 := k14.keep _ _ o113
  have o314 := k14.keep _ _ o313
  refine ⟨by simp [heldOk, Nat.testBit, o114, o314], ?_⟩
  have K14 := K13.trans k14
  clear o113 o313 k14 K13
  repeat with_reducible (apply dr_gT; exact e1)
  refine dr_e (ex_callF (by exact s1) ((Closed_ok H g tg.out _ h14 K14.wf ⟨nv, rfl, hN.mono K14⟩).mono ?_))
  rw [hcl.out]
  rintro _ h15 ⟨rfl, k15⟩
  have o115 := k15.keep _ _ o114
  have o315 := k15.keep _ _ o314
  refine ⟨by simp [heldOk, Nat.testBit, o115, o315], ?_⟩
  repeat' with_reducible first | refine nxt_normal ?_ | refine cd_ret ?_ | refine dr_nil ?_ | (apply dr_gT; exact e1) | (apply dr_q; exact q1) | (apply fin_ret; exact n1; exact r1)
  exact ⟨rfl, G.trans (K14.trans k15)⟩
end
end Go.Ab.S
end
section
/-
  InstCloses: the contract.
-/
namespace Go.Proofs.YtffgndlognihcaaGreatDoor
open Go Go.Ab Go.Ab.S
open Go.ChangeShapes Go.WideShapes Go.ChangeAt Go.RowKit
theorem laidOut : laidOutB Tryz.prog = true := by kernel_rfl
theorem own : ownKnob Tryz.prog.godebug = none := by kernel_rfl
theorem stays {H : Type} {enc : TypeId × Value → H} {W W' : World} {v : Value} {d : DataW H} {ps : List MemPlace} (h : DataW.Trod enc Tryz.prog W 0 (fun _ => true) true 24 v d ps) (hb : Below W.heap.size W W') (hlt : ∀ x ∈ ps, x.block < W.heap.size) (sp : Nat → Bool) (hs : ∀ p ∈ ps, sp p.block = true) : DataW.Trod enc Tryz.prog W' 0 sp true 24 v d ps :=
  WideElems.Trod_stays laidOut (by kernel_rfl) (of_decide_eq_true (by kernel_rfl)) h (fun x hx => hb.same (hlt x hx)) hs
set_option maxRecDepth 100000 in
/-- A struct is an aggregate. -/
theorem agg_of {W : World} {base : Nat} {v : Value} (h : Value.okWide Tryz.prog W .any base 24 v) : ∃ cs, v = .agg cs := by
  obtain ⟨cs, h, _⟩ := okWide_struct Tryz.underlying24 h
  exact ⟨cs, h⟩
set_option maxRecDepth 100000 in
theorem contract (H : Type) (enc : TypeId × Value → H) (W : World) (base : Nat) (args : Array Value) (ds gs : List (DataW H)) (before : List MemPlace)
    (hval : ∀ (j : Nat) t v, Tryz.f4.params[j]? = some t → args[j]? = some v → Value.okWide Tryz.prog W .any base t v)
    (hW : DataW.Whole enc Tryz.prog Tryz.f4.params.toList Rows.instClosesSpec.vars false W args.toList ds gs before) (hk : Rows.uptoSmall H (ds ++ gs) = true) (hL : laidMetH Tryz.prog laids W) (hS : W.ShapedOpen Tryz.prog) :
    Calls Tryz.prog 4 args W fun e W' => ∃ v, e = .returned v ∧ Rows.instClosesSpec.post enc Tryz.prog Tryz.f4 false true false false W args v W' := by
  have hW' := hW
  have hlt := hW.lt
  obtain ⟨p, q, hA0, hV, rfl, _, _⟩ := hW
  have hA : DataW.TrodAll enc Tryz.prog W 0 (fun _ => true) true Tryz.f4.params.toList args.toList ds p := hA0
  have hval' := hval
  rw [Tryz.params4] at hA hval'
  obtain ⟨v, d, rfl, rfl, h0⟩ := trodAll_one hA
  obtain ⟨rfl, rfl⟩ := trodVars_none hV
  obtain ⟨c0, rfl⟩ := agg_of (hval' 0 24 v rfl rfl)
  have hk := of_decide_eq_true hk
  simp only [List.append_nil, Rows.uptoBulkAll] at hk
  have hN := globs_le hS
  obtain ⟨G1, k1, R1, g1, w1, a0, x0, b0, e0, s0⟩ := lay_graph gtypes (meas H) h0 (rel_zero hN) wf_zero
  have walk : Calls Tryz.prog 4 #[.agg c0] W (Tells W) := by
    refine tells_of (args := [a0]) (wok hL hS hN) R1 ⟨_, _, rfl, b0, rfl⟩ ?_
    exact (InstCloses_ok hasTab hasRead x0 (sane_of (by omega)) a0 k1 w1.wf e0).mono fun _ _ h => h.1
  refine walk.mono fun e W' ⟨he, hb⟩ => ?_
  subst he
  refine ⟨_, rfl, post_of_tells (pa := p) (pv := []) hW' (fun _ _ _ => trodAll_cons_mk (shut_bool Tryz.underlying4 _) trodAll_mk0) (fun sp hs => ?_) (fun _ _ => rfl) (by simp) hb (RowKit.ok_one (by kernel_rfl) rfl (okWide_bool_mk Tryz.underlying4 _))⟩
  exact trodAll_mk1 (stays h0 hb (fun x hx => hlt x (by simp [hx])) sp fun x hx => hs x (by simp [hx]))
end Go.Proofs.YtffgndlognihcaaGreatDoor
end
section
/-
  The world that the rows' condition is met in.
-/
namespace Go.Proofs.YtffgndlognihcaaGreatDoor
open Go
noncomputable def handleW (os : Os) : World :=
  { World.holding Tryz.prog os ⟨#[], #[], []⟩ with heap := (World.holding Tryz.prog os ⟨#[], #[], []⟩).heap.modify 0 fun
      | .cells _ t frozen => .cells #[.iface 185 (.agg #[.pointer (some ⟨12, 102, none⟩)])] t frozen
      | o => o }
def plainLaids : List (String × DataW Unit) := laids.filter fun x => x.2.handleName?.isNone
noncomputable def laidW (os : Os) : World := (handleW os).layVars Tryz.prog plainLaids
theorem laidW_os (os : Os) : (laidW os).os = os := World.layVars_os _ _ _
noncomputable abbrev heldW (os : Os) (args : Array Value) : World := (laidW os).forCall (fun _ _ => 0) ⟨#[], args, []⟩
theorem noGreat : (plainLaids.filter fun x => !(plainLaids.map (·.1)).contains x.1) = [] := by kernel_rfl
set_option maxRecDepth 100000 in
theorem laid_met (os : Os) (args : Array Value) : laidMetH Tryz.prog laids (heldW os args).memory := by
  refine laidMetH_of_parts ?_ (by kernel_rfl)
  have h : laidMet Tryz.prog plainLaids (laidW os) := laidMet_layVars (w0 := handleW os) (plainLaids.map (·.1)) [] (by kernel_rfl) (by kernel_rfl) (by kernel_rfl) (by rw [noGreat]; exact LaidIn.none)
  exact h.of_heap (by simp [heldW, World.memory, World.forCall, Input.heap])
set_option maxRecDepth 100000 in
theorem w_vars (os : Os) (args : Array Value) : (heldW os args).variablesRefB Tryz.prog = true := by kernel_rfl
set_option maxRecDepth 100000 in
theorem w_rest (os : Os) (args : Array Value) : ((heldW os args).heap.toList.drop Tryz.prog.globals.size).take ((begin Tryz.prog (fun _ _ => 0) default).world.heap.size - Tryz.prog.globals.size) =
      (begin Tryz.prog (fun _ _ => 0) default).world.heap.toList.drop Tryz.prog.globals.size := by kernel_rfl
end Go.Proofs.YtffgndlognihcaaGreatDoor
end
section
/-
  InstCloses: the row and the card.
-/
namespace Go.Proofs.YtffgndlognihcaaGreatDoor
open Go Go.Ab Go.Ab.S
open Go.ChangeShapes Go.WideShapes Go.ChangeAt Go.RowKit
def none0 : Value := .agg #[.slice none 0 0, .int .i64 0]
def noneD {H : Type} : DataW H := .agg [.nil, .lit (.int .i64 0)]
def clsArgs : Array Value := #[none0]
theorem reads (os : Os) {H : Type} (enc : TypeId × Value → H) : ∃ places, DataW.whole enc Tryz.prog (heldW os clsArgs).memory Tryz.f4.params.toList Rows.instClosesSpec.vars false clsArgs.toList 8 = some ([noneD], [], places) :=
  ⟨[], by kernel_rfl⟩
set_option maxRecDepth 100000 in
theorem lifted (os : Os) (started : os.Started) (H : Type) (enc : TypeId × Value → H) (F : Stop.Interp) :
    ReturnsInHanded {} Tryz.checked os 4 .any ((Rows.OpenSpec.upto Rows.instClosesSpec).preRow enc Tryz.prog Tryz.f4 Rows.instClosesUptoRow.domain false Rows.instClosesUptoRow.laid) (((Rows.OpenSpec.upto Rows.instClosesSpec).at F).post enc Tryz.prog Tryz.f4 false true false false) := by
  obtain ⟨places, hx⟩ := reads os enc
  refine returnsInHanded_of_row (C := Tryz.checked) (s := Rows.OpenSpec.upto Rows.instClosesSpec) own started (by kernel_rfl) Tryz.func4
    (witness_row_atRef (enc := enc) (C := Tryz.checked) false (laidW os) clsArgs (laidW_os os) (w_vars os _) (w_rest os _) (by kernel_rfl)
      (OpenSpec.preRow_of_cond 8 hx (by kernel_rfl) (fun k hk => by cases hk; kernel_rfl) (by kernel_rfl) (laid_met os _))) ?_
  intro W base args ds gs before hval hW _ hcond _ hL hS _
  exact contract H enc W base args ds gs before hval hW (hcond _ rfl) hL hS
theorem saidUpto : Rows.InstClosesUptoSaid :=
  OpenClaim.holds_of_cond 4 Tryz.f4 rfl rfl rfl rfl rfl rfl rfl ⟨rfl, rfl, rfl, rfl, rfl⟩ rfl rfl rfl rfl rfl (by kernel_rfl) Tryz.func4 (by kernel_rfl)
    (of_decide_eq_true (by kernel_rfl)) (by unfold Func.isWrapper; first | (rw [if_pos (by decide +kernel)]; kernel_rfl) | (rw [if_neg (by decide +kernel)]; exact ⟨rfl, rfl⟩))
    (fun os started H enc _ F => by rw [OpenClaim.pre_eq_preRow]; exact lifted os started H enc F)
theorem plain (f : FuncId) (fn : Func) (hf : Tryz.pinned.checked.prog.funcNamed "trefoil/trefoillaw11.InstCloses" = some f) (hfn : Tryz.pinned.checked.prog.funcs[f]? = some fn) :
    true = Tryz.pinned.checked.prog.looks [] ∧ ∀ (j : Nat) t, fn.params[j]? = some t → Tryz.pinned.checked.prog.wantsStandIn t = false := by
  obtain rfl : f = 4 := Option.some.inj ((show Tryz.prog.funcNamed "trefoil/trefoillaw11.InstCloses" = some 4 by kernel_rfl).symm.trans hf) |>.symm
  obtain rfl : fn = Tryz.f4 := (Option.some.inj (Tryz.func4.symm.trans hfn)).symm
  refine ⟨by kernel_rfl, fun j t ht => ?_⟩
  rw [Tryz.params4] at ht
  obtain rfl : t = 24 := by simpa using Array.mem_of_getElem? ht
  exact (show Tryz.prog.wantsStandIn 24 = false by kernel_rfl)
/-- The card. -/
theorem cardUpto : Rows.InstClosesUptoCardSaid :=
  Claim7.holds_tied_plain_at .later [] _ _ _ _ saidUpto (fun _ h => by cases h) (by kernel_rfl) (fun _ h => by cases h) instClosesUpto_row_tie rfl ⟨rfl, rfl⟩ (by kernel_rfl) rfl plain (by kernel_rfl)
#print axioms cardUpto
end Go.Proofs.YtffgndlognihcaaGreatDoor
end
