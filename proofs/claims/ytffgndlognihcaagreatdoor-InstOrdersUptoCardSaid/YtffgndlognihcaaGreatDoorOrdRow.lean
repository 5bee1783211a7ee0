/-
  The statement InstOrders holds of the given program: at every three graphs it answers true and never panics.
  Conditions: those of the given row InstOrdersUptoCardSaid alone (what is handed in reads as at most 1048576 values and letters).
-/
import Derived.Test.YtffgndlognihcaaGreatDoorP21
import Derived.OpenShut
import Derived.LaidHandle
import Derived.JoinedCond
import Derived.SevenTiedAt
set_option linter.all false
section
/-
  A call begins: what is handed is laid out; and ends: what was handed reads as it did.
-/
namespace Go.Proofs
open Go Go.Ab Go.Ab.S
open Go.RowKit (Below)
open Go.ChangeShapes Go.WideShapes Go.ChangeAt
theorem bigT_le (s : List Nat) : bigT s ≤ 1000 := by unfold bigT; split <;> omega
theorem sum_big : ∀ l : List (List Nat), l.length ≤ (l.map fun s => s.length + 1).sum ∧ sumL bigT l ≤ 1000 * (l.map fun s => s.length + 1).sum ∧ ∀ s ∈ l, s.length ≤ (l.map fun s => s.length + 1).sum
  | [] => ⟨by simp, by simp [sumL], fun s hs => by cases hs⟩
  | s :: l => by
    obtain ⟨h1, h2, h3⟩ := sum_big l
    have := bigT_le s
    refine ⟨by simp only [List.map_cons, List.sum_cons, List.length_cons]; omega, by simp only [List.map_cons, List.sum_cons, sumL]; omega, fun t ht => ?_⟩
    simp only [List.map_cons, List.sum_cons]
    rcases List.mem_cons.1 ht with rfl | ht
    · omega
    · have := h3 t ht; omega
theorem greatN_le (n : Ab.Node) : greatN n ≤ 3000 * nodeSize n := by
  have := sum_big n.labels
  have := bigT_le n.name
  simp only [greatN, nodeSize]; omega
theorem great_le : ∀ ns : List Ab.Node, ns.length ≤ (ns.map nodeSize).sum ∧ sumL greatN ns ≤ 3000 * (ns.map nodeSize).sum ∧ ∀ n ∈ ns, nodeSize n ≤ (ns.map nodeSize).sum
  | [] => ⟨by simp, by simp [sumL], fun s hs => by cases hs⟩
  | n :: l => by
    obtain ⟨h1, h2, h3⟩ := great_le l
    have h4 := greatN_le n
    have h5 : 1 ≤ nodeSize n := by simp only [nodeSize]; omega
    refine ⟨by simp only [List.map_cons, List.sum_cons, List.length_cons]; omega, by simp only [List.map_cons, List.sum_cons, sumL]; omega, fun t ht => ?_⟩
    simp only [List.map_cons, List.sum_cons]
    rcases List.mem_cons.1 ht with rfl | ht
    · omega
    · have := h3 t ht; omega
theorem sane_of {g : Graph} (h : gsize g ≤ 1048576) : Sane g := by
  have e60 : (2 : Nat) ^ 60 = 1152921504606846976 := by decide
  have h' : (g.nodes.map nodeSize).sum ≤ 1048576 := h
  obtain ⟨h1, h2, h3⟩ := great_le g.nodes
  refine ⟨by simp only [greatF]; omega, ⟨by omega, fun n hn => ?_⟩⟩
  have k := h3 n hn
  obtain ⟨j1, j2, j3⟩ := sum_big n.labels
  simp only [nodeSize] at k
  exact ⟨by omega, by omega, fun s hs => by have := j3 s hs; omega⟩
theorem gtypes : GTypes Tryz.prog 24 22 34 3 9 4 31 32 where
  int := Tryz.underlying3
  str := Tryz.underlying9
  bool := Tryz.underlying4
  ints := Tryz.underlying31
  strs := Tryz.underlying32
  nodes := Tryz.underlying22
  node := ⟨_, _, _, _, _, Tryz.underlying34, ⟨rfl, rfl⟩, ⟨rfl, rfl⟩, ⟨rfl, rfl⟩, ⟨rfl, rfl⟩, rfl, rfl⟩
  graph := ⟨_, _, Tryz.underlying24, ⟨rfl, rfl⟩, rfl, rfl⟩
  cI := by kernel_rfl
  cS := by kernel_rfl
  cB := by kernel_rfl
  cIs := by kernel_rfl
  cSs := by kernel_rfl
  cNs := by kernel_rfl
  cN := by kernel_rfl
  cG := by kernel_rfl
open YtffgndlognihcaaGreatDoor.Rows in
theorem bulkAll_sum {H : Type} : ∀ l : List (DataW H), uptoBulkAll l = (l.map uptoBulk).sum
  | [] => rfl
  | d :: l => by rw [uptoBulkAll, bulkAll_sum l]; rfl
open YtffgndlognihcaaGreatDoor.Rows in
theorem meas (H : Type) : Meas (uptoBulk (H := H)) where
  agg := fun l => by rw [uptoBulk, bulkAll_sum]; exact Nat.le_refl _
  slice := fun l r => by rw [uptoBulk, bulkAll_sum]; omega
  str := fun s => by rw [uptoBulk]; exact Nat.le_refl _
  lit := fun x => by unfold uptoBulk; split <;> omega
def hZero : AHeap := { objs := .leaf, next := 12 }
def gZero : GM := fun g => if g < 12 then some ⟨g, 0, 0, 0⟩ else none
theorem wf_zero : WF hZero := fun b _ => T.get_leaf b
theorem rel_zero {W : World} (hN : Tryz.prog.globals.size ≤ W.heap.size) : Rel Tryz.prog W.heap.size W gZero hZero W where
  obj := fun id ver o hx => by simp [hZero, T.get_leaf] at hx
  inj := fun id id' x x' gi gi' hx => by simp [hZero, T.get_leaf] at hx
  own := fun id ver o gi hx => by simp [hZero, T.get_leaf] at hx
  fresh := fun id hi => by
    have : ¬ id < 12 := by simp only [hZero] at hi; omega
    simp [gZero, this]
  vers := fun id ver o hx => by simp [hZero, T.get_leaf] at hx
  glob := fun g hg => by rw [globs12] at hg; exact ⟨_, if_pos hg, rfl, rfl⟩
  low := by rw [globs12]; exact Nat.le_refl _
  below := Below.refl _ _
  size := Nat.le_refl _
  rolow := fun id ver o gi hx => by simp [hZero, T.get_leaf] at hx
theorem globs_le {W : World} (hS : W.ShapedOpen Tryz.prog) : Tryz.prog.globals.size ≤ W.heap.size := by
  have h1 : (((begin Tryz.prog (fun _ _ => 0) default).world.heap[11]?).bind Obj.row?).isSome = true := by kernel_rfl
  obtain ⟨⟨z, t⟩, hz⟩ := Option.isSome_iff_exists.1 h1
  obtain ⟨cs, hh, _⟩ := hS.1 11 z t (by rw [globs12]; decide) hz
  have := (Array.getElem?_eq_some_iff.1 hh).1
  rw [globs12]; omega
/-- What is told of a call that answers true and turns nothing that was there. -/
def Tells (W : World) : Ending → World → Prop := fun e w' => e = .returned (.bool true) ∧ Below W.heap.size W w'
theorem tells_of {W : World} {f : FuncId} {args : List AVal} {argsV : Array Value} {G : GM} {h : AHeap} (K : WOK W) (R : Rel Tryz.prog W.heap.size W G h W) (hv : VsR Tryz.prog G args argsV.toList) (k : Cl tab summ1 f args h fun r _ => r = .bool true) : Calls Tryz.prog f argsV W (Tells W) := by
  obtain ⟨n, hn⟩ := k
  refine (calls_of_run mixed tab_ok (summ1_ok K) R hv (hn n (Nat.le_refl _))).mono fun e w' hp => ?_
  obtain ⟨v, h', G', cv, rfl, hv, R', _, hr⟩ := hp
  have hv : v = .bool true := hv
  subst hv
  have hr : cv = .bool true := hr
  exact ⟨by rw [hr], R'.below⟩
/-- 'post' for such a call: what lies below is as it was. -/
theorem post_of_tells {H : Type} {enc : TypeId × Value → H} {P : Program} {f : Func} {s : ChangeSpec} {apart fresh handsOn again : Bool} {W W' : World} {args : Array Value} {v : Value} {ds gs : List (DataW H)} {before pa pv : List MemPlace}
    (hW : DataW.Whole enc P f.params.toList s.vars apart W args.toList ds gs before)
    (hres : ∀ (b : Nat) (sp : Nat → Bool) (hd : Bool), DataW.TrodAll enc P W' b sp hd f.resultTypes.toList (v.resultList f.resultTypes.size) (s.fn H (ds ++ gs)).results [])
    (hargs : ∀ sp : Nat → Bool, (∀ p ∈ before, sp p.block = true) → DataW.TrodAll enc P W' 0 sp true f.params.toList args.toList (s.fn H (ds ++ gs)).args pa)
    (hvars : ∀ sp : Nat → Bool, (∀ p ∈ before, sp p.block = true) → DataW.TrodVars enc P W' sp s.vars (s.fn H (ds ++ gs)).vars pv)
    (hps : before = pa ++ pv) (hb : Below W.heap.size W W')
    (hok : ∀ (j : Nat) (t : TypeId) (r : Value), f.resultTypes[j]? = some t → (v.resultList f.resultTypes.size)[j]? = some r → Value.okWide P W' .any 0 t r) :
    s.post enc P f apart fresh handsOn again W args v W' := by
  have hlt := hW.lt
  have hold : ∀ p ∈ before, (fun b => decide (b < W.heap.size)) p.block = true := fun p hp => by simpa using hlt p hp
  refine ⟨ds, gs, before, [], pa, pv, hW, hres _ _ _, hargs _ hold, hvars _ hold, World.keptBut_mono (fun p hp => ⟨hp, ?_⟩) (hb.frame _), fun _ => ?_⟩
  · rw [hps, List.mem_append] at hp
    exact Or.inr hp
  · obtain ⟨_, _, _, _, _, hz, hn⟩ := hW
    refine ⟨hok, _, _, ([] ++ pa) ++ pv, ⟨[] ++ pa, pv, trodAll_append (hargs _ (fun _ _ => rfl)) (hres _ _ _), hvars _ (fun _ _ => rfl), rfl, ?_, ?_⟩, ?_⟩
    · intro b off hp
      have hp' : MemPlace.cell b off ∈ before := by rw [hps]; simpa using hp
      have hbl : (⟨b, off, none⟩ : Addr).block < W.heap.size := hlt _ hp'
      rw [hb.frozen hbl]
      exact hz b off hp'
    · intro ha
      have := hn ha
      rw [hps] at this
      simpa using this
    · intro p hp _
      rw [hps]
      simpa using hp
end Go.Proofs
end
section
/-
  InstOrders: the contract.
-/
namespace Go.Proofs.YtffgndlognihcaaGreatDoor
open Go Go.Ab Go.Ab.S
open Go.ChangeShapes Go.WideShapes Go.ChangeAt Go.RowKit
theorem laidOut : laidOutB Tryz.prog = true := by kernel_rfl
theorem own : ownKnob Tryz.prog.godebug = none := by kernel_rfl
theorem stays {H : Type} {enc : TypeId × Value → H} {W W' : World} {v : Value} {d : DataW H} {ps : List MemPlace} (h : DataW.Trod enc Tryz.prog W 0 (fun _ => true) true 24 v d ps) (hb : Below W.heap.size W W') (hlt : ∀ x ∈ ps, x.block < W.heap.size) (sp : Nat → Bool) (hs : ∀ p ∈ ps, sp p.block = true) : DataW.Trod enc Tryz.prog W' 0 sp true 24 v d ps :=
  WideElems.Trod_stays laidOut (by kernel_rfl) (of_decide_eq_true (by kernel_rfl)) h (fun x hx => hb.same (hlt x hx)) hs
set_option maxRecDepth 100000 in
/-- A struct is an aggregate. -/
theorem agg_of {W : World} {base : Nat} {v : Value} (h : Value.okWide Tryz.prog W .any base 24 v) : ∃ cs, v = .agg cs := by
  obtain ⟨cs, h, _⟩ := okWide_struct Tryz.underlying24 h
  exact ⟨cs, h⟩
set_option maxRecDepth 100000 in
theorem contract (H : Type) (enc : TypeId × Value → H) (W : World) (base : Nat) (args : Array Value) (ds gs : List (DataW H)) (before : List MemPlace)
    (hval : ∀ (j : Nat) t v, Tryz.f3.params[j]? = some t → args[j]? = some v → Value.okWide Tryz.prog W .any base t v)
    (hW : DataW.Whole enc Tryz.prog Tryz.f3.params.toList Rows.instOrdersSpec.vars false W args.toList ds gs before) (hk : Rows.uptoSmall H (ds ++ gs) = true) (hL : laidMetH Tryz.prog laids W) (hS : W.ShapedOpen Tryz.prog) :
    Calls Tryz.prog 3 args W fun e W' => ∃ v, e = .returned v ∧ Rows.instOrdersSpec.post enc Tryz.prog Tryz.f3 false true false false W args v W' := by
  have hW' := hW
  have hlt := hW.lt
  obtain ⟨p, q, hA0, hV, rfl, _, _⟩ := hW
  have hA : DataW.TrodAll enc Tryz.prog W 0 (fun _ => true) true Tryz.f3.params.toList args.toList ds p := hA0
  have hval' := hval
  rw [Tryz.params3] at hA hval'
  obtain ⟨v, v', v'', d, d', d'', p, p', p'', rfl, rfl, rfl, h0, h1, h2⟩ := trodAll_three hA
  obtain ⟨rfl, rfl⟩ := trodVars_none hV
  obtain ⟨c0, rfl⟩ := agg_of (hval' 0 24 v rfl rfl)
  obtain ⟨c1, rfl⟩ := agg_of (hval' 1 24 v' rfl rfl)
  obtain ⟨c2, rfl⟩ := agg_of (hval' 2 24 v'' rfl rfl)
  have hk := of_decide_eq_true hk
  simp only [List.append_nil, Rows.uptoBulkAll] at hk
  have hN := globs_le hS
  obtain ⟨G1, k1, R1, g1, w1, a0, x0, b0, e0, s0⟩ := lay_graph gtypes (meas H) h0 (rel_zero hN) wf_zero
  obtain ⟨G2, k2, R2, g2, w2, a1, x1, b1, e1, s1⟩ := lay_graph gtypes (meas H) h1 R1 w1.wf
  obtain ⟨G3, k3, R3, g3, w3, a2, x2, b2, e2, s2⟩ := lay_graph gtypes (meas H) h2 R2 w2.wf
  have walk : Calls Tryz.prog 3 #[.agg c0, .agg c1, .agg c2] W (Tells W) := by
    refine tells_of (args := [a0, a1, a2]) (wok hL hS hN) R3 ⟨_, _, rfl, b0.mono (g2.trans g3), _, _, rfl, b1.mono g3, _, _, rfl, b2, rfl⟩ ?_
    exact (InstOrders_ok hasTab hasRead x0 x1 x2 (sane_of (by omega)) (sane_of (by omega)) (sane_of (by omega)) a0 a1 a2 k3 w3.wf (e0.mono (w2.trans w3)) (e1.mono w3) e2).mono fun _ _ h => h.1
  refine walk.mono fun e W' ⟨he, hb⟩ => ?_
  subst he
  refine ⟨_, rfl, post_of_tells (pa := p ++ (p' ++ p'')) (pv := []) hW' (fun _ _ _ => trodAll_cons_mk (shut_bool Tryz.underlying4 _) trodAll_mk0) (fun sp hs => ?_) (fun _ _ => rfl) (by simp) hb (RowKit.ok_one (by kernel_rfl) rfl (okWide_bool_mk Tryz.underlying4 _))⟩
  refine trodAll_mk3 (stays h0 hb (fun x hx => hlt x ?_) sp fun x hx => hs x ?_) (stays h1 hb (fun x hx => hlt x ?_) sp fun x hx => hs x ?_) (stays h2 hb (fun x hx => hlt x ?_) sp fun x hx => hs x ?_) <;> simp [hx]
end Go.Proofs.YtffgndlognihcaaGreatDoor
end
section
/-
  The world that the rows' condition is met in.
-/
namespace Go.Proofs.YtffgndlognihcaaGreatDoor
open Go
noncomputable def handleW (os : Os) : World :=
  { World.holding Tryz.prog os ⟨#[], #[], []⟩ with heap := (World.holding Tryz.prog os ⟨#[], #[], []⟩).heap.modify 0 fun
      | .cells _ t frozen => .cells #[.iface 185 (.agg #[.pointer (some ⟨12, 102, none⟩)])] t frozen
      | o => o }
def plainLaids : List (String × DataW Unit) := laids.filter fun x => x.2.handleName?.isNone
noncomputable def laidW (os : Os) : World := (handleW os).layVars Tryz.prog plainLaids
theorem laidW_os (os : Os) : (laidW os).os = os := World.layVars_os _ _ _
noncomputable abbrev heldW (os : Os) (args : Array Value) : World := (laidW os).forCall (fun _ _ => 0) ⟨#[], args, []⟩
theorem noGreat : (plainLaids.filter fun x => !(plainLaids.map (·.1)).contains x.1) = [] := by kernel_rfl
set_option maxRecDepth 100000 in
theorem laid_met (os : Os) (args : Array Value) : laidMetH Tryz.prog laids (heldW os args).memory := by
  refine laidMetH_of_parts ?_ (by kernel_rfl)
  have h : laidMet Tryz.prog plainLaids (laidW os) := laidMet_layVars (w0 := handleW os) (plainLaids.map (·.1)) [] (by kernel_rfl) (by kernel_rfl) (by kernel_rfl) (by rw [noGreat]; exact LaidIn.none)
  exact h.of_heap (by simp [heldW, World.memory, World.forCall, Input.heap])
set_option maxRecDepth 100000 in
theorem w_vars (os : Os) (args : Array Value) : (heldW os args).variablesRefB Tryz.prog = true := by kernel_rfl
set_option maxRecDepth 100000 in
theorem w_rest (os : Os) (args : Array Value) : ((heldW os args).heap.toList.drop Tryz.prog.globals.size).take ((begin Tryz.prog (fun _ _ => 0) default).world.heap.size - Tryz.prog.globals.size) =
      (begin Tryz.prog (fun _ _ => 0) default).world.heap.toList.drop Tryz.prog.globals.size := by kernel_rfl
end Go.Proofs.YtffgndlognihcaaGreatDoor
end
section
/-
  InstOrders: the row and the card.
-/
namespace Go.Proofs.YtffgndlognihcaaGreatDoor
open Go Go.Ab Go.Ab.S
open Go.ChangeShapes Go.WideShapes Go.ChangeAt Go.RowKit
def none0 : Value := .agg #[.slice none 0 0, .int .i64 0]
def noneD {H : Type} : DataW H := .agg [.nil, .lit (.int .i64 0)]
def ordArgs : Array Value := #[none0, none0, none0]
theorem reads (os : Os) {H : Type} (enc : TypeId × Value → H) : ∃ places, DataW.whole enc Tryz.prog (heldW os ordArgs).memory Tryz.f3.params.toList Rows.instOrdersSpec.vars false ordArgs.toList 8 = some ([noneD, noneD, noneD], [], places) :=
  ⟨[], by kernel_rfl⟩
set_option maxRecDepth 100000 in
theorem lifted (os : Os) (started : os.Started) (H : Type) (enc : TypeId × Value → H) (F : Stop.Interp) :
    ReturnsInHanded {} Tryz.checked os 3 .any ((Rows.OpenSpec.upto Rows.instOrdersSpec).preRow enc Tryz.prog Tryz.f3 Rows.instOrdersUptoRow.domain false Rows.instOrdersUptoRow.laid) (((Rows.OpenSpec.upto Rows.instOrdersSpec).at F).post enc Tryz.prog Tryz.f3 false true false false) := by
  obtain ⟨places, hx⟩ := reads os enc
  refine returnsInHanded_of_row (C := Tryz.checked) (s := Rows.OpenSpec.upto Rows.instOrdersSpec) own started (by kernel_rfl) Tryz.func3
    (witness_row_atRef (enc := enc) (C := Tryz.checked) false (laidW os) ordArgs (laidW_os os) (w_vars os _) (w_rest os _) (by kernel_rfl)
      (OpenSpec.preRow_of_cond 8 hx (by kernel_rfl) (fun k hk => by cases hk; kernel_rfl) (by kernel_rfl) (laid_met os _))) ?_
  intro W base args ds gs before hval hW _ hcond _ hL hS _
  exact contract H enc W base args ds gs before hval hW (hcond _ rfl) hL hS
theorem saidUpto : Rows.InstOrdersUptoSaid :=
  OpenClaim.holds_of_cond 3 Tryz.f3 rfl rfl rfl rfl rfl rfl rfl ⟨rfl, rfl, rfl, rfl, rfl⟩ rfl rfl rfl rfl rfl (by kernel_rfl) Tryz.func3 (by kernel_rfl)
    (of_decide_eq_true (by kernel_rfl)) (by unfold Func.isWrapper; first | (rw [if_pos (by decide +kernel)]; kernel_rfl) | (rw [if_neg (by decide +kernel)]; exact ⟨rfl, rfl⟩))
    (fun os started H enc _ F => by rw [OpenClaim.pre_eq_preRow]; exact lifted os started H enc F)
theorem plain (f : FuncId) (fn : Func) (hf : Tryz.pinned.checked.prog.funcNamed "trefoil/trefoillaw11.InstOrders" = some f) (hfn : Tryz.pinned.checked.prog.funcs[f]? = some fn) :
    true = Tryz.pinned.checked.prog.looks [] ∧ ∀ (j : Nat) t, fn.params[j]? = some t → Tryz.pinned.checked.prog.wantsStandIn t = false := by
  obtain rfl : f = 3 := Option.some.inj ((show Tryz.prog.funcNamed "trefoil/trefoillaw11.InstOrders" = some 3 by kernel_rfl).symm.trans hf) |>.symm
  obtain rfl : fn = Tryz.f3 := (Option.some.inj (Tryz.func3.symm.trans hfn)).symm
  refine ⟨by kernel_rfl, fun j t ht => ?_⟩
  rw [Tryz.params3] at ht
  obtain rfl : t = 24 := by simpa using Array.mem_of_getElem? ht
  exact (show Tryz.prog.wantsStandIn 24 = false by kernel_rfl)
/-- The card. -/
theorem cardUpto : Rows.InstOrdersUptoCardSaid :=
  Claim7.holds_tied_plain_at .later [] _ _ _ _ saidUpto (fun _ h => by cases h) (by kernel_rfl) (fun _ h => by cases h) instOrdersUpto_row_tie rfl ⟨rfl, rfl⟩ (by kernel_rfl) rfl plain (by kernel_rfl)
#print axioms cardUpto
end Go.Proofs.YtffgndlognihcaaGreatDoor
end
