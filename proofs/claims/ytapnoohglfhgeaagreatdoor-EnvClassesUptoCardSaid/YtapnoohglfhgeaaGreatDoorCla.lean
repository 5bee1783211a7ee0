/-
  The statement EnvClasses holds of the given program: at every class it answers true and never panics.
  Conditions: those of the given row EnvClassesUptoCardSaid alone (what is handed in reads as at most 1048576 values and letters).
-/
import Derived.Test.YtapnoohglfhgeaaGreatDoorP23
import Derived.Test.YtapnoohglfhgeaaGreatDoorP27
import Derived.Test.YtapnoohglfhgeaaGreatDoorP28
import Derived.OpenShut
set_option linter.all false
/-
  EnvClasses: the contract.
-/
namespace Go.Proofs.YtapnoohglfhgeaaGreatDoor
open Go Go.Ab Go.Ab.S
open Go.ChangeShapes Go.WideShapes Go.ChangeAt Go.RowKit
theorem laidOut : laidOutB Tryz.prog = true := by kernel_rfl
theorem stays {H : Type} {enc : TypeId × Value → H} {W W' : World} {v : Value} {d : DataW H} {ps : List MemPlace} (h : DataW.Trod enc Tryz.prog W 0 (fun _ => true) true 40 v d ps) (hb : Below W.heap.size W W') (hlt : ∀ x ∈ ps, x.block < W.heap.size) (sp : Nat → Bool) (hs : ∀ p ∈ ps, sp p.block = true) : DataW.Trod enc Tryz.prog W' 0 sp true 40 v d ps :=
  WideElems.Trod_stays laidOut (by kernel_rfl) (of_decide_eq_true (by kernel_rfl)) h (fun x hx => hb.same (hlt x hx)) hs
set_option maxRecDepth 100000 in
/-- A struct is an aggregate. -/
theorem agg_of {W : World} {base : Nat} {v : Value} (h : Value.okWide Tryz.prog W .any base 40 v) : ∃ cs, v = .agg cs := by
  obtain ⟨cs, h, _⟩ := okWide_struct Tryz.underlying40 h
  exact ⟨cs, h⟩
theorem strs_small {l : List (List Nat)} {n : Nat} (h : strsSize l ≤ n) : l.length ≤ n ∧ ∀ s ∈ l, s.length ≤ n := by
  obtain ⟨h1, _, h3⟩ := sum_big l
  unfold strsSize at h
  exact ⟨by omega, fun s hs => by have := h3 s hs; omega⟩
/-- A class that is handed, as a walk wants it. -/
theorem lay_cls {H : Type} {enc : TypeId × Value → H} {W : World} {G : GM} {h : AHeap} {cs : Array Value} {d : DataW H} {ps : List MemPlace} (hx : DataW.Trod enc Tryz.prog W 0 (fun _ => true) true 40 (.agg cs) d ps) (R : Rel Tryz.prog W.heap.size W G h W) (hw : WF h) :
    Laid Tryz.prog W G h fun G' h' => ∃ (n : Int) (nv cv vv : AVal) (g : Graph) (a b : List (List Nat)), VR Tryz.prog G' (.agg [.int .i64 n, nv, .int .i64 g.root, cv, vv]) (.agg cs) ∧ NodesAt h' nv g.nodes ∧ StrsAt h' cv a ∧ StrsAt h' vv b ∧ gsize g + strsSize a + strsSize b ≤ Rows.uptoBulk d := by
  obtain ⟨fuel, hx⟩ := hx
  have hl : cs.toList.length = 5 := by
    obtain ⟨xs, n, _, _, hl, _, _⟩ := DataW.trod_struct Tryz.underlying40 hx
    rw [show Tryz.prog.cellsOf 40 = 5 by kernel_rfl] at hl
    exact hl
  have hcs : (Value.agg cs).cells.toList = cs.toList := rfl
  rw [hcs] at hx
  match hh : cs.toList, hl with
  | [u0, u1, u2, u3, u4], _ =>
    rw [hh] at hx
    obtain ⟨G1, h1, R1, g1, w1, n, nv, cv, vv, g, a, b, q0, q1, q2, q3, q4, N0, s0, s1, z⟩ := lay_class gtypes ⟨_, _, _, _, Tryz.underlying40, ⟨rfl, rfl⟩, ⟨rfl, rfl⟩, ⟨rfl, rfl⟩, rfl, rfl⟩ (by kernel_rfl) (meas H) hx R hw
    refine ⟨G1, h1, R1, g1, w1, n, nv, cv, vv, g, a, b, ⟨cs, rfl, ?_⟩, N0, s0, s1, z⟩
    rw [hh]
    exact ⟨_, _, rfl, q0, _, _, rfl, q1, _, _, rfl, q2, _, _, rfl, q3, _, _, rfl, q4, rfl⟩
set_option maxRecDepth 100000 in
theorem contract : Contract := by
  intro H enc W base args ds gs before hval hW hk hL hS
  have hW' := hW
  have hlt := hW.lt
  obtain ⟨p, q, hA0, hV, rfl, _, _⟩ := hW
  have hA : DataW.TrodAll enc Tryz.prog W 0 (fun _ => true) true Tryz.f4.params.toList args.toList ds p := hA0
  have hval' := hval
  rw [Tryz.params4] at hA hval'
  obtain ⟨v, d, rfl, rfl, h0⟩ := trodAll_one hA
  obtain ⟨rfl, rfl⟩ := trodVars_none hV
  obtain ⟨c0, rfl⟩ := agg_of (hval' 0 40 v rfl rfl)
  have hk := of_decide_eq_true hk
  simp only [List.append_nil, Rows.uptoBulkAll] at hk
  have hN := globs_le hS
  obtain ⟨G1, k1, R1, g1, w1, n, nv, cv, vv, g, a, b, b0, e0, s0, s1, z⟩ := lay_cls h0 (rel_zero hN) wf_zero
  have e60 : (2 : Nat) ^ 60 = 1152921504606846976 := by decide
  obtain ⟨la, ta⟩ := strs_small (l := a) (n := 1048576) (by omega)
  obtain ⟨lb, tb⟩ := strs_small (l := b) (n := 1048576) (by omega)
  have walk : Calls Tryz.prog 4 #[.agg c0] W (Tells W) := by
    refine tells_of (args := [.agg [.int .i64 n, nv, .int .i64 g.root, cv, vv]]) (wok hL hS hN) R1 ⟨_, _, rfl, b0, rfl⟩ ?_
    exact (EnvClasses_ok hasTab hasSort hasRead hasGrow ⟨n, g, a, b⟩ (sane_of (by show gsize g ≤ _; omega)) (fun s hs => by have := ta s hs; omega) (fun s hs => by have := tb s hs; omega) (by show a.length + b.length < _; omega) nv cv vv k1 w1.wf e0 s0 s1).mono fun _ _ h => h.1
  refine walk.mono fun e W' ⟨he, hb⟩ => ?_
  subst he
  refine ⟨_, rfl, post_of_tells (pa := p) (pv := []) hW' (fun _ _ _ => trodAll_cons_mk (shut_bool Tryz.underlying4 _) trodAll_mk0) (fun sp hs => ?_) (fun _ _ => rfl) (by simp) hb (RowKit.ok_one (by kernel_rfl) rfl (okWide_bool_mk Tryz.underlying4 _))⟩
  exact trodAll_mk1 (stays h0 hb (fun x hx => hlt x (by simp [hx])) sp fun x hx => hs x (by simp [hx]))
/-- The card. -/
theorem cardUpto : Rows.EnvClassesUptoCardSaid := cardOf contract
#print axioms cardUpto
end Go.Proofs.YtapnoohglfhgeaaGreatDoor
