/-
  The statement SolveUnifies holds of the given program: at every graph and every row of pairs it answers true and never panics.
  Conditions: those of the given row SolveUnifiesUptoCardSaid alone (what is handed in reads as at most 1048576 values and letters).
-/
import Derived.Test.YtpmndmiohaaokaaGreatDoorP26
import Derived.Test.YtpmndmiohaaokaaGreatDoorP27
import Derived.OpenShut
set_option linter.all false
/-
 SolveUnifies: the contract.
-/
namespace Go.Proofs.YtpmndmiohaaokaaGreatDoor
open Go Go.Ab Go.Ab.S
open Go.ChangeShapes Go.WideShapes Go.ChangeAt Go.RowKit
theorem zSN : laidOutB Tryz.prog = true := by kernel_rfl
theorem zPT {H : Type} {enc : TypeId × Value -> H} {W W' : World} {v : Value} {d : DataW H} {ps : List MemPlace} (h : DataW.Trod enc Tryz.prog W 0 (fun _ => true) true 24 v d ps) (hb : Below W.heap.size W W') (hlt : ∀ x ∈ ps, x.block < W.heap.size) (sp : Nat -> Bool) (hs : ∀ p ∈ ps, sp p.block = true) : DataW.Trod enc Tryz.prog W' 0 sp true 24 v d ps :=
 WideElems.Trod_stays zSN (by kernel_rfl) (of_decide_eq_true (by kernel_rfl)) h (fun x hx => hb.same (hlt x hx)) hs
theorem stays25 {H : Type} {enc : TypeId × Value -> H} {W W' : World} {v : Value} {d : DataW H} {ps : List MemPlace} (h : DataW.Trod enc Tryz.prog W 0 (fun _ => true) true 25 v d ps) (hb : Below W.heap.size W W') (hlt : ∀ x ∈ ps, x.block < W.heap.size) (sp : Nat -> Bool) (hs : ∀ p ∈ ps, sp p.block = true) : DataW.Trod enc Tryz.prog W' 0 sp true 25 v d ps :=
 WideElems.Trod_stays zSN (by kernel_rfl) (of_decide_eq_true (by kernel_rfl)) h (fun x hx => hb.same (hlt x hx)) hs
set_option maxRecDepth 100000 in
theorem zRQ {W : World} {base : Nat} {v : Value} (h : Value.okWide Tryz.prog W .any base 24 v) : ∃ cs, v = .agg cs := by
 obtain ⟨cs, h, _⟩ := okWide_struct Tryz.underlying24 h
 exact ⟨cs, h⟩
theorem gmono {h h' : AHeap} {v : AVal} {g : Graph} (k : GraphAt h v g) (w : Grow h h') : GraphAt h' v g := by
 obtain ⟨nv, rfl, hN⟩ := k
 exact ⟨nv, rfl, hN.mono w⟩
set_option maxRecDepth 100000 in
theorem contract : Contract := by
 intro H enc W base args ds gs ah ae hW hk hL hS
 have hW' := hW
 have ac := hW.lt
 obtain ⟨p, q, aj, hV, rfl, _, _⟩ := hW
 have hA : DataW.TrodAll enc Tryz.prog W 0 (fun _ => true) true Tryz.f3.params.toList args.toList ds p := aj
 have aa := ae
 rw [Tryz.params3] at hA aa
 obtain ⟨v0, v1, d0, d1, p0, p1, rfl, rfl, rfl, h0, h1⟩ := trodAll_two hA
 obtain ⟨rfl, rfl⟩ := trodVars_none hV
 obtain ⟨c0, rfl⟩ := zRQ (aa 0 24 v0 rfl rfl)
 obtain ⟨ad, len, cap, rfl⟩ := okWide_slice (show Tryz.prog.underlying 25 = some (.slice 40) from by kernel_rfl) (aa 1 25 v1 rfl rfl)
 have hk := of_decide_eq_true hk
 simp only [zlE, Rows.uptoBulkAll] at hk
 have hN := zQO hS
 obtain ⟨G1, k1, R1, g1, w1, a0, gr, b0, e0, s0⟩ := zKi zRV (meas H) h0 (zQo hN) zSm
 have ab := h1
 obtain ⟨fu1, ab⟩ := ab
 obtain ⟨G2, k2, R2, g2, w2, pv, ps, b1, ai, s1', fr⟩ := lay_pairs ab R1 w1.wf
 have e60 : (2 : Nat) ^ 60 = 1152921504606846976 := by decide
 simp only at s1'
 have af : Calls Tryz.prog 3 #[.agg c0, .slice ad len cap] W (Tells W) := by
  refine zRJ (args := [a0, pv]) (wok hL hS hN) R2 ⟨_, _, rfl, b0.mono g2, _, _, rfl, b1, rfl⟩ ?_
  exact (SolveUnifies_ok zTQ zSH hasAs zSG gr (zPN (by omega)) ps (by omega) a0 pv k2 w2.wf (gmono e0 w2) ai).mono fun _ _ h => h.1
 refine af.mono fun e W' ⟨he, hb⟩ => ?_
 subst he
 refine ⟨_, rfl, zJp (pa := p0 ++ p1) (pv := []) hW' (fun _ _ _ => trodAll_cons_mk (shut_bool Tryz.underlying4 _) trodAll_mk0) (fun sp hs => ?_) (fun _ _ => rfl) (by simp) hb (RowKit.ok_one (by kernel_rfl) rfl (okWide_bool_mk Tryz.underlying4 _))⟩
 exact trodAll_mk2 (zPT h0 hb (fun x hx => ac x (by simp [hx])) sp fun x hx => hs x (by simp [hx])) (stays25 h1 hb (fun x hx => ac x (by simp [hx])) sp fun x hx => hs x (by simp [hx]))
/-- The card. -/
theorem cardUpto : Rows.SolveUnifiesUptoCardSaid := zSz contract
#print axioms cardUpto
end Go.Proofs.YtpmndmiohaaokaaGreatDoor
