/-
  The statement SolveMeets holds of the given program: at every two graphs it answers true and never panics.
  Conditions: those of the given row SolveMeetsUptoCardSaid alone (what is handed in reads as at most 1048576 values and letters).
-/
import Derived.Test.YtpmndmiohaaokaaGreatDoorP26
import Derived.Test.YtpmndmiohaaokaaGreatDoorP27
import Derived.Test.YtpmndmiohaaokaaGreatDoorP28
import Derived.OpenShut
set_option linter.all false
/-
 SolveMeets: the contract.
-/
namespace Go.Proofs.YtpmndmiohaaokaaGreatDoor
open Go Go.Ab Go.Ab.S
open Go.ChangeShapes Go.WideShapes Go.ChangeAt Go.RowKit
theorem zSN : laidOutB Tryz.prog = true := by kernel_rfl
theorem zPT {H : Type} {enc : TypeId × Value -> H} {W W' : World} {v : Value} {d : DataW H} {ps : List MemPlace} (h : DataW.Trod enc Tryz.prog W 0 (fun _ => true) true 24 v d ps) (hb : Below W.heap.size W W') (hlt : ∀ x ∈ ps, x.block < W.heap.size) (sp : Nat -> Bool) (hs : ∀ p ∈ ps, sp p.block = true) : DataW.Trod enc Tryz.prog W' 0 sp true 24 v d ps :=
 WideElems.Trod_stays zSN (by kernel_rfl) (of_decide_eq_true (by kernel_rfl)) h (fun x hx => hb.same (hlt x hx)) hs
set_option maxRecDepth 100000 in
theorem zRQ {W : World} {base : Nat} {v : Value} (h : Value.okWide Tryz.prog W .any base 24 v) : ∃ cs, v = .agg cs := by
 obtain ⟨cs, h, _⟩ := okWide_struct Tryz.underlying24 h
 exact ⟨cs, h⟩
theorem gmono {h h' : AHeap} {v : AVal} {g : Graph} (k : GraphAt h v g) (w : Grow h h') : GraphAt h' v g := by
 obtain ⟨nv, rfl, hN⟩ := k
 exact ⟨nv, rfl, hN.mono w⟩
set_option maxRecDepth 100000 in
theorem contract : Contract := by
 intro H enc W base args ds gs ae ac hW hk hL hS
 have hW' := hW
 have ab := hW.lt
 obtain ⟨p, q, ai, hV, rfl, _, _⟩ := hW
 have hA : DataW.TrodAll enc Tryz.prog W 0 (fun _ => true) true Tryz.f4.params.toList args.toList ds p := ai
 have aa := ac
 rw [Tryz.params4] at hA aa
 obtain ⟨v0, v1, d0, d1, p0, p1, rfl, rfl, rfl, h0, h1⟩ := trodAll_two hA
 obtain ⟨rfl, rfl⟩ := trodVars_none hV
 obtain ⟨c0, rfl⟩ := zRQ (aa 0 24 v0 rfl rfl)
 obtain ⟨c1, rfl⟩ := zRQ (aa 1 24 v1 rfl rfl)
 have hk := of_decide_eq_true hk
 simp only [zlE, Rows.uptoBulkAll] at hk
 have hN := zQO hS
 obtain ⟨G1, k1, R1, g1, w1, a0, gr, b0, e0, s0⟩ := zKi zRV (meas H) h0 (zQo hN) zSm
 obtain ⟨G2, k2, R2, g2, w2, a1, ah, b1, af, s1'⟩ := zKi zRV (meas H) h1 R1 w1.wf
 have ad : Calls Tryz.prog 4 #[.agg c0, .agg c1] W (Tells W) := by
  refine zRJ (args := [a0, a1]) (wok hL hS hN) R2 ⟨_, _, rfl, b0.mono g2, _, _, rfl, b1, rfl⟩ ?_
  exact (SolveMeets_ok zTQ zSH hasAs zSG gr ah (zPN (by omega)) (zPN (by omega)) a0 a1 k2 w2.wf (gmono e0 w2) af).mono fun _ _ h => h.1
 refine ad.mono fun e W' ⟨he, hb⟩ => ?_
 subst he
 refine ⟨_, rfl, zJp (pa := p0 ++ p1) (pv := []) hW' (fun _ _ _ => trodAll_cons_mk (shut_bool Tryz.underlying4 _) trodAll_mk0) (fun sp hs => ?_) (fun _ _ => rfl) (by simp) hb (RowKit.ok_one (by kernel_rfl) rfl (okWide_bool_mk Tryz.underlying4 _))⟩
 exact trodAll_mk2 (zPT h0 hb (fun x hx => ab x (by simp [hx])) sp fun x hx => hs x (by simp [hx])) (zPT h1 hb (fun x hx => ab x (by simp [hx])) sp fun x hx => hs x (by simp [hx]))
/-- The card. -/
theorem cardUpto : Rows.SolveMeetsUptoCardSaid := zSz contract
#print axioms cardUpto
end Go.Proofs.YtpmndmiohaaokaaGreatDoor
