/-
  The statement SolveLeast holds of the given program: at every graph and every row of pairs it answers true and never panics.
  Conditions: those of the given row SolveLeastUptoCardSaid alone (what is handed in reads as at most 1048576 values and letters).
-/
import Derived.Test.YtpmndmiohaaokaaGreatDoorP26
import Derived.Test.YtpmndmiohaaokaaGreatDoorP27
import Derived.Test.YtpmndmiohaaokaaGreatDoorP28
import Derived.Test.YtpmndmiohaaokaaGreatDoorP29
import Derived.OpenShut
set_option linter.all false
/-
 SolveLeast: the contract.
-/
namespace Go.Proofs.YtpmndmiohaaokaaGreatDoor
open Go Go.Ab Go.Ab.S
open Go.ChangeShapes Go.WideShapes Go.ChangeAt Go.RowKit
theorem zOQ : laidOutB Tryz.prog = true := by kernel_rfl
theorem zRt {H : Type} {enc : TypeId × Value -> H} {W W' : World} {v : Value} {d : DataW H} {ps : List MemPlace} (h : DataW.Trod enc Tryz.prog W 0 (fun _ => true) true 24 v d ps) (hb : Below W.heap.size W W') (hlt : ∀ x ∈ ps, x.block < W.heap.size) (sp : Nat -> Bool) (hs : ∀ p ∈ ps, sp p.block = true) : DataW.Trod enc Tryz.prog W' 0 sp true 24 v d ps :=
 WideElems.Trod_stays zOQ (by kernel_rfl) (of_decide_eq_true (by kernel_rfl)) h (fun x hx => hb.same (hlt x hx)) hs
theorem zRu {H : Type} {enc : TypeId × Value -> H} {W W' : World} {v : Value} {d : DataW H} {ps : List MemPlace} (h : DataW.Trod enc Tryz.prog W 0 (fun _ => true) true 25 v d ps) (hb : Below W.heap.size W W') (hlt : ∀ x ∈ ps, x.block < W.heap.size) (sp : Nat -> Bool) (hs : ∀ p ∈ ps, sp p.block = true) : DataW.Trod enc Tryz.prog W' 0 sp true 25 v d ps :=
 WideElems.Trod_stays zOQ (by kernel_rfl) (of_decide_eq_true (by kernel_rfl)) h (fun x hx => hb.same (hlt x hx)) hs
set_option maxRecDepth 100000 in
theorem zSD {W : World} {base : Nat} {v : Value} (h : Value.okWide Tryz.prog W .any base 24 v) : ∃ cs, v = .agg cs := by
 obtain ⟨cs, h, _⟩ := okWide_struct Tryz.underlying24 h
 exact ⟨cs, h⟩
theorem gmono {h h' : AHeap} {v : AVal} {g : Graph} (k : GraphAt h v g) (w : Grow h h') : GraphAt h' v g := by
 obtain ⟨nv, rfl, hN⟩ := k
 exact ⟨nv, rfl, hN.mono w⟩
set_option maxRecDepth 100000 in
theorem contract : Contract := by
 intro H enc W base args ds gs before hval hW hk hL hS
 have hW' := hW
 have hlt := hW.lt
 obtain ⟨p, q, hA0, hV, rfl, _, _⟩ := hW
 have hA : DataW.TrodAll enc Tryz.prog W 0 (fun _ => true) true Tryz.f6.params.toList args.toList ds p := hA0
 have hval' := hval
 rw [Tryz.params6] at hA hval'
 obtain ⟨v0, v1, d0, d1, p0, p1, rfl, rfl, rfl, h0, h1⟩ := trodAll_two hA
 obtain ⟨rfl, rfl⟩ := trodVars_none hV
 obtain ⟨c0, rfl⟩ := zSD (hval' 0 24 v0 rfl rfl)
 obtain ⟨ad, len, cap, rfl⟩ := okWide_slice (show Tryz.prog.underlying 25 = some (.slice 40) from by kernel_rfl) (hval' 1 25 v1 rfl rfl)
 have hk := of_decide_eq_true hk
 simp only [zlE, Rows.uptoBulkAll] at hk
 have hN := zPg hS
 obtain ⟨G1, k1, R1, g1, w1, a0, gr, b0, e0, s0⟩ := zOS zSb (meas H) h0 (zQD hN) zRy
 have h1' := h1
 obtain ⟨fu1, h1'⟩ := h1'
 obtain ⟨G2, k2, R2, g2, w2, pv, ps, b1, e1', s1', fr⟩ := zOU h1' R1 w1.wf
 have e60 : (2 : Nat) ^ 60 = 1152921504606846976 := by decide
 simp only at s1'
 have walk : Calls Tryz.prog 6 #[.agg c0, .slice ad len cap] W (Tells W) := by
  refine zQX (args := [a0, pv]) (wok hL hS hN) R2 ⟨_, _, rfl, b0.mono g2, _, _, rfl, b1, rfl⟩ ?_
  exact (SolveLeast_ok zSc zRR hasAs zRQ gr (zRn (by omega)) ps (by omega) a0 pv k2 w2.wf (gmono e0 w2) e1').mono fun _ _ h => h.1
 refine walk.mono fun e W' ⟨he, hb⟩ => ?_
 subst he
 refine ⟨_, rfl, zJq (pa := p0 ++ p1) (pv := []) hW' (fun _ _ _ => trodAll_cons_mk (shut_bool Tryz.underlying4 _) trodAll_mk0) (fun sp hs => ?_) (fun _ _ => rfl) (by simp) hb (RowKit.ok_one (by kernel_rfl) rfl (okWide_bool_mk Tryz.underlying4 _))⟩
 exact trodAll_mk2 (zRt h0 hb (fun x hx => hlt x (by simp [hx])) sp fun x hx => hs x (by simp [hx])) (zRu h1 hb (fun x hx => hlt x (by simp [hx])) sp fun x hx => hs x (by simp [hx]))
/-- The card. -/
theorem cardUpto : Rows.SolveLeastUptoCardSaid := zSN contract
#print axioms cardUpto
end Go.Proofs.YtpmndmiohaaokaaGreatDoor
