/-
  The statement SolveVars holds of the given program: at every graph and every two bytes it answers true and never panics.
  Conditions: those of the given row SolveVarsUptoCardSaid alone (what is handed in reads as at most 1048576 values and letters).
-/
import Derived.Test.YtpmndmiohaaokaaGreatDoorP27
import Derived.Test.YtpmndmiohaaokaaGreatDoorP30
import Derived.OpenShut
set_option linter.all false
namespace Go.Proofs.YtpmndmiohaaokaaGreatDoor
open Go Go.Ab Go.Ab.S
open Go.ChangeShapes Go.WideShapes Go.ChangeAt Go.RowKit
theorem zQt : laidOutB Tryz.prog = true := by kernel_rfl
theorem stays {H : Type} {enc : TypeId × Value -> H} {W W' : World} {v : Value} {d : DataW H} {ps : List MemPlace} (h : DataW.Trod enc Tryz.prog W 0 (fun _ => true) true 24 v d ps) (hb : Below W.heap.size W W') (hlt : ∀ x ∈ ps, x.block < W.heap.size) (sp : Nat -> Bool) (hs : ∀ p ∈ ps, sp p.block = true) : DataW.Trod enc Tryz.prog W' 0 sp true 24 v d ps :=
 WideElems.Trod_stays zQt (by kernel_rfl) (of_decide_eq_true (by kernel_rfl)) h (fun x hx => hb.same (hlt x hx)) hs
set_option maxRecDepth 100000 in
theorem zRX {W : World} {base : Nat} {v : Value} (h : Value.okWide Tryz.prog W .any base 24 v) : ∃ cs, v = .agg cs := by
 obtain ⟨cs, h, _⟩ := okWide_struct Tryz.underlying24 h
 exact ⟨cs, h⟩
theorem zSg {n : Int} (h : (Lit.int .u8 n).wf = true) : 0 <= n /\ n < 256 := by
 simp only [Lit.wf, Bool.and_eq_true, decide_eq_true_eq] at h
 have h1 : IntKind.u8.min = 0 := by decide
 have h2 : IntKind.u8.max = 255 := by decide
 omega
set_option maxRecDepth 100000 in
theorem contract : Contract := by
 intro H enc W base args ds gs before hval hW hk hL hS
 have hW' := hW
 have hlt := hW.lt
 obtain ⟨p, q, hA0, hV, rfl, _, _⟩ := hW
 have hA : DataW.TrodAll enc Tryz.prog W 0 (fun _ => true) true Tryz.f9.params.toList args.toList ds p := hA0
 have hq := hval
 rw [Tryz.params9] at hA hq
 obtain ⟨v0, v1, v2, d0, d1, d2, p0, p1, p2, rfl, rfl, rfl, h0, h1, h2⟩ := trodAll_three hA
 obtain ⟨rfl, rfl⟩ := trodVars_none hV
 obtain ⟨c0, rfl⟩ := zRX (hq 0 24 v0 rfl rfl)
 obtain ⟨x, rfl, rfl, rfl, hx⟩ := open_int Tryz.underlying5 (hq 1 5 v1 rfl rfl) h1
 obtain ⟨y, rfl, rfl, rfl, hy⟩ := open_int Tryz.underlying5 (hq 2 5 v2 rfl rfl) h2
 obtain ⟨x0, x1⟩ := zSg hx
 obtain ⟨y0, y1⟩ := zSg hy
 have hk := of_decide_eq_true hk
 simp only [zlE, Rows.uptoBulkAll] at hk
 have hN := zPI hS
 obtain ⟨a, rfl⟩ : ∃ a : Nat, x = a := ⟨x.toNat, by omega⟩
 obtain ⟨b, rfl⟩ : ∃ b : Nat, y = b := ⟨y.toNat, by omega⟩
 obtain ⟨G1, k1, R1, g1, w1, a0, gr, b0, e0, s0⟩ := zNt zRt (meas H) h0 (zPe hN) zRU
 have walk : Calls Tryz.prog 9 #[.agg c0, .int .u8 (a : Nat), .int .u8 (b : Nat)] W (Tells W) := by
  refine zPu (args := [a0, .int .u8 (a : Nat), .int .u8 (b : Nat)]) (wok hL hS hN) R1 ⟨_, _, rfl, b0, _, _, rfl, rfl, _, _, rfl, rfl, rfl⟩ ?_
  exact (SolveVars_ok zRu zQm hasAs zQl gr (zRN (by omega)) a b (by omega) (by omega) a0 k1 w1.wf e0).mono fun _ _ h => h.1
 refine walk.mono fun e W' ⟨he, hb⟩ => ?_
 subst he
 refine ⟨_, rfl, zJg (pa := p0 ++ ([] ++ [])) (pv := []) hW' (fun _ _ _ => trodAll_cons_mk (shut_bool Tryz.underlying4 _) trodAll_mk0) (fun sp hs => ?_) (fun _ _ => rfl) (by simp) hb (RowKit.ok_one (by kernel_rfl) rfl (okWide_bool_mk Tryz.underlying4 _))⟩
 exact trodAll_mk3 (stays h0 hb (fun x hx => hlt x (by simp [hx])) sp fun x hx => hs x (by simp [hx])) (shut_int Tryz.underlying5 hx) (shut_int Tryz.underlying5 hy)
theorem cardUpto : Rows.SolveVarsUptoCardSaid := zRh contract
#print axioms cardUpto
end Go.Proofs.YtpmndmiohaaokaaGreatDoor
