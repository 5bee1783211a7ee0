import Derived.Test.YtpmndmiohaaokaaGreatDoorP17
import Derived.Test.YtpmndmiohaaokaaGreatDoorP19
import Derived.Test.YtpmndmiohaaokaaGreatDoorP22
import Derived.Test.YtpmndmiohaaokaaGreatDoorP23
import Derived.Test.YtpmndmiohaaokaaGreatDoorProg
import Derived.WalkKit
import Derived.LaidEql
import Derived.Stop.Asserts
import Derived.RowKitTokens
import Derived.Shelf.Vars
import Derived.Lib.LaidTab
/-
  Part 24 of the proof.
-/
set_option linter.all false
section
namespace Go.Proofs
open Go Go.RowKit Go.Extern.Stop Go.Stop Go.Extern
theorem tOc (v : Value) (w : World) : (ReflectliteType.typeOf #[.iface 57 v]).run Tryz.prog w = .ok (.iface 157 (.agg #[.pointer (some ⟨12, 57, none⟩)])) w := by kernel_rfl
theorem tOs (v : Value) (w : World) : (ReflectliteType.typeOf #[.iface 204 v]).run Tryz.prog w = .ok (.iface 157 (.agg #[.pointer (some ⟨12, 204, none⟩)])) w := by kernel_rfl
theorem tOj (v : Value) (w : World) : (ReflectliteType.typeOf #[.iface 201 v]).run Tryz.prog w = .ok (.iface 157 (.agg #[.pointer (some ⟨12, 201, none⟩)])) w := by kernel_rfl
theorem aTc (w : World) : (ReflectliteType.relation "AssignableTo" ReflectliteType.assignableTo #[.agg #[.pointer (some ⟨12, 57, none⟩)], .iface 157 (.agg #[.pointer (some ⟨12, 57, none⟩)])]).run Tryz.prog w = .ok (.bool true) w := by kernel_rfl
theorem aTs (w : World) : (ReflectliteType.relation "AssignableTo" ReflectliteType.assignableTo #[.agg #[.pointer (some ⟨12, 204, none⟩)], .iface 157 (.agg #[.pointer (some ⟨12, 57, none⟩)])]).run Tryz.prog w = .ok (.bool false) w := by kernel_rfl
theorem aTj (w : World) : (ReflectliteType.relation "AssignableTo" ReflectliteType.assignableTo #[.agg #[.pointer (some ⟨12, 201, none⟩)], .iface 157 (.agg #[.pointer (some ⟨12, 57, none⟩)])]).run Tryz.prog w = .ok (.bool false) w := by kernel_rfl
theorem noAs (v : Value) (xT : TypeId) (w : World) : (Instr.typeAssert (.iface 204 v) xT 162 true).run Tryz.prog w = .ok (.tuple #[.nilIface, .bool false]) w := run_typeAssert_lacksB Tryz.underlying162 (by kernel_rfl) (by kernel_rfl) v xT w
theorem noUn (v : Value) (xT : TypeId) (w : World) : (Instr.typeAssert (.iface 204 v) xT 165 true).run Tryz.prog w = .ok (.tuple #[.nilIface, .bool false]) w := run_typeAssert_lacksB Tryz.underlying165 (by kernel_rfl) (by kernel_rfl) v xT w
theorem noUs (v : Value) (xT : TypeId) (w : World) : (Instr.typeAssert (.iface 204 v) xT 166 true).run Tryz.prog w = .ok (.tuple #[.nilIface, .bool false]) w := run_typeAssert_lacksB Tryz.underlying166 (by kernel_rfl) (by kernel_rfl) v xT w
theorem noAsJ (v : Value) (xT : TypeId) (w : World) : (Instr.typeAssert (.iface 201 v) xT 162 true).run Tryz.prog w = .ok (.tuple #[.nilIface, .bool false]) w := run_typeAssert_lacksB Tryz.underlying162 (by kernel_rfl) (by kernel_rfl) v xT w
theorem noUnJ (v : Value) (xT : TypeId) (w : World) : (Instr.typeAssert (.iface 201 v) xT 165 true).run Tryz.prog w = .ok (.tuple #[.nilIface, .bool false]) w := run_typeAssert_lacksB Tryz.underlying165 (by kernel_rfl) (by kernel_rfl) v xT w
theorem hasUsJ (v : Value) (xT : TypeId) (w : World) : (Instr.typeAssert (.iface 201 v) xT 166 true).run Tryz.prog w = .ok (.tuple #[.iface 201 v, .bool true]) w := run_typeAssert_hasB Tryz.underlying166 (by kernel_rfl) v xT w
theorem mAs (h : Value) (w : World) : (Go.method 450 157 (.agg #[h]) "AssignableTo").run Tryz.prog w = .ok (239, .agg #[h]) w := by kernel_rfl
theorem mUs (h : Value) (w : World) : (Go.method 450 201 h "Unwrap").run Tryz.prog w = .ok (251, h) w := by kernel_rfl
set_option maxRecDepth 100000 in
set_option maxHeartbeats 4000000 in
theorem as_no (e : Addr) (x : Value) (p q : Addr) (w : World) : Calls Tryz.prog 54 #[.iface 204 (.pointer (some e)), x, .agg #[.pointer (some p), .pointer (some q), .int .u64 150], .iface 157 (.agg #[.pointer (some ⟨12, 57, none⟩)])] w fun ev w' => ev = .returned (.bool false) /\ w' = w.alloc (.cells #[.pointer (some p), .pointer (some q), .int .u64 150] 104) := by
 have h76 := @run_callFunc_extern Tryz.prog 76 _ ReflectliteType.typeOf Tryz.func76 (by kernel_rfl) (by kernel_rfl) (by kernel_rfl) (by kernel_rfl)
 have h239 := @run_callFunc_extern Tryz.prog 239 _ (ReflectliteType.relation "AssignableTo" ReflectliteType.assignableTo) Tryz.func239 (by kernel_rfl) (by kernel_rfl) (by kernel_rfl) (by kernel_rfl)
 have t1 := tOs
 have t2 := aTs
 have t3 := mAs
 have n1 := noAs
 have n2 := noUn
 have n3 := noUs
 go_enter Tryz.func54, Tryz.ntmps54
 go_wp2
 refine wp_loop_rounds 1 ?_
 rw [rounds_succ]
 go_wp2
 go_ret
 exact ⟨rfl, rfl⟩
theorem rlm (z : Sem Value) (f : TypeId -> Addr -> Nat -> Nat -> Sem Value) (v : Value) :
  ReflectliteValue.method z f #[v] = (do match <- ReflectliteValue.parts v with | none => z | some (t, a, fl) => f t a fl (fl % 32)) := rfl
theorem partsP (a : Addr) (w : World) : (ReflectliteValue.parts (.agg #[.pointer (some ⟨12, 62, none⟩), .pointer (some a), .int .u64 150])).run Tryz.prog w = .ok (some (62, a, 150)) w := by kernel_rfl
theorem partsCa (a : Addr) (w : World) : (ReflectliteValue.parts (.agg #[.pointer (some ⟨12, 57, none⟩), .pointer (some a), .int .u64 406])).run Tryz.prog w = .ok (some (57, a, 406)) w := by kernel_rfl
theorem partsC (a : Addr) (w : World) : (ReflectliteValue.parts (.agg #[.pointer (some ⟨12, 57, none⟩), .pointer (some a), .int .u64 150])).run Tryz.prog w = .ok (some (57, a, 150)) w := by kernel_rfl
theorem elemOf (w : World) : (Rtype.elem? 62).run Tryz.prog w = .ok (some 57) w := by kernel_rfl
theorem mkC (p : Addr) (w : World) : (ReflectliteValue.mk 57 p ReflectliteValue.flagAddr).run Tryz.prog w = .ok (.agg #[.pointer (some ⟨12, 57, none⟩), .pointer (some p), .int .u64 406]) w := by kernel_rfl
theorem elemV (a p : Addr) (W : World) (ha : W.cell? a = some (.pointer (some p))) :
  (ReflectliteValue.method (ReflectliteValue.valueError "reflectlite.Value.Elem" 0) ReflectliteValue.elem #[.agg #[.pointer (some ⟨12, 62, none⟩), .pointer (some a), .int .u64 150]]).run Tryz.prog W
   = .ok (.agg #[.pointer (some ⟨12, 57, none⟩), .pointer (some p), .int .u64 406]) W := by
 rw [rlm]
 simp only [Sem.run_bind, partsP, Result.andThen]
 simp [ReflectliteValue.elem, loadVar, isAgg, underlying, Tryz.underlying62, ha, Result.andThen, elemOf, mkC]
theorem valC (e : Addr) (w : World) : (ReflectliteValue.unpack (.iface 57 (.pointer (some e)))).run Tryz.prog w
  = .ok (.agg #[.pointer (some ⟨12, 57, none⟩), .pointer (some ⟨w.heap.size, 0, none⟩), .int .u64 150]) (w.alloc (.cells #[.pointer (some e)] 57)) := by kernel_rfl
theorem rls (v x : Value) : ReflectliteValue.set #[v, x] = (do
  let (some (dst, a, fl), some (src, b, _)) := (<- ReflectliteValue.parts v, <- ReflectliteValue.parts x)
   | unsupported (.noEntry "extern/(internal/reflectlite.Value).Set.zeroValue")
  if fl / ReflectliteValue.flagAddr % 2 == 0 then unsupported (.noEntry "extern/(internal/reflectlite.Value).Set.unaddressable")
  let val <- loadVar src b
  if <- Rtype.directlyAssignable dst src then storeVar dst a val
  else if <- Rtype.implements dst src then
   if (<- Rtype.kind src) == 20 then
    match val with
    | .nilIface => unsupported (.noEntry "extern/reflectlite: a nil value of one interface type handed on as a value of another")
    | _ => storeVar dst a val
   else storeVar dst a (.iface src val)
  else panicString ("reflectlite.Set: value of type " ++ (<- Rtype.spelt src) ++ " is not assignable to type " ++ (<- Rtype.spelt dst))
  pure (.tuple #[])) := rfl
theorem directC (w : World) : (Rtype.directlyAssignable 57 57).run Tryz.prog w = .ok true w := by kernel_rfl
theorem setC (ta b e : Addr) (old : Value) (W : World) (hb : W.cell? b = some (.pointer (some e))) (ht : W.cell? ta = some old) (hf : W.frozen? ta = false) :
  (ReflectliteValue.set #[.agg #[.pointer (some ⟨12, 57, none⟩), .pointer (some ta), .int .u64 406], .agg #[.pointer (some ⟨12, 57, none⟩), .pointer (some b), .int .u64 150]]).run Tryz.prog W
   = .ok (.tuple #[]) (W.setCell ta (.pointer (some e))) := by
 rw [rls]
 simp only [Sem.run_bind, partsCa, partsC, Result.andThen]
 simp [ReflectliteValue.flagAddr, loadVar, isAgg, underlying, Tryz.underlying57, hb, Result.andThen, directC, storeVar, Value.cells, storeCells, Addr.add]
 rw [run_store Tryz.prog W ta _ _ (by rfl)]
 simp [ht, hf]
def hitW (w : World) (q t e : Addr) : World := ((w.alloc (.cells #[.pointer (some ⟨12, 62, none⟩), .pointer (some q), .int .u64 150] 104)).alloc (.cells #[.pointer (some e)] 57)).setCell t (.pointer (some e))
set_option maxRecDepth 100000 in
set_option maxHeartbeats 4000000 in
theorem as_hit (e q t : Addr) (x old : Value) (w : World) (hq : w.cell? q = some (.pointer (some t))) (ht : w.cell? t = some old) (hf : w.frozen? t = false) : Calls Tryz.prog 54 #[.iface 57 (.pointer (some e)), x, .agg #[.pointer (some ⟨12, 62, none⟩), .pointer (some q), .int .u64 150], .iface 157 (.agg #[.pointer (some ⟨12, 57, none⟩)])] w fun ev w' => ev = .returned (.bool true) /\ w' = hitW w q t e := by
 have h76 := @run_callFunc_extern Tryz.prog 76 _ ReflectliteType.typeOf Tryz.func76 (by kernel_rfl) (by kernel_rfl) (by kernel_rfl) (by kernel_rfl)
 have h239 := @run_callFunc_extern Tryz.prog 239 _ (ReflectliteType.relation "AssignableTo" ReflectliteType.assignableTo) Tryz.func239 (by kernel_rfl) (by kernel_rfl) (by kernel_rfl) (by kernel_rfl)
 have h77 := @run_callFunc_extern Tryz.prog 77 _ (ReflectliteValue.method (ReflectliteValue.valueError "reflectlite.Value.Elem" 0) ReflectliteValue.elem) Tryz.func77 (by kernel_rfl) (by kernel_rfl) (by kernel_rfl) (by kernel_rfl)
 have h51 := @run_callFunc_extern Tryz.prog 51 _ (fun args => ReflectliteValue.unpack (args.getD 0 (.tuple #[]))) Tryz.func51 (by kernel_rfl) (by kernel_rfl) (by kernel_rfl) (by kernel_rfl)
 have h78 := @run_callFunc_extern Tryz.prog 78 _ ReflectliteValue.set Tryz.func78 (by kernel_rfl) (by kernel_rfl) (by kernel_rfl) (by kernel_rfl)
 have t1 := tOc
 have t2 := aTc
 have t3 := mAs
 have lq : q.block < w.heap.size := by
  rcases Nat.lt_or_ge q.block w.heap.size with h | h
  ·exact h
  ·simp [World.cell?, Array.getElem?_eq_none h] at hq
 have lt : t.block < w.heap.size := by
  rcases Nat.lt_or_ge t.block w.heap.size with h | h
  ·exact h
  ·simp [World.cell?, Array.getElem?_eq_none h] at ht
 have v1 := elemV q t (w.alloc (.cells #[.pointer (some ⟨12, 62, none⟩), .pointer (some q), .int .u64 150] 104)) (by rw [World.cell?_alloc_lt _ _ q lq]; exact hq)
 have v2 := valC e
 have v3 := setC t ⟨w.heap.size + 1, 0, none⟩ e old ((w.alloc (.cells #[.pointer (some ⟨12, 62, none⟩), .pointer (some q), .int .u64 150] 104)).alloc (.cells #[.pointer (some e)] 57))
  (by rw [World.cell?_alloc_at _ _ _ _ (by simp)]; rfl)
  (by rw [World.cell?_alloc_lt _ _ t (by simp; omega), World.cell?_alloc_lt _ _ t lt]; exact ht)
  (by rw [World.frozen?_alloc_old _ _ t (by simp; omega), World.frozen?_alloc_old _ _ t (Nat.ne_of_lt lt)]; exact hf)
 go_enter Tryz.func54, Tryz.ntmps54
 go_wp2
 refine wp_loop_rounds 1 ?_
 rw [rounds_succ]
 go_wp2
 go_ret
 exact ⟨rfl, rfl⟩
end Go.Proofs
end
section
namespace Go.Proofs
open Go Go.RowKit Go.Extern.Stop Go.Stop Go.Extern
theorem zEb {w : World} {a : Addr} {v : Value} (h : w.cell? a = some v) : a.block < w.heap.size := by
 rcases Nat.lt_or_ge a.block w.heap.size with h1 | h1
 ·exact h1
 ·simp [World.cell?, Array.getElem?_eq_none h1] at h
set_option maxRecDepth 100000 in
set_option maxHeartbeats 4000000 in
theorem unwrap (j : Addr) (v : Value) (w : World) (hj : w.cell? j = some v) : Calls Tryz.prog 251 #[.pointer (some j)] w fun ev w' => ev = .returned v /\ w' = w := by
 go_enter Tryz.func251, Tryz.ntmps251
 go_wp2
 go_ret
 exact ⟨rfl, rfl⟩
set_option maxRecDepth 100000 in
set_option maxHeartbeats 4000000 in
theorem as_join (e1 e2 j q t : Addr) (bS k : Nat) (x old : Value) (w : World) (hj : w.cell? j = some (.slice (some ⟨bS, 0, none⟩) 2 k)) (h1 : w.cell? ⟨bS, 0, none⟩ = some (.iface 204 (.pointer (some e1)))) (h2 : w.cell? ⟨bS, 1, none⟩ = some (.iface 57 (.pointer (some e2))))
  (hq : w.cell? q = some (.pointer (some t))) (ht : w.cell? t = some old) (hf : w.frozen? t = false) :
  Calls Tryz.prog 54 #[.iface 201 (.pointer (some j)), x, .agg #[.pointer (some ⟨12, 62, none⟩), .pointer (some q), .int .u64 150], .iface 157 (.agg #[.pointer (some ⟨12, 57, none⟩)])] w fun ev w' => ev = .returned (.bool true) /\ w' = hitW ((w.alloc (.cells #[.pointer (some ⟨12, 62, none⟩), .pointer (some q), .int .u64 150] 104)).alloc (.cells #[.pointer (some ⟨12, 62, none⟩), .pointer (some q), .int .u64 150] 104)) q t e2 := by
 have h76 := @run_callFunc_extern Tryz.prog 76 _ ReflectliteType.typeOf Tryz.func76 (by kernel_rfl) (by kernel_rfl) (by kernel_rfl) (by kernel_rfl)
 have h239 := @run_callFunc_extern Tryz.prog 239 _ (ReflectliteType.relation "AssignableTo" ReflectliteType.assignableTo) Tryz.func239 (by kernel_rfl) (by kernel_rfl) (by kernel_rfl) (by kernel_rfl)
 have t1 := tOj
 have t2 := aTj
 have t3 := mAs
 have m1 := mUs
 have n1 := noAsJ
 have n2 := noUnJ
 have n3 := hasUsJ
 have lj := zEb hj
 have l1 : bS < w.heap.size := zEb h1
 have l2 : bS < w.heap.size := zEb h2
 have lq := zEb hq
 have lt := zEb ht
 have hj1 : (w.alloc (.cells #[.pointer (some ⟨12, 62, none⟩), .pointer (some q), .int .u64 150] 104)).cell? j = some (.slice (some ⟨bS, 0, none⟩) 2 k) := by rw [World.cell?_alloc_lt _ _ j lj]; exact hj
 have h11 : (w.alloc (.cells #[.pointer (some ⟨12, 62, none⟩), .pointer (some q), .int .u64 150] 104)).cell? ⟨bS, 0, none⟩ = some (.iface 204 (.pointer (some e1))) := by rw [World.cell?_alloc_lt _ _ ⟨bS, 0, none⟩ l1]; exact h1
 have h22 : ((w.alloc (.cells #[.pointer (some ⟨12, 62, none⟩), .pointer (some q), .int .u64 150] 104)).alloc (.cells #[.pointer (some ⟨12, 62, none⟩), .pointer (some q), .int .u64 150] 104)).cell? ⟨bS, 1, none⟩ = some (.iface 57 (.pointer (some e2))) := by rw [World.cell?_alloc_lt _ _ ⟨bS, 1, none⟩ (by simp; omega), World.cell?_alloc_lt _ _ ⟨bS, 1, none⟩ l2]; exact h2
 have hq2 : ((w.alloc (.cells #[.pointer (some ⟨12, 62, none⟩), .pointer (some q), .int .u64 150] 104)).alloc (.cells #[.pointer (some ⟨12, 62, none⟩), .pointer (some q), .int .u64 150] 104)).cell? q = some (.pointer (some t)) := by rw [World.cell?_alloc_lt _ _ q (by simp; omega), World.cell?_alloc_lt _ _ q lq]; exact hq
 have ht2 : ((w.alloc (.cells #[.pointer (some ⟨12, 62, none⟩), .pointer (some q), .int .u64 150] 104)).alloc (.cells #[.pointer (some ⟨12, 62, none⟩), .pointer (some q), .int .u64 150] 104)).cell? t = some old := by rw [World.cell?_alloc_lt _ _ t (by simp; omega), World.cell?_alloc_lt _ _ t lt]; exact ht
 have hf2 : ((w.alloc (.cells #[.pointer (some ⟨12, 62, none⟩), .pointer (some q), .int .u64 150] 104)).alloc (.cells #[.pointer (some ⟨12, 62, none⟩), .pointer (some q), .int .u64 150] 104)).frozen? t = false := by rw [World.frozen?_alloc_old _ _ t (by simp; omega), World.frozen?_alloc_old _ _ t (Nat.ne_of_lt lt)]; exact hf
 go_enter Tryz.func54, Tryz.ntmps54
 go_wp2
 refine wp_loop_rounds 1 ?_
 rw [rounds_succ]
 go_wp2_with (first | (go_at_call 251; refine (unwrap j _ _ hj1).mono ?_; rintro e w' ⟨rfl, rfl⟩))
 refine wp_loop_rounds 2 ?_
 rw [rounds_succ]
 go_wp2_with (go_at_call 54; refine (as_no e1 x ⟨12, 62, none⟩ q _).mono ?_; rintro e w' ⟨rfl, rfl⟩)
 rw [rounds_succ]
 go_wp2_with (go_at_call 54; refine (as_hit e2 q t x old _ hq2 ht2 hf2).mono ?_; rintro e w' ⟨rfl, rfl⟩)
 go_ret
 exact ⟨rfl, rfl⟩
end Go.Proofs
end
section
namespace Go.Proofs
open Go Go.RowKit Go.Extern.Stop Go.Stop Go.Extern
theorem As_nil (t : Value) (w : World) : Calls Tryz.prog 26 #[.nilIface, t] w fun e w' => e = .returned (.bool false) /\ w' = w := by
 go_enter Tryz.func26, Tryz.ntmps26
 go_wp2
 go_ret
 exact ⟨rfl, rfl⟩
theorem valueOfP (t : Addr) (w : World) : (ReflectliteValue.unpack (.iface 62 (.pointer (some t)))).run Tryz.prog w
  = .ok (.agg #[.pointer (some ⟨12, 62, none⟩), .pointer (some ⟨w.heap.size, 0, none⟩), .int .u64 150]) (w.alloc (.cells #[.pointer (some t)] 62)) := by kernel_rfl
theorem typeP (a : Addr) (w : World) : (ReflectliteValue.methodAny (ReflectliteValue.valueError "reflectlite.Value.Type" 0) (fun t _ _ _ => ReflectliteType.toType t) #[.agg #[.pointer (some ⟨12, 62, none⟩), .pointer (some a), .int .u64 150]]).run Tryz.prog w
  = .ok (.iface 157 (.agg #[.pointer (some ⟨12, 62, none⟩)])) w := by kernel_rfl
theorem mKind (h : Value) (w : World) : (Go.method 450 157 (.agg #[h]) "Kind").run Tryz.prog w = .ok (227, h) w := by kernel_rfl
theorem kindP (w : World) : ((ReflectliteType.abiMethod fun t => (fun a : Nat => Value.int IntKind.u8 (a : Int)) <$> Rtype.kind t) #[.pointer (some ⟨12, 62, none⟩)]).run Tryz.prog w = .ok (.int .u8 22) w := by kernel_rfl
theorem kindC (w : World) : ((ReflectliteType.abiMethod fun t => (fun a : Nat => Value.int IntKind.u8 (a : Int)) <$> Rtype.kind t) #[.pointer (some ⟨12, 57, none⟩)]).run Tryz.prog w = .ok (.int .u8 22) w := by kernel_rfl
theorem isNilP (a p : Addr) (W : World) (ha : W.cell? a = some (.pointer (some p))) :
  (ReflectliteValue.method (ReflectliteValue.valueError "reflectlite.Value.IsNil" 0) ReflectliteValue.isNil #[.agg #[.pointer (some ⟨12, 62, none⟩), .pointer (some a), .int .u64 150]]).run Tryz.prog W = .ok (.bool false) W := by
 rw [rlm]
 simp only [Sem.run_bind, partsP, Result.andThen]
 simp [ReflectliteValue.isNil, loadVar, isAgg, underlying, Tryz.underlying62, ha, Result.andThen]
theorem mElem (h : Value) (w : World) : (Go.method 450 157 (.agg #[h]) "Elem").run Tryz.prog w = .ok (241, .agg #[h]) w := by kernel_rfl
theorem mImpl (h : Value) (w : World) : (Go.method 450 157 (.agg #[h]) "Implements").run Tryz.prog w = .ok (242, .agg #[h]) w := by kernel_rfl
theorem elemP (w : World) : (ReflectliteType.method ReflectliteType.elem #[.agg #[.pointer (some ⟨12, 62, none⟩)]]).run Tryz.prog w = .ok (.iface 157 (.agg #[.pointer (some ⟨12, 57, none⟩)])) w := by kernel_rfl
theorem implC (w : World) : (ReflectliteType.relation "Implements" ReflectliteType.implements_ #[.agg #[.pointer (some ⟨12, 57, none⟩)], .iface 157 (.agg #[.pointer (some ⟨12, 60, none⟩)])]).run Tryz.prog w = .ok (.bool true) w := by kernel_rfl
def asW (w : World) (t : Addr) : World := (w.alloc (.cells #[.pointer (some t)] 62)).alloc (.cells #[.pointer (some ⟨12, 62, none⟩), .pointer (some ⟨w.heap.size, 0, none⟩), .int .u64 150] 104)
set_option maxRecDepth 100000 in
set_option maxHeartbeats 4000000 in
theorem As_join (e1 e2 j t : Addr) (bS k : Nat) (old : Value) (w : World) (hg : w.cell? ⟨0, 0, none⟩ = some (.iface 157 (.agg #[.pointer (some ⟨12, 60, none⟩)]))) (hj : w.cell? j = some (.slice (some ⟨bS, 0, none⟩) 2 k)) (h1 : w.cell? ⟨bS, 0, none⟩ = some (.iface 204 (.pointer (some e1)))) (h2 : w.cell? ⟨bS, 1, none⟩ = some (.iface 57 (.pointer (some e2))))
  (ht : w.cell? t = some old) (hf : w.frozen? t = false) :
  Calls Tryz.prog 26 #[.iface 201 (.pointer (some j)), .iface 62 (.pointer (some t))] w fun ev w' => ev = .returned (.bool true) /\ w' = hitW (((asW w t).alloc (.cells #[.pointer (some ⟨12, 62, none⟩), .pointer (some ⟨w.heap.size, 0, none⟩), .int .u64 150] 104)).alloc (.cells #[.pointer (some ⟨12, 62, none⟩), .pointer (some ⟨w.heap.size, 0, none⟩), .int .u64 150] 104)) ⟨w.heap.size, 0, none⟩ t e2 := by
 have h51 := @run_callFunc_extern Tryz.prog 51 _ (fun args => ReflectliteValue.unpack (args.getD 0 (.tuple #[]))) Tryz.func51 (by kernel_rfl) (by kernel_rfl) (by kernel_rfl) (by kernel_rfl)
 have h52 := @run_callFunc_extern Tryz.prog 52 _ (ReflectliteValue.methodAny (ReflectliteValue.valueError "reflectlite.Value.Type" 0) (fun t _ _ _ => ReflectliteType.toType t)) Tryz.func52 (by kernel_rfl) (by kernel_rfl) (by kernel_rfl) (by kernel_rfl)
 have h53 := @run_callFunc_extern Tryz.prog 53 _ (ReflectliteValue.method (ReflectliteValue.valueError "reflectlite.Value.IsNil" 0) ReflectliteValue.isNil) Tryz.func53 (by kernel_rfl) (by kernel_rfl) (by kernel_rfl) (by kernel_rfl)
 have hki := @run_callFunc_extern Tryz.prog 227 _ (ReflectliteType.abiMethod fun t => do pure (.int .u8 (<- Rtype.kind t))) Tryz.func227 (by kernel_rfl) (by kernel_rfl) (by kernel_rfl) (by kernel_rfl)
 have hel := @run_callFunc_extern Tryz.prog 241 _ (ReflectliteType.method ReflectliteType.elem) Tryz.func241 (by kernel_rfl) (by kernel_rfl) (by kernel_rfl) (by kernel_rfl)
 have him := @run_callFunc_extern Tryz.prog 242 _ (ReflectliteType.relation "Implements" ReflectliteType.implements_) Tryz.func242 (by kernel_rfl) (by kernel_rfl) (by kernel_rfl) (by kernel_rfl)
 have f1 := valueOfP
 have f2 := typeP
 have f3 := mKind
 have f4 := mElem
 have f5 := mImpl
 have f6 := kindP
 have f7 := kindC
 have f8 := elemP
 have f9 := implC
 have l0 : 0 < w.heap.size := zEb hg
 have lj := zEb hj
 have lS : bS < w.heap.size := zEb h1
 have lt := zEb ht
 have old2 : ∀ (a : Addr) (v : Value), a.block < w.heap.size -> w.cell? a = some v -> (asW w t).cell? a = some v := fun a v hl h => by
  rw [asW, World.cell?_alloc_lt _ _ a (by simp; omega), World.cell?_alloc_lt _ _ a hl]; exact h
 have n8 := isNilP ⟨w.heap.size, 0, none⟩ t (asW w t) (by rw [asW, World.cell?_alloc_lt _ _ ⟨w.heap.size, 0, none⟩ (by simp)]; simp)
 have hg2 := old2 _ _ l0 hg
 have hj2 := old2 _ _ lj hj
 have h12 := old2 ⟨bS, 0, none⟩ _ lS h1
 have h22 := old2 ⟨bS, 1, none⟩ _ lS h2
 have ht2 := old2 _ _ lt ht
 have hq2 : (asW w t).cell? ⟨w.heap.size, 0, none⟩ = some (.pointer (some t)) := by rw [asW, World.cell?_alloc_lt _ _ ⟨w.heap.size, 0, none⟩ (by simp)]; simp
 have hf2 : (asW w t).frozen? t = false := by rw [asW, World.frozen?_alloc_old _ _ t (by simp; omega), World.frozen?_alloc_old _ _ t (Nat.ne_of_lt lt)]; exact hf
 have key := as_join e1 e2 j ⟨w.heap.size, 0, none⟩ t bS k (.iface 62 (.pointer (some t))) old (asW w t) hj2 h12 h22 hq2 ht2 hf2
 unfold asW at n8 hg2 key
 go_enter Tryz.func26, Tryz.ntmps26
 go_wp2_with (go_at_call 54; refine key.mono ?_; rintro e w' ⟨rfl, rfl⟩)
 go_ret
 exact ⟨rfl, rfl⟩
end Go.Proofs
end
section
namespace Go.Proofs
open Go Go.Ab
open Go.RowKit (Below)
section
variable {N : Nat} {w0 : World}
theorem s_as_nil {h : AHeap} {a : AVal} {G : GM} {argsV : Array Value} {w : World} {Q : AVal × AHeap -> Prop} (hR : Rel Tryz.prog N w0 G h w) (hv : VsR Tryz.prog G [.nilIface, a] argsV.toList) (hq : Q (.bool false, h)) : CallsIn (FR none) 0 Tryz.prog 26 argsV w (PostC Tryz.prog N w0 G h w Q) := by
 obtain ⟨x, y, rfl, hx, hy⟩ := args2 hv
 have hx : x = .nilIface := hx
 subst hx
 exact zGa hR (v := .bool false) (cv := .bool false) rfl hq (As_nil y w)
theorem zIA {G : GM} {h : AHeap} {w : World} (hR : Rel Tryz.prog N w0 G h w) {b ver : Nat} {e : TypeId} {vs : List AVal} (hb : h.objs.get b = some (ver, .cells false e vs)) : ∃ (gi : GI) (c : Array Value), G b = some gi /\ gi.off = 0 /\ w.heap[gi.blk]? = some (.cells c e (0, 0)) /\ c.size = gi.size /\ gi.elem = e /\ vs.length <= gi.size /\ VsR Tryz.prog G vs (c.toList.take vs.length) ∧
  (∀ i v, vs[i]? = some v -> ∃ x, w.cell? ⟨gi.blk, i, none⟩ = some x /\ VR Tryz.prog G v x) := by
 obtain ⟨gi, h1, ob, h2, c, t, fr, rfl, hf, hfit, hel, hl, hvs⟩ := hR.obj b _ _ hb
 obtain ⟨hsz, hoff, ht, hfr⟩ := hf rfl
 subst ht; subst hfr
 rw [hoff, zlZ] at hvs
 refine ⟨gi, c, h1, hoff, h2, hsz, hel, hl, hvs, fun i v hv => ?_⟩
 obtain ⟨x, k1, k2⟩ := hvs.get hv
 have hi : i < vs.length := (List.getElem?_eq_some_iff.1 hv).1
 refine ⟨x, ?_, k2⟩
 rw [List.getElem?_take, if_pos hi] at k1
 simp [World.cell?, h2]
 simpa using k1
theorem zEB {n : Nat} {w w' : World} (b : Below n w w') (h : n <= w'.heap.size) (ob : Obj) : Below n w (w'.alloc ob) :=
 ⟨b.os, b.tape, b.output, Nat.le_trans b.size (by
  show w'.heap.size <= (w'.heap.push ob).size
  rw [Array.size_push]; omega), fun k hk => by
  rw [<- b.block k hk]
  show (w'.heap.push ob)[k]? = _
  rw [Array.getElem?_push, if_neg (by omega)]⟩
theorem size_alloc (w : World) (ob : Obj) : w.heap.size <= (w.alloc ob).heap.size := by
 show w.heap.size <= (w.heap.push ob).size
 rw [Array.size_push]; omega
set_option maxHeartbeats 2000000 in
theorem s_as {h : AHeap} {bj vj be ve bw vw b1 b2 : Nat} {vs : List AVal} (h1 : h.objs.get bj = some (vj, .cells false 203 [.slice (some (be, 0)) 2])) (h2 : h.objs.get be = some (ve, .cells false 60 vs)) (ht : vs.take 2 = [.iface 204 (.ptr (some (b1, 0))), .iface 57 (.ptr (some (b2, 0)))])
  (h3 : h.objs.get bw = some (vw, .cells false 57 [.ptr none])) (hN0 : 0 < N) (he : w0.cell? ⟨0, 0, none⟩ = some (.iface 157 (.agg #[.pointer (some ⟨12, 60, none⟩)])))
  {G : GM} {argsV : Array Value} {w : World} {Q : AVal × AHeap -> Prop} (hR : Rel Tryz.prog N w0 G h w) (hv : VsR Tryz.prog G [.iface 201 (.ptr (some (bj, 0))), .iface 62 (.ptr (some (bw, 0)))] argsV.toList)
  (hq : Q (.bool true, zAd h bw (.cells false 57 [.ptr (some (b2, 0))]))) : CallsIn (FR none) 0 Tryz.prog 26 argsV w (PostC Tryz.prog N w0 G h w Q) := by
 obtain ⟨x, y, rfl, ⟨x', rfl, gj, hgj, rfl⟩, y', rfl, gw, hgw, rfl⟩ := args2 hv
 obtain ⟨gj', cj, k1, k2, k3, _, _, _, _, k8⟩ := zIA hR h1
 obtain ⟨ge, ce, l1, l2, l3, _, _, _, _, l8⟩ := zIA hR h2
 obtain ⟨gw', cw, m1, m2, m3, m4, m5, m6, m7, m8⟩ := zIA hR h3
 have hgj' : G bj = some gj := hgj
 have hgw' : G bw = some gw := hgw
 rw [hgj'] at k1; cases k1
 rw [hgw'] at m1; cases m1
 obtain ⟨xs, q1, gse, cap, hge, rfl, _⟩ := k8 0 _ rfl
 have hge' : G be = some gse := hge
 rw [l1] at hge'; cases hge'
 have v0 : vs[0]? = some (.iface 204 (.ptr (some (b1, 0)))) := by have := congrArg (fun l => l[0]?) ht; simpa using this
 have v1 : vs[1]? = some (.iface 57 (.ptr (some (b2, 0)))) := by have := congrArg (fun l => l[1]?) ht; simpa using this
 obtain ⟨y0, r1, z0, rfl, g1, hg1, rfl⟩ := l8 0 _ v0
 obtain ⟨y1, r2, z1, rfl, g2, hg2, rfl⟩ := l8 1 _ v1
 obtain ⟨yw, r3, hyw⟩ := m8 0 _ rfl
 have hyw : yw = .pointer none := hyw
 subst hyw
 have hfz : w.frozen? ⟨gw.blk, 0, none⟩ = false := zBk m3
 have hg0 : w.cell? ⟨0, 0, none⟩ = some (.iface 157 (.agg #[.pointer (some ⟨12, 60, none⟩)])) := by
  have := hR.below.block 0 hN0
  simp only [World.cell?] at he ⊢
  rw [this]; exact he
 have hNw : N <= gw.blk := hR.own bw _ _ gw h3 hgw' rfl
 simp only [k2, m2, l2, Nat.add_zero, Nat.zero_add] at q1 ⊢
 refine callsIn_wide.2 ((As_join ⟨g1.blk, g1.off + 0, none⟩ ⟨g2.blk, g2.off + 0, none⟩ ⟨gj.blk, 0, none⟩ ⟨gw.blk, 0, none⟩ ge.blk cap (.pointer none) w hg0 q1 r1 r2 r3 hfz).mono fun e w' hp => ?_)
 obtain ⟨rfl, rfl⟩ := hp
 unfold hitW
 generalize hwA : ((((asW w ⟨gw.blk, 0, none⟩).alloc _).alloc _).alloc _).alloc _ = wA
 have hbel : Below w.heap.size w wA := by
  subst hwA
  have b0 : Below w.heap.size w w := ⟨rfl, rfl, rfl, Nat.le_refl _, fun _ _ => rfl⟩
  have c1 := zEB b0 (Nat.le_refl _)
  have c2 := fun o1 o2 => zEB (c1 o1) (size_alloc _ _) o2
  have c3 := fun o1 o2 o3 => zEB (c2 o1 o2) (Nat.le_trans (size_alloc _ _) (size_alloc _ _)) o3
  have c4 := fun o1 o2 o3 o4 => zEB (c3 o1 o2 o3) (Nat.le_trans (Nat.le_trans (size_alloc _ _) (size_alloc _ _)) (size_alloc _ _)) o4
  have c5 := fun o1 o2 o3 o4 o5 => zEB (c4 o1 o2 o3 o4) (Nat.le_trans (Nat.le_trans (Nat.le_trans (size_alloc _ _) (size_alloc _ _)) (size_alloc _ _)) (size_alloc _ _)) o5
  have c6 := fun o1 o2 o3 o4 o5 o6 => zEB (c5 o1 o2 o3 o4 o5) (Nat.le_trans (Nat.le_trans (Nat.le_trans (Nat.le_trans (size_alloc _ _) (size_alloc _ _)) (size_alloc _ _)) (size_alloc _ _)) (size_alloc _ _)) o6
  exact c6 _ _ _ _ _ _
 obtain ⟨hR', hE'⟩ := hR.grown hbel
 have lw : gw.blk < w.heap.size := zAs m3
 have hA : wA.heap[gw.blk]? = some (.cells cw 57 (0, 0)) := (hbel.block _ lw).trans m3
 have hset : (wA.setCell ⟨gw.blk, 0, none⟩ (.pointer (some ⟨g2.blk, g2.off + 0, none⟩))).heap[gw.blk]? = some (.cells (cw.setIfInBounds 0 (.pointer (some ⟨g2.blk, g2.off + 0, none⟩))) 57 (0, 0)) := by
  show (wA.heap.modify gw.blk _)[gw.blk]? = _
  rw [Array.getElem?_modify]; simp [hA]
 have hoth : ∀ k, k ≠ gw.blk -> (wA.setCell ⟨gw.blk, 0, none⟩ (.pointer (some ⟨g2.blk, g2.off + 0, none⟩))).heap[k]? = wA.heap[k]? := fun k hk => by
  show (wA.heap.modify gw.blk _)[k]? = _
  rw [Array.getElem?_modify]; simp [Ne.symm hk]
 have hput := hR'.put (w' := wA.setCell ⟨gw.blk, 0, none⟩ (.pointer (some ⟨g2.blk, g2.off + 0, none⟩))) (o' := .cells false 57 [.ptr (some (b2, 0))]) (ob' := .cells (cw.setIfInBounds 0 (.pointer (some ⟨g2.blk, g2.off + 0, none⟩))) 57 (0, 0)) h3 rfl rfl hgw' hset hoth
  ⟨rfl, rfl, rfl, by simp [World.setCell], fun k hk => hoth k (by omega)⟩
  ⟨_, _, (0, 0), rfl, fun _ => ⟨by simp [m4], m2, rfl, rfl⟩, by simp [m2, m4], m5, by simpa using m6, by
   rw [m2, zlZ]
   have m6' : 1 <= cw.size := by rw [m4]; simpa using m6
   have : (cw.setIfInBounds 0 (.pointer (some ⟨g2.blk, g2.off + 0, none⟩))).toList.take 1 = [.pointer (some ⟨g2.blk, g2.off + 0, none⟩)] := by
    rw [Array.toList_setIfInBounds]
    obtain ⟨x0, r0, hl⟩ : ∃ x r, cw.toList = x :: r := by
     have h0 : 0 < cw.toList.length := by rw [Array.length_toList]; omega
     exact ⟨_, _, (List.cons_head_tail (List.ne_nil_of_length_pos h0)).symm⟩
    rw [hl]; rfl
   show VsR Tryz.prog G _ (List.take 1 _)
   rw [this]
   exact ⟨_, _, rfl, ⟨g2, hg2, rfl⟩, rfl⟩⟩
 exact ⟨.bool true, _, G, .bool true, rfl, hq, hput.1, hE'.trans hput.2, rfl⟩
end
end Go.Proofs
end
section
namespace Go.Proofs
open Go Go.Ab Go.Ab.S
open Go.RowKit (Below)
theorem zLQ : ∀ a b : List Nat, zOK a b = zKk a b
 | [], _ => rfl
 | _ :: _, [] => rfl
 | x :: a, y :: b => by
  rw [zOK, zKk, zLQ a b]
  cases h : Nat.beq x y with
  | true => rw [Nat.eq_of_beq_eq_true h]; simp
  | false =>
   have : (x == y) = false := by
    rw [beq_eq_false_iff_ne]; rintro rfl; rw [Nat.beq_refl] at h; cases h
   rw [this]; rfl
theorem inL_N : ∀ s t : List Nat, inL s t = inN s t
 | [], t => by rw [inL, inN, zLQ]
 | a :: s, t => by
  rw [inL, inN, zLQ, inL_N s t]
  cases zKk t (a :: s) <;> rfl
theorem zJS : ∀ (f n : Nat), n < 10 ^ (f + 1) -> digF f n = zAn (Lib.decDigits n)
 | 0, n, h => by
  rw [Lib.decDigits, dif_pos (by omega), digF, Nat.mod_eq_of_lt (by omega)]
  simp only [zAn, List.map_cons, List.map_nil, UInt8.toNat_ofNat']
  rw [Nat.mod_eq_of_lt (by omega)]
 | f + 1, n, h => by
  rw [Lib.decDigits, digF]
  by_cases h10 : n < 10
  ·rw [dif_pos h10, if_pos h10]
   simp only [zAn, List.map_cons, List.map_nil, UInt8.toNat_ofNat']
   rw [Nat.mod_eq_of_lt (by omega)]
  ·rw [dif_neg h10, if_neg h10, zJS f (n / 10) (by rw [Nat.pow_succ] at h; omega)]
   simp only [zAn, List.map_append, List.map_cons, List.map_nil, UInt8.toNat_ofNat']
   rw [Nat.mod_eq_of_lt (a := 48 + n % 10) (by omega)]
theorem itoa_eq {n : Int} (h0 : -9223372036854775808 <= n) (h1 : n <= 9223372036854775807) : zAn (Lib.itoa n) = zFD n := by
 unfold Lib.itoa zFD
 by_cases hn : n < 0
 ·rw [if_pos hn, if_pos hn, digN, zJS 19 _ (by omega)]; rfl
 ·rw [if_neg hn, if_neg hn, digN, zJS 19 _ (by omega)]
def zFw : List AVal -> Option (List UInt8)
 | [] => some []
 | .int .u8 (.ofNat x) :: r => (match Nat.blt x 256, zFw r with | true, some l => some (UInt8.ofNat x :: l) | _, _ => none)
 | _ => none
theorem zGH : ∀ {vs : List AVal} {l : List UInt8}, zFw vs = some l -> vs = l.map fun x => AVal.int .u8 (x.toNat : Nat)
 | [], l, h => by simp only [zFw, oI] at h; subst h; rfl
 | v :: r, l, h => by
  unfold zFw at h
  split at h
  ·rename_i heq; cases heq
  ·rename_i x r' heq
   cases heq
   split at h
   ·rename_i l' hx hl
    simp only [oI] at h
    subst h
    rw [zGH hl, List.map_cons, UInt8.toNat_ofNat', Nat.mod_eq_of_lt (Nat.blt_eq.mp hx)]; rfl
   ·cases h
  ·cases h
theorem zHa : ∀ (l : List Nat), (∀ x ∈ l, x < 256) -> ∃ b, zFw (l.map fun x => AVal.int .u8 (x : Nat)) = some b /\ zAn b = l /\ b.length = l.length
 | [], _ => ⟨[], rfl, rfl, rfl⟩
 | x :: l, h => by
  obtain ⟨b, h1, h2, h3⟩ := zHa l fun y hy => h y (by simp [hy])
  have hx := h x (by simp)
  refine ⟨UInt8.ofNat x :: b, ?_, ?_, by simp [h3]⟩
  ·rw [List.map_cons]
   show (match Nat.blt x 256, zFw _ with | true, some l => some (UInt8.ofNat x :: l) | _, _ => none) = _
   rw [h1, Nat.blt_eq.mpr hx]
  ·simp only [zAn, List.map_cons, UInt8.toNat_ofNat'] at h2 ⊢
   rw [h2, Nat.mod_eq_of_lt hx]
structure WOK (W : World) : Prop where
 maxLen : ∃ m, W.cell? ⟨2, 0, none⟩ = some (.int .i64 m)
 space : TblOK Tryz.prog W.heap.size W 1 200 tabA
 pow : ∀ w, Below W.heap.size W w -> Lib.TabIs Tryz.prog w "internal/strconv.uint64pow10" .u64 Lib.pow10Tab
 globs : Tryz.prog.globals.size <= W.heap.size
 err : W.cell? ⟨0, 0, none⟩ = some (.iface 157 (.agg #[.pointer (some ⟨12, 60, none⟩)]))
theorem mixed : Tryz.prog.follows .mixedOrders = true := by kernel_rfl
theorem zDk : Tryz.prog.globals.size = 12 := by kernel_rfl
theorem zLx : Ab.Enters Tryz.prog 26 := ⟨Tryz.f26, _, Tryz.func26, by kernel_rfl, rfl⟩
theorem zKS : Ab.Enters Tryz.prog 140 := ⟨Tryz.f140, _, Tryz.func140, by kernel_rfl, rfl⟩
theorem zNZ : Ab.Enters Tryz.prog 186 := ⟨Tryz.f186, _, Tryz.func186, by kernel_rfl, rfl⟩
theorem zKT : Ab.Enters Tryz.prog 173 := ⟨Tryz.f173, _, Tryz.func173, by kernel_rfl, rfl⟩
theorem zNY : Ab.Enters Tryz.prog 149 := ⟨Tryz.f149, _, Tryz.func149, by kernel_rfl, rfl⟩
theorem zJU : Ab.Enters Tryz.prog 56 := ⟨Tryz.f56, _, Tryz.func56, by kernel_rfl, rfl⟩
theorem enters23 : Ab.Enters Tryz.prog 23 := ⟨Tryz.f23, _, Tryz.func23, by kernel_rfl, rfl⟩
section
variable {W : World} (K : WOK W)
include K
theorem summ0_ok : SummOK Tryz.prog W.heap.size W zKx := by
 intro f args h d hd
 unfold zKx at hd
 split at hd
 ·rename_i hf
  have hf := Nat.eq_of_beq_eq_true hf
  subst hf
  split at hd
  ·rename_i s t
   split at hd
   ·rename_i hs
    have hs := Nat.le_of_ble_eq_true hs
    simp only [oI] at hd
    subst hd
    refine ⟨zKS, fun G argsV w Q R hv hq => ?_⟩
    exact zJH Tryz.lays144 (w0 := W) K.maxLen (by have := K.globs; rw [zDk] at this; show 2 < _; omega) (by omega) R hv hq
   ·cases hd
  ·cases hd
 ·cases hd
end
def rdOf (s : List Nat) : Option (Nat × List (TypeId × List AVal)) :=
 match eqL s tP with
 | true => some (3, osP)
 | false => 
 (match eqL s tQ with
 | true => some (2, osQ)
 | false => 
 (match eqL s tI with
 | true => some (3, osI)
 | false => 
 (match eqL s tM with
 | true => some (2, osM)
 | false => 
 (match eqL s tN with
 | true => some (2, osN)
 | false => none))))
def zIS : List AVal -> Option (List (List Nat))
 | [] => some []
 | .str s :: r => (match zIS r with | some l => some (s :: l) | none => none)
 | _ => none
theorem zHG : ∀ {vs : List AVal} {l : List (List Nat)}, zIS vs = some l -> vs = l.map AVal.str
 | [], l, h => by simp only [zIS, oI] at h; subst h; rfl
 | v :: r, l, h => by
  unfold zIS at h
  split at h
  ·rename_i heq; cases heq
  ·rename_i s r' heq
   cases heq
   split at h
   ·rename_i l' hl
    simp only [oI] at h
    subst h
    rw [zHG hl]; rfl
   ·cases h
  ·cases h
theorem zJK : ∀ l : List (List Nat), zIS (l.map AVal.str) = some l
 | [] => rfl
 | s :: l => by
  rw [List.map_cons]
  show (match zIS (l.map AVal.str) with | some l => some (s :: l) | none => none) = _
  rw [zJK l]
def asF (args : List AVal) (h : AHeap) : Option (D (AVal × AHeap)) := match args with
 | [.nilIface, _] => some (.ret (.bool false, h))
 | [.iface t1 (.ptr (some (bj, o1))), .iface t2 (.ptr (some (bw, o2)))] => if t1 = 201 /\ o1 = 0 /\ t2 = 62 /\ o2 = 0 then (match h.objs.get bj, h.objs.get bw with
  | some (_, .cells false e1 [.slice (some (be, o3)) n]), some (_, .cells false e2 [.ptr none]) => if e1 = 203 /\ o3 = 0 /\ n = 2 /\ e2 = 57 then (match h.objs.get be with
   | some (_, .cells false e3 vs) => (match vs.take 2 with
    | [.iface t3 (.ptr (some (_, o4))), .iface t4 (.ptr (some (b2, o5)))] => if e3 = 60 /\ t3 = 204 /\ o4 = 0 /\ t4 = 57 /\ o5 = 0 then some (.ret (.bool true, zAd h bw (.cells false 57 [.ptr (some (b2, 0))]))) else none
    | _ => none)
   | _ => none) else none
  | _, _ => none) else none
 | _ => none
def zEU : FuncId -> List AVal -> AHeap -> Option (D (AVal × AHeap)) := fun f args h =>
 if f = 140 then (match args with
  | [.str s, .str t] => if s.length <= 2000 then some (.ret (.bool (inL s t), h)) else none
  | _ => none)
 else if f = 186 then (match args with
  | [.int .i64 n] => if -9223372036854775808 <= n /\ n <= 9223372036854775807 then some (.ret (.str (zFD n), h)) else none
  | _ => none)
 else if f = 173 then (match args with
  | [.ptr (some (b, 0))] => (match h.objs.get b with
   | some (_, .cells false e [.ptr none, s]) => if e = 258 /\ Go.Ab.one s = true then some (.ret (.tuple [], zAd h b (.cells false 258 [.ptr (some (b, 0)), s]))) else none
   | some (_, .cells false e [.ptr (some (c, 0)), _]) => if e = 258 /\ c = b then some (.ret (.tuple [], h)) else none
   | _ => none)
  | _ => none)
 else if f = 149 then (match args with
  | [.ptr (some (b, 0))] => (match h.objs.get b with
   | some (_, .cells false _ [_, .slice (some (c, 0)) n]) => (match h.objs.get c with
    | some (_, .cells false e vs) => (match zFw (vs.take n) with
     | some l => if e = 5 /\ l ≠ [] /\ l.length = n /\ n <= 1000000 then some (.ret (.str (zAn l), zDN h c)) else none
     | none => none)
    | _ => none)
   | _ => none)
  | _ => none)
 else if f = 23 then (match args with
  | [.str s] => (match rdOf s with
   | some (n, os) => some (.ret (mapV (h.next + ·) (vR n), layH h.next os h))
   | none => none)
  | _ => none)
 else if f = 56 then (match args with
  | [.slice none n] => if n = 0 then some (.ret (.tuple [], h)) else none
  | [.slice0] => some (.ret (.tuple [], h))
  | [.slice (some (b, 0)) n] => (match h.objs.get b with
   | some (_, .cells false e vs) => (match zIS (vs.take n) with
    | some l => if e = 9 /\ l.length = n /\ n <= 2147483648 /\ (l.all fun s => s.all fun c => decide (c < 256)) = true then some (.ret (.tuple [], zAd h b (.cells false 9 ((zET l).map AVal.str ++ vs.drop n)))) else none
    | none => none)
   | _ => none)
  | _ => none)
 else if f = 26 then asF args h
 else none
section
variable {W : World} (K : WOK W)
include K
theorem zID {s : List Nat} {keep : List Nat} {n : Nat} {os : List (TypeId × List AVal)} (hk : keep.length = os.length) (hnd : keep.Nodup) (hpl : ∀ o ∈ os, zDT os.length o.2 = true) (hv0 : zGZ os.length (vR n) = true)
  (he : ((run (fnsP Tryz.prog) zKx 4000).call 23 [.str s] (tblH 1 200 tabA)).all (isAt keep (vR n) os) = true) {h : AHeap} {G : GM} {argsV : Array Value} {w : World} {Q : AVal × AHeap -> Prop} (R : Rel Tryz.prog W.heap.size W G h w) (hv : VsR Tryz.prog G [.str s] argsV.toList) (hq : (D.ret (mapV (h.next + ·) (vR n), layH h.next os h)).sat Q) :
  CallsIn (FR none) 0 Tryz.prog 23 argsV w (PostC Tryz.prog W.heap.size W G h w Q) :=
 summ_run mixed (fnsP_ok _) (summ0_ok K) K.space rfl hk hnd hpl hv0 he R hv hq
theorem summ1_ok : SummOK Tryz.prog W.heap.size W zEU := by
 intro f args h d hd
 unfold zEU at hd
 split at hd
 ·rename_i hf
  subst hf
  split at hd
  ·split at hd
   ·simp only [oI] at hd
    subst hd
    refine ⟨zKS, fun G argsV w Q R hv hq => ?_⟩
    rw [D.sat_ret, inL_N] at hq
    exact zJH Tryz.lays144 (w0 := W) K.maxLen (by have := K.globs; rw [zDk] at this; show 2 < _; omega) (by omega) R hv hq
   ·cases hd
  ·cases hd
 split at hd
 ·rename_i hf
  subst hf
  split at hd
  ·split at hd
   ·rename_i n hn
    simp only [oI] at hd
    subst hd
    refine ⟨zNZ, fun G argsV w Q R hv hq => ?_⟩
    rw [D.sat_ret, <- itoa_eq hn.1 hn.2] at hq
    exact s_itoa Tryz.laysM171 n hn.1 hn.2 K.pow R hv hq
   ·cases hd
  ·cases hd
 split at hd
 ·rename_i hf
  subst hf
  split at hd
  ·rename_i b
   split at hd
   ·rename_i ver e s hb
    split at hd
    ·rename_i he
     obtain ⟨rfl, hs⟩ := he
     simp only [oI] at hd
     subst hd
     exact ⟨zKT, fun G argsV w Q R hv hq => zJw Tryz.lays240 Tryz.Builder_X72_240 hs hb R hv hq⟩
    ·cases hd
   ·rename_i ver e c s hb
    split at hd
    ·rename_i he
     obtain ⟨rfl, rfl⟩ := he
     simp only [oI] at hd
     subst hd
     exact ⟨zKT, fun G argsV w Q R hv hq => zKt (ro := false) Tryz.lays240 Tryz.Builder_X72_240 hb R hv hq⟩
    ·cases hd
   ·cases hd
  ·cases hd
 split at hd
 ·rename_i hf
  subst hf
  split at hd
  ·rename_i b
   split at hd
   ·rename_i ver e x0 c n hb
    split at hd
    ·rename_i ver' e' vs hc
     split at hd
     ·rename_i l hl
      split at hd
      ·rename_i he
       obtain ⟨rfl, h1, rfl, h3⟩ := he
       simp only [oI] at hd
       subst hd
       exact ⟨zNY, fun G argsV w Q R hv hq => s_string Tryz.lays169 Tryz.Builder_Extra_169 h1 hb hc (zGH hl) h3 R hv hq⟩
      ·cases hd
     ·cases hd
    ·cases hd
   ·cases hd
  ·cases hd
 split at hd
 ·rename_i hf
  subst hf
  split at hd
  ·rename_i s
   split at hd
   ·rename_i n os hr
    simp only [oI] at hd
    subst hd
    refine ⟨enters23, fun G argsV w Q R hv hq => ?_⟩
    unfold rdOf at hr
    split at hr
    ·rename_i hs
     rw [zBJ.1 hs] at hv
     simp only [oI, Prod.mk.injEq] at hr
     obtain ⟨rfl, rfl⟩ := hr
     exact zID K rfl (by decide) (by decide) (by decide) readP R hv hq
    split at hr
    ·rename_i hs
     rw [zBJ.1 hs] at hv
     simp only [oI, Prod.mk.injEq] at hr
     obtain ⟨rfl, rfl⟩ := hr
     exact zID K rfl (by decide) (by decide) (by decide) readQ R hv hq
    split at hr
    ·rename_i hs
     rw [zBJ.1 hs] at hv
     simp only [oI, Prod.mk.injEq] at hr
     obtain ⟨rfl, rfl⟩ := hr
     exact zID K rfl (by decide) (by decide) (by decide) readI R hv hq
    split at hr
    ·rename_i hs
     rw [zBJ.1 hs] at hv
     simp only [oI, Prod.mk.injEq] at hr
     obtain ⟨rfl, rfl⟩ := hr
     exact zID K rfl (by decide) (by decide) (by decide) readM R hv hq
    split at hr
    ·rename_i hs
     rw [zBJ.1 hs] at hv
     simp only [oI, Prod.mk.injEq] at hr
     obtain ⟨rfl, rfl⟩ := hr
     exact zID K rfl (by decide) (by decide) (by decide) readN R hv hq
    ·cases hr
   ·cases hd
  ·cases hd
 split at hd
 ·rename_i hf
  subst hf
  split at hd
  ·split at hd
   ·rename_i hn
    subst hn
    simp only [oI] at hd
    subst hd
    exact ⟨zJU, fun G argsV w Q R hv hq => zIL Tryz.lays190 (.inl rfl) R hv hq⟩
   ·cases hd
  ·simp only [oI] at hd
   subst hd
   exact ⟨zJU, fun G argsV w Q R hv hq => zIL Tryz.lays190 (.inr rfl) R hv hq⟩
  ·rename_i b n
   split at hd
   ·rename_i ver e vs hb
    split at hd
    ·rename_i l hl
     split at hd
     ·rename_i he
      obtain ⟨rfl, rfl, h3, h4⟩ := he
      simp only [oI] at hd
      subst hd
      refine ⟨zJU, fun G argsV w Q R hv hq => s_sort Tryz.lays190 (fun s hs c hc => ?_) h3 hb (zHG hl) R hv hq⟩
      exact of_decide_eq_true (List.all_eq_true.1 (List.all_eq_true.1 h4 s hs) c hc)
     ·cases hd
    ·cases hd
   ·cases hd
  ·cases hd
 split at hd
 ·rename_i hf
  subst hf
  unfold asF at hd
  split at hd
  ·simp only [oI] at hd
   subst hd
   exact ⟨zLx, fun G argsV w Q R hv hq => s_as_nil R hv hq⟩
  ·split at hd
   ·rename_i hc
    obtain ⟨rfl, rfl, rfl, rfl⟩ := hc
    split at hd
    ·rename_i hb1 hb2
     split at hd
     ·rename_i hc2
      obtain ⟨rfl, rfl, rfl, rfl⟩ := hc2
      split at hd
      ·rename_i hb3
       split at hd
       ·rename_i htk
        split at hd
        ·rename_i hc3
         obtain ⟨rfl, rfl, rfl, rfl, rfl⟩ := hc3
         simp only [oI] at hd
         subst hd
         exact ⟨zLx, fun G argsV w Q R hv hq => s_as hb1 hb3 htk hb2 (by have := K.globs; rw [zDk] at this; omega) K.err R hv hq⟩
        ·cases hd
       ·cases hd
      ·cases hd
     ·cases hd
    ·cases hd
   ·cases hd
  ·cases hd
 ·cases hd
end
end Go.Proofs
end
section
namespace Go.Proofs
open Go Go.Ab Go.Ab.S
theorem hasTab : Has tab zEU where
 contains := fun s t h hs => by
  unfold zEU
  rw [if_pos rfl]
  simp only [hs, if_true]
 itoa := fun n h h0 h1 => by
  unfold zEU
  rw [if_neg (by decide), if_pos rfl]
  simp only [h0, h1, and_self, if_true]
 checkNew := fun b ver s h hb hs => by
  unfold zEU
  rw [if_neg (by decide), if_neg (by decide), if_pos rfl]
  simp only [hb, hs, and_self, if_true]
 checkOld := fun b ver s h hb => by
  unfold zEU
  rw [if_neg (by decide), if_neg (by decide), if_pos rfl]
  simp only [hb, and_self, if_true]
 text := fun b ver p c ver' vs l h hb hc ht hn hl hs => by
  obtain ⟨bs, h1, h2, h3⟩ := zHa l hl
  unfold zEU
  rw [if_neg (by decide), if_neg (by decide), if_neg (by decide), if_pos rfl]
  have hne : bs ≠ [] := by rintro rfl; simp at h3; exact hn (by simpa using h3.symm)
  simp only [hb, hc, ht, h1]
  rw [if_pos ⟨trivial, hne, h3, hs⟩, h2]
 funs := fun _ _ h => h
 other := fun f fn hf a h => by
  unfold zEU
  by_cases h1 : f = 140
  ·subst h1; cases hf
  by_cases h2 : f = 186
  ·subst h2; cases hf
  by_cases h3 : f = 173
  ·subst h3; cases hf
  by_cases h4 : f = 149
  ·subst h4; cases hf
  by_cases h5 : f = 23
  ·subst h5; cases hf
  by_cases h6 : f = 56
  ·subst h6; cases hf
  by_cases h7 : f = 26
  ·subst h7; cases hf
  rw [if_neg h1, if_neg h2, if_neg h3, if_neg h4, if_neg h5, if_neg h6, if_neg h7]
theorem zEJ (n : Nat) : ∀ (os : List (TypeId × List AVal)) {h0 h : AHeap}, Grow h0 h -> Grow h0 (layH n os h)
 | [], _, _, g => g
 | (e, vs) :: r, _, _, g => by rw [layH]; exact zEJ n r (g.new _)
theorem zLZ {h : AHeap} {b ver : Nat} {ro : Bool} {e : TypeId} {vs : List AVal} {sz n : Nat} {xs : List (List AVal)} (hb : h.objs.get b = some (ver, .cells ro e vs)) (hn : n = xs.length) (hx : ∀ x ∈ xs, x.length = sz) (hv : vs = xs.flatten) : SlAt h sz (.slice (some (b, 0)) n) xs := by
 subst hn; subst hv
 refine ⟨rfl, fun i x hi => ?_⟩
 have hil := (List.getElem?_eq_some_iff.1 hi).1
 have hxl := hx x (List.mem_of_getElem? hi)
 refine ⟨hxl, b, 0 + i * sz, ver, ro, e, _, by simp [slA, hil], hb, ?_⟩
 clear hb
 induction xs generalizing i with
 | nil => simp at hi
 | cons y xs ih =>
  cases i with
  | zero =>
   simp only [List.getElem?_cons_zero, oI] at hi
   subst hi
   simp only [Nat.zero_mul, Nat.add_zero, zlZ, List.flatten_cons]
   rw [List.take_append_of_le_length (by omega), List.take_of_length_le (by omega)]
  | succ i =>
   have hy := hx y (by simp)
   have := ih (fun x hx' => hx x (by simp [hx'])) i (by simpa using hi) (by simpa using hil)
   rw [<- this, List.flatten_cons]
   have he : 0 + (i + 1) * sz = y.length + (0 + i * sz) := by rw [hy, Nat.add_mul]; omega
   rw [he, List.drop_append, List.drop_eq_nil_of_le (by omega)]
   simp
theorem sl_nil (h : AHeap) (sz : Nat) : SlAt h sz (.slice none 0) [] := ⟨rfl, fun i x hx => by simp at hx⟩
theorem zHm {h : AHeap} {b ver : Nat} {ro : Bool} {e : TypeId} {n : Nat} {l : List Int} (hb : h.objs.get b = some (ver, .cells ro e (l.map fun k => .int .i64 k))) (hn : n = l.length) : IntsAt h (.slice (some (b, 0)) n) l := by
 refine zLZ hb (by simp [hn]) (fun x hx => ?_) ?_
 ·obtain ⟨k, _, rfl⟩ := List.mem_map.1 hx; rfl
 ·clear hb hn; induction l with
  | nil => rfl
  | cons a l ih => rw [List.map_cons, List.map_cons, List.flatten_cons, <- ih]; rfl
theorem zOS {h : AHeap} {b ver : Nat} {ro : Bool} {e : TypeId} {n : Nat} {l : List (List Nat)} (hb : h.objs.get b = some (ver, .cells ro e (l.map fun k => .str k))) (hn : n = l.length) : StrsAt h (.slice (some (b, 0)) n) l := by
 refine zLZ hb (by simp [hn]) (fun x hx => ?_) ?_
 ·obtain ⟨k, _, rfl⟩ := List.mem_map.1 hx; rfl
 ·clear hb hn; induction l with
  | nil => rfl
  | cons a l ih => rw [List.map_cons, List.map_cons, List.flatten_cons, <- ih]; rfl
theorem nodes3 {h : AHeap} {v : AVal} {c1 c2 c3 : List AVal} {n1 n2 n3 : Ab.Node} (hs : SlAt h 5 v [c1, c2, c3]) (h1 : NodeAt h c1 n1) (h2 : NodeAt h c2 n2) (h3 : NodeAt h c3 n3) : NodesAt h v [n1, n2, n3] := by
 refine ⟨_, hs, rfl, fun i n c hn hc => ?_⟩
 match i with
 | 0 => cases hn; cases hc; exact h1
 | 1 => cases hn; cases hc; exact h2
 | 2 => cases hn; cases hc; exact h3
 | i + 3 => simp at hn
theorem zOF {h : AHeap} {v : AVal} {c1 c2 : List AVal} {n1 n2 : Ab.Node} (hs : SlAt h 5 v [c1, c2]) (h1 : NodeAt h c1 n1) (h2 : NodeAt h c2 n2) : NodesAt h v [n1, n2] := by
 refine ⟨_, hs, rfl, fun i n c hn hc => ?_⟩
 match i with
 | 0 => cases hn; cases hc; exact h1
 | 1 => cases hn; cases hc; exact h2
 | i + 2 => simp at hn
theorem nilI (h : AHeap) : IntsAt h (.slice none 0) [] := sl_nil h 1
theorem nilS (h : AHeap) : StrsAt h (.slice none 0) [] := sl_nil h 1
theorem zKg (h : AHeap) : NodeAt h [.int .i64 2, .str [105, 110, 116], .slice none 0, .slice none 0, .bool false] nI := ⟨_, _, rfl, nilI h, nilS h⟩
theorem node_v (h : AHeap) : NodeAt h [.int .i64 1, .str [], .slice none 0, .slice none 0, .bool false] nV := ⟨_, _, rfl, nilI h, nilS h⟩
theorem five3 {c1 c2 c3 : List AVal} (h1 : c1.length = 5) (h2 : c2.length = 5) (h3 : c3.length = 5) : ∀ x ∈ [c1, c2, c3], x.length = 5 := by
 intro x hx
 simp only [List.mem_cons, List.not_mem_nil, or_false] at hx
 rcases hx with rfl | rfl | rfl <;> assumption
theorem five2 {c1 c2 : List AVal} (h1 : c1.length = 5) (h2 : c2.length = 5) : ∀ x ∈ [c1, c2], x.length = 5 := by
 intro x hx
 simp only [List.mem_cons, List.not_mem_nil, or_false] at hx
 rcases hx with rfl | rfl <;> assumption
theorem readGP (h : AHeap) : GraphAt (layH h.next osP h) (.agg [.slice (some (h.next + 0, 0)) 3, .int .i64 0]) gP :=
 ⟨_, rfl, nodes3 (c1 := [.int .i64 2, .str [45, 62], .slice (some (h.next + 1, 0)) 2, .slice none 0, .bool false]) (zLZ (zCB h.next osP h 0 36 _ rfl) rfl (five3 rfl rfl rfl) rfl) ⟨_, _, rfl, zHm (l := [1, 2]) (zCB h.next osP h 1 3 _ rfl) rfl, nilS _⟩ (zKg _) (node_v _)⟩
theorem readGI (h : AHeap) : GraphAt (layH h.next osI h) (.agg [.slice (some (h.next + 0, 0)) 3, .int .i64 0]) gI :=
 ⟨_, rfl, nodes3 (c1 := [.int .i64 2, .str [45, 62], .slice (some (h.next + 1, 0)) 2, .slice none 0, .bool false]) (zLZ (zCB h.next osI h 0 36 _ rfl) rfl (five3 rfl rfl rfl) rfl) ⟨_, _, rfl, zHm (l := [1, 2]) (zCB h.next osI h 1 3 _ rfl) rfl, nilS _⟩ (zKg _) (zKg _)⟩
theorem readGQ (h : AHeap) : GraphAt (layH h.next osQ h) (.agg [.slice (some (h.next + 0, 0)) 2, .int .i64 0]) gQb :=
 ⟨_, rfl, zOF (c1 := [.int .i64 2, .str [45, 62], .slice (some (h.next + 1, 0)) 2, .slice none 0, .bool false]) (zLZ (zCB h.next osQ h 0 36 _ rfl) rfl (five2 rfl rfl) rfl) ⟨_, _, rfl, zHm (l := [1, 1]) (zCB h.next osQ h 1 3 _ rfl) rfl, nilS _⟩ (node_v _)⟩
theorem readGM (h : AHeap) : GraphAt (layH h.next osM h) (.agg [.slice (some (h.next + 0, 0)) 2, .int .i64 0]) gM :=
 ⟨_, rfl, zOF (c1 := [.int .i64 3, .str [], .slice (some (h.next + 1, 0)) 1, .slice (some (h.next + 2, 0)) 1, .bool true]) (zLZ (zCB h.next osM h 0 36 _ rfl) rfl (five2 rfl rfl) rfl) ⟨_, _, rfl, zHm (l := [1]) (zCB h.next osM h 1 3 _ rfl) rfl, zOS (l := [[109]]) (zCB h.next osM h 2 9 _ rfl) rfl⟩ (zKg _)⟩
theorem readGN (h : AHeap) : GraphAt (layH h.next osN h) (.agg [.slice (some (h.next + 0, 0)) 2, .int .i64 0]) gN :=
 ⟨_, rfl, zOF (c1 := [.int .i64 3, .str [], .slice (some (h.next + 1, 0)) 1, .slice (some (h.next + 2, 0)) 1, .bool false]) (zLZ (zCB h.next osN h 0 36 _ rfl) rfl (five2 rfl rfl) rfl) ⟨_, _, rfl, zHm (l := [1]) (zCB h.next osN h 1 3 _ rfl) rfl, zOS (l := [[110]]) (zCB h.next osN h 2 9 _ rfl) rfl⟩ (zKg _)⟩
theorem zEV (s : List Nat) (h : AHeap) {n : Nat} {os : List (TypeId × List AVal)} (hr : rdOf s = some (n, os)) : zEU 23 [.str s] h = some (.ret (.tuple [.agg [.slice (some (h.next + 0, 0)) n, .int .i64 0], .int .i64 0], layH h.next os h)) := by
 unfold zEU
 rw [if_neg (by decide), if_neg (by decide), if_neg (by decide), if_neg (by decide), if_pos rfl]
 dsimp only
 rw [hr]; rfl
theorem hasRead : HasRead zEU := by
 refine ⟨fun s G hm h hw => ?_⟩
 simp only [List.mem_cons, Prod.mk.injEq, List.not_mem_nil, or_false] at hm
 rcases hm with ⟨rfl, rfl⟩ | ⟨rfl, rfl⟩ | ⟨rfl, rfl⟩ | ⟨rfl, rfl⟩ | ⟨rfl, rfl⟩
 ·exact ⟨_, _, zEV _ h rfl, readGP h, zEJ _ _ (Grow.refl hw)⟩
 ·exact ⟨_, _, zEV _ h rfl, readGQ h, zEJ _ _ (Grow.refl hw)⟩
 ·exact ⟨_, _, zEV _ h rfl, readGI h, zEJ _ _ (Grow.refl hw)⟩
 ·exact ⟨_, _, zEV _ h rfl, readGM h, zEJ _ _ (Grow.refl hw)⟩
 ·exact ⟨_, _, zEV _ h rfl, readGN h, zEJ _ _ (Grow.refl hw)⟩
theorem hasSort : HasSort zEU where
 none := fun h => by
  unfold zEU
  rw [if_neg (by decide), if_neg (by decide), if_neg (by decide), if_neg (by decide), if_neg (by decide), if_pos rfl]
  simp
 zero := fun h => by
  unfold zEU
  rw [if_neg (by decide), if_neg (by decide), if_neg (by decide), if_neg (by decide), if_neg (by decide), if_pos rfl]
 some := fun l hl hn h b ver vs hw hb hle ht => by
  unfold zEU
  rw [if_neg (by decide), if_neg (by decide), if_neg (by decide), if_neg (by decide), if_neg (by decide), if_pos rfl]
  simp only [hb, ht, zJK]
  have h31 : (2 : Nat) ^ 31 = 2147483648 := by decide
  rw [if_pos ⟨trivial, trivial, by omega, List.all_eq_true.2 fun s hs => List.all_eq_true.2 fun c hc => decide_eq_true (hl s hs c hc)⟩]
theorem hasAs : HasAs zEU where
 no := fun x h => by
  unfold zEU
  rw [if_neg (by decide), if_neg (by decide), if_neg (by decide), if_neg (by decide), if_neg (by decide), if_neg (by decide), if_pos rfl]
  rfl
 yes := fun r h bw vw w hE hb => by
  obtain ⟨bj, vj, be, ve, vs, b1, b2, rfl, h1, h2, h3⟩ := hE
  refine ⟨some (b2, 0), ?_⟩
  unfold zEU
  rw [if_neg (by decide), if_neg (by decide), if_neg (by decide), if_neg (by decide), if_neg (by decide), if_neg (by decide), if_pos rfl]
  unfold asF
  dsimp only
  rw [if_pos ⟨rfl, rfl, rfl, rfl⟩]
  simp only [h1, hb]
  rw [if_pos (by simp)]
  simp only [h2, h3]
  rw [if_pos (by simp)]
end Go.Proofs
end
