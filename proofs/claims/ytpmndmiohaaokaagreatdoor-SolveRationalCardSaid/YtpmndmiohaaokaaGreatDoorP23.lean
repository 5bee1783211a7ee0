import Derived.Test.YtpmndmiohaaokaaGreatDoorP04
import Derived.Test.YtpmndmiohaaokaaGreatDoorP06
import Derived.Test.YtpmndmiohaaokaaGreatDoorP08
import Derived.Test.YtpmndmiohaaokaaGreatDoorP22
import Derived.Shelf.Strings.Search3
import Derived.Shelf.Strings.BuilderK
import Derived.Shelf.Strconv.Itoa3
import Derived.KernelRfl
import Derived.Test.YtpmndmiohaaokaaGreatDoorProg
import Derived.Shelf.Sort.Plain
import Derived.Sort.OwnSorted
import Derived.Shelf.Slices.In.SortNone
import Derived.Shelf.Strings.BuilderF
import Derived.Shelf.LaysM
import Derived.Ground.NamesProg
import Derived.Shelf.Strings.Builder1
/-
  Part 23 of the proof.
-/
set_option linter.all false
section
namespace Go.Ab
open Go.RowKit (Below)
open Go.Shelf Go.Proofs

section
variable {P : Program} {ρ : Ren} {N : Nat} {w0 : World}

theorem zGa {f : FuncId} {G : GM} {h : AHeap} {w : World} {argsV : Array Value} {v : AVal} {cv : Value} {Q : AVal × AHeap -> Prop} (hR : Rel P N w0 G h w) (hv : VR P G v cv) (hq : Q (v, h)) (hc : Calls P f argsV w fun e w' => e = .returned cv /\ w' = w) :
  CallsIn (FR none) 0 P f argsV w (PostC P N w0 G h w Q) :=
 callsIn_wide.2 (hc.mono fun e w' hp => ⟨v, h, G, cv, hp.1, hq, by rw [hp.2]; exact hR, by rw [hp.2]; exact Ext.refl _ _ _, hv⟩)

def zAn (l : List UInt8) : List Nat := l.map UInt8.toNat
theorem zJB : ∀ {a b : List UInt8}, zAn a = zAn b -> a = b
 | [], [], _ => rfl
 | [], _ :: _, h => by simp [zAn] at h
 | _ :: _, [], h => by simp [zAn] at h
 | x :: a, y :: b, h => by
  simp only [zAn, List.map_cons, List.cons.injEq] at h
  rw [UInt8.toNat_inj.1 h.1, zJB h.2]

def zKk : List Nat -> List Nat -> Bool
 | [], _ => true
 | _ :: _, [] => false
 | a :: x, b :: y => match Nat.beq a b with | true => zKk x y | false => false
def inN : List Nat -> List Nat -> Bool
 | [], t => zKk t []
 | a :: s, t => match zKk t (a :: s) with | true => true | false => inN s t
theorem zKl : ∀ (a b : List UInt8), zKk (zAn a) (zAn b) = a.isPrefixOf b
 | [], _ => rfl
 | _ :: _, [] => rfl
 | x :: a, y :: b => by
  simp only [zAn, List.map_cons, zKk, List.isPrefixOf]
  cases hxy : Nat.beq x.toNat y.toNat with
  | true =>
   have : x = y := UInt8.toNat_inj.1 (Nat.eq_of_beq_eq_true hxy)
   rw [this]
   simp only [beq_self_eq_true, Bool.true_and]
   exact zKl a b
  | false =>
   have : (x == y) = false := by
    rw [Bool.eq_false_iff]
    intro h
    have := eq_of_beq h
    rw [this, Nat.beq_refl] at hxy; cases hxy
   rw [this]; rfl
theorem zNu : ∀ (s t : List UInt8), inN (zAn s) (zAn t) = Lib.contains s t
 | [], t => by
  simp only [zAn, List.map_nil, inN, Lib.contains, Lib.index]
  cases t <;> rfl
 | a :: s, t => by
  have ih := zNu s t
  have hp := zKl t (a :: s)
  simp only [Lib.contains, Lib.index] at ih ⊢
  simp only [zAn, List.map_cons, inN] at hp ih ⊢
  rw [hp]
  rcases Bool.eq_false_or_eq_true (t.isPrefixOf (a :: s)) with h | h
  ·simp [h]
  ·simp only [h, Bool.false_eq_true, if_false]
   rw [ih]
   have := Lib.index_ge s t
   by_cases hm : Lib.index s t = -1
   ·simp [hm]
   ·have h2 : (Lib.index s t == -1) = false := by simpa using hm
    rw [h2]
    simp only [Bool.false_eq_true, if_false, decide_eq_decide]
    omega

theorem str_of {G : GM} {s : List Nat} {v : Value} (h : VR P G (.str s) v) : ∃ b : ByteArray, v = .string b /\ zAn b.data.toList = s := h
theorem zMc {G : GM} {a : AVal} {argsV : Array Value} (h : VsR P G [a] argsV.toList) : ∃ x, argsV = #[x] /\ VR P G a x := by
 obtain ⟨y, ys, h1, h2, h3⟩ := h
 have h3 : ys = [] := h3
 subst h3
 exact ⟨y, by cases argsV; simp_all, h2⟩
theorem args2 {G : GM} {a b : AVal} {argsV : Array Value} (h : VsR P G [a, b] argsV.toList) : ∃ x y, argsV = #[x, y] /\ VR P G a x /\ VR P G b y := by
 obtain ⟨x, xs, h1, h2, y, ys, h4, h5, h6⟩ := h
 have h6 : ys = [] := h6
 subst h6; subst h4
 exact ⟨x, y, by cases argsV; simp_all, h2, h5⟩

theorem zJH (L : Lays.n144 P ρ) (hc : ∃ m, w0.cell? ⟨ρ.g 1, 0, none⟩ = some (.int .i64 m)) (hg : ρ.g 1 < N) {s t : List Nat} {h : AHeap} (hs : s.length < 4294967281) {G : GM} {argsV : Array Value} {w : World} {Q : AVal × AHeap -> Prop} (hR : Rel P N w0 G h w) (hv : VsR P G [.str s, .str t] argsV.toList)
  (hq : Q (.bool (inN s t), h)) : CallsIn (FR none) 0 P (ρ.f 144) argsV w (PostC P N w0 G h w Q) := by
 obtain ⟨x, y, rfl, h1, h2⟩ := args2 hv
 obtain ⟨b1, rfl, rfl⟩ := str_of h1
 obtain ⟨b2, rfl, rfl⟩ := str_of h2
 obtain ⟨m, hm⟩ := hc
 have hm' : w.cell? ⟨ρ.g 1, 0, none⟩ = some (.int .i64 m) := by
  simp only [World.cell?] at hm ⊢
  rw [hR.below.block _ hg]; exact hm
 have hs' : b1.size < 4294967281 := by
  have : (zAn b1.data.toList).length = b1.size := by simp only [zAn, List.length_map]; rfl
  omega
 exact zGa hR (v := .bool (inN _ _)) rfl hq ((Any.strings_Contains L b1 b2 m w hs' hm').mono fun e w' hp => ⟨by rw [hp.1, zNu], hp.2⟩)

theorem zKt (L : Lays.n240 P ρ) (X : Builder.X72 P ρ) {h : AHeap} {b ver : Nat} {ro : Bool} {e : TypeId} {r : List AVal} (hb : h.objs.get b = some (ver, .cells false e (.ptr (some (b, 0)) :: r))) {G : GM} {argsV : Array Value} {w : World} {Q : AVal × AHeap -> Prop} (hR : Rel P N w0 G h w) (hv : VsR P G [.ptr (some (b, 0))] argsV.toList)
  (hq : Q (.tuple [], h)) : CallsIn (FR none) 0 P (ρ.f 240) argsV w (PostC P N w0 G h w Q) := by
 obtain ⟨x, rfl, gi, hg, rfl⟩ := zMc hv
 obtain ⟨gi', h1, ob, h2, c, t, fr, rfl, hf, hfit, _, hl, hvs⟩ := hR.obj b _ _ hb
 have hg' : G b = some gi := hg
 rw [hg'] at h1; cases h1
 obtain ⟨hsz, hoff, ht, hfr⟩ := hf rfl
 rw [hoff, zlZ] at hvs
 obtain ⟨y, ys, e1, ⟨gi2, k1, rfl⟩, _⟩ := hvs
 have k1 : G b = some gi2 := k1
 rw [hg'] at k1; cases k1
 have hc0 : c[0]? = some (.pointer (some ⟨gi.blk, 0, none⟩)) := by
  have := congrArg (fun l => l[0]?) e1
  simp only [List.getElem?_cons_zero] at this
  rw [List.getElem?_take, if_pos (by simp)] at this
  simpa [hoff] using this
 have hcell : w.cell? ⟨gi.blk, 0, none⟩ = some (.pointer (some ⟨gi.blk, 0, none⟩)) := by simp [World.cell?, h2, hc0]
 simp only [hoff, Nat.add_zero]
 exact zGa hR (v := .tuple []) ⟨#[], rfl, rfl⟩ hq (Any.Builder_copyCheck_used L X gi.blk w hcell)

theorem zOA {T : TypeId} (hc : P.cellsOf T = 2) {c : Nat} (h : 1 <= c) : liesAt P P.depth T c 0 T 1 = true := by
 have hd : P.depth = (2 * (P.types.size + Made.depth) + 1) + 1 := rfl
 have hs : sameLayout P P.depth T T = true := by
  rw [hd, sameLayout]; simp
 rw [hd] at hs ⊢
 rw [liesAt]
 have : rowAt P (sameLayout P P.depth · T) P.depth T c 0 1 = true := by
  rw [hd] at *
  rw [rowAt]
  simp [hc, hs, h]
 rw [this]; rfl

set_option maxHeartbeats 1000000 in
set_option maxRecDepth 100000 in
theorem zHd (L : Lays.n240 P ρ) (X : Builder.X72 P ρ) (b m : Nat) (hm : 2 <= m) (w : World) (h0 : w.cell? ⟨b, 0, none⟩ = some (.pointer none)) (hsh : w.shape? b = some ((ρ.t 72), m)) (hfz : w.frozen? ⟨b, 0, none⟩ = false) :
  Calls P (ρ.f 240) #[.pointer (some ⟨b, 0, none⟩)] w fun e w' => e = .returned (.tuple #[]) /\ w' = w.setCell ⟨b, 0, none⟩ (.pointer (some ⟨b, 0, none⟩)) := by
 obtain ⟨j, hj, hjs⟩ := Option.map_eq_some_iff.1 X.sizeBuilder
 have hc2 : P.cellsOf (ρ.t 72) = 2 := by simp [Program.cellsOf, hj, hjs]
 have hlies : liesAt P P.depth (ρ.t 72) (m / P.cellsOf (ρ.t 72)) 0 (ρ.t 72) 1 = true := zOA hc2 (by rw [hc2]; omega)
 have mixed := L.mixed
 have t72 := L.t72; have a72 := L.a72; have z72 := L.z72; have v72 := L.v72; have u72 := run_underlying L.t72
 have t70 := L.t70; have a70 := L.a70; have z70 := L.z70; have v70 := L.v70; have u70 := run_underlying L.t70
 have t9 := L.t9; have a9 := L.a9; have z9 := L.z9; have v9 := L.v9; have u9 := run_underlying L.t9
 have t4 := L.t4; have a4 := L.a4; have z4 := L.z4; have v4 := L.v4; have u4 := run_underlying L.t4
 have t164 := L.t164; have a164 := L.a164; have z164 := L.z164; have v164 := L.v164; have u164 := run_underlying L.t164
 go_enter L.f240, Body.n240_ntmps ρ
 go_wp2
 rw [Lib.run_to_unsafe w ⟨b, 0, none⟩ L.t70 L.t164 hj (by rw [hjs]; decide) hsh (show 0 < m by omega)]
 simp only [Result.andThen]
 rw [Oper.upon_value]
 go_wp2
 rw [run_callFunc_extern L.f276 (by kernel_rfl) (by kernel_rfl) (by kernel_rfl) (e := Extern.AbiNoEscape.same) (by kernel_rfl)]
 rw [Lib.run_noEscape]
 simp only [Result.andThen]
 rw [Oper.upon_value]
 go_wp2
 rw [Lib.run_from_unsafe w ⟨b, 0, none⟩ L.t164 L.t70 hj hsh hlies]
 simp only [Result.andThen]
 rw [Oper.upon_value]
 go_wp2
 go_end0
 exact ⟨rfl, rfl⟩

theorem zJw (L : Lays.n240 P ρ) (X : Builder.X72 P ρ) {h : AHeap} {b ver : Nat} {s : AVal} (hs : one s = true) (hb : h.objs.get b = some (ver, .cells false (ρ.t 72) [.ptr none, s])) {G : GM} {argsV : Array Value} {w : World} {Q : AVal × AHeap -> Prop} (hR : Rel P N w0 G h w) (hv : VsR P G [.ptr (some (b, 0))] argsV.toList)
  (hq : Q (.tuple [], zAd h b (.cells false (ρ.t 72) [.ptr (some (b, 0)), s]))) : CallsIn (FR none) 0 P (ρ.f 240) argsV w (PostC P N w0 G h w Q) := by
 obtain ⟨x, rfl, gi, hg, rfl⟩ := zMc hv
 obtain ⟨gi', h1, ob, h2, c, t, fr, rfl, hf, hfit, hel, hl, hvs⟩ := hR.obj b _ _ hb
 have hg' : G b = some gi := hg
 rw [hg'] at h1; cases h1
 obtain ⟨hsz, hoff, ht, hfr⟩ := hf rfl
 subst ht; subst hfr
 rw [hoff, zlZ] at hvs
 have hc2 : 2 <= c.size := by rw [hsz]; simpa using hl
 obtain ⟨y, ys, e1, hy, z, zs, e2, hz, e3⟩ := hvs
 have e3 : zs = [] := e3
 subst e3; subst e2
 have hy : y = .pointer none := hy
 subst hy
 have hg0 : ∀ i : Nat, i < 2 -> c[i]? = ([.pointer none, z] : List Value)[i]? := fun i hi => by
  have := congrArg (fun l => l[i]?) e1
  simp only [List.getElem?_take] at this
  rw [if_pos (by simpa using hi)] at this
  simpa using this
 have hcell : w.cell? ⟨gi.blk, 0, none⟩ = some (.pointer none) := by simp [World.cell?, h2, hg0 0 (by decide)]
 have hsh : w.shape? gi.blk = some (ρ.t 72, c.size) := by simp [World.shape?, h2]
 have hfz : w.frozen? ⟨gi.blk, 0, none⟩ = false := zBk h2
 have hN : N <= gi.blk := hR.own b _ _ gi hb hg' rfl
 simp only [hoff, Nat.add_zero]
 refine callsIn_wide.2 ((zHd L X gi.blk c.size hc2 w hcell hsh hfz).mono fun e w' hp => ?_)
 obtain ⟨rfl, rfl⟩ := hp
 have hset : (w.setCell ⟨gi.blk, 0, none⟩ (.pointer (some ⟨gi.blk, 0, none⟩))).heap[gi.blk]? = some (.cells (c.setIfInBounds 0 (.pointer (some ⟨gi.blk, 0, none⟩))) (ρ.t 72) (0, 0)) := by
  show (w.heap.modify gi.blk _)[gi.blk]? = _
  rw [Array.getElem?_modify]; simp [h2]
 have hoth : ∀ k, k ≠ gi.blk -> (w.setCell ⟨gi.blk, 0, none⟩ (.pointer (some ⟨gi.blk, 0, none⟩))).heap[k]? = w.heap[k]? := fun k hk => by
  show (w.heap.modify gi.blk _)[k]? = _
  rw [Array.getElem?_modify]; simp [Ne.symm hk]
 have hput := hR.put (w' := w.setCell ⟨gi.blk, 0, none⟩ (.pointer (some ⟨gi.blk, 0, none⟩))) (o' := .cells false (ρ.t 72) [.ptr (some (b, 0)), s]) (ob' := .cells (c.setIfInBounds 0 (.pointer (some ⟨gi.blk, 0, none⟩))) (ρ.t 72) (0, 0)) hb rfl rfl hg' hset hoth
  ⟨rfl, rfl, rfl, by simp [World.setCell], fun k hk => hoth k (by omega)⟩
  ⟨_, _, (0, 0), rfl, fun _ => ⟨by simp [hsz], hoff, rfl, rfl⟩, by simpa using hfit, hel, by simpa using hl, by
   rw [hoff, zlZ]
   have : (c.setIfInBounds 0 (.pointer (some ⟨gi.blk, 0, none⟩))).toList.take 2 = [.pointer (some ⟨gi.blk, 0, none⟩), z] := by
    rw [Array.toList_setIfInBounds]
    have e1' : c.toList.take 2 = [.pointer none, z] := e1
    match hl : c.toList, e1' with
    | x :: y :: r, e => simp at e ⊢; exact e.2
   show VsR P G _ (List.take 2 _)
   rw [this]
   exact ⟨_, _, rfl, ⟨gi, hg', by simp [hoff]⟩, z, [], rfl, hz, rfl⟩⟩
 exact ⟨.tuple [], _, G, .tuple #[], rfl, hq, hput.1, hput.2, ⟨#[], rfl, rfl⟩⟩

theorem Rel.aside {G : GM} {h : AHeap} {w w' : World} (hR : Rel P N w0 G h w) (hb : Below N w w') (hk : ∀ id x gi, h.objs.get id = some x -> G id = some gi -> w'.heap[gi.blk]? = w.heap[gi.blk]?) : Rel P N w0 G h w' :=
 ⟨fun id ver o hx => by
   obtain ⟨gi, h1, ob, h2, h3⟩ := hR.obj id ver o hx
   exact ⟨gi, h1, ob, by rw [hk id _ gi hx h1]; exact h2, h3⟩,
  hR.inj, hR.own, hR.fresh, hR.vers, hR.glob, hR.low, hR.below.trans hb, Nat.le_trans hR.size hb.size, hR.rolow⟩
theorem Rel.grown {G : GM} {h : AHeap} {w w' : World} (hR : Rel P N w0 G h w) (hb : Below w.heap.size w w') : Rel P N w0 G h w' /\ Ext G h w G h w' := by
 have hlt : ∀ id x gi, h.objs.get id = some x -> G id = some gi -> gi.blk < w.heap.size := fun id x gi hx hg => by
  obtain ⟨gi', h1, ob, h2, _⟩ := hR.obj id x.1 x.2 hx
  rw [hg] at h1; cases h1
  exact zAs h2
 refine ⟨hR.aside ⟨hb.os, hb.tape, hb.output, hb.size, fun k hk => hb.block k (Nat.lt_of_lt_of_le hk hR.size)⟩ fun id x gi hx hg => hb.block _ (hlt id x gi hx hg), ?_⟩
 exact ⟨GLe.refl G, Nat.le_refl _, fun i v o e => .inr ⟨e, fun gi hg => hb.block _ (hlt i _ gi e hg)⟩, fun k hk _ => hb.block k hk, fun i x g e hr hgi => .inr ⟨i, x, g, e, hr, hgi, rfl⟩, hb.size⟩

set_option maxHeartbeats 2000000 in
set_option maxRecDepth 100000 in
theorem zIX (L : Lays.n169 P ρ) (X : Builder.Extra P ρ) (b g cap : Nat) (cur : Array Value) (fz : Nat × Nat) (l : List UInt8) (w : World) (h0 : l ≠ []) (hcap : l.length <= cap) (hc : w.cell? ⟨b, 1, none⟩ = some (.slice (some ⟨g, 0, none⟩) l.length cap)) (hg : w.heap[g]? = some (.cells cur (ρ.t 5) fz)) (hcur : l.length <= cur.size) (hmax : l.length <= 9223372036854775807)
  (hcells : ∀ (j : Nat) x, l[j]? = some x -> w.cell? ⟨g, j, none⟩ = some (.int .u8 x.toNat)) :
  Calls P (ρ.f 169) #[.pointer (some ⟨b, 0, none⟩)] w fun e w' => e = .returned (.string ⟨l.toArray⟩) /\ w' = w.drew.freeze ⟨g, 0, none⟩ l.length := by
 have hl0 : l.length ≠ 0 := by simpa using h0
 have c1 : w.drew.cell? ⟨b, 1, none⟩ = some (.slice (some ⟨g, 0, none⟩) l.length cap) := hc
 have hSD : (Builtin.unsafeSliceData_ #[(ρ.t 37)] (ρ.t 127) #[.slice (some ⟨g, 0, none⟩) l.length cap]).run P w.drew = .ok (.pointer (some ⟨g, 0, none⟩)) w.drew :=
  Lib.run_unsafeSliceData_row _ _ _ _ _ _ (by omega)
 have hUS : (Builtin.unsafeString_ #[(ρ.t 127), (ρ.t 3)] (ρ.t 9) #[.pointer (some ⟨g, 0, none⟩), .int .i64 l.length]).run P w.drew = .ok (.string ⟨l.toArray⟩) (w.drew.freeze ⟨g, 0, none⟩ l.length) := by
  refine Lib.run_unsafeString_row w.drew (ρ.t 127) (ρ.t 3) (ρ.t 9) (ρ.t 5) L.t127 X.cellsByte g cur.size (by have hg' : w.drew.heap[g]? = some (.cells cur (ρ.t 5) fz) := hg; simp [World.shape?, hg']) l h0 hcur hmax ?_
  intro j x hx
  rw [zDC, Nat.zero_add]
  exact hcells j x hx
 have mixed := L.mixed
 have t72 := L.t72; have a72 := L.a72; have z72 := L.z72; have v72 := L.v72; have u72 := run_underlying L.t72
 have t70 := L.t70; have a70 := L.a70; have z70 := L.z70; have v70 := L.v70; have u70 := run_underlying L.t70
 have t37 := L.t37; have a37 := L.a37; have z37 := L.z37; have v37 := L.v37; have u37 := run_underlying L.t37
 have t127 := L.t127; have a127 := L.a127; have z127 := L.z127; have v127 := L.v127; have u127 := run_underlying L.t127
 have t3 := L.t3; have a3 := L.a3; have z3 := L.z3; have v3 := L.v3; have u3 := run_underlying L.t3
 have t9 := L.t9; have a9 := L.a9; have z9 := L.z9; have v9 := L.v9; have u9 := run_underlying L.t9
 have t5 := X.t5; have a5 := X.a5; have z5 := X.z5; have v5 := X.v5; have u5 := run_underlying X.t5
 go_enter L.f169, Body.n169_ntmps ρ
 go_wp2
 go_region_o
 all_goals (go_wp2; go_ret; exact ⟨rfl, rfl⟩)

theorem s_string (L : Lays.n169 P ρ) (X : Builder.Extra P ρ) {h : AHeap} {b c ver ver' : Nat} {e : TypeId} {x0 : AVal} {r vs : List AVal} {l : List UInt8} (hl : l ≠ []) (hb : h.objs.get b = some (ver, .cells false e (x0 :: .slice (some (c, 0)) l.length :: r))) (hc : h.objs.get c = some (ver', .cells false (ρ.t 5) vs))
  (hvs : vs.take l.length = l.map fun x => .int .u8 (x.toNat : Nat)) (hmax : l.length <= 1000000) {G : GM} {argsV : Array Value} {w : World} {Q : AVal × AHeap -> Prop} (hR : Rel P N w0 G h w) (hv : VsR P G [.ptr (some (b, 0))] argsV.toList)
  (hq : Q (.str (zAn l), zDN h c)) : CallsIn (FR none) 0 P (ρ.f 169) argsV w (PostC P N w0 G h w Q) := by
 obtain ⟨x, rfl, gi, hg, rfl⟩ := zMc hv
 obtain ⟨gi', h1, ob, h2, cb, tb, fr, rfl, hf, hfit, hel, hlb, hvb⟩ := hR.obj b _ _ hb
 have hg' : G b = some gi := hg
 rw [hg'] at h1; cases h1
 obtain ⟨hsz, hoff, ht, hfr⟩ := hf rfl
 rw [hoff, zlZ] at hvb
 obtain ⟨y, ys, e1, hy, z, zs, e2, ⟨gc, cap, k1, rfl, k2, k3⟩, e3⟩ := hvb
 have k1 : G c = some gc := k1
 subst e2
 obtain ⟨gi2, q1, ob2, q2, cc, tc, frc, rfl, qf, qfit, qel, qlb, qvb⟩ := hR.obj c _ _ hc
 rw [k1] at q1; cases q1
 obtain ⟨qsz, qoff, qt, qfr⟩ := qf rfl
 subst qt; subst qfr
 rw [qoff, zlZ] at qvb
 have hll : l.length <= vs.length := by
  have := congrArg List.length hvs
  rw [List.length_take, List.length_map] at this; omega
 have hcell1 : w.cell? ⟨gi.blk, 1, none⟩ = some (.slice (some ⟨gc.blk, 0, none⟩) l.length cap) := by
  have := congrArg (fun q => q[1]?) e1
  simp only [List.getElem?_take, List.getElem?_cons_succ, List.getElem?_cons_zero] at this
  rw [if_pos (by simp)] at this
  have : cb[1]? = some (.slice (some ⟨gc.blk, 0, none⟩) l.length cap) := by simpa [qoff] using this
  simp [World.cell?, h2, this]
 have hcells : ∀ (j : Nat) u, l[j]? = some u -> w.cell? ⟨gc.blk, j, none⟩ = some (.int .u8 u.toNat) := fun j u hj => by
  have hlt : j < l.length := (List.getElem?_eq_some_iff.1 hj).1
  have hvj : vs[j]? = some (.int .u8 (u.toNat : Nat)) := by
   have := congrArg (fun q => q[j]?) hvs
   simp only [List.getElem?_take, if_pos hlt, List.getElem?_map, hj, Option.map_some] at this
   exact this
  obtain ⟨cv, r1, r2⟩ := qvb.get hvj
  have r2 : cv = .int .u8 (u.toNat : Nat) := r2
  subst r2
  rw [List.getElem?_take] at r1
  split at r1
  ·have r1' : cc[j]? = some (.int .u8 (u.toNat : Nat)) := by simpa using r1
   simp [World.cell?, q2, r1']
  ·cases r1
 have hcsz : l.length <= cc.size := by omega
 simp only [hoff, Nat.add_zero]
 refine callsIn_wide.2 ((zIX L X gi.blk gc.blk cap cc (0, 0) l w hl k2 hcell1 q2 hcsz (by omega) hcells).mono fun e' w' hp => ?_)
 obtain ⟨rfl, rfl⟩ := hp
 have hN : N <= gc.blk := hR.own c _ _ gc hc k1 rfl
 have hoth : ∀ k, k ≠ gc.blk -> (w.drew.freeze ⟨gc.blk, 0, none⟩ l.length).heap[k]? = w.heap[k]? := fun k hk => by
  unfold World.freeze
  split
  ·rfl
  ·show (w.heap.modify gc.blk _)[k]? = _
   rw [Array.getElem?_modify]; simp [Ne.symm hk]
 have hsize : (w.drew.freeze ⟨gc.blk, 0, none⟩ l.length).heap.size = w.heap.size := by
  unfold World.freeze
  split
  ·rfl
  ·simp
 obtain ⟨hD, hE⟩ := hR.drop c
 have hne : ∀ id x gi', (zDN h c).objs.get id = some x -> G id = some gi' -> gi'.blk ≠ gc.blk := by
  intro id x gi' hx hgi hh
  have hx' : id ≠ c /\ h.objs.get id = some x := by
   simp only [zDN, T.get_set] at hx
   by_cases hi : id = c
   ·rw [if_pos hi] at hx; cases hx
   ·rw [if_neg hi] at hx; exact ⟨hi, hx⟩
  exact hx'.1 (hR.inj c id _ x gc gi' hc hx'.2 rfl k1 hgi hh.symm).symm
 have hB : Below N w (w.drew.freeze ⟨gc.blk, 0, none⟩ l.length) := Lib.below_freeze (Below.drew (Below.refl N w)) (p := ⟨gc.blk, 0, none⟩) hN _
 refine ⟨.str (zAn l), zDN h c, G, .string ⟨l.toArray⟩, rfl, hq, hD.aside hB fun id x gi' hx hgi => hoth _ (hne id x gi' hx hgi), ?_, ⟨⟨l.toArray⟩, rfl, by simp [zAn]⟩⟩
 refine ⟨hE.gle, hE.nle, fun id ver o hx => ?_, fun k hk hno => hoth k fun hkk => hno c _ gc hc rfl k1 hkk.symm, hE.owned, by rw [hsize]; exact Nat.le_refl _⟩
 rcases hE.same id ver o hx with h3 | ⟨h3, _⟩
 ·exact .inl h3
 ·exact .inr ⟨h3, fun gi' hgi => hoth _ (hne id _ gi' hx hgi)⟩

theorem s_itoa (L : LaysM.n171 P ρ) (n : Int) (hn0 : -9223372036854775808 <= n) (hn1 : n <= 9223372036854775807) (htab : ∀ w, Below N w0 w -> Lib.TabIs P w "internal/strconv.uint64pow10" .u64 Lib.pow10Tab) {h : AHeap} {G : GM} {argsV : Array Value} {w : World} {Q : AVal × AHeap -> Prop} (hR : Rel P N w0 G h w) (hv : VsR P G [.int .i64 n] argsV.toList)
  (hq : Q (.str (zAn (Lib.itoa n)), h)) : CallsIn (FR none) 0 P (ρ.f 171) argsV w (PostC P N w0 G h w Q) := by
 obtain ⟨x, rfl, h1⟩ := zMc hv
 have h1 : x = .int .i64 n := h1
 subst h1
 refine callsIn_wide.2 ((Any.strconv_Itoa L n hn0 hn1 w (htab w hR.below)).mono fun e' w' hp => ?_)
 obtain ⟨rfl, k, os, rfl⟩ := hp
 obtain ⟨h2, h3⟩ := hR.grown (w' := Go.Sort.grow (w.drewN k) os) ⟨rfl, rfl, rfl, by simp [Go.Sort.grow], fun i hi => by
  show (w.heap ++ os)[i]? = _
  rw [Array.getElem?_append_left hi]⟩
 exact ⟨_, h, G, _, rfl, hq, h2, h3, ⟨⟨(Lib.itoa n).toArray⟩, rfl, by simp [zAn]⟩⟩
end
end Go.Ab
end
section
namespace Go.Proofs
open Go Go.Ab Go.Ab.S
def fnsP (P : Program) : FuncId -> Option AFunc := fun f => (P.funcs[f]?).bind (cFn P)
theorem fnsP_ok (P : Program) : FnsOK P (fnsP P) := fun _ _ h => Option.bind_eq_some_iff.1 h
def zKx : FuncId -> List AVal -> AHeap -> Option (D (AVal × AHeap)) := fun f args h =>
 match Nat.beq f 140 with
 | true => (match args with
  | [.str s, .str t] => (match Nat.ble s.length 2000 with | true => some (.ret (.bool (inN s t), h)) | false => none)
  | _ => none)
 | false => none
def tabA : List AVal := (List.range 256).map fun i => .int .u8 (if i == 32 || (9 <= i && i <= 13) then 1 else 0)
def vR (n : Nat) : AVal := .tuple [.agg [.slice (some (0, 0)) n, .int .i64 0], .int .i64 0]
def keepP : List Nat := [504, 485]
def osP : List (TypeId × List AVal) := [(36, [(.int .i64 2), (.str [45, 62]), (.slice (some (1, 0)) 2), (.slice none 0), (.bool false), (.int .i64 2), (.str [105, 110, 116]), (.slice none 0), (.slice none 0), (.bool false), (.int .i64 1), (.str []), (.slice none 0), (.slice none 0), (.bool false)]), (3, [(.int .i64 1), (.int .i64 2)])]
def keepQ : List Nat := [475, 463]
def osQ : List (TypeId × List AVal) := [(36, [(.int .i64 2), (.str [45, 62]), (.slice (some (1, 0)) 2), (.slice none 0), (.bool false), (.int .i64 1), (.str []), (.slice none 0), (.slice none 0), (.bool false)]), (3, [(.int .i64 1), (.int .i64 1)])]
def keepI : List Nat := [510, 491]
def osI : List (TypeId × List AVal) := [(36, [(.int .i64 2), (.str [45, 62]), (.slice (some (1, 0)) 2), (.slice none 0), (.bool false), (.int .i64 2), (.str [105, 110, 116]), (.slice none 0), (.slice none 0), (.bool false), (.int .i64 2), (.str [105, 110, 116]), (.slice none 0), (.slice none 0), (.bool false)]), (3, [(.int .i64 1), (.int .i64 2)])]
def keepM : List Nat := [719, 708, 706]
def osM : List (TypeId × List AVal) := [(36, [(.int .i64 3), (.str []), (.slice (some (1, 0)) 1), (.slice (some (2, 0)) 1), (.bool true), (.int .i64 2), (.str [105, 110, 116]), (.slice none 0), (.slice none 0), (.bool false)]), (3, [(.int .i64 1)]), (9, [(.str [109])])]
def keepN : List Nat := [620, 609, 607]
def osN : List (TypeId × List AVal) := [(36, [(.int .i64 3), (.str []), (.slice (some (1, 0)) 1), (.slice (some (2, 0)) 1), (.bool false), (.int .i64 2), (.str [105, 110, 116]), (.slice none 0), (.slice none 0), (.bool false)]), (3, [(.int .i64 1)]), (9, [(.str [110])])]
end Go.Proofs
end
section
namespace Go.Proofs
open Go Go.Ab Go.Ab.S
theorem readP : ((run (fnsP Tryz.prog) zKx 4000).call 23 [.str tP] (tblH 1 200 tabA)).all (isAt keepP (vR 3) osP) = true := by kernel_rfl
end Go.Proofs
end
section
namespace Go.Proofs
open Go Go.Ab Go.Ab.S
theorem readQ : ((run (fnsP Tryz.prog) zKx 4000).call 23 [.str tQ] (tblH 1 200 tabA)).all (isAt keepQ (vR 2) osQ) = true := by kernel_rfl
end Go.Proofs
end
section
namespace Go.Proofs
open Go Go.Ab Go.Ab.S
theorem readI : ((run (fnsP Tryz.prog) zKx 4000).call 23 [.str tI] (tblH 1 200 tabA)).all (isAt keepI (vR 3) osI) = true := by kernel_rfl
end Go.Proofs
end
section
namespace Go.Proofs
open Go Go.Ab Go.Ab.S
theorem readM : ((run (fnsP Tryz.prog) zKx 4000).call 23 [.str tM] (tblH 1 200 tabA)).all (isAt keepM (vR 2) osM) = true := by kernel_rfl
end Go.Proofs
end
section
namespace Go.Proofs
open Go Go.Ab Go.Ab.S
theorem readN : ((run (fnsP Tryz.prog) zKx 4000).call 23 [.str tN] (tblH 1 200 tabA)).all (isAt keepN (vR 2) osN) = true := by kernel_rfl
end Go.Proofs
end
section
namespace Go.Ab
open Go Go.Proofs Go.Shelf Go.Sort Go.RowKit
theorem less_u : ∀ x y : List UInt8, zBB (zAn x) (zAn y) = decide (x < y)
 | _, [] => by simp [zAn, zBB]
 | [], _ :: _ => by simp [zAn, zBB]
 | a :: x, b :: y => by
  have ih := less_u x y
  simp only [zAn, List.map_cons, zBB] at ih ⊢
  rw [ih]
  have h1 : Nat.blt a.toNat b.toNat = decide (a < b) := by
   rw [Bool.eq_iff_iff, Nat.blt_eq, decide_eq_true_eq]; exact Iff.rfl
  have h2 : Nat.beq a.toNat b.toNat = decide (a = b) := by
   rw [Bool.eq_iff_iff, Nat.beq_eq, decide_eq_true_eq]; exact UInt8.toNat_inj
  rw [h1, h2]
  by_cases hab : a < b
  ·simp [hab, List.cons_lt_cons_iff]
  ·by_cases he : a = b
   ·simp [he, List.cons_lt_cons_iff]
   ·simp [hab, he, List.cons_lt_cons_iff]
theorem le_u (x y : List UInt8) : decide (x <= y) = !zBB (zAn y) (zAn x) := by
 rw [less_u, Bool.eq_iff_iff]
 simp
theorem sort_u (ss : List (List UInt8)) : (ss.mergeSort fun x y => decide (x <= y)).map zAn = (ss.map zAn).mergeSort fun x y => !zBB y x :=
 List.map_mergeSort fun a _ b _ => le_u a b
theorem zLp : ∀ l : List Nat, (∀ x ∈ l, x < 256) -> ∃ b : List UInt8, zAn b = l
 | [], _ => ⟨[], rfl⟩
 | x :: l, h => by
  obtain ⟨b, hb⟩ := zLp l fun y hy => h y (by simp [hy])
  exact ⟨UInt8.ofNat x :: b, by simp only [zAn, List.map_cons] at hb ⊢; rw [hb, UInt8.toNat_ofNat', Nat.mod_eq_of_lt (h x (by simp))]⟩
theorem zMW : ∀ l : List (List Nat), (∀ s ∈ l, ∀ c ∈ s, c < 256) -> ∃ b : List (List UInt8), b.map zAn = l
 | [], _ => ⟨[], rfl⟩
 | x :: l, h => by
  obtain ⟨b, hb⟩ := zMW l fun y hy => h y (by simp [hy])
  obtain ⟨c, hc⟩ := zLp x (h x (by simp))
  exact ⟨c :: b, by rw [List.map_cons, hb, hc]⟩
section
variable {P : Program} {ρ : Ren} {N : Nat} {w0 : World}
theorem zIL (L : Lays.n190 P ρ) {h : AHeap} {G : GM} {argsV : Array Value} {w : World} {Q : AVal × AHeap -> Prop} {v : AVal} (hv0 : v = .slice none 0 \/ v = .slice0) (hR : Rel P N w0 G h w) (hv : VsR P G [v] argsV.toList)
  (hq : Q (.tuple [], h)) : CallsIn (FR none) 0 P (ρ.f 190) argsV w (PostC P N w0 G h w Q) := by
 obtain ⟨x, rfl, h1⟩ := zMc hv
 obtain ⟨p, cap, rfl⟩ : ∃ p cap, x = .slice p 0 cap := by
  rcases hv0 with rfl | rfl
  ·exact ⟨none, 0, (show (0 : Nat) = 0 /\ x = .slice none 0 0 from h1).2⟩
  ·obtain ⟨a, h1⟩ := (show ∃ a : Addr, x = .slice (some a) 0 0 from h1)
   exact ⟨some a, 0, h1⟩
 exact zGa hR (v := .tuple []) ⟨#[], rfl, rfl⟩ hq (Any.slices_Sort_string_none L p cap w)
theorem s_sort (L : Lays.n190 P ρ) {h : AHeap} {b ver : Nat} {vs : List AVal} {l : List (List Nat)} (hl : ∀ s ∈ l, ∀ c ∈ s, c < 256) (hn : l.length <= 2147483648) (hb : h.objs.get b = some (ver, .cells false (ρ.t 9) vs)) (hvl : vs.take l.length = l.map AVal.str)
  {G : GM} {argsV : Array Value} {w : World} {Q : AVal × AHeap -> Prop} (hR : Rel P N w0 G h w) (hv : VsR P G [.slice (some (b, 0)) l.length] argsV.toList)
  (hq : Q (.tuple [], zAd h b (.cells false (ρ.t 9) (((l.mergeSort fun x y => !zBB y x).map AVal.str) ++ vs.drop l.length)))) : CallsIn (FR none) 0 P (ρ.f 190) argsV w (PostC P N w0 G h w Q) := by
 obtain ⟨x, rfl, gi, cap, hg, rfl, hcap, hcap2⟩ := zMc hv
 obtain ⟨gi', h1, ob, h2, c, t, fr, rfl, hf, hfit, hel, hlb, hvb⟩ := hR.obj b _ _ hb
 have hg' : G b = some gi := hg
 rw [hg'] at h1; cases h1
 obtain ⟨hsz, hoff, ht, hfr⟩ := hf rfl
 subst ht; subst hfr
 rw [hoff, zlZ] at hvb
 obtain ⟨ss, rfl⟩ := zMW l hl
 have hll : ss.length <= vs.length := by
  have := congrArg List.length hvl
  simp only [List.length_take, List.length_map] at this; omega
 have htake : c.toList.take ss.length = ss.map encStr := by
  apply List.ext_getElem?
  intro j
  by_cases hj : j < ss.length
  ·have hvj : vs[j]? = some (.str (zAn ss[j])) := by
    have := congrArg (fun q => q[j]?) hvl
    simp only [List.getElem?_take, List.length_map, if_pos hj, List.getElem?_map, List.getElem?_eq_getElem hj, Option.map_some] at this
    exact this
   obtain ⟨cv, r1, r2⟩ := hvb.get hvj
   obtain ⟨ba, rfl, r3⟩ := (show ∃ b : ByteArray, cv = .string b /\ b.data.toList.map UInt8.toNat = zAn ss[j] from r2)
   rw [List.getElem?_take, if_pos (by omega)] at r1
   rw [List.getElem?_take_of_lt hj, r1, List.getElem?_map, List.getElem?_eq_getElem hj, Option.map_some]
   have : ba.data.toList = ss[j] := zJB r3
   show some (Value.string ba) = some (Value.string ⟨ss[j].toArray⟩)
   rw [<- this]
  ·rw [List.getElem?_take_eq_none (by omega), List.getElem?_eq_none (by simp; omega)]
 have hN : N <= gi.blk := hR.own b _ _ gi hb hg' rfl
 have hlt : gi.blk < w.heap.size := (Array.getElem?_eq_some_iff.1 h2).1
 simp only [hoff, Nat.add_zero, List.length_map]
 refine callsIn_wide.2 ((Any.slices_Sort_string L gi.blk 0 cap ss w (holds_of_block h2 htake) hlt (by rw [List.length_map] at hn; omega)).mono fun e' w' hp => ?_)
 obtain ⟨rfl, n, os, rfl⟩ := hp
 generalize hts : (ss.mergeSort fun x y => decide (x <= y)) = ts
 have htl : ts.length = ss.length := by rw [<- hts, List.length_mergeSort]
 have hset : (putRow encStr (Sort.ahead w n) gi.blk 0 ts.toArray).heap[gi.blk]? = some (.cells (putCells encStr 0 ts.toArray c) (ρ.t 9) (0, 0)) := by
  simp [putRow, mapBlock, Sort.ahead, Array.getElem?_modify, h2, onCells]
 have hoth : ∀ k, k ≠ gi.blk -> (putRow encStr (Sort.ahead w n) gi.blk 0 ts.toArray).heap[k]? = w.heap[k]? := fun k hk => by
  simp [putRow, mapBlock, Sort.ahead, Array.getElem?_modify, Ne.symm hk]
 have hput := hR.put (w' := putRow encStr (Sort.ahead w n) gi.blk 0 ts.toArray) (o' := .cells false (ρ.t 9) ((((ss.map zAn).mergeSort fun x y => !zBB y x).map AVal.str) ++ vs.drop (ss.map zAn).length)) hb rfl rfl hg' hset hoth
  ⟨rfl, rfl, rfl, by simp [putRow, mapBlock, Sort.ahead], fun k hk => hoth k (by omega)⟩
  ⟨_, _, (0, 0), rfl, fun _ => ⟨by simp [putCells, hsz], hoff, rfl, rfl⟩, by simpa [putCells] using hfit, hel, by simp only [List.length_append, List.length_map, List.length_mergeSort, List.length_drop]; omega, by
   rw [hoff, zlZ, <- sort_u, hts]
   have hlen : ((ts.map zAn).map AVal.str ++ vs.drop (ss.map zAn).length).length = vs.length := by simp only [List.length_append, List.length_map, List.length_drop]; omega
   rw [hlen]
   have : (putCells encStr 0 ts.toArray c).toList.take vs.length = ts.map encStr ++ (c.toList.take vs.length).drop (ss.map zAn).length := by
    have hcl : vs.length <= c.size := by omega
    apply List.ext_getElem?
    intro j
    simp only [List.getElem?_take, List.getElem?_append, List.length_map, List.getElem?_drop, htl]
    by_cases h1 : j < ss.length
    ·rw [if_pos h1, if_pos (by omega)]
     simp [putCells, show j < c.size by omega, show j < ts.length by omega]
    ·rw [if_neg h1, show ss.length + (j - ss.length) = j by omega]
     by_cases h2 : j < vs.length
     ·rw [if_pos h2, if_pos h2]
      simp [putCells, show j < c.size by omega, show ¬ j < ts.length by omega]
     ·rw [if_neg h2, if_neg h2]
   rw [this, List.map_map]
   exact VsR.append (VsR.map_mk (P := P) (G := G) (fun x => AVal.str (zAn x)) encStr (fun a => ⟨⟨a.toArray⟩, rfl, by simp [zAn]⟩) ts) (hvb.drop _)⟩
 obtain ⟨h2', h3'⟩ := hput.1.grown (w' := grow (putRow encStr (Sort.ahead w n) gi.blk 0 ts.toArray) os) ⟨rfl, rfl, rfl, by simp [grow], fun i hi => by
  show (_ ++ os)[i]? = _
  rw [Array.getElem?_append_left hi]⟩
 exact ⟨.tuple [], _, G, .tuple #[], rfl, hq, h2', hput.2.trans h3', ⟨#[], rfl, rfl⟩⟩
end
end Go.Ab
end
section
namespace Go.Proofs
open Go Go.Ab Go.Ab.S
theorem zBY {P : Program} {f : FuncId} {g : AFunc} (h : (P.funcs[f]?).bind (cFn P) = some g) : ∃ fn, P.funcs[f]? = some fn /\ cFn P fn = some g := Option.bind_eq_some_iff.1 h
theorem tb_139 : (Tryz.prog.funcs[139]?).bind (cFn Tryz.prog) = some F_goes := by kernel_rfl
theorem tb_116 : (Tryz.prog.funcs[116]?).bind (cFn Tryz.prog) = some F_word := by kernel_rfl
theorem tb_117 : (Tryz.prog.funcs[117]?).bind (cFn Tryz.prog) = some F_IsKey := by kernel_rfl
theorem tb_88 : (Tryz.prog.funcs[88]?).bind (cFn Tryz.prog) = some F_IsName := by kernel_rfl
theorem tb_67 : (Tryz.prog.funcs[67]?).bind (cFn Tryz.prog) = some F_grising := by kernel_rfl
theorem tb_43 : (Tryz.prog.funcs[43]?).bind (cFn Tryz.prog) = some F_arity := by kernel_rfl
theorem tb_45 : (Tryz.prog.funcs[45]?).bind (cFn Tryz.prog) = some F_may := by kernel_rfl
theorem tb_66 : (Tryz.prog.funcs[66]?).bind (cFn Tryz.prog) = some F_may1 := by kernel_rfl
theorem tb_19 : (Tryz.prog.funcs[19]?).bind (cFn Tryz.prog) = some F_Check := by kernel_rfl
theorem tb_44 : (Tryz.prog.funcs[44]?).bind (cFn Tryz.prog) = some F_Check1 := by kernel_rfl
theorem tb_65 : (Tryz.prog.funcs[65]?).bind (cFn Tryz.prog) = some F_CFint := by kernel_rfl
theorem tb_87 : (Tryz.prog.funcs[87]?).bind (cFn Tryz.prog) = some F_IFint := by kernel_rfl
theorem tb_46 : (Tryz.prog.funcs[46]?).bind (cFn Tryz.prog) = some F_CFnode := by kernel_rfl
theorem tb_68 : (Tryz.prog.funcs[68]?).bind (cFn Tryz.prog) = some F_IFnode := by kernel_rfl
theorem tb_11 : (Tryz.prog.funcs[11]?).bind (cFn Tryz.prog) = some F_Great := by kernel_rfl
theorem tb_61 : (Tryz.prog.funcs[61]?).bind (cFn Tryz.prog) = some F_Reach := by kernel_rfl
theorem tb_38 : (Tryz.prog.funcs[38]?).bind (cFn Tryz.prog) = some F_Trim := by kernel_rfl
theorem tb_18 : (Tryz.prog.funcs[18]?).bind (cFn Tryz.prog) = some F_Same := by kernel_rfl
theorem tb_41 : (Tryz.prog.funcs[41]?).bind (cFn Tryz.prog) = some F_alike := by kernel_rfl
theorem tb_42 : (Tryz.prog.funcs[42]?).bind (cFn Tryz.prog) = some F_gfree := by kernel_rfl
theorem tb_62 : (Tryz.prog.funcs[62]?).bind (cFn Tryz.prog) = some F_CloneStr := by kernel_rfl
theorem tb_37 : (Tryz.prog.funcs[37]?).bind (cFn Tryz.prog) = some F_CloneInt := by kernel_rfl
theorem tb_85 : (Tryz.prog.funcs[85]?).bind (cFn Tryz.prog) = some F_Backward := by kernel_rfl
theorem tb_115 : (Tryz.prog.funcs[115]?).bind (cFn Tryz.prog) = some F_Backward1 := by kernel_rfl
theorem tb_64 : (Tryz.prog.funcs[64]?).bind (cFn Tryz.prog) = some F_EqualStr := by kernel_rfl
theorem tb_36 : (Tryz.prog.funcs[36]?).bind (cFn Tryz.prog) = some F_CloneNode := by kernel_rfl
theorem tb_10 : (Tryz.prog.funcs[10]?).bind (cFn Tryz.prog) = some F_alive08 := by kernel_rfl
theorem tb_7 : (Tryz.prog.funcs[7]?).bind (cFn Tryz.prog) = some F_SolveRational := by kernel_rfl
theorem tb_8 : (Tryz.prog.funcs[8]?).bind (cFn Tryz.prog) = some F_SolveThree := by kernel_rfl
theorem tb_21 : (Tryz.prog.funcs[21]?).bind (cFn Tryz.prog) = some F_SRat1 := by kernel_rfl
theorem tb_22 : (Tryz.prog.funcs[22]?).bind (cFn Tryz.prog) = some F_SThree1 := by kernel_rfl
theorem tb_12 : (Tryz.prog.funcs[12]?).bind (cFn Tryz.prog) = some F_SUnify := by kernel_rfl
theorem tb_29 : (Tryz.prog.funcs[29]?).bind (cFn Tryz.prog) = some F_SUnify1 := by kernel_rfl
theorem tb_16 : (Tryz.prog.funcs[16]?).bind (cFn Tryz.prog) = some F_SMeet := by kernel_rfl
theorem tb_24 : (Tryz.prog.funcs[24]?).bind (cFn Tryz.prog) = some F_sstart := by kernel_rfl
theorem tb_28 : (Tryz.prog.funcs[28]?).bind (cFn Tryz.prog) = some F_sfind := by kernel_rfl
theorem tb_27 : (Tryz.prog.funcs[27]?).bind (cFn Tryz.prog) = some F_srun := by kernel_rfl
theorem tb_55 : (Tryz.prog.funcs[55]?).bind (cFn Tryz.prog) = some F_sjoin := by kernel_rfl
theorem tb_79 : (Tryz.prog.funcs[79]?).bind (cFn Tryz.prog) = some F_sboth := by kernel_rfl
theorem tb_101 : (Tryz.prog.funcs[101]?).bind (cFn Tryz.prog) = some F_sobjects := by kernel_rfl
theorem tb_30 : (Tryz.prog.funcs[30]?).bind (cFn Tryz.prog) = some F_snode := by kernel_rfl
theorem tb_81 : (Tryz.prog.funcs[81]?).bind (cFn Tryz.prog) = some F_errNew := by kernel_rfl
theorem tb_80 : (Tryz.prog.funcs[80]?).bind (cFn Tryz.prog) = some F_errJoin := by kernel_rfl
theorem tb_25 : (Tryz.prog.funcs[25]?).bind (cFn Tryz.prog) = some F_ClonePr := by kernel_rfl
theorem zAW {f n : Nat} {fn g : AFunc} {r : Option AFunc} (h : (if f = n then some g else r) = some fn) : (f = n /\ g = fn) \/ r = some fn := by
 by_cases e : f = n
 ·rw [if_pos e] at h; cases h; exact .inl ⟨e, rfl⟩
 ·rw [if_neg e] at h; exact .inr h
theorem tab_ok : FnsOK Tryz.prog tab := by
 intro f fn h
 rcases zAW h with ⟨rfl, rfl⟩ | h
 ·exact zBY tb_139
 rcases zAW h with ⟨rfl, rfl⟩ | h
 ·exact zBY tb_116
 rcases zAW h with ⟨rfl, rfl⟩ | h
 ·exact zBY tb_117
 rcases zAW h with ⟨rfl, rfl⟩ | h
 ·exact zBY tb_88
 rcases zAW h with ⟨rfl, rfl⟩ | h
 ·exact zBY tb_67
 rcases zAW h with ⟨rfl, rfl⟩ | h
 ·exact zBY tb_43
 rcases zAW h with ⟨rfl, rfl⟩ | h
 ·exact zBY tb_45
 rcases zAW h with ⟨rfl, rfl⟩ | h
 ·exact zBY tb_66
 rcases zAW h with ⟨rfl, rfl⟩ | h
 ·exact zBY tb_19
 rcases zAW h with ⟨rfl, rfl⟩ | h
 ·exact zBY tb_44
 rcases zAW h with ⟨rfl, rfl⟩ | h
 ·exact zBY tb_65
 rcases zAW h with ⟨rfl, rfl⟩ | h
 ·exact zBY tb_87
 rcases zAW h with ⟨rfl, rfl⟩ | h
 ·exact zBY tb_46
 rcases zAW h with ⟨rfl, rfl⟩ | h
 ·exact zBY tb_68
 rcases zAW h with ⟨rfl, rfl⟩ | h
 ·exact zBY tb_11
 rcases zAW h with ⟨rfl, rfl⟩ | h
 ·exact zBY tb_61
 rcases zAW h with ⟨rfl, rfl⟩ | h
 ·exact zBY tb_38
 rcases zAW h with ⟨rfl, rfl⟩ | h
 ·exact zBY tb_18
 rcases zAW h with ⟨rfl, rfl⟩ | h
 ·exact zBY tb_41
 rcases zAW h with ⟨rfl, rfl⟩ | h
 ·exact zBY tb_42
 rcases zAW h with ⟨rfl, rfl⟩ | h
 ·exact zBY tb_62
 rcases zAW h with ⟨rfl, rfl⟩ | h
 ·exact zBY tb_37
 rcases zAW h with ⟨rfl, rfl⟩ | h
 ·exact zBY tb_85
 rcases zAW h with ⟨rfl, rfl⟩ | h
 ·exact zBY tb_115
 rcases zAW h with ⟨rfl, rfl⟩ | h
 ·exact zBY tb_64
 rcases zAW h with ⟨rfl, rfl⟩ | h
 ·exact zBY tb_36
 rcases zAW h with ⟨rfl, rfl⟩ | h
 ·exact zBY tb_10
 rcases zAW h with ⟨rfl, rfl⟩ | h
 ·exact zBY tb_7
 rcases zAW h with ⟨rfl, rfl⟩ | h
 ·exact zBY tb_8
 rcases zAW h with ⟨rfl, rfl⟩ | h
 ·exact zBY tb_21
 rcases zAW h with ⟨rfl, rfl⟩ | h
 ·exact zBY tb_22
 rcases zAW h with ⟨rfl, rfl⟩ | h
 ·exact zBY tb_12
 rcases zAW h with ⟨rfl, rfl⟩ | h
 ·exact zBY tb_29
 rcases zAW h with ⟨rfl, rfl⟩ | h
 ·exact zBY tb_16
 rcases zAW h with ⟨rfl, rfl⟩ | h
 ·exact zBY tb_24
 rcases zAW h with ⟨rfl, rfl⟩ | h
 ·exact zBY tb_28
 rcases zAW h with ⟨rfl, rfl⟩ | h
 ·exact zBY tb_27
 rcases zAW h with ⟨rfl, rfl⟩ | h
 ·exact zBY tb_55
 rcases zAW h with ⟨rfl, rfl⟩ | h
 ·exact zBY tb_79
 rcases zAW h with ⟨rfl, rfl⟩ | h
 ·exact zBY tb_101
 rcases zAW h with ⟨rfl, rfl⟩ | h
 ·exact zBY tb_30
 rcases zAW h with ⟨rfl, rfl⟩ | h
 ·exact zBY tb_81
 rcases zAW h with ⟨rfl, rfl⟩ | h
 ·exact zBY tb_80
 rcases zAW h with ⟨rfl, rfl⟩ | h
 ·exact zBY tb_25
 cases h
end Go.Proofs
end
section
namespace Go.Proofs
open Go.Shelf
def Tryz.lays190_ren : Go.Shelf.Ren := ⟨fun | 190 => 56 | 125 => 83 | 258 => 82 | 128 => 111 | 129 => 112 | 302 => 102 | 303 => 103 | 304 => 104 | 305 => 105 | 306 => 106 | 307 => 107 | 308 => 108 | 309 => 109 | 310 => 110 | 333 => 130 | 329 => 131 | 330 => 132 | 334 => 133 | 335 => 134 | 336 => 135 | 344 => 161 | n => n, fun | 31 => 34 | 9 => 9 | 3 => 3 | 46 => 177 | 0 => 0 | 51 => 216 | 53 => 218 | 4 => 4 | 183 => 209 | 182 => 208 | 131 => 64 | 5 => 5 | 218 => 238 | 222 => 242 | 228 => 268 | 229 => 269 | n => n, fun | n => n⟩
theorem Tryz.lays190 : Go.Proofs.Lays.n190 Tryz.prog Tryz.lays190_ren := {
 mixed := by kernel_rfl
 f125 := Tryz.func83.trans (congrArg some (by kernel_rfl))
 f128 := Tryz.func111.trans (congrArg some (by kernel_rfl))
 f129 := Tryz.func112.trans (congrArg some (by kernel_rfl))
 f190 := Tryz.func56.trans (congrArg some (by kernel_rfl))
 f258 := Tryz.func82.trans (congrArg some (by kernel_rfl))
 f302 := Tryz.func102.trans (congrArg some (by kernel_rfl))
 f303 := Tryz.func103.trans (congrArg some (by kernel_rfl))
 f304 := Tryz.func104.trans (congrArg some (by kernel_rfl))
 f305 := Tryz.func105.trans (congrArg some (by kernel_rfl))
 f306 := Tryz.func106.trans (congrArg some (by kernel_rfl))
 f307 := Tryz.func107.trans (congrArg some (by kernel_rfl))
 f308 := Tryz.func108.trans (congrArg some (by kernel_rfl))
 f309 := Tryz.func109.trans (congrArg some (by kernel_rfl))
 f310 := Tryz.func110.trans (congrArg some (by kernel_rfl))
 f329 := Tryz.func131.trans (congrArg some (by kernel_rfl))
 f330 := Tryz.func132.trans (congrArg some (by kernel_rfl))
 f333 := Tryz.func130.trans (congrArg some (by kernel_rfl))
 f334 := Tryz.func133.trans (congrArg some (by kernel_rfl))
 f335 := Tryz.func134.trans (congrArg some (by kernel_rfl))
 f336 := Tryz.func135.trans (congrArg some (by kernel_rfl))
 f344 := Tryz.func161.trans (congrArg some (by kernel_rfl))
 t0 := Tryz.underlying0
 a0 := Tryz.isAgg0
 z0 := Tryz.sizeOf0
 v0 := Tryz.zeroValue0
 t3 := Tryz.underlying3
 a3 := Tryz.isAgg3
 z3 := Tryz.sizeOf3
 v3 := Tryz.zeroValue3
 t4 := Tryz.underlying4
 a4 := Tryz.isAgg4
 z4 := Tryz.sizeOf4
 v4 := Tryz.zeroValue4
 t5 := Tryz.underlying5
 a5 := Tryz.isAgg5
 z5 := Tryz.sizeOf5
 v5 := Tryz.zeroValue5
 t9 := Tryz.underlying9
 a9 := Tryz.isAgg9
 z9 := Tryz.sizeOf9
 v9 := Tryz.zeroValue9
 t31 := Tryz.underlying34
 a31 := Tryz.isAgg34
 z31 := Tryz.sizeOf34
 v31 := Tryz.zeroValue34
 t46 := Tryz.underlying177
 a46 := Tryz.isAgg177
 z46 := Tryz.sizeOf177
 v46 := Tryz.zeroValue177
 t51 := Tryz.underlying216
 a51 := Tryz.isAgg216
 z51 := Tryz.sizeOf216
 v51 := Tryz.zeroValue216
 t53 := Tryz.underlying218
 a53 := Tryz.isAgg218
 z53 := Tryz.sizeOf218
 v53 := Tryz.zeroValue218
 t131 := Tryz.underlying64
 a131 := Tryz.isAgg64
 z131 := Tryz.sizeOf64
 v131 := Tryz.zeroValue64
 t182 := Tryz.underlying208
 a182 := Tryz.isAgg208
 z182 := Tryz.sizeOf208
 v182 := Tryz.zeroValue208
 t183 := Tryz.underlying209
 a183 := Tryz.isAgg209
 z183 := Tryz.sizeOf209
 v183 := Tryz.zeroValue209
 t218 := Tryz.underlying238
 a218 := Tryz.isAgg238
 z218 := Tryz.sizeOf238
 v218 := Tryz.zeroValue238
 t222 := Tryz.underlying242
 a222 := Tryz.isAgg242
 z222 := Tryz.sizeOf242
 v222 := Tryz.zeroValue242
 t228 := Tryz.underlying268
 a228 := Tryz.isAgg268
 z228 := Tryz.sizeOf268
 v228 := Tryz.zeroValue268
 t229 := Tryz.underlying269
 a229 := Tryz.isAgg269
 z229 := Tryz.sizeOf269
 v229 := Tryz.zeroValue269 }
def Tryz.lays144_ren : Go.Shelf.Ren := ⟨fun | 144 => 140 | 143 => 120 | 219 => 146 | 217 => 164 | 225 => 165 | 224 => 166 | 267 => 167 | 266 => 181 | 314 => 182 | n => n, fun | 9 => 9 | 4 => 4 | 3 => 3 | 5 => 5 | 46 => 177 | 146 => 287 | 51 => 216 | n => n, fun | 1 => 2 | n => n⟩
theorem Tryz.lays144 : Go.Proofs.Lays.n144 Tryz.prog Tryz.lays144_ren := {
 mixed := by kernel_rfl
 f143 := Tryz.func120.trans (congrArg some (by kernel_rfl))
 f144 := Tryz.func140.trans (congrArg some (by kernel_rfl))
 f217 := Tryz.func164.trans (congrArg some (by kernel_rfl))
 f219 := Tryz.func146.trans (congrArg some (by kernel_rfl))
 f224 := Tryz.func166.trans (congrArg some (by kernel_rfl))
 f225 := Tryz.func165.trans (congrArg some (by kernel_rfl))
 f266 := Tryz.func181.trans (congrArg some (by kernel_rfl))
 f267 := Tryz.func167.trans (congrArg some (by kernel_rfl))
 f314 := Tryz.func182.trans (congrArg some (by kernel_rfl))
 t3 := Tryz.underlying3
 a3 := Tryz.isAgg3
 z3 := Tryz.sizeOf3
 v3 := Tryz.zeroValue3
 t4 := Tryz.underlying4
 a4 := Tryz.isAgg4
 z4 := Tryz.sizeOf4
 v4 := Tryz.zeroValue4
 t5 := Tryz.underlying5
 a5 := Tryz.isAgg5
 z5 := Tryz.sizeOf5
 v5 := Tryz.zeroValue5
 t9 := Tryz.underlying9
 a9 := Tryz.isAgg9
 z9 := Tryz.sizeOf9
 v9 := Tryz.zeroValue9
 t46 := Tryz.underlying177
 a46 := Tryz.isAgg177
 z46 := Tryz.sizeOf177
 v46 := Tryz.zeroValue177
 t51 := Tryz.underlying216
 a51 := Tryz.isAgg216
 z51 := Tryz.sizeOf216
 v51 := Tryz.zeroValue216
 t146 := Tryz.underlying287
 a146 := Tryz.isAgg287
 z146 := Tryz.sizeOf287
 v146 := Tryz.zeroValue287
 g1 := by kernel_rfl }
def Tryz.laysM171_ren : Go.Shelf.Ren := ⟨fun | 171 => 186 | 243 => 197 | 246 => 200 | 283 => 203 | 284 => 204 | 285 => 205 | 286 => 206 | 129 => 112 | 317 => 207 | 318 => 208 | 319 => 209 | 320 => 210 | 337 => 211 | 338 => 212 | n => n, fun | 3 => 3 | 9 => 9 | 2 => 2 | 4 => 4 | 171 => 315 | 0 => 0 | 53 => 218 | 37 => 256 | 5 => 5 | 173 => 317 | 212 => 320 | 51 => 216 | 20 => 20 | 213 => 321 | 46 => 177 | 232 => 322 | 233 => 323 | n => n, fun | 17 => 8 | 18 => 9 | 19 => 10 | n => n⟩
theorem Tryz.laysM171 : Go.Proofs.LaysM.n171 Tryz.prog Tryz.laysM171_ren := {
 mixed := by kernel_rfl
 f129 := Tryz.func112.trans (congrArg some (by kernel_rfl))
 f171 := Tryz.func186.trans (congrArg some (by kernel_rfl))
 f243 := Tryz.func197.trans (congrArg some (by kernel_rfl))
 f246 := Tryz.func200.trans (congrArg some (by kernel_rfl))
 f283 := Tryz.func203.trans (congrArg some (by kernel_rfl))
 f284 := Tryz.func204.trans (congrArg some (by kernel_rfl))
 f285 := Tryz.func205.trans (congrArg some (by kernel_rfl))
 f286 := Tryz.func206.trans (congrArg some (by kernel_rfl))
 f317 := Tryz.func207.trans (congrArg some (by kernel_rfl))
 f318 := Tryz.func208.trans (congrArg some (by kernel_rfl))
 f319 := Tryz.func209.trans (congrArg some (by kernel_rfl))
 f320 := Tryz.func210.trans (congrArg some (by kernel_rfl))
 f337 := Tryz.func211.trans (congrArg some (by kernel_rfl))
 f338 := Tryz.func212.trans (congrArg some (by kernel_rfl))
 t0 := Tryz.underlying0
 a0 := Tryz.isAgg0
 z0 := Tryz.sizeOf0
 v0 := Tryz.zeroValue0
 t2 := Tryz.underlying2
 a2 := Tryz.isAgg2
 z2 := Tryz.sizeOf2
 v2 := Tryz.zeroValue2
 t3 := Tryz.underlying3
 a3 := Tryz.isAgg3
 z3 := Tryz.sizeOf3
 v3 := Tryz.zeroValue3
 t4 := Tryz.underlying4
 a4 := Tryz.isAgg4
 z4 := Tryz.sizeOf4
 v4 := Tryz.zeroValue4
 t5 := Tryz.underlying5
 a5 := Tryz.isAgg5
 z5 := Tryz.sizeOf5
 v5 := Tryz.zeroValue5
 t9 := Tryz.underlying9
 a9 := Tryz.isAgg9
 z9 := Tryz.sizeOf9
 v9 := Tryz.zeroValue9
 t20 := Tryz.underlying20
 a20 := Tryz.isAgg20
 z20 := Tryz.sizeOf20
 v20 := Tryz.zeroValue20
 t37 := Tryz.underlying256
 a37 := Tryz.isAgg256
 z37 := Tryz.sizeOf256
 v37 := Tryz.zeroValue256
 t46 := Tryz.underlying177
 a46 := Tryz.isAgg177
 z46 := Tryz.sizeOf177
 v46 := Tryz.zeroValue177
 t51 := Tryz.underlying216
 a51 := Tryz.isAgg216
 z51 := Tryz.sizeOf216
 v51 := Tryz.zeroValue216
 t53 := Tryz.underlying218
 a53 := Tryz.isAgg218
 z53 := Tryz.sizeOf218
 v53 := Tryz.zeroValue218
 t171 := Tryz.underlying315
 a171 := Tryz.isAgg315
 z171 := Tryz.sizeOf315
 v171 := Tryz.zeroValue315
 t173 := Tryz.underlying317
 a173 := Tryz.isAgg317
 z173 := Tryz.sizeOf317
 v173 := Tryz.zeroValue317
 t212 := Tryz.underlying320
 a212 := Tryz.isAgg320
 z212 := Tryz.sizeOf320
 v212 := Tryz.zeroValue320
 t213 := Tryz.underlying321
 a213 := Tryz.isAgg321
 z213 := Tryz.sizeOf321
 t232 := Tryz.underlying322
 a232 := Tryz.isAgg322
 z232 := Tryz.sizeOf322
 v232 := Tryz.zeroValue322
 t233 := Tryz.underlying323
 a233 := Tryz.isAgg323
 z233 := Tryz.sizeOf323
 v233 := Tryz.zeroValue323
 g17 := by kernel_rfl
 g18 := by kernel_rfl
 g19 := by kernel_rfl
 i0 := by kernel_rfl
 i2 := by kernel_rfl
 i3 := by kernel_rfl
 i4 := by kernel_rfl
 i5 := by kernel_rfl
 i9 := by kernel_rfl
 i20 := by kernel_rfl
 i37 := by kernel_rfl
 i46 := by kernel_rfl
 i51 := by kernel_rfl
 i53 := by kernel_rfl
 i171 := by kernel_rfl
 i173 := by kernel_rfl
 i212 := by kernel_rfl
 i232 := by kernel_rfl
 i233 := by kernel_rfl
 m17 := by kernel_rfl
 m18 := by kernel_rfl
 m19 := by kernel_rfl }
def Tryz.lays169_ren : Go.Shelf.Ren := ⟨fun | 169 => 149 | n => n, fun | 70 => 255 | 9 => 9 | 0 => 0 | 72 => 258 | 37 => 256 | 127 => 279 | 3 => 3 | 5 => 5 | n => n, fun | n => n⟩
theorem Tryz.lays169 : Go.Proofs.Lays.n169 Tryz.prog Tryz.lays169_ren := {
 mixed := by kernel_rfl
 f169 := Tryz.func149.trans (congrArg some (by kernel_rfl))
 t0 := Tryz.underlying0
 a0 := Tryz.isAgg0
 z0 := Tryz.sizeOf0
 v0 := Tryz.zeroValue0
 t3 := Tryz.underlying3
 a3 := Tryz.isAgg3
 z3 := Tryz.sizeOf3
 v3 := Tryz.zeroValue3
 t9 := Tryz.underlying9
 a9 := Tryz.isAgg9
 z9 := Tryz.sizeOf9
 v9 := Tryz.zeroValue9
 t37 := Tryz.underlying256
 a37 := Tryz.isAgg256
 z37 := Tryz.sizeOf256
 v37 := Tryz.zeroValue256
 t70 := Tryz.underlying255
 a70 := Tryz.isAgg255
 z70 := Tryz.sizeOf255
 v70 := Tryz.zeroValue255
 t72 := Tryz.underlying258
 a72 := Tryz.isAgg258
 z72 := Tryz.sizeOf258
 v72 := Tryz.zeroValue258
 t127 := Tryz.underlying279
 a127 := Tryz.isAgg279
 z127 := Tryz.sizeOf279
 v127 := Tryz.zeroValue279 }
def Tryz.lays240_ren : Go.Shelf.Ren := ⟨fun | 240 => 173 | 276 => 187 | n => n, fun | 0 => 0 | 4 => 4 | 9 => 9 | 20 => 20 | 37 => 256 | 70 => 255 | 72 => 258 | 164 => 101 | n => n, fun | n => n⟩
theorem Tryz.lays240 : Go.Proofs.Lays.n240 Tryz.prog Tryz.lays240_ren := {
 mixed := by kernel_rfl
 f240 := Tryz.func173.trans (congrArg some (by kernel_rfl))
 f276 := Tryz.func187.trans (congrArg some (by kernel_rfl))
 t0 := Tryz.underlying0
 a0 := Tryz.isAgg0
 z0 := Tryz.sizeOf0
 v0 := Tryz.zeroValue0
 t4 := Tryz.underlying4
 a4 := Tryz.isAgg4
 z4 := Tryz.sizeOf4
 v4 := Tryz.zeroValue4
 t9 := Tryz.underlying9
 a9 := Tryz.isAgg9
 z9 := Tryz.sizeOf9
 v9 := Tryz.zeroValue9
 t20 := Tryz.underlying20
 a20 := Tryz.isAgg20
 z20 := Tryz.sizeOf20
 v20 := Tryz.zeroValue20
 t70 := Tryz.underlying255
 a70 := Tryz.isAgg255
 z70 := Tryz.sizeOf255
 v70 := Tryz.zeroValue255
 t72 := Tryz.underlying258
 a72 := Tryz.isAgg258
 z72 := Tryz.sizeOf258
 v72 := Tryz.zeroValue258
 t164 := Tryz.underlying101
 a164 := Tryz.isAgg101
 z164 := Tryz.sizeOf101
 v164 := Tryz.zeroValue101 }
theorem Tryz.Builder_X72_240 : Builder.X72 Tryz.prog Tryz.lays240_ren where
 sizeBuilder := by kernel_rfl
 liesBuilder := by kernel_rfl
theorem Tryz.Builder_Extra_169 : Builder.Extra Tryz.prog Tryz.lays169_ren := {
 sizeBuilder := by kernel_rfl
 liesBuilder := by kernel_rfl
 t5 := Tryz.underlying5
 a5 := Tryz.isAgg5
 z5 := Tryz.sizeOf5
 v5 := Tryz.zeroValue5
 infoByte := by kernel_rfl
 cellsByte := by kernel_rfl
 sizeByte := by kernel_rfl
 neB5 := by decide }
end Go.Proofs
end
