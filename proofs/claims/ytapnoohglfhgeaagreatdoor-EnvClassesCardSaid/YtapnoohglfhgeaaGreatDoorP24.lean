import Derived.Test.YtapnoohglfhgeaaGreatDoorP05
import Derived.Test.YtapnoohglfhgeaaGreatDoorP07
import Derived.Test.YtapnoohglfhgeaaGreatDoorP10
import Derived.Test.YtapnoohglfhgeaaGreatDoorP19
import Derived.Test.YtapnoohglfhgeaaGreatDoorP23
import Derived.Shelf.Strings.Search3
import Derived.Shelf.Strings.BuilderK
import Derived.Shelf.Strconv.Itoa3
import Derived.KernelRfl
import Derived.Test.YtapnoohglfhgeaaGreatDoorProg
import Derived.Shelf.Sort.Plain
import Derived.Sort.OwnSorted
import Derived.Shelf.Slices.In.SortNone
import Derived.Shelf.Strings.BuilderF
import Derived.Shelf.LaysM
import Derived.Ground.NamesProg
import Derived.Shelf.Strings.Builder1
import Derived.Shelf.Lays8
/-
  Part 24 of the proof.
-/
set_option linter.all false
section
/-
  Functions of Go's library that are taken at their word: what the kit's contracts say of them, said of the small language.
-/
namespace Go.Ab
open Go.RowKit (Below)
open Go.Shelf Go.Proofs

section
variable {P : Program} {ρ : Ren} {N : Nat} {w0 : World}

/-- A call that comes to an answer and turns nothing. -/
theorem post_same {f : FuncId} {G : GM} {h : AHeap} {w : World} {argsV : Array Value} {v : AVal} {cv : Value} {Q : AVal × AHeap → Prop} (hR : Rel P N w0 G h w) (hv : VR P G v cv) (hq : Q (v, h)) (hc : Calls P f argsV w fun e w' => e = .returned cv ∧ w' = w) :
    CallsIn (FR none) 0 P f argsV w (PostC P N w0 G h w Q) :=
  callsIn_wide.2 (hc.mono fun e w' hp => ⟨v, h, G, cv, hp.1, hq, by rw [hp.2]; exact hR, by rw [hp.2]; exact Ext.refl _ _ _, hv⟩)

/-- Letters as numbers. -/
def numsOf (l : List UInt8) : List Nat := l.map UInt8.toNat
theorem numsOf_inj : ∀ {a b : List UInt8}, numsOf a = numsOf b → a = b
  | [], [], _ => rfl
  | [], _ :: _, h => by simp [numsOf] at h
  | _ :: _, [], h => by simp [numsOf] at h
  | x :: a, y :: b, h => by
    simp only [numsOf, List.map_cons, List.cons.injEq] at h
    rw [UInt8.toNat_inj.1 h.1, numsOf_inj h.2]

def prefN : List Nat → List Nat → Bool
  | [], _ => true
  | _ :: _, [] => false
  | a :: x, b :: y => match Nat.beq a b with | true => prefN x y | false => false
def inN : List Nat → List Nat → Bool
  | [], t => prefN t []
  | a :: s, t => match prefN t (a :: s) with | true => true | false => inN s t
theorem pref_nums : ∀ (a b : List UInt8), prefN (numsOf a) (numsOf b) = a.isPrefixOf b
  | [], _ => rfl
  | _ :: _, [] => rfl
  | x :: a, y :: b => by
    simp only [numsOf, List.map_cons, prefN, List.isPrefixOf]
    cases hxy : Nat.beq x.toNat y.toNat with
    | true =>
      have : x = y := UInt8.toNat_inj.1 (Nat.eq_of_beq_eq_true hxy)
      rw [this]
      simp only [beq_self_eq_true, Bool.true_and]
      exact pref_nums a b
    | false =>
      have : (x == y) = false := by
        rw [Bool.eq_false_iff]
        intro h
        have := eq_of_beq h
        rw [this, Nat.beq_refl] at hxy; cases hxy
      rw [this]; rfl
theorem in_nums : ∀ (s t : List UInt8), inN (numsOf s) (numsOf t) = Lib.contains s t
  | [], t => by
    simp only [numsOf, List.map_nil, inN, Lib.contains, Lib.index]
    cases t <;> rfl
  | a :: s, t => by
    have ih := in_nums s t
    have hp := pref_nums t (a :: s)
    simp only [Lib.contains, Lib.index] at ih ⊢
    simp only [numsOf, List.map_cons, inN] at hp ih ⊢
    rw [hp]
    rcases Bool.eq_false_or_eq_true (t.isPrefixOf (a :: s)) with h | h
    · simp [h]
    · simp only [h, Bool.false_eq_true, if_false]
      rw [ih]
      have := Lib.index_ge s t
      by_cases hm : Lib.index s t = -1
      · simp [hm]
      · have h2 : (Lib.index s t == -1) = false := by simpa using hm
        rw [h2]
        simp only [Bool.false_eq_true, if_false, decide_eq_decide]
        omega

theorem str_of {G : GM} {s : List Nat} {v : Value} (h : VR P G (.str s) v) : ∃ b : ByteArray, v = .string b ∧ numsOf b.data.toList = s := h
theorem args1 {G : GM} {a : AVal} {argsV : Array Value} (h : VsR P G [a] argsV.toList) : ∃ x, argsV = #[x] ∧ VR P G a x := by
  obtain ⟨y, ys, h1, h2, h3⟩ := h
  have h3 : ys = [] := h3
  subst h3
  exact ⟨y, by cases argsV; simp_all, h2⟩
theorem args2 {G : GM} {a b : AVal} {argsV : Array Value} (h : VsR P G [a, b] argsV.toList) : ∃ x y, argsV = #[x, y] ∧ VR P G a x ∧ VR P G b y := by
  obtain ⟨x, xs, h1, h2, y, ys, h4, h5, h6⟩ := h
  have h6 : ys = [] := h6
  subst h6; subst h4
  exact ⟨x, y, by cases argsV; simp_all, h2, h5⟩

/-- strings.Contains -/
theorem s_contains (L : Lays.n144 P ρ) (hc : ∃ m, w0.cell? ⟨ρ.g 1, 0, none⟩ = some (.int .i64 m)) (hg : ρ.g 1 < N) {s t : List Nat} {h : AHeap} (hs : s.length < 4294967281) {G : GM} {argsV : Array Value} {w : World} {Q : AVal × AHeap → Prop} (hR : Rel P N w0 G h w) (hv : VsR P G [.str s, .str t] argsV.toList)
    (hq : Q (.bool (inN s t), h)) : CallsIn (FR none) 0 P (ρ.f 144) argsV w (PostC P N w0 G h w Q) := by
  obtain ⟨x, y, rfl, h1, h2⟩ := args2 hv
  obtain ⟨b1, rfl, rfl⟩ := str_of h1
  obtain ⟨b2, rfl, rfl⟩ := str_of h2
  obtain ⟨m, hm⟩ := hc
  have hm' : w.cell? ⟨ρ.g 1, 0, none⟩ = some (.int .i64 m) := by
    simp only [World.cell?] at hm ⊢
    rw [hR.below.block _ hg]; exact hm
  have hs' : b1.size < 4294967281 := by
    have : (numsOf b1.data.toList).length = b1.size := by simp only [numsOf, List.length_map]; rfl
    omega
  exact post_same hR (v := .bool (inN _ _)) rfl hq ((Any.strings_Contains L b1 b2 m w hs' hm').mono fun e w' hp => ⟨by rw [hp.1, in_nums], hp.2⟩)

/-! ### A builder's own check -/
theorem s_check_used (L : Lays.n240 P ρ) (X : Builder.X72 P ρ) {h : AHeap} {b ver : Nat} {ro : Bool} {e : TypeId} {r : List AVal} (hb : h.objs.get b = some (ver, .cells false e (.ptr (some (b, 0)) :: r))) {G : GM} {argsV : Array Value} {w : World} {Q : AVal × AHeap → Prop} (hR : Rel P N w0 G h w) (hv : VsR P G [.ptr (some (b, 0))] argsV.toList)
    (hq : Q (.tuple [], h)) : CallsIn (FR none) 0 P (ρ.f 240) argsV w (PostC P N w0 G h w Q) := by
  obtain ⟨x, rfl, gi, hg, rfl⟩ := args1 hv
  obtain ⟨gi', h1, ob, h2, c, t, fr, rfl, hf, hfit, _, hl, hvs⟩ := hR.obj b _ _ hb
  have hg' : G b = some gi := hg
  rw [hg'] at h1; cases h1
  obtain ⟨hsz, hoff, ht, hfr⟩ := hf rfl
  rw [hoff, List.drop_zero] at hvs
  obtain ⟨y, ys, e1, ⟨gi2, k1, rfl⟩, _⟩ := hvs
  have k1 : G b = some gi2 := k1
  rw [hg'] at k1; cases k1
  have hc0 : c[0]? = some (.pointer (some ⟨gi.blk, 0, none⟩)) := by
    have := congrArg (fun l => l[0]?) e1
    simp only [List.getElem?_cons_zero] at this
    rw [List.getElem?_take, if_pos (by simp)] at this
    simpa [hoff] using this
  have hcell : w.cell? ⟨gi.blk, 0, none⟩ = some (.pointer (some ⟨gi.blk, 0, none⟩)) := by simp [World.cell?, h2, hc0]
  simp only [hoff, Nat.add_zero]
  exact post_same hR (v := .tuple []) ⟨#[], rfl, rfl⟩ hq (Any.Builder_copyCheck_used L X gi.blk w hcell)

theorem lies_self {T : TypeId} (hc : P.cellsOf T = 2) {c : Nat} (h : 1 ≤ c) : liesAt P P.depth T c 0 T 1 = true := by
  have hd : P.depth = (2 * (P.types.size + Made.depth) + 1) + 1 := rfl
  have hs : sameLayout P P.depth T T = true := by
    rw [hd, sameLayout]; simp
  rw [hd] at hs ⊢
  rw [liesAt]
  have : rowAt P (sameLayout P P.depth · T) P.depth T c 0 1 = true := by
    rw [hd] at *
    rw [rowAt]
    simp [hc, hs, h]
  rw [this]; rfl

set_option maxHeartbeats 1000000 in
set_option maxRecDepth 100000 in
/-- copyCheck at a fresh builder, wherever it lies: it stores its own address. -/
theorem copyCheck_fresh (L : Lays.n240 P ρ) (X : Builder.X72 P ρ) (b m : Nat) (hm : 2 ≤ m) (w : World) (h0 : w.cell? ⟨b, 0, none⟩ = some (.pointer none)) (hsh : w.shape? b = some ((ρ.t 72), m)) (hfz : w.frozen? ⟨b, 0, none⟩ = false) :
    Calls P (ρ.f 240) #[.pointer (some ⟨b, 0, none⟩)] w fun e w' => e = .returned (.tuple #[]) ∧ w' = w.setCell ⟨b, 0, none⟩ (.pointer (some ⟨b, 0, none⟩)) := by
  obtain ⟨j, hj, hjs⟩ := Option.map_eq_some_iff.1 X.sizeBuilder
  have hc2 : P.cellsOf (ρ.t 72) = 2 := by simp [Program.cellsOf, hj, hjs]
  have hlies : liesAt P P.depth (ρ.t 72) (m / P.cellsOf (ρ.t 72)) 0 (ρ.t 72) 1 = true := lies_self hc2 (by rw [hc2]; omega)
  have mixed := L.mixed
  have t72 := L.t72; have a72 := L.a72; have z72 := L.z72; have v72 := L.v72; have u72 := run_underlying L.t72
  have t70 := L.t70; have a70 := L.a70; have z70 := L.z70; have v70 := L.v70; have u70 := run_underlying L.t70
  have t9 := L.t9; have a9 := L.a9; have z9 := L.z9; have v9 := L.v9; have u9 := run_underlying L.t9
  have t4 := L.t4; have a4 := L.a4; have z4 := L.z4; have v4 := L.v4; have u4 := run_underlying L.t4
  have t164 := L.t164; have a164 := L.a164; have z164 := L.z164; have v164 := L.v164; have u164 := run_underlying L.t164
  go_enter L.f240, Body.n240_ntmps ρ
  go_wp2
  rw [Lib.run_to_unsafe w ⟨b, 0, none⟩ L.t70 L.t164 hj (by rw [hjs]; decide) hsh (show 0 < m by omega)]
  simp only [Result.andThen]
  rw [Oper.upon_value]
  go_wp2
  rw [run_callFunc_extern L.f276 (by kernel_rfl) (by kernel_rfl) (by kernel_rfl) (e := Extern.AbiNoEscape.same) (by kernel_rfl)]
  rw [Lib.run_noEscape]
  simp only [Result.andThen]
  rw [Oper.upon_value]
  go_wp2
  rw [Lib.run_from_unsafe w ⟨b, 0, none⟩ L.t164 L.t70 hj hsh hlies]
  simp only [Result.andThen]
  rw [Oper.upon_value]
  go_wp2
  go_end0
  exact ⟨rfl, rfl⟩

theorem s_check_fresh (L : Lays.n240 P ρ) (X : Builder.X72 P ρ) {h : AHeap} {b ver : Nat} {s : AVal} (hs : one s = true) (hb : h.objs.get b = some (ver, .cells false (ρ.t 72) [.ptr none, s])) {G : GM} {argsV : Array Value} {w : World} {Q : AVal × AHeap → Prop} (hR : Rel P N w0 G h w) (hv : VsR P G [.ptr (some (b, 0))] argsV.toList)
    (hq : Q (.tuple [], putObjA h b (.cells false (ρ.t 72) [.ptr (some (b, 0)), s]))) : CallsIn (FR none) 0 P (ρ.f 240) argsV w (PostC P N w0 G h w Q) := by
  obtain ⟨x, rfl, gi, hg, rfl⟩ := args1 hv
  obtain ⟨gi', h1, ob, h2, c, t, fr, rfl, hf, hfit, hel, hl, hvs⟩ := hR.obj b _ _ hb
  have hg' : G b = some gi := hg
  rw [hg'] at h1; cases h1
  obtain ⟨hsz, hoff, ht, hfr⟩ := hf rfl
  subst ht; subst hfr
  rw [hoff, List.drop_zero] at hvs
  have hc2 : 2 ≤ c.size := by rw [hsz]; simpa using hl
  obtain ⟨y, ys, e1, hy, z, zs, e2, hz, e3⟩ := hvs
  have e3 : zs = [] := e3
  subst e3; subst e2
  have hy : y = .pointer none := hy
  subst hy
  have hg0 : ∀ i : Nat, i < 2 → c[i]? = ([.pointer none, z] : List Value)[i]? := fun i hi => by
    have := congrArg (fun l => l[i]?) e1
    simp only [List.getElem?_take] at this
    rw [if_pos (by simpa using hi)] at this
    simpa using this
  have hcell : w.cell? ⟨gi.blk, 0, none⟩ = some (.pointer none) := by simp [World.cell?, h2, hg0 0 (by decide)]
  have hsh : w.shape? gi.blk = some (ρ.t 72, c.size) := by simp [World.shape?, h2]
  have hfz : w.frozen? ⟨gi.blk, 0, none⟩ = false := frozen_of_cells h2
  have hN : N ≤ gi.blk := hR.own b _ _ gi hb hg' rfl
  simp only [hoff, Nat.add_zero]
  refine callsIn_wide.2 ((copyCheck_fresh L X gi.blk c.size hc2 w hcell hsh hfz).mono fun e w' hp => ?_)
  obtain ⟨rfl, rfl⟩ := hp
  have hset : (w.setCell ⟨gi.blk, 0, none⟩ (.pointer (some ⟨gi.blk, 0, none⟩))).heap[gi.blk]? = some (.cells (c.setIfInBounds 0 (.pointer (some ⟨gi.blk, 0, none⟩))) (ρ.t 72) (0, 0)) := by
    show (w.heap.modify gi.blk _)[gi.blk]? = _
    rw [Array.getElem?_modify]; simp [h2]
  have hoth : ∀ k, k ≠ gi.blk → (w.setCell ⟨gi.blk, 0, none⟩ (.pointer (some ⟨gi.blk, 0, none⟩))).heap[k]? = w.heap[k]? := fun k hk => by
    show (w.heap.modify gi.blk _)[k]? = _
    rw [Array.getElem?_modify]; simp [Ne.symm hk]
  have hput := hR.put (w' := w.setCell ⟨gi.blk, 0, none⟩ (.pointer (some ⟨gi.blk, 0, none⟩))) (o' := .cells false (ρ.t 72) [.ptr (some (b, 0)), s]) (ob' := .cells (c.setIfInBounds 0 (.pointer (some ⟨gi.blk, 0, none⟩))) (ρ.t 72) (0, 0)) hb rfl rfl hg' hset hoth
    ⟨rfl, rfl, rfl, by simp [World.setCell], fun k hk => hoth k (by omega)⟩
    ⟨_, _, (0, 0), rfl, fun _ => ⟨by simp [hsz], hoff, rfl, rfl⟩, by simpa using hfit, hel, by simpa using hl, by
      rw [hoff, List.drop_zero]
      have : (c.setIfInBounds 0 (.pointer (some ⟨gi.blk, 0, none⟩))).toList.take 2 = [.pointer (some ⟨gi.blk, 0, none⟩), z] := by
        rw [Array.toList_setIfInBounds]
        have e1' : c.toList.take 2 = [.pointer none, z] := e1
        match hl : c.toList, e1' with
        | x :: y :: r, e => simp at e ⊢; exact e.2
      show VsR P G _ (List.take 2 _)
      rw [this]
      exact ⟨_, _, rfl, ⟨gi, hg', by simp [hoff]⟩, z, [], rfl, hz, rfl⟩⟩
  exact ⟨.tuple [], _, G, .tuple #[], rfl, hq, hput.1, hput.2, ⟨#[], rfl, rfl⟩⟩

/-! ### Worlds that turn where nothing is told of -/
theorem Rel.aside {G : GM} {h : AHeap} {w w' : World} (hR : Rel P N w0 G h w) (hb : Below N w w') (hk : ∀ id x gi, h.objs.get id = some x → G id = some gi → w'.heap[gi.blk]? = w.heap[gi.blk]?) : Rel P N w0 G h w' :=
  ⟨fun id ver o hx => by
      obtain ⟨gi, h1, ob, h2, h3⟩ := hR.obj id ver o hx
      exact ⟨gi, h1, ob, by rw [hk id _ gi hx h1]; exact h2, h3⟩,
    hR.inj, hR.own, hR.fresh, hR.vers, hR.glob, hR.low, hR.below.trans hb, Nat.le_trans hR.size hb.size, hR.rolow⟩
theorem Rel.grown {G : GM} {h : AHeap} {w w' : World} (hR : Rel P N w0 G h w) (hb : Below w.heap.size w w') : Rel P N w0 G h w' ∧ Ext G h w G h w' := by
  have hlt : ∀ id x gi, h.objs.get id = some x → G id = some gi → gi.blk < w.heap.size := fun id x gi hx hg => by
    obtain ⟨gi', h1, ob, h2, _⟩ := hR.obj id x.1 x.2 hx
    rw [hg] at h1; cases h1
    exact lt_of_heap h2
  refine ⟨hR.aside ⟨hb.os, hb.tape, hb.output, hb.size, fun k hk => hb.block k (Nat.lt_of_lt_of_le hk hR.size)⟩ fun id x gi hx hg => hb.block _ (hlt id x gi hx hg), ?_⟩
  exact ⟨GLe.refl G, Nat.le_refl _, fun i v o e => .inr ⟨e, fun gi hg => hb.block _ (hlt i _ gi e hg)⟩, fun k hk _ => hb.block k hk, fun i x g e hr hgi => .inr ⟨i, x, g, e, hr, hgi, rfl⟩, hb.size⟩

set_option maxHeartbeats 2000000 in
set_option maxRecDepth 100000 in
/-- What a builder's String does, told whole. -/
theorem builder_string (L : Lays.n169 P ρ) (X : Builder.Extra P ρ) (b g cap : Nat) (cur : Array Value) (fz : Nat × Nat) (l : List UInt8) (w : World) (h0 : l ≠ []) (hcap : l.length ≤ cap) (hc : w.cell? ⟨b, 1, none⟩ = some (.slice (some ⟨g, 0, none⟩) l.length cap)) (hg : w.heap[g]? = some (.cells cur (ρ.t 5) fz)) (hcur : l.length ≤ cur.size) (hmax : l.length ≤ 9223372036854775807)
    (hcells : ∀ (j : Nat) x, l[j]? = some x → w.cell? ⟨g, j, none⟩ = some (.int .u8 x.toNat)) :
    Calls P (ρ.f 169) #[.pointer (some ⟨b, 0, none⟩)] w fun e w' => e = .returned (.string ⟨l.toArray⟩) ∧ w' = w.drew.freeze ⟨g, 0, none⟩ l.length := by
  have hl0 : l.length ≠ 0 := by simpa using h0
  have c1 : w.drew.cell? ⟨b, 1, none⟩ = some (.slice (some ⟨g, 0, none⟩) l.length cap) := hc
  have hSD : (Builtin.unsafeSliceData_ #[(ρ.t 37)] (ρ.t 127) #[.slice (some ⟨g, 0, none⟩) l.length cap]).run P w.drew = .ok (.pointer (some ⟨g, 0, none⟩)) w.drew :=
    Lib.run_unsafeSliceData_row _ _ _ _ _ _ (by omega)
  have hUS : (Builtin.unsafeString_ #[(ρ.t 127), (ρ.t 3)] (ρ.t 9) #[.pointer (some ⟨g, 0, none⟩), .int .i64 l.length]).run P w.drew = .ok (.string ⟨l.toArray⟩) (w.drew.freeze ⟨g, 0, none⟩ l.length) := by
    refine Lib.run_unsafeString_row w.drew (ρ.t 127) (ρ.t 3) (ρ.t 9) (ρ.t 5) L.t127 X.cellsByte g cur.size (by have hg' : w.drew.heap[g]? = some (.cells cur (ρ.t 5) fz) := hg; simp [World.shape?, hg']) l h0 hcur hmax ?_
    intro j x hx
    rw [addr_add, Nat.zero_add]
    exact hcells j x hx
  have mixed := L.mixed
  have t72 := L.t72; have a72 := L.a72; have z72 := L.z72; have v72 := L.v72; have u72 := run_underlying L.t72
  have t70 := L.t70; have a70 := L.a70; have z70 := L.z70; have v70 := L.v70; have u70 := run_underlying L.t70
  have t37 := L.t37; have a37 := L.a37; have z37 := L.z37; have v37 := L.v37; have u37 := run_underlying L.t37
  have t127 := L.t127; have a127 := L.a127; have z127 := L.z127; have v127 := L.v127; have u127 := run_underlying L.t127
  have t3 := L.t3; have a3 := L.a3; have z3 := L.z3; have v3 := L.v3; have u3 := run_underlying L.t3
  have t9 := L.t9; have a9 := L.a9; have z9 := L.z9; have v9 := L.v9; have u9 := run_underlying L.t9
  have t5 := X.t5; have a5 := X.a5; have z5 := X.z5; have v5 := X.v5; have u5 := run_underlying X.t5
  go_enter L.f169, Body.n169_ntmps ρ
  go_wp2
  go_region_o
  all_goals (go_wp2; go_ret; exact ⟨rfl, rfl⟩)

/-- A builder's text; the row that bears it isn't told of any more. -/
theorem s_string (L : Lays.n169 P ρ) (X : Builder.Extra P ρ) {h : AHeap} {b c ver ver' : Nat} {e : TypeId} {x0 : AVal} {r vs : List AVal} {l : List UInt8} (hl : l ≠ []) (hb : h.objs.get b = some (ver, .cells false e (x0 :: .slice (some (c, 0)) l.length :: r))) (hc : h.objs.get c = some (ver', .cells false (ρ.t 5) vs))
    (hvs : vs.take l.length = l.map fun x => .int .u8 (x.toNat : Nat)) (hmax : l.length ≤ 1000000) {G : GM} {argsV : Array Value} {w : World} {Q : AVal × AHeap → Prop} (hR : Rel P N w0 G h w) (hv : VsR P G [.ptr (some (b, 0))] argsV.toList)
    (hq : Q (.str (numsOf l), dropA h c)) : CallsIn (FR none) 0 P (ρ.f 169) argsV w (PostC P N w0 G h w Q) := by
  obtain ⟨x, rfl, gi, hg, rfl⟩ := args1 hv
  obtain ⟨gi', h1, ob, h2, cb, tb, fr, rfl, hf, hfit, hel, hlb, hvb⟩ := hR.obj b _ _ hb
  have hg' : G b = some gi := hg
  rw [hg'] at h1; cases h1
  obtain ⟨hsz, hoff, ht, hfr⟩ := hf rfl
  rw [hoff, List.drop_zero] at hvb
  obtain ⟨y, ys, e1, hy, z, zs, e2, ⟨gc, cap, k1, rfl, k2, k3⟩, e3⟩ := hvb
  have k1 : G c = some gc := k1
  subst e2
  obtain ⟨gi2, q1, ob2, q2, cc, tc, frc, rfl, qf, qfit, qel, qlb, qvb⟩ := hR.obj c _ _ hc
  rw [k1] at q1; cases q1
  obtain ⟨qsz, qoff, qt, qfr⟩ := qf rfl
  subst qt; subst qfr
  rw [qoff, List.drop_zero] at qvb
  have hll : l.length ≤ vs.length := by
    have := congrArg List.length hvs
    rw [List.length_take, List.length_map] at this; omega
  have hcell1 : w.cell? ⟨gi.blk, 1, none⟩ = some (.slice (some ⟨gc.blk, 0, none⟩) l.length cap) := by
    have := congrArg (fun q => q[1]?) e1
    simp only [List.getElem?_take, List.getElem?_cons_succ, List.getElem?_cons_zero] at this
    rw [if_pos (by simp)] at this
    have : cb[1]? = some (.slice (some ⟨gc.blk, 0, none⟩) l.length cap) := by simpa [qoff] using this
    simp [World.cell?, h2, this]
  have hcells : ∀ (j : Nat) u, l[j]? = some u → w.cell? ⟨gc.blk, j, none⟩ = some (.int .u8 u.toNat) := fun j u hj => by
    have hlt : j < l.length := (List.getElem?_eq_some_iff.1 hj).1
    have hvj : vs[j]? = some (.int .u8 (u.toNat : Nat)) := by
      have := congrArg (fun q => q[j]?) hvs
      simp only [List.getElem?_take, if_pos hlt, List.getElem?_map, hj, Option.map_some] at this
      exact this
    obtain ⟨cv, r1, r2⟩ := qvb.get hvj
    have r2 : cv = .int .u8 (u.toNat : Nat) := r2
    subst r2
    rw [List.getElem?_take] at r1
    split at r1
    · have r1' : cc[j]? = some (.int .u8 (u.toNat : Nat)) := by simpa using r1
      simp [World.cell?, q2, r1']
    · cases r1
  have hcsz : l.length ≤ cc.size := by omega
  simp only [hoff, Nat.add_zero]
  refine callsIn_wide.2 ((builder_string L X gi.blk gc.blk cap cc (0, 0) l w hl k2 hcell1 q2 hcsz (by omega) hcells).mono fun e' w' hp => ?_)
  obtain ⟨rfl, rfl⟩ := hp
  have hN : N ≤ gc.blk := hR.own c _ _ gc hc k1 rfl
  have hoth : ∀ k, k ≠ gc.blk → (w.drew.freeze ⟨gc.blk, 0, none⟩ l.length).heap[k]? = w.heap[k]? := fun k hk => by
    unfold World.freeze
    split
    · rfl
    · show (w.heap.modify gc.blk _)[k]? = _
      rw [Array.getElem?_modify]; simp [Ne.symm hk]
  have hsize : (w.drew.freeze ⟨gc.blk, 0, none⟩ l.length).heap.size = w.heap.size := by
    unfold World.freeze
    split
    · rfl
    · simp
  obtain ⟨hD, hE⟩ := hR.drop c
  have hne : ∀ id x gi', (dropA h c).objs.get id = some x → G id = some gi' → gi'.blk ≠ gc.blk := by
    intro id x gi' hx hgi hh
    have hx' : id ≠ c ∧ h.objs.get id = some x := by
      simp only [dropA, T.get_set] at hx
      by_cases hi : id = c
      · rw [if_pos hi] at hx; cases hx
      · rw [if_neg hi] at hx; exact ⟨hi, hx⟩
    exact hx'.1 (hR.inj c id _ x gc gi' hc hx'.2 rfl k1 hgi hh.symm).symm
  have hB : Below N w (w.drew.freeze ⟨gc.blk, 0, none⟩ l.length) := Lib.below_freeze (Below.drew (Below.refl N w)) (p := ⟨gc.blk, 0, none⟩) hN _
  refine ⟨.str (numsOf l), dropA h c, G, .string ⟨l.toArray⟩, rfl, hq, hD.aside hB fun id x gi' hx hgi => hoth _ (hne id x gi' hx hgi), ?_, ⟨⟨l.toArray⟩, rfl, by simp [numsOf]⟩⟩
  refine ⟨hE.gle, hE.nle, fun id ver o hx => ?_, fun k hk hno => hoth k fun hkk => hno c _ gc hc rfl k1 hkk.symm, hE.owned, by rw [hsize]; exact Nat.le_refl _⟩
  rcases hE.same id ver o hx with h3 | ⟨h3, _⟩
  · exact .inl h3
  · exact .inr ⟨h3, fun gi' hgi => hoth _ (hne id _ gi' hx hgi)⟩

/-- A number's digits. -/
theorem s_itoa (L : LaysM.n171 P ρ) (n : Int) (hn0 : -9223372036854775808 ≤ n) (hn1 : n ≤ 9223372036854775807) (htab : ∀ w, Below N w0 w → Lib.TabIs P w "internal/strconv.uint64pow10" .u64 Lib.pow10Tab) {h : AHeap} {G : GM} {argsV : Array Value} {w : World} {Q : AVal × AHeap → Prop} (hR : Rel P N w0 G h w) (hv : VsR P G [.int .i64 n] argsV.toList)
    (hq : Q (.str (numsOf (Lib.itoa n)), h)) : CallsIn (FR none) 0 P (ρ.f 171) argsV w (PostC P N w0 G h w Q) := by
  obtain ⟨x, rfl, h1⟩ := args1 hv
  have h1 : x = .int .i64 n := h1
  subst h1
  refine callsIn_wide.2 ((Any.strconv_Itoa L n hn0 hn1 w (htab w hR.below)).mono fun e' w' hp => ?_)
  obtain ⟨rfl, k, os, rfl⟩ := hp
  obtain ⟨h2, h3⟩ := hR.grown (w' := Go.Sort.grow (w.drewN k) os) ⟨rfl, rfl, rfl, by simp [Go.Sort.grow], fun i hi => by
    show (w.heap ++ os)[i]? = _
    rw [Array.getElem?_append_left hi]⟩
  exact ⟨_, h, G, _, rfl, hq, h2, h3, ⟨⟨(Lib.itoa n).toArray⟩, rfl, by simp [numsOf]⟩⟩
end
end Go.Ab
end
section
/-
  What the document's texts are read as.
-/
namespace Go.Proofs
open Go Go.Ab Go.Ab.S
def fnsP (P : Program) : FuncId → Option AFunc := fun f => (P.funcs[f]?).bind (cFn P)
theorem fnsP_ok (P : Program) : FnsOK P (fnsP P) := fun _ _ h => Option.bind_eq_some_iff.1 h
/-- Of Go's library one function alone is taken at its word. -/
def summ0 : FuncId → List AVal → AHeap → Option (D (AVal × AHeap)) := fun f args h =>
  match Nat.beq f 82 with
  | true => (match args with
    | [.str s, .str t] => (match Nat.ble s.length 2000 with | true => some (.ret (.bool (inN s t), h)) | false => none)
    | _ => none)
  | false => none
def tabA : List AVal := (List.range 256).map fun i => .int .u8 (if i == 32 || (9 ≤ i && i ≤ 13) then 1 else 0)
def vR (n : Nat) : AVal := .tuple [.agg [.slice (some (0, 0)) n, .int .i64 0], .int .i64 0]
def keepF : List Nat := [670, 641, 651]
def osF : List (TypeId × List AVal) := [(60, [(.int .i64 2), (.str [45, 62]), (.slice (some (1, 0)) 2), (.slice none 0), (.bool false), (.int .i64 2), (.str [42]), (.slice (some (2, 0)) 2), (.slice none 0), (.bool false), (.int .i64 1), (.str []), (.slice none 0), (.slice none 0), (.bool false), (.int .i64 1), (.str []), (.slice none 0), (.slice none 0), (.bool false)]), (3, [(.int .i64 1), (.int .i64 2)]), (3, [(.int .i64 2), (.int .i64 3)])]
def keepS : List Nat := [670, 641, 651]
def osS : List (TypeId × List AVal) := [(60, [(.int .i64 2), (.str [45, 62]), (.slice (some (1, 0)) 2), (.slice none 0), (.bool false), (.int .i64 2), (.str [42]), (.slice (some (2, 0)) 2), (.slice none 0), (.bool false), (.int .i64 1), (.str []), (.slice none 0), (.slice none 0), (.bool false), (.int .i64 1), (.str []), (.slice none 0), (.slice none 0), (.bool false)]), (3, [(.int .i64 1), (.int .i64 3)]), (3, [(.int .i64 2), (.int .i64 3)])]
def keepN : List Nat := [510, 491]
def osN : List (TypeId × List AVal) := [(60, [(.int .i64 2), (.str [45, 62]), (.slice (some (1, 0)) 2), (.slice none 0), (.bool false), (.int .i64 2), (.str [98, 111, 111, 108]), (.slice none 0), (.slice none 0), (.bool false), (.int .i64 2), (.str [98, 111, 111, 108]), (.slice none 0), (.slice none 0), (.bool false)]), (3, [(.int .i64 1), (.int .i64 2)])]
end Go.Proofs
end
section
/-
  One of the law's texts, read.
-/
namespace Go.Proofs
open Go Go.Ab Go.Ab.S
theorem readF : ((run (fnsP Tryz.prog) summ0 4000).call 25 [.str tF] (tblH 1 200 tabA)).all (isAt keepF (vR 4) osF) = true := by kernel_rfl
end Go.Proofs
end
section
/-
  One of the law's texts, read.
-/
namespace Go.Proofs
open Go Go.Ab Go.Ab.S
theorem readS : ((run (fnsP Tryz.prog) summ0 4000).call 25 [.str tS] (tblH 1 200 tabA)).all (isAt keepS (vR 4) osS) = true := by kernel_rfl
end Go.Proofs
end
section
/-
  One of the law's texts, read.
-/
namespace Go.Proofs
open Go Go.Ab Go.Ab.S
theorem readN : ((run (fnsP Tryz.prog) summ0 4000).call 25 [.str tN] (tblH 1 200 tabA)).all (isAt keepN (vR 3) osN) = true := by kernel_rfl
end Go.Proofs
end
section
/-
  Sorting of a row of texts.
-/
namespace Go.Ab
open Go Go.Proofs Go.Shelf Go.Sort Go.RowKit
theorem less_u : ∀ x y : List UInt8, lessL (numsOf x) (numsOf y) = decide (x < y)
  | _, [] => by simp [numsOf, lessL]
  | [], _ :: _ => by simp [numsOf, lessL]
  | a :: x, b :: y => by
    have ih := less_u x y
    simp only [numsOf, List.map_cons, lessL] at ih ⊢
    rw [ih]
    have h1 : Nat.blt a.toNat b.toNat = decide (a < b) := by
      rw [Bool.eq_iff_iff, Nat.blt_eq, decide_eq_true_eq]; exact Iff.rfl
    have h2 : Nat.beq a.toNat b.toNat = decide (a = b) := by
      rw [Bool.eq_iff_iff, Nat.beq_eq, decide_eq_true_eq]; exact UInt8.toNat_inj
    rw [h1, h2]
    by_cases hab : a < b
    · simp [hab, List.cons_lt_cons_iff]
    · by_cases he : a = b
      · simp [he, List.cons_lt_cons_iff]
      · simp [hab, he, List.cons_lt_cons_iff]
theorem le_u (x y : List UInt8) : decide (x ≤ y) = !lessL (numsOf y) (numsOf x) := by
  rw [less_u, Bool.eq_iff_iff]
  simp
theorem sort_u (ss : List (List UInt8)) : (ss.mergeSort fun x y => decide (x ≤ y)).map numsOf = (ss.map numsOf).mergeSort fun x y => !lessL y x :=
  List.map_mergeSort fun a _ b _ => le_u a b
theorem bytes_of : ∀ l : List Nat, (∀ x ∈ l, x < 256) → ∃ b : List UInt8, numsOf b = l
  | [], _ => ⟨[], rfl⟩
  | x :: l, h => by
    obtain ⟨b, hb⟩ := bytes_of l fun y hy => h y (by simp [hy])
    exact ⟨UInt8.ofNat x :: b, by simp only [numsOf, List.map_cons] at hb ⊢; rw [hb, UInt8.toNat_ofNat', Nat.mod_eq_of_lt (h x (by simp))]⟩
theorem texts_of : ∀ l : List (List Nat), (∀ s ∈ l, ∀ c ∈ s, c < 256) → ∃ b : List (List UInt8), b.map numsOf = l
  | [], _ => ⟨[], rfl⟩
  | x :: l, h => by
    obtain ⟨b, hb⟩ := texts_of l fun y hy => h y (by simp [hy])
    obtain ⟨c, hc⟩ := bytes_of x (h x (by simp))
    exact ⟨c :: b, by rw [List.map_cons, hb, hc]⟩
section
variable {P : Program} {ρ : Ren} {N : Nat} {w0 : World}
theorem s_sort_none (L : Lays.n190 P ρ) {h : AHeap} {G : GM} {argsV : Array Value} {w : World} {Q : AVal × AHeap → Prop} {v : AVal} (hv0 : v = .slice none 0 ∨ v = .slice0) (hR : Rel P N w0 G h w) (hv : VsR P G [v] argsV.toList)
    (hq : Q (.tuple [], h)) : CallsIn (FR none) 0 P (ρ.f 190) argsV w (PostC P N w0 G h w Q) := by
  obtain ⟨x, rfl, h1⟩ := args1 hv
  obtain ⟨p, cap, rfl⟩ : ∃ p cap, x = .slice p 0 cap := by
    rcases hv0 with rfl | rfl
    · exact ⟨none, 0, (show (0 : Nat) = 0 ∧ x = .slice none 0 0 from h1).2⟩
    · obtain ⟨a, h1⟩ := (show ∃ a : Addr, x = .slice (some a) 0 0 from h1)
      exact ⟨some a, 0, h1⟩
  exact post_same hR (v := .tuple []) ⟨#[], rfl, rfl⟩ hq (Any.slices_Sort_string_none L p cap w)
theorem s_sort (L : Lays.n190 P ρ) {h : AHeap} {b ver : Nat} {vs : List AVal} {l : List (List Nat)} (hl : ∀ s ∈ l, ∀ c ∈ s, c < 256) (hn : l.length ≤ 2147483648) (hb : h.objs.get b = some (ver, .cells false (ρ.t 9) vs)) (hvl : vs.take l.length = l.map AVal.str)
    {G : GM} {argsV : Array Value} {w : World} {Q : AVal × AHeap → Prop} (hR : Rel P N w0 G h w) (hv : VsR P G [.slice (some (b, 0)) l.length] argsV.toList)
    (hq : Q (.tuple [], putObjA h b (.cells false (ρ.t 9) (((l.mergeSort fun x y => !lessL y x).map AVal.str) ++ vs.drop l.length)))) : CallsIn (FR none) 0 P (ρ.f 190) argsV w (PostC P N w0 G h w Q) := by
  obtain ⟨x, rfl, gi, cap, hg, rfl, hcap, hcap2⟩ := args1 hv
  obtain ⟨gi', h1, ob, h2, c, t, fr, rfl, hf, hfit, hel, hlb, hvb⟩ := hR.obj b _ _ hb
  have hg' : G b = some gi := hg
  rw [hg'] at h1; cases h1
  obtain ⟨hsz, hoff, ht, hfr⟩ := hf rfl
  subst ht; subst hfr
  rw [hoff, List.drop_zero] at hvb
  obtain ⟨ss, rfl⟩ := texts_of l hl
  have hll : ss.length ≤ vs.length := by
    have := congrArg List.length hvl
    simp only [List.length_take, List.length_map] at this; omega
  have htake : c.toList.take ss.length = ss.map encStr := by
    apply List.ext_getElem?
    intro j
    by_cases hj : j < ss.length
    · have hvj : vs[j]? = some (.str (numsOf ss[j])) := by
        have := congrArg (fun q => q[j]?) hvl
        simp only [List.getElem?_take, List.length_map, if_pos hj, List.getElem?_map, List.getElem?_eq_getElem hj, Option.map_some] at this
        exact this
      obtain ⟨cv, r1, r2⟩ := hvb.get hvj
      obtain ⟨ba, rfl, r3⟩ := (show ∃ b : ByteArray, cv = .string b ∧ b.data.toList.map UInt8.toNat = numsOf ss[j] from r2)
      rw [List.getElem?_take, if_pos (by omega)] at r1
      rw [List.getElem?_take_of_lt hj, r1, List.getElem?_map, List.getElem?_eq_getElem hj, Option.map_some]
      have : ba.data.toList = ss[j] := numsOf_inj r3
      show some (Value.string ba) = some (Value.string ⟨ss[j].toArray⟩)
      rw [← this]
    · rw [List.getElem?_take_eq_none (by omega), List.getElem?_eq_none (by simp; omega)]
  have hN : N ≤ gi.blk := hR.own b _ _ gi hb hg' rfl
  have hlt : gi.blk < w.heap.size := (Array.getElem?_eq_some_iff.1 h2).1
  simp only [hoff, Nat.add_zero, List.length_map]
  refine callsIn_wide.2 ((Any.slices_Sort_string L gi.blk 0 cap ss w (holds_of_block h2 htake) hlt (by rw [List.length_map] at hn; omega)).mono fun e' w' hp => ?_)
  obtain ⟨rfl, n, os, rfl⟩ := hp
  generalize hts : (ss.mergeSort fun x y => decide (x ≤ y)) = ts
  have htl : ts.length = ss.length := by rw [← hts, List.length_mergeSort]
  have hset : (putRow encStr (Sort.ahead w n) gi.blk 0 ts.toArray).heap[gi.blk]? = some (.cells (putCells encStr 0 ts.toArray c) (ρ.t 9) (0, 0)) := by
    simp [putRow, mapBlock, Sort.ahead, Array.getElem?_modify, h2, onCells]
  have hoth : ∀ k, k ≠ gi.blk → (putRow encStr (Sort.ahead w n) gi.blk 0 ts.toArray).heap[k]? = w.heap[k]? := fun k hk => by
    simp [putRow, mapBlock, Sort.ahead, Array.getElem?_modify, Ne.symm hk]
  have hput := hR.put (w' := putRow encStr (Sort.ahead w n) gi.blk 0 ts.toArray) (o' := .cells false (ρ.t 9) ((((ss.map numsOf).mergeSort fun x y => !lessL y x).map AVal.str) ++ vs.drop (ss.map numsOf).length)) hb rfl rfl hg' hset hoth
    ⟨rfl, rfl, rfl, by simp [putRow, mapBlock, Sort.ahead], fun k hk => hoth k (by omega)⟩
    ⟨_, _, (0, 0), rfl, fun _ => ⟨by simp [putCells, hsz], hoff, rfl, rfl⟩, by simpa [putCells] using hfit, hel, by simp only [List.length_append, List.length_map, List.length_mergeSort, List.length_drop]; omega, by
      rw [hoff, List.drop_zero, ← sort_u, hts]
      have hlen : ((ts.map numsOf).map AVal.str ++ vs.drop (ss.map numsOf).length).length = vs.length := by simp only [List.length_append, List.length_map, List.length_drop]; omega
      rw [hlen]
      have : (putCells encStr 0 ts.toArray c).toList.take vs.length = ts.map encStr ++ (c.toList.take vs.length).drop (ss.map numsOf).length := by
        have hcl : vs.length ≤ c.size := by omega
        apply List.ext_getElem?
        intro j
        simp only [List.getElem?_take, List.getElem?_append, List.length_map, List.getElem?_drop, htl]
        by_cases h1 : j < ss.length
        · rw [if_pos h1, if_pos (by omega)]
          simp [putCells, show j < c.size by omega, show j < ts.length by omega]
        · rw [if_neg h1, show ss.length + (j - ss.length) = j by omega]
          by_cases h2 : j < vs.length
          · rw [if_pos h2, if_pos h2]
            simp [putCells, show j < c.size by omega, show ¬ j < ts.length by omega]
          · rw [if_neg h2, if_neg h2]
      rw [this, List.map_map]
      exact VsR.append (VsR.map_mk (P := P) (G := G) (fun x => AVal.str (numsOf x)) encStr (fun a => ⟨⟨a.toArray⟩, rfl, by simp [numsOf]⟩) ts) (hvb.drop _)⟩
  obtain ⟨h2', h3'⟩ := hput.1.grown (w' := grow (putRow encStr (Sort.ahead w n) gi.blk 0 ts.toArray) os) ⟨rfl, rfl, rfl, by simp [grow], fun i hi => by
    show (_ ++ os)[i]? = _
    rw [Array.getElem?_append_left hi]⟩
  exact ⟨.tuple [], _, G, .tuple #[], rfl, hq, h2', hput.2.trans h3', ⟨#[], rfl, rfl⟩⟩
end
end Go.Ab
end
section
/-
  The functions' text is the program's.
-/
namespace Go.Proofs
open Go Go.Ab Go.Ab.S
theorem of_fn {P : Program} {f : FuncId} {g : AFunc} (h : (P.funcs[f]?).bind (cFn P) = some g) : ∃ fn, P.funcs[f]? = some fn ∧ cFn P fn = some g := Option.bind_eq_some_iff.1 h
theorem tb_81 : (Tryz.prog.funcs[81]?).bind (cFn Tryz.prog) = some F_goes := by kernel_rfl
theorem tb_55 : (Tryz.prog.funcs[55]?).bind (cFn Tryz.prog) = some F_word := by kernel_rfl
theorem tb_56 : (Tryz.prog.funcs[56]?).bind (cFn Tryz.prog) = some F_IsKey := by kernel_rfl
theorem tb_28 : (Tryz.prog.funcs[28]?).bind (cFn Tryz.prog) = some F_IsName := by kernel_rfl
theorem tb_85 : (Tryz.prog.funcs[85]?).bind (cFn Tryz.prog) = some F_grising := by kernel_rfl
theorem tb_57 : (Tryz.prog.funcs[57]?).bind (cFn Tryz.prog) = some F_arity := by kernel_rfl
theorem tb_59 : (Tryz.prog.funcs[59]?).bind (cFn Tryz.prog) = some F_may := by kernel_rfl
theorem tb_84 : (Tryz.prog.funcs[84]?).bind (cFn Tryz.prog) = some F_may1 := by kernel_rfl
theorem tb_29 : (Tryz.prog.funcs[29]?).bind (cFn Tryz.prog) = some F_Check := by kernel_rfl
theorem tb_58 : (Tryz.prog.funcs[58]?).bind (cFn Tryz.prog) = some F_Check1 := by kernel_rfl
theorem tb_83 : (Tryz.prog.funcs[83]?).bind (cFn Tryz.prog) = some F_CFint := by kernel_rfl
theorem tb_125 : (Tryz.prog.funcs[125]?).bind (cFn Tryz.prog) = some F_IFint := by kernel_rfl
theorem tb_60 : (Tryz.prog.funcs[60]?).bind (cFn Tryz.prog) = some F_CFnode := by kernel_rfl
theorem tb_86 : (Tryz.prog.funcs[86]?).bind (cFn Tryz.prog) = some F_IFnode := by kernel_rfl
theorem tb_8 : (Tryz.prog.funcs[8]?).bind (cFn Tryz.prog) = some F_Great := by kernel_rfl
theorem tb_79 : (Tryz.prog.funcs[79]?).bind (cFn Tryz.prog) = some F_Reach := by kernel_rfl
theorem tb_54 : (Tryz.prog.funcs[54]?).bind (cFn Tryz.prog) = some F_Trim := by kernel_rfl
theorem tb_12 : (Tryz.prog.funcs[12]?).bind (cFn Tryz.prog) = some F_Same := by kernel_rfl
theorem tb_32 : (Tryz.prog.funcs[32]?).bind (cFn Tryz.prog) = some F_alike := by kernel_rfl
theorem tb_33 : (Tryz.prog.funcs[33]?).bind (cFn Tryz.prog) = some F_gfree := by kernel_rfl
theorem tb_43 : (Tryz.prog.funcs[43]?).bind (cFn Tryz.prog) = some F_CloneStr := by kernel_rfl
theorem tb_80 : (Tryz.prog.funcs[80]?).bind (cFn Tryz.prog) = some F_CloneInt := by kernel_rfl
theorem tb_123 : (Tryz.prog.funcs[123]?).bind (cFn Tryz.prog) = some F_Backward := by kernel_rfl
theorem tb_154 : (Tryz.prog.funcs[154]?).bind (cFn Tryz.prog) = some F_Backward1 := by kernel_rfl
theorem tb_53 : (Tryz.prog.funcs[53]?).bind (cFn Tryz.prog) = some F_Classes := by kernel_rfl
theorem tb_77 : (Tryz.prog.funcs[77]?).bind (cFn Tryz.prog) = some F_refine := by kernel_rfl
theorem tb_122 : (Tryz.prog.funcs[122]?).bind (cFn Tryz.prog) = some F_refine1 := by kernel_rfl
theorem tb_121 : (Tryz.prog.funcs[121]?).bind (cFn Tryz.prog) = some F_look := by kernel_rfl
theorem tb_120 : (Tryz.prog.funcs[120]?).bind (cFn Tryz.prog) = some F_cfree := by kernel_rfl
theorem tb_27 : (Tryz.prog.funcs[27]?).bind (cFn Tryz.prog) = some F_Least := by kernel_rfl
theorem tb_38 : (Tryz.prog.funcs[38]?).bind (cFn Tryz.prog) = some F_EqualStr := by kernel_rfl
theorem tb_78 : (Tryz.prog.funcs[78]?).bind (cFn Tryz.prog) = some F_EqualInt := by kernel_rfl
theorem tb_152 : (Tryz.prog.funcs[152]?).bind (cFn Tryz.prog) = some F_WriteString := by kernel_rfl
theorem tb_48 : (Tryz.prog.funcs[48]?).bind (cFn Tryz.prog) = some F_Alike := by kernel_rfl
theorem tb_16 : (Tryz.prog.funcs[16]?).bind (cFn Tryz.prog) = some F_Labels := by kernel_rfl
theorem tb_49 : (Tryz.prog.funcs[49]?).bind (cFn Tryz.prog) = some F_Ints := by kernel_rfl
theorem tb_191 : (Tryz.prog.funcs[191]?).bind (cFn Tryz.prog) = some F_BinarySearch := by kernel_rfl
theorem tb_93 : (Tryz.prog.funcs[93]?).bind (cFn Tryz.prog) = some F_cmpLess := by kernel_rfl
theorem tb_207 : (Tryz.prog.funcs[207]?).bind (cFn Tryz.prog) = some F_isNaNs := by kernel_rfl
theorem tb_131 : (Tryz.prog.funcs[131]?).bind (cFn Tryz.prog) = some F_cisNaN := by kernel_rfl
theorem tb_9 : (Tryz.prog.funcs[9]?).bind (cFn Tryz.prog) = some F_EnvNew := by kernel_rfl
theorem tb_10 : (Tryz.prog.funcs[10]?).bind (cFn Tryz.prog) = some F_WithValue := by kernel_rfl
theorem tb_11 : (Tryz.prog.funcs[11]?).bind (cFn Tryz.prog) = some F_EValue := by kernel_rfl
theorem tb_20 : (Tryz.prog.funcs[20]?).bind (cFn Tryz.prog) = some F_EValues := by kernel_rfl
theorem tb_45 : (Tryz.prog.funcs[45]?).bind (cFn Tryz.prog) = some F_EValues1 := by kernel_rfl
theorem tb_26 : (Tryz.prog.funcs[26]?).bind (cFn Tryz.prog) = some F_estart := by kernel_rfl
theorem tb_30 : (Tryz.prog.funcs[30]?).bind (cFn Tryz.prog) = some F_eall := by kernel_rfl
theorem tb_61 : (Tryz.prog.funcs[61]?).bind (cFn Tryz.prog) = some F_eall1 := by kernel_rfl
theorem tb_31 : (Tryz.prog.funcs[31]?).bind (cFn Tryz.prog) = some F_eown := by kernel_rfl
theorem tb_44 : (Tryz.prog.funcs[44]?).bind (cFn Tryz.prog) = some F_enames := by kernel_rfl
theorem tb_35 : (Tryz.prog.funcs[35]?).bind (cFn Tryz.prog) = some F_ebody := by kernel_rfl
theorem tb_34 : (Tryz.prog.funcs[34]?).bind (cFn Tryz.prog) = some F_erising := by kernel_rfl
theorem tb_13 : (Tryz.prog.funcs[13]?).bind (cFn Tryz.prog) = some F_CheckClass := by kernel_rfl
theorem tb_17 : (Tryz.prog.funcs[17]?).bind (cFn Tryz.prog) = some F_EFields := by kernel_rfl
theorem tb_67 : (Tryz.prog.funcs[67]?).bind (cFn Tryz.prog) = some F_Sorted := by kernel_rfl
theorem tb_68 : (Tryz.prog.funcs[68]?).bind (cFn Tryz.prog) = some F_MKeys := by kernel_rfl
theorem tb_101 : (Tryz.prog.funcs[101]?).bind (cFn Tryz.prog) = some F_MKeys1 := by kernel_rfl
theorem tb_100 : (Tryz.prog.funcs[100]?).bind (cFn Tryz.prog) = some F_Collect := by kernel_rfl
theorem tb_135 : (Tryz.prog.funcs[135]?).bind (cFn Tryz.prog) = some F_AppendSeq := by kernel_rfl
theorem tb_36 : (Tryz.prog.funcs[36]?).bind (cFn Tryz.prog) = some F_ConcatStr := by kernel_rfl
theorem tb_7 : (Tryz.prog.funcs[7]?).bind (cFn Tryz.prog) = some F_alive14 := by kernel_rfl
theorem tb_4 : (Tryz.prog.funcs[4]?).bind (cFn Tryz.prog) = some F_EnvClasses := by kernel_rfl
theorem tb_14 : (Tryz.prog.funcs[14]?).bind (cFn Tryz.prog) = some F_ccTo := by kernel_rfl
theorem tb_15 : (Tryz.prog.funcs[15]?).bind (cFn Tryz.prog) = some F_rCheckClass := by kernel_rfl
theorem tb_18 : (Tryz.prog.funcs[18]?).bind (cFn Tryz.prog) = some F_rFields := by kernel_rfl
theorem tb_39 : (Tryz.prog.funcs[39]?).bind (cFn Tryz.prog) = some F_rCheck := by kernel_rfl
theorem tb_65 : (Tryz.prog.funcs[65]?).bind (cFn Tryz.prog) = some F_rmay := by kernel_rfl
theorem tb_66 : (Tryz.prog.funcs[66]?).bind (cFn Tryz.prog) = some F_rIsName := by kernel_rfl
theorem tb_98 : (Tryz.prog.funcs[98]?).bind (cFn Tryz.prog) = some F_rword := by kernel_rfl
theorem tb_99 : (Tryz.prog.funcs[99]?).bind (cFn Tryz.prog) = some F_rIsKey := by kernel_rfl
theorem tb_132 : (Tryz.prog.funcs[132]?).bind (cFn Tryz.prog) = some F_rsmall := by kernel_rfl
theorem tb_133 : (Tryz.prog.funcs[133]?).bind (cFn Tryz.prog) = some F_rletter := by kernel_rfl
theorem tb_134 : (Tryz.prog.funcs[134]?).bind (cFn Tryz.prog) = some F_rdigit := by kernel_rfl
theorem tb_40 : (Tryz.prog.funcs[40]?).bind (cFn Tryz.prog) = some F_r14rising := by kernel_rfl
theorem tb_41 : (Tryz.prog.funcs[41]?).bind (cFn Tryz.prog) = some F_rParts := by kernel_rfl
theorem tb_42 : (Tryz.prog.funcs[42]?).bind (cFn Tryz.prog) = some F_rHas := by kernel_rfl
theorem zAO {f n : Nat} {fn g : AFunc} {r : Option AFunc} (h : (if f = n then some g else r) = some fn) : (f = n ∧ g = fn) ∨ r = some fn := by
  by_cases e : f = n
  · rw [if_pos e] at h; cases h; exact .inl ⟨e, rfl⟩
  · rw [if_neg e] at h; exact .inr h
theorem tab_ok : FnsOK Tryz.prog tab := by
  intro f fn h
  rcases zAO h with ⟨rfl, rfl⟩ | h
  · exact of_fn tb_81
  rcases zAO h with ⟨rfl, rfl⟩ | h
  · exact of_fn tb_55
  rcases zAO h with ⟨rfl, rfl⟩ | h
  · exact of_fn tb_56
  rcases zAO h with ⟨rfl, rfl⟩ | h
  · exact of_fn tb_28
  rcases zAO h with ⟨rfl, rfl⟩ | h
  · exact of_fn tb_85
  rcases zAO h with ⟨rfl, rfl⟩ | h
  · exact of_fn tb_57
  rcases zAO h with ⟨rfl, rfl⟩ | h
  · exact of_fn tb_59
  rcases zAO h with ⟨rfl, rfl⟩ | h
  · exact of_fn tb_84
  rcases zAO h with ⟨rfl, rfl⟩ | h
  · exact of_fn tb_29
  rcases zAO h with ⟨rfl, rfl⟩ | h
  · exact of_fn tb_58
  rcases zAO h with ⟨rfl, rfl⟩ | h
  · exact of_fn tb_83
  rcases zAO h with ⟨rfl, rfl⟩ | h
  · exact of_fn tb_125
  rcases zAO h with ⟨rfl, rfl⟩ | h
  · exact of_fn tb_60
  rcases zAO h with ⟨rfl, rfl⟩ | h
  · exact of_fn tb_86
  rcases zAO h with ⟨rfl, rfl⟩ | h
  · exact of_fn tb_8
  rcases zAO h with ⟨rfl, rfl⟩ | h
  · exact of_fn tb_79
  rcases zAO h with ⟨rfl, rfl⟩ | h
  · exact of_fn tb_54
  rcases zAO h with ⟨rfl, rfl⟩ | h
  · exact of_fn tb_12
  rcases zAO h with ⟨rfl, rfl⟩ | h
  · exact of_fn tb_32
  rcases zAO h with ⟨rfl, rfl⟩ | h
  · exact of_fn tb_33
  rcases zAO h with ⟨rfl, rfl⟩ | h
  · exact of_fn tb_43
  rcases zAO h with ⟨rfl, rfl⟩ | h
  · exact of_fn tb_80
  rcases zAO h with ⟨rfl, rfl⟩ | h
  · exact of_fn tb_123
  rcases zAO h with ⟨rfl, rfl⟩ | h
  · exact of_fn tb_154
  rcases zAO h with ⟨rfl, rfl⟩ | h
  · exact of_fn tb_53
  rcases zAO h with ⟨rfl, rfl⟩ | h
  · exact of_fn tb_77
  rcases zAO h with ⟨rfl, rfl⟩ | h
  · exact of_fn tb_122
  rcases zAO h with ⟨rfl, rfl⟩ | h
  · exact of_fn tb_121
  rcases zAO h with ⟨rfl, rfl⟩ | h
  · exact of_fn tb_120
  rcases zAO h with ⟨rfl, rfl⟩ | h
  · exact of_fn tb_27
  rcases zAO h with ⟨rfl, rfl⟩ | h
  · exact of_fn tb_38
  rcases zAO h with ⟨rfl, rfl⟩ | h
  · exact of_fn tb_78
  rcases zAO h with ⟨rfl, rfl⟩ | h
  · exact of_fn tb_152
  rcases zAO h with ⟨rfl, rfl⟩ | h
  · exact of_fn tb_48
  rcases zAO h with ⟨rfl, rfl⟩ | h
  · exact of_fn tb_16
  rcases zAO h with ⟨rfl, rfl⟩ | h
  · exact of_fn tb_49
  rcases zAO h with ⟨rfl, rfl⟩ | h
  · exact of_fn tb_191
  rcases zAO h with ⟨rfl, rfl⟩ | h
  · exact of_fn tb_93
  rcases zAO h with ⟨rfl, rfl⟩ | h
  · exact of_fn tb_207
  rcases zAO h with ⟨rfl, rfl⟩ | h
  · exact of_fn tb_131
  rcases zAO h with ⟨rfl, rfl⟩ | h
  · exact of_fn tb_9
  rcases zAO h with ⟨rfl, rfl⟩ | h
  · exact of_fn tb_10
  rcases zAO h with ⟨rfl, rfl⟩ | h
  · exact of_fn tb_11
  rcases zAO h with ⟨rfl, rfl⟩ | h
  · exact of_fn tb_20
  rcases zAO h with ⟨rfl, rfl⟩ | h
  · exact of_fn tb_45
  rcases zAO h with ⟨rfl, rfl⟩ | h
  · exact of_fn tb_26
  rcases zAO h with ⟨rfl, rfl⟩ | h
  · exact of_fn tb_30
  rcases zAO h with ⟨rfl, rfl⟩ | h
  · exact of_fn tb_61
  rcases zAO h with ⟨rfl, rfl⟩ | h
  · exact of_fn tb_31
  rcases zAO h with ⟨rfl, rfl⟩ | h
  · exact of_fn tb_44
  rcases zAO h with ⟨rfl, rfl⟩ | h
  · exact of_fn tb_35
  rcases zAO h with ⟨rfl, rfl⟩ | h
  · exact of_fn tb_34
  rcases zAO h with ⟨rfl, rfl⟩ | h
  · exact of_fn tb_13
  rcases zAO h with ⟨rfl, rfl⟩ | h
  · exact of_fn tb_17
  rcases zAO h with ⟨rfl, rfl⟩ | h
  · exact of_fn tb_67
  rcases zAO h with ⟨rfl, rfl⟩ | h
  · exact of_fn tb_68
  rcases zAO h with ⟨rfl, rfl⟩ | h
  · exact of_fn tb_101
  rcases zAO h with ⟨rfl, rfl⟩ | h
  · exact of_fn tb_100
  rcases zAO h with ⟨rfl, rfl⟩ | h
  · exact of_fn tb_135
  rcases zAO h with ⟨rfl, rfl⟩ | h
  · exact of_fn tb_36
  rcases zAO h with ⟨rfl, rfl⟩ | h
  · exact of_fn tb_7
  rcases zAO h with ⟨rfl, rfl⟩ | h
  · exact of_fn tb_4
  rcases zAO h with ⟨rfl, rfl⟩ | h
  · exact of_fn tb_14
  rcases zAO h with ⟨rfl, rfl⟩ | h
  · exact of_fn tb_15
  rcases zAO h with ⟨rfl, rfl⟩ | h
  · exact of_fn tb_18
  rcases zAO h with ⟨rfl, rfl⟩ | h
  · exact of_fn tb_39
  rcases zAO h with ⟨rfl, rfl⟩ | h
  · exact of_fn tb_65
  rcases zAO h with ⟨rfl, rfl⟩ | h
  · exact of_fn tb_66
  rcases zAO h with ⟨rfl, rfl⟩ | h
  · exact of_fn tb_98
  rcases zAO h with ⟨rfl, rfl⟩ | h
  · exact of_fn tb_99
  rcases zAO h with ⟨rfl, rfl⟩ | h
  · exact of_fn tb_132
  rcases zAO h with ⟨rfl, rfl⟩ | h
  · exact of_fn tb_133
  rcases zAO h with ⟨rfl, rfl⟩ | h
  · exact of_fn tb_134
  rcases zAO h with ⟨rfl, rfl⟩ | h
  · exact of_fn tb_40
  rcases zAO h with ⟨rfl, rfl⟩ | h
  · exact of_fn tb_41
  rcases zAO h with ⟨rfl, rfl⟩ | h
  · exact of_fn tb_42
  cases h
end Go.Proofs
end
section
/-
  Functions of Go's library, as they lie in this seat's translation. Began as what the kit's lay-plain.mjs wrote.
-/
namespace Go.Proofs
open Go.Shelf
def Tryz.lays190_ren : Go.Shelf.Ren := ⟨fun | 190 => 37 | 125 => 64 | 258 => 63 | 128 => 96 | 129 => 97 | 302 => 87 | 303 => 88 | 304 => 89 | 305 => 90 | 306 => 91 | 307 => 92 | 308 => 93 | 309 => 94 | 310 => 95 | 333 => 126 | 329 => 127 | 330 => 128 | 334 => 129 | 335 => 130 | 336 => 131 | 344 => 156 | n => n, fun | 31 => 38 | 9 => 9 | 3 => 3 | 46 => 115 | 0 => 0 | 51 => 170 | 53 => 172 | 4 => 4 | 183 => 164 | 182 => 163 | 131 => 80 | 5 => 5 | 218 => 212 | 222 => 216 | 228 => 256 | 229 => 257 | n => n, fun | n => n⟩
theorem Tryz.lays190 : Go.Proofs.Lays.n190 Tryz.prog Tryz.lays190_ren := {
  mixed := by kernel_rfl
  f125 := Tryz.func64.trans (congrArg some (by kernel_rfl))
  f128 := Tryz.func96.trans (congrArg some (by kernel_rfl))
  f129 := Tryz.func97.trans (congrArg some (by kernel_rfl))
  f190 := Tryz.func37.trans (congrArg some (by kernel_rfl))
  f258 := Tryz.func63.trans (congrArg some (by kernel_rfl))
  f302 := Tryz.func87.trans (congrArg some (by kernel_rfl))
  f303 := Tryz.func88.trans (congrArg some (by kernel_rfl))
  f304 := Tryz.func89.trans (congrArg some (by kernel_rfl))
  f305 := Tryz.func90.trans (congrArg some (by kernel_rfl))
  f306 := Tryz.func91.trans (congrArg some (by kernel_rfl))
  f307 := Tryz.func92.trans (congrArg some (by kernel_rfl))
  f308 := Tryz.func93.trans (congrArg some (by kernel_rfl))
  f309 := Tryz.func94.trans (congrArg some (by kernel_rfl))
  f310 := Tryz.func95.trans (congrArg some (by kernel_rfl))
  f329 := Tryz.func127.trans (congrArg some (by kernel_rfl))
  f330 := Tryz.func128.trans (congrArg some (by kernel_rfl))
  f333 := Tryz.func126.trans (congrArg some (by kernel_rfl))
  f334 := Tryz.func129.trans (congrArg some (by kernel_rfl))
  f335 := Tryz.func130.trans (congrArg some (by kernel_rfl))
  f336 := Tryz.func131.trans (congrArg some (by kernel_rfl))
  f344 := Tryz.func156.trans (congrArg some (by kernel_rfl))
  t0 := Tryz.underlying0
  a0 := Tryz.isAgg0
  z0 := Tryz.sizeOf0
  v0 := Tryz.zeroValue0
  t3 := Tryz.underlying3
  a3 := Tryz.isAgg3
  z3 := Tryz.sizeOf3
  v3 := Tryz.zeroValue3
  t4 := Tryz.underlying4
  a4 := Tryz.isAgg4
  z4 := Tryz.sizeOf4
  v4 := Tryz.zeroValue4
  t5 := Tryz.underlying5
  a5 := Tryz.isAgg5
  z5 := Tryz.sizeOf5
  v5 := Tryz.zeroValue5
  t9 := Tryz.underlying9
  a9 := Tryz.isAgg9
  z9 := Tryz.sizeOf9
  v9 := Tryz.zeroValue9
  t31 := Tryz.underlying38
  a31 := Tryz.isAgg38
  z31 := Tryz.sizeOf38
  v31 := Tryz.zeroValue38
  t46 := Tryz.underlying115
  a46 := Tryz.isAgg115
  z46 := Tryz.sizeOf115
  v46 := Tryz.zeroValue115
  t51 := Tryz.underlying170
  a51 := Tryz.isAgg170
  z51 := Tryz.sizeOf170
  v51 := Tryz.zeroValue170
  t53 := Tryz.underlying172
  a53 := Tryz.isAgg172
  z53 := Tryz.sizeOf172
  v53 := Tryz.zeroValue172
  t131 := Tryz.underlying80
  a131 := Tryz.isAgg80
  z131 := Tryz.sizeOf80
  v131 := Tryz.zeroValue80
  t182 := Tryz.underlying163
  a182 := Tryz.isAgg163
  z182 := Tryz.sizeOf163
  v182 := Tryz.zeroValue163
  t183 := Tryz.underlying164
  a183 := Tryz.isAgg164
  z183 := Tryz.sizeOf164
  v183 := Tryz.zeroValue164
  t218 := Tryz.underlying212
  a218 := Tryz.isAgg212
  z218 := Tryz.sizeOf212
  v218 := Tryz.zeroValue212
  t222 := Tryz.underlying216
  a222 := Tryz.isAgg216
  z222 := Tryz.sizeOf216
  v222 := Tryz.zeroValue216
  t228 := Tryz.underlying256
  a228 := Tryz.isAgg256
  z228 := Tryz.sizeOf256
  v228 := Tryz.zeroValue256
  t229 := Tryz.underlying257
  a229 := Tryz.isAgg257
  z229 := Tryz.sizeOf257
  v229 := Tryz.zeroValue257 }
def Tryz.lays144_ren : Go.Shelf.Ren := ⟨fun | 144 => 82 | 143 => 124 | 219 => 155 | 217 => 177 | 225 => 178 | 224 => 179 | 267 => 180 | 266 => 199 | 314 => 200 | n => n, fun | 9 => 9 | 4 => 4 | 3 => 3 | 5 => 5 | 46 => 115 | 146 => 302 | 51 => 170 | n => n, fun | 1 => 2 | n => n⟩
theorem Tryz.lays144 : Go.Proofs.Lays.n144 Tryz.prog Tryz.lays144_ren := {
  mixed := by kernel_rfl
  f143 := Tryz.func124.trans (congrArg some (by kernel_rfl))
  f144 := Tryz.func82.trans (congrArg some (by kernel_rfl))
  f217 := Tryz.func177.trans (congrArg some (by kernel_rfl))
  f219 := Tryz.func155.trans (congrArg some (by kernel_rfl))
  f224 := Tryz.func179.trans (congrArg some (by kernel_rfl))
  f225 := Tryz.func178.trans (congrArg some (by kernel_rfl))
  f266 := Tryz.func199.trans (congrArg some (by kernel_rfl))
  f267 := Tryz.func180.trans (congrArg some (by kernel_rfl))
  f314 := Tryz.func200.trans (congrArg some (by kernel_rfl))
  t3 := Tryz.underlying3
  a3 := Tryz.isAgg3
  z3 := Tryz.sizeOf3
  v3 := Tryz.zeroValue3
  t4 := Tryz.underlying4
  a4 := Tryz.isAgg4
  z4 := Tryz.sizeOf4
  v4 := Tryz.zeroValue4
  t5 := Tryz.underlying5
  a5 := Tryz.isAgg5
  z5 := Tryz.sizeOf5
  v5 := Tryz.zeroValue5
  t9 := Tryz.underlying9
  a9 := Tryz.isAgg9
  z9 := Tryz.sizeOf9
  v9 := Tryz.zeroValue9
  t46 := Tryz.underlying115
  a46 := Tryz.isAgg115
  z46 := Tryz.sizeOf115
  v46 := Tryz.zeroValue115
  t51 := Tryz.underlying170
  a51 := Tryz.isAgg170
  z51 := Tryz.sizeOf170
  v51 := Tryz.zeroValue170
  t146 := Tryz.underlying302
  a146 := Tryz.isAgg302
  z146 := Tryz.sizeOf302
  v146 := Tryz.zeroValue302
  g1 := by kernel_rfl }
def Tryz.laysM171_ren : Go.Shelf.Ren := ⟨fun | 171 => 119 | 243 => 151 | 246 => 175 | 283 => 194 | 284 => 195 | 285 => 196 | 286 => 197 | 129 => 97 | 317 => 212 | 318 => 213 | 319 => 214 | 320 => 215 | 337 => 220 | 338 => 221 | n => n, fun | 3 => 3 | 9 => 9 | 2 => 2 | 4 => 4 | 171 => 297 | 0 => 0 | 53 => 172 | 37 => 250 | 5 => 5 | 173 => 299 | 212 => 327 | 51 => 170 | 20 => 20 | 213 => 328 | 46 => 115 | 232 => 332 | 233 => 333 | n => n, fun | 17 => 8 | 18 => 9 | 19 => 10 | n => n⟩
theorem Tryz.laysM171 : Go.Proofs.LaysM.n171 Tryz.prog Tryz.laysM171_ren := {
  mixed := by kernel_rfl
  f129 := Tryz.func97.trans (congrArg some (by kernel_rfl))
  f171 := Tryz.func119.trans (congrArg some (by kernel_rfl))
  f243 := Tryz.func151.trans (congrArg some (by kernel_rfl))
  f246 := Tryz.func175.trans (congrArg some (by kernel_rfl))
  f283 := Tryz.func194.trans (congrArg some (by kernel_rfl))
  f284 := Tryz.func195.trans (congrArg some (by kernel_rfl))
  f285 := Tryz.func196.trans (congrArg some (by kernel_rfl))
  f286 := Tryz.func197.trans (congrArg some (by kernel_rfl))
  f317 := Tryz.func212.trans (congrArg some (by kernel_rfl))
  f318 := Tryz.func213.trans (congrArg some (by kernel_rfl))
  f319 := Tryz.func214.trans (congrArg some (by kernel_rfl))
  f320 := Tryz.func215.trans (congrArg some (by kernel_rfl))
  f337 := Tryz.func220.trans (congrArg some (by kernel_rfl))
  f338 := Tryz.func221.trans (congrArg some (by kernel_rfl))
  t0 := Tryz.underlying0
  a0 := Tryz.isAgg0
  z0 := Tryz.sizeOf0
  v0 := Tryz.zeroValue0
  t2 := Tryz.underlying2
  a2 := Tryz.isAgg2
  z2 := Tryz.sizeOf2
  v2 := Tryz.zeroValue2
  t3 := Tryz.underlying3
  a3 := Tryz.isAgg3
  z3 := Tryz.sizeOf3
  v3 := Tryz.zeroValue3
  t4 := Tryz.underlying4
  a4 := Tryz.isAgg4
  z4 := Tryz.sizeOf4
  v4 := Tryz.zeroValue4
  t5 := Tryz.underlying5
  a5 := Tryz.isAgg5
  z5 := Tryz.sizeOf5
  v5 := Tryz.zeroValue5
  t9 := Tryz.underlying9
  a9 := Tryz.isAgg9
  z9 := Tryz.sizeOf9
  v9 := Tryz.zeroValue9
  t20 := Tryz.underlying20
  a20 := Tryz.isAgg20
  z20 := Tryz.sizeOf20
  v20 := Tryz.zeroValue20
  t37 := Tryz.underlying250
  a37 := Tryz.isAgg250
  z37 := Tryz.sizeOf250
  v37 := Tryz.zeroValue250
  t46 := Tryz.underlying115
  a46 := Tryz.isAgg115
  z46 := Tryz.sizeOf115
  v46 := Tryz.zeroValue115
  t51 := Tryz.underlying170
  a51 := Tryz.isAgg170
  z51 := Tryz.sizeOf170
  v51 := Tryz.zeroValue170
  t53 := Tryz.underlying172
  a53 := Tryz.isAgg172
  z53 := Tryz.sizeOf172
  v53 := Tryz.zeroValue172
  t171 := Tryz.underlying297
  a171 := Tryz.isAgg297
  z171 := Tryz.sizeOf297
  v171 := Tryz.zeroValue297
  t173 := Tryz.underlying299
  a173 := Tryz.isAgg299
  z173 := Tryz.sizeOf299
  v173 := Tryz.zeroValue299
  t212 := Tryz.underlying327
  a212 := Tryz.isAgg327
  z212 := Tryz.sizeOf327
  v212 := Tryz.zeroValue327
  t213 := Tryz.underlying328
  a213 := Tryz.isAgg328
  z213 := Tryz.sizeOf328
  t232 := Tryz.underlying332
  a232 := Tryz.isAgg332
  z232 := Tryz.sizeOf332
  v232 := Tryz.zeroValue332
  t233 := Tryz.underlying333
  a233 := Tryz.isAgg333
  z233 := Tryz.sizeOf333
  v233 := Tryz.zeroValue333
  g17 := by kernel_rfl
  g18 := by kernel_rfl
  g19 := by kernel_rfl
  i0 := by kernel_rfl
  i2 := by kernel_rfl
  i3 := by kernel_rfl
  i4 := by kernel_rfl
  i5 := by kernel_rfl
  i9 := by kernel_rfl
  i20 := by kernel_rfl
  i37 := by kernel_rfl
  i46 := by kernel_rfl
  i51 := by kernel_rfl
  i53 := by kernel_rfl
  i171 := by kernel_rfl
  i173 := by kernel_rfl
  i212 := by kernel_rfl
  i232 := by kernel_rfl
  i233 := by kernel_rfl
  m17 := by kernel_rfl
  m18 := by kernel_rfl
  m19 := by kernel_rfl }
def Tryz.lays169_ren : Go.Shelf.Ren := ⟨fun | 169 => 153 | n => n, fun | 70 => 249 | 9 => 9 | 0 => 0 | 72 => 252 | 37 => 250 | 127 => 282 | 3 => 3 | 5 => 5 | n => n, fun | n => n⟩
theorem Tryz.lays169 : Go.Proofs.Lays.n169 Tryz.prog Tryz.lays169_ren := {
  mixed := by kernel_rfl
  f169 := Tryz.func153.trans (congrArg some (by kernel_rfl))
  t0 := Tryz.underlying0
  a0 := Tryz.isAgg0
  z0 := Tryz.sizeOf0
  v0 := Tryz.zeroValue0
  t3 := Tryz.underlying3
  a3 := Tryz.isAgg3
  z3 := Tryz.sizeOf3
  v3 := Tryz.zeroValue3
  t9 := Tryz.underlying9
  a9 := Tryz.isAgg9
  z9 := Tryz.sizeOf9
  v9 := Tryz.zeroValue9
  t37 := Tryz.underlying250
  a37 := Tryz.isAgg250
  z37 := Tryz.sizeOf250
  v37 := Tryz.zeroValue250
  t70 := Tryz.underlying249
  a70 := Tryz.isAgg249
  z70 := Tryz.sizeOf249
  v70 := Tryz.zeroValue249
  t72 := Tryz.underlying252
  a72 := Tryz.isAgg252
  z72 := Tryz.sizeOf252
  v72 := Tryz.zeroValue252
  t127 := Tryz.underlying282
  a127 := Tryz.isAgg282
  z127 := Tryz.sizeOf282
  v127 := Tryz.zeroValue282 }
def Tryz.lays240_ren : Go.Shelf.Ren := ⟨fun | 240 => 176 | 276 => 198 | n => n, fun | 0 => 0 | 4 => 4 | 9 => 9 | 20 => 20 | 37 => 250 | 70 => 249 | 72 => 252 | 164 => 180 | n => n, fun | n => n⟩
theorem Tryz.lays240 : Go.Proofs.Lays.n240 Tryz.prog Tryz.lays240_ren := {
  mixed := by kernel_rfl
  f240 := Tryz.func176.trans (congrArg some (by kernel_rfl))
  f276 := Tryz.func198.trans (congrArg some (by kernel_rfl))
  t0 := Tryz.underlying0
  a0 := Tryz.isAgg0
  z0 := Tryz.sizeOf0
  v0 := Tryz.zeroValue0
  t4 := Tryz.underlying4
  a4 := Tryz.isAgg4
  z4 := Tryz.sizeOf4
  v4 := Tryz.zeroValue4
  t9 := Tryz.underlying9
  a9 := Tryz.isAgg9
  z9 := Tryz.sizeOf9
  v9 := Tryz.zeroValue9
  t20 := Tryz.underlying20
  a20 := Tryz.isAgg20
  z20 := Tryz.sizeOf20
  v20 := Tryz.zeroValue20
  t70 := Tryz.underlying249
  a70 := Tryz.isAgg249
  z70 := Tryz.sizeOf249
  v70 := Tryz.zeroValue249
  t72 := Tryz.underlying252
  a72 := Tryz.isAgg252
  z72 := Tryz.sizeOf252
  v72 := Tryz.zeroValue252
  t164 := Tryz.underlying180
  a164 := Tryz.isAgg180
  z164 := Tryz.sizeOf180
  v164 := Tryz.zeroValue180 }
theorem Tryz.Builder_X72_240 : Builder.X72 Tryz.prog Tryz.lays240_ren where
  sizeBuilder := by kernel_rfl
  liesBuilder := by kernel_rfl
theorem Tryz.Builder_Extra_169 : Builder.Extra Tryz.prog Tryz.lays169_ren := {
  sizeBuilder := by kernel_rfl
  liesBuilder := by kernel_rfl
  t5 := Tryz.underlying5
  a5 := Tryz.isAgg5
  z5 := Tryz.sizeOf5
  v5 := Tryz.zeroValue5
  infoByte := by kernel_rfl
  cellsByte := by kernel_rfl
  sizeByte := by kernel_rfl
  neB5 := by decide }
end Go.Proofs
end
section
/-
  Room for a row, as it lies in this seat's translation.
-/
namespace Go.Proofs
open Go.Shelf
def Tryz.growS_ren : Go.Shelf.Ren := ⟨fun | 4 => 62 | n => n, fun | 22 => 38 | 25 => 9 | n => n, fun | n => n⟩
theorem Tryz.growS : Go.Proofs.Lays8.n4 Tryz.prog Tryz.growS_ren := {
  mixed := by kernel_rfl
  f4 := ⟨ "slices.Grow[[]string,string]", of_decide_eq_true (by kernel_rfl), Tryz.func62.trans (congrArg some (by kernel_rfl))⟩
  t0 := Tryz.underlying0
  a0 := Tryz.isAgg0
  z0 := Tryz.sizeOf0
  v0 := Tryz.zeroValue0
  t3 := Tryz.underlying3
  a3 := Tryz.isAgg3
  z3 := Tryz.sizeOf3
  v3 := Tryz.zeroValue3
  t4 := Tryz.underlying4
  a4 := Tryz.isAgg4
  z4 := Tryz.sizeOf4
  v4 := Tryz.zeroValue4
  t9 := Tryz.underlying9
  a9 := Tryz.isAgg9
  z9 := Tryz.sizeOf9
  v9 := Tryz.zeroValue9
  t20 := Tryz.underlying20
  a20 := Tryz.isAgg20
  z20 := Tryz.sizeOf20
  v20 := Tryz.zeroValue20
  t22 := Tryz.underlying38
  a22 := Tryz.isAgg38
  z22 := Tryz.sizeOf38
  v22 := Tryz.zeroValue38 }
theorem Tryz.strInfo : ∃ i, Tryz.prog.info? 9 = some i ∧ i.zero = some (Value.string ⟨#[]⟩) ∧ i.size = 1 ∧ i.bytes = 16 := by
  have h : (Tryz.prog.info? 9).map (fun i => (i.zero, i.size, i.bytes)) = some (some (Value.string ⟨#[]⟩), 1, 16) := by kernel_rfl
  obtain ⟨i, h1, h2⟩ := Option.map_eq_some_iff.1 h
  simp only [Prod.mk.injEq] at h2
  exact ⟨i, h1, h2.1, h2.2.1, h2.2.2⟩
end Go.Proofs
end
