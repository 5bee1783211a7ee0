import Derived.Test.YtapnoohglfhgeaaGreatDoorP17
import Derived.Test.YtapnoohglfhgeaaGreatDoorP21
import Derived.Test.YtapnoohglfhgeaaGreatDoorP25
import Derived.Test.YtapnoohglfhgeaaGreatDoorP26
import Derived.Test.YtapnoohglfhgeaaGreatDoorP27
import Derived.Lib.LaidU8
import Derived.Lay
import Derived.Deep.DeepWitnessRowRef
import Derived.ProofKit
/-
  Part 28 of the proof.
-/
set_option linter.all false
section
/-
  What a row's facts give the walk; the world that the row's condition is met in.
-/
namespace Go.Proofs
open Go Go.Ab Go.Ab.S
open Go.RowKit (Below)
def asciiZ : List Int := (List.range 256).map fun i => if i == 32 || (9 ≤ i && i ≤ 13) then 1 else 0
theorem ascii_eq : (YtapnoohglfhgeaaGreatDoor.Rows.laid_strings_asciiSpace : DataW Unit) = Lib.tabData .u8 asciiZ := by kernel_rfl
theorem pow_eq : (YtapnoohglfhgeaaGreatDoor.Rows.laid_internal_strconv_uint64pow10 : DataW Unit) = Lib.tabData .u64 Lib.pow10Tab := by kernel_rfl
theorem g1 : Tryz.prog.globalNamed "strings.asciiSpace" = some 1 := by kernel_rfl
theorem g8 : Tryz.prog.globalNamed "internal/strconv.uint64pow10" = some 8 := by kernel_rfl
theorem g1t : (Tryz.prog.globals[1]?).map (·.type) = some 272 := by kernel_rfl
theorem g8t : (Tryz.prog.globals[8]?).map (·.type) = some 327 := by kernel_rfl
theorem tab_var {P : Program} {W : World} {name : String} {k : IntKind} {zs : List Int} {g : Nat} {t e : TypeId} {n : Nat}
    (hg : P.globalNamed name = some g) (hty : (P.globals[g]?).map (·.type) = some t) (ht : P.underlying t = some (.array n e)) (he : P.underlying e = some (.int k)) (hce : P.cellsOf e = 1) (hct : P.cellsOf t = n)
    (h : Lib.VarReads P W name (Lib.tabData k zs)) : Lib.TabIs P W name k zs := by
  obtain ⟨g', t', cs, fuel, p, hg', ht', hvar, hd⟩ := h
  obtain rfl := Option.some.inj (hg.symm.trans hg')
  obtain rfl := Option.some.inj (hty.symm.trans ht')
  unfold Lib.TabIs
  rw [hvar, ← Lib.cells_of_tab ht he hce hct hd]
theorem TabIs.below {P : Program} {W w : World} {N : Nat} {name : String} {k : IntKind} {zs : List Int} {g : Nat} (hg : P.globalNamed name = some g) (hN : g < N) (h : Lib.TabIs P W name k zs) (b : Below N W w) : Lib.TabIs P w name k zs := by
  unfold Lib.TabIs World.var? at h ⊢
  rw [hg] at h ⊢
  simp only [Option.bind_some] at h ⊢
  rw [b.block g hN]; exact h
theorem TabIs.block {P : Program} {W : World} {name : String} {k : IntKind} {zs : List Int} {g : Nat} (hg : P.globalNamed name = some g) (h : Lib.TabIs P W name k zs) : ∃ e fr, W.heap[g]? = some (.cells (zs.map fun z => Value.int k z).toArray e fr) := by
  unfold Lib.TabIs World.var? at h
  rw [hg] at h
  simp only [Option.bind_some] at h
  split at h
  · rename_i cs e fr hh
    simp only [Option.some.injEq] at h
    exact ⟨e, fr, by rw [hh, h]⟩
  · cases h
theorem VsR_ints {P : Program} {G : GM} {k : IntKind} : ∀ zs : List Int, VsR P G (zs.map fun z => AVal.int k z) (zs.map fun z => Value.int k z)
  | [] => rfl
  | z :: zs => ⟨_, _, rfl, rfl, VsR_ints zs⟩
theorem tab_asc : tabA = asciiZ.map fun z => AVal.int .u8 z := by
  unfold tabA asciiZ
  rw [List.map_map]
  refine List.map_congr_left fun i _ => ?_
  show AVal.int .u8 (if _ then 1 else 0) = AVal.int .u8 (if _ then 1 else 0)
  rfl
theorem wok {W : World} (hL : laidMetH Tryz.prog laids W) (hS : W.ShapedOpen Tryz.prog) (hN : Tryz.prog.globals.size ≤ W.heap.size) : WOK W := by
  have hp := (laidMetH_iff.1 hL).1
  have a1 : Lib.TabIs Tryz.prog W "strings.asciiSpace" .u8 asciiZ := by
    refine tab_var (e := 5) (n := 256) g1 g1t (by kernel_rfl) (by kernel_rfl) (by kernel_rfl) (by kernel_rfl) ?_
    rw [← ascii_eq]
    exact Lib.laidMet.reads hp (List.mem_filter.2 ⟨List.mem_of_getElem? (i := 8) rfl, by kernel_rfl⟩)
  have a8 : Lib.TabIs Tryz.prog W "internal/strconv.uint64pow10" .u64 Lib.pow10Tab := by
    refine tab_var (e := 172) (n := 20) g8 g8t (by kernel_rfl) (by kernel_rfl) (by kernel_rfl) (by kernel_rfl) ?_
    rw [← pow_eq]
    exact Lib.laidMet.reads hp (List.mem_filter.2 ⟨List.mem_of_getElem? (i := 2) rfl, by kernel_rfl⟩)
  refine ⟨cell_of_shapedOpen_int (zero := #[.int .i64 0]) (t := 3) hS (of_decide_eq_true (by kernel_rfl)) (by kernel_rfl) rfl (by kernel_rfl) (by kernel_rfl) Tryz.underlying3, ?_, ?_, hN⟩
  · obtain ⟨e, fr, hb⟩ := TabIs.block g1 a1
    refine ⟨by rw [globs12]; decide, by rw [globs12]; decide, hN, by decide, _, e, fr, hb, ?_, ?_⟩
    · rw [tab_asc]; simp
    rw [tab_asc, List.length_map]
    show VsR _ _ _ (List.take _ (asciiZ.map _))
    rw [List.take_of_length_le (by simp)]
    exact VsR_ints _
  · exact fun w hb => TabIs.below g8 (by have := globs12; omega) a8 hb
end Go.Proofs
end
section
/-
  A call begins: what is handed is laid out; and ends: what was handed reads as it did.
-/
namespace Go.Proofs
open Go Go.Ab Go.Ab.S
open Go.RowKit (Below)
open Go.ChangeShapes Go.WideShapes Go.ChangeAt
theorem bigT_le (s : List Nat) : bigT s ≤ 1000 := by unfold bigT; split <;> omega
theorem sum_big : ∀ l : List (List Nat), l.length ≤ (l.map fun s => s.length + 1).sum ∧ sumL bigT l ≤ 1000 * (l.map fun s => s.length + 1).sum ∧ ∀ s ∈ l, s.length ≤ (l.map fun s => s.length + 1).sum
  | [] => ⟨by simp, by simp [sumL], fun s hs => by cases hs⟩
  | s :: l => by
    obtain ⟨h1, h2, h3⟩ := sum_big l
    have := bigT_le s
    refine ⟨by simp only [List.map_cons, List.sum_cons, List.length_cons]; omega, by simp only [List.map_cons, List.sum_cons, sumL]; omega, fun t ht => ?_⟩
    simp only [List.map_cons, List.sum_cons]
    rcases List.mem_cons.1 ht with rfl | ht
    · omega
    · have := h3 t ht; omega
theorem greatN_le (n : Ab.Node) : greatN n ≤ 3000 * nodeSize n := by
  have := sum_big n.labels
  have := bigT_le n.name
  simp only [greatN, nodeSize]; omega
theorem great_le : ∀ ns : List Ab.Node, ns.length ≤ (ns.map nodeSize).sum ∧ sumL greatN ns ≤ 3000 * (ns.map nodeSize).sum ∧ ∀ n ∈ ns, nodeSize n ≤ (ns.map nodeSize).sum
  | [] => ⟨by simp, by simp [sumL], fun s hs => by cases hs⟩
  | n :: l => by
    obtain ⟨h1, h2, h3⟩ := great_le l
    have h4 := greatN_le n
    have h5 : 1 ≤ nodeSize n := by simp only [nodeSize]; omega
    refine ⟨by simp only [List.map_cons, List.sum_cons, List.length_cons]; omega, by simp only [List.map_cons, List.sum_cons, sumL]; omega, fun t ht => ?_⟩
    simp only [List.map_cons, List.sum_cons]
    rcases List.mem_cons.1 ht with rfl | ht
    · omega
    · have := h3 t ht; omega
theorem sane_of {g : Graph} (h : gsize g ≤ 1048576) : Sane g := by
  have e60 : (2 : Nat) ^ 60 = 1152921504606846976 := by decide
  have h' : (g.nodes.map nodeSize).sum ≤ 1048576 := h
  obtain ⟨h1, h2, h3⟩ := great_le g.nodes
  refine ⟨by simp only [greatF]; omega, ⟨by omega, fun n hn => ?_⟩⟩
  have k := h3 n hn
  obtain ⟨j1, j2, j3⟩ := sum_big n.labels
  simp only [nodeSize] at k
  exact ⟨by omega, by omega, fun s hs => by have := j3 s hs; omega⟩
theorem gtypes : GTypes Tryz.prog 24 22 60 3 9 4 58 38 where
  int := Tryz.underlying3
  str := Tryz.underlying9
  bool := Tryz.underlying4
  ints := Tryz.underlying58
  strs := Tryz.underlying38
  nodes := Tryz.underlying22
  node := ⟨_, _, _, _, _, Tryz.underlying60, ⟨rfl, rfl⟩, ⟨rfl, rfl⟩, ⟨rfl, rfl⟩, ⟨rfl, rfl⟩, rfl, rfl⟩
  graph := ⟨_, _, Tryz.underlying24, ⟨rfl, rfl⟩, rfl, rfl⟩
  cI := by kernel_rfl
  cS := by kernel_rfl
  cB := by kernel_rfl
  cIs := by kernel_rfl
  cSs := by kernel_rfl
  cNs := by kernel_rfl
  cN := by kernel_rfl
  cG := by kernel_rfl
open YtapnoohglfhgeaaGreatDoor.Rows in
theorem bulkAll_sum {H : Type} : ∀ l : List (DataW H), uptoBulkAll l = (l.map uptoBulk).sum
  | [] => rfl
  | d :: l => by rw [uptoBulkAll, bulkAll_sum l]; rfl
open YtapnoohglfhgeaaGreatDoor.Rows in
theorem meas (H : Type) : Meas (uptoBulk (H := H)) where
  agg := fun l => by rw [uptoBulk, bulkAll_sum]; exact Nat.le_refl _
  slice := fun l r => by rw [uptoBulk, bulkAll_sum]; omega
  str := fun s => by rw [uptoBulk]; exact Nat.le_refl _
  lit := fun x => by unfold uptoBulk; split <;> omega
def hZero : AHeap := { objs := .leaf, next := 12 }
def gZero : GM := fun g => if g < 12 then some ⟨g, 0, 0, 0⟩ else none
theorem wf_zero : WF hZero := fun b _ => T.get_leaf b
theorem rel_zero {W : World} (hN : Tryz.prog.globals.size ≤ W.heap.size) : Rel Tryz.prog W.heap.size W gZero hZero W where
  obj := fun id ver o hx => by simp [hZero, T.get_leaf] at hx
  inj := fun id id' x x' gi gi' hx => by simp [hZero, T.get_leaf] at hx
  own := fun id ver o gi hx => by simp [hZero, T.get_leaf] at hx
  fresh := fun id hi => by
    have : ¬ id < 12 := by simp only [hZero] at hi; omega
    simp [gZero, this]
  vers := fun id ver o hx => by simp [hZero, T.get_leaf] at hx
  glob := fun g hg => by rw [globs12] at hg; exact ⟨_, if_pos hg, rfl, rfl⟩
  low := by rw [globs12]; exact Nat.le_refl _
  below := Below.refl _ _
  size := Nat.le_refl _
  rolow := fun id ver o gi hx => by simp [hZero, T.get_leaf] at hx
theorem globs_le {W : World} (hS : W.ShapedOpen Tryz.prog) : Tryz.prog.globals.size ≤ W.heap.size := by
  have h1 : (((begin Tryz.prog (fun _ _ => 0) default).world.heap[11]?).bind Obj.row?).isSome = true := by kernel_rfl
  obtain ⟨⟨z, t⟩, hz⟩ := Option.isSome_iff_exists.1 h1
  obtain ⟨cs, hh, _⟩ := hS.1 11 z t (by rw [globs12]; decide) hz
  have := (Array.getElem?_eq_some_iff.1 hh).1
  rw [globs12]; omega
def Tells (W : World) : Ending → World → Prop := fun e w' => e = .returned (.bool true) ∧ Below W.heap.size W w'
theorem tells_of {W : World} {f : FuncId} {args : List AVal} {argsV : Array Value} {G : GM} {h : AHeap} (K : WOK W) (R : Rel Tryz.prog W.heap.size W G h W) (hv : VsR Tryz.prog G args argsV.toList) (k : Cl tab summ1 f args h fun r _ => r = .bool true) : Calls Tryz.prog f argsV W (Tells W) := by
  obtain ⟨n, hn⟩ := k
  refine (calls_of_run mixed tab_ok (summ1_ok K) R hv (hn n (Nat.le_refl _))).mono fun e w' hp => ?_
  obtain ⟨v, h', G', cv, rfl, hv, R', _, hr⟩ := hp
  have hv : v = .bool true := hv
  subst hv
  have hr : cv = .bool true := hr
  exact ⟨by rw [hr], R'.below⟩
theorem post_of_tells {H : Type} {enc : TypeId × Value → H} {P : Program} {f : Func} {s : ChangeSpec} {apart fresh handsOn again : Bool} {W W' : World} {args : Array Value} {v : Value} {ds gs : List (DataW H)} {before pa pv : List MemPlace}
    (hW : DataW.Whole enc P f.params.toList s.vars apart W args.toList ds gs before)
    (hres : ∀ (b : Nat) (sp : Nat → Bool) (hd : Bool), DataW.TrodAll enc P W' b sp hd f.resultTypes.toList (v.resultList f.resultTypes.size) (s.fn H (ds ++ gs)).results [])
    (hargs : ∀ sp : Nat → Bool, (∀ p ∈ before, sp p.block = true) → DataW.TrodAll enc P W' 0 sp true f.params.toList args.toList (s.fn H (ds ++ gs)).args pa)
    (hvars : ∀ sp : Nat → Bool, (∀ p ∈ before, sp p.block = true) → DataW.TrodVars enc P W' sp s.vars (s.fn H (ds ++ gs)).vars pv)
    (hps : before = pa ++ pv) (hb : Below W.heap.size W W')
    (hok : ∀ (j : Nat) (t : TypeId) (r : Value), f.resultTypes[j]? = some t → (v.resultList f.resultTypes.size)[j]? = some r → Value.okWide P W' .any 0 t r) :
    s.post enc P f apart fresh handsOn again W args v W' := by
  have hlt := hW.lt
  have hold : ∀ p ∈ before, (fun b => decide (b < W.heap.size)) p.block = true := fun p hp => by simpa using hlt p hp
  refine ⟨ds, gs, before, [], pa, pv, hW, hres _ _ _, hargs _ hold, hvars _ hold, World.keptBut_mono (fun p hp => ⟨hp, ?_⟩) (hb.frame _), fun _ => ?_⟩
  · rw [hps, List.mem_append] at hp
    exact Or.inr hp
  · obtain ⟨_, _, _, _, _, hz, hn⟩ := hW
    refine ⟨hok, _, _, ([] ++ pa) ++ pv, ⟨[] ++ pa, pv, trodAll_append (hargs _ (fun _ _ => rfl)) (hres _ _ _), hvars _ (fun _ _ => rfl), rfl, ?_, ?_⟩, ?_⟩
    · intro b off hp
      have hp' : MemPlace.cell b off ∈ before := by rw [hps]; simpa using hp
      have hbl : (⟨b, off, none⟩ : Addr).block < W.heap.size := hlt _ hp'
      rw [hb.frozen hbl]
      exact hz b off hp'
    · intro ha
      have := hn ha
      rw [hps] at this
      simpa using this
    · intro p hp _
      rw [hps]
      simpa using hp
end Go.Proofs
end
section
/-
  Four graphs that a call is handed in one struct, laid out.
-/
namespace Go.Ab
open Go.RowKit (Below)
section
variable {H : Type} {enc : TypeId × Value → H} {P : Program} {W : World} {G : GM} {h : AHeap}
theorem lay_part {tG tNs tN tI tS tB tIs tSs : TypeId} (T : GTypes P tG tNs tN tI tS tB tIs tSs) {μ : DataW H → Nat} (hμ : Meas μ) {fuel : Nat} {u0 u1 : Value} {y : DataW H × List MemPlace} (k : DataW.trod enc P W 0 (fun _ => true) true fuel tG [u0, u1] = some y) (R : Rel P W.heap.size W G h W) (hw : WF h) :
    Laid P W G h fun G' h' => ∃ (nv : AVal) (g : Graph), VR P G' nv u0 ∧ u1 = .int .i64 g.root ∧ NodesAt h' nv g.nodes ∧ gsize g ≤ μ y.1 := by
  have hx : DataW.Trod enc P W 0 (fun _ => true) true tG (.agg #[u0, u1]) y.1 y.2 := ⟨fuel, k⟩
  obtain ⟨G1, h1, R1, g1, w1, v, g, hv, ⟨nv, rfl, hN⟩, hz⟩ := lay_graph T hμ hx R hw
  obtain ⟨cs, hcs, x0, xs, e0, v0, x1, xs1, e1, v1, e2⟩ := hv
  simp only [Value.agg.injEq] at hcs
  subst hcs
  simp only [List.cons.injEq] at e0
  obtain ⟨rfl, rfl⟩ := e0
  simp only [List.cons.injEq] at e1
  obtain ⟨rfl, rfl⟩ := e1
  exact ⟨G1, h1, R1, g1, w1, nv, g, v0, v1, hN, hz⟩
end
end Go.Ab
end
section
/-
  A class that a call is handed: a number, a graph and two rows of names, laid out.
-/
namespace Go.Ab
open Go.RowKit (Below)
section
variable {H : Type} {enc : TypeId × Value → H} {P : Program} {W : World} {G : GM} {h : AHeap}
def strsSize (l : List (List Nat)) : Nat := (l.map fun s => s.length + 1).sum
theorem lay_class {tC tG tNs tN tI tS tB tIs tSs : TypeId} (T : GTypes P tG tNs tN tI tS tB tIs tSs) (hF : ∃ f0 f1 f2 f3, P.underlying tC = some (.struct #[f0, f1, f2, f3]) ∧ (f0.type = tI ∧ f0.offset = 0) ∧ (f1.type = tG ∧ f1.offset = 1) ∧ (f2.type = tSs ∧ f2.offset = 3) ∧ (f3.type = tSs ∧ f3.offset = 4)) (cF : P.cellsOf tC = 5)
    {μ : DataW H → Nat} (hμ : Meas μ) {fuel : Nat} {u0 u1 u2 u3 u4 : Value} {y : DataW H × List MemPlace} (k : DataW.trod enc P W 0 (fun _ => true) true fuel tC [u0, u1, u2, u3, u4] = some y) (R : Rel P W.heap.size W G h W) (hw : WF h) :
    Laid P W G h fun G' h' => ∃ (n : Int) (nv cv vv : AVal) (g : Graph) (a b : List (List Nat)), u0 = .int .i64 n ∧ VR P G' nv u1 ∧ u2 = .int .i64 g.root ∧ VR P G' cv u3 ∧ VR P G' vv u4 ∧ NodesAt h' nv g.nodes ∧ StrsAt h' cv a ∧ StrsAt h' vv b ∧ gsize g + strsSize a + strsSize b ≤ μ y.1 := by
  obtain ⟨f0, f1, f2, f3, hs, ⟨t0, o0⟩, ⟨t1, o1⟩, ⟨t2, o2⟩, ⟨t3, o3⟩⟩ := hF
  obtain ⟨xs, n, _, rfl, hl, hxs, hf⟩ := DataW.trod_struct hs k
  have k0 := hf 0 f0 rfl
  have k1 := hf 1 f1 rfl
  have k2 := hf 2 f2 rfl
  have k3 := hf 3 f3 rfl
  rw [t0, o0, T.cI] at k0
  rw [t1, o1, T.cG] at k1
  rw [t2, o2, T.cSs] at k2
  rw [t3, o3, T.cSs] at k3
  match xs, hxs with
  | [y0, y1, y2, y3], _ =>
    simp only [List.getElem?_cons_zero, List.getElem?_cons_succ] at k0 k1 k2 k3
    obtain ⟨n, q0, r0, _⟩ := DataW.trod_int T.int k0
    obtain rfl : u0 = Value.int .i64 n := (List.cons.inj (show [u0] = [Value.int .i64 n] from q0)).1
    obtain ⟨G1, h1, R1, g1, w1, nv, g, v0, e0, N0, z0⟩ := lay_part (u0 := u1) (u1 := u2) T hμ k1 R hw
    obtain ⟨G2, h2, R2, g2, w2, cv, a, v1, s1, z1⟩ := lay_strs hμ T.strs T.str T.cS (v := u3) k2 R1 w1.wf
    obtain ⟨G3, h3, R3, g3, w3, vv, b, v2, s2, z2⟩ := lay_strs hμ T.strs T.str T.cS (v := u4) k3 R2 w2.wf
    refine ⟨G3, h3, R3, (g1.trans g2).trans g3, (w1.trans w2).trans w3, n, nv, cv, vv, g, a, b, rfl, v0.mono (g2.trans g3), e0, v1.mono g3, v2, N0.mono (w2.trans w3), s1.mono w3, s2, ?_⟩
    have := hμ.agg ([y0, y1, y2, y3].map (·.1))
    simp only [List.map_cons, List.map_nil, List.sum_cons, List.sum_nil] at this ⊢
    simp only [strsSize]
    omega
end
end Go.Ab
end
section
/-
  Rows of whatever sort that a call is handed, laid out.
-/
namespace Go.Ab
open Go.RowKit (Below)
section
variable {H : Type} {enc : TypeId × Value → H} {P : Program} {W : World} {G : GM} {h : AHeap}
def LayOne (enc : TypeId × Value → H) (P : Program) (W : World) (tE : TypeId) (sz fuel : Nat) (μ : DataW H → Nat) {α : Type} (At : AHeap → List AVal → α → Prop) (size : α → Nat) : Prop :=
  ∀ (G : GM) (h : AHeap) (cs : List Value) (x : DataW H × List MemPlace), DataW.trod enc P W 0 (fun _ => true) true fuel tE cs = some x → Rel P W.heap.size W G h W → WF h →
    Laid P W G h fun G' h' => ∃ (n : α) (c : List AVal), VsR P G' c cs ∧ c.length = sz ∧ At h' c n ∧ size n ≤ μ x.1
theorem lay_elems {tE : TypeId} {sz fuel : Nat} {μ : DataW H → Nat} {α : Type} {At : AHeap → List AVal → α → Prop} {size : α → Nat} (L : LayOne enc P W tE sz fuel μ At size) (hmono : ∀ {h h' : AHeap} {c : List AVal} {n : α}, Grow h h' → At h c n → At h' c n)
    {C : Nat → List Value} {D : Nat → DataW H} {Pl : Nat → List MemPlace} : ∀ (len : Nat), (∀ i, i < len → DataW.trod enc P W 0 (fun _ => true) true fuel tE (C i) = some (D i, Pl i)) → ∀ {G : GM} {h : AHeap}, Rel P W.heap.size W G h W → WF h →
    Laid P W G h fun G' h' => ∃ (ns : List α) (cs : List (List AVal)), ns.length = len ∧ cs.length = len ∧ (∀ i c, cs[i]? = some c → c.length = sz ∧ VsR P G' c (C i)) ∧ (∀ (i : Nat) n c, ns[i]? = some n → cs[i]? = some c → At h' c n) ∧ (ns.map size).sum ≤ ((List.range len).map fun i => μ (D i)).sum
  | 0, _, G, h, R, hw => ⟨G, h, R, GLe.refl G, Grow.refl hw, [], [], rfl, rfl, fun i c hc => by simp at hc, fun i n c hn => by simp at hn, by simp⟩
  | len + 1, hx, G, h, R, hw => by
    obtain ⟨G1, h1, R1, g1, w1, ns, cs, hn, hc, hv, ha, hs⟩ := lay_elems L hmono len (fun i hi => hx i (by omega)) R hw
    obtain ⟨G2, h2, R2, g2, w2, n, c, hcv, hcl, hna, hsz⟩ := L G1 h1 _ _ (hx len (by omega)) R1 w1.wf
    refine ⟨G2, h2, R2, g1.trans g2, w1.trans w2, ns ++ [n], cs ++ [c], by simp [hn], by simp [hc], fun i d hd => ?_, fun i m d hm hd => ?_, ?_⟩
    · rcases Nat.lt_or_ge i len with hi | hi
      · rw [List.getElem?_append_left (by omega)] at hd
        obtain ⟨q1, q2⟩ := hv i d hd
        exact ⟨q1, q2.mono g2⟩
      · rw [List.getElem?_append_right (by omega), hc] at hd
        obtain rfl : i = len := by
          have := (List.getElem?_eq_some_iff.1 hd).1
          simp at this; omega
        rw [Nat.sub_self, List.getElem?_cons_zero, Option.some.injEq] at hd
        subst hd
        exact ⟨hcl, hcv⟩
    · rcases Nat.lt_or_ge i len with hi | hi
      · rw [List.getElem?_append_left (by omega)] at hd hm
        exact hmono w2 (ha i m d hm hd)
      · rw [List.getElem?_append_right (by omega), hc] at hd
        rw [List.getElem?_append_right (by omega), hn] at hm
        obtain rfl : i = len := by
          have := (List.getElem?_eq_some_iff.1 hd).1
          simp at this; omega
        rw [Nat.sub_self, List.getElem?_cons_zero, Option.some.injEq] at hd hm
        subst hd; subst hm
        exact hna
    · rw [List.map_append, List.sum_append, List.range_succ, List.map_append, List.sum_append]
      simp only [List.map_cons, List.map_nil, List.sum_cons, List.sum_nil]
      simp only at hsz
      omega
theorem div_sz {k sz : Nat} (hz : 0 < sz) : k / sz * sz + k % sz = k := by rw [Nat.mul_comm]; exact Nat.div_add_mod k sz
theorem flat_getS {sz : Nat} (hz : 0 < sz) {ys : List (List AVal)} (hall : ∀ c ∈ ys, c.length = sz) {k : Nat} {x : AVal} (hk : ys.flatten[k]? = some x) : ∃ c, ys[k / sz]? = some c ∧ c[k % sz]? = some x := by
  have hlt := (List.getElem?_eq_some_iff.1 hk).1
  rw [flat_len ys hall] at hlt
  have hj : k / sz < ys.length := Nat.div_lt_of_lt_mul (by rw [Nat.mul_comm]; exact hlt)
  refine ⟨ys[k / sz], List.getElem?_eq_getElem hj, ?_⟩
  rw [← flat_cut ys hall (k / sz) hj, List.getElem?_take, if_pos (Nat.mod_lt _ hz), List.getElem?_drop, div_sz hz]
  exact hk
def RowAt {α : Type} (h : AHeap) (sz : Nat) (At : AHeap → List AVal → α → Prop) (v : AVal) (l : List α) : Prop :=
  ∃ cs : List (List AVal), SlAt h sz v cs ∧ cs.length = l.length ∧ ∀ (i : Nat) n c, l[i]? = some n → cs[i]? = some c → At h c n
theorem lay_slice {tR tE : TypeId} {sz : Nat} (hz : 0 < sz) (ht : P.underlying tR = some (.slice tE)) (hcz : P.cellsOf tE = sz) {μ : DataW H → Nat} (hμ : Meas μ) {α : Type} {At : AHeap → List AVal → α → Prop} {size : α → Nat} (L : ∀ fuel, LayOne enc P W tE sz fuel μ At size)
    (hmono : ∀ {h h' : AHeap} {c : List AVal} {n : α}, Grow h h' → At h c n → At h' c n) {fuel : Nat} {v : Value} {x : DataW H × List MemPlace} (hx : DataW.trod enc P W 0 (fun _ => true) true fuel tR [v] = some x) (R : Rel P W.heap.size W G h W) (hw : WF h) :
    Laid P W G h fun G' h' => ∃ (nv : AVal) (ns : List α), VR P G' nv v ∧ RowAt h' sz At nv ns ∧ (ns.map size).sum ≤ μ x.1 := by
  rcases Go.Deep.open_slice ht hx with ⟨h1, rfl⟩ | ⟨a, len, capx, cap, n, D, Pl, h1, hb, hl, hm, hmm, rfl, hx'⟩
  · simp only [List.cons.injEq, and_true] at h1
    subst h1
    exact ⟨G, h, R, GLe.refl G, Grow.refl hw, .slice none 0, [], ⟨rfl, rfl⟩, ⟨[], ⟨rfl, fun i x hx => by simp at hx⟩, rfl, fun i n c hn => by simp at hn⟩, by simp⟩
  · simp only [List.cons.injEq, and_true] at h1
    subst h1
    simp only [if_true] at hmm
    subst hmm
    rcases Nat.eq_zero_or_pos cap with h0 | h0
    · subst h0
      obtain rfl : len = 0 := by omega
      exact ⟨G, h, R, GLe.refl G, Grow.refl hw, .slice0, [], ⟨a, rfl⟩, ⟨[], ⟨rfl, fun i x hx => by simp at hx⟩, rfl, fun i n c hn => by simp at hn⟩, by simp⟩
    rw [hcz] at hx'
    obtain ⟨C, hC⟩ := Go.Deep.choose_lt hx'
    have hCs : ∀ i, i < cap → (C i).length = sz ∧ ∀ j, j < sz → W.cell? ((a.add (i * sz)).add j) = (C i)[j]? := fun i hi => cells_len (hC i hi).1
    have hspot : a.spot = none := by
      obtain ⟨q1, q2⟩ := hCs 0 h0
      have := q2 0 hz
      rw [Nat.zero_mul, show a.add 0 = a by simp [Addr.add], show a.add 0 = a by simp [Addr.add], List.getElem?_eq_getElem (by omega)] at this
      obtain ⟨_, _, _, _, hs, _⟩ := cell_at this
      exact hs
    obtain ⟨c, ty, fr, hc1, ha, hsz, hall⟩ := row_cells (w := W) (a := a) (m := cap * sz) (Nat.mul_pos h0 hz) (V := fun k => (C (k / sz)).getD (k % sz) default) fun k hk => by
      have hkc : k / sz < cap := Nat.div_lt_of_lt_mul (by rw [Nat.mul_comm]; exact hk)
      obtain ⟨q1, q2⟩ := hCs (k / sz) hkc
      have hkm := Nat.mod_lt k hz
      have := q2 (k % sz) hkm
      rw [add_add _ _ _ hspot, div_sz hz] at this
      rw [this, List.getElem?_eq_getElem (by omega), List.getD, List.getElem?_eq_getElem (by omega)]; rfl
    obtain ⟨G1, h1, R1, g1, w1, ns, cs, hn, hc, hv, hna, hs⟩ := lay_elems (L n) hmono len (fun i hi => (hC i (by omega)).2) R hw
    have hcss : ∀ d ∈ cs, d.length = sz := fun d hd => by
      obtain ⟨i, hi, rfl⟩ := List.mem_iff_getElem.1 hd
      exact (hv i _ (List.getElem?_eq_getElem hi)).1
    have hfl := flat_len cs hcss
    have hle : len * sz ≤ cap * sz := Nat.mul_le_mul_right _ hl
    obtain ⟨G', R', g2, w2, g3, g4⟩ := R1.addRo w1.wf (e := tE) (off := a.off) (size := cap * sz) (vs := cs.flatten) hc1 hsz (by rw [hfl, hc]; exact hle) (VsR_row (by rw [hfl, hc]; omega) fun k x v hx hv' => by
      have hk := (List.getElem?_eq_some_iff.1 hx).1
      rw [hfl, hc] at hk
      rw [hall k (by omega), Option.some.injEq] at hv'
      obtain ⟨d, hd1, hd2⟩ := flat_getS hz hcss hx
      obtain ⟨_, hd3⟩ := hv _ _ hd1
      obtain ⟨u, hu1, hu2⟩ := hd3.get hd2
      rw [← hv', List.getD, hu1]
      exact hu2)
    refine ⟨G', _, R', g1.trans g2, w1.trans w2, .slice (some (h1.next, 0)) len, ns, ⟨_, cap, g3, ?_, hl, ?_⟩, ⟨cs, ⟨by simp [lenO, hc], fun i d hd => ?_⟩, by omega, fun i n d hn' hd => hmono w2 (hna i n d hn' hd)⟩, ?_⟩
    · rw [ha]; rfl
    · rw [hcz]; simp
    · have hi := (List.getElem?_eq_some_iff.1 hd).1
      have hd' := (List.getElem?_eq_some_iff.1 hd).2
      refine ⟨hcss d (List.mem_of_getElem? hd), h1.next, i * sz, h1.next, true, tE, _, by simp [slA]; omega, g4, ?_⟩
      rw [flat_cut cs hcss i hi, hd']
    · refine Nat.le_trans hs ?_
      refine Nat.le_trans ?_ (Nat.le_trans (Nat.le_succ _) (hμ.slice ((List.range len).map D) _))
      rw [List.map_map]
      exact Nat.le_refl _
end
end Go.Ab
end
section
/-
  Steps that a call is handed, laid out.
-/
namespace Go.Ab
open Go.RowKit (Below)
open Go.Ab.S
section
variable {H : Type} {enc : TypeId × Value → H} {P : Program} {W : World}
def stepSize (s : StepD) : Nat := s.name.length + gsize s.g + gsize s.c.g + strsSize s.c.conc + strsSize s.c.virt + 1
theorem lay_step {tF tC tG tNs tN tI tS tB tIs tSs : TypeId} (T : GTypes P tG tNs tN tI tS tB tIs tSs) (hF : ∃ f0 f1 f2 f3, P.underlying tF = some (.struct #[f0, f1, f2, f3]) ∧ (f0.type = tS ∧ f0.offset = 0) ∧ (f1.type = tB ∧ f1.offset = 1) ∧ (f2.type = tG ∧ f2.offset = 2) ∧ (f3.type = tC ∧ f3.offset = 4)) (cF : P.cellsOf tF = 9)
    (hC : ∃ f0 f1 f2 f3, P.underlying tC = some (.struct #[f0, f1, f2, f3]) ∧ (f0.type = tI ∧ f0.offset = 0) ∧ (f1.type = tG ∧ f1.offset = 1) ∧ (f2.type = tSs ∧ f2.offset = 3) ∧ (f3.type = tSs ∧ f3.offset = 4)) (cC : P.cellsOf tC = 5)
    {μ : DataW H → Nat} (hμ : Meas μ) (fuel : Nat) : LayOne enc P W tF 9 fuel μ StepAt stepSize := by
  intro G h cs x hx R hw
  obtain ⟨f0, f1, f2, f3, hs, ⟨t0, o0⟩, ⟨t1, o1⟩, ⟨t2, o2⟩, ⟨t3, o3⟩⟩ := hF
  obtain ⟨xs, n, _, rfl, hl, hxs, hf⟩ := DataW.trod_struct hs hx
  rw [cF] at hl
  have k0 := hf 0 f0 rfl
  have k1 := hf 1 f1 rfl
  have k2 := hf 2 f2 rfl
  have k3 := hf 3 f3 rfl
  rw [t0, o0, T.cS] at k0
  rw [t1, o1, T.cB] at k1
  rw [t2, o2, T.cG] at k2
  rw [t3, o3, cC] at k3
  match xs, hxs with
  | [y0, y1, y2, y3], _ =>
    simp only [List.getElem?_cons_zero, List.getElem?_cons_succ] at k0 k1 k2 k3
    match cs, hl with
    | [u0, u1, u2, u3, u4, u5, u6, u7, u8], _ =>
      obtain ⟨na, q0, r0, _⟩ := DataW.trod_string T.str k0
      obtain ⟨op, q1, r1'⟩ := DataW.trod_bool T.bool k1
      obtain rfl : u0 = Value.string na := (List.cons.inj (show [u0] = [Value.string na] from q0)).1
      obtain rfl : u1 = Value.bool op := (List.cons.inj (show [u1] = [Value.bool op] from q1)).1
      obtain ⟨G1, h1, R1, g1, w1, nv, g, v0, e0, N0, z0⟩ := lay_part (u0 := u2) (u1 := u3) T hμ k2 R hw
      obtain ⟨G2, h2, R2, g2, w2, n, mv, cv, vv, gg, a, b, j0, j1, j2, j3, j4, N1, s0, s1, z1⟩ := lay_class (u0 := u4) (u1 := u5) (u2 := u6) (u3 := u7) (u4 := u8) T hC cC hμ k3 R1 w1.wf
      refine ⟨G2, h2, R2, g1.trans g2, w1.trans w2, ⟨na.data.toList.map UInt8.toNat, op, g, ⟨n, gg, a, b⟩⟩, stepC ⟨na.data.toList.map UInt8.toNat, op, g, ⟨n, gg, a, b⟩⟩ nv mv cv vv, ?_, rfl, ⟨nv, mv, cv, vv, rfl, N0.mono w2, N1, s0, s1⟩, ?_⟩
      · exact ⟨_, _, rfl, ⟨na, rfl, rfl⟩, _, _, rfl, rfl, _, _, rfl, v0.mono g2, _, _, rfl, e0, _, _, rfl, j0, _, _, rfl, j1, _, _, rfl, j2, _, _, rfl, j3, _, _, rfl, j4, rfl⟩
      · have := hμ.agg ([y0, y1, y2, y3].map (·.1))
        have hs0 := hμ.str na.data.toList
        have e0' : y0.1 = .lit (.string na.data.toList) := by rw [r0]
        rw [← e0'] at hs0
        simp only [List.map_cons, List.map_nil, List.sum_cons, List.sum_nil] at this ⊢
        simp only [stepSize, List.length_map]
        omega
end
end Go.Ab
namespace Go.Proofs
open Go Go.Ab Go.Ab.S
theorem strs_small' {l : List (List Nat)} {n : Nat} (h : strsSize l ≤ n) : l.length ≤ n ∧ ∀ s ∈ l, s.length ≤ n := by
  obtain ⟨h1, _, h3⟩ := sum_big l
  unfold strsSize at h
  exact ⟨by omega, fun s hs => by have := h3 s hs; omega⟩
theorem sum_each : ∀ (l : List StepD) (n : Nat), (l.map stepSize).sum ≤ n → l.length ≤ n ∧ ∀ s ∈ l, stepSize s ≤ n
  | [], n, _ => ⟨by simp, fun s hs => by cases hs⟩
  | x :: l, n, h => by
    simp only [List.map_cons, List.sum_cons] at h
    have hx : 1 ≤ stepSize x := by simp only [stepSize]; omega
    obtain ⟨h1, h2⟩ := sum_each l (n - stepSize x) (by omega)
    refine ⟨by simp only [List.length_cons]; omega, fun s hs => ?_⟩
    rcases List.mem_cons.1 hs with rfl | hs
    · omega
    · have := h2 s hs; omega
theorem step_ok {s : StepD} (h : stepSize s ≤ 1048576) : StepOK s := by
  have e60 : (2 : Nat) ^ 60 = 1152921504606846976 := by decide
  simp only [stepSize] at h
  obtain ⟨la, ta⟩ := strs_small' (l := s.c.conc) (n := 1048576) (by omega)
  obtain ⟨lb, tb⟩ := strs_small' (l := s.c.virt) (n := 1048576) (by omega)
  exact ⟨sane_of (by omega), sane_of (by omega), by omega, fun x hx => by have := ta x hx; omega, fun x hx => by have := tb x hx; omega, by omega⟩
theorem step_mono {h h' : AHeap} {c : List AVal} {n : StepD} (g : Grow h h') (k : StepAt h c n) : StepAt h' c n := by
  obtain ⟨nv, mv, cv, vv, q1, q2, q3, q4, q5⟩ := k
  exact ⟨nv, mv, cv, vv, q1, q2.mono g, q3.mono g, q4.mono g, q5.mono g⟩
theorem lay_steps {H : Type} {enc : TypeId × Value → H} {W : World} {G : GM} {h : AHeap} {v : Value} {fuel : Nat} {x : DataW H × List MemPlace} (hx : DataW.trod enc Tryz.prog W 0 (fun _ => true) true fuel 49 [v] = some x) (R : Rel Tryz.prog W.heap.size W G h W) (hw : WF h) :
    Laid Tryz.prog W G h fun G' h' => ∃ (nv : AVal) (l : List StepD), VR Tryz.prog G' nv v ∧ StepsAt h' nv l ∧ (l.map stepSize).sum ≤ YtapnoohglfhgeaaGreatDoor.Rows.uptoBulk x.1 :=
  lay_slice (by decide) (show Tryz.prog.underlying 49 = some (.slice 52) from by kernel_rfl) (by kernel_rfl) (meas H)
    (fun fuel => lay_step gtypes ⟨_, _, _, _, Tryz.underlying52, ⟨rfl, rfl⟩, ⟨rfl, rfl⟩, ⟨rfl, rfl⟩, rfl, rfl⟩ (by kernel_rfl) ⟨_, _, _, _, Tryz.underlying40, ⟨rfl, rfl⟩, ⟨rfl, rfl⟩, ⟨rfl, rfl⟩, rfl, rfl⟩ (by kernel_rfl) (meas H) fuel) (fun g k => step_mono g k) hx R hw
end Go.Proofs
end
