import Derived.Test.YtapnoohglfhgeaaGreatDoorP18
import Derived.Test.YtapnoohglfhgeaaGreatDoorP25
import Derived.Test.YtapnoohglfhgeaaGreatDoorP26
import Derived.Lib.LaidU8
import Derived.Lay
import Derived.Deep.DeepWitnessRowRef
import Derived.ProofKit
/-
  Part 27 of the proof.
-/
set_option linter.all false
section
/-
  What a row's facts give the walk; the world that the row's condition is met in.
-/
namespace Go.Proofs
open Go Go.Ab Go.Ab.S
open Go.RowKit (Below)
def asciiZ : List Int := (List.range 256).map fun i => if i == 32 || (9 ≤ i && i ≤ 13) then 1 else 0
theorem ascii_eq : (YtapnoohglfhgeaaGreatDoor.Rows.laid_strings_asciiSpace : DataW Unit) = Lib.tabData .u8 asciiZ := by kernel_rfl
theorem pow_eq : (YtapnoohglfhgeaaGreatDoor.Rows.laid_internal_strconv_uint64pow10 : DataW Unit) = Lib.tabData .u64 Lib.pow10Tab := by kernel_rfl
theorem g1 : Tryz.prog.globalNamed "strings.asciiSpace" = some 1 := by kernel_rfl
theorem g8 : Tryz.prog.globalNamed "internal/strconv.uint64pow10" = some 8 := by kernel_rfl
theorem g1t : (Tryz.prog.globals[1]?).map (·.type) = some 272 := by kernel_rfl
theorem g8t : (Tryz.prog.globals[8]?).map (·.type) = some 327 := by kernel_rfl
theorem tab_var {P : Program} {W : World} {name : String} {k : IntKind} {zs : List Int} {g : Nat} {t e : TypeId} {n : Nat}
    (hg : P.globalNamed name = some g) (hty : (P.globals[g]?).map (·.type) = some t) (ht : P.underlying t = some (.array n e)) (he : P.underlying e = some (.int k)) (hce : P.cellsOf e = 1) (hct : P.cellsOf t = n)
    (h : Lib.VarReads P W name (Lib.tabData k zs)) : Lib.TabIs P W name k zs := by
  obtain ⟨g', t', cs, fuel, p, hg', ht', hvar, hd⟩ := h
  obtain rfl := Option.some.inj (hg.symm.trans hg')
  obtain rfl := Option.some.inj (hty.symm.trans ht')
  unfold Lib.TabIs
  rw [hvar, ← Lib.cells_of_tab ht he hce hct hd]
theorem TabIs.below {P : Program} {W w : World} {N : Nat} {name : String} {k : IntKind} {zs : List Int} {g : Nat} (hg : P.globalNamed name = some g) (hN : g < N) (h : Lib.TabIs P W name k zs) (b : Below N W w) : Lib.TabIs P w name k zs := by
  unfold Lib.TabIs World.var? at h ⊢
  rw [hg] at h ⊢
  simp only [Option.bind_some] at h ⊢
  rw [b.block g hN]; exact h
theorem TabIs.block {P : Program} {W : World} {name : String} {k : IntKind} {zs : List Int} {g : Nat} (hg : P.globalNamed name = some g) (h : Lib.TabIs P W name k zs) : ∃ e fr, W.heap[g]? = some (.cells (zs.map fun z => Value.int k z).toArray e fr) := by
  unfold Lib.TabIs World.var? at h
  rw [hg] at h
  simp only [Option.bind_some] at h
  split at h
  · rename_i cs e fr hh
    simp only [Option.some.injEq] at h
    exact ⟨e, fr, by rw [hh, h]⟩
  · cases h
theorem VsR_ints {P : Program} {G : GM} {k : IntKind} : ∀ zs : List Int, VsR P G (zs.map fun z => AVal.int k z) (zs.map fun z => Value.int k z)
  | [] => rfl
  | z :: zs => ⟨_, _, rfl, rfl, VsR_ints zs⟩
theorem tab_asc : tabA = asciiZ.map fun z => AVal.int .u8 z := by
  unfold tabA asciiZ
  rw [List.map_map]
  refine List.map_congr_left fun i _ => ?_
  show AVal.int .u8 (if _ then 1 else 0) = AVal.int .u8 (if _ then 1 else 0)
  rfl
theorem wok {W : World} (hL : laidMetH Tryz.prog laids W) (hS : W.ShapedOpen Tryz.prog) (hN : Tryz.prog.globals.size ≤ W.heap.size) : WOK W := by
  have hp := (laidMetH_iff.1 hL).1
  have a1 : Lib.TabIs Tryz.prog W "strings.asciiSpace" .u8 asciiZ := by
    refine tab_var (e := 5) (n := 256) g1 g1t (by kernel_rfl) (by kernel_rfl) (by kernel_rfl) (by kernel_rfl) ?_
    rw [← ascii_eq]
    exact Lib.laidMet.reads hp (List.mem_filter.2 ⟨List.mem_of_getElem? (i := 8) rfl, by kernel_rfl⟩)
  have a8 : Lib.TabIs Tryz.prog W "internal/strconv.uint64pow10" .u64 Lib.pow10Tab := by
    refine tab_var (e := 172) (n := 20) g8 g8t (by kernel_rfl) (by kernel_rfl) (by kernel_rfl) (by kernel_rfl) ?_
    rw [← pow_eq]
    exact Lib.laidMet.reads hp (List.mem_filter.2 ⟨List.mem_of_getElem? (i := 2) rfl, by kernel_rfl⟩)
  refine ⟨cell_of_shapedOpen_int (zero := #[.int .i64 0]) (t := 3) hS (of_decide_eq_true (by kernel_rfl)) (by kernel_rfl) rfl (by kernel_rfl) (by kernel_rfl) Tryz.underlying3, ?_, ?_, hN⟩
  · obtain ⟨e, fr, hb⟩ := TabIs.block g1 a1
    refine ⟨by rw [globs12]; decide, by rw [globs12]; decide, hN, by decide, _, e, fr, hb, ?_, ?_⟩
    · rw [tab_asc]; simp
    rw [tab_asc, List.length_map]
    show VsR _ _ _ (List.take _ (asciiZ.map _))
    rw [List.take_of_length_le (by simp)]
    exact VsR_ints _
  · exact fun w hb => TabIs.below g8 (by have := globs12; omega) a8 hb
end Go.Proofs
end
section
/-
  A call begins: what is handed is laid out; and ends: what was handed reads as it did.
-/
namespace Go.Proofs
open Go Go.Ab Go.Ab.S
open Go.RowKit (Below)
open Go.ChangeShapes Go.WideShapes Go.ChangeAt
theorem sm_of {g : Ab.Graph} (h : GraphB Tryz.prog 3 9 60 reachBytes g.nodes) : GraphSm g ∧ ∀ n ∈ g.nodes, n.labels.length * 16 ≤ 140737488355328 := by
  have e60 : (2 : Nat) ^ 60 = 1152921504606846976 := by decide
  have eB : reachBytes = 140737488351232 := by decide
  have b3 : Tryz.prog.bytesOf 3 = 8 := by kernel_rfl
  have b9 : Tryz.prog.bytesOf 9 = 16 := by kernel_rfl
  have b60 : Tryz.prog.bytesOf 60 = 80 := by kernel_rfl
  obtain ⟨h1, h2⟩ := h
  rw [b60, eB] at h1
  refine ⟨⟨by omega, fun n hn => ?_⟩, fun n hn => ?_⟩
  · obtain ⟨k1, k2, k3⟩ := h2 n hn
    rw [b3, eB] at k1
    rw [b9, eB] at k2
    exact ⟨by omega, by omega, fun s hs => by have := k3 s hs; rw [eB] at this; omega⟩
  · obtain ⟨_, k2, _⟩ := h2 n hn
    rw [b9, eB] at k2
    omega
theorem gtypes : GTypes Tryz.prog 24 22 60 3 9 4 58 38 where
  int := Tryz.underlying3
  str := Tryz.underlying9
  bool := Tryz.underlying4
  ints := Tryz.underlying58
  strs := Tryz.underlying38
  nodes := Tryz.underlying22
  node := ⟨_, _, _, _, _, Tryz.underlying60, ⟨rfl, rfl⟩, ⟨rfl, rfl⟩, ⟨rfl, rfl⟩, ⟨rfl, rfl⟩, rfl, rfl⟩
  graph := ⟨_, _, Tryz.underlying24, ⟨rfl, rfl⟩, rfl, rfl⟩
  cI := by kernel_rfl
  cS := by kernel_rfl
  cB := by kernel_rfl
  cIs := by kernel_rfl
  cSs := by kernel_rfl
  cNs := by kernel_rfl
  cN := by kernel_rfl
  cG := by kernel_rfl
def hZero : AHeap := { objs := .leaf, next := 12 }
def gZero : GM := fun g => if g < 12 then some ⟨g, 0, 0, 0⟩ else none
theorem wf_zero : WF hZero := fun b _ => T.get_leaf b
theorem rel_zero {W : World} (hN : Tryz.prog.globals.size ≤ W.heap.size) : Rel Tryz.prog W.heap.size W gZero hZero W where
  obj := fun id ver o hx => by simp [hZero, T.get_leaf] at hx
  inj := fun id id' x x' gi gi' hx => by simp [hZero, T.get_leaf] at hx
  own := fun id ver o gi hx => by simp [hZero, T.get_leaf] at hx
  fresh := fun id hi => by
    have : ¬ id < 12 := by simp only [hZero] at hi; omega
    simp [gZero, this]
  vers := fun id ver o hx => by simp [hZero, T.get_leaf] at hx
  glob := fun g hg => by rw [globs12] at hg; exact ⟨_, if_pos hg, rfl, rfl⟩
  low := by rw [globs12]; exact Nat.le_refl _
  below := Below.refl _ _
  size := Nat.le_refl _
  rolow := fun id ver o gi hx => by simp [hZero, T.get_leaf] at hx
theorem globs_le {W : World} (hS : W.ShapedOpen Tryz.prog) : Tryz.prog.globals.size ≤ W.heap.size := by
  have h1 : (((begin Tryz.prog (fun _ _ => 0) default).world.heap[11]?).bind Obj.row?).isSome = true := by kernel_rfl
  obtain ⟨⟨z, t⟩, hz⟩ := Option.isSome_iff_exists.1 h1
  obtain ⟨cs, hh, _⟩ := hS.1 11 z t (by rw [globs12]; decide) hz
  have := (Array.getElem?_eq_some_iff.1 hh).1
  rw [globs12]; omega
/-- What is told of a call that answers true and turns nothing that was there. -/
def Tells (W : World) : Ending → World → Prop := fun e w' => e = .returned (.bool true) ∧ Below W.heap.size W w'
theorem tells_of {W : World} {f : FuncId} {args : List AVal} {argsV : Array Value} {G : GM} {h : AHeap} (K : WOK W) (R : Rel Tryz.prog W.heap.size W G h W) (hv : VsR Tryz.prog G args argsV.toList) (k : Cl tab summ1 f args h fun r _ => r = .bool true) : Calls Tryz.prog f argsV W (Tells W) := by
  obtain ⟨n, hn⟩ := k
  refine (calls_of_run mixed tab_ok (summ1_ok K) R hv (hn n (Nat.le_refl _))).mono fun e w' hp => ?_
  obtain ⟨v, h', G', cv, rfl, hv, R', _, hr⟩ := hp
  have hv : v = .bool true := hv
  subst hv
  have hr : cv = .bool true := hr
  exact ⟨by rw [hr], R'.below⟩
/-- 'post' for such a call: what lies below is as it was. -/
theorem post_of_tells {H : Type} {enc : TypeId × Value → H} {P : Program} {f : Func} {s : ChangeSpec} {apart fresh handsOn again : Bool} {W W' : World} {args : Array Value} {v : Value} {ds gs : List (DataW H)} {before pa pv : List MemPlace}
    (hW : DataW.Whole enc P f.params.toList s.vars apart W args.toList ds gs before)
    (hres : ∀ (b : Nat) (sp : Nat → Bool) (hd : Bool), DataW.TrodAll enc P W' b sp hd f.resultTypes.toList (v.resultList f.resultTypes.size) (s.fn H (ds ++ gs)).results [])
    (hargs : ∀ sp : Nat → Bool, (∀ p ∈ before, sp p.block = true) → DataW.TrodAll enc P W' 0 sp true f.params.toList args.toList (s.fn H (ds ++ gs)).args pa)
    (hvars : ∀ sp : Nat → Bool, (∀ p ∈ before, sp p.block = true) → DataW.TrodVars enc P W' sp s.vars (s.fn H (ds ++ gs)).vars pv)
    (hps : before = pa ++ pv) (hb : Below W.heap.size W W')
    (hok : ∀ (j : Nat) (t : TypeId) (r : Value), f.resultTypes[j]? = some t → (v.resultList f.resultTypes.size)[j]? = some r → Value.okWide P W' .any 0 t r) :
    s.post enc P f apart fresh handsOn again W args v W' := by
  have hlt := hW.lt
  have hold : ∀ p ∈ before, (fun b => decide (b < W.heap.size)) p.block = true := fun p hp => by simpa using hlt p hp
  refine ⟨ds, gs, before, [], pa, pv, hW, hres _ _ _, hargs _ hold, hvars _ hold, World.keptBut_mono (fun p hp => ⟨hp, ?_⟩) (hb.frame _), fun _ => ?_⟩
  · rw [hps, List.mem_append] at hp
    exact Or.inr hp
  · obtain ⟨_, _, _, _, _, hz, hn⟩ := hW
    refine ⟨hok, _, _, ([] ++ pa) ++ pv, ⟨[] ++ pa, pv, trodAll_append (hargs _ (fun _ _ => rfl)) (hres _ _ _), hvars _ (fun _ _ => rfl), rfl, ?_, ?_⟩, ?_⟩
    · intro b off hp
      have hp' : MemPlace.cell b off ∈ before := by rw [hps]; simpa using hp
      have hbl : (⟨b, off, none⟩ : Addr).block < W.heap.size := hlt _ hp'
      rw [hb.frozen hbl]
      exact hz b off hp'
    · intro ha
      have := hn ha
      rw [hps] at this
      simpa using this
    · intro p hp _
      rw [hps]
      simpa using hp
end Go.Proofs
end
section
/-
  Four graphs that a call is handed in one struct, laid out.
-/
namespace Go.Ab
open Go.RowKit (Below)
section
variable {H : Type} {enc : TypeId × Value → H} {P : Program} {W : World} {G : GM} {h : AHeap}
theorem lay_part {tG tNs tN tI tS tB tIs tSs : TypeId} (T : GTypes P tG tNs tN tI tS tB tIs tSs) {B : Nat} {fuel : Nat} {u0 u1 : Value} {y : DataW H × List MemPlace} (k : DataW.trod enc P W 0 (fun _ => true) true fuel tG [u0, u1] = some y) (hB : Wt P B tG y.1) (R : Rel P W.heap.size W G h W) (hw : WF h) :
    Laid P W G h fun G' h' => ∃ (nv : AVal) (g : Graph), VR P G' nv u0 ∧ u1 = .int .i64 g.root ∧ NodesAt h' nv g.nodes ∧ GraphB P tI tS tN B g.nodes := by
  have hx : DataW.Trod enc P W 0 (fun _ => true) true tG (.agg #[u0, u1]) y.1 y.2 := ⟨fuel, k⟩
  obtain ⟨G1, h1, R1, g1, w1, v, g, hv, ⟨nv, rfl, hN⟩, hz⟩ := lay_graph T hx hB R hw
  obtain ⟨cs, hcs, x0, xs, e0, v0, x1, xs1, e1, v1, e2⟩ := hv
  simp only [Value.agg.injEq] at hcs
  subst hcs
  simp only [List.cons.injEq] at e0
  obtain ⟨rfl, rfl⟩ := e0
  simp only [List.cons.injEq] at e1
  obtain ⟨rfl, rfl⟩ := e1
  exact ⟨G1, h1, R1, g1, w1, nv, g, v0, v1, hN, hz⟩
end
end Go.Ab
end
section
/-
  A class that a call is handed: a number, a graph and two rows of names, laid out.
-/
namespace Go.Ab
open Go.RowKit (Below)
section
variable {H : Type} {enc : TypeId × Value → H} {P : Program} {W : World} {G : GM} {h : AHeap}
theorem lay_class {tC tG tNs tN tI tS tB tIs tSs : TypeId} (T : GTypes P tG tNs tN tI tS tB tIs tSs) (hF : ∃ f0 f1 f2 f3, P.underlying tC = some (.struct #[f0, f1, f2, f3]) ∧ (f0.type = tI ∧ f0.offset = 0) ∧ (f1.type = tG ∧ f1.offset = 1) ∧ (f2.type = tSs ∧ f2.offset = 3) ∧ (f3.type = tSs ∧ f3.offset = 4)) (cF : P.cellsOf tC = 5)
    {B : Nat} {fuel : Nat} {u0 u1 u2 u3 u4 : Value} {y : DataW H × List MemPlace} (k : DataW.trod enc P W 0 (fun _ => true) true fuel tC [u0, u1, u2, u3, u4] = some y) (hB : Wt P B tC y.1) (R : Rel P W.heap.size W G h W) (hw : WF h) :
    Laid P W G h fun G' h' => ∃ (n : Int) (nv cv vv : AVal) (g : Graph) (a b : List (List Nat)), u0 = .int .i64 n ∧ VR P G' nv u1 ∧ u2 = .int .i64 g.root ∧ VR P G' cv u3 ∧ VR P G' vv u4 ∧ NodesAt h' nv g.nodes ∧ StrsAt h' cv a ∧ StrsAt h' vv b ∧ GraphB P tI tS tN B g.nodes ∧ (a.length * P.bytesOf tS ≤ B ∧ ∀ s ∈ a, s.length ≤ B) ∧ (b.length * P.bytesOf tS ≤ B ∧ ∀ s ∈ b, s.length ≤ B) := by
  obtain ⟨f0, f1, f2, f3, hs, ⟨t0, o0⟩, ⟨t1, o1⟩, ⟨t2, o2⟩, ⟨t3, o3⟩⟩ := hF
  obtain ⟨xs, n, _, rfl, hl, hxs, hf⟩ := DataW.trod_struct hs k
  have k0 := hf 0 f0 rfl
  have k1 := hf 1 f1 rfl
  have k2 := hf 2 f2 rfl
  have k3 := hf 3 f3 rfl
  rw [t0, o0, T.cI] at k0
  rw [t1, o1, T.cG] at k1
  rw [t2, o2, T.cSs] at k2
  rw [t3, o3, T.cSs] at k3
  match xs, hxs with
  | [y0, y1, y2, y3], _ =>
    simp only [List.getElem?_cons_zero, List.getElem?_cons_succ] at k0 k1 k2 k3
    obtain ⟨n, q0, r0, _⟩ := DataW.trod_int T.int k0
    obtain rfl : u0 = Value.int .i64 n := (List.cons.inj (show [u0] = [Value.int .i64 n] from q0)).1
    obtain ⟨G1, h1, R1, g1, w1, nv, g, v0, e0, N0, z0⟩ := lay_part (u0 := u1) (u1 := u2) T k1 (by have := hB.part hs (i := 1) (f := f1) (d := y1.1) rfl rfl; rwa [t1] at this) R hw
    obtain ⟨G2, h2, R2, g2, w2, cv, a, v1, s1, z1⟩ := lay_strs T.strs T.str T.cS (v := u3) k2 (by have := hB.part hs (i := 2) (f := f2) (d := y2.1) rfl rfl; rwa [t2] at this) R1 w1.wf
    obtain ⟨G3, h3, R3, g3, w3, vv, b, v2, s2, z2⟩ := lay_strs T.strs T.str T.cS (v := u4) k3 (by have := hB.part hs (i := 3) (f := f3) (d := y3.1) rfl rfl; rwa [t3] at this) R2 w2.wf
    refine ⟨G3, h3, R3, (g1.trans g2).trans g3, (w1.trans w2).trans w3, n, nv, cv, vv, g, a, b, rfl, v0.mono (g2.trans g3), e0, v1.mono g3, v2, N0.mono (w2.trans w3), s1.mono w3, s2, z0, z1, z2⟩
end
end Go.Ab
end
