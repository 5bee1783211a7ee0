import Derived.Test.YtpmndmiohaaokaaGreatDoorP13
import Derived.Test.YtpmndmiohaaokaaGreatDoorP15
import Derived.Test.YtpmndmiohaaokaaGreatDoorP24
import Derived.Test.YtpmndmiohaaokaaGreatDoorP25
import Derived.Test.YtpmndmiohaaokaaGreatDoorP26
import Derived.Lib.LaidU8
import Derived.Lay
import Derived.Deep.DeepWitnessRowRef
import Derived.ProofKit
import Derived.LaidHandle
/-
  Part 27 of the proof.
-/
set_option linter.all false
section
namespace Go.Proofs
open Go Go.Ab Go.Ab.S
open Go.RowKit (Below)
def zKE : List Int := (List.range 256).map fun i => if i == 32 || (9 <= i && i <= 13) then 1 else 0
theorem ascii_eq : (YtpmndmiohaaokaaGreatDoor.Rows.laid_strings_asciiSpace : DataW Unit) = Lib.tabData .u8 zKE := by kernel_rfl
theorem pow_eq : (YtpmndmiohaaokaaGreatDoor.Rows.laid_internal_strconv_uint64pow10 : DataW Unit) = Lib.tabData .u64 Lib.pow10Tab := by kernel_rfl
theorem g1 : Tryz.prog.globalNamed "strings.asciiSpace" = some 1 := by kernel_rfl
theorem g8 : Tryz.prog.globalNamed "internal/strconv.uint64pow10" = some 8 := by kernel_rfl
theorem g1t : (Tryz.prog.globals[1]?).map (·.type) = some 261 := by kernel_rfl
theorem g8t : (Tryz.prog.globals[8]?).map (·.type) = some 320 := by kernel_rfl
theorem zOU {P : Program} {W : World} {name : String} {k : IntKind} {zs : List Int} {g : Nat} {t e : TypeId} {n : Nat}
  (hg : P.globalNamed name = some g) (hty : (P.globals[g]?).map (·.type) = some t) (ht : P.underlying t = some (.array n e)) (he : P.underlying e = some (.int k)) (hce : P.cellsOf e = 1) (hct : P.cellsOf t = n)
  (h : Lib.VarReads P W name (Lib.tabData k zs)) : Lib.TabIs P W name k zs := by
 obtain ⟨g', t', cs, fuel, p, hg', ht', hvar, hd⟩ := h
 obtain rfl := Option.some.inj (hg.symm.trans hg')
 obtain rfl := Option.some.inj (hty.symm.trans ht')
 unfold Lib.TabIs
 rw [hvar, <- Lib.cells_of_tab ht he hce hct hd]
theorem TabIs.below {P : Program} {W w : World} {N : Nat} {name : String} {k : IntKind} {zs : List Int} {g : Nat} (hg : P.globalNamed name = some g) (hN : g < N) (h : Lib.TabIs P W name k zs) (b : Below N W w) : Lib.TabIs P w name k zs := by
 unfold Lib.TabIs World.var? at h ⊢
 rw [hg] at h ⊢
 simp only [Option.bind_some] at h ⊢
 rw [b.block g hN]; exact h
theorem TabIs.block {P : Program} {W : World} {name : String} {k : IntKind} {zs : List Int} {g : Nat} (hg : P.globalNamed name = some g) (h : Lib.TabIs P W name k zs) : ∃ e fr, W.heap[g]? = some (.cells (zs.map fun z => Value.int k z).toArray e fr) := by
 unfold Lib.TabIs World.var? at h
 rw [hg] at h
 simp only [Option.bind_some] at h
 split at h
 ·rename_i cs e fr hh
  simp only [oI] at h
  exact ⟨e, fr, by rw [hh, h]⟩
 ·cases h
theorem VsR_ints {P : Program} {G : GM} {k : IntKind} : ∀ zs : List Int, VsR P G (zs.map fun z => AVal.int k z) (zs.map fun z => Value.int k z)
 | [] => rfl
 | z :: zs => ⟨_, _, rfl, rfl, VsR_ints zs⟩
theorem zOT : tabA = zKE.map fun z => AVal.int .u8 z := by
 unfold tabA zKE
 rw [List.map_map]
 refine List.map_congr_left fun i _ => ?_
 show AVal.int .u8 (if _ then 1 else 0) = AVal.int .u8 (if _ then 1 else 0)
 rfl
theorem et0 : Tryz.prog.globalNamed "errors.errorType" = some 0 := by kernel_rfl
theorem rt0 : (Tryz.prog.cutTypes.find? (·.1 == "internal/reflectlite.rtype")).map (·.2) = some 157 := by kernel_rfl
theorem oneRow0 : ((List.range 350).filter fun t => Tryz.prog.rowNamed t [101, 114, 114, 111, 114]) = [60] := by kernel_rfl
theorem size0 : Tryz.prog.types.size = 350 := by kernel_rfl
theorem zNr {W : World} (h : handlesMet Tryz.prog (zNy.filter fun x => x.2.handleName?.isSome) W) : W.cell? ⟨0, 0, none⟩ = some (.iface 157 (.agg #[.pointer (some ⟨12, 60, none⟩)])) := by
 obtain ⟨name, u, ty, e1, e2, e3, e4, e5⟩ := h _ (List.mem_filter.2 ⟨List.mem_of_getElem? (i := 4) rfl, by kernel_rfl⟩)
 have en : name = [101, 114, 114, 111, 114] := (Option.some.inj e1).symm
 subst en
 obtain rfl := Option.some.inj (rt0.symm.trans e2)
 have hm : ty ∈ (List.range 350).filter fun t => Tryz.prog.rowNamed t [101, 114, 114, 111, 114] := List.mem_filter.2 ⟨List.mem_range.2 (by rw [<- size0]; exact e3), e4⟩
 rw [oneRow0] at hm
 obtain rfl := List.mem_singleton.1 hm
 have hh : typeHandle Tryz.prog 60 = .pointer (some ⟨12, 60, none⟩) := by kernel_rfl
 rw [hh] at e5
 simpa using World.var?_cell et0 e5 0
theorem wok {W : World} (hL : laidMetH Tryz.prog zNy W) (hS : W.ShapedOpen Tryz.prog) (hN : Tryz.prog.globals.size <= W.heap.size) : WOK W := by
 have hp := (laidMetH_iff.1 hL).1
 have a1 : Lib.TabIs Tryz.prog W "strings.asciiSpace" .u8 zKE := by
  refine zOU (e := 5) (n := 256) g1 g1t (by kernel_rfl) (by kernel_rfl) (by kernel_rfl) (by kernel_rfl) ?_
  rw [<- ascii_eq]
  exact Lib.laidMet.reads hp (List.mem_filter.2 ⟨List.mem_of_getElem? (i := 8) rfl, by kernel_rfl⟩)
 have a8 : Lib.TabIs Tryz.prog W "internal/strconv.uint64pow10" .u64 Lib.pow10Tab := by
  refine zOU (e := 218) (n := 20) g8 g8t (by kernel_rfl) (by kernel_rfl) (by kernel_rfl) (by kernel_rfl) ?_
  rw [<- pow_eq]
  exact Lib.laidMet.reads hp (List.mem_filter.2 ⟨List.mem_of_getElem? (i := 2) rfl, by kernel_rfl⟩)
 refine ⟨cell_of_shapedOpen_int (zero := #[.int .i64 0]) (t := 3) hS (of_decide_eq_true (by kernel_rfl)) (by kernel_rfl) rfl (by kernel_rfl) (by kernel_rfl) Tryz.underlying3, ?_, ?_, hN, zNr (laidMetH_iff.1 hL).2⟩
 ·obtain ⟨e, fr, hb⟩ := TabIs.block g1 a1
  refine ⟨by rw [zDk]; decide, by rw [zDk]; decide, hN, by decide, _, e, fr, hb, ?_, ?_⟩
  ·rw [zOT]; simp
  rw [zOT, List.length_map]
  show VsR _ _ _ (List.take _ (zKE.map _))
  rw [List.take_of_length_le (by simp)]
  exact VsR_ints _
 ·exact fun w hb => TabIs.below g8 (by have := zDk; omega) a8 hb
end Go.Proofs
end
section
namespace Go.Proofs
open Go Go.Ab Go.Ab.S
open Go.RowKit (Below)
open Go.ChangeShapes Go.WideShapes Go.ChangeAt
theorem zNJ (s : List Nat) : bigT s <= 1000 := by unfold bigT; split <;> omega
theorem zLf : ∀ l : List (List Nat), l.length <= (l.map fun s => s.length + 1).sum /\ sumL bigT l <= 1000 * (l.map fun s => s.length + 1).sum /\ ∀ s ∈ l, s.length <= (l.map fun s => s.length + 1).sum
 | [] => ⟨by simp, by simp [sumL], fun s hs => by cases hs⟩
 | s :: l => by
  obtain ⟨h1, h2, h3⟩ := zLf l
  have := zNJ s
  refine ⟨by simp only [List.map_cons, List.sum_cons, zlC]; omega, by simp only [List.map_cons, List.sum_cons, sumL]; omega, fun t ht => ?_⟩
  simp only [List.map_cons, List.sum_cons]
  rcases List.mem_cons.1 ht with rfl | ht
  ·omega
  ·have := h3 t ht; omega
theorem zNo (n : Ab.Node) : zBr n <= 3000 * zBp n := by
 have := zLf n.labels
 have := zNJ n.name
 simp only [zBr, zBp]; omega
theorem zMD : ∀ ns : List Ab.Node, ns.length <= (ns.map zBp).sum /\ sumL zBr ns <= 3000 * (ns.map zBp).sum /\ ∀ n ∈ ns, zBp n <= (ns.map zBp).sum
 | [] => ⟨by simp, by simp [sumL], fun s hs => by cases hs⟩
 | n :: l => by
  obtain ⟨h1, h2, h3⟩ := zMD l
  have h4 := zNo n
  have h5 : 1 <= zBp n := by simp only [zBp]; omega
  refine ⟨by simp only [List.map_cons, List.sum_cons, zlC]; omega, by simp only [List.map_cons, List.sum_cons, sumL]; omega, fun t ht => ?_⟩
  simp only [List.map_cons, List.sum_cons]
  rcases List.mem_cons.1 ht with rfl | ht
  ·omega
  ·have := h3 t ht; omega
theorem zLX {g : Graph} (h : gsize g <= 1048576) : Sane g := by
 have e60 : (2 : Nat) ^ 60 = 1152921504606846976 := by decide
 have h' : (g.nodes.map zBp).sum <= 1048576 := h
 obtain ⟨h1, h2, h3⟩ := zMD g.nodes
 refine ⟨by simp only [zDO]; omega, ⟨by omega, fun n hn => ?_⟩⟩
 have k := h3 n hn
 obtain ⟨j1, j2, j3⟩ := zLf n.labels
 simp only [zBp] at k
 exact ⟨by omega, by omega, fun s hs => by have := j3 s hs; omega⟩
theorem zNp : GTypes Tryz.prog 24 22 36 3 9 4 28 34 where
 int := Tryz.underlying3
 str := Tryz.underlying9
 bool := Tryz.underlying4
 ints := Tryz.underlying28
 strs := Tryz.underlying34
 nodes := Tryz.underlying22
 node := ⟨_, _, _, _, _, Tryz.underlying36, ⟨rfl, rfl⟩, ⟨rfl, rfl⟩, ⟨rfl, rfl⟩, ⟨rfl, rfl⟩, rfl, rfl⟩
 graph := ⟨_, _, Tryz.underlying24, ⟨rfl, rfl⟩, rfl, rfl⟩
 cI := by kernel_rfl
 cS := by kernel_rfl
 cB := by kernel_rfl
 cIs := by kernel_rfl
 cSs := by kernel_rfl
 cNs := by kernel_rfl
 cN := by kernel_rfl
 cG := by kernel_rfl
open YtpmndmiohaaokaaGreatDoor.Rows in
theorem zFv {H : Type} : ∀ l : List (DataW H), uptoBulkAll l = (l.map uptoBulk).sum
 | [] => rfl
 | d :: l => by rw [uptoBulkAll, zFv l]; rfl
open YtpmndmiohaaokaaGreatDoor.Rows in
theorem meas (H : Type) : Meas (uptoBulk (H := H)) where
 agg := fun l => by rw [uptoBulk, zFv]; exact Nat.le_refl _
 slice := fun l r => by rw [uptoBulk, zFv]; omega
 str := fun s => by rw [uptoBulk]; exact Nat.le_refl _
 lit := fun x => by unfold uptoBulk; split <;> omega
def zKY : AHeap := { objs := .leaf, next := 12 }
def gZero : GM := fun g => if g < 12 then some ⟨g, 0, 0, 0⟩ else none
theorem wf_zero : WF zKY := fun b _ => T.get_leaf b
theorem rel_zero {W : World} (hN : Tryz.prog.globals.size <= W.heap.size) : Rel Tryz.prog W.heap.size W gZero zKY W where
 obj := fun id ver o hx => by simp [zKY, T.get_leaf] at hx
 inj := fun id id' x x' gi gi' hx => by simp [zKY, T.get_leaf] at hx
 own := fun id ver o gi hx => by simp [zKY, T.get_leaf] at hx
 fresh := fun id hi => by
  have : ¬ id < 12 := by simp only [zKY] at hi; omega
  simp [gZero, this]
 vers := fun id ver o hx => by simp [zKY, T.get_leaf] at hx
 glob := fun g hg => by rw [zDk] at hg; exact ⟨_, if_pos hg, rfl, rfl⟩
 low := by rw [zDk]; exact Nat.le_refl _
 below := Below.refl _ _
 size := Nat.le_refl _
 rolow := fun id ver o gi hx => by simp [zKY, T.get_leaf] at hx
theorem globs_le {W : World} (hS : W.ShapedOpen Tryz.prog) : Tryz.prog.globals.size <= W.heap.size := by
 have h1 : (((begin Tryz.prog (fun _ _ => 0) default).world.heap[11]?).bind Obj.row?).isSome = true := by kernel_rfl
 obtain ⟨⟨z, t⟩, hz⟩ := Option.isSome_iff_exists.1 h1
 obtain ⟨cs, hh, _⟩ := hS.1 11 z t (by rw [zDk]; decide) hz
 have := (Array.getElem?_eq_some_iff.1 hh).1
 rw [zDk]; omega
def Tells (W : World) : Ending -> World -> Prop := fun e w' => e = .returned (.bool true) /\ Below W.heap.size W w'
theorem tells_of {W : World} {f : FuncId} {args : List AVal} {argsV : Array Value} {G : GM} {h : AHeap} (K : WOK W) (R : Rel Tryz.prog W.heap.size W G h W) (hv : VsR Tryz.prog G args argsV.toList) (k : Cl tab zEU f args h fun r _ => r = .bool true) : Calls Tryz.prog f argsV W (Tells W) := by
 obtain ⟨n, hn⟩ := k
 refine (zKN mixed tab_ok (summ1_ok K) R hv (hn n (Nat.le_refl _))).mono fun e w' hp => ?_
 obtain ⟨v, h', G', cv, rfl, hv, R', _, hr⟩ := hp
 have hv : v = .bool true := hv
 subst hv
 have hr : cv = .bool true := hr
 exact ⟨by rw [hr], R'.below⟩
theorem zJl {H : Type} {enc : TypeId × Value -> H} {P : Program} {f : Func} {s : ChangeSpec} {apart fresh handsOn again : Bool} {W W' : World} {args : Array Value} {v : Value} {ds gs : List (DataW H)} {before pa pv : List MemPlace}
  (hW : DataW.Whole enc P f.params.toList s.vars apart W args.toList ds gs before)
  (hres : ∀ (b : Nat) (sp : Nat -> Bool) (hd : Bool), DataW.TrodAll enc P W' b sp hd f.resultTypes.toList (v.resultList f.resultTypes.size) (s.fn H (ds ++ gs)).results [])
  (hargs : ∀ sp : Nat -> Bool, (∀ p ∈ before, sp p.block = true) -> DataW.TrodAll enc P W' 0 sp true f.params.toList args.toList (s.fn H (ds ++ gs)).args pa)
  (hvars : ∀ sp : Nat -> Bool, (∀ p ∈ before, sp p.block = true) -> DataW.TrodVars enc P W' sp s.vars (s.fn H (ds ++ gs)).vars pv)
  (hps : before = pa ++ pv) (hb : Below W.heap.size W W')
  (hok : ∀ (j : Nat) (t : TypeId) (r : Value), f.resultTypes[j]? = some t -> (v.resultList f.resultTypes.size)[j]? = some r -> Value.okWide P W' .any 0 t r) :
  s.post enc P f apart fresh handsOn again W args v W' := by
 have hlt := hW.lt
 have hold : ∀ p ∈ before, (fun b => decide (b < W.heap.size)) p.block = true := fun p hp => by simpa using hlt p hp
 refine ⟨ds, gs, before, [], pa, pv, hW, hres _ _ _, hargs _ hold, hvars _ hold, World.keptBut_mono (fun p hp => ⟨hp, ?_⟩) (hb.frame _), fun _ => ?_⟩
 ·rw [hps, List.mem_append] at hp
  exact Or.inr hp
 ·obtain ⟨_, _, _, _, _, hz, hn⟩ := hW
  refine ⟨hok, _, _, ([] ++ pa) ++ pv, ⟨[] ++ pa, pv, trodAll_append (hargs _ (fun _ _ => rfl)) (hres _ _ _), hvars _ (fun _ _ => rfl), rfl, ?_, ?_⟩, ?_⟩
  ·intro b off hp
   have hp' : MemPlace.cell b off ∈ before := by rw [hps]; simpa using hp
   have hbl : (⟨b, off, none⟩ : Addr).block < W.heap.size := hlt _ hp'
   rw [hb.frozen hbl]
   exact hz b off hp'
  ·intro ha
   have := hn ha
   rw [hps] at this
   simpa using this
  ·intro p hp _
   rw [hps]
   simpa using hp
end Go.Proofs
end
