import Derived.Test.YtffgndlognihcaaGreatDoorP13
import Derived.Test.YtffgndlognihcaaGreatDoorP17
import Derived.Test.YtffgndlognihcaaGreatDoorP19
import Derived.Test.YtffgndlognihcaaGreatDoorP21
/-
  Part 22 of the proof.
-/
set_option linter.all false
section
/-
  A call begins: what is handed is laid out; and ends: what was handed reads as it did.
-/
namespace Go.Proofs
open Go Go.Ab Go.Ab.S
open Go.RowKit (Below)
open Go.ChangeShapes Go.WideShapes Go.ChangeAt
theorem bigT_le (s : List Nat) : bigT s ≤ 1000 := by unfold bigT; split <;> omega
theorem sum_big : ∀ l : List (List Nat), l.length ≤ (l.map fun s => s.length + 1).sum ∧ sumL bigT l ≤ 1000 * (l.map fun s => s.length + 1).sum ∧ ∀ s ∈ l, s.length ≤ (l.map fun s => s.length + 1).sum
  | [] => ⟨by simp, by simp [sumL], fun s hs => by cases hs⟩
  | s :: l => by
    obtain ⟨h1, h2, h3⟩ := sum_big l
    have := bigT_le s
    refine ⟨by simp only [List.map_cons, List.sum_cons, List.length_cons]; omega, by simp only [List.map_cons, List.sum_cons, sumL]; omega, fun t ht => ?_⟩
    simp only [List.map_cons, List.sum_cons]
    rcases List.mem_cons.1 ht with rfl | ht
    · omega
    · have := h3 t ht; omega
theorem greatN_le (n : Ab.Node) : greatN n ≤ 3000 * nodeSize n := by
  have := sum_big n.labels
  have := bigT_le n.name
  simp only [greatN, nodeSize]; omega
theorem great_le : ∀ ns : List Ab.Node, ns.length ≤ (ns.map nodeSize).sum ∧ sumL greatN ns ≤ 3000 * (ns.map nodeSize).sum ∧ ∀ n ∈ ns, nodeSize n ≤ (ns.map nodeSize).sum
  | [] => ⟨by simp, by simp [sumL], fun s hs => by cases hs⟩
  | n :: l => by
    obtain ⟨h1, h2, h3⟩ := great_le l
    have h4 := greatN_le n
    have h5 : 1 ≤ nodeSize n := by simp only [nodeSize]; omega
    refine ⟨by simp only [List.map_cons, List.sum_cons, List.length_cons]; omega, by simp only [List.map_cons, List.sum_cons, sumL]; omega, fun t ht => ?_⟩
    simp only [List.map_cons, List.sum_cons]
    rcases List.mem_cons.1 ht with rfl | ht
    · omega
    · have := h3 t ht; omega
theorem sane_of {g : Graph} (h : gsize g ≤ 1048576) : Sane g := by
  have e60 : (2 : Nat) ^ 60 = 1152921504606846976 := by decide
  have h' : (g.nodes.map nodeSize).sum ≤ 1048576 := h
  obtain ⟨h1, h2, h3⟩ := great_le g.nodes
  refine ⟨by simp only [greatF]; omega, ⟨by omega, fun n hn => ?_⟩⟩
  have k := h3 n hn
  obtain ⟨j1, j2, j3⟩ := sum_big n.labels
  simp only [nodeSize] at k
  exact ⟨by omega, by omega, fun s hs => by have := j3 s hs; omega⟩
theorem gtypes : GTypes Tryz.prog 24 22 34 3 9 4 31 32 where
  int := Tryz.underlying3
  str := Tryz.underlying9
  bool := Tryz.underlying4
  ints := Tryz.underlying31
  strs := Tryz.underlying32
  nodes := Tryz.underlying22
  node := ⟨_, _, _, _, _, Tryz.underlying34, ⟨rfl, rfl⟩, ⟨rfl, rfl⟩, ⟨rfl, rfl⟩, ⟨rfl, rfl⟩, rfl, rfl⟩
  graph := ⟨_, _, Tryz.underlying24, ⟨rfl, rfl⟩, rfl, rfl⟩
  cI := by kernel_rfl
  cS := by kernel_rfl
  cB := by kernel_rfl
  cIs := by kernel_rfl
  cSs := by kernel_rfl
  cNs := by kernel_rfl
  cN := by kernel_rfl
  cG := by kernel_rfl
open YtffgndlognihcaaGreatDoor.Rows in
theorem bulkAll_sum {H : Type} : ∀ l : List (DataW H), uptoBulkAll l = (l.map uptoBulk).sum
  | [] => rfl
  | d :: l => by rw [uptoBulkAll, bulkAll_sum l]; rfl
open YtffgndlognihcaaGreatDoor.Rows in
theorem meas (H : Type) : Meas (uptoBulk (H := H)) where
  agg := fun l => by rw [uptoBulk, bulkAll_sum]; exact Nat.le_refl _
  slice := fun l r => by rw [uptoBulk, bulkAll_sum]; omega
  str := fun s => by rw [uptoBulk]; exact Nat.le_refl _
  lit := fun x => by unfold uptoBulk; split <;> omega
def hZero : AHeap := { objs := .leaf, next := 12 }
def gZero : GM := fun g => if g < 12 then some ⟨g, 0, 0, 0⟩ else none
theorem wf_zero : WF hZero := fun b _ => T.get_leaf b
theorem rel_zero {W : World} (hN : Tryz.prog.globals.size ≤ W.heap.size) : Rel Tryz.prog W.heap.size W gZero hZero W where
  obj := fun id ver o hx => by simp [hZero, T.get_leaf] at hx
  inj := fun id id' x x' gi gi' hx => by simp [hZero, T.get_leaf] at hx
  own := fun id ver o gi hx => by simp [hZero, T.get_leaf] at hx
  fresh := fun id hi => by
    have : ¬ id < 12 := by simp only [hZero] at hi; omega
    simp [gZero, this]
  vers := fun id ver o hx => by simp [hZero, T.get_leaf] at hx
  glob := fun g hg => by rw [globs12] at hg; exact ⟨_, if_pos hg, rfl, rfl⟩
  low := by rw [globs12]; exact Nat.le_refl _
  below := Below.refl _ _
  size := Nat.le_refl _
  rolow := fun id ver o gi hx => by simp [hZero, T.get_leaf] at hx
theorem globs_le {W : World} (hS : W.ShapedOpen Tryz.prog) : Tryz.prog.globals.size ≤ W.heap.size := by
  have h1 : (((begin Tryz.prog (fun _ _ => 0) default).world.heap[11]?).bind Obj.row?).isSome = true := by kernel_rfl
  obtain ⟨⟨z, t⟩, hz⟩ := Option.isSome_iff_exists.1 h1
  obtain ⟨cs, hh, _⟩ := hS.1 11 z t (by rw [globs12]; decide) hz
  have := (Array.getElem?_eq_some_iff.1 hh).1
  rw [globs12]; omega
/-- What is told of a call that answers true and turns nothing that was there. -/
def Tells (W : World) : Ending → World → Prop := fun e w' => e = .returned (.bool true) ∧ Below W.heap.size W w'
theorem tells_of {W : World} {f : FuncId} {args : List AVal} {argsV : Array Value} {G : GM} {h : AHeap} (K : WOK W) (R : Rel Tryz.prog W.heap.size W G h W) (hv : VsR Tryz.prog G args argsV.toList) (k : Cl tab summ1 f args h fun r _ => r = .bool true) : Calls Tryz.prog f argsV W (Tells W) := by
  obtain ⟨n, hn⟩ := k
  refine (calls_of_run mixed tab_ok (summ1_ok K) R hv (hn n (Nat.le_refl _))).mono fun e w' hp => ?_
  obtain ⟨v, h', G', cv, rfl, hv, R', _, hr⟩ := hp
  have hv : v = .bool true := hv
  subst hv
  have hr : cv = .bool true := hr
  exact ⟨by rw [hr], R'.below⟩
/-- 'post' for such a call: what lies below is as it was. -/
theorem post_of_tells {H : Type} {enc : TypeId × Value → H} {P : Program} {f : Func} {s : ChangeSpec} {apart fresh handsOn again : Bool} {W W' : World} {args : Array Value} {v : Value} {ds gs : List (DataW H)} {before pa pv : List MemPlace}
    (hW : DataW.Whole enc P f.params.toList s.vars apart W args.toList ds gs before)
    (hres : ∀ (b : Nat) (sp : Nat → Bool) (hd : Bool), DataW.TrodAll enc P W' b sp hd f.resultTypes.toList (v.resultList f.resultTypes.size) (s.fn H (ds ++ gs)).results [])
    (hargs : ∀ sp : Nat → Bool, (∀ p ∈ before, sp p.block = true) → DataW.TrodAll enc P W' 0 sp true f.params.toList args.toList (s.fn H (ds ++ gs)).args pa)
    (hvars : ∀ sp : Nat → Bool, (∀ p ∈ before, sp p.block = true) → DataW.TrodVars enc P W' sp s.vars (s.fn H (ds ++ gs)).vars pv)
    (hps : before = pa ++ pv) (hb : Below W.heap.size W W')
    (hok : ∀ (j : Nat) (t : TypeId) (r : Value), f.resultTypes[j]? = some t → (v.resultList f.resultTypes.size)[j]? = some r → Value.okWide P W' .any 0 t r) :
    s.post enc P f apart fresh handsOn again W args v W' := by
  have hlt := hW.lt
  have hold : ∀ p ∈ before, (fun b => decide (b < W.heap.size)) p.block = true := fun p hp => by simpa using hlt p hp
  refine ⟨ds, gs, before, [], pa, pv, hW, hres _ _ _, hargs _ hold, hvars _ hold, World.keptBut_mono (fun p hp => ⟨hp, ?_⟩) (hb.frame _), fun _ => ?_⟩
  · rw [hps, List.mem_append] at hp
    exact Or.inr hp
  · obtain ⟨_, _, _, _, _, hz, hn⟩ := hW
    refine ⟨hok, _, _, ([] ++ pa) ++ pv, ⟨[] ++ pa, pv, trodAll_append (hargs _ (fun _ _ => rfl)) (hres _ _ _), hvars _ (fun _ _ => rfl), rfl, ?_, ?_⟩, ?_⟩
    · intro b off hp
      have hp' : MemPlace.cell b off ∈ before := by rw [hps]; simpa using hp
      have hbl : (⟨b, off, none⟩ : Addr).block < W.heap.size := hlt _ hp'
      rw [hb.frozen hbl]
      exact hz b off hp'
    · intro ha
      have := hn ha
      rw [hps] at this
      simpa using this
    · intro p hp _
      rw [hps]
      simpa using hp
end Go.Proofs
end
section
/-
  Copies of nodes; the same nodes, one by one.
-/
namespace Go.Ab.S
open Go.Ab
set_option maxHeartbeats 8000000
theorem alike_refl (x : Node) : alikeF x x = true := by
  have h1 : ∀ l : List Nat, eqL l l = true := fun l => eqL_iff.2 rfl
  have h2 : ∀ l : List (List Nat), eqLL l l = true := by
    intro l
    induction l with
    | nil => rfl
    | cons a r ih => simp only [eqLL, h1, ih, Bool.and_self]
  simp [alikeF, h1, h2]
theorem eqII_refl : ∀ l : List Int, eqII l l = true
  | [] => rfl
  | a :: r => by simp [eqII, eqII_refl r]
theorem nodes_ones {h : AHeap} : ∀ (cs : List (List AVal)) (l : List Node), cs.length = l.length → (∀ (i : Nat) (n : Node) (c : List AVal), l[i]? = some n → cs[i]? = some c → NodeAt h c n) → cs.flatten.all one = true
  | [], _, _, _ => rfl
  | c :: cs, [], hl, _ => by simp at hl
  | c :: cs, n :: l, hl, hc => by
    obtain ⟨av, lv, h1, h2, h3⟩ := hc 0 n c rfl rfl
    rw [List.flatten_cons, List.all_append, nodes_ones cs l (by simpa using hl) (fun i m d hm hd => hc (i + 1) m d (by simpa using hm) (by simpa using hd)), h1, ones_node h2.len h3.len]; rfl
section
variable {fns : FuncId → Option AFunc} {summ : FuncId → List AVal → AHeap → Option (D (AVal × AHeap))}
variable (H : Has fns summ)
include H
theorem CloneNode_ok (l : List Node) (hl : l.length ≤ 2 ^ 31) (v : AVal) (h : AHeap) (hw : WF h) (hv : NodesAt h v l) : Cl fns summ 28 [v] h fun r h' => ∃ cs : List (List AVal), Built h' h.next 34 5 r l.length cs.flatten ∧ cs.length = l.length ∧ (∀ (i : Nat) (n : Node) (c : List AVal), l[i]? = some n → cs[i]? = some c → NodeAt h c n) ∧ Grow h h' := by
  obtain ⟨cs, hS, hcl, hcn⟩ := hv
  have hone := nodes_ones cs l hcl hcn
  refine H.go (fn := F_CloneNode) rfl (by decide) rfl rfl ?_
  unfold F_CloneNode
  dsimp only
  by_cases hnil : v = .slice none cs.length
  · have hl0 : cs = [] := by
      cases cs with
      | nil => rfl
      | cons a r =>
        obtain ⟨_, b, o, ver, ro, e, vs, h1, _⟩ := hS.2 0 a rfl
        rw [hnil] at h1; cases h1
    subst hl0
    subst hnil
    have hln : l = [] := List.length_eq_zero_iff.1 hcl.symm
    subst hln
    repeat' with_reducible first | refine nxt_normal ?_ | refine nxt_ret ?_ | refine st_nil ?_ | refine cd_seq ?_ | refine cd_ops ?_ | refine cd_ret ?_ | (apply st_q; exact q1) | (apply cd_condT; exact e1) | (apply fin_ret; exact n1; exact r1)
    exact ⟨[], .inl ⟨rfl, rfl, rfl⟩, rfl, fun i n c hn _ => by simp at hn, Grow.refl hw⟩
  · have heq : eqA .slice v (.slice none 0) = some false := by
      rcases slForms hS.1 with h1 | ⟨b, o, rfl⟩ | ⟨rfl, _⟩ | ⟨rfl, _⟩
      · exact absurd h1 hnil
      · rfl
      · rfl
      · rfl
    have hroom := roomOK H (b := 80) (by decide) hl
    rw [← hcl] at hroom
    repeat with_reducible first | refine nxt_normal ?_ | refine st_nil ?_ | refine cd_seq ?_ | refine cd_ops ?_ | (apply st_q; exact q1)
    refine st_q (v := .bool false) (b := none) (by simp only [qA_eql, ev_put, ev_start, ev_val, Nat.reduceEqDiff, if_true, if_false, heq]; rfl) ?_
    repeat with_reducible first | refine nxt_normal ?_ | refine st_nil ?_ | refine cd_seq ?_ | refine cd_ops ?_ | refine cd_skip ?_ | (apply cd_condF; exact e1)
    refine st_T (by exact tE) (by exact t1) ?_
    repeat with_reducible (apply st_q; exact q1)
    refine clone_gen (by exact e1) (by exact e1) hS (by decide) (.inl hnil) hone hroom hw ?_
    intro r h' B g
    rw [hcl] at B
    repeat' with_reducible first | refine nxt_normal ?_ | refine st_nil ?_ | refine cd_ret ?_ | (apply st_q; exact q1) | (apply fin_ret; exact n1; exact r1)
    exact ⟨cs, B, hcl, hcn, g⟩
end
end Go.Ab.S
end
section
/-
  The same graph twice: the same nodes, one by one.
-/
namespace Go.Ab.S
open Go.Ab
set_option maxHeartbeats 8000000
section
variable {fns : FuncId → Option AFunc} {summ : FuncId → List AVal → AHeap → Option (D (AVal × AHeap))}
variable (H : Has fns summ)
include H
theorem Equal_ok (g : Graph) (hg : GraphSm g) (v u : AVal) (h : AHeap) (hw : WF h) (hv : GraphAt h v g) (hu : GraphAt h u g) : Cl fns summ 15 [v, u] h fun r h' => r = .bool true ∧ Grow h h' := by
  obtain ⟨nv, rfl, hN⟩ := hv
  obtain ⟨mv, rfl, hM⟩ := hu
  have hlN := hN.len
  have hlM := hM.len
  have hsm : Hid (∀ n ∈ g.nodes, NodeSm n) := ⟨hg.all⟩
  have hNN := hg.nodes
  refine H.go (fn := F_Equal) rfl (by decide) rfl rfl ?_
  unfold F_Equal
  dsimp only
  refine cd_seq (cd_ops ?_)
  refine st_box (by exact e1) (by exact cc) hw ?_
  rintro b2 h2 hb2 g2 o2
  refine st_box (by exact e1) (by exact cc) g2.wf ?_
  rintro b3 h3 hb3 g3 o3
  replace o2 := g3.keep _ _ o2
  have g03 := g2.trans g3
  have z1 : (g.root != g.root) = false := by simp
  have z2 : ((Int.ofNat g.nodes.length : Int) != Int.ofNat g.nodes.length) = false := by simp
  clear hb2 hb3 g2
  repeat with_reducible first | refine nxt_normal ?_ | refine st_nil ?_ | refine cd_seq ?_ | refine cd_ops ?_ | refine cd_skip ?_ | (apply st_q; exact q1) | (apply st_qT; exact e1; exact q1) | (apply cd_condF; exact e1)
  refine cd_count (N := g.nodes.length) (by omega) (fun j a hp => Grow h3 hp ∧ a.defers = [] ∧ ev a (.tmp 2) = some (.ptr (some (b2, 0))) ∧ ev a (.tmp 3) = some (.ptr (some (b3, 0))))
    (by rintro j a hp t w (rfl | rfl | rfl) ⟨h1, h2, h3, h4⟩ <;> exact ⟨h1, by rw [defers_put]; exact h2, by exact e1, by exact e1⟩) (by decide) ?_ ?_ ⟨Grow.refl g3.wf, by exact n1, by exact e1, by exact e1⟩ (by exact e1) (by exact e1)
  · rintro j a hp hj ⟨gp, hd, e2', e3'⟩ hi hn
    obtain ⟨b, o, ver, ro, e, vs, av, lv, hix, hget, hvl, hvo, _, _, w2, _, _, ha, hl⟩ := (hN.mono (g03.trans gp)).at (List.getElem?_eq_getElem hj)
    obtain ⟨b', o', ver', ro', e', vs', bv, mv', hix', hget', hvl', hvo', _, _, w2', _, _, hb, hm⟩ := (hM.mono (g03.trans gp)).at (List.getElem?_eq_getElem hj)
    have hpart : partA (some 5) vs o = some (nodeV g.nodes[j] av lv) := by rw [partA, if_pos hvl, hvo]; rfl
    have hpart' : partA (some 5) vs' o' = some (nodeV g.nodes[j] bv mv') := by rw [partA, if_pos hvl', hvo']; rfl
    have o2p := gp.keep _ _ o2
    have o3p := gp.keep _ _ o3
    have hmem := List.getElem_mem hj
    have hsj := hsm.out _ hmem
    have hargs := hsj.args
    clear z1 z2 o2 o3
    repeat with_reducible first | refine nxt_normal ?_ | refine st_nil ?_ | refine cd_seq ?_ | refine cd_ops ?_ | refine cd_blockS ?_ | refine cd_draw ?_ | (apply dr_q; exact q1) | (apply dr_ql; exact q1; exact og1) | (apply st_q; exact q1)
    refine dr_e (ex_callF (by exact s1) ((Alike_ok H _ _ hsj av lv bv mv' hp gp.wf ha hl hb hm).mono ?_))
    rw [alike_refl]
    rintro _ h4 ⟨rfl, g4⟩
    have k1 := g4.keep _ _ o2p
    have k2 := g4.keep _ _ o3p
    have k3 := g4.keep _ _ hget
    have k4 := g4.keep _ _ hget'
    refine ⟨by simp [heldOk, Nat.testBit, k1, k2, k3, k4], ?_⟩
    clear o2p o3p hget hget'
    repeat with_reducible first | (apply dr_gT; exact e1) | (apply dr_q; exact q1) | (apply dr_ql; exact q1; exact og1)
    refine dr_e (ex_callF (by exact s1) ((Ints_ok H _ _ hargs av bv h4 (ha.mono g4) (hb.mono g4)).mono ?_))
    rw [eqII_refl]
    rintro _ _ ⟨rfl, rfl⟩
    refine ⟨by simp [heldOk, Nat.testBit, k1, k2, k3, k4], ?_⟩
    repeat with_reducible first | refine nxt_normal ?_ | refine blk_normal ?_ | refine cd_skip ?_ | refine dr_nil ?_ | (apply dr_gT; exact e1) | (apply dr_q; exact q1) | (apply cd_condF; exact e1)
    exact ⟨⟨gp.trans g4, by exact n1, by exact e1, by exact e1⟩, by exact e1, by exact e1⟩
  · rintro a hp ⟨gp, hd, e2', e3'⟩
    repeat' with_reducible first | refine nxt_normal ?_ | refine st_nil ?_ | refine cd_seq ?_ | refine cd_ops ?_ | refine cd_ret ?_ | (apply st_q; exact q1) | (apply fin_ret; exact n1; exact r1)
    exact ⟨rfl, g03.trans gp⟩
end
end Go.Ab.S
end
section
/-
  What is trimmed, trimmed again, is the same.
-/
namespace Go.Ab.S
open Go Go.Ab
theorem reachG_more {g : Graph} (hc : checkF g = 0) : ∀ (m k : Nat) (st out : List Int), Ok g.nodes.length st → st.length + leftG out g.nodes 0 ≤ m → reachG g.nodes (m + k) st out = reachG g.nodes m st out
  | 0, k, st, out, _, hm => by
    have : st = [] := List.length_eq_zero_iff.1 (by omega)
    subst this
    cases k <;> rfl
  | m + 1, k, [], out, _, _ => by rw [show m + 1 + k = (m + k) + 1 by omega]; rfl
  | m + 1, k, a :: st, out, hs, hm => by
    have hst : Ok g.nodes.length st := fun b hb => hs b (by simp [hb])
    obtain ⟨a0, a1⟩ := hs a (by simp)
    rw [show m + 1 + k = (m + k) + 1 by omega, reachG, reachG]
    simp only [List.length_cons] at hm
    split
    · exact reachG_more hc m k st out hst (by omega)
    · rename_i hcon
      obtain ⟨i, hi, hiN, hn⟩ : ∃ i : Nat, a = (i : Int) ∧ ∃ hi : i < g.nodes.length, nodeD g a = g.nodes[i] := ⟨a.toNat, by omega, by omega, by simp [nodeD, List.getElem?_eq_getElem (show a.toNat < g.nodes.length by omega)]⟩
      have hput := (leftG_put out i g.nodes 0).2 (Nat.zero_le _) (by rw [← hi]; simpa using hcon) g.nodes[i] (by simpa using List.getElem?_eq_getElem hiN)
      have hargs : argsN g.nodes a = g.nodes[i].args := by rw [argsN_D, hn]
      rw [hargs, hi]
      refine reachG_more hc m k _ _ (fun b hb => ?_) (by rw [List.length_append]; omega)
      rcases List.mem_append.1 hb with hb | hb
      · exact may_args ((check_ns hc).2 _ (List.getElem_mem hiN)) b hb
      · exact hst b hb
theorem reachF_fuel {g : Graph} (hc : checkF g = 0) {m : Nat} (hm : 1 + leftG [] g.nodes 0 ≤ m) : reachF g = reachG g.nodes m [g.root] [] := by
  have hr := check_root hc
  rw [reachF, if_pos hc, show m = (1 + leftG [] g.nodes 0) + (m - (1 + leftG [] g.nodes 0)) by omega]
  exact (reachG_more hc _ _ _ _ (fun b hb => by rw [List.mem_singleton.1 hb]; exact ⟨hr.1, hr.2.1⟩) (by simp)).symm
theorem reachG_map {g L : Graph} {q : Int → Int} (hN : ∀ a, Rch g a → argsN L.nodes (q a) = (argsN g.nodes a).map q) (hinj : ∀ a b, Rch g a → Rch g b → q a = q b → a = b) : ∀ (m : Nat) (st out : List Int), (∀ a ∈ st, Rch g a) → (∀ a ∈ out, Rch g a) → reachG L.nodes m (st.map q) (out.map q) = (reachG g.nodes m st out).map q
  | 0, _, _, _, _ => rfl
  | _ + 1, [], _, _, _ => rfl
  | m + 1, a :: st, out, h1, h2 => by
    have ha := h1 a (by simp)
    have hst : ∀ b ∈ st, Rch g b := fun b hb => h1 b (by simp [hb])
    have hc : (out.map q).contains (q a) = out.contains a := by
      rw [Bool.eq_iff_iff]
      simp only [List.contains_iff_mem, List.mem_map]
      exact ⟨fun ⟨b, hb, he⟩ => hinj b a (h2 b hb) ha he ▸ hb, fun h => ⟨a, h, rfl⟩⟩
    rw [List.map_cons, reachG, reachG, hc]
    split
    · exact reachG_map hN hinj m st out hst h2
    · have := reachG_map hN hinj m (argsN g.nodes a ++ st) (out ++ [a]) (fun b hb => by
        rcases List.mem_append.1 hb with hb | hb
        · rw [argsN_D] at hb; exact .step ha hb
        · exact hst b hb) (fun b hb => by
        rcases List.mem_append.1 hb with hb | hb
        · exact h2 b hb
        · rw [List.mem_singleton.1 hb]; exact ha)
      rw [← this, List.map_append, List.map_append, hN a ha]
      rfl
theorem idx_inj {l : List Int} {a b : Int} (ha : a ∈ l) (hb : b ∈ l) (h : toIdx l a = toIdx l b) : a = b := by
  have h1 := (idx_lt ha).2
  rw [h, (idx_lt hb).2] at h1
  exact (Option.some.inj h1).symm
theorem idx_nodup : ∀ (l : List Int), l.Nodup → (l.map fun a => (toIdx l a : Int)) = allN l.length := by
  intro l hl
  refine List.ext_getElem (by simp [allN]) fun i h1 h2 => ?_
  simp only [List.length_map] at h1
  simp only [List.getElem_map, allN, List.getElem_range]
  obtain ⟨h3, h4⟩ := idx_lt (List.getElem_mem h1)
  rw [List.getElem?_eq_getElem h3] at h4
  have := (List.getElem_inj hl).1 (Option.some.inj h4)
  omega
/-- What a trimmed graph's reach is. -/
theorem reach_trim {g : Graph} (hc : checkF g = 0) : reachF (trimF g) = allN (reachF g).length := by
  have Q := trim_quo hc
  have hcL := Q.check
  have hmem := reach_iff hc
  have hN : ∀ a, Rch g a → argsN (trimF g).nodes ((fun a => (toIdx (reachF g) a : Int)) a) = (argsN g.nodes a).map fun a => (toIdx (reachF g) a : Int) := fun a ha => by
    rw [argsN_D, argsN_D, Q.node a ha]
  have hi : ∀ a b, Rch g a → Rch g b → (toIdx (reachF g) a : Int) = (toIdx (reachF g) b : Int) → a = b := fun a b ha hb h => idx_inj ((hmem a).2 ha) ((hmem b).2 hb) (by omega)
  have := reachG_map (L := trimF g) hN hi (max (1 + leftG [] g.nodes 0) (1 + leftG [] (trimF g).nodes 0)) [g.root] [] (fun b hb => by rw [List.mem_singleton.1 hb]; exact .root) (fun b hb => by cases hb)
  rw [reachF_fuel hcL (Nat.le_max_right (1 + leftG [] g.nodes 0) _), Q.root]
  rw [← reachF_fuel hc (Nat.le_max_left _ _)] at this
  exact this.trans (idx_nodup _ (reachF_ok g).2)
theorem idx_allN {n : Nat} {a : Int} (h : 0 ≤ a ∧ a < n) : (toIdx (allN n) a : Int) = a := by
  obtain ⟨_, h2⟩ := idx_lt (mem_allN.2 h)
  generalize toIdx (allN n) a = k at h2 ⊢
  simp only [allN, List.getElem?_map] at h2
  obtain ⟨j, hj, he⟩ := Option.map_eq_some_iff.1 h2
  obtain ⟨hjl, hj2⟩ := List.getElem?_eq_some_iff.1 hj
  simp only [List.getElem_range] at hj2
  omega
theorem trim_trim {g : Graph} (hc : checkF g = 0) : trimF (trimF g) = trimF g := by
  have Q := trim_quo hc
  have hl : (trimF g).nodes.length = (reachF g).length := by simp [trimF]
  have hN := (check_ns Q.check).2
  have h : trimF (trimF g) = ⟨(allN (trimF g).nodes.length).map fun i => nodeD (trimF g) i, 0⟩ := by
    conv => lhs; rw [trimF]
    rw [reach_trim hc, ← hl]
    refine congrArg (fun l => Graph.mk l 0) (List.map_congr_left fun i hi => ?_)
    have hm := hN _ (node_in (mem_allN.1 hi))
    have : (nodeD (trimF g) i).args.map (fun a => (toIdx (allN (trimF g).nodes.length) a : Int)) = (nodeD (trimF g) i).args := by
      conv => rhs; rw [← List.map_id (nodeD (trimF g) i).args]
      exact List.map_congr_left fun a ha => idx_allN (may_args hm a ha)
    rw [trimN, this]
  rw [h, all_nodes]; rfl
end Go.Ab.S
end
section
/-
  What a type without free nodes is.
-/
namespace Go.Ab.S
open Go Go.Ab
def closeN (n : Node) : Node := if n.kind = 1 then ⟨2, [117, 110, 105, 116], [], [], false⟩ else { n with isOpen := false }
def closeG (g : Graph) : Graph := ⟨g.nodes.map closeN, g.root⟩
def closeF (g : Graph) : Graph := if checkF g = 0 then trimF (closeG g) else ⟨[], 0⟩
theorem close_may {n : Node} {N : Int} (h : mayF n N = true) : mayF (closeN n) N = true := by
  unfold closeN
  rcases may_kind h with ⟨h1, _⟩ | ⟨h1, _, h3, _⟩ | ⟨h1, _⟩
  · rw [if_pos h1]; rfl
  · rw [if_neg (by omega)]
    have : { n with isOpen := false } = n := by cases n; simp only at h3; subst h3; rfl
    rw [this]; exact h
  · rw [if_neg (by omega)]
    unfold mayF at h ⊢
    simp only [h1] at h ⊢
    exact h
theorem close_node {g : Graph} {a : Int} (ha : 0 ≤ a ∧ a < g.nodes.length) : nodeD (closeG g) a = closeN (nodeD g a) := by
  have hk : a.toNat < g.nodes.length := by omega
  simp only [nodeD, closeG, List.getD, List.getElem?_map, List.getElem?_eq_getElem hk]; rfl
theorem close_check {g : Graph} (hc : checkF g = 0) : checkF (closeG g) = 0 := by
  have hr := check_root hc
  have hN := check_ns hc
  refine checkF_ok hr.1 (by simp [closeG]; exact hr.2.1) ?_ fun n hn => ?_
  · have := hr.2.2.1; simp [closeG]; exact this
  · obtain ⟨m, hm, rfl⟩ := List.mem_map.1 hn
    simp only [closeG, List.length_map]
    exact close_may (hN.2 m hm)
theorem close_free {n : Node} : freeF (closeN n) = false ∧ cfreeF (closeN n) = false ∧ (closeN n).kind ≠ 1 ∧ (closeN n).isOpen = false := by
  unfold closeN
  split
  · exact ⟨rfl, rfl, by decide, rfl⟩
  · rename_i h
    have : (n.kind == 1) = false := by simpa using h
    exact ⟨by simp [freeF, this], by simp [cfreeF, this], h, rfl⟩
theorem close_args {n : Node} {N : Int} (h : mayF n N = true) : (closeN n).args = n.args := by
  unfold closeN
  split
  · rename_i hk
    rcases may_kind h with ⟨_, _, _, _, h5⟩ | ⟨h1, _⟩ | ⟨h1, _⟩
    · exact h5.symm
    · omega
    · omega
  · rfl
theorem close_rch {g : Graph} (hc : checkF g = 0) {a : Int} : Rch (closeG g) a ↔ Rch g a := by
  constructor
  · intro h
    induction h with
    | root => exact .root
    | step _ hb ih =>
      rw [close_node (ih.ok hc), close_args (may_at hc (ih.ok hc))] at hb
      exact .step ih hb
  · intro h
    induction h with
    | root => exact .root
    | step hr hb ih =>
      refine .step ih ?_
      rw [close_node (hr.ok hc), close_args (may_at hc (hr.ok hc))]
      exact hb
theorem closeF_eq {g : Graph} (hc : checkF g = 0) : closeF g = trimF (closeG g) := if_pos hc
def qC (g : Graph) (a : Int) : Int := (toIdx (reachF (closeG g)) a : Nat)
theorem close_quo {g : Graph} (hc : checkF g = 0) : Quo (closeG g) (closeF g) (qC g) := by
  rw [closeF_eq hc]; exact trim_quo (close_check hc)
theorem close_at {g : Graph} (hc : checkF g = 0) {a : Int} (ha : Rch g a) : nodeD (closeF g) (qC g a) = { closeN (nodeD g a) with args := (nodeD g a).args.map (qC g) } := by
  rw [(close_quo hc).node a ((close_rch hc).2 ha), close_node (ha.ok hc), close_args (may_at hc (ha.ok hc))]
theorem close_all {g : Graph} (hc : checkF g = 0) {x : Int} (h : 0 ≤ x ∧ x < (closeF g).nodes.length) : ∃ a, Rch g a ∧ qC g a = x := by
  obtain ⟨a, h1, h2⟩ := (close_quo hc).surj x h.1 h.2
  exact ⟨a, (close_rch hc).1 h1, h2⟩
theorem close_none {g : Graph} (hc : checkF g = 0) {x : Int} (h : 0 ≤ x ∧ x < (closeF g).nodes.length) : freeF (nodeD (closeF g) x) = false ∧ cfreeF (nodeD (closeF g) x) = false ∧ (nodeD (closeF g) x).kind ≠ 1 ∧ (nodeD (closeF g) x).isOpen = false := by
  obtain ⟨a, h1, rfl⟩ := close_all hc h
  rw [close_at hc h1]
  exact close_free (n := nodeD g a)
theorem closed_iff {g : Graph} (hc : checkF g = 0) : closedF g = true ↔ ∀ a, Rch g a → cfreeF (nodeD g a) = false := by
  unfold closedF freeL
  rw [hc]
  simp only [beq_self_eq_true, Bool.true_and, beq_iff_eq, List.length_eq_zero_iff, List.filter_eq_nil_iff]
  constructor
  · intro h a ha
    have := h a ((reach_iff hc a).2 ha)
    rw [free_cfree (may_at hc (ha.ok hc))] at this
    simpa using this
  · intro h a ha
    have hr := (reach_iff hc a).1 ha
    rw [free_cfree (may_at hc (hr.ok hc)), h a hr]; simp
theorem close_closed {g : Graph} (hc : checkF g = 0) : closedF (closeF g) = true := by
  have hk := (close_quo hc).check
  exact (closed_iff hk).2 fun a ha => (close_none hc (ha.ok hk)).2.1
theorem close_close {g : Graph} (hc : checkF g = 0) : closeF (closeF g) = closeF g := by
  have hk := (close_quo hc).check
  have h1 : closeG (closeF g) = closeF g := by
    have : (closeF g).nodes.map closeN = (closeF g).nodes := by
      conv => rhs; rw [← List.map_id (closeF g).nodes]
      refine List.map_congr_left fun n hn => ?_
      rw [← all_nodes (closeF g)] at hn
      obtain ⟨x, hx, rfl⟩ := List.mem_map.1 hn
      obtain ⟨_, _, h3, h4⟩ := close_none hc (mem_allN.1 hx)
      unfold closeN
      rw [if_neg h3, ← h4]; rfl
    rw [closeG, this]
  rw [closeF_eq hk, h1, closeF_eq hc]
  exact trim_trim (close_check hc)
theorem is_close {g : Graph} (hg : GTi g) (hgc : GTi (closeF g)) (hc : checkF g = 0) : isF g (closeF g) = true := by
  have hk := (close_quo hc).check
  have Q := close_quo hc
  have L := least_quo hk
  have hR : ∀ a, Rch g a → Rch (closeF g) (qC g a) := fun a ha => by
    induction ha with
    | root => have := Q.root; rw [show (closeG g).root = g.root from rfl] at this; rw [← this]; exact .root
    | step hr hb ih => exact .step ih (by rw [close_at hc hr]; exact List.mem_map.2 ⟨_, hb, rfl⟩)
  refine (isF_iff hg hgc hc hk).2 ⟨fun a z => Rch g a ∧ z = qL (closeF g) (qC g a), ⟨.root, ?_⟩, ?_, ?_, ?_⟩
  · rw [L.root, Q.root]; rfl
  · rintro a _ ⟨ha, rfl⟩
    exact ⟨ha.ok hc, L.range _ (hR a ha)⟩
  · rintro a _ ⟨ha, rfl⟩
    by_cases h1 : (nodeD g a).kind = 1
    · exact .inl h1
    have hm := may_at hc (ha.ok hc)
    have hn := L.node _ (hR a ha)
    have hcn : closeN (nodeD g a) = { nodeD g a with isOpen := false } := if_neg h1
    rw [close_at hc ha, hcn] at hn
    have hlab : (nodeD g a).labels = (nodeD (leastF (closeF g)) (qL (closeF g) (qC g a))).labels := by rw [hn]
    refine .inr ⟨h1, by rw [hn], by rw [hn], .inr ⟨by rw [hn], hlab⟩, ok_same hm hlab, fun i hi => ?_⟩
    rw [idx_same (M := 0) hm hlab hi]
    refine ⟨rch_arg ha hi, ?_⟩
    rw [quo_arg L (hR a ha) (by rw [close_at hc ha]; simpa using hi), close_at hc ha]
    simp only [List.getD, List.getElem?_map, List.getElem?_eq_getElem hi]; rfl
  · rintro a _ _ ⟨_, rfl⟩ ⟨_, rfl⟩ _; rfl
end Go.Ab.S
end
section
/-
  The law of types without free nodes.
-/
namespace Go.Ab.S
open Go Go.Ab
theorem close_tiny {g : Graph} (hg : GTi g) (hc : checkF g = 0) : GTi (closeF g) := by
  rw [closeF_eq hc]
  refine trim_tiny ?_ (close_check hc)
  have hlf : leftG [] (g.nodes.map closeN) 0 = leftG [] g.nodes 0 := by
    rw [leftG_sum, leftG_sum, List.map_map]
    refine congrArg List.sum (List.map_congr_left fun n hn => ?_)
    show (closeN n).args.length = _
    rw [close_args ((check_ns hc).2 n hn)]
  have hlab : ∀ n : Node, (closeN n).labels = [] ∨ (closeN n).labels = n.labels := fun n => by
    unfold closeN; split
    · exact .inl rfl
    · exact .inr rfl
  have e : (closeG g).nodes.length = g.nodes.length := by simp [closeG]
  refine ⟨⟨⟨by rw [e]; exact hg.nodes, fun n hn => ?_⟩, by rw [e]; show _ + leftG [] (g.nodes.map closeN) 0 ≤ _; rw [hlf]; exact hg.total, fun n hn => ?_⟩, by rw [e]; show _ + leftG [] (g.nodes.map closeN) 0 ≤ _; rw [hlf]; exact hg.tiny⟩
  · obtain ⟨m, hm, rfl⟩ := List.mem_map.1 hn
    have := hg.all m hm
    refine ⟨by rw [close_args ((check_ns hc).2 m hm)]; exact this.args, ?_, ?_⟩
    · rcases hlab m with h | h
      · rw [h]; decide
      · rw [h]; exact this.labels
    · rcases hlab m with h | h
      · rw [h]; intro s hs; cases hs
      · rw [h]; exact this.texts
  · obtain ⟨m, hm, rfl⟩ := List.mem_map.1 hn
    rcases hlab m with h | h
    · rw [h]; decide
    · rw [h]; exact hg.labs m hm
theorem close_same {g : Graph} (hc : checkF g = 0) : closedF g = sameF g (closeF g) := by
  have hk := (close_quo hc).check
  have Q := close_quo hc
  rw [Bool.eq_iff_iff, sameF_iff hc hk, closed_iff hc]
  constructor
  · intro h
    refine ⟨fun a b => Rch g a ∧ b = qC g a, ⟨.root, Q.root⟩, ?_, ?_, ?_, ?_⟩
    · rintro a _ ⟨ha, rfl⟩
      exact ⟨ha.ok hc, Q.range _ ((close_rch hc).2 ha)⟩
    · rintro a _ ⟨ha, rfl⟩
      have hf := h a ha
      simp only [cfreeF, Bool.or_eq_false_iff, beq_eq_false_iff_ne] at hf
      have hcn : closeN (nodeD g a) = nodeD g a := by
        unfold closeN
        rw [if_neg hf.1, ← hf.2]
      rw [close_at hc ha, hcn]
      refine ⟨rfl, rfl, rfl, rfl, by simp, fun i hi => ⟨rch_arg ha hi, ?_⟩⟩
      simp only [List.getD, List.getElem?_map, List.getElem?_eq_getElem hi]; rfl
    · rintro a _ _ ⟨_, rfl⟩ ⟨_, rfl⟩ _; rfl
    · rintro a b c ⟨ha, _⟩ _ hf
      rw [h a ha] at hf; cases hf
  · rintro ⟨R, K⟩ a ha
    have : ∃ b, R a b := by
      induction ha with
      | root => exact ⟨_, K.root⟩
      | @step a b hr hb ih =>
        obtain ⟨c, hcR⟩ := ih
        obtain ⟨i, hi, rfl⟩ := List.getElem_of_mem hb
        have := (K.node a c hcR).2.2.2.2.2 i hi
        rw [List.getD, List.getElem?_eq_getElem hi] at this
        exact ⟨_, this⟩
    obtain ⟨b, hb⟩ := this
    obtain ⟨h1, _, h3, _⟩ := K.node a b hb
    obtain ⟨_, h5, _⟩ := close_none hc (K.range a b hb).2
    simpa only [cfreeF, h1, h3] using h5
theorem close_back {g : Graph} (hg : GTi g) (hc : checkF g = 0) : isF (closeF g) g = closedF g := by
  have hk := (close_quo hc).check
  have hgc := close_tiny hg hc
  rw [Bool.eq_iff_iff]
  constructor
  · intro h
    obtain ⟨S, K⟩ := (isF_iff hgc hg hk hc).1 h
    have hmeet : ∀ b, Rch g b → ∃ a, S a (qL g b) := fun b hb => by
      induction hb with
      | root => exact ⟨_, (least_quo hc).root ▸ K.root⟩
      | @step b d hr hd ih =>
        obtain ⟨a, ha⟩ := ih
        obtain ⟨_, _, k1, k2⟩ := close_none hc (K.range _ _ ha).1
        rcases inst_node hk hc K hr ha with h1 | ⟨_, h2, h3, h4, _, h6⟩
        · exact absurd h1 k1
        · have h4 : (nodeD g b).isOpen = false ∧ (nodeD (closeF g) a).labels = (nodeD g b).labels := by
            rcases h4 with h4 | h4
            · rw [k2] at h4; cases h4
            · exact h4
          obtain ⟨i, hi, rfl⟩ := List.getElem_of_mem hd
          have ma := may_at hk (K.range _ _ ha).1
          have mb := may_at hc (hr.ok hc)
          have hlen : (nodeD (closeF g) a).args.length = (nodeD g b).args.length := by
            rcases may_kind ma with ⟨a1, _⟩ | ⟨a1, _, _, _, a5⟩ | ⟨a1, _, a3, _⟩
            · exact absurd a1 k1
            · rcases may_kind mb with ⟨b1, _⟩ | ⟨b1, _, _, _, b5⟩ | ⟨b1, _, b3, _⟩
              · omega
              · rw [a5, b5, h3]
              · omega
            · rcases may_kind mb with ⟨b1, _⟩ | ⟨b1, _, _, _, b5⟩ | ⟨b1, _, b3, _⟩
              · omega
              · omega
              · rw [← a3, ← b3, h4.2]
          have := (h6 i (by omega)).2
          rw [idx_same (M := 0) ma h4.2 (by omega), List.getD, List.getD, List.getElem?_eq_getElem hi] at this
          exact ⟨_, this⟩
    refine (closed_iff hc).2 fun b hb => ?_
    obtain ⟨a, ha⟩ := hmeet b hb
    obtain ⟨_, _, k1, k2⟩ := close_none hc (K.range _ _ ha).1
    rcases inst_node hk hc K hb ha with h1 | ⟨_, h2, h3, h4, _⟩
    · exact absurd h1 k1
    · have h4 : (nodeD g b).isOpen = false := by
        rcases h4 with h4 | h4
        · rw [k2] at h4; cases h4
        · exact h4.1
      have : (nodeD g b).kind ≠ 1 := by rw [← h2]; exact k1
      simp [cfreeF, this, h4]
  · intro h
    rw [close_same hc, is_same hg hgc hc hk, Bool.and_eq_true] at h
    exact h.2
end Go.Ab.S
end
section
/-
  A type without free nodes.
-/
namespace Go.Ab.S
open Go.Ab
set_option maxHeartbeats 8000000
theorem store_get {vs cs : List AVal} {o : Nat} (h : o + cs.length ≤ vs.length) (i : Nat) : (vs.take o ++ cs ++ vs.drop (o + cs.length))[i]? = if o ≤ i ∧ i < o + cs.length then cs[i - o]? else vs[i]? := by
  have hl : (vs.take o).length = o := by rw [List.length_take]; omega
  by_cases h1 : i < o
  · rw [if_neg (by omega), List.append_assoc, List.getElem?_append_left (by omega), List.getElem?_take, if_pos h1]
  · by_cases h2 : i < o + cs.length
    · rw [if_pos (by omega), List.append_assoc, List.getElem?_append_right (by omega), hl, List.getElem?_append_left (by omega)]
    · rw [if_neg (by omega), List.getElem?_append_right (by rw [List.length_append, hl]; omega), List.getElem?_drop, List.length_append, hl]
      congr 1; omega
theorem store_len {vs cs : List AVal} {o : Nat} (h : o + cs.length ≤ vs.length) : (vs.take o ++ cs ++ vs.drop (o + cs.length)).length = vs.length := by
  simp only [List.length_append, List.length_take, List.length_drop]; omega
/-- Cells that are a row of nodes. -/
def RowN (h : AHeap) (vs : List AVal) (l : List Node) : Prop := l.length * 5 ≤ vs.length ∧ ∀ i n, l[i]? = some n → ∃ c, NodeAt h c n ∧ ∀ k, k < 5 → vs[i * 5 + k]? = c[k]?
theorem _root_.Go.Ab.NodeAt.size {h : AHeap} {c : List AVal} {n : Node} (k : NodeAt h c n) : c.length = 5 := by obtain ⟨_, _, rfl, _⟩ := k; rfl
theorem RowN.at {h h' : AHeap} {vs : List AVal} {l : List Node} (k : RowN h vs l) (g : Grow h h') {b ver : Nat} {ro : Bool} {e : TypeId} (hb : h'.objs.get b = some (ver, .cells ro e vs)) : NodesAt h' (.slice (some (b, 0)) l.length) l := by
  obtain ⟨k1, k2⟩ := k
  have hseg : ∀ i n, l[i]? = some n → NodeAt h ((vs.drop (i * 5)).take 5) n := fun i n hn => by
    obtain ⟨c, hc, hcs⟩ := k2 i n hn
    have : (vs.drop (i * 5)).take 5 = c := by
      apply List.ext_getElem?
      intro m
      have := hc.size
      by_cases hm : m < 5
      · rw [List.getElem?_take, if_pos hm, List.getElem?_drop]; exact hcs m hm
      · rw [List.getElem?_take, if_neg hm, List.getElem?_eq_none (by omega)]
    rw [this]; exact hc
  refine ⟨(List.range l.length).map fun i => (vs.drop (i * 5)).take 5, ⟨by simp [lenO], fun i x hx => ?_⟩, by simp, fun i n c hn hc => ?_⟩
  · simp only [List.getElem?_map, Option.map_eq_some_iff, List.getElem?_range'] at hx
    obtain ⟨j, hj, rfl⟩ := hx
    obtain ⟨hjl, rfl⟩ := List.getElem?_eq_some_iff.1 hj
    rw [List.getElem_range]
    have hil : i < l.length := by simpa using hjl
    exact ⟨(hseg i _ (List.getElem?_eq_getElem hil)).size, b, 0 + i * 5, ver, ro, e, vs, by simp [slA, hil], hb, by rw [Nat.zero_add]⟩
  · simp only [List.getElem?_map, Option.map_eq_some_iff] at hc
    obtain ⟨j, hj, rfl⟩ := hc
    obtain ⟨hjl, rfl⟩ := List.getElem?_eq_some_iff.1 hj
    rw [List.getElem_range]
    exact (hseg i n hn).mono g
/-- One node is told anew. -/
theorem RowN.set {h : AHeap} {vs vs' : List AVal} {l : List Node} (k : RowN h vs l) {j : Nat} {n : Node} (hj : j < l.length) (hl : vs'.length = vs.length) (hn : ∃ c, NodeAt h c n ∧ ∀ k, k < 5 → vs'[j * 5 + k]? = c[k]?) (ho : ∀ i, i < j * 5 ∨ j * 5 + 5 ≤ i → vs'[i]? = vs[i]?) : RowN h vs' (l.set j n) := by
  refine ⟨by rw [List.length_set, hl]; exact k.1, fun i m hm => ?_⟩
  by_cases hij : j = i
  · subst hij
    rw [List.getElem?_set_self hj] at hm
    cases hm
    exact hn
  · rw [List.getElem?_set_ne hij] at hm
    obtain ⟨c, hc, hcs⟩ := k.2 i m hm
    refine ⟨c, hc, fun q hq => ?_⟩
    rw [← hcs q hq]
    exact ho _ (by omega)
/-- Nodes of which so many are closed. -/
def clsTo (l : List Node) (j : Nat) : List Node := (l.take j).map closeN ++ l.drop j
theorem clsTo_len (l : List Node) (j : Nat) : (clsTo l j).length = l.length := by simp [clsTo]; omega
theorem clsTo_at {l : List Node} {j : Nat} (hj : j < l.length) : (clsTo l j)[j]? = some l[j] := by
  have h : ((l.take j).map closeN).length = j := by simp; omega
  rw [clsTo, List.getElem?_append_right (by omega), h, Nat.sub_self, List.getElem?_drop, Nat.add_zero, List.getElem?_eq_getElem hj]
theorem clsTo_set {l : List Node} {j : Nat} (hj : j < l.length) : (clsTo l j).set j (closeN l[j]) = clsTo l (j + 1) := by
  have h : ((l.take j).map closeN).length = j := by simp; omega
  rw [clsTo, List.set_append_right _ _ (by omega), h, Nat.sub_self, List.drop_eq_getElem_cons hj, List.set_cons_zero, clsTo, List.take_succ_eq_append_getElem hj, List.map_append, List.append_assoc]; rfl
theorem clsTo_all (l : List Node) : clsTo l l.length = l.map closeN := by simp [clsTo]
theorem close_GTi {g : Graph} (hg : GTi g) (hc : checkF g = 0) : GTi (closeG g) := by
  have hlf : leftG [] (g.nodes.map closeN) 0 = leftG [] g.nodes 0 := by
    rw [leftG_sum, leftG_sum, List.map_map]
    refine congrArg List.sum (List.map_congr_left fun n hn => ?_)
    show (closeN n).args.length = _
    rw [close_args ((check_ns hc).2 n hn)]
  have hlab : ∀ n : Node, (closeN n).labels = [] ∨ (closeN n).labels = n.labels := fun n => by
    unfold closeN; split
    · exact .inl rfl
    · exact .inr rfl
  have e : (closeG g).nodes.length = g.nodes.length := by simp [closeG]
  refine ⟨⟨⟨by rw [e]; exact hg.nodes, fun n hn => ?_⟩, by rw [e]; show _ + leftG [] (g.nodes.map closeN) 0 ≤ _; rw [hlf]; exact hg.total, fun n hn => ?_⟩, by rw [e]; show _ + leftG [] (g.nodes.map closeN) 0 ≤ _; rw [hlf]; exact hg.tiny⟩
  · obtain ⟨m, hm, rfl⟩ := List.mem_map.1 hn
    have := hg.all m hm
    refine ⟨by rw [close_args ((check_ns hc).2 m hm)]; exact this.args, ?_, ?_⟩
    · rcases hlab m with h | h
      · rw [h]; decide
      · rw [h]; exact this.labels
    · rcases hlab m with h | h
      · rw [h]; intro s hs; cases hs
      · rw [h]; exact this.texts
  · obtain ⟨m, hm, rfl⟩ := List.mem_map.1 hn
    rcases hlab m with h | h
    · rw [h]; decide
    · rw [h]; exact hg.labs m hm
/-- A row of nodes of one's own, as it is made. -/
theorem built_row {h h' : AHeap} {base n : Nat} {e : TypeId} {v : AVal} {l : List Node} {cs : List (List AVal)} (B : Built h' base e 5 v n cs.flatten) (hn : n = l.length) (hcl : cs.length = l.length) (hc : ∀ (i : Nat) (n : Node) (c : List AVal), l[i]? = some n → cs[i]? = some c → NodeAt h c n) (hpos : 0 < n) :
    ∃ b vs ver, base ≤ b ∧ v = .slice (some (b, 0)) n ∧ h'.objs.get b = some (ver, .cells false e vs) ∧ RowN h vs l := by
  rcases B with ⟨_, h0, _⟩ | ⟨_, h0, _⟩ | ⟨b, vs, ver, h0, h1, h2, h3, h4⟩
  · omega
  · omega
  refine ⟨b, vs, ver, h0, h1, h2, by rw [← hn]; exact h3, fun i m hm => ?_⟩
  have hil : i < l.length := (List.getElem?_eq_some_iff.1 hm).1
  have hic : i < cs.length := by omega
  have hN := hc i m _ hm (List.getElem?_eq_getElem hic)
  refine ⟨_, hN, fun k hk => ?_⟩
  have hflat : ∀ (ys : List (List AVal)), (∀ c ∈ ys, c.length = 5) → ∀ (j : Nat) (hj : j < ys.length) (k : Nat), k < 5 → ys.flatten[j * 5 + k]? = ys[j][k]? := by
    intro ys
    induction ys with
    | nil => intro _ j hj; simp at hj
    | cons y ys ih =>
      intro hall j hj k hk
      have hy : y.length = 5 := hall y (by simp)
      rw [List.flatten_cons]
      cases j with
      | zero => rw [List.getElem?_append_left (by omega)]; simp
      | succ j =>
        rw [List.getElem?_append_right (by omega), hy, List.getElem_cons_succ, ← ih (fun c hc => hall c (by simp [hc])) j (by simpa using hj) k hk]
        congr 1; omega
  have hall : ∀ c ∈ cs, c.length = 5 := fun c hcm => by
    obtain ⟨q, hq, rfl⟩ := List.mem_iff_getElem.1 hcm
    exact (hc q _ _ (List.getElem?_eq_getElem (by omega : q < l.length)) (List.getElem?_eq_getElem hq)).size
  rw [← hflat cs hall i hic k hk, ← h4, List.getElem?_take, if_pos (by omega)]
section
variable {fns : FuncId → Option AFunc} {summ : FuncId → List AVal → AHeap → Option (D (AVal × AHeap))}
variable (H : Has fns summ)
include H
theorem Close_own (g : Graph) (hg : GTi g) (v : AVal) (h : AHeap) (hw : WF h) (hv : GraphAt h v g) : Cl fns summ 13 [v] h fun r h' => OwnG h' h.next r (closeF g) ∧ Grow h h' := by
  obtain ⟨nv, rfl, hN⟩ := hv
  have hlen := hN.len
  have hone := one_of_len hlen
  have hNN : g.nodes.length ≤ 4096 := by have := hg.tiny; omega
  have tg := Hid.mk hg
  refine H.go (fn := F_Close) rfl (by decide) rfl rfl ?_
  unfold F_Close
  dsimp only
  refine cd_seq (cd_ops ?_)
  refine st_box (by exact e1) (by exact cc) hw ?_
  rintro b1 h1 hb1 g1' o1
  refine st_alloc g1'.wf ?_
  rintro b2 h2 hb2 g2 o2
  replace o1 := g2.keep _ _ o1
  have g02 := g1'.trans g2
  have hpart : partA (some 2) [nv, .int .i64 g.root] 0 = some (.agg [nv, .int .i64 g.root]) := rfl
  clear g2
  repeat with_reducible first | refine nxt_normal ?_ | refine st_nil ?_ | refine cd_seq ?_ | refine cd_ops ?_ | (apply st_q; exact q1)
  refine st_call (by exact s1) ((Check_ok H g tg.out.toGraphSm _ h2 g02.wf ⟨nv, rfl, hN.mono g02⟩).mono ?_)
  rintro _ h3 ⟨rfl, g3⟩
  replace o1 := g3.keep _ _ o1
  replace o2 := g3.keep _ _ o2
  have g03 := g02.trans g3
  cases hck : (checkF g != 0)
  rotate_left
  · have hz : closeF g = ⟨[], 0⟩ := by rw [closeF, if_neg (by simpa using hck)]
    replace hz := Hid.mk hz
    repeat with_reducible first | refine nxt_normal ?_ | refine st_nil ?_ | refine cd_seq ?_ | refine cd_ops ?_ | (apply st_q; exact q1) | (apply cd_condT; exact e1)
    refine st_store (by exact e1) (by exact e1) (cs := [.slice none 0, .int .i64 0]) rfl rfl g03.wf o2 (by simp) rfl ?_
    rintro v4 h4 p4 o4
    simp only [List.take_zero, List.nil_append, List.length_cons, List.length_nil, List.drop_succ_cons, List.drop_zero, List.append_nil, Nat.zero_add, Nat.reduceAdd, List.drop_nil, List.cons_append] at o4
    have g4 := p4.grow h hw g03 (by have := g1'.next; omega)
    have hpz : partA (some 2) [.slice none 0, .int .i64 0] 0 = some (.agg [.slice none 0, .int .i64 0]) := rfl
    repeat' with_reducible first | refine nxt_normal ?_ | refine nxt_ret ?_ | refine st_nil ?_ | refine cd_ret ?_ | (apply fin_ret; exact n1; exact r1)
    refine ⟨?_, g4⟩
    rw [hz.out]
    exact ⟨.slice none 0, [], rfl, .inl ⟨rfl, rfl, rfl⟩, rfl, fun i c n hc _ => by simp at hc⟩
  · have hc : checkF g = 0 := by simpa using hck
    replace hc := Hid.mk hc
    have o2' := o2
    have ho2 := g3.wf.lt o2'
    repeat with_reducible first | refine nxt_normal ?_ | refine st_nil ?_ | refine cd_seq ?_ | refine cd_skip ?_ | refine cd_draw ?_ | (apply dr_q; exact q1) | (apply dr_ql; exact q1; exact og1) | (apply st_q; exact q1) | (apply cd_condF; exact e1)
    refine dr_e (ex_callF (by exact s1) ((CloneNode_ok H g.nodes (by have e31 : (2 : Nat) ^ 31 = 2147483648 := by decide
                                                                     omega) nv h3 g3.wf (hN.mono g03)).mono ?_))
    rintro cv h4 ⟨cs, B, hcl, hcn, g4⟩
    replace o1 := g4.keep _ _ o1
    replace o2 := g4.keep _ _ o2
    have g04 := g03.trans g4
    refine ⟨by simp [heldOk, Nat.testBit, o1, o2], ?_⟩
    have hpos : 0 < g.nodes.length := by have := check_root hc.out; omega
    obtain ⟨bb, vs0, ver0, hbb, rfl, obb, hR0⟩ := built_row B rfl hcl hcn hpos
    clear B hcl hcn
    have hlv : lenO (.slice (some (bb, 0)) g.nodes.length) = some g.nodes.length := rfl
    have lbb := g4.wf.lt obb
    skip
    refine dr_st (st_alloc g4.wf ?_)
    rintro b3 h5 hb3 g5 o3
    refine st_nil ⟨by simp [heldOk, Nat.testBit, g5.keep _ _ o1], ?_⟩
    replace obb := g5.keep _ _ obb
    refine dr_st (st_store (by exact e1) (by exact e1) (cs := [.slice (some (bb, 0)) g.nodes.length, .int .i64 g.root]) rfl rfl g5.wf o3 (by simp) rfl ?_)
    rintro v6 h6 p6 o6
    simp only [List.take_zero, List.nil_append, List.length_cons, List.length_nil, List.drop_succ_cons, List.drop_zero, List.append_nil, Nat.zero_add, Nat.reduceAdd, List.drop_nil, List.cons_append] at o6
    refine st_nil ⟨by simp [heldOk, Nat.testBit], ?_⟩
    replace obb := p6.keep _ (by omega) _ obb
    have n34 := g4.next
    have G6 : Grow h3 h6 := p6.grow h3 g3.wf (g4.trans g5) (by omega)
    clear o1 o2 o3 p6 g5 g04
    have hR0' : RowN h3 vs0 (clsTo g.nodes 0) := by simpa [clsTo] using hR0
    clear hR0
    repeat with_reducible first | refine nxt_normal ?_ | refine st_nil ?_ | refine cd_seq ?_ | refine cd_ops ?_ | refine dr_nil ?_ | (apply st_q; exact q1)
    refine cd_count (N := g.nodes.length) (by omega) (fun j a hp => Grow h3 hp ∧ (∃ ver, hp.objs.get b3 = some (ver, .cells false 24 [.slice (some (bb, 0)) g.nodes.length, .int .i64 g.root])) ∧ (∃ vs ver, hp.objs.get bb = some (ver, .cells false 34 vs) ∧ RowN h3 vs (clsTo g.nodes j)) ∧ a.defers = [] ∧ ev a (.tmp 2) = some (.ptr (some (b2, 0))) ∧ ev a (.tmp 3) = some (.ptr (some (b3, 0))))
      (by rintro j a hp t w (rfl | rfl | rfl) ⟨h1, h2, h3, h4, h5, h6⟩ <;> exact ⟨h1, h2, h3, by rw [defers_put]; exact h4, by exact e1, by exact e1⟩) (by decide) ?_ ?_ ⟨G6, ⟨_, o6⟩, ⟨_, _, obb, hR0'⟩, by exact n1, by exact e1, by exact e1⟩ (by exact e1) (by exact e1)
    · clear o6 obb hR0' G6 hck hpos hlen hone
      rintro j a hp hj ⟨G, ⟨ver3, o3⟩, ⟨vs, ver, ob, hR⟩, hd, e2', e3'⟩ hi hn
      obtain ⟨c, hcN, hcs⟩ := hR.2 j _ (clsTo_at hj)
      obtain ⟨av, lv, rfl, ha, hl⟩ := hcN
      obtain ⟨o, ho⟩ : ∃ o, j * 5 = o := ⟨_, rfl⟩
      have hsz := hR.1
      rw [clsTo_len] at hsz
      have hin : o + 5 ≤ vs.length := by omega
      have hix : slA (.slice (some (bb, 0)) g.nodes.length) 5 j = some (bb, o) := by simp [slA, hj, ho]
      have w0 : vs[o]? = some (.int .i64 g.nodes[j].kind) := by have := hcs 0 (by omega); rw [ho] at this; simpa using this
      have ws : ∀ k, k < 5 → vs[o + k]? = ([.int .i64 g.nodes[j].kind, .str g.nodes[j].name, av, lv, .bool g.nodes[j].isOpen] : List AVal)[k]? := fun k hk => by rw [← ho]; exact hcs k hk
      replace ws := Hid.mk ws
      replace hR := Hid.mk hR
      clear hcs
      cases hk : (g.nodes[j].kind == 1)
      · have hcl : closeN g.nodes[j] = { g.nodes[j] with isOpen := false } := by rw [closeN, if_neg (by simpa using hk)]
        replace hcl := Hid.mk hcl
        repeat with_reducible first | refine nxt_normal ?_ | refine nxt_exit ?_ | refine blk_same ?_ | refine blk_other ?_ rfl | refine st_nil ?_ | refine cd_seq ?_ | refine cd_ops ?_ | refine cd_blockS ?_ | refine cd_skip ?_ | refine cd_exit ?_ | (apply st_q; exact q1) | (apply cd_condF; exact e1)
        refine st_store (by exact e1) (by exact e1) (cs := [.bool false]) rfl rfl G.wf ob (by simp; omega) rfl ?_
        rintro v7 h7 p7 o7
        have o37 := p7.keep _ (by omega) _ o3
        have G7 := p7.grow h3 g3.wf G hbb
        have E := Hid.mk (store_get (vs := vs) (cs := [.bool false]) (o := o + 4) (by simp; omega))
        have L := Hid.mk (store_len (vs := vs) (cs := [.bool false]) (o := o + 4) (by simp; omega))
        simp only [List.length_cons, List.length_nil, Nat.zero_add] at o7 E L
        generalize vs.take (o + 4) ++ [AVal.bool false] ++ vs.drop (o + 4 + 1) = vs' at o7 E L
        repeat with_reducible first | refine nxt_normal ?_ | refine blk_normal ?_ | refine blk_same ?_ | refine st_nil ?_ | refine cd_exit ?_
        refine ⟨⟨G7, ⟨_, o37⟩, ⟨_, _, o7, ?_⟩, by exact n1, by exact e1, by exact e1⟩, by exact e1, by exact e1⟩
        rw [← clsTo_set hj]
        refine hR.out.set (by rw [clsTo_len]; exact hj) L.out ⟨[.int .i64 g.nodes[j].kind, .str g.nodes[j].name, av, lv, .bool false], ⟨av, lv, by rw [hcl.out], by rw [hcl.out]; exact ha, by rw [hcl.out]; exact hl⟩, fun k hk => ?_⟩ fun i hi => ?_
        · rw [ho, E.out, ws.out k hk]
          rcases (by omega : k = 0 ∨ k = 1 ∨ k = 2 ∨ k = 3 ∨ k = 4) with rfl | rfl | rfl | rfl | rfl
          · rw [if_neg (by omega)]; rfl
          · rw [if_neg (by omega)]; rfl
          · rw [if_neg (by omega)]; rfl
          · rw [if_neg (by omega)]; rfl
          · rw [if_pos (by omega), Nat.sub_self]; rfl
        · rw [E.out, if_neg (by omega)]
      · have hcl : closeN g.nodes[j] = ⟨2, [117, 110, 105, 116], [], [], false⟩ := by rw [closeN, if_pos (by simpa using hk)]
        replace hcl := Hid.mk hcl
        repeat with_reducible first | refine nxt_normal ?_ | refine nxt_exit ?_ | refine blk_same ?_ | refine st_nil ?_ | refine cd_seq ?_ | refine cd_ops ?_ | refine cd_blockS ?_ | refine cd_exit ?_ | (apply st_q; exact q1) | (apply cd_condT; exact e1)
        refine st_q (v := .agg [.int .i64 2, .str [117, 110, 105, 116], .slice none 0, .slice none 0, .bool false]) (b := none) rfl ?_
        repeat with_reducible (apply st_q; exact q1)
        refine st_store (by exact e1) (by exact e1) (cs := [.int .i64 2, .str [117, 110, 105, 116], .slice none 0, .slice none 0, .bool false]) rfl rfl G.wf ob (by simp; omega) rfl ?_
        rintro v7 h7 p7 o7
        have o37 := p7.keep _ (by omega) _ o3
        have G7 := p7.grow h3 g3.wf G hbb
        have E := Hid.mk (store_get (vs := vs) (cs := [.int .i64 2, .str [117, 110, 105, 116], .slice none 0, .slice none 0, .bool false]) (o := o) (by simp; omega))
        have L := Hid.mk (store_len (vs := vs) (cs := [.int .i64 2, .str [117, 110, 105, 116], .slice none 0, .slice none 0, .bool false]) (o := o) (by simp; omega))
        simp only [List.length_cons, List.length_nil, Nat.zero_add, Nat.reduceAdd] at o7 E L
        generalize vs.take o ++ [AVal.int .i64 2, .str [117, 110, 105, 116], .slice none 0, .slice none 0, .bool false] ++ vs.drop (o + 5) = vs' at o7 E L
        have hin' : o + 5 ≤ vs'.length := by rw [L.out]; exact hin
        repeat with_reducible first | refine nxt_normal ?_ | refine blk_normal ?_ | refine st_nil ?_ | refine cd_seq ?_ | refine cd_ops ?_ | (apply st_q; exact q1)
        refine st_store (by exact e1) (by exact e1) (cs := [.bool false]) rfl rfl G7.wf o7 (by simp; omega) rfl ?_
        rintro v8 h8 p8 o8
        have o38 := p8.keep _ (by omega) _ o37
        have G8 := p8.grow h3 g3.wf G7 hbb
        have E2 := Hid.mk (store_get (vs := vs') (cs := [.bool false]) (o := o + 4) (by simp; omega))
        have L2 := Hid.mk (store_len (vs := vs') (cs := [.bool false]) (o := o + 4) (by simp; omega))
        simp only [List.length_cons, List.length_nil, Nat.zero_add] at o8 E2 L2
        generalize vs'.take (o + 4) ++ [AVal.bool false] ++ vs'.drop (o + 4 + 1) = vs2 at o8 E2 L2
        repeat with_reducible first | refine nxt_normal ?_ | refine blk_normal ?_ | refine blk_same ?_ | refine st_nil ?_ | refine cd_exit ?_
        refine ⟨⟨G8, ⟨_, o38⟩, ⟨_, _, o8, ?_⟩, by exact n1, by exact e1, by exact e1⟩, by exact e1, by exact e1⟩
        rw [← clsTo_set hj]
        have hnil : ∀ (hh : AHeap), SlAt hh 1 (.slice none 0) [] := fun hh => ⟨rfl, fun i x hx => by simp at hx⟩
        refine hR.out.set (by rw [clsTo_len]; exact hj) (by rw [L2.out, L.out]) ⟨[.int .i64 2, .str [117, 110, 105, 116], .slice none 0, .slice none 0, .bool false], ⟨.slice none 0, .slice none 0, by rw [hcl.out], by rw [hcl.out]; exact hnil _, by rw [hcl.out]; exact hnil _⟩, fun k hk => ?_⟩ fun i hi => ?_
        · rw [ho, E2.out, E.out]
          rcases (by omega : k = 0 ∨ k = 1 ∨ k = 2 ∨ k = 3 ∨ k = 4) with rfl | rfl | rfl | rfl | rfl
          · rw [if_neg (by omega), if_pos (by omega), Nat.add_sub_cancel_left]
          · rw [if_neg (by omega), if_pos (by omega), Nat.add_sub_cancel_left]
          · rw [if_neg (by omega), if_pos (by omega), Nat.add_sub_cancel_left]
          · rw [if_neg (by omega), if_pos (by omega), Nat.add_sub_cancel_left]
          · rw [if_pos (by omega), Nat.sub_self]; rfl
        · rw [E2.out, if_neg (by omega), E.out, if_neg (by omega)]
    · clear o6 obb hR0' G6
      rintro a hp ⟨G, ⟨ver3, o3⟩, ⟨vs, ver, ob, hR⟩, hd, e2', e3'⟩
      rw [clsTo_all] at hR
      have hNC := hR.at G ob
      rw [List.length_map] at hNC
      have o2h := G.keep _ _ o2'
      clear ob hR
      repeat with_reducible first | refine nxt_normal ?_ | refine cd_seq ?_ | refine cd_ops ?_ | (apply st_q; exact q1)
      refine st_call (by exact s1) ((Trim_ok H (closeG g) (close_GTi tg.out hc.out).toGSm _ hp G.wf ⟨_, rfl, hNC⟩).mono ?_)
      rintro rv h8 ⟨hO, g8⟩
      have hO' := hO
      obtain ⟨tn, ds, rfl, kB, kl, kn⟩ := hO
      have htn := one_of_len kB.len
      have o28 := g8.keep _ _ o2h
      have gn := G.next
      have gh := g03.next
      clear kB kl kn
      skip
      refine st_store (by exact e1) (by exact e1) (cs := [tn, .int .i64 (trimF (closeG g)).root]) rfl rfl g8.wf o28 (by simp) (by rw [List.all_cons, List.all_cons, htn]; rfl) ?_
      rintro v9 h9 p9 o9
      simp only [List.take_zero, List.nil_append, List.length_cons, List.length_nil, List.drop_succ_cons, List.drop_zero, List.append_nil, Nat.zero_add, Nat.reduceAdd, List.drop_nil, List.cons_append] at o9
      have hpz : partA (some 2) [tn, .int .i64 (trimF (closeG g)).root] 0 = some (.agg [tn, .int .i64 (trimF (closeG g)).root]) := rfl
      have hz := Hid.mk (closeF_eq hc.out)
      have h12 := g1'.next
      replace hO' := Hid.mk hO'
      repeat' with_reducible first | refine nxt_normal ?_ | refine st_nil ?_ | refine cd_ret ?_ | (apply fin_ret; exact n1; exact r1)
      refine ⟨?_, p9.grow h hw (g03.trans (G.trans g8)) (by omega)⟩
      rw [hz.out]
      exact (hO'.out.stay fun c p hcb hp _ => p9.keep c (by omega) _ hp).base (by omega)
theorem Close_ok (g : Graph) (hg : GTi g) (v : AVal) (h : AHeap) (hw : WF h) (hv : GraphAt h v g) : Cl fns summ 13 [v] h fun r h' => GraphAt h' r (closeF g) ∧ Grow h h' :=
  (Close_own H g hg v h hw hv).mono fun _ _ k => ⟨k.1.graph, k.2⟩
end
end Go.Ab.S
end
