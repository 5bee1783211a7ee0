import Derived.Test.YtapnoohglfhgeaaGreatDoorP13
import Derived.Test.YtapnoohglfhgeaaGreatDoorP14
import Derived.Test.YtapnoohglfhgeaaGreatDoorP16
/-
  Part 17 of the proof.
-/
set_option linter.all false
section
/-
  What names mean: lists of meanings in memory; going through them.
-/
namespace Go.Ab.S
open Go.Ab
set_option maxHeartbeats 4000000
structure CDef where
  params : Int
  g : Graph
  conc : List (List Nat)
  virt : List (List Nat)
structure Mean where
  name : List Nat
  value : Option Graph
  cls : Option CDef
def ValAt (h : AHeap) (v : AVal) : Option Graph → Prop
  | none => v = .ptr none
  | some g => ∃ b ver ro e nv, v = .ptr (some (b, 0)) ∧ h.objs.get b = some (ver, .cells ro e [nv, .int .i64 g.root]) ∧ NodesAt h nv g.nodes
def CDAt (h : AHeap) (v : AVal) : Option CDef → Prop
  | none => v = .ptr none
  | some c => ∃ b ver ro e nv cv vv, v = .ptr (some (b, 0)) ∧ h.objs.get b = some (ver, .cells ro e [.int .i64 c.params, nv, .int .i64 c.g.root, cv, vv]) ∧ NodesAt h nv c.g.nodes ∧ StrsAt h cv c.conc ∧ StrsAt h vv c.virt
def EnvAt (h : AHeap) : AVal → List Mean → Prop
  | v, [] => v = .ptr none
  | v, m :: l => ∃ b ver ro e pv pc pa, v = .ptr (some (b, 0)) ∧ h.objs.get b = some (ver, .cells ro e [.str m.name, pv, pc, pa]) ∧ ValAt h pv m.value ∧ CDAt h pc m.cls ∧ EnvAt h pa l
theorem ValAt.mono {h h' : AHeap} (g : Grow h h') {v : AVal} {o : Option Graph} (k : ValAt h v o) : ValAt h' v o := by
  cases o with
  | none => exact k
  | some x => obtain ⟨b, ver, ro, e, nv, h1, h2, h3⟩ := k; exact ⟨b, ver, ro, e, nv, h1, g.keep _ _ h2, h3.mono g⟩
theorem CDAt.mono {h h' : AHeap} (g : Grow h h') {v : AVal} {o : Option CDef} (k : CDAt h v o) : CDAt h' v o := by
  cases o with
  | none => exact k
  | some x => obtain ⟨b, ver, ro, e, nv, cv, vv, h1, h2, h3, h4, h5⟩ := k; exact ⟨b, ver, ro, e, nv, cv, vv, h1, g.keep _ _ h2, h3.mono g, h4.mono g, h5.mono g⟩
theorem EnvAt.mono {h h' : AHeap} (g : Grow h h') : ∀ {l : List Mean} {v : AVal}, EnvAt h v l → EnvAt h' v l
  | [], _, k => k
  | _ :: _, _, ⟨b, ver, ro, e, pv, pc, pa, h1, h2, h3, h4, h5⟩ => ⟨b, ver, ro, e, pv, pc, pa, h1, g.keep _ _ h2, h3.mono g, h4.mono g, EnvAt.mono g h5⟩
theorem EnvAt.one {h : AHeap} {l : List Mean} {v : AVal} (k : EnvAt h v l) : one v = true := by
  cases l with
  | nil => rw [show v = .ptr none from k]; rfl
  | cons m l => obtain ⟨b, _, _, _, _, _, _, rfl, _⟩ := k; rfl
theorem ValAt.one {h : AHeap} {o : Option Graph} {v : AVal} (k : ValAt h v o) : one v = true := by
  cases o with
  | none => rw [show v = .ptr none from k]; rfl
  | some m => obtain ⟨b, _, _, _, _, rfl, _⟩ := k; rfl
/-- The variable that goes through the meanings. -/
def VarAt (h : AHeap) (b : Nat) (v : AVal) : Prop := ∃ ver, h.objs.get b = some (ver, .cells false 29 [v])
section
variable {fns : FuncId → Option AFunc} {summ : FuncId → List AVal → AHeap → Option (D (AVal × AHeap))}
variable (H : Has fns summ)
include H
theorem eall_ok (v : AVal) (hv : one v = true) (h : AHeap) (hw : WF h) : Cl fns summ 30 [v] h fun r h' => ∃ b, r = .func 61 [] [.ptr (some (b, 0))] ∧ h.next ≤ b ∧ VarAt h' b v ∧ Grow h h' := by
  have hc : cellsA v = [v] := by cases v <;> first | rfl | cases hv
  refine H.go (fn := F_eall) rfl (by decide) rfl rfl ?_
  unfold F_eall
  dsimp only
  refine cd_seq (cd_ops ?_)
  refine st_box (by exact e1) hc hw ?_
  rintro b h1 hb g1 o1
  repeat' with_reducible first | refine nxt_normal ?_ | refine st_nil ?_ | refine cd_seq ?_ | refine cd_ops ?_ | refine cd_ret ?_ | (apply st_q; exact q1) | (apply fin_ret; exact n1; exact r1)
  exact ⟨b, rfl, hb, ⟨_, o1⟩, g1⟩
/-- Each meaning, the last one first, is handed on, till no more is asked for. -/
theorem eall1_ok (L : List Mean) (v : AVal) (h0 : AHeap) (hE : EnvAt h0 v L) (b : Nat) (y : AVal) (P : Nat → AHeap → Prop) (Z : AHeap → Prop) (hP : ∀ k h, P k h → Grow h0 h)
    (hbut : ∀ k h h' vk, P k h → VarAt h b vk → But b h h' → P k h')
    (hstep : ∀ k h vk, k < L.length → P k h → VarAt h b vk → EnvAt h0 vk (L.drop k) → Cv fns summ y [vk] h fun r h' => (r = .bool true ∧ P (k + 1) h' ∧ VarAt h' b vk) ∨ (r = .bool false ∧ Z h'))
    (h : AHeap) (hI : P 0 h) (hb : VarAt h b v) : Cl fns summ 61 [y, .ptr (some (b, 0))] h fun _ h' => P L.length h' ∨ Z h' := by
  refine H.go (fn := F_eall1) rfl (by decide) rfl rfl ?_
  unfold F_eall1
  dsimp only
  refine cd_block ?_
  refine cd_loop (fun m a hp => ∃ k vk, m + k = L.length + 1 ∧ k ≤ L.length ∧ P k hp ∧ VarAt hp b vk ∧ EnvAt h0 vk (L.drop k) ∧ a.defers = [] ∧ ev a (.tmp 0) = some y ∧ ev a (.tmp 1) = some (.ptr (some (b, 0)))) ?_ (n := L.length + 1) ⟨0, v, rfl, Nat.zero_le _, hI, hb, hE, by exact n1, by exact e1, by exact e1⟩
  clear hI hb hE
  rintro m a hp ⟨k, vk, hm, hk, hI, hb, hE, hd, h0', h1'⟩
  obtain ⟨ver, ob⟩ := hb
  by_cases hlt : k < L.length
  · obtain ⟨mm, rest, hdrop⟩ : ∃ mm rest, L.drop k = mm :: rest := by
      rw [List.drop_eq_getElem_cons hlt]; exact ⟨_, _, rfl⟩
    have hE' := hE
    rw [hdrop] at hE'
    obtain ⟨be, vere, roe, ee, pv, pc, pa, rfl, oe, hv, hc, hrest⟩ := hE'
    have hne : eqA .ptr (.ptr (some (be, 0))) (.ptr none) = some false := rfl
    have hxr : (true ^^ false) = true := rfl
    have hstep' := Hid.mk (hstep k hp _ hlt hI ⟨_, ob⟩ hE)
    have hrd : L.drop (k + 1) = rest := by
      have := congrArg List.tail hdrop
      simpa using this
    clear hE
    repeat with_reducible first | refine nxt_normal ?_ | refine st_nil ?_ | refine cd_seq ?_ | refine cd_ops ?_ | refine cd_blockS ?_ | refine cd_skip ?_ | (apply st_q; exact q1) | (apply cd_condT; exact e1)
    refine st_e (ex_call (by exact e1) (by exact s1) (hstep'.out.mono ?_))
    rintro r h2 (⟨rfl, hI2, ⟨ver2, ob2⟩⟩ | ⟨rfl, hz⟩)
    · have oe2 := (hP _ _ hI2).keep _ _ oe
      have w2 := (hP _ _ hI2).wf
      have hpa := hrest.one
      have hca : cellsA pa = [pa] := by cases pa <;> first | rfl | cases hpa
      clear hstep' ob oe
      repeat with_reducible first | refine nxt_normal ?_ | refine blk_normal ?_ | refine st_nil ?_ | refine cd_ops ?_ | refine cd_skip ?_ | (apply st_q; exact q1) | (apply cd_condF; exact e1)
      refine st_store (by exact e1) (by exact e1) hca rfl w2 ob2 (by simp) (by rw [List.all_cons, hpa]; rfl) ?_
      rintro v3 h3 p3 o3
      simp only [List.take_zero, List.nil_append, List.length_cons, List.length_nil, List.drop_succ_cons, List.drop_zero, List.append_nil, Nat.zero_add, Nat.reduceAdd, List.drop_nil, List.cons_append] at o3
      have hI3 := hbut _ _ _ _ hI2 ⟨_, ob2⟩ p3
      repeat with_reducible first | refine nxt_normal ?_ | refine st_nil ?_
      exact ⟨L.length - k, by omega, k + 1, pa, by omega, by omega, hI3, ⟨_, o3⟩, by rw [hrd]; exact hrest, by exact n1, by exact e1, by exact e1⟩
    · clear hstep'
      repeat' with_reducible first | refine nxt_normal ?_ | refine nxt_ret ?_ | refine blk_ret ?_ | refine st_nil ?_ | refine cd_ret ?_ | (apply st_q; exact q1) | (apply cd_condT; exact e1) | (apply fin_ret; exact n1; exact r1)
      exact .inr hz
  · obtain rfl : k = L.length := by omega
    have hnil : L.drop L.length = [] := List.drop_length
    rw [hnil] at hE
    have hv : vk = .ptr none := hE
    subst hv
    have hne : eqA .ptr (.ptr none) (.ptr none) = some true := rfl
    have hxr : (true ^^ true) = false := rfl
    repeat with_reducible first | refine nxt_normal ?_ | refine nxt_exit ?_ | refine blk_same ?_ | refine st_nil ?_ | refine cd_seq ?_ | refine cd_ops ?_ | refine cd_exit ?_ | (apply st_q; exact q1) | (apply cd_condF; exact e1)
    refine fin_normal (by exact n1) (v := .tuple []) (by exact r1) (.inl hI)
end
end Go.Ab.S
end
section
/-
  What a name means as a value.
-/
namespace Go.Ab.S
open Go.Ab
set_option maxHeartbeats 4000000
def valueF : List Mean → List Nat → Option Graph
  | [], _ => none
  | m :: l, s => if m.value.isSome && eqL m.name s then m.value else valueF l s
def resG (o : Option Graph) : Graph := match o with | some g => trimF g | none => ⟨[], 0⟩
section
variable {fns : FuncId → Option AFunc} {summ : FuncId → List AVal → AHeap → Option (D (AVal × AHeap))}
theorem fin_coll {rs : List ARes} {K : AVal → AHeap → Prop} {a : AAct} {h : AHeap} {d : Nat} (hd : a.defers = [.collected d]) (w : WF h) (od : ∃ ver, h.objs.get d = some (ver, .dfr false)) (k : ∀ h', But d h h' → ∃ v, resultsA a h' rs = some v ∧ K v h') : fin fns summ rs K .ret a h := by
  obtain ⟨ver, od⟩ := od
  exact fin_retD hd (lv_collected od (lv_nil (k _ (but_put w od _))))
variable (H : Has fns summ)
include H
theorem eown_ok (g : Graph) (hg : GSm g) (v : AVal) (h : AHeap) (hw : WF h) (hv : GraphAt h v g) : Cl fns summ 31 [v] h fun r h' => OwnG h' h.next r (trimF g) ∧ Grow h h' := by
  obtain ⟨nv, rfl, hN⟩ := hv
  refine H.go (fn := F_eown) rfl (by decide) rfl rfl ?_
  unfold F_eown
  dsimp only
  refine cd_seq (cd_ops ?_)
  refine st_box (by exact e1) (by exact cc) hw ?_
  rintro b1 h1 hb1 g1' o1
  refine st_alloc g1'.wf ?_
  rintro b2 h2 hb2 g2 o2
  replace o1 := g2.keep _ _ o1
  have g02 := g1'.trans g2
  have hpart : partA (some 2) [nv, .int .i64 g.root] 0 = some (.agg [nv, .int .i64 g.root]) := rfl
  have l2 := g2.wf.lt o2
  repeat with_reducible first | refine nxt_normal ?_ | refine st_nil ?_ | refine cd_seq ?_ | refine cd_ops ?_ | (apply st_q; exact q1)
  refine st_call (by exact s1) ((Trim_ok H g hg _ h2 g02.wf ⟨nv, rfl, hN.mono g02⟩).mono ?_)
  rintro rv h3 ⟨hO, g3⟩
  have hO' := Hid.mk hO
  obtain ⟨tn, ds, rfl, kB, kl, kn⟩ := hO
  have htn := one_of_len kB.len
  have o23 := g3.keep _ _ o2
  have n02 := g02.next
  have n01 := g1'.next
  clear kB kl kn
  skip
  refine st_store (by exact e1) (by exact e1) (cs := [tn, .int .i64 (trimF g).root]) rfl rfl g3.wf o23 (by simp) (by rw [List.all_cons, List.all_cons, htn]; rfl) ?_
  rintro v9 h9 p9 o9
  simp only [List.take_zero, List.nil_append, List.length_cons, List.length_nil, List.drop_succ_cons, List.drop_zero, List.append_nil, Nat.zero_add, Nat.reduceAdd, List.drop_nil, List.cons_append] at o9
  have hpz : partA (some 2) [tn, .int .i64 (trimF g).root] 0 = some (.agg [tn, .int .i64 (trimF g).root]) := rfl
  repeat' with_reducible first | refine nxt_normal ?_ | refine st_nil ?_ | refine cd_ret ?_ | (apply fin_ret; exact n1; exact r1)
  exact ⟨(hO'.out.stay fun c p hcb hp _ => p9.keep c (by omega) _ hp).base n02, p9.grow h hw (g02.trans g3) (by omega)⟩
theorem EValue_nil (s : List Nat) (h : AHeap) (hw : WF h) : Cl fns summ 11 [.ptr none, .str s] h fun r h' => r = .tuple [.agg [.slice none 0, .int .i64 0], .int .i64 1] ∧ Grow h h' := by
  refine H.go (fn := F_EValue) rfl (by decide) rfl rfl ?_
  unfold F_EValue
  dsimp only
  refine cd_seq (cd_ops ?_)
  refine st_box (by exact e1) (by exact cc) hw ?_
  rintro b3 h3 hb3 g3 o3
  refine st_alloc g3.wf ?_
  rintro b4 h4 hb4 g4 o4
  refine st_alloc g4.wf ?_
  rintro b5 h5 hb5 g5 o5
  have l4 := g4.wf.lt o4
  replace o4 := g5.keep _ _ o4
  have g05 := (g3.trans g4).trans g5
  have n3 := g3.next
  have n4 := g4.next
  have hne : eqA .ptr (.ptr none) (.ptr none) = some true := rfl
  clear o3 g3 g4 g5
  repeat with_reducible first | refine nxt_normal ?_ | refine st_nil ?_ | refine cd_seq ?_ | refine cd_ops ?_ | (apply st_q; exact q1) | (apply cd_condT; exact e1)
  refine st_store (by exact e1) (by exact e1) (cs := [.slice none 0, .int .i64 0]) rfl rfl g05.wf o4 (by simp) rfl ?_
  rintro v6 h6 p6 o6
  simp only [List.take_zero, List.nil_append, List.length_cons, List.length_nil, List.drop_succ_cons, List.drop_zero, List.append_nil, Nat.zero_add, Nat.reduceAdd, List.drop_nil, List.cons_append] at o6
  have o56 := p6.keep b5 (by omega) _ o5
  have g06 := p6.grow h hw g05 (by omega)
  skip
  refine st_store (by exact e1) (by exact e1) (cs := [.int .i64 1]) rfl rfl g06.wf o56 (by simp) rfl ?_
  rintro v7 h7 p7 o7
  simp only [List.take_zero, List.nil_append, List.length_cons, List.length_nil, List.drop_succ_cons, List.drop_zero, List.append_nil, Nat.zero_add, Nat.reduceAdd, List.drop_nil, List.cons_append] at o7
  have o67 := p7.keep b4 (by omega) _ o6
  have hpz : partA (some 2) [.slice none 0, .int .i64 0] 0 = some (.agg [.slice none 0, .int .i64 0]) := rfl
  have g07 := p7.grow h hw g06 (by omega)
  repeat' with_reducible first | refine nxt_normal ?_ | refine nxt_ret ?_ | refine st_nil ?_ | refine cd_ret ?_ | (apply fin_ret; exact n1; exact r1)
  exact ⟨rfl, g07⟩
theorem EValue_ok (L : List Mean) (hL : ∀ m ∈ L, ∀ g, m.value = some g → GSm g) (hne : L ≠ []) (v : AVal) (s : List Nat) (h : AHeap) (hw : WF h) (hE : EnvAt h v L) :
    Cl fns summ 11 [v, .str s] h fun r h' => (∃ z, r = .tuple [z, .int .i64 (if (valueF L s).isSome then 0 else 10)] ∧ GraphAt h' z (resG (valueF L s))) ∧ Grow h h' := by
  have hv1 := hE.one
  obtain ⟨bv, rfl⟩ : ∃ bv, v = .ptr (some (bv, 0)) := by
    cases L with
    | nil => exact absurd rfl hne
    | cons m l => obtain ⟨b, _, _, _, _, _, _, rfl, _⟩ := hE; exact ⟨b, rfl⟩
  have hvp : eqA .ptr (.ptr (some (bv, 0))) (.ptr none) = some false := rfl
  have hLs := Hid.mk hL
  have hx0 : (false ^^ false) = false := rfl
  clear hL
  refine H.go (fn := F_EValue) rfl (by decide) rfl rfl ?_
  unfold F_EValue
  dsimp only
  refine cd_seq (cd_ops ?_)
  refine st_box (by exact e1) (by exact cc) hw ?_
  rintro b3 h3 hb3 g3 o3
  refine st_alloc g3.wf ?_
  rintro b4 h4 hb4 g4 o4
  refine st_alloc g4.wf ?_
  rintro b5 h5 hb5 g5 o5
  have l3 := g3.wf.lt o3
  have l4 := g4.wf.lt o4
  have l5 := g5.wf.lt o5
  replace o4 := g5.keep _ _ o4
  replace o3 := g5.keep _ _ (g4.keep _ _ o3)
  have g05 := (g3.trans g4).trans g5
  have n3 := g3.next
  have n4 := g4.next
  have n5 := g5.next
  clear g3 g4 g5
  repeat with_reducible first | refine nxt_normal ?_ | refine st_nil ?_ | refine cd_seq ?_ | refine cd_ops ?_ | refine cd_skip ?_ | (apply st_q; exact q1) | (apply cd_condF; exact e1)
  refine st_call (by exact s1) ((eall_ok H _ hv1 h5 g05.wf).mono ?_)
  rintro _ h6 ⟨b, rfl, hb, vb, g6⟩
  have hb3 := l3
  have lb : b < h6.next := by obtain ⟨_, ov⟩ := vb; exact g6.wf.lt ov
  repeat with_reducible first | refine nxt_normal ?_ | refine st_nil ?_
  refine cd_gen (fun A => A.defers = [] ∧ ev A (.tmp 3) = some (.ptr (some (b3, 0))) ∧ ev A (.tmp 4) = some (.ptr (some (b4, 0))) ∧ ev A (.tmp 5) = some (.ptr (some (b5, 0))) ∧ ev A (.tmp 11) = some (.func 61 [] [.ptr (some (b, 0))]))
    ⟨by exact n1, by exact e1, by exact e1, by exact e1, by exact e1⟩ ?_
  rintro A ⟨hd, t3, t4, t5, t11⟩
  refine cd_block ?_
  generalize hB : ACode.block 1 _ = B
  generalize hA : ACode.ops [⟨some 6, none, .q (.mov (.tmp 12))⟩] = As
  refine rangeF_K t11 g6.wf ?_
  intro l d h7 hdn hld g7 ol od
  have g57 : Grow h5 h7 := g6.trans g7
  have n6 := g6.next
  have w5 := g05.wf
  refine (eall1_ok H L _ h5 (hE.mono g05) b (.yield l) (fun k hp => Grow h5 hp ∧ l < hp.next ∧ (∃ ver, hp.objs.get l = some (ver, .loop .ready none A.tmps [12] As B d)) ∧ (∃ ver, hp.objs.get d = some (ver, .dfr false)) ∧ valueF L s = valueF (L.drop k) s)
    (fun hp => WF hp ∧ Grow h hp ∧ (∃ ver, hp.objs.get l = some (ver, .loop .done (some .ret) A.tmps [12] As B d)) ∧ (∃ ver, hp.objs.get d = some (ver, .dfr false)) ∧ ∃ z g ver4 ver5 base, valueF L s = some g ∧ hp.objs.get b4 = some (ver4, .cells false 24 [z, .int .i64 (trimF g).root]) ∧ hp.objs.get b5 = some (ver5, .cells false 31 [.int .i64 0]) ∧ (l < base ∧ d < base) ∧ OwnG hp base (.agg [z, .int .i64 (trimF g).root]) (trimF g))
    (fun k hp p => p.1) ?_ ?_ h7 ⟨g57, by obtain ⟨_, ol⟩ := ol; exact g7.wf.lt ol, ol, od, rfl⟩ (by obtain ⟨vv, ov⟩ := vb; exact ⟨vv, g7.keep _ _ ov⟩)).mono ?_
  · rintro k hp hp' vk ⟨gp, hl, ⟨vl, ol⟩, ⟨vd, od⟩, hr⟩ ⟨vv, ov⟩ pb
    exact ⟨pb.grow h5 w5 gp hb, Nat.lt_of_lt_of_le hl pb.next, ⟨_, pb.keep l (by rintro rfl; rw [ol] at ov; cases ov) _ ol⟩, ⟨_, pb.keep d (by rintro rfl; rw [od] at ov; cases ov) _ od⟩, hr⟩
  · clear ol od
    rintro k hp vk hk ⟨gp, hl, ⟨vl, ol⟩, ⟨vd, od⟩, hr⟩ ⟨vv, ov⟩ hEk
    obtain ⟨mm, rest, hdrop⟩ : ∃ mm rest, L.drop k = mm :: rest := by
      rw [List.drop_eq_getElem_cons hk]; exact ⟨_, _, rfl⟩
    have hmem : mm ∈ L := List.mem_of_mem_drop (i := k) (by rw [hdrop]; simp)
    have hrd : L.drop (k + 1) = rest := by
      have := congrArg List.tail hdrop
      simpa using this
    rw [hdrop] at hEk
    obtain ⟨be, vere, roe, ee, pv, pc, pa, rfl, oe5, hv, hc, hrest⟩ := hEk
    have oe := gp.keep _ _ oe5
    have T3 : ev { tmps := A.tmps, defers := [] } (.tmp 3) = some (.ptr (some (b3, 0))) := t3
    have T4 : ev { tmps := A.tmps, defers := [] } (.tmp 4) = some (.ptr (some (b4, 0))) := t4
    have T5 : ev { tmps := A.tmps, defers := [] } (.tmp 5) = some (.ptr (some (b5, 0))) := t5
    refine yield_K ol gp.wf rfl (fun a1 => a1.defers = [] ∧ ev a1 (.tmp 6) = some (.ptr (some (be, 0))) ∧ ev a1 (.tmp 3) = some (.ptr (some (b3, 0))) ∧ ev a1 (.tmp 4) = some (.ptr (some (b4, 0))) ∧ ev a1 (.tmp 5) = some (.ptr (some (b5, 0)))) ?_ ?_
    · subst hA
      clear hd t3 t4 t5 t11
      repeat with_reducible first | refine nxt_normal ?_ | refine st_nil ?_ | refine cd_ops ?_ | (apply st_q; exact q1)
      exact ⟨rfl, by exact n1, by exact e1, by exact e1, by exact e1, by exact e1⟩
    · rintro a1 hq ⟨hd1, t6, t3', t4', t5'⟩ pL ⟨vlb, olb⟩
      clear hd t3 t4 t5 t11 T3 T4 T5
      have hlb : b ≠ l := by rintro rfl; rw [ol] at ov; cases ov
      have hld' : d ≠ l := by rintro rfl; rw [ol] at od; cases od
      have hel : be ≠ l := by rintro rfl; rw [ol] at oe; cases oe
      have gq : Grow h5 hq := pL.grow h5 w5 gp (by omega)
      have oeq := pL.keep _ hel _ oe
      have odq := pL.keep _ hld' _ od
      have ovq := pL.keep _ hlb _ ov
      have o3q := gq.keep _ _ o3
      have o4q := gq.keep _ _ o4
      have o5q := gq.keep _ _ o5
      have hlq : l < hq.next := Nat.lt_of_lt_of_le hl pL.next
      have w := gq.wf
      have next : ∀ e : AExit, valueF L s = valueF (L.drop (k + 1)) s → e = .normal → ∀ h4, But l hq h4 → (∃ ver, h4.objs.get l = some (ver, .loop .ready none A.tmps [12] As B d)) → (((.bool true : AVal) = .bool true ∧ (Grow h5 h4 ∧ l < h4.next ∧ (∃ ver, h4.objs.get l = some (ver, .loop .ready none A.tmps [12] As B d)) ∧ (∃ ver, h4.objs.get d = some (ver, .dfr false)) ∧ valueF L s = valueF (L.drop (k + 1)) s) ∧ VarAt h4 b (.ptr (some (be, 0)))) ∨ False) := fun e hh _ h4 p4 o4l =>
        .inl ⟨rfl, ⟨p4.grow h5 w5 gq (by omega), Nat.lt_of_lt_of_le hlq p4.next, o4l, ⟨_, p4.keep d hld' _ odq⟩, hh⟩, ⟨_, p4.keep b hlb _ ovq⟩⟩
      replace next := Hid.mk next
      subst hB
      clear ol oe od ov pL
      cases hmv : mm.value with
      | none =>
        rw [hmv] at hv
        have hpv : pv = .ptr none := hv
        subst hpv
        have hq1 : eqA .ptr (.ptr none) (.ptr none) = some true := rfl
        have hxr : (true ^^ true) = false := rfl
        have hr' : valueF L s = valueF (L.drop (k + 1)) s := by rw [hr, hdrop, valueF, hmv, hrd]; rfl
        replace hr' := Hid.mk hr'
        clear hr
        repeat with_reducible first | refine nxt_normal ?_ | refine blk_normal ?_ | refine cd_seq ?_ | refine cd_blockS ?_ | refine cd_skip ?_ | refine dr_nil ?_ | refine cd_draw ?_ | (apply dr_gF; exact e1) | (apply dr_q; exact q1) | (apply dr_ql; exact q1; exact og1) | (apply cd_condF; exact e1)
        exact ⟨w, ⟨_, olb⟩, fun hh h4 p4 o4 => (next.out _ hr'.out hh h4 p4 o4).imp id False.elim, fun hh => absurd rfl hh⟩
      | some g =>
        rw [hmv] at hv
        obtain ⟨bg, verg, rog, eg, nvg, rfl, og5, hNg⟩ := hv
        have hq1 : eqA .ptr (.ptr (some (bg, 0))) (.ptr none) = some false := rfl
        have hxr : (true ^^ false) = true := rfl
        have ogq := gq.keep _ _ og5
        cases hn : eqL mm.name s
        · have hr' : valueF L s = valueF (L.drop (k + 1)) s := by rw [hr, hdrop, valueF, hmv, hn, hrd]; rfl
          replace hr' := Hid.mk hr'
          clear hr
          repeat with_reducible first | refine nxt_normal ?_ | refine blk_normal ?_ | refine cd_seq ?_ | refine cd_blockS ?_ | refine cd_skip ?_ | refine dr_nil ?_ | refine cd_draw ?_ | (apply dr_gT; exact e1) | (apply dr_q; exact q1) | (apply dr_ql; exact q1; exact og1) | (apply cd_condF; exact e1)
          exact ⟨w, ⟨_, olb⟩, fun hh h4 p4 o4 => (next.out _ hr'.out hh h4 p4 o4).imp id False.elim, fun hh => absurd rfl hh⟩
        · have hr' : valueF L s = some g := by rw [hr, hdrop, valueF, hmv, hn]; rfl
          replace hr' := Hid.mk hr'
          clear hr next
          have hgs := hLs.out mm hmem g hmv
          replace hmv := Hid.mk hmv
          have hpg : partA (some 2) [nvg, .int .i64 g.root] 0 = some (.agg [nvg, .int .i64 g.root]) := rfl
          have ht2 : ∀ x y : AVal, List.take 2 [x, y] = [x, y] := fun _ _ => rfl
          repeat with_reducible first | refine nxt_normal ?_ | refine cd_seq ?_ | refine cd_ops ?_ | refine cd_blockS ?_ | refine dr_nil ?_ | refine cd_draw ?_ | (apply dr_gT; exact e1) | (apply dr_q; exact q1) | (apply dr_ql; exact q1; exact og1) | (apply st_q; exact q1) | (apply cd_condT; exact e1)
          refine st_call (by exact s1) ((eown_ok H g hgs _ hq w ⟨nvg, rfl, hNg.mono gq⟩).mono ?_)
          rintro rv h8 ⟨hO, g8⟩
          have hO' := Hid.mk hO
          obtain ⟨tn, ds, rfl, kB, kl, kn⟩ := hO
          have htn := one_of_len kB.len
          have o48 := g8.keep _ _ o4q
          have o58 := g8.keep _ _ o5q
          have olb8 := g8.keep _ _ olb
          have od8 := g8.keep _ _ odq
          have nq := gq.next
          have n8 := g8.next
          clear kB kl kn o3q o4q o5q oeq ogq ovq olb odq
          skip
          refine st_store (by exact e1) (by exact e1) (cs := [tn, .int .i64 (trimF g).root]) rfl rfl g8.wf o48 (by simp) (by rw [List.all_cons, List.all_cons, htn]; rfl) ?_
          rintro v9 h9 p9 o9
          simp only [List.take_zero, List.nil_append, List.length_cons, List.length_nil, List.drop_succ_cons, List.drop_zero, List.append_nil, Nat.zero_add, Nat.reduceAdd, List.drop_nil, List.cons_append] at o9
          have o59 := p9.keep b5 (by omega) _ o58
          have olb9 := p9.keep l (by omega) _ olb8
          have od9 := p9.keep d (by omega) _ od8
          have w9 := p9.wf g8.wf
          have g9 := p9.grow h hw (g05.trans (gq.trans g8)) (by omega)
          have hO9 := hO'.out.stay fun c p hcb hp _ => p9.keep c (by omega) _ hp
          clear o48 o58 olb8 od8
          skip
          refine st_store (by exact e1) (by exact e1) (cs := [.int .i64 0]) rfl rfl w9 o59 (by simp) rfl ?_
          rintro v10 h10 p10 o10
          simp only [List.take_zero, List.nil_append, List.length_cons, List.length_nil, List.drop_succ_cons, List.drop_zero, List.append_nil, Nat.zero_add, Nat.reduceAdd, List.drop_nil, List.cons_append] at o10
          have o410 := p10.keep b4 (by omega) _ o9
          have olb10 := p10.keep l (by omega) _ olb9
          have od10 := p10.keep d (by omega) _ od9
          have w10 := p10.wf w9
          have g10 := p10.grow h hw g9 (by omega)
          have n9 := p9.next
          have hO10 := hO9.stay fun c p hcb hp _ => p10.keep c (by omega) _ hp
          clear o9 o59 olb9 od9
          repeat with_reducible first | refine nxt_normal ?_ | refine blk_ret ?_ | refine st_nil ?_ | refine cd_ret ?_
          refine ⟨w10, ⟨_, olb10⟩, (by intro hh; cases hh), fun _ h4' p4 o4l => .inr ⟨rfl, p4.wf w10, p4.grow h hw g10 (by omega), o4l, ⟨_, p4.keep d hld' _ od10⟩, tn, g, _, _, hq.next, hr'.out, p4.keep b4 (by omega) _ o410, p4.keep b5 (by omega) _ o10, ⟨hlq, by omega⟩, hO10.stay fun c p hcb hp _ => p4.keep c (by omega) _ hp⟩⟩
  · clear ol od
    rintro _ h8 (⟨gp, hl, ⟨vl, ol⟩, ⟨vd, od⟩, hr⟩ | ⟨w8, g8, ol, ⟨vd, od⟩, z, gg, ver4, ver5, base, hvf, oz4, oz5, ⟨bl, bd⟩, hOwn⟩)
    · rw [List.drop_length] at hr
      have hnone : valueF L s = none := hr
      refine ⟨gp.wf, .inl ⟨⟨_, ol⟩, fun h9 p9 => ?_⟩⟩
      have hld' : d ≠ l := by rintro rfl; rw [ol] at od; cases od
      have o49 := p9.keep b4 (by omega) _ (gp.keep _ _ o4)
      have o59 := p9.keep b5 (by omega) _ (gp.keep _ _ o5)
      have od9 := p9.keep d hld' _ od
      have g9 := p9.grow h hw (g05.trans gp) (by omega)
      have T4 : ev { tmps := A.tmps, defers := [.collected d] } (.tmp 4) = some (.ptr (some (b4, 0))) := t4
      have T5 : ev { tmps := A.tmps, defers := [.collected d] } (.tmp 5) = some (.ptr (some (b5, 0))) := t5
      have hdd : (ADef.collected d :: A.defers) = [.collected d] := by rw [hd]
      have hpz : partA (some 2) [.slice none 0, .int .i64 0] 0 = some (.agg [.slice none 0, .int .i64 0]) := rfl
      replace hnone := Hid.mk hnone
      clear hr hd t3 t4 t5 t11 ol od o3 o4 o5
      repeat with_reducible first | refine nxt_normal ?_ | refine blk_normal ?_ | refine cd_seq ?_ | refine cd_ops ?_ | (apply st_q; exact q1)
      refine st_store (by exact e1) (by exact e1) (cs := [.slice none 0, .int .i64 0]) rfl rfl g9.wf o49 (by simp) rfl ?_
      rintro v10 h10 p10 o10
      simp only [List.take_zero, List.nil_append, List.length_cons, List.length_nil, List.drop_succ_cons, List.drop_zero, List.append_nil, Nat.zero_add, Nat.reduceAdd, List.drop_nil, List.cons_append] at o10
      have o510 := p10.keep b5 (by omega) _ o59
      have od10 := p10.keep d (by omega) _ od9
      have g10 := p10.grow h hw g9 (by omega)
      clear o49 o59 od9
      skip
      refine st_store (by exact e1) (by exact e1) (cs := [.int .i64 10]) rfl rfl g10.wf o510 (by simp) rfl ?_
      rintro v11 h11 p11 o11
      simp only [List.take_zero, List.nil_append, List.length_cons, List.length_nil, List.drop_succ_cons, List.drop_zero, List.append_nil, Nat.zero_add, Nat.reduceAdd, List.drop_nil, List.cons_append] at o11
      have o411 := p11.keep b4 (by omega) _ o10
      have od11 := p11.keep d (by omega) _ od10
      have g11 := p11.grow h hw g10 (by omega)
      clear o10 o510 od10
      repeat with_reducible first | refine nxt_normal ?_ | refine st_nil ?_ | refine cd_ret ?_
      refine fin_coll (by first | exact hdd | (simp only [defers_put]; exact hdd)) g11.wf ⟨_, od11⟩ fun h12 p12 => ?_
      have o412 := p12.keep b4 (by omega) _ o411
      have o512 := p12.keep b5 (by omega) _ o11
      refine ⟨_, by exact r1, ⟨.agg [.slice none 0, .int .i64 0], ?_, ?_⟩, p12.grow h hw g11 (by omega)⟩
      · rw [hnone.out]; rfl
      · rw [hnone.out]
        exact ⟨.slice none 0, rfl, [], ⟨rfl, fun i x hx => by simp at hx⟩, rfl, fun i n c hn _ => by simp [resG] at hn⟩
    · refine ⟨w8, .inr ⟨.ret, (by intro hh; cases hh), ol, fun h9 p9 => ?_⟩⟩
      obtain ⟨vl, ol⟩ := ol
      have hld' : d ≠ l := by rintro rfl; rw [ol] at od; cases od
      have T4 : ev { tmps := A.tmps, defers := [.collected d] } (.tmp 4) = some (.ptr (some (b4, 0))) := t4
      have T5 : ev { tmps := A.tmps, defers := [.collected d] } (.tmp 5) = some (.ptr (some (b5, 0))) := t5
      have hdd : (ADef.collected d :: A.defers) = [.collected d] := by rw [hd]
      have o49 := p9.keep b4 (by omega) _ oz4
      have o59 := p9.keep b5 (by omega) _ oz5
      have od9 := p9.keep d hld' _ od
      have g9 := p9.grow h hw g8 (by omega)
      have hO9 := hOwn.stay fun c p hcb hp _ => p9.keep c (by omega) _ hp
      have hpz : partA (some 2) [z, .int .i64 (trimF gg).root] 0 = some (.agg [z, .int .i64 (trimF gg).root]) := rfl
      replace hvf := Hid.mk hvf
      clear hd t3 t11 oz4 oz5 od hOwn o3 o4 o5
      repeat with_reducible first | refine nxt_ret ?_ | refine blk_ret ?_
      refine fin_coll (by first | exact hdd | (simp only [defers_put]; exact hdd)) g9.wf ⟨_, od9⟩ fun h12 p12 => ?_
      have o412 := p12.keep b4 (by omega) _ o49
      have o512 := p12.keep b5 (by omega) _ o59
      refine ⟨_, by exact r1, ⟨.agg [z, .int .i64 (trimF gg).root], ?_, ?_⟩, p12.grow h hw g9 (by omega)⟩
      · rw [hvf.out]; rfl
      · rw [hvf.out]
        exact (hO9.stay fun c p hcb hp _ => p12.keep c (by omega) _ hp).graph
end
end Go.Ab.S
end
section
/-
  Classes, and the least graph.
-/
namespace Go.Ab.S
open Go.Ab
set_option maxHeartbeats 8000000
/-- Of what is made finer, so many times at the most. -/
theorem classesG_step (ns : List Node) (hns : NsOK ns) {m : Nat} {cl : List Int} (k : ClsOK ns.length cl) (hm : ns.length - fixc ns.length cl < m) (hne : eqII (refineF ns cl) cl = false) : ∃ m', m = m' + 1 ∧ classesG ns m cl = classesG ns m' (refineF ns cl) ∧ ns.length - fixc ns.length (refineF ns cl) < m' := by
  obtain ⟨m', rfl⟩ : ∃ m', m = m' + 1 := ⟨m - 1, by omega⟩
  refine ⟨m', rfl, by rw [classesG, hne]; rfl, ?_⟩
  have h1 := refine_more hns k hne
  have h2 := fixc_le ns.length (refineF ns cl)
  omega
theorem zeros_ints (n : Nat) : List.replicate n (AVal.int .i64 0) = (List.replicate n (0 : Int)).map (AVal.int .i64) := by simp
section
variable {fns : FuncId → Option AFunc} {summ : FuncId → List AVal → AHeap → Option (D (AVal × AHeap))}
variable (H : Has fns summ)
include H
theorem Classes_ok (g : Graph) (hg : GTi g) (hok : checkF g = 0) (v : AVal) (h : AHeap) (hw : WF h) (hv : GraphAt h v g) :
    Cl fns summ 53 [v] h fun r h' => Built h' h.next 3 1 r g.nodes.length ((classesF g).map (AVal.int .i64)) ∧ Grow h h' := by
  obtain ⟨nv, rfl, hN⟩ := hv
  have hlen := hN.len
  have hns := check_ns hok
  have htiny := hg.tiny
  refine H.go (fn := F_Classes) rfl (by decide) rfl rfl ?_
  unfold F_Classes
  dsimp only
  refine cd_seq (cd_ops ?_)
  refine st_box (by exact e1) (by exact cc) hw ?_
  rintro b1 h1 hb1 g1 o1
  have hpart : partA (some 2) [nv, .int .i64 g.root] 0 = some (.agg [nv, .int .i64 g.root]) := rfl
  repeat with_reducible first | refine nxt_normal ?_ | refine nxt_ret ?_ | refine nxt_exit ?_ | refine blk_normal ?_ | refine blk_ret ?_ | refine blk_same ?_ | refine blk_other ?_ rfl | refine st_nil ?_ | refine cd_seq ?_ | refine cd_ops ?_ | refine cd_blockS ?_ | refine cd_blockO ?_ | refine cd_skip ?_ | refine cd_exit ?_ | refine cd_ret ?_ | refine dr_nil ?_ | refine cd_draw ?_ | (apply st_pair; exact e1; exact e1) | (apply dr_pair; exact e1; exact e1) | (apply dr_gT; exact e1) | (apply dr_gF; exact e1) | (apply dr_gU; exact e1) | (apply dr_q; exact q1) | (apply dr_ql; exact q1; exact og1) | (apply st_q; exact q1) | (apply st_pA; exact e1; exact e2) | (apply st_pO; exact e1; exact e2) | (apply st_qT; exact e1; exact q1) | (apply st_qF; exact e1) | (apply st_qU; exact e1) | (apply st_eF; exact e1) | (apply st_eU; exact e1) | (apply st_qS; exact e1; exact g1; exact q2) | (apply st_sA; exact e1; exact g1; exact e2; exact e3) | (apply st_sO; exact e1; exact g1; exact e2; exact e3) | (apply cd_condT; exact e1) | (apply cd_condF; exact e1)
  refine st_call (by exact s1) ((Check_ok H g hg.toGraphSm _ h1 g1.wf ⟨nv, rfl, hN.mono g1⟩).mono ?_)
  rintro _ h2 ⟨rfl, g2⟩
  replace o1 := g2.keep _ _ o1
  have g02 := g1.trans g2
  have hck : (checkF g != 0) = false := by rw [hok]; rfl
  replace hok := Hid.mk hok
  have hroom := roomOK H (b := 8) (by decide) (k := g.nodes.length) (le31 (by omega))
  repeat with_reducible first | refine nxt_normal ?_ | refine nxt_ret ?_ | refine nxt_exit ?_ | refine blk_normal ?_ | refine blk_ret ?_ | refine blk_same ?_ | refine blk_other ?_ rfl | refine st_nil ?_ | refine cd_seq ?_ | refine cd_ops ?_ | refine cd_blockS ?_ | refine cd_blockO ?_ | refine cd_skip ?_ | refine cd_exit ?_ | refine cd_ret ?_ | refine dr_nil ?_ | refine cd_draw ?_ | (apply st_pair; exact e1; exact e1) | (apply dr_pair; exact e1; exact e1) | (apply dr_gT; exact e1) | (apply dr_gF; exact e1) | (apply dr_gU; exact e1) | (apply dr_q; exact q1) | (apply dr_ql; exact q1; exact og1) | (apply st_q; exact q1) | (apply st_pA; exact e1; exact e2) | (apply st_pO; exact e1; exact e2) | (apply st_qT; exact e1; exact q1) | (apply st_qF; exact e1) | (apply st_qU; exact e1) | (apply st_eF; exact e1) | (apply st_eU; exact e1) | (apply st_qS; exact e1; exact g1; exact q2) | (apply st_sA; exact e1; exact g1; exact e2; exact e3) | (apply st_sO; exact e1; exact g1; exact e2; exact e3) | (apply cd_condT; exact e1) | (apply cd_condF; exact e1)
  refine st_mkslice (by exact e1) (by exact e1) (le30 (by omega)) hroom g2.wf ?_
  rintro b3 h3 hb3 g3 o3
  replace o1 := g3.keep _ _ o1
  have g03 := g02.trans g3
  have n2 := g02.next
  rw [zeros_ints] at o3
  have B0 : Built h3 h.next 3 1 (.slice (some (b3, 0)) g.nodes.length) g.nodes.length ((List.replicate g.nodes.length 0).map (AVal.int .i64)) := .inr (.inr ⟨b3, _, _, by omega, rfl, o3, by simp, by simp⟩)
  clear o3 hck hroom hb3 hb1
  repeat with_reducible first | refine nxt_normal ?_ | refine nxt_ret ?_ | refine nxt_exit ?_ | refine blk_normal ?_ | refine blk_ret ?_ | refine blk_same ?_ | refine blk_other ?_ rfl | refine st_nil ?_ | refine cd_seq ?_ | refine cd_ops ?_ | refine cd_blockS ?_ | refine cd_blockO ?_ | refine cd_skip ?_ | refine cd_exit ?_ | refine cd_ret ?_ | refine dr_nil ?_ | refine cd_draw ?_ | (apply st_pair; exact e1; exact e1) | (apply dr_pair; exact e1; exact e1) | (apply dr_gT; exact e1) | (apply dr_gF; exact e1) | (apply dr_gU; exact e1) | (apply dr_q; exact q1) | (apply dr_ql; exact q1; exact og1) | (apply st_q; exact q1) | (apply st_pA; exact e1; exact e2) | (apply st_pO; exact e1; exact e2) | (apply st_qT; exact e1; exact q1) | (apply st_qF; exact e1) | (apply st_qU; exact e1) | (apply st_eF; exact e1) | (apply st_eU; exact e1) | (apply st_qS; exact e1; exact g1; exact q2) | (apply st_sA; exact e1; exact g1; exact e2; exact e3) | (apply st_sO; exact e1; exact g1; exact e2; exact e3) | (apply cd_condT; exact e1) | (apply cd_condF; exact e1)
  refine cd_block ?_
  refine cd_loop (fun m a hp => ∃ cl cv, Built hp h.next 3 1 cv g.nodes.length (cl.map (AVal.int .i64)) ∧ ClsOK g.nodes.length cl ∧ g.nodes.length - fixc g.nodes.length cl < m ∧ classesF g = classesG g.nodes m cl ∧ Grow h hp ∧ (∃ ver, hp.objs.get b1 = some (ver, .cells false 24 [nv, .int .i64 g.root])) ∧ a.defers = [] ∧ ev a (.tmp 1) = some (.ptr (some (b1, 0))) ∧ ev a (.tmp 3) = some cv) ?_ (n := g.nodes.length + 1)
    ⟨_, _, B0, ClsOK.zero _, by omega, rfl, g03, ⟨_, o1⟩, by exact n1, by exact e1, by exact e1⟩
  clear B0 o1 g1 g2 g3 g02 g03 n2
  rintro m a hp ⟨cl, cv, B, kc, hm, hcl, gp, ⟨ver, o1⟩, hd, h1', h3'⟩
  have hcv : IntsAt hp cv cl := built_ints (by rw [kc.len]; exact B)
  repeat with_reducible first | refine nxt_normal ?_ | refine nxt_ret ?_ | refine nxt_exit ?_ | refine blk_normal ?_ | refine blk_ret ?_ | refine blk_same ?_ | refine blk_other ?_ rfl | refine st_nil ?_ | refine cd_seq ?_ | refine cd_ops ?_ | refine cd_blockS ?_ | refine cd_blockO ?_ | refine cd_skip ?_ | refine cd_exit ?_ | refine cd_ret ?_ | refine dr_nil ?_ | refine cd_draw ?_ | (apply st_pair; exact e1; exact e1) | (apply dr_pair; exact e1; exact e1) | (apply dr_gT; exact e1) | (apply dr_gF; exact e1) | (apply dr_gU; exact e1) | (apply dr_q; exact q1) | (apply dr_ql; exact q1; exact og1) | (apply st_q; exact q1) | (apply st_pA; exact e1; exact e2) | (apply st_pO; exact e1; exact e2) | (apply st_qT; exact e1; exact q1) | (apply st_qF; exact e1) | (apply st_qU; exact e1) | (apply st_eF; exact e1) | (apply st_eU; exact e1) | (apply st_qS; exact e1; exact g1; exact q2) | (apply st_sA; exact e1; exact g1; exact e2; exact e3) | (apply st_sO; exact e1; exact g1; exact e2; exact e3) | (apply cd_condT; exact e1) | (apply cd_condF; exact e1)
  refine st_call (by exact s1) ((refine_ok H g cl hg hns kc.len (fun a => kc.inR hns.1 a) _ cv hp gp.wf ⟨nv, rfl, hN.mono gp⟩ hcv).mono ?_)
  rintro nx h4 ⟨B4, g4⟩
  replace o1 := g4.keep _ _ o1
  have g04 := gp.trans g4
  have hnx : IntsAt h4 nx (refineF g.nodes cl) := built_ints (by rw [refineF_len]; exact B4)
  have n4 := gp.next
  repeat with_reducible first | refine nxt_normal ?_ | refine nxt_ret ?_ | refine nxt_exit ?_ | refine blk_normal ?_ | refine blk_ret ?_ | refine blk_same ?_ | refine blk_other ?_ rfl | refine st_nil ?_ | refine cd_seq ?_ | refine cd_ops ?_ | refine cd_blockS ?_ | refine cd_blockO ?_ | refine cd_skip ?_ | refine cd_exit ?_ | refine cd_ret ?_ | refine dr_nil ?_ | refine cd_draw ?_ | (apply st_pair; exact e1; exact e1) | (apply dr_pair; exact e1; exact e1) | (apply dr_gT; exact e1) | (apply dr_gF; exact e1) | (apply dr_gU; exact e1) | (apply dr_q; exact q1) | (apply dr_ql; exact q1; exact og1) | (apply st_q; exact q1) | (apply st_pA; exact e1; exact e2) | (apply st_pO; exact e1; exact e2) | (apply st_qT; exact e1; exact q1) | (apply st_qF; exact e1) | (apply st_qU; exact e1) | (apply st_eF; exact e1) | (apply st_eU; exact e1) | (apply st_qS; exact e1; exact g1; exact q2) | (apply st_sA; exact e1; exact g1; exact e2; exact e3) | (apply st_sO; exact e1; exact g1; exact e2; exact e3) | (apply cd_condT; exact e1) | (apply cd_condF; exact e1)
  refine st_call (by exact s1) ((EqualInt_ok H (refineF g.nodes cl) cl (by rw [refineF_len]; omega) nx cv h4 hnx (hcv.mono g4)).mono ?_)
  rintro _ _ ⟨rfl, rfl⟩
  cases he : eqII (refineF g.nodes cl) cl
  · obtain ⟨m', rfl, hs1, hs2⟩ := classesG_step g.nodes hns kc hm he
    rw [hs1] at hcl
    clear hs1 hm
    repeat with_reducible first | refine nxt_normal ?_ | refine nxt_ret ?_ | refine nxt_exit ?_ | refine blk_normal ?_ | refine blk_ret ?_ | refine blk_same ?_ | refine blk_other ?_ rfl | refine st_nil ?_ | refine cd_seq ?_ | refine cd_ops ?_ | refine cd_blockS ?_ | refine cd_blockO ?_ | refine cd_skip ?_ | refine cd_exit ?_ | refine cd_ret ?_ | refine dr_nil ?_ | refine cd_draw ?_ | (apply st_pair; exact e1; exact e1) | (apply dr_pair; exact e1; exact e1) | (apply dr_gT; exact e1) | (apply dr_gF; exact e1) | (apply dr_gU; exact e1) | (apply dr_q; exact q1) | (apply dr_ql; exact q1; exact og1) | (apply st_q; exact q1) | (apply st_pA; exact e1; exact e2) | (apply st_pO; exact e1; exact e2) | (apply st_qT; exact e1; exact q1) | (apply st_qF; exact e1) | (apply st_qU; exact e1) | (apply st_eF; exact e1) | (apply st_eU; exact e1) | (apply st_qS; exact e1; exact g1; exact q2) | (apply st_sA; exact e1; exact g1; exact e2; exact e3) | (apply st_sO; exact e1; exact g1; exact e2; exact e3) | (apply cd_condT; exact e1) | (apply cd_condF; exact e1)
    exact ⟨m', by omega, _, nx, built_base B4 n4, ClsOK.refine _ _, hs2, hcl, g04, ⟨_, o1⟩, by exact n1, by exact e1, by exact e1⟩
  · have hcl' : classesF g = refineF g.nodes cl := by
      obtain ⟨m', rfl⟩ : ∃ m', m = m' + 1 := ⟨m - 1, by omega⟩
      rw [hcl, classesG, he]; rfl
    clear hcl
    have B5 := built_base B4 n4
    rw [← hcl'] at B5
    clear B4 hcl' hnx hcv
    repeat' with_reducible first | refine nxt_normal ?_ | refine nxt_ret ?_ | refine nxt_exit ?_ | refine blk_normal ?_ | refine blk_ret ?_ | refine blk_same ?_ | refine blk_other ?_ rfl | refine st_nil ?_ | refine cd_seq ?_ | refine cd_ops ?_ | refine cd_blockS ?_ | refine cd_blockO ?_ | refine cd_skip ?_ | refine cd_exit ?_ | refine cd_ret ?_ | refine dr_nil ?_ | refine cd_draw ?_ | (apply st_pair; exact e1; exact e1) | (apply dr_pair; exact e1; exact e1) | (apply dr_gT; exact e1) | (apply dr_gF; exact e1) | (apply dr_gU; exact e1) | (apply dr_q; exact q1) | (apply dr_ql; exact q1; exact og1) | (apply st_q; exact q1) | (apply st_pA; exact e1; exact e2) | (apply st_pO; exact e1; exact e2) | (apply st_qT; exact e1; exact q1) | (apply st_qF; exact e1) | (apply st_qU; exact e1) | (apply st_eF; exact e1) | (apply st_eU; exact e1) | (apply st_qS; exact e1; exact g1; exact q2) | (apply st_sA; exact e1; exact g1; exact e2; exact e3) | (apply st_sO; exact e1; exact g1; exact e2; exact e3) | (apply cd_condT; exact e1) | (apply cd_condF; exact e1) | (apply fin_ret; exact n1; exact r1) | (apply cd_cond; exact e1; all_goals intro _)
    exact ⟨B5, g04⟩
/-- Checked or not. -/
theorem ClassesNil_ok (g : Graph) (hg : GSm g) (hok : checkF g ≠ 0) (v : AVal) (h : AHeap) (hw : WF h) (hv : GraphAt h v g) :
    Cl fns summ 53 [v] h fun r h' => r = .slice none 0 ∧ Grow h h' := by
  obtain ⟨nv, rfl, hN⟩ := hv
  refine H.go (fn := F_Classes) rfl (by decide) rfl rfl ?_
  unfold F_Classes
  dsimp only
  refine cd_seq (cd_ops ?_)
  refine st_box (by exact e1) (by exact cc) hw ?_
  rintro b1 h1 hb1 g1 o1
  have hpart : partA (some 2) [nv, .int .i64 g.root] 0 = some (.agg [nv, .int .i64 g.root]) := rfl
  repeat with_reducible first | refine nxt_normal ?_ | refine nxt_ret ?_ | refine nxt_exit ?_ | refine blk_normal ?_ | refine blk_ret ?_ | refine blk_same ?_ | refine blk_other ?_ rfl | refine st_nil ?_ | refine cd_seq ?_ | refine cd_ops ?_ | refine cd_blockS ?_ | refine cd_blockO ?_ | refine cd_skip ?_ | refine cd_exit ?_ | refine cd_ret ?_ | refine dr_nil ?_ | refine cd_draw ?_ | (apply st_pair; exact e1; exact e1) | (apply dr_pair; exact e1; exact e1) | (apply dr_gT; exact e1) | (apply dr_gF; exact e1) | (apply dr_gU; exact e1) | (apply dr_q; exact q1) | (apply dr_ql; exact q1; exact og1) | (apply st_q; exact q1) | (apply st_pA; exact e1; exact e2) | (apply st_pO; exact e1; exact e2) | (apply st_qT; exact e1; exact q1) | (apply st_qF; exact e1) | (apply st_qU; exact e1) | (apply st_eF; exact e1) | (apply st_eU; exact e1) | (apply st_qS; exact e1; exact g1; exact q2) | (apply st_sA; exact e1; exact g1; exact e2; exact e3) | (apply st_sO; exact e1; exact g1; exact e2; exact e3) | (apply cd_condT; exact e1) | (apply cd_condF; exact e1)
  refine st_call (by exact s1) ((Check_ok H g hg.toGraphSm _ h1 g1.wf ⟨nv, rfl, hN.mono g1⟩).mono ?_)
  rintro _ h2 ⟨rfl, g2⟩
  have g02 := g1.trans g2
  have hck : (checkF g != 0) = true := by simpa using hok
  clear hok
  repeat' with_reducible first | refine nxt_normal ?_ | refine nxt_ret ?_ | refine nxt_exit ?_ | refine blk_normal ?_ | refine blk_ret ?_ | refine blk_same ?_ | refine blk_other ?_ rfl | refine st_nil ?_ | refine cd_seq ?_ | refine cd_ops ?_ | refine cd_blockS ?_ | refine cd_blockO ?_ | refine cd_skip ?_ | refine cd_exit ?_ | refine cd_ret ?_ | refine dr_nil ?_ | refine cd_draw ?_ | (apply st_pair; exact e1; exact e1) | (apply dr_pair; exact e1; exact e1) | (apply dr_gT; exact e1) | (apply dr_gF; exact e1) | (apply dr_gU; exact e1) | (apply dr_q; exact q1) | (apply dr_ql; exact q1; exact og1) | (apply st_q; exact q1) | (apply st_pA; exact e1; exact e2) | (apply st_pO; exact e1; exact e2) | (apply st_qT; exact e1; exact q1) | (apply st_qF; exact e1) | (apply st_qU; exact e1) | (apply st_eF; exact e1) | (apply st_eU; exact e1) | (apply st_qS; exact e1; exact g1; exact q2) | (apply st_sA; exact e1; exact g1; exact e2; exact e3) | (apply st_sO; exact e1; exact g1; exact e2; exact e3) | (apply cd_condT; exact e1) | (apply cd_condF; exact e1) | (apply fin_ret; exact n1; exact r1) | (apply cd_cond; exact e1; all_goals intro _)
  exact ⟨rfl, g02⟩
end
end Go.Ab.S
end
