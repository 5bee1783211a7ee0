import Derived.Test.YtapnoohglfhgeaaGreatDoorP13
import Derived.Test.YtapnoohglfhgeaaGreatDoorP21
/-
  Part 22 of the proof.
-/
set_option linter.all false
section
/-
  What a name means as a class; all classes' names.
-/
namespace Go.Ab.S
open Go.Ab
set_option maxHeartbeats 4000000
def classF : List Mean → List Nat → Option CDef
  | [], _ => none
  | m :: l, s => if m.cls.isSome && eqL m.name s then m.cls else classF l s
def resC (o : Option CDef) : CDef := match o with | some c => ownC c | none => ⟨0, ⟨[], 0⟩, [], []⟩
def ClsAt (h : AHeap) (v : AVal) (c : CDef) : Prop := ∃ nv cv vv, v = .agg [.int .i64 c.params, nv, .int .i64 c.g.root, cv, vv] ∧ NodesAt h nv c.g.nodes ∧ StrsAt h cv c.conc ∧ StrsAt h vv c.virt
structure COk (c : CDef) : Prop where
  g : GSm c.g
  conc : c.conc.length ≤ 2 ^ 31
  virt : c.virt.length ≤ 2 ^ 31
def OwnC (h : AHeap) (base : Nat) (cs : List AVal) (c : CDef) : Prop := ∃ xn xc xv, cs = [.int .i64 c.params, xn, .int .i64 c.g.root, xc, xv] ∧ OwnG h base (.agg [xn, .int .i64 c.g.root]) c.g ∧ Built h base 9 1 xc c.conc.length (c.conc.map AVal.str) ∧ Built h base 9 1 xv c.virt.length (c.virt.map AVal.str)
theorem OwnC.stay {h h' : AHeap} {base : Nat} {cs : List AVal} {c : CDef} (k : OwnC h base cs c) (hk : ∀ x p, base ≤ x → h.objs.get x = some p → h'.objs.get x = some p) : OwnC h' base cs c := by
  obtain ⟨xn, xc, xv, q0, q1, q2, q3⟩ := k
  exact ⟨xn, xc, xv, q0, q1.stay fun x p hx hp _ => hk x p hx hp, built_stay' q2 fun x p hx hp _ => hk x p hx hp, built_stay' q3 fun x p hx hp _ => hk x p hx hp⟩
theorem OwnC.at {h : AHeap} {base : Nat} {cs : List AVal} {c : CDef} (k : OwnC h base cs c) : ClsAt h (.agg cs) c := by
  obtain ⟨xn, xc, xv, rfl, q1, q2, q3⟩ := k
  obtain ⟨nv, hq, hN⟩ := q1.graph
  cases hq
  exact ⟨xn, xc, xv, rfl, hN, built_strs' q2, built_strs' q3⟩
theorem OwnC.ones {h : AHeap} {base : Nat} {cs : List AVal} {c : CDef} (k : OwnC h base cs c) : cs.all one = true := by
  obtain ⟨nv, cv, vv, hq, q1, q2, q3⟩ := k.at
  cases hq
  simp only [List.all_cons, List.all_nil, zAO q1.len, zAO q2.len, zAO q3.len]; rfl
section
variable {fns : FuncId → Option AFunc} {summ : FuncId → List AVal → AHeap → Option (D (AVal × AHeap))}
variable (H : Has fns summ)
include H
theorem EClass_ok (L : List Mean) (hL : ∀ m ∈ L, ∀ g, m.cls = some g → COk g) (hne : L ≠ []) (v : AVal) (s : List Nat) (h : AHeap) (hw : WF h) (hE : EnvAt h v L) :
    Cl fns summ 24 [v, .str s] h fun r h' => (∃ z, r = .tuple [z, .int .i64 (if (classF L s).isSome then 0 else 10)] ∧ ClsAt h' z (resC (classF L s))) ∧ Grow h h' := by
  have hv1 := hE.one
  obtain ⟨bv, rfl⟩ : ∃ bv, v = .ptr (some (bv, 0)) := by
    cases L with
    | nil => exact absurd rfl hne
    | cons m l => obtain ⟨b, _, _, _, _, _, _, rfl, _⟩ := hE; exact ⟨b, rfl⟩
  have hvp : eqA .ptr (.ptr (some (bv, 0))) (.ptr none) = some false := rfl
  have hLs := Hid.mk hL
  have hx0 : (false ^^ false) = false := rfl
  clear hL
  refine H.go (fn := F_EClass) rfl (by decide) rfl rfl ?_
  unfold F_EClass
  dsimp only [qQ, qE, qN, gQ, gE, vi]
  refine zAC (zAD ?_)
  refine st_box (by exact e1) (by exact cc) hw ?_
  rintro b3 h3 hb3 g3 o3
  refine st_alloc g3.wf ?_
  rintro b4 h4 hb4 g4 o4
  refine st_alloc g4.wf ?_
  rintro b5 h5 hb5 g5 o5
  have l3 := g3.wf.lt o3
  have l4 := g4.wf.lt o4
  have l5 := g5.wf.lt o5
  replace o4 := g5.keep _ _ o4
  replace o3 := g5.keep _ _ (g4.keep _ _ o3)
  have g05 := (g3.trans g4).trans g5
  have n3 := g3.next
  have n4 := g4.next
  have n5 := g5.next
  clear g3 g4 g5
  repeat with_reducible first | refine zAA ?_ | refine zAB ?_ | refine zAC ?_ | refine zAD ?_ | refine zAK ?_ | (apply st_q; exact q1) | (apply zAH; exact e1)
  refine zAT (by exact s1) ((eall_ok H _ hv1 h5 g05.wf).mono ?_)
  rintro _ h6 ⟨b, rfl, hb, vb, g6⟩
  have hb3 := l3
  have lb : b < h6.next := by obtain ⟨_, ov⟩ := vb; exact g6.wf.lt ov
  repeat with_reducible first | refine zAA ?_ | refine zAB ?_
  refine cd_gen (fun A => A.defers = [] ∧ ev A (.tmp 3) = some (.ptr (some (b3, 0))) ∧ ev A (.tmp 4) = some (.ptr (some (b4, 0))) ∧ ev A (.tmp 5) = some (.ptr (some (b5, 0))) ∧ ev A (.tmp 11) = some (.func 61 [] [.ptr (some (b, 0))]))
    ⟨by exact n1, by exact e1, by exact e1, by exact e1, by exact e1⟩ ?_
  rintro A ⟨hd, t3, t4, t5, t11⟩
  refine cd_block ?_
  generalize hB : ACode.block 1 _ = B
  generalize hA : ACode.ops [⟨some 6, none, .q (.mov (.tmp 12))⟩] = As
  refine rangeF_K t11 g6.wf ?_
  intro l d h7 hdn hld g7 ol od
  have g57 : Grow h5 h7 := g6.trans g7
  have n6 := g6.next
  have w5 := g05.wf
  refine (eall1_ok H L _ h5 (hE.mono g05) b (.yield l) (fun k hp => Grow h5 hp ∧ l < hp.next ∧ (∃ ver, hp.objs.get l = some (ver, .loop .ready none A.tmps [12] As B d)) ∧ (∃ ver, hp.objs.get d = some (ver, .dfr false)) ∧ classF L s = classF (L.drop k) s)
    (fun hp => WF hp ∧ Grow h hp ∧ (∃ ver, hp.objs.get l = some (ver, .loop .done (some .ret) A.tmps [12] As B d)) ∧ (∃ ver, hp.objs.get d = some (ver, .dfr false)) ∧ ∃ z zc zv g ver4 ver5 base, classF L s = some g ∧ hp.objs.get b4 = some (ver4, .cells false 42 [.int .i64 g.params, z, .int .i64 (trimF g.g).root, zc, zv]) ∧ hp.objs.get b5 = some (ver5, .cells false 31 [.int .i64 0]) ∧ (l < base ∧ d < base) ∧ OwnC hp base [.int .i64 g.params, z, .int .i64 (trimF g.g).root, zc, zv] (ownC g))
    (fun k hp p => p.1) ?_ ?_ h7 ⟨g57, by obtain ⟨_, ol⟩ := ol; exact g7.wf.lt ol, ol, od, rfl⟩ (by obtain ⟨vv, ov⟩ := vb; exact ⟨vv, g7.keep _ _ ov⟩)).mono ?_
  · rintro k hp hp' vk ⟨gp, hl, ⟨vl, ol⟩, ⟨vd, od⟩, hr⟩ ⟨vv, ov⟩ pb
    exact ⟨pb.grow h5 w5 gp hb, Nat.lt_of_lt_of_le hl pb.next, ⟨_, pb.keep l (by rintro rfl; rw [ol] at ov; cases ov) _ ol⟩, ⟨_, pb.keep d (by rintro rfl; rw [od] at ov; cases ov) _ od⟩, hr⟩
  · clear ol od
    rintro k hp vk hk ⟨gp, hl, ⟨vl, ol⟩, ⟨vd, od⟩, hr⟩ ⟨vv, ov⟩ hEk
    obtain ⟨mm, rest, hdrop⟩ : ∃ mm rest, L.drop k = mm :: rest := by
      rw [List.drop_eq_getElem_cons hk]; exact ⟨_, _, rfl⟩
    have hmem : mm ∈ L := List.mem_of_mem_drop (i := k) (by rw [hdrop]; simp)
    have hrd : L.drop (k + 1) = rest := by
      have := congrArg List.tail hdrop
      simpa using this
    rw [hdrop] at hEk
    obtain ⟨be, vere, roe, ee, pv, pc, pa, rfl, oe5, hvx, hv, hrest⟩ := hEk
    have oe := gp.keep _ _ oe5
    have T3 : ev { tmps := A.tmps, defers := [] } (.tmp 3) = some (.ptr (some (b3, 0))) := t3
    have T4 : ev { tmps := A.tmps, defers := [] } (.tmp 4) = some (.ptr (some (b4, 0))) := t4
    have T5 : ev { tmps := A.tmps, defers := [] } (.tmp 5) = some (.ptr (some (b5, 0))) := t5
    refine yield_K ol gp.wf rfl (fun a1 => a1.defers = [] ∧ ev a1 (.tmp 6) = some (.ptr (some (be, 0))) ∧ ev a1 (.tmp 3) = some (.ptr (some (b3, 0))) ∧ ev a1 (.tmp 4) = some (.ptr (some (b4, 0))) ∧ ev a1 (.tmp 5) = some (.ptr (some (b5, 0)))) ?_ ?_
    · subst hA
      clear hd t3 t4 t5 t11
      repeat with_reducible first | refine zAA ?_ | refine zAB ?_ | refine zAD ?_ | (apply st_q; exact q1)
      exact ⟨rfl, by exact n1, by exact e1, by exact e1, by exact e1, by exact e1⟩
    · rintro a1 hq ⟨hd1, t6, t3', t4', t5'⟩ pL ⟨vlb, olb⟩
      clear hd t3 t4 t5 t11 T3 T4 T5
      have hlb : b ≠ l := by rintro rfl; rw [ol] at ov; cases ov
      have hld' : d ≠ l := by rintro rfl; rw [ol] at od; cases od
      have hel : be ≠ l := by rintro rfl; rw [ol] at oe; cases oe
      have gq : Grow h5 hq := pL.grow h5 w5 gp (by omega)
      have oeq := pL.keep _ hel _ oe
      have odq := pL.keep _ hld' _ od
      have ovq := pL.keep _ hlb _ ov
      have o3q := gq.keep _ _ o3
      have o4q := gq.keep _ _ o4
      have o5q := gq.keep _ _ o5
      have hlq : l < hq.next := Nat.lt_of_lt_of_le hl pL.next
      have w := gq.wf
      have next : ∀ e : AExit, classF L s = classF (L.drop (k + 1)) s → e = .normal → ∀ h4, But l hq h4 → (∃ ver, h4.objs.get l = some (ver, .loop .ready none A.tmps [12] As B d)) → (((.bool true : AVal) = .bool true ∧ (Grow h5 h4 ∧ l < h4.next ∧ (∃ ver, h4.objs.get l = some (ver, .loop .ready none A.tmps [12] As B d)) ∧ (∃ ver, h4.objs.get d = some (ver, .dfr false)) ∧ classF L s = classF (L.drop (k + 1)) s) ∧ VarAt h4 b (.ptr (some (be, 0)))) ∨ False) := fun e hh _ h4 p4 o4l =>
        .inl ⟨rfl, ⟨p4.grow h5 w5 gq (by omega), Nat.lt_of_lt_of_le hlq p4.next, o4l, ⟨_, p4.keep d hld' _ odq⟩, hh⟩, ⟨_, p4.keep b hlb _ ovq⟩⟩
      replace next := Hid.mk next
      subst hB
      clear ol oe od ov pL
      cases hmv : mm.cls with
      | none =>
        rw [hmv] at hv
        have hpv : pc = .ptr none := hv
        subst hpv
        have hq1 : eqA .ptr (.ptr none) (.ptr none) = some true := rfl
        have hxr : (true ^^ true) = false := rfl
        have hr' : classF L s = classF (L.drop (k + 1)) s := by rw [hr, hdrop, classF, hmv, hrd]; rfl
        replace hr' := Hid.mk hr'
        clear hr
        repeat with_reducible first | refine zAA ?_ | refine zAE ?_ | refine zAC ?_ | refine zAG ?_ | refine zAK ?_ | refine dr_nil ?_ | refine zAV ?_ | (apply dr_gF; exact e1) | (apply dr_q; exact q1) | (apply dr_ql; exact q1; exact og1) | (apply zAH; exact e1)
        exact ⟨w, ⟨_, olb⟩, fun hh h4 p4 o4 => (next.out _ hr'.out hh h4 p4 o4).imp id False.elim, fun hh => absurd rfl hh⟩
      | some g =>
        rw [hmv] at hv
        obtain ⟨bg, verg, rog, eg, nvg, cvg, vvg, rfl, og5, hNg, hCg, hVg⟩ := hv
        have hq1 : eqA .ptr (.ptr (some (bg, 0))) (.ptr none) = some false := rfl
        have hxr : (true ^^ false) = true := rfl
        have ogq := gq.keep _ _ og5
        cases hn : eqL mm.name s
        · have hr' : classF L s = classF (L.drop (k + 1)) s := by rw [hr, hdrop, classF, hmv, hn, hrd]; rfl
          replace hr' := Hid.mk hr'
          clear hr
          repeat with_reducible first | refine zAA ?_ | refine zAE ?_ | refine zAC ?_ | refine zAG ?_ | refine zAK ?_ | refine dr_nil ?_ | refine zAV ?_ | (apply dr_gT; exact e1) | (apply dr_q; exact q1) | (apply dr_ql; exact q1; exact og1) | (apply zAH; exact e1)
          exact ⟨w, ⟨_, olb⟩, fun hh h4 p4 o4 => (next.out _ hr'.out hh h4 p4 o4).imp id False.elim, fun hh => absurd rfl hh⟩
        · have hr' : classF L s = some g := by rw [hr, hdrop, classF, hmv, hn]; rfl
          replace hr' := Hid.mk hr'
          clear hr next
          have hgs := hLs.out mm hmem g hmv
          replace hmv := Hid.mk hmv
          have hpg := take5
          have ht2 : ∀ x y : AVal, List.take 2 [x, y] = [x, y] := fun _ _ => rfl
          repeat with_reducible first | refine zAA ?_ | refine zAC ?_ | refine zAD ?_ | refine zAG ?_ | refine dr_nil ?_ | refine zAV ?_ | (apply dr_gT; exact e1) | (apply dr_q; exact q1) | (apply dr_ql; exact q1; exact og1) | (apply st_q; exact q1) | (apply zAF; exact e1)
          refine zAT (by exact s1) ((cown_ok H g hgs.g hgs.conc hgs.virt nvg cvg vvg hq w (hNg.mono gq) (hCg.mono gq) (hVg.mono gq)).mono ?_)
          rintro _ h8 ⟨⟨tn, tc, tv, rfl, hO1, hO2, hO3⟩, g8⟩
          have hO' : Hid (OwnC h8 hq.next [.int .i64 g.params, tn, .int .i64 (trimF g.g).root, tc, tv] (ownC g)) := ⟨⟨tn, tc, tv, rfl, hO1, hO2, hO3⟩⟩
          have htn := hO'.out.ones
          clear hO1 hO2 hO3
          have o48 := g8.keep _ _ o4q
          have o58 := g8.keep _ _ o5q
          have olb8 := g8.keep _ _ olb
          have od8 := g8.keep _ _ odq
          have nq := gq.next
          have n8 := g8.next
          clear o3q o4q o5q oeq ogq ovq olb odq
          skip
          refine zAM (by exact e1) (by exact e1) (cs := [.int .i64 g.params, tn, .int .i64 (trimF g.g).root, tc, tv]) rfl rfl g8.wf o48 (by simp) htn ?_
          rintro v9 h9 p9 o9
          simp only [List.take_zero, List.nil_append, List.length_cons, List.length_nil, List.drop_succ_cons, List.drop_zero, List.append_nil, Nat.zero_add, Nat.reduceAdd, List.drop_nil, List.cons_append] at o9
          have o59 := p9.keep b5 (by omega) _ o58
          have olb9 := p9.keep l (by omega) _ olb8
          have od9 := p9.keep d (by omega) _ od8
          have w9 := p9.wf g8.wf
          have g9 := p9.grow h hw (g05.trans (gq.trans g8)) (by omega)
          have hO9 := hO'.out.stay fun c p hcb hp => p9.keep c (by omega) _ hp
          clear o48 o58 olb8 od8
          skip
          refine zAM (by exact e1) (by exact e1) (cs := [.int .i64 0]) rfl rfl w9 o59 (by simp) rfl ?_
          rintro v10 h10 p10 o10
          simp only [List.take_zero, List.nil_append, List.length_cons, List.length_nil, List.drop_succ_cons, List.drop_zero, List.append_nil, Nat.zero_add, Nat.reduceAdd, List.drop_nil, List.cons_append] at o10
          have o410 := p10.keep b4 (by omega) _ o9
          have olb10 := p10.keep l (by omega) _ olb9
          have od10 := p10.keep d (by omega) _ od9
          have w10 := p10.wf w9
          have g10 := p10.grow h hw g9 (by omega)
          have n9 := p9.next
          have hO10 := hO9.stay fun c p hcb hp => p10.keep c (by omega) _ hp
          clear o9 o59 olb9 od9
          repeat with_reducible first | refine zAA ?_ | refine zAU ?_ | refine zAB ?_ | refine zAI ?_
          refine ⟨w10, ⟨_, olb10⟩, (by intro hh; cases hh), fun _ h4' p4 o4l => .inr ⟨rfl, p4.wf w10, p4.grow h hw g10 (by omega), o4l, ⟨_, p4.keep d hld' _ od10⟩, tn, tc, tv, g, _, _, hq.next, hr'.out, p4.keep b4 (by omega) _ o410, p4.keep b5 (by omega) _ o10, ⟨hlq, by omega⟩, hO10.stay fun c p hcb hp => p4.keep c (by omega) _ hp⟩⟩
  · clear ol od
    rintro _ h8 (⟨gp, hl, ⟨vl, ol⟩, ⟨vd, od⟩, hr⟩ | ⟨w8, g8, ol, ⟨vd, od⟩, z, zc, zv, gg, ver4, ver5, base, hvf, oz4, oz5, ⟨bl, bd⟩, hOwn⟩)
    · rw [List.drop_length] at hr
      have hnone : classF L s = none := hr
      refine ⟨gp.wf, .inl ⟨⟨_, ol⟩, fun h9 p9 => ?_⟩⟩
      have hld' : d ≠ l := by rintro rfl; rw [ol] at od; cases od
      have o49 := p9.keep b4 (by omega) _ (gp.keep _ _ o4)
      have o59 := p9.keep b5 (by omega) _ (gp.keep _ _ o5)
      have od9 := p9.keep d hld' _ od
      have g9 := p9.grow h hw (g05.trans gp) (by omega)
      have T4 : ev { tmps := A.tmps, defers := [.collected d] } (.tmp 4) = some (.ptr (some (b4, 0))) := t4
      have T5 : ev { tmps := A.tmps, defers := [.collected d] } (.tmp 5) = some (.ptr (some (b5, 0))) := t5
      have hdd : (ADef.collected d :: A.defers) = [.collected d] := by rw [hd]
      have hpz := take5
      replace hnone := Hid.mk hnone
      clear hr hd t3 t4 t5 t11 ol od o3 o4 o5
      repeat with_reducible first | refine zAA ?_ | refine zAE ?_ | refine zAC ?_ | refine zAD ?_ | (apply st_q; exact q1)
      refine zAM (by exact e1) (by exact e1) (cs := [.int .i64 0, .slice none 0, .int .i64 0, .slice none 0, .slice none 0]) rfl rfl g9.wf o49 (by simp) rfl ?_
      rintro v10 h10 p10 o10
      simp only [List.take_zero, List.nil_append, List.length_cons, List.length_nil, List.drop_succ_cons, List.drop_zero, List.append_nil, Nat.zero_add, Nat.reduceAdd, List.drop_nil, List.cons_append] at o10
      have o510 := p10.keep b5 (by omega) _ o59
      have od10 := p10.keep d (by omega) _ od9
      have g10 := p10.grow h hw g9 (by omega)
      clear o49 o59 od9
      skip
      refine zAM (by exact e1) (by exact e1) (cs := [.int .i64 10]) rfl rfl g10.wf o510 (by simp) rfl ?_
      rintro v11 h11 p11 o11
      simp only [List.take_zero, List.nil_append, List.length_cons, List.length_nil, List.drop_succ_cons, List.drop_zero, List.append_nil, Nat.zero_add, Nat.reduceAdd, List.drop_nil, List.cons_append] at o11
      have o411 := p11.keep b4 (by omega) _ o10
      have od11 := p11.keep d (by omega) _ od10
      have g11 := p11.grow h hw g10 (by omega)
      clear o10 o510 od10
      repeat with_reducible first | refine zAA ?_ | refine zAB ?_ | refine zAI ?_
      refine fin_coll (by first | exact hdd | (simp only [zAY]; exact hdd)) g11.wf ⟨_, od11⟩ fun h12 p12 => ?_
      have o412 := p12.keep b4 (by omega) _ o411
      have o512 := p12.keep b5 (by omega) _ o11
      refine ⟨_, by exact r1, ⟨.agg [.int .i64 0, .slice none 0, .int .i64 0, .slice none 0, .slice none 0], ?_, ?_⟩, p12.grow h hw g11 (by omega)⟩
      · rw [hnone.out]; rfl
      · rw [hnone.out]
        exact ⟨.slice none 0, .slice none 0, .slice none 0, rfl, ⟨[], ⟨rfl, fun i x hx => by simp at hx⟩, rfl, fun i n c hn _ => by simp [resC] at hn⟩, strs_nil _, strs_nil _⟩
    · refine ⟨w8, .inr ⟨.ret, (by intro hh; cases hh), ol, fun h9 p9 => ?_⟩⟩
      obtain ⟨vl, ol⟩ := ol
      have hld' : d ≠ l := by rintro rfl; rw [ol] at od; cases od
      have T4 : ev { tmps := A.tmps, defers := [.collected d] } (.tmp 4) = some (.ptr (some (b4, 0))) := t4
      have T5 : ev { tmps := A.tmps, defers := [.collected d] } (.tmp 5) = some (.ptr (some (b5, 0))) := t5
      have hdd : (ADef.collected d :: A.defers) = [.collected d] := by rw [hd]
      have o49 := p9.keep b4 (by omega) _ oz4
      have o59 := p9.keep b5 (by omega) _ oz5
      have od9 := p9.keep d hld' _ od
      have g9 := p9.grow h hw g8 (by omega)
      have hO9 := hOwn.stay fun c p hcb hp => p9.keep c (by omega) _ hp
      have hpz := take5
      replace hvf := Hid.mk hvf
      clear hd t3 t11 oz4 oz5 od hOwn o3 o4 o5
      repeat with_reducible first | refine zAN ?_ | refine zAU ?_
      refine fin_coll (by first | exact hdd | (simp only [zAY]; exact hdd)) g9.wf ⟨_, od9⟩ fun h12 p12 => ?_
      have o412 := p12.keep b4 (by omega) _ o49
      have o512 := p12.keep b5 (by omega) _ o59
      refine ⟨_, by exact r1, ⟨.agg [.int .i64 gg.params, z, .int .i64 (trimF gg.g).root, zc, zv], ?_, ?_⟩, p12.grow h hw g9 (by omega)⟩
      · rw [hvf.out]; rfl
      · rw [hvf.out]
        exact (hO9.stay fun c p hcb hp => p12.keep c (by omega) _ hp).at
theorem EClasses1_ok (m : Mean) (l : List Mean) (bm : Nat) (h : AHeap) (hE : EnvAt h (.ptr (some (bm, 0))) (m :: l)) : Cl fns summ 46 [.ptr (some (bm, 0))] h fun r h' => r = .bool m.cls.isSome ∧ h' = h := by
  obtain ⟨be, ver, ro, e, pv, pc, pa, hq, oe, _, hv, _⟩ := hE
  cases hq
  refine H.go (fn := F_EClasses1) rfl (by decide) rfl rfl ?_
  unfold F_EClasses1
  dsimp only [qQ, qE, qN, gQ, gE, vi]
  cases hmv : m.cls with
  | none =>
    rw [hmv] at hv
    have hpv : pc = .ptr none := hv
    subst hpv
    have hq1 : eqA .ptr (.ptr none) (.ptr none) = some true := rfl
    have hxr : (true ^^ true) = false := rfl
    repeat' with_reducible first | refine zAA ?_ | refine zAB ?_ | refine zAC ?_ | refine zAD ?_ | refine zAI ?_ | (apply st_q; exact q1) | (apply zAJ; exact n1; exact r1)
    exact ⟨rfl, rfl⟩
  | some g =>
    rw [hmv] at hv
    obtain ⟨bg, verg, rog, eg, nvg, cvg, vvg, rfl, og5, hNg, _, _⟩ := hv
    have hq1 : eqA .ptr (.ptr (some (bg, 0))) (.ptr none) = some false := rfl
    have hxr : (true ^^ false) = true := rfl
    repeat' with_reducible first | refine zAA ?_ | refine zAB ?_ | refine zAC ?_ | refine zAD ?_ | refine zAI ?_ | (apply st_q; exact q1) | (apply zAJ; exact n1; exact r1)
    exact ⟨rfl, rfl⟩
variable (HS : HasSort summ)
include HS
theorem EClasses_ok (L : List Mean) (hL : L.length ≤ 2 ^ 20) (hb : ∀ m ∈ L, m.cls.isSome = true → ∀ c ∈ m.name, c < 256) (v : AVal) (h : AHeap) (hw : WF h) (hE : EnvAt h v L) :
    Cl fns summ 21 [v] h fun r h' => ∃ out, StrsAt h' r out ∧ Rises out ∧ (∀ s, s ∈ out ↔ ∃ m ∈ L, m.cls.isSome = true ∧ m.name = s) ∧ out.length ≤ 2 ^ 20 ∧ Grow h h' := by
  have hq := enames_ok H HS L (fun m => m.cls.isSome) hL hb (.func 46 [] []) rfl (fun m l bm h hE => cv_func (EClasses1_ok H m l bm h hE)) v h hw hE
  refine H.go (fn := F_EClasses) rfl (by decide) rfl rfl ?_
  unfold F_EClasses
  dsimp only [qQ, qE, qN, gQ, gE, vi]
  repeat with_reducible first | refine zAA ?_ | refine zAB ?_ | refine zAC ?_ | refine zAD ?_ | (apply st_q; exact q1)
  refine zAT (by exact s1) (hq.mono ?_)
  rintro r h2 hr
  repeat' with_reducible first | refine zAA ?_ | refine zAB ?_ | refine zAI ?_ | (apply st_q; exact q1) | (apply zAJ; exact n1; exact r1)
  exact hr
end
end Go.Ab.S
end
section
/-
  All names rise, and each means something: the law's walk.
-/
namespace Go.Ab.S
open Go.Ab
set_option maxHeartbeats 4000000
structure LOK (L : List Mean) : Prop where
  ne : L ≠ []
  val : ∀ m ∈ L, ∀ g, m.value = some g → GSm g
  cls : ∀ m ∈ L, ∀ c, m.cls = some c → COk c
  nv : ∀ m ∈ L, m.value.isSome = true → ∀ c ∈ m.name, c < 256
  nc : ∀ m ∈ L, m.cls.isSome = true → ∀ c ∈ m.name, c < 256
theorem new_ok {L : List Mean} (h : NewL L) : LOK L ∧ L.length ≤ 4 := by
  obtain ⟨f1, f2, f3, _, f5, _⟩ := newL_facts h
  obtain ⟨seen, _, _, rfl⟩ := h
  have hno : ∀ m ∈ seen.reverse.map startM ++ [baseM], m.cls = none := fun m hm => by
    rcases List.mem_append.1 hm with hm | hm
    · obtain ⟨i, _, rfl⟩ := List.mem_map.1 hm
      match i with
      | 0 => rfl
      | 1 => rfl
      | i + 2 => rfl
    · rw [List.mem_singleton.1 hm]; rfl
  exact ⟨⟨f1, f3, fun m hm c hc => (by rw [hno m hm] at hc; cases hc), f5, fun m hm hc => (by rw [hno m hm] at hc; cases hc)⟩, f2⟩
theorem withF_ok {s : List Nat} {g : Graph} (h : withF s g = 0) : isNameF s = true ∧ checkF g = 0 := by
  unfold withF at h
  split at h
  · rename_i hn; exact ⟨hn, h⟩
  · cases h
theorem withC_ok {s : List Nat} {c : CDef} (h : withC s c = 0) : isNameF s = true ∧ ckF c = 0 := by
  unfold withC at h
  split at h
  · rename_i hn; exact ⟨hn, h⟩
  · cases h
theorem LOK.putV {L : List Mean} (k : LOK L) {s : List Nat} {g : Graph} (hg : GTi g) (h : withF s g = 0) : LOK (⟨s, some (leastF g), none⟩ :: L) := by
  obtain ⟨hn, hc⟩ := withF_ok h
  refine ⟨by simp, fun m hm x hx => ?_, fun m hm x hx => ?_, fun m hm hv => ?_, fun m hm hv => ?_⟩
  · rcases List.mem_cons.1 hm with rfl | hm
    · cases hx; exact (least_tiny hg hc).toGSm
    · exact k.val m hm x hx
  · rcases List.mem_cons.1 hm with rfl | hm
    · cases hx
    · exact k.cls m hm x hx
  · rcases List.mem_cons.1 hm with rfl | hm
    · exact name_bytes hn
    · exact k.nv m hm hv
  · rcases List.mem_cons.1 hm with rfl | hm
    · cases hv
    · exact k.nc m hm hv
theorem LOK.putC {L : List Mean} (k : LOK L) {s : List Nat} {c : CDef} (hg : GTi c.g) (hs : CSm c) (h : withC s c = 0) : LOK (⟨s, none, some (keptC c)⟩ :: L) := by
  obtain ⟨hn, hk⟩ := withC_ok h
  have hc := (ck_facts hk).1
  have hsum := hs.sum
  refine ⟨by simp, fun m hm x hx => ?_, fun m hm x hx => ?_, fun m hm hv => ?_, fun m hm hv => ?_⟩
  · rcases List.mem_cons.1 hm with rfl | hm
    · cases hx
    · exact k.val m hm x hx
  · rcases List.mem_cons.1 hm with rfl | hm
    · cases hx; exact ⟨(least_tiny (trim_tiny hg hc) (trim_quo hc).check).toGSm, by show c.conc.length ≤ _; omega, by show c.virt.length ≤ _; omega⟩
    · exact k.cls m hm x hx
  · rcases List.mem_cons.1 hm with rfl | hm
    · cases hv
    · exact k.nv m hm hv
  · rcases List.mem_cons.1 hm with rfl | hm
    · exact name_bytes hn
    · exact k.nc m hm hv
theorem great_tiny {l : List StepD} (hg : egreatF l = false) {s : StepD} (hs : s ∈ l) (ok : StepOK s) : GTi s.g ∧ GTi s.c.g ∧ CSm s.c := by
  simp only [egreatF, Bool.or_eq_false_iff, List.any_eq_false] at hg
  have hb := hg.1 s hs
  simp only [badSt, Bool.or_eq_true, decide_eq_true_eq, not_or] at hb
  have e31 : (2 : Nat) ^ 31 = 2147483648 := by decide
  exact ⟨ok.g.tiny (by omega), ok.k.tiny (by omega), ⟨ok.k.sm, ok.conc, ok.virt, by omega⟩⟩
section
variable {fns : FuncId → Option AFunc} {summ : FuncId → List AVal → AHeap → Option (D (AVal × AHeap))}
theorem cd_mid {ro : Option Nat} {c : ACode} {a : AAct} {h : AHeap} {K : AAct → AHeap → Prop} {Q : AExit → AAct → AHeap → Prop} (I : AAct → AHeap → Prop) (k1 : Cd fns summ ro c a h (nxt I Q)) (k2 : ∀ a h, I a h → K a h) : Cd fns summ ro c a h (nxt K Q) :=
  k1.mono fun e a1 h1 hq => by cases e with
    | normal => exact k2 a1 h1 hq
    | ret => exact hq
    | exit i => exact hq
variable (H : Has fns summ)
include H
theorem sTo_ok (v0 v1 v2 v3 v4 : AVal) (hone : [v0, v1, v2, v3, v4].all one = true) (h : AHeap) (hw : WF h) : Cl fns summ 14 [.agg [v0, v1, v2, v3, v4]] h fun r h' => r = .agg [v0, v1, v2, v3, v4] ∧ Grow h h' := by
  refine H.go (fn := F_ccTo) rfl (by decide) rfl rfl ?_
  unfold F_ccTo
  dsimp only [qQ, qE, qN, gQ, gE, vi]
  refine zAC (zAD ?_)
  refine st_box (by exact e1) (by exact cc) hw ?_
  rintro b1 h1 hb1 g1 o1
  refine st_alloc g1.wf ?_
  rintro b2 h2 hb2 g2 o2
  replace o1 := g2.keep _ _ o1
  have ht5 := take5
  have m1 := g1.next
  repeat with_reducible first | refine zAA ?_ | refine zAB ?_ | refine zAC ?_ | refine zAD ?_ | (apply st_q; exact q1)
  refine zAM (by exact e1) (by exact e1) (cs := [v0, v1, v2, v3, v4]) rfl rfl g2.wf o2 (by simp) hone ?_
  rintro v3' h3 p3 o3
  simp only [List.take_zero, List.nil_append, List.length_cons, List.length_nil, List.drop_succ_cons, List.drop_zero, List.append_nil, Nat.zero_add, Nat.reduceAdd, List.drop_nil, List.cons_append] at o3
  have G := p3.grow h hw (g1.trans g2) (by omega)
  clear o1 o2 p3
  repeat' with_reducible first | refine zAA ?_ | refine zAB ?_ | refine zAI ?_ | (apply zAJ; exact n1; exact r1)
  exact ⟨rfl, G⟩
theorem EClass_some (L : List Mean) (hL : ∀ m ∈ L, ∀ g, m.cls = some g → COk g) (hne : L ≠ []) (v : AVal) (s : List Nat) (c : CDef) (hs : classF L s = some c) (h : AHeap) (hw : WF h) (hE : EnvAt h v L) :
    Cl fns summ 24 [v, .str s] h fun r h' => (∃ xn xc xv, r = .tuple [.agg [.int .i64 c.params, xn, .int .i64 (trimF c.g).root, xc, xv], .int .i64 0] ∧ NodesAt h' xn (trimF c.g).nodes ∧ StrsAt h' xc c.conc ∧ StrsAt h' xv c.virt) ∧ Grow h h' :=
  (EClass_ok H L hL hne v s h hw hE).mono fun r h' ⟨⟨z, hr, hz⟩, gg⟩ => by
    rw [hs] at hr hz
    obtain ⟨xn, xc, xv, rfl, q1, q2, q3⟩ := hz
    exact ⟨⟨xn, xc, xv, hr, q1, q2, q3⟩, gg⟩
variable (HS : HasSort summ) (HR : HasRead summ) (HG : HasGrow summ)
include HS HR HG
end
end Go.Ab.S
end
section
/-
  What is kept of a class is a class, of the same type; an Env never changes: the law's walk.
-/
namespace Go.Ab.S
open Go.Ab
set_option maxHeartbeats 4000000
section
variable {g L : Graph} {q : Int → Int} (cg : checkF g = 0) (Q : Quo g L q)
include cg Q
theorem quo_getD {a : Int} (ha : Rch g a) {i : Nat} (hi : i < (zAL g a).args.length) : (zAL L (q a)).args.getD i 0 = q ((zAL g a).args.getD i 0) := by
  rw [Q.node a ha]
  simp only [List.getD, List.getElem?_map, List.getElem?_eq_getElem hi]; rfl
theorem quo_arrow {a : Int} (ha : Rch g a) : isArrow (zAL L (q a)) = isArrow (zAL g a) ∧ isStar (zAL L (q a)) = isStar (zAL g a) := by
  rw [Q.node a ha]; exact ⟨rfl, rfl⟩
theorem quo_down : ∀ (n : Nat) (a : Int), Rch g a → downF L n (q a) = (downF g n a).map q ∧ ∀ b, downF g n a = some b → Rch g b
  | 0, a, ha => ⟨rfl, fun b hb => by cases hb; exact ha⟩
  | n + 1, a, ha => by
    simp only [downF, (quo_arrow cg Q ha).1]
    by_cases hi : isArrow (zAL g a) = true
    · rw [if_pos hi, if_pos hi]
      have hl := arrow_args ((check_root cg).2.2.2 _ (node_in (ha.ok cg))) (.inl hi)
      rw [quo_getD cg Q ha (by omega)]
      exact quo_down n _ (ha.step (getD_mem (by omega)))
    · rw [if_neg hi, if_neg hi]
      exact ⟨rfl, fun b hb => by cases hb⟩
theorem quo_body {p : Int} {x y : List (List Nat)} : bodyF ⟨p, L, x, y⟩ = (bodyF ⟨p, g, x, y⟩).map (fun z => (q z.1, q z.2)) ∧ ∀ z, bodyF ⟨p, g, x, y⟩ = some z → Rch g z.1 ∧ Rch g z.2 := by
  obtain ⟨h1, h2⟩ := quo_down cg Q p.toNat g.root .root
  simp only [bodyF]
  rw [Q.root, h1]
  cases hd : downF g p.toNat g.root with
  | none => exact ⟨rfl, fun z hz => by cases hz⟩
  | some a =>
    have ha := h2 a hd
    simp only [Option.map_some, partF, (quo_arrow cg Q ha).2]
    by_cases hs : isStar (zAL g a) = true
    · have hl := arrow_args ((check_root cg).2.2.2 _ (node_in (ha.ok cg))) (.inr hs)
      have r0 : Rch g ((zAL g a).args.getD 0 0) := ha.step (getD_mem (by omega))
      have r1' : Rch g ((zAL g a).args.getD 1 0) := ha.step (getD_mem (by omega))
      rw [if_pos hs, if_pos hs, quo_getD cg Q ha (by omega), quo_getD cg Q ha (by omega), Q.node _ r0, Q.node _ r1']
      split
      · exact ⟨rfl, fun z hz => by cases hz; exact ⟨r0, r1'⟩⟩
      · exact ⟨rfl, fun z hz => by cases hz⟩
    · rw [if_neg hs, if_neg hs]
      exact ⟨rfl, fun z hz => by cases hz⟩
theorem quo_ck {p : Int} {x y : List (List Nat)} (h : ckF ⟨p, g, x, y⟩ = 0) : ckF ⟨p, L, x, y⟩ = 0 := by
  obtain ⟨h1, h2⟩ := quo_body cg Q (p := p) (x := x) (y := y)
  have hh : headOK ⟨p, L, x, y⟩ = headOK ⟨p, g, x, y⟩ := rfl
  unfold ckF at h ⊢
  rw [if_neg (by show ¬ checkF g ≠ 0; simp [cg])] at h
  rw [if_neg (by show ¬ checkF L ≠ 0; simp [Q.check]), hh, h1]
  split at h
  · rename_i hd
    rw [if_pos hd]
    cases hb : bodyF ⟨p, g, x, y⟩ with
    | none => rw [hb] at h; cases h
    | some z =>
      rw [hb] at h
      have := (h2 z hb).2
      show (if eqLL _ (zAL L (q z.2)).labels = true then (0 : Int) else 2) = 0
      rw [Q.node _ this]
      exact h
  · cases h
end
theorem kept_ok {c : CDef} (h : ckF c = 0) : ckF (ownC (keptC c)) = 0 ∧ sameF (trimF (leastF (trimF c.g))) c.g = true ∧ checkF (trimF (leastF (trimF c.g))) = 0 := by
  have cg := (ck_facts h).1
  have Q1 := trim_quo cg
  have Q2 := quo_comp Q1 (least_quo Q1.check)
  have Q3 := quo_comp Q2 (trim_quo Q2.check)
  exact ⟨quo_ck cg Q3 h, quo_same cg Q3, Q3.check⟩
end Go.Ab.S
end
section
/-
  An Env never changes: the law's walk.
-/
namespace Go.Ab.S
open Go.Ab
set_option maxHeartbeats 8000000
theorem alike_refl (x : Node) : alikeF x x = true := by
  have h1 : ∀ l : List Nat, eqL l l = true := fun l => eqL_iff.2 rfl
  have h2 : ∀ l : List (List Nat), eqLL l l = true := by
    intro l
    induction l with
    | nil => rfl
    | cons a r ih => simp only [eqLL, h1, ih, Bool.and_self]
  simp [alikeF, h1, h2]
theorem eqII_refl : ∀ l : List Int, eqII l l = true
  | [] => rfl
  | a :: r => by simp [eqII, eqII_refl r]
theorem sub_len : ∀ (a b : List (List Nat)), a.Nodup → (∀ x ∈ a, x ∈ b) → a.length ≤ b.length
  | [], b, _, _ => Nat.zero_le _
  | y :: a, b, hn, hs => by
    have hn' := List.nodup_cons.1 hn
    have hy : y ∈ b := hs y (by simp)
    have ih := sub_len a (b.erase y) hn'.2 fun x hx => (List.mem_erase_of_ne (by rintro rfl; exact hn'.1 hx)).2 (hs x (by simp [hx]))
    rw [List.length_erase_of_mem hy] at ih
    have := List.length_pos_of_mem hy
    simp only [List.length_cons]; omega
structure LTi (L : List Mean) : Prop extends LOK L where
  tiny : ∀ m ∈ L, ∀ g, m.value = some g → GTi g ∧ checkF g = 0
theorem start_ti (i : Nat) : ∀ g, (startM i).value = some g → GTi g ∧ checkF g = 0 := by
  intro g h
  match i with
  | 0 => cases h; exact ⟨least_tiny tiny_F ok_F, (least_quo ok_F).check⟩
  | 1 => cases h; exact ⟨least_tiny tiny_S ok_S, (least_quo ok_S).check⟩
  | j + 2 => cases h; exact ⟨least_tiny tiny_N ok_N, (least_quo ok_N).check⟩
theorem new_ti {L : List Mean} (h : NewL L) : LTi L ∧ L.length ≤ 4 := by
  have h1 := new_ok h
  refine ⟨⟨h1.1, ?_⟩, h1.2⟩
  obtain ⟨seen, _, _, rfl⟩ := h
  intro m hm g hg
  rcases List.mem_append.1 hm with hm | hm
  · obtain ⟨i, _, rfl⟩ := List.mem_map.1 hm
    exact start_ti i g hg
  · rw [List.mem_singleton.1 hm] at hg; cases hg
theorem LTi.putV {L : List Mean} (k : LTi L) {s : List Nat} {g : Graph} (hg : GTi g) (h : withF s g = 0) : LTi (⟨s, some (leastF g), none⟩ :: L) := by
  refine ⟨k.toLOK.putV hg h, fun m hm x hx => ?_⟩
  rcases List.mem_cons.1 hm with rfl | hm
  · cases hx; exact ⟨least_tiny hg (withF_ok h).2, (least_quo (withF_ok h).2).check⟩
  · exact k.tiny m hm x hx
theorem value_in : ∀ {L : List Mean} {s : List Nat} {g : Graph}, valueF L s = some g → ∃ m ∈ L, m.value = some g
  | m :: l, s, g, h => by
    rw [valueF] at h
    split at h
    · exact ⟨m, by simp, h⟩
    · obtain ⟨x, hx, h⟩ := value_in h
      exact ⟨x, List.mem_cons_of_mem _ hx, h⟩
theorem res_sm {L : List Mean} (k : LTi L) (s : List Nat) : GraphSm (resG (valueF L s)) := by
  cases hv : valueF L s with
  | none => exact ⟨by show (0 : Nat) < _; decide, fun n hn => by cases hn⟩
  | some g =>
    obtain ⟨m, hm, hg⟩ := value_in hv
    obtain ⟨h1, h2⟩ := k.tiny m hm g hg
    exact (trim_tiny h1 h2).toGraphSm
theorem value_new (L : List Mean) (s : List Nat) (g : Graph) : valueF (⟨s, some g, none⟩ :: L) s = some g := by
  show (if (some g).isSome && eqL s s then some g else valueF L s) = _
  rw [show ((some g).isSome && eqL s s) = true from by rw [eqL_iff.2 rfl]; rfl, if_pos rfl]
theorem class_new (L : List Mean) (s : List Nat) (c : CDef) : classF (⟨s, none, some c⟩ :: L) s = some c := by
  show (if (some c).isSome && eqL s s then some c else classF L s) = _
  rw [show ((some c).isSome && eqL s s) = true from by rw [eqL_iff.2 rfl]; rfl, if_pos rfl]
section
variable {fns : FuncId → Option AFunc} {summ : FuncId → List AVal → AHeap → Option (D (AVal × AHeap))}
variable (H : Has fns summ)
include H
theorem Equal_ok (g : Graph) (hg : GraphSm g) (v u : AVal) (h : AHeap) (hw : WF h) (hv : GraphAt h v g) (hu : GraphAt h u g) : Cl fns summ 23 [v, u] h fun r h' => r = .bool true ∧ Grow h h' := by
  obtain ⟨nv, rfl, hN⟩ := hv
  obtain ⟨mv, rfl, hM⟩ := hu
  have hlN := hN.len
  have hlM := hM.len
  have hsm : Hid (∀ n ∈ g.nodes, NodeSm n) := ⟨hg.all⟩
  have hNN := hg.nodes
  refine H.go (fn := F_Equal) rfl (by decide) rfl rfl ?_
  unfold F_Equal
  dsimp only [qQ, qE, qN, gQ, gE, vi]
  refine zAC (zAD ?_)
  refine st_box (by exact e1) (by exact cc) hw ?_
  rintro b2 h2 hb2 g2 o2
  refine st_box (by exact e1) (by exact cc) g2.wf ?_
  rintro b3 h3 hb3 g3 o3
  replace o2 := g3.keep _ _ o2
  have g03 := g2.trans g3
  have z1 : (g.root != g.root) = false := by simp
  have z2 : ((Int.ofNat g.nodes.length : Int) != Int.ofNat g.nodes.length) = false := by simp
  clear hb2 hb3 g2
  repeat with_reducible first | refine zAA ?_ | refine zAN ?_ | refine zAa ?_ | refine zAE ?_ | refine zAU ?_ | refine zAZ ?_ | refine blk_other ?_ rfl | refine zAB ?_ | refine zAC ?_ | refine zAD ?_ | refine zAG ?_ | refine zAX ?_ | refine zAK ?_ | refine cd_exit ?_ | refine zAI ?_ | refine dr_nil ?_ | refine zAV ?_ | (apply st_pair; exact e1; exact e1) | (apply dr_pair; exact e1; exact e1) | (apply dr_gT; exact e1) | (apply dr_gF; exact e1) | (apply dr_gU; exact e1) | (apply dr_q; exact q1) | (apply dr_ql; exact q1; exact og1) | (apply st_q; exact q1) | (apply st_pA; exact e1; exact e2) | (apply st_pO; exact e1; exact e2) | (apply st_qT; exact e1; exact q1) | (apply st_qF; exact e1) | (apply st_qU; exact e1) | (apply st_eF; exact e1) | (apply st_eU; exact e1) | (apply st_qS; exact e1; exact g1; exact q2) | (apply st_sA; exact e1; exact g1; exact e2; exact e3) | (apply st_sO; exact e1; exact g1; exact e2; exact e3) | (apply zAF; exact e1) | (apply zAH; exact e1)
  refine cd_count (N := g.nodes.length) (by omega) (fun j a hp => Grow h3 hp ∧ a.defers = [] ∧ ev a (.tmp 2) = some (.ptr (some (b2, 0))) ∧ ev a (.tmp 3) = some (.ptr (some (b3, 0))))
    (by rintro j a hp t w (rfl | rfl | rfl) ⟨h1, h2, h3, h4⟩ <;> exact ⟨h1, by rw [zAY]; exact h2, by exact e1, by exact e1⟩) (by decide) ?_ ?_ ⟨Grow.refl g3.wf, by exact n1, by exact e1, by exact e1⟩ (by exact e1) (by exact e1)
  · rintro j a hp hj ⟨gp, hd, e2', e3'⟩ hi hn
    obtain ⟨b, o, ver, ro, e, vs, av, lv, hix, hget, hvl, hvo, _, _, w2, _, _, ha, hl⟩ := (hN.mono (g03.trans gp)).at (List.getElem?_eq_getElem hj)
    obtain ⟨b', o', ver', ro', e', vs', bv, mv', hix', hget', hvl', hvo', _, _, w2', _, _, hb, hm⟩ := (hM.mono (g03.trans gp)).at (List.getElem?_eq_getElem hj)
    have hpart : partA (some 5) vs o = some (nodeV g.nodes[j] av lv) := by rw [partA, if_pos hvl, hvo]; rfl
    have hpart' : partA (some 5) vs' o' = some (nodeV g.nodes[j] bv mv') := by rw [partA, if_pos hvl', hvo']; rfl
    have o2p := gp.keep _ _ o2
    have o3p := gp.keep _ _ o3
    have hmem := List.getElem_mem hj
    have hsj := hsm.out _ hmem
    have hargs := hsj.args
    clear z1 z2 o2 o3
    repeat with_reducible first | refine zAA ?_ | refine zAN ?_ | refine zAa ?_ | refine zAE ?_ | refine zAU ?_ | refine zAZ ?_ | refine blk_other ?_ rfl | refine zAB ?_ | refine zAC ?_ | refine zAD ?_ | refine zAG ?_ | refine zAX ?_ | refine zAK ?_ | refine cd_exit ?_ | refine zAI ?_ | refine dr_nil ?_ | refine zAV ?_ | (apply st_pair; exact e1; exact e1) | (apply dr_pair; exact e1; exact e1) | (apply dr_gT; exact e1) | (apply dr_gF; exact e1) | (apply dr_gU; exact e1) | (apply dr_q; exact q1) | (apply dr_ql; exact q1; exact og1) | (apply st_q; exact q1) | (apply st_pA; exact e1; exact e2) | (apply st_pO; exact e1; exact e2) | (apply st_qT; exact e1; exact q1) | (apply st_qF; exact e1) | (apply st_qU; exact e1) | (apply st_eF; exact e1) | (apply st_eU; exact e1) | (apply st_qS; exact e1; exact g1; exact q2) | (apply st_sA; exact e1; exact g1; exact e2; exact e3) | (apply st_sO; exact e1; exact g1; exact e2; exact e3) | (apply zAF; exact e1) | (apply zAH; exact e1)
    refine dr_e (ex_callF (by exact s1) ((Alike_ok H _ _ hsj av lv bv mv' hp gp.wf ha hl hb hm).mono ?_))
    rw [alike_refl]
    rintro _ h4 ⟨rfl, g4⟩
    have k1 := g4.keep _ _ o2p
    have k2 := g4.keep _ _ o3p
    have k3 := g4.keep _ _ hget
    have k4 := g4.keep _ _ hget'
    refine ⟨by simp [heldOk, Nat.testBit, k1, k2, k3, k4], ?_⟩
    clear o2p o3p hget hget'
    repeat with_reducible first | refine zAA ?_ | refine zAN ?_ | refine zAa ?_ | refine zAE ?_ | refine zAU ?_ | refine zAZ ?_ | refine blk_other ?_ rfl | refine zAB ?_ | refine zAC ?_ | refine zAD ?_ | refine zAG ?_ | refine zAX ?_ | refine zAK ?_ | refine cd_exit ?_ | refine zAI ?_ | refine dr_nil ?_ | refine zAV ?_ | (apply st_pair; exact e1; exact e1) | (apply dr_pair; exact e1; exact e1) | (apply dr_gT; exact e1) | (apply dr_gF; exact e1) | (apply dr_gU; exact e1) | (apply dr_q; exact q1) | (apply dr_ql; exact q1; exact og1) | (apply st_q; exact q1) | (apply st_pA; exact e1; exact e2) | (apply st_pO; exact e1; exact e2) | (apply st_qT; exact e1; exact q1) | (apply st_qF; exact e1) | (apply st_qU; exact e1) | (apply st_eF; exact e1) | (apply st_eU; exact e1) | (apply st_qS; exact e1; exact g1; exact q2) | (apply st_sA; exact e1; exact g1; exact e2; exact e3) | (apply st_sO; exact e1; exact g1; exact e2; exact e3) | (apply zAF; exact e1) | (apply zAH; exact e1)
    refine dr_e (ex_callF (by exact s1) ((Ints_ok H _ _ hargs av bv h4 (ha.mono g4) (hb.mono g4)).mono ?_))
    rw [eqII_refl]
    rintro _ _ ⟨rfl, rfl⟩
    refine ⟨by simp [heldOk, Nat.testBit, k1, k2, k3, k4], ?_⟩
    repeat with_reducible first | refine zAA ?_ | refine zAN ?_ | refine zAa ?_ | refine zAE ?_ | refine zAU ?_ | refine zAZ ?_ | refine blk_other ?_ rfl | refine zAB ?_ | refine zAC ?_ | refine zAD ?_ | refine zAG ?_ | refine zAX ?_ | refine zAK ?_ | refine cd_exit ?_ | refine zAI ?_ | refine dr_nil ?_ | refine zAV ?_ | (apply st_pair; exact e1; exact e1) | (apply dr_pair; exact e1; exact e1) | (apply dr_gT; exact e1) | (apply dr_gF; exact e1) | (apply dr_gU; exact e1) | (apply dr_q; exact q1) | (apply dr_ql; exact q1; exact og1) | (apply st_q; exact q1) | (apply st_pA; exact e1; exact e2) | (apply st_pO; exact e1; exact e2) | (apply st_qT; exact e1; exact q1) | (apply st_qF; exact e1) | (apply st_qU; exact e1) | (apply st_eF; exact e1) | (apply st_eU; exact e1) | (apply st_qS; exact e1; exact g1; exact q2) | (apply st_sA; exact e1; exact g1; exact e2; exact e3) | (apply st_sO; exact e1; exact g1; exact e2; exact e3) | (apply zAF; exact e1) | (apply zAH; exact e1)
    exact ⟨⟨gp.trans g4, by exact n1, by exact e1, by exact e1⟩, by exact e1, by exact e1⟩
  · rintro a hp ⟨gp, hd, e2', e3'⟩
    repeat' with_reducible first | refine zAA ?_ | refine zAN ?_ | refine zAa ?_ | refine zAE ?_ | refine zAU ?_ | refine zAZ ?_ | refine blk_other ?_ rfl | refine zAB ?_ | refine zAC ?_ | refine zAD ?_ | refine zAG ?_ | refine zAX ?_ | refine zAK ?_ | refine cd_exit ?_ | refine zAI ?_ | refine dr_nil ?_ | refine zAV ?_ | (apply st_pair; exact e1; exact e1) | (apply dr_pair; exact e1; exact e1) | (apply dr_gT; exact e1) | (apply dr_gF; exact e1) | (apply dr_gU; exact e1) | (apply dr_q; exact q1) | (apply dr_ql; exact q1; exact og1) | (apply st_q; exact q1) | (apply st_pA; exact e1; exact e2) | (apply st_pO; exact e1; exact e2) | (apply st_qT; exact e1; exact q1) | (apply st_qF; exact e1) | (apply st_qU; exact e1) | (apply st_eF; exact e1) | (apply st_eU; exact e1) | (apply st_qS; exact e1; exact g1; exact q2) | (apply st_sA; exact e1; exact g1; exact e2; exact e3) | (apply st_sO; exact e1; exact g1; exact e2; exact e3) | (apply zAF; exact e1) | (apply zAH; exact e1) | (apply zAJ; exact n1; exact r1) | (apply cd_cond; exact e1; all_goals intro _)
    exact ⟨rfl, g03.trans gp⟩
end
section
variable {fns : FuncId → Option AFunc} {summ : FuncId → List AVal → AHeap → Option (D (AVal × AHeap))} {ro : Option Nat}
end
end Go.Ab.S
end
