import Derived.Test.YtapnoohglfhgeaaGreatDoorP15
import Derived.Test.YtapnoohglfhgeaaGreatDoorP17
/-
  Part 18 of the proof.
-/
set_option linter.all false
section
/-
  What a name means as a value.
-/
namespace Go.Ab.S
open Go.Ab
set_option maxHeartbeats 4000000
def valueF : List Mean → List Nat → Option Graph
  | [], _ => none
  | m :: l, s => if m.value.isSome && eqL m.name s then m.value else valueF l s
def resG (o : Option Graph) : Graph := match o with | some g => trimF g | none => ⟨[], 0⟩
section
variable {fns : FuncId → Option AFunc} {summ : FuncId → List AVal → AHeap → Option (D (AVal × AHeap))}
theorem fin_coll {rs : List ARes} {K : AVal → AHeap → Prop} {a : AAct} {h : AHeap} {d : Nat} (hd : a.defers = [.collected d]) (w : WF h) (od : ∃ ver, h.objs.get d = some (ver, .dfr false)) (k : ∀ h', But d h h' → ∃ v, resultsA a h' rs = some v ∧ K v h') : fin fns summ rs K .ret a h := by
  obtain ⟨ver, od⟩ := od
  exact fin_retD hd (lv_collected od (lv_nil (k _ (but_put w od _))))
variable (H : Has fns summ)
include H
theorem eown_ok (g : Graph) (hg : GSm g) (v : AVal) (h : AHeap) (hw : WF h) (hv : GraphAt h v g) : Cl fns summ 31 [v] h fun r h' => OwnG h' h.next r (trimF g) ∧ Grow h h' := by
  obtain ⟨nv, rfl, hN⟩ := hv
  refine H.go (fn := F_eown) rfl (by decide) rfl rfl ?_
  unfold F_eown
  dsimp only [qQ, qE, qN, gQ, gE, vi]
  refine zAC (zAD ?_)
  refine st_box (by exact e1) (by exact cc) hw ?_
  rintro b1 h1 hb1 g1' o1
  refine st_alloc g1'.wf ?_
  rintro b2 h2 hb2 g2 o2
  replace o1 := g2.keep _ _ o1
  have g02 := g1'.trans g2
  have hpart : partA (some 2) [nv, .int .i64 g.root] 0 = some (.agg [nv, .int .i64 g.root]) := rfl
  have l2 := g2.wf.lt o2
  repeat with_reducible first | refine zAA ?_ | refine zAB ?_ | refine zAC ?_ | refine zAD ?_ | (apply st_q; exact q1)
  refine zAT (by exact s1) ((Trim_ok H g hg _ h2 g02.wf ⟨nv, rfl, hN.mono g02⟩).mono ?_)
  rintro rv h3 ⟨hO, g3⟩
  have hO' := Hid.mk hO
  obtain ⟨tn, ds, rfl, kB, kl, kn⟩ := hO
  have htn := zAO kB.len
  have o23 := g3.keep _ _ o2
  have n02 := g02.next
  have n01 := g1'.next
  clear kB kl kn
  skip
  refine zAM (by exact e1) (by exact e1) (cs := [tn, .int .i64 (trimF g).root]) rfl rfl g3.wf o23 (by simp) (by rw [List.all_cons, List.all_cons, htn]; rfl) ?_
  rintro v9 h9 p9 o9
  simp only [List.take_zero, List.nil_append, List.length_cons, List.length_nil, List.drop_succ_cons, List.drop_zero, List.append_nil, Nat.zero_add, Nat.reduceAdd, List.drop_nil, List.cons_append] at o9
  have hpz : partA (some 2) [tn, .int .i64 (trimF g).root] 0 = some (.agg [tn, .int .i64 (trimF g).root]) := rfl
  repeat' with_reducible first | refine zAA ?_ | refine zAB ?_ | refine zAI ?_ | (apply zAJ; exact n1; exact r1)
  exact ⟨(hO'.out.stay fun c p hcb hp _ => p9.keep c (by omega) _ hp).base n02, p9.grow h hw (g02.trans g3) (by omega)⟩
theorem EValue_nil (s : List Nat) (h : AHeap) (hw : WF h) : Cl fns summ 11 [.ptr none, .str s] h fun r h' => r = .tuple [.agg [.slice none 0, .int .i64 0], .int .i64 1] ∧ Grow h h' := by
  refine H.go (fn := F_EValue) rfl (by decide) rfl rfl ?_
  unfold F_EValue
  dsimp only [qQ, qE, qN, gQ, gE, vi]
  refine zAC (zAD ?_)
  refine st_box (by exact e1) (by exact cc) hw ?_
  rintro b3 h3 hb3 g3 o3
  refine st_alloc g3.wf ?_
  rintro b4 h4 hb4 g4 o4
  refine st_alloc g4.wf ?_
  rintro b5 h5 hb5 g5 o5
  have l4 := g4.wf.lt o4
  replace o4 := g5.keep _ _ o4
  have g05 := (g3.trans g4).trans g5
  have n3 := g3.next
  have n4 := g4.next
  have hne : eqA .ptr (.ptr none) (.ptr none) = some true := rfl
  clear o3 g3 g4 g5
  repeat with_reducible first | refine zAA ?_ | refine zAB ?_ | refine zAC ?_ | refine zAD ?_ | (apply st_q; exact q1) | (apply zAF; exact e1)
  refine zAM (by exact e1) (by exact e1) (cs := [.slice none 0, .int .i64 0]) rfl rfl g05.wf o4 (by simp) rfl ?_
  rintro v6 h6 p6 o6
  simp only [List.take_zero, List.nil_append, List.length_cons, List.length_nil, List.drop_succ_cons, List.drop_zero, List.append_nil, Nat.zero_add, Nat.reduceAdd, List.drop_nil, List.cons_append] at o6
  have o56 := p6.keep b5 (by omega) _ o5
  have g06 := p6.grow h hw g05 (by omega)
  skip
  refine zAM (by exact e1) (by exact e1) (cs := [.int .i64 1]) rfl rfl g06.wf o56 (by simp) rfl ?_
  rintro v7 h7 p7 o7
  simp only [List.take_zero, List.nil_append, List.length_cons, List.length_nil, List.drop_succ_cons, List.drop_zero, List.append_nil, Nat.zero_add, Nat.reduceAdd, List.drop_nil, List.cons_append] at o7
  have o67 := p7.keep b4 (by omega) _ o6
  have hpz : partA (some 2) [.slice none 0, .int .i64 0] 0 = some (.agg [.slice none 0, .int .i64 0]) := rfl
  have g07 := p7.grow h hw g06 (by omega)
  repeat' with_reducible first | refine zAA ?_ | refine zAN ?_ | refine zAB ?_ | refine zAI ?_ | (apply zAJ; exact n1; exact r1)
  exact ⟨rfl, g07⟩
theorem EValue_ok (L : List Mean) (hL : ∀ m ∈ L, ∀ g, m.value = some g → GSm g) (hne : L ≠ []) (v : AVal) (s : List Nat) (h : AHeap) (hw : WF h) (hE : EnvAt h v L) :
    Cl fns summ 11 [v, .str s] h fun r h' => (∃ z, r = .tuple [z, .int .i64 (if (valueF L s).isSome then 0 else 10)] ∧ GraphAt h' z (resG (valueF L s))) ∧ Grow h h' := by
  have hv1 := hE.one
  obtain ⟨bv, rfl⟩ : ∃ bv, v = .ptr (some (bv, 0)) := by
    cases L with
    | nil => exact absurd rfl hne
    | cons m l => obtain ⟨b, _, _, _, _, _, _, rfl, _⟩ := hE; exact ⟨b, rfl⟩
  have hvp : eqA .ptr (.ptr (some (bv, 0))) (.ptr none) = some false := rfl
  have hLs := Hid.mk hL
  have hx0 : (false ^^ false) = false := rfl
  clear hL
  refine H.go (fn := F_EValue) rfl (by decide) rfl rfl ?_
  unfold F_EValue
  dsimp only [qQ, qE, qN, gQ, gE, vi]
  refine zAC (zAD ?_)
  refine st_box (by exact e1) (by exact cc) hw ?_
  rintro b3 h3 hb3 g3 o3
  refine st_alloc g3.wf ?_
  rintro b4 h4 hb4 g4 o4
  refine st_alloc g4.wf ?_
  rintro b5 h5 hb5 g5 o5
  have l3 := g3.wf.lt o3
  have l4 := g4.wf.lt o4
  have l5 := g5.wf.lt o5
  replace o4 := g5.keep _ _ o4
  replace o3 := g5.keep _ _ (g4.keep _ _ o3)
  have g05 := (g3.trans g4).trans g5
  have n3 := g3.next
  have n4 := g4.next
  have n5 := g5.next
  clear g3 g4 g5
  repeat with_reducible first | refine zAA ?_ | refine zAB ?_ | refine zAC ?_ | refine zAD ?_ | refine zAK ?_ | (apply st_q; exact q1) | (apply zAH; exact e1)
  refine zAT (by exact s1) ((eall_ok H _ hv1 h5 g05.wf).mono ?_)
  rintro _ h6 ⟨b, rfl, hb, vb, g6⟩
  have hb3 := l3
  have lb : b < h6.next := by obtain ⟨_, ov⟩ := vb; exact g6.wf.lt ov
  repeat with_reducible first | refine zAA ?_ | refine zAB ?_
  refine cd_gen (fun A => A.defers = [] ∧ ev A (.tmp 3) = some (.ptr (some (b3, 0))) ∧ ev A (.tmp 4) = some (.ptr (some (b4, 0))) ∧ ev A (.tmp 5) = some (.ptr (some (b5, 0))) ∧ ev A (.tmp 11) = some (.func 61 [] [.ptr (some (b, 0))]))
    ⟨by exact n1, by exact e1, by exact e1, by exact e1, by exact e1⟩ ?_
  rintro A ⟨hd, t3, t4, t5, t11⟩
  refine cd_block ?_
  generalize hB : ACode.block 1 _ = B
  generalize hA : ACode.ops [⟨some 6, none, .q (.mov (.tmp 12))⟩] = As
  refine rangeF_K t11 g6.wf ?_
  intro l d h7 hdn hld g7 ol od
  have g57 : Grow h5 h7 := g6.trans g7
  have n6 := g6.next
  have w5 := g05.wf
  refine (eall1_ok H L _ h5 (hE.mono g05) b (.yield l) (fun k hp => Grow h5 hp ∧ l < hp.next ∧ (∃ ver, hp.objs.get l = some (ver, .loop .ready none A.tmps [12] As B d)) ∧ (∃ ver, hp.objs.get d = some (ver, .dfr false)) ∧ valueF L s = valueF (L.drop k) s)
    (fun hp => WF hp ∧ Grow h hp ∧ (∃ ver, hp.objs.get l = some (ver, .loop .done (some .ret) A.tmps [12] As B d)) ∧ (∃ ver, hp.objs.get d = some (ver, .dfr false)) ∧ ∃ z g ver4 ver5 base, valueF L s = some g ∧ hp.objs.get b4 = some (ver4, .cells false 24 [z, .int .i64 (trimF g).root]) ∧ hp.objs.get b5 = some (ver5, .cells false 31 [.int .i64 0]) ∧ (l < base ∧ d < base) ∧ OwnG hp base (.agg [z, .int .i64 (trimF g).root]) (trimF g))
    (fun k hp p => p.1) ?_ ?_ h7 ⟨g57, by obtain ⟨_, ol⟩ := ol; exact g7.wf.lt ol, ol, od, rfl⟩ (by obtain ⟨vv, ov⟩ := vb; exact ⟨vv, g7.keep _ _ ov⟩)).mono ?_
  · rintro k hp hp' vk ⟨gp, hl, ⟨vl, ol⟩, ⟨vd, od⟩, hr⟩ ⟨vv, ov⟩ pb
    exact ⟨pb.grow h5 w5 gp hb, Nat.lt_of_lt_of_le hl pb.next, ⟨_, pb.keep l (by rintro rfl; rw [ol] at ov; cases ov) _ ol⟩, ⟨_, pb.keep d (by rintro rfl; rw [od] at ov; cases ov) _ od⟩, hr⟩
  · clear ol od
    rintro k hp vk hk ⟨gp, hl, ⟨vl, ol⟩, ⟨vd, od⟩, hr⟩ ⟨vv, ov⟩ hEk
    obtain ⟨mm, rest, hdrop⟩ : ∃ mm rest, L.drop k = mm :: rest := by
      rw [List.drop_eq_getElem_cons hk]; exact ⟨_, _, rfl⟩
    have hmem : mm ∈ L := List.mem_of_mem_drop (i := k) (by rw [hdrop]; simp)
    have hrd : L.drop (k + 1) = rest := by
      have := congrArg List.tail hdrop
      simpa using this
    rw [hdrop] at hEk
    obtain ⟨be, vere, roe, ee, pv, pc, pa, rfl, oe5, hv, hc, hrest⟩ := hEk
    have oe := gp.keep _ _ oe5
    have T3 : ev { tmps := A.tmps, defers := [] } (.tmp 3) = some (.ptr (some (b3, 0))) := t3
    have T4 : ev { tmps := A.tmps, defers := [] } (.tmp 4) = some (.ptr (some (b4, 0))) := t4
    have T5 : ev { tmps := A.tmps, defers := [] } (.tmp 5) = some (.ptr (some (b5, 0))) := t5
    refine yield_K ol gp.wf rfl (fun a1 => a1.defers = [] ∧ ev a1 (.tmp 6) = some (.ptr (some (be, 0))) ∧ ev a1 (.tmp 3) = some (.ptr (some (b3, 0))) ∧ ev a1 (.tmp 4) = some (.ptr (some (b4, 0))) ∧ ev a1 (.tmp 5) = some (.ptr (some (b5, 0)))) ?_ ?_
    · subst hA
      clear hd t3 t4 t5 t11
      repeat with_reducible first | refine zAA ?_ | refine zAB ?_ | refine zAD ?_ | (apply st_q; exact q1)
      exact ⟨rfl, by exact n1, by exact e1, by exact e1, by exact e1, by exact e1⟩
    · rintro a1 hq ⟨hd1, t6, t3', t4', t5'⟩ pL ⟨vlb, olb⟩
      clear hd t3 t4 t5 t11 T3 T4 T5
      have hlb : b ≠ l := by rintro rfl; rw [ol] at ov; cases ov
      have hld' : d ≠ l := by rintro rfl; rw [ol] at od; cases od
      have hel : be ≠ l := by rintro rfl; rw [ol] at oe; cases oe
      have gq : Grow h5 hq := pL.grow h5 w5 gp (by omega)
      have oeq := pL.keep _ hel _ oe
      have odq := pL.keep _ hld' _ od
      have ovq := pL.keep _ hlb _ ov
      have o3q := gq.keep _ _ o3
      have o4q := gq.keep _ _ o4
      have o5q := gq.keep _ _ o5
      have hlq : l < hq.next := Nat.lt_of_lt_of_le hl pL.next
      have w := gq.wf
      have next : ∀ e : AExit, valueF L s = valueF (L.drop (k + 1)) s → e = .normal → ∀ h4, But l hq h4 → (∃ ver, h4.objs.get l = some (ver, .loop .ready none A.tmps [12] As B d)) → (((.bool true : AVal) = .bool true ∧ (Grow h5 h4 ∧ l < h4.next ∧ (∃ ver, h4.objs.get l = some (ver, .loop .ready none A.tmps [12] As B d)) ∧ (∃ ver, h4.objs.get d = some (ver, .dfr false)) ∧ valueF L s = valueF (L.drop (k + 1)) s) ∧ VarAt h4 b (.ptr (some (be, 0)))) ∨ False) := fun e hh _ h4 p4 o4l =>
        .inl ⟨rfl, ⟨p4.grow h5 w5 gq (by omega), Nat.lt_of_lt_of_le hlq p4.next, o4l, ⟨_, p4.keep d hld' _ odq⟩, hh⟩, ⟨_, p4.keep b hlb _ ovq⟩⟩
      replace next := Hid.mk next
      subst hB
      clear ol oe od ov pL
      cases hmv : mm.value with
      | none =>
        rw [hmv] at hv
        have hpv : pv = .ptr none := hv
        subst hpv
        have hq1 : eqA .ptr (.ptr none) (.ptr none) = some true := rfl
        have hxr : (true ^^ true) = false := rfl
        have hr' : valueF L s = valueF (L.drop (k + 1)) s := by rw [hr, hdrop, valueF, hmv, hrd]; rfl
        replace hr' := Hid.mk hr'
        clear hr
        repeat with_reducible first | refine zAA ?_ | refine zAE ?_ | refine zAC ?_ | refine zAG ?_ | refine zAK ?_ | refine dr_nil ?_ | refine zAV ?_ | (apply dr_gF; exact e1) | (apply dr_q; exact q1) | (apply dr_ql; exact q1; exact og1) | (apply zAH; exact e1)
        exact ⟨w, ⟨_, olb⟩, fun hh h4 p4 o4 => (next.out _ hr'.out hh h4 p4 o4).imp id False.elim, fun hh => absurd rfl hh⟩
      | some g =>
        rw [hmv] at hv
        obtain ⟨bg, verg, rog, eg, nvg, rfl, og5, hNg⟩ := hv
        have hq1 : eqA .ptr (.ptr (some (bg, 0))) (.ptr none) = some false := rfl
        have hxr : (true ^^ false) = true := rfl
        have ogq := gq.keep _ _ og5
        cases hn : eqL mm.name s
        · have hr' : valueF L s = valueF (L.drop (k + 1)) s := by rw [hr, hdrop, valueF, hmv, hn, hrd]; rfl
          replace hr' := Hid.mk hr'
          clear hr
          repeat with_reducible first | refine zAA ?_ | refine zAE ?_ | refine zAC ?_ | refine zAG ?_ | refine zAK ?_ | refine dr_nil ?_ | refine zAV ?_ | (apply dr_gT; exact e1) | (apply dr_q; exact q1) | (apply dr_ql; exact q1; exact og1) | (apply zAH; exact e1)
          exact ⟨w, ⟨_, olb⟩, fun hh h4 p4 o4 => (next.out _ hr'.out hh h4 p4 o4).imp id False.elim, fun hh => absurd rfl hh⟩
        · have hr' : valueF L s = some g := by rw [hr, hdrop, valueF, hmv, hn]; rfl
          replace hr' := Hid.mk hr'
          clear hr next
          have hgs := hLs.out mm hmem g hmv
          replace hmv := Hid.mk hmv
          have hpg : partA (some 2) [nvg, .int .i64 g.root] 0 = some (.agg [nvg, .int .i64 g.root]) := rfl
          have ht2 : ∀ x y : AVal, List.take 2 [x, y] = [x, y] := fun _ _ => rfl
          repeat with_reducible first | refine zAA ?_ | refine zAC ?_ | refine zAD ?_ | refine zAG ?_ | refine dr_nil ?_ | refine zAV ?_ | (apply dr_gT; exact e1) | (apply dr_q; exact q1) | (apply dr_ql; exact q1; exact og1) | (apply st_q; exact q1) | (apply zAF; exact e1)
          refine zAT (by exact s1) ((eown_ok H g hgs _ hq w ⟨nvg, rfl, hNg.mono gq⟩).mono ?_)
          rintro rv h8 ⟨hO, g8⟩
          have hO' := Hid.mk hO
          obtain ⟨tn, ds, rfl, kB, kl, kn⟩ := hO
          have htn := zAO kB.len
          have o48 := g8.keep _ _ o4q
          have o58 := g8.keep _ _ o5q
          have olb8 := g8.keep _ _ olb
          have od8 := g8.keep _ _ odq
          have nq := gq.next
          have n8 := g8.next
          clear kB kl kn o3q o4q o5q oeq ogq ovq olb odq
          skip
          refine zAM (by exact e1) (by exact e1) (cs := [tn, .int .i64 (trimF g).root]) rfl rfl g8.wf o48 (by simp) (by rw [List.all_cons, List.all_cons, htn]; rfl) ?_
          rintro v9 h9 p9 o9
          simp only [List.take_zero, List.nil_append, List.length_cons, List.length_nil, List.drop_succ_cons, List.drop_zero, List.append_nil, Nat.zero_add, Nat.reduceAdd, List.drop_nil, List.cons_append] at o9
          have o59 := p9.keep b5 (by omega) _ o58
          have olb9 := p9.keep l (by omega) _ olb8
          have od9 := p9.keep d (by omega) _ od8
          have w9 := p9.wf g8.wf
          have g9 := p9.grow h hw (g05.trans (gq.trans g8)) (by omega)
          have hO9 := hO'.out.stay fun c p hcb hp _ => p9.keep c (by omega) _ hp
          clear o48 o58 olb8 od8
          skip
          refine zAM (by exact e1) (by exact e1) (cs := [.int .i64 0]) rfl rfl w9 o59 (by simp) rfl ?_
          rintro v10 h10 p10 o10
          simp only [List.take_zero, List.nil_append, List.length_cons, List.length_nil, List.drop_succ_cons, List.drop_zero, List.append_nil, Nat.zero_add, Nat.reduceAdd, List.drop_nil, List.cons_append] at o10
          have o410 := p10.keep b4 (by omega) _ o9
          have olb10 := p10.keep l (by omega) _ olb9
          have od10 := p10.keep d (by omega) _ od9
          have w10 := p10.wf w9
          have g10 := p10.grow h hw g9 (by omega)
          have n9 := p9.next
          have hO10 := hO9.stay fun c p hcb hp _ => p10.keep c (by omega) _ hp
          clear o9 o59 olb9 od9
          repeat with_reducible first | refine zAA ?_ | refine zAU ?_ | refine zAB ?_ | refine zAI ?_
          refine ⟨w10, ⟨_, olb10⟩, (by intro hh; cases hh), fun _ h4' p4 o4l => .inr ⟨rfl, p4.wf w10, p4.grow h hw g10 (by omega), o4l, ⟨_, p4.keep d hld' _ od10⟩, tn, g, _, _, hq.next, hr'.out, p4.keep b4 (by omega) _ o410, p4.keep b5 (by omega) _ o10, ⟨hlq, by omega⟩, hO10.stay fun c p hcb hp _ => p4.keep c (by omega) _ hp⟩⟩
  · clear ol od
    rintro _ h8 (⟨gp, hl, ⟨vl, ol⟩, ⟨vd, od⟩, hr⟩ | ⟨w8, g8, ol, ⟨vd, od⟩, z, gg, ver4, ver5, base, hvf, oz4, oz5, ⟨bl, bd⟩, hOwn⟩)
    · rw [List.drop_length] at hr
      have hnone : valueF L s = none := hr
      refine ⟨gp.wf, .inl ⟨⟨_, ol⟩, fun h9 p9 => ?_⟩⟩
      have hld' : d ≠ l := by rintro rfl; rw [ol] at od; cases od
      have o49 := p9.keep b4 (by omega) _ (gp.keep _ _ o4)
      have o59 := p9.keep b5 (by omega) _ (gp.keep _ _ o5)
      have od9 := p9.keep d hld' _ od
      have g9 := p9.grow h hw (g05.trans gp) (by omega)
      have T4 : ev { tmps := A.tmps, defers := [.collected d] } (.tmp 4) = some (.ptr (some (b4, 0))) := t4
      have T5 : ev { tmps := A.tmps, defers := [.collected d] } (.tmp 5) = some (.ptr (some (b5, 0))) := t5
      have hdd : (ADef.collected d :: A.defers) = [.collected d] := by rw [hd]
      have hpz : partA (some 2) [.slice none 0, .int .i64 0] 0 = some (.agg [.slice none 0, .int .i64 0]) := rfl
      replace hnone := Hid.mk hnone
      clear hr hd t3 t4 t5 t11 ol od o3 o4 o5
      repeat with_reducible first | refine zAA ?_ | refine zAE ?_ | refine zAC ?_ | refine zAD ?_ | (apply st_q; exact q1)
      refine zAM (by exact e1) (by exact e1) (cs := [.slice none 0, .int .i64 0]) rfl rfl g9.wf o49 (by simp) rfl ?_
      rintro v10 h10 p10 o10
      simp only [List.take_zero, List.nil_append, List.length_cons, List.length_nil, List.drop_succ_cons, List.drop_zero, List.append_nil, Nat.zero_add, Nat.reduceAdd, List.drop_nil, List.cons_append] at o10
      have o510 := p10.keep b5 (by omega) _ o59
      have od10 := p10.keep d (by omega) _ od9
      have g10 := p10.grow h hw g9 (by omega)
      clear o49 o59 od9
      skip
      refine zAM (by exact e1) (by exact e1) (cs := [.int .i64 10]) rfl rfl g10.wf o510 (by simp) rfl ?_
      rintro v11 h11 p11 o11
      simp only [List.take_zero, List.nil_append, List.length_cons, List.length_nil, List.drop_succ_cons, List.drop_zero, List.append_nil, Nat.zero_add, Nat.reduceAdd, List.drop_nil, List.cons_append] at o11
      have o411 := p11.keep b4 (by omega) _ o10
      have od11 := p11.keep d (by omega) _ od10
      have g11 := p11.grow h hw g10 (by omega)
      clear o10 o510 od10
      repeat with_reducible first | refine zAA ?_ | refine zAB ?_ | refine zAI ?_
      refine fin_coll (by first | exact hdd | (simp only [zAY]; exact hdd)) g11.wf ⟨_, od11⟩ fun h12 p12 => ?_
      have o412 := p12.keep b4 (by omega) _ o411
      have o512 := p12.keep b5 (by omega) _ o11
      refine ⟨_, by exact r1, ⟨.agg [.slice none 0, .int .i64 0], ?_, ?_⟩, p12.grow h hw g11 (by omega)⟩
      · rw [hnone.out]; rfl
      · rw [hnone.out]
        exact ⟨.slice none 0, rfl, [], ⟨rfl, fun i x hx => by simp at hx⟩, rfl, fun i n c hn _ => by simp [resG] at hn⟩
    · refine ⟨w8, .inr ⟨.ret, (by intro hh; cases hh), ol, fun h9 p9 => ?_⟩⟩
      obtain ⟨vl, ol⟩ := ol
      have hld' : d ≠ l := by rintro rfl; rw [ol] at od; cases od
      have T4 : ev { tmps := A.tmps, defers := [.collected d] } (.tmp 4) = some (.ptr (some (b4, 0))) := t4
      have T5 : ev { tmps := A.tmps, defers := [.collected d] } (.tmp 5) = some (.ptr (some (b5, 0))) := t5
      have hdd : (ADef.collected d :: A.defers) = [.collected d] := by rw [hd]
      have o49 := p9.keep b4 (by omega) _ oz4
      have o59 := p9.keep b5 (by omega) _ oz5
      have od9 := p9.keep d hld' _ od
      have g9 := p9.grow h hw g8 (by omega)
      have hO9 := hOwn.stay fun c p hcb hp _ => p9.keep c (by omega) _ hp
      have hpz : partA (some 2) [z, .int .i64 (trimF gg).root] 0 = some (.agg [z, .int .i64 (trimF gg).root]) := rfl
      replace hvf := Hid.mk hvf
      clear hd t3 t11 oz4 oz5 od hOwn o3 o4 o5
      repeat with_reducible first | refine zAN ?_ | refine zAU ?_
      refine fin_coll (by first | exact hdd | (simp only [zAY]; exact hdd)) g9.wf ⟨_, od9⟩ fun h12 p12 => ?_
      have o412 := p12.keep b4 (by omega) _ o49
      have o512 := p12.keep b5 (by omega) _ o59
      refine ⟨_, by exact r1, ⟨.agg [z, .int .i64 (trimF gg).root], ?_, ?_⟩, p12.grow h hw g9 (by omega)⟩
      · rw [hvf.out]; rfl
      · rw [hvf.out]
        exact (hO9.stay fun c p hcb hp _ => p12.keep c (by omega) _ hp).graph
end
end Go.Ab.S
end
section
/-
  A name means a type from now on.
-/
namespace Go.Ab.S
open Go.Ab
set_option maxHeartbeats 4000000
def withF (s : List Nat) (g : Graph) : Int := if isNameF s then checkF g else 2
section
variable {fns : FuncId → Option AFunc} {summ : FuncId → List AVal → AHeap → Option (D (AVal × AHeap))}
variable (H : Has fns summ)
include H
theorem WithValue_ok (L : List Mean) (bv : Nat) (s : List Nat) (hs : s.length < 2 ^ 60) (g : Graph) (hg : GTi g) (u : AVal) (h : AHeap) (hw : WF h) (hE : EnvAt h (.ptr (some (bv, 0))) L) (hu : GraphAt h u g) :
    Cl fns summ 10 [.ptr (some (bv, 0)), .str s, u] h fun r h' => (∃ z, r = .tuple [z, .int .i64 (withF s g)] ∧ (withF s g ≠ 0 → z = .ptr none) ∧ (withF s g = 0 → ∃ bz, z = .ptr (some (bz, 0)) ∧ EnvAt h' z (⟨s, some (leastF g), none⟩ :: L))) ∧ Grow h h' := by
  obtain ⟨nv, rfl, hN⟩ := hu
  have tg := Hid.mk hg
  clear hg
  refine H.go (fn := F_WithValue) rfl (by decide) rfl rfl ?_
  unfold F_WithValue
  dsimp only [qQ, qE, qN, gQ, gE, vi]
  refine zAC (zAD ?_)
  refine st_box (by exact e1) (by exact cc) hw ?_
  rintro b5 h5 hb5 g5 o5
  have l5 := g5.wf.lt o5
  have hvp : eqA .ptr (.ptr (some (bv, 0))) (.ptr none) = some false := rfl
  have hx0 : (false ^^ false) = false := rfl
  have hpart : partA (some 2) [nv, .int .i64 g.root] 0 = some (.agg [nv, .int .i64 g.root]) := rfl
  repeat with_reducible first | refine zAA ?_ | refine zAB ?_ | refine zAC ?_ | refine zAD ?_ | refine zAG ?_ | (apply st_q; exact q1) | (apply zAH; exact e1)
  refine zAT (by exact s1) ((IsName_ok H s hs h5).mono ?_)
  rintro _ h5' ⟨rfl, hq5⟩
  replace hq5 := hq5.symm
  subst hq5
  cases hn : isNameF s
  · have hz : withF s g = 2 := by rw [withF, hn]; rfl
    replace hz := Hid.mk hz
    repeat' with_reducible first | refine zAA ?_ | refine zAN ?_ | refine zAU ?_ | refine zAB ?_ | refine zAC ?_ | refine zAD ?_ | refine zAI ?_ | (apply st_q; exact q1) | (apply zAF; exact e1) | (apply zAJ; exact n1; exact r1)
    refine ⟨⟨_, by rw [hz.out], fun _ => rfl, fun hh => ?_⟩, g5⟩
    rw [hz.out] at hh; cases hh
  · have hz : withF s g = checkF g := by rw [withF, hn]; rfl
    replace hz := Hid.mk hz
    repeat with_reducible first | refine zAA ?_ | refine zAE ?_ | refine zAB ?_ | refine zAC ?_ | refine zAD ?_ | refine zAK ?_ | (apply st_q; exact q1) | (apply zAH; exact e1)
    refine zAT (by exact s1) ((Check_ok H g tg.out.toGraphSm _ h5 g5.wf ⟨nv, rfl, hN.mono g5⟩).mono ?_)
    rintro _ h6 ⟨rfl, g6⟩
    have o56 := g6.keep _ _ o5
    have g06 := g5.trans g6
    cases hck : (checkF g != 0)
    rotate_left
    · have hne : checkF g ≠ 0 := by simpa using hck
      replace hne := Hid.mk hne
      repeat' with_reducible first | refine zAA ?_ | refine zAN ?_ | refine zAB ?_ | refine zAC ?_ | refine zAD ?_ | refine zAI ?_ | (apply st_q; exact q1) | (apply zAF; exact e1) | (apply zAJ; exact n1; exact r1)
      exact ⟨⟨_, by rw [hz.out], fun _ => rfl, fun hh => absurd (hz.out ▸ hh) hne.out⟩, g06⟩
    · have hc : checkF g = 0 := by simpa using hck
      replace hc := Hid.mk hc
      repeat with_reducible first | refine zAA ?_ | refine zAB ?_ | refine zAC ?_ | refine zAD ?_ | refine zAK ?_ | (apply st_q; exact q1) | (apply zAH; exact e1)
      refine zAT (by exact s1) ((Least_ok H g tg.out hc.out _ h6 g6.wf ⟨nv, rfl, hN.mono g06⟩).mono ?_)
      rintro lv h7 ⟨hO, g7⟩
      have hO' := Hid.mk hO
      obtain ⟨ln, cs, rfl, kB, kl, kn⟩ := hO
      have hln := zAO kB.len
      have o57 := g7.keep _ _ o56
      have n6 := g6.next
      clear kB kl kn o5 o56
      skip
      refine zAM (by exact e1) (by exact e1) (cs := [ln, .int .i64 (leastF g).root]) rfl rfl g7.wf o57 (by simp) (by rw [List.all_cons, List.all_cons, hln]; rfl) ?_
      rintro v8 h8 p8 o8
      simp only [List.take_zero, List.nil_append, List.length_cons, List.length_nil, List.drop_succ_cons, List.drop_zero, List.append_nil, Nat.zero_add, Nat.reduceAdd, List.drop_nil, List.cons_append] at o8
      have g08 := p8.grow h hw (g06.trans g7) hb5
      have hO8 := (hO'.out.stay fun c p hcb hp _ => p8.keep c (by omega) _ hp).graph
      repeat with_reducible first | refine zAA ?_ | refine zAB ?_ | refine zAC ?_ | refine zAD ?_ | (apply st_q; exact q1)
      refine st_q (v := .agg [.str s, .ptr (some (b5, 0)), .ptr none, .ptr (some (bv, 0))]) (b := none) (by rw [qA_build]; simp only [fillA, ev_put, ev_start, if_true, if_false, Nat.reduceEqDiff, cellsA, List.length_cons, List.length_nil]; rfl) ?_
      refine st_box (by exact e1) (by exact cc) g08.wf ?_
      rintro bz h9 hbz g9 o9
      have hE9 := hE.mono (g08.trans g9)
      have o59 := g9.keep _ _ o8
      obtain ⟨ln', hq, hLN⟩ := hO8
      cases hq
      have hLN9 := hLN.mono g9
      have hz0 : withF s g = 0 := by rw [hz.out, hc.out]
      replace hz0 := Hid.mk hz0
      clear o57 o8 hLN hO'
      repeat' with_reducible first | refine zAA ?_ | refine zAB ?_ | refine zAI ?_ | (apply st_q; exact q1) | (apply zAJ; exact n1; exact r1)
      refine ⟨⟨_, by rw [hz0.out], fun hh => absurd hz0.out hh, fun _ => ⟨bz, rfl, bz, _, _, _, _, _, _, rfl, o9, ⟨b5, _, _, _, ln, rfl, o59, hLN9⟩, rfl, hE9⟩⟩, g08.trans g9⟩
end
end Go.Ab.S
end
section
/-
  Going through a map, in whatever order; what is there from the start.
-/
namespace Go.Ab.S
open Go.Ab
set_option maxHeartbeats 4000000
section
variable {fns : FuncId → Option AFunc} {summ : FuncId → List AVal → AHeap → Option (D (AVal × AHeap))} {ro : Option Nat}
theorem st_range {d : Option Tmp} {x : AOpd} {l : List Step} {a : AAct} {h : AHeap} {K : AAct → AHeap → Prop} {r ver c : Nat} {es : List (AVal × AVal × Nat)} (hx : ev a x = some (.map (some r))) (hr : h.objs.get r = some (ver, .map es c)) (w : WF h)
    (k : ∀ b h', h.next ≤ b → Grow h h' → h'.objs.get b = some (b, .iter r c [] c) → St fns summ ro l (putA a d (.ptr (some (b, 0)))) h' K) : St fns summ ro (⟨d, none, .e (.range x)⟩ :: l) a h K :=
  st_t (by intro _ _ hh; cases hh) (by intro _ _ hh; cases hh) (v := .ptr (some (h.next, 0))) (h' := newA h (.iter r c [] c)) (by simp only [turnA, hx, hr]) (k _ _ (Nat.le_refl _) ((Grow.refl w).new _) (zAQ _ _))
theorem st_next {d : Option Tmp} {x : AOpd} {l : List Step} {a : AAct} {h : AHeap} {K : AAct → AHeap → Prop} {b r ver verr c : Nat} {seen : List Nat} {es : List (AVal × AVal × Nat)} (hx : ev a x = some (.ptr (some (b, 0)))) (hb : h.objs.get b = some (ver, .iter r c seen c)) (hr : h.objs.get r = some (verr, .map es c)) (hes : ∀ e ∈ es, e.2.2 < c) (w : WF h)
    (k0 : (∀ e ∈ es, e.2.2 ∈ seen) → St fns summ ro l (putA a d (.tuple [.bool false])) h K)
    (k1 : ∀ e ∈ es, e.2.2 ∉ seen → ∀ ver' h', But b h h' → h'.objs.get b = some (ver', .iter r c (seen ++ [e.2.2]) c) → St fns summ ro l (putA a d (.tuple [.bool true, e.1, e.2.1])) h' K) : St fns summ ro (⟨d, none, .e (.next x)⟩ :: l) a h K := by
  refine st_e (ex_turns (by intro _ _ hh; cases hh) (by intro _ _ hh; cases hh) ?_)
  have hall : es.all (fun e => Nat.blt e.2.2 c) = true := List.all_eq_true.2 fun e he => by simpa using hes e he
  simp only [turnA, hx, hb, hr, hall, and_self, if_true]
  have hmem : ∀ e, e ∈ es.filter (fun e => !seen.contains e.2.2) ↔ e ∈ es ∧ e.2.2 ∉ seen := fun e => by simp
  generalize es.filter (fun e => !seen.contains e.2.2) = left at hmem
  cases left with
  | nil =>
    refine k0 fun e he => ?_
    by_cases hs : e.2.2 ∈ seen
    · exact hs
    · exact absurd ((hmem e).2 ⟨he, hs⟩) (by simp)
  | cons y rest =>
    refine ⟨by simp, fun i hi => ?_⟩
    obtain ⟨k, v, born⟩ : AVal × AVal × Nat := (y :: rest)[i]
    have hi' : i < (y :: rest).length := hi
    obtain ⟨e, he⟩ : ∃ e, (y :: rest)[i]? = some e := ⟨_, List.getElem?_eq_getElem hi'⟩
    obtain ⟨m1, m2⟩ := (hmem e).1 (List.mem_of_getElem? he)
    simp only [he]
    exact k1 e m1 m2 _ _ (but_put w hb _) (zAR _ _ _)
theorem st_entry {d : Option Tmp} {x : AOpd} {l : List Step} {a : AAct} {h : AHeap} {K : AAct → AHeap → Prop} {b r ver verr c s : Nat} {seen : List Nat} {es : List (AVal × AVal × Nat)} {k v : AVal} {n : Nat} (hx : ev a x = some (.ptr (some (b, 0)))) (hb : h.objs.get b = some (ver, .iter r c (seen ++ [s]) c)) (hr : h.objs.get r = some (verr, .map es c)) (hf : es.find? (fun e => Nat.beq e.2.2 s) = some (k, v, n))
    (kk : St fns summ ro l (putA a d (.tuple [k, v])) h K) : St fns summ ro (⟨d, none, .e (.entry x)⟩ :: l) a h K :=
  st_t (by intro _ _ hh; cases hh) (by intro _ _ hh; cases hh) (v := .tuple [k, v]) (h' := h) (by
    have hl : (seen ++ [s]).getLast? = some s := by simp
    simp only [turnA, hx, hb, hr, hl, if_true, hf]) kk
end
def CellsKeep (h h' : AHeap) : Prop := ∀ c ver ro e vs, h.objs.get c = some (ver, .cells ro e vs) → h'.objs.get c = some (ver, .cells ro e vs)
section
variable {h h' : AHeap} (ck : CellsKeep h h')
include ck
theorem sl_stay {sz : Nat} {v : AVal} {xs : List (List AVal)} (k : SlAt h sz v xs) : SlAt h' sz v xs :=
  ⟨k.1, fun i x hx => by obtain ⟨h1, b, o, ver, ro, e, vs, h2, h3, h4⟩ := k.2 i x hx; exact ⟨h1, b, o, ver, ro, e, vs, h2, ck _ _ _ _ _ h3, h4⟩⟩
theorem nodes_stay {v : AVal} {l : List Node} (k : NodesAt h v l) : NodesAt h' v l := by
  obtain ⟨cs, h1, h2, h3⟩ := k
  exact ⟨cs, sl_stay ck h1, h2, fun i n c hn hc => by obtain ⟨av, lv, q1, q2, q3⟩ := h3 i n c hn hc; exact ⟨av, lv, q1, sl_stay ck q2, sl_stay ck q3⟩⟩
theorem val_stay {v : AVal} {o : Option Graph} (k : ValAt h v o) : ValAt h' v o := by
  cases o with
  | none => exact k
  | some x => obtain ⟨b, ver, ro, e, nv, h1, h2, h3⟩ := k; exact ⟨b, ver, ro, e, nv, h1, ck _ _ _ _ _ h2, nodes_stay ck h3⟩
theorem cd_stay {v : AVal} {o : Option CDef} (k : CDAt h v o) : CDAt h' v o := by
  cases o with
  | none => exact k
  | some x => obtain ⟨b, ver, ro, e, nv, cv, vv, h1, h2, h3, h4, h5⟩ := k; exact ⟨b, ver, ro, e, nv, cv, vv, h1, ck _ _ _ _ _ h2, nodes_stay ck h3, sl_stay ck h4, sl_stay ck h5⟩
theorem env_stay : ∀ {l : List Mean} {v : AVal}, EnvAt h v l → EnvAt h' v l
  | [], _, k => k
  | _ :: _, _, ⟨b, ver, ro, e, pv, pc, pa, h1, h2, h3, h4, h5⟩ => ⟨b, ver, ro, e, pv, pc, pa, h1, ck _ _ _ _ _ h2, val_stay ck h3, cd_stay ck h4, env_stay h5⟩
end
def nF : List Nat := [102, 115, 116]
def nS : List Nat := [115, 110, 100]
def nN : List Nat := [110, 111, 116]
def tF : List Nat := [39, 97, 32, 42, 32, 39, 98, 32, 45, 62, 32, 39, 97]
def tS : List Nat := [39, 97, 32, 42, 32, 39, 98, 32, 45, 62, 32, 39, 98]
def tN : List Nat := [98, 111, 111, 108, 32, 45, 62, 32, 98, 111, 111, 108]
def varN : Node := ⟨1, [], [], [], false⟩
def boolN : Node := ⟨2, [98, 111, 111, 108], [], [], false⟩
def gF : Graph := ⟨[⟨2, [45, 62], [1, 2], [], false⟩, ⟨2, [42], [2, 3], [], false⟩, varN, varN], 0⟩
def gS : Graph := ⟨[⟨2, [45, 62], [1, 3], [], false⟩, ⟨2, [42], [2, 3], [], false⟩, varN, varN], 0⟩
def gN : Graph := ⟨[⟨2, [45, 62], [1, 2], [], false⟩, boolN, boolN], 0⟩
structure HasRead (summ : FuncId → List AVal → AHeap → Option (D (AVal × AHeap))) : Prop where
  read : ∀ s G, (s, G) ∈ [(tF, gF), (tS, gS), (tN, gN)] → ∀ h, WF h → ∃ v h', summ 25 [.str s] h = some (.ret (.tuple [v, .int .i64 0], h')) ∧ GraphAt h' v G ∧ Grow h h'
theorem tiny_of {g : Graph} (h1 : g.nodes.length + leftG [] g.nodes 0 ≤ 4096) (h2 : ∀ n ∈ g.nodes, n.labels.length ≤ 4096 ∧ ∀ s ∈ n.labels, s.length < 2 ^ 60) : GTi g := by
  have e30 : (2 : Nat) ^ 30 = 1073741824 := by decide
  have e60 : (2 : Nat) ^ 60 = 1152921504606846976 := by decide
  refine ⟨⟨⟨by omega, fun n hn => ⟨?_, ?_, (h2 n hn).2⟩⟩, by omega, fun n hn => ?_⟩, h1⟩
  · have := leftG_one g.nodes 0 n hn; omega
  · have := (h2 n hn).1; omega
  · have := (h2 n hn).1; omega
theorem tiny_F : GTi gF := tiny_of (by decide) (by decide)
theorem tiny_S : GTi gS := tiny_of (by decide) (by decide)
theorem tiny_N : GTi gN := tiny_of (by decide) (by decide)
theorem ok_F : checkF gF = 0 := by decide
theorem ok_S : checkF gS = 0 := by decide
theorem ok_N : checkF gN = 0 := by decide
def startEs : List (AVal × AVal × Nat) := [(.str nF, .str tF, 0), (.str nS, .str tS, 1), (.str nN, .str tN, 2)]
def startM (i : Nat) : Mean := match i with
  | 0 => ⟨nF, some (leastF gF), none⟩
  | 1 => ⟨nS, some (leastF gS), none⟩
  | _ => ⟨nN, some (leastF gN), none⟩
def baseM : Mean := ⟨[], none, none⟩
theorem three_most : ∀ {l : List Nat}, l.Nodup → (∀ i ∈ l, i < 3) → l.length ≤ 3
  | [], _, _ => by simp
  | [_], _, _ => by simp
  | [_, _], _, _ => by simp
  | [_, _, _], _, _ => by simp
  | a :: b :: c :: d :: r, hn, h => by
    have h1 := h a (by simp)
    have h2 := h b (by simp)
    have h3 := h c (by simp)
    have h4 := h d (by simp)
    simp only [List.nodup_cons, List.mem_cons, not_or] at hn
    omega
def NewL (L : List Mean) : Prop := ∃ seen : List Nat, seen.Nodup ∧ (∀ i, i ∈ seen ↔ i < 3) ∧ L = seen.reverse.map startM ++ [baseM]
section
variable {fns : FuncId → Option AFunc} {summ : FuncId → List AVal → AHeap → Option (D (AVal × AHeap))}
variable (H : Has fns summ)
include H
theorem estart_ok (h : AHeap) (hw : WF h) : Cl fns summ 26 [] h fun v h' => ∃ r ver, v = .map (some r) ∧ h.next ≤ r ∧ h'.objs.get r = some (ver, .map startEs 3) ∧ Grow h h' := by
  refine H.go (fn := F_estart) rfl (by decide) rfl rfl ?_
  unfold F_estart
  dsimp only [qQ, qE, qN, gQ, gE, vi]
  repeat with_reducible first | refine zAA ?_ | refine zAB ?_ | refine zAC ?_ | refine zAD ?_ | (apply st_q; exact q1)
  refine st_T (by exact tE) (by exact t1) ?_
  iterate 3 refine st_upd_new (by exact e1) (by exact e1) (by exact e1) (by intro hh; cases hh) rfl (by simp only [zAQ, zAR]; rfl) rfl ?_
  repeat' with_reducible first | refine zAA ?_ | refine zAB ?_ | refine zAI ?_ | (apply st_q; exact q1) | (apply zAJ; exact n1; exact r1)
  refine ⟨_, _, rfl, Nat.le_refl _, zAR _ _ _, ?_⟩
  have g := (Grow.refl hw).new (.map [] 0)
  have hp := fun (h1 : AHeap) (o : AObj) (gg : Grow h h1) (hl : h.next < h1.next) => gg.put hw (id := h.next) o (Nat.le_refl _) hl
  refine hp _ _ (hp _ _ (hp _ _ g ?_) ?_) ?_ <;> simp only [new_next, put_next] <;> omega
end
section
variable {fns : FuncId → Option AFunc} {summ : FuncId → List AVal → AHeap → Option (D (AVal × AHeap))}
variable (H : Has fns summ) (HR : HasRead summ)
include H HR
theorem EnvNew_ok (h : AHeap) (hw : WF h) : Cl fns summ 9 [] h fun r h' => (∃ b L, r = .ptr (some (b, 0)) ∧ NewL L ∧ EnvAt h' r L) ∧ Grow h h' := by
  refine H.go (fn := F_EnvNew) rfl (by decide) rfl rfl ?_
  unfold F_EnvNew
  dsimp only [qQ, qE, qN, gQ, gE, vi]
  repeat with_reducible first | refine zAA ?_ | refine zAB ?_ | refine zAC ?_ | refine zAD ?_ | (apply st_q; exact q1)
  refine st_box (by exact e1) (by exact cc) hw ?_
  rintro b0 h1 hb0 g1' o1
  repeat with_reducible first | refine zAA ?_ | refine zAB ?_ | refine zAC ?_ | refine zAD ?_ | (apply st_q; exact q1)
  refine zAT (by exact s1) ((estart_ok H h1 g1'.wf).mono ?_)
  rintro _ h2 ⟨r, ver, rfl, hr, orr, g2⟩
  skip
  have g02 := g1'.trans g2
  have w2 := g2.wf
  have lr := g2.wf.lt orr
  refine st_range (by exact e1) orr g2.wf ?_
  rintro bi h3 hbi g3 oi
  have orr3 := g3.keep _ _ orr
  have hE0 : EnvAt h3 (.ptr (some (b0, 0))) [baseM] := ⟨b0, _, _, _, _, _, _, rfl, g3.keep _ _ (g2.keep _ _ o1), rfl, rfl, rfl⟩
  clear o1 orr3
  repeat with_reducible first | refine zAA ?_ | refine zAB ?_
  with_reducible refine cd_block ?_
  refine cd_loop (fun m a hp => ∃ (seen : List Nat) (bv : Nat), m + seen.length = 3 ∧ seen.Nodup ∧ (∀ i ∈ seen, i < 3) ∧ Grow h2 hp ∧ (∃ ver, hp.objs.get bi = some (ver, .iter r 3 seen 3)) ∧ EnvAt hp (.ptr (some (bv, 0))) (seen.reverse.map startM ++ [baseM]) ∧ a.defers = [] ∧ ev a (.tmp 1) = some (.ptr (some (bv, 0))) ∧ ev a (.tmp 9) = some (.ptr (some (bi, 0)))) ?_ (n := 3)
    ⟨[], b0, rfl, List.nodup_nil, fun i hi => (by cases hi), g3, ⟨_, oi⟩, hE0, by exact n1, by exact e1, by exact e1⟩
  clear hE0 oi g3
  rintro m a hp ⟨seen, bv, hm, hnd, hlt, gp, ⟨vi, oi⟩, hE, hd, e1', e9'⟩
  have orp := gp.keep _ _ orr
  have hes : ∀ e ∈ startEs, e.2.2 < 3 := by decide
  repeat with_reducible first | refine zAC ?_ | refine zAD ?_
  refine st_next (by exact e1) oi orp hes gp.wf (fun hall => ?_) fun e he hns ver' h4 p4 o4 => ?_
  · have hN : NewL (seen.reverse.map startM ++ [baseM]) := ⟨seen, hnd, fun i => ⟨hlt i, fun hi => by
      have h0 := hall _ (show (.str nF, .str tF, 0) ∈ startEs by simp [startEs])
      have h1 := hall _ (show (.str nS, .str tS, 1) ∈ startEs by simp [startEs])
      have h2 := hall _ (show (.str nN, .str tN, 2) ∈ startEs by simp [startEs])
      rcases (by omega : i = 0 ∨ i = 1 ∨ i = 2) with rfl | rfl | rfl
      · exact h0
      · exact h1
      · exact h2⟩, rfl⟩
    replace hN := Hid.mk hN
    clear hall hes oi orp
    repeat' with_reducible first | refine zAA ?_ | refine zAa ?_ | refine zAZ ?_ | refine zAB ?_ | refine zAC ?_ | refine zAD ?_ | refine cd_exit ?_ | refine zAI ?_ | (apply st_q; exact q1) | (apply zAH; exact e1) | (apply zAJ; exact n1; exact r1)
    exact ⟨⟨bv, _, rfl, hN.out, hE⟩, g02.trans gp⟩
  · obtain ⟨i, s, t, G, rfl, hi3, hread, hM, tG, cG, hfind⟩ : ∃ (i : Nat) (s t : List Nat) (G : Graph), e = (.str s, .str t, i) ∧ i < 3 ∧ (t, G) ∈ [(tF, gF), (tS, gS), (tN, gN)] ∧ startM i = ⟨s, some (leastF G), none⟩ ∧ GTi G ∧ checkF G = 0 ∧ startEs.find? (fun e => Nat.beq e.2.2 i) = some (.str s, .str t, i) := by
      simp only [startEs, List.mem_cons, List.not_mem_nil, or_false] at he
      rcases he with rfl | rfl | rfl
      · exact ⟨0, nF, tF, gF, rfl, by decide, by simp, rfl, tiny_F, ok_F, rfl⟩
      · exact ⟨1, nS, tS, gS, rfl, by decide, by simp, rfl, tiny_S, ok_S, rfl⟩
      · exact ⟨2, nN, tN, gN, rfl, by decide, by simp, rfl, tiny_N, ok_N, rfl⟩
    have g4 : Grow h2 h4 := p4.grow h2 w2 gp (by omega)
    have or4 := g4.keep _ _ orr
    have hE4 : EnvAt h4 (.ptr (some (bv, 0))) (seen.reverse.map startM ++ [baseM]) := env_stay (fun c ver ro e vs hc => p4.keep c (by rintro rfl; rw [oi] at hc; cases hc) _ hc) hE
    replace hread := Hid.mk hread
    replace hM := Hid.mk hM
    replace tG := Hid.mk tG
    replace cG := Hid.mk cG
    replace hfind := Hid.mk hfind
    replace hns := Hid.mk hns
    clear hE oi orp hes he p4
    simp only at o4 hns
    repeat with_reducible first | refine zAA ?_ | refine zAB ?_ | refine zAC ?_ | refine zAD ?_ | refine zAG ?_ | refine zAK ?_ | (apply st_q; exact q1) | (apply zAF; exact e1)
    refine st_entry (by exact e1) o4 or4 hfind.out ?_
    repeat with_reducible first | refine zAA ?_ | refine zAB ?_ | refine zAC ?_ | refine zAD ?_ | (apply st_q; exact q1)
    obtain ⟨rv, h5, hr5, hG5, g5⟩ := HR.read t G hread.out h4 g4.wf
    refine zAT (by exact s1) (cl_summ hr5 ?_)
    rw [D.sat_ret]
    obtain ⟨rn, rfl, hN5⟩ := hG5
    have hone := zAO hN5.len
    have o5 := g5.keep _ _ o4
    have hE5 := hE4.mono g5
    clear hr5 o4 hE4 or4
    repeat with_reducible (apply st_q; exact q1)
    refine st_alloc g5.wf ?_
    rintro b4 h6 hb4 g6 o6
    refine zAM (by exact e1) (by exact e1) (cs := [rn, .int .i64 G.root]) rfl rfl g6.wf o6 (by simp) (by rw [List.all_cons, List.all_cons, hone]; rfl) ?_
    rintro v7 h7 p7 o7
    simp only [List.take_zero, List.nil_append, List.length_cons, List.length_nil, List.drop_succ_cons, List.drop_zero, List.append_nil, Nat.zero_add, Nat.reduceAdd, List.drop_nil, List.cons_append] at o7
    have g57 := p7.grow h5 g5.wf g6 hb4
    have oi7 := g57.keep _ _ o5
    have hN7 := hN5.mono g57
    have hp7 : partA (some 2) [rn, .int .i64 G.root] 0 = some (.agg [rn, .int .i64 G.root]) := rfl
    have ht2 : ∀ x y : AVal, List.take 2 [x, y] = [x, y] := fun _ _ => rfl
    have n57 := g57.next
    have l6 := g6.wf.lt o6
    clear o5 hN5 o6 g6
    repeat with_reducible first | refine zAA ?_ | refine zAB ?_ | refine zAC ?_ | refine zAD ?_ | (apply st_q; exact q1)
    refine zAT (by exact s1) ((Least_ok H G tG.out cG.out _ h7 g57.wf ⟨rn, rfl, hN7⟩).mono ?_)
    rintro lv h8 ⟨hO, g8⟩
    have hO' := Hid.mk hO
    obtain ⟨ln, cs, rfl, kB, kl, kn⟩ := hO
    have hln := zAO kB.len
    have o78 := g8.keep _ _ o7
    have oi8 := g8.keep _ _ oi7
    have l7 := g57.wf.lt o7
    have li7 := g57.wf.lt oi7
    clear kB kl kn o7 oi7 hN7
    skip
    refine zAM (by exact e1) (by exact e1) (cs := [ln, .int .i64 (leastF G).root]) rfl rfl g8.wf o78 (by simp) (by rw [List.all_cons, List.all_cons, hln]; rfl) ?_
    rintro v9 h9 p9 o9
    simp only [List.take_zero, List.nil_append, List.length_cons, List.length_nil, List.drop_succ_cons, List.drop_zero, List.append_nil, Nat.zero_add, Nat.reduceAdd, List.drop_nil, List.cons_append] at o9
    have g59 : Grow h5 h9 := p9.grow h5 g5.wf (g57.trans g8) hb4
    have hO9 := (hO'.out.stay fun c p hcb hp _ => p9.keep c (by omega) _ hp).graph
    have oi9 := p9.keep bi (by rintro rfl; rw [o78] at oi8; cases oi8) _ oi8
    have hE9 := hE5.mono g59
    have g29 : Grow h2 h9 := (g4.trans g5).trans g59
    clear o78 oi8 hE5 hO'
    obtain ⟨ln', hq, hLN⟩ := hO9
    cases hq
    have hln3 : seen.length < 3 := by
      have h1 : (seen ++ [i]).Nodup := by
        rw [List.nodup_append]
        exact ⟨hnd, by simp, fun a ha b hb => by simp only [List.mem_singleton] at hb; subst hb; rintro rfl; exact hns.out ha⟩
      have h2 := three_most h1 fun j hj => by
        rcases List.mem_append.1 hj with hj | hj
        · exact hlt j hj
        · rw [List.mem_singleton.1 hj]; exact hi3
      rw [List.length_append, List.length_singleton] at h2
      omega
    repeat with_reducible first | refine zAA ?_ | refine zAB ?_ | refine zAD ?_ | (apply st_q; exact q1)
    refine st_q (v := .agg [.str s, .ptr (some (b4, 0)), .ptr none, .ptr (some (bv, 0))]) (b := none) (by rw [qA_build]; simp only [fillA, ev_put, ev_none, ev_val, if_true, if_false, Nat.reduceEqDiff, cellsA, e1']; rfl) ?_
    refine st_box (by exact e1) (by exact cc) g29.wf ?_
    rintro bz h10 hbz g10 o10
    have hEz : EnvAt h10 (.ptr (some (bz, 0))) ((seen ++ [i]).reverse.map startM ++ [baseM]) := by
      rw [List.reverse_append, List.reverse_singleton, List.singleton_append, List.map_cons, hM.out]
      exact ⟨bz, _, _, _, _, _, _, rfl, o10, ⟨b4, _, _, _, ln, rfl, g10.keep _ _ o9, hLN.mono g10⟩, rfl, hE9.mono g10⟩
    have oi10 := g10.keep _ _ oi9
    have hnd' : (seen ++ [i]).Nodup := by
      rw [List.nodup_append]
      exact ⟨hnd, by simp, fun a ha b hb => by simp only [List.mem_singleton] at hb; subst hb; rintro rfl; exact hns.out ha⟩
    have hlt' : ∀ j ∈ seen ++ [i], j < 3 := fun j hj => by
      rcases List.mem_append.1 hj with hj | hj
      · exact hlt j hj
      · rw [List.mem_singleton.1 hj]; exact hi3
    replace hEz := Hid.mk hEz
    replace hnd' := Hid.mk hnd'
    replace hlt' := Hid.mk hlt'
    clear o9 oi9 hLN hE9 o10
    repeat with_reducible first | refine zAA ?_ | refine zAE ?_ | refine zAB ?_ | (apply st_q; exact q1)
    exact ⟨m - 1, by omega, seen ++ [i], bz, by rw [List.length_append, List.length_singleton]; omega, hnd'.out, hlt'.out, g29.trans g10, ⟨_, oi10⟩, hEz.out, by exact n1, by exact e1, by exact e1⟩
end
end Go.Ab.S
end
section
/-
  Names, rising: a map's keys in whatever order, sorted.
-/
namespace Go.Ab.S
open Go.Ab
set_option maxHeartbeats 4000000
def ksE : Nat → List (List Nat) → List (AVal × AVal × Nat)
  | _, [] => []
  | i, a :: r => (.str a, .bool true, i) :: ksE (i + 1) r
theorem ksE_put : ∀ (l : List (List Nat)) (i : Nat) (a : List Nat), ksE i (l ++ [a]) = ksE i l ++ [(.str a, .bool true, i + l.length)]
  | [], i, a => rfl
  | b :: l, i, a => by
    simp only [List.cons_append, ksE, ksE_put l (i + 1) a, List.length_cons, show i + 1 + l.length = i + (l.length + 1) by omega]
theorem ksE_find (a : List Nat) : ∀ (l : List (List Nat)) (i j : Nat), findA .str (.str a) (ksE i l) j = some (if l.contains a then some (j + l.idxOf a, .bool true) else none)
  | [], _, _ => rfl
  | b :: l, i, j => by
    simp only [ksE, findA, keyA, eqL_eq]
    by_cases h : a = b
    · subst h; simp
    · have h1 : (a == b) = false := by simpa using h
      have h2 : (b == a) = false := by simpa using Ne.symm h
      have ih := ksE_find a l (i + 1) (j + 1)
      rw [h1]
      simp only [ih, List.contains_cons, h1, Bool.false_or, List.idxOf_cons, h2, cond_false]
      split
      · congr 2
        exact Prod.ext (by simp; omega) rfl
      · rfl
theorem ksE_set : ∀ (l : List (List Nat)) (i k : Nat), setVal (ksE i l) k (.bool true) = ksE i l
  | [], _, _ => rfl
  | _ :: _, _, 0 => rfl
  | _ :: l, i, k + 1 => by simp only [ksE, setVal, ksE_set l (i + 1) k]
theorem ksE_mem : ∀ {l : List (List Nat)} {i : Nat} {e : AVal × AVal × Nat}, e ∈ ksE i l → ∃ k, ∃ hk : k < l.length, e = (.str l[k], .bool true, i + k)
  | a :: l, i, e, h => by
    simp only [ksE, List.mem_cons] at h
    rcases h with rfl | h
    · exact ⟨0, by simp, rfl⟩
    · obtain ⟨k, hk, rfl⟩ := ksE_mem h
      exact ⟨k + 1, by simpa using hk, by simp only [List.getElem_cons_succ]; congr 2; omega⟩
theorem ksE_at : ∀ {l : List (List Nat)} {i k : Nat} (hk : k < l.length), (ksE i l).find? (fun e => Nat.beq e.2.2 (i + k)) = some (.str l[k], .bool true, i + k)
  | a :: l, i, 0, _ => by simp [ksE, List.find?]
  | a :: l, i, k + 1, hk => by
    have hne : Nat.beq i (i + (k + 1)) = false := by
      cases h : Nat.beq i (i + (k + 1))
      · rfl
      · have := Nat.eq_of_beq_eq_true h; omega
    have ih := ksE_at (l := l) (i := i + 1) (k := k) (by simpa using hk)
    rw [show i + 1 + k = i + (k + 1) by omega] at ih
    simp only [ksE, List.find?, hne]
    exact ih
theorem ksE_in : ∀ {l : List (List Nat)} {i k : Nat} (hk : k < l.length), (.str l[k], .bool true, i + k) ∈ ksE i l
  | a :: l, i, 0, _ => by simp [ksE]
  | a :: l, i, k + 1, hk => by
    have := ksE_in (l := l) (i := i + 1) (k := k) (by simpa using hk)
    rw [show i + 1 + k = i + (k + 1) by omega] at this
    simp only [ksE, List.getElem_cons_succ]
    exact List.mem_cons_of_mem _ this
theorem nat_most : ∀ {n : Nat} {l : List Nat}, l.Nodup → (∀ i ∈ l, i < n) → l.length ≤ n
  | 0, [], _, _ => Nat.le_refl _
  | 0, a :: l, _, h => absurd (h a (by simp)) (by omega)
  | n + 1, l, hn, h => by
    have h1 := nat_most (n := n) (l := l.erase n) (hn.erase n) fun i hi => by
      have := (List.Nodup.mem_erase_iff hn).1 hi
      have := h i this.2
      omega
    by_cases hm : n ∈ l
    · rw [List.length_erase_of_mem hm] at h1; omega
    · rw [List.erase_of_not_mem hm] at h1; omega
def SetAt (h : AHeap) (r : Nat) (ks : List (List Nat)) : Prop := ∃ ver, h.objs.get r = some (ver, .map (ksE 0 ks) ks.length)
def sortL (l : List (List Nat)) : List (List Nat) := l.mergeSort fun x y => !lessL y x
structure HasSort (summ : FuncId → List AVal → AHeap → Option (D (AVal × AHeap))) : Prop where
  none : ∀ h, summ 37 [.slice none 0] h = some (.ret (.tuple [], h))
  zero : ∀ h, summ 37 [.slice0] h = some (.ret (.tuple [], h))
  some : ∀ (l : List (List Nat)), (∀ s ∈ l, ∀ c ∈ s, c < 256) → l.length ≤ 2 ^ 31 → ∀ h b ver vs, WF h → h.objs.get b = some (ver, .cells false 9 vs) → l.length ≤ vs.length → vs.take l.length = l.map AVal.str →
    summ 37 [.slice (some (b, 0)) l.length] h = some (.ret (.tuple [], putObjA h b (.cells false 9 ((sortL l).map AVal.str ++ vs.drop l.length))))
section
variable {fns : FuncId → Option AFunc} {summ : FuncId → List AVal → AHeap → Option (D (AVal × AHeap))}
variable (H : Has fns summ)
include H
theorem MKeys_ok (rm : Nat) (h : AHeap) (hw : WF h) : Cl fns summ 68 [.map (some rm)] h fun r h' => ∃ b ver, r = .func 101 [] [.ptr (some (b, 0))] ∧ h.next ≤ b ∧ h'.objs.get b = some (ver, .cells false 117 [.map (some rm)]) ∧ Grow h h' := by
  refine H.go (fn := F_MKeys) rfl (by decide) rfl rfl ?_
  unfold F_MKeys
  dsimp only [qQ, qE, qN, gQ, gE, vi]
  refine zAC (zAD ?_)
  refine st_box (by exact e1) (by exact cc) hw ?_
  rintro b h1 hb g1 o1
  repeat' with_reducible first | refine zAA ?_ | refine zAB ?_ | refine zAC ?_ | refine zAD ?_ | refine zAI ?_ | (apply st_q; exact q1) | (apply zAJ; exact n1; exact r1)
  exact ⟨b, _, rfl, hb, o1, g1⟩
theorem MKeys1_ok (ks : List (List Nat)) (rm bk : Nat) (h0 : AHeap) (hbk : ∃ ver ro e, h0.objs.get bk = some (ver, .cells ro e [.map (some rm)])) (hrm : SetAt h0 rm ks) (y : AVal) (P : List Nat → AHeap → Prop) (hP : ∀ s h, P s h → Grow h0 h)
    (hst : ∀ s h h' bi, P s h → (h.next ≤ bi ∨ ∃ ver r c q d, h.objs.get bi = some (ver, .iter r c q d)) → h0.next ≤ bi → (∀ c p, h.objs.get c = some p → c ≠ bi → h'.objs.get c = some p) → WF h' → h.next ≤ h'.next → P s h')
    (hy : ∀ s h (i : Nat) (hi : i < ks.length), P s h → s.Nodup → i ∉ s → s.length < ks.length → Cv fns summ y [.str ks[i]] h fun r h' => r = .bool true ∧ P (s ++ [i]) h' ∧ ∀ c ver r a b d, h.objs.get c = some (ver, .iter r a b d) → h'.objs.get c = some (ver, .iter r a b d))
    (h : AHeap) (hI : P [] h) : Cl fns summ 101 [y, .ptr (some (bk, 0))] h fun _ h' => ∃ s, s.Nodup ∧ (∀ i, i ∈ s ↔ i < ks.length) ∧ P s h' := by
  obtain ⟨verk, rok, ek, obk⟩ := hbk
  obtain ⟨verm, orm⟩ := hrm
  refine H.go (fn := F_MKeys1) rfl (by decide) rfl rfl ?_
  unfold F_MKeys1
  dsimp only [qQ, qE, qN, gQ, gE, vi]
  have obk' := (hP _ _ hI).keep _ _ obk
  have orm' := (hP _ _ hI).keep _ _ orm
  repeat with_reducible first | refine zAC ?_ | refine zAD ?_ | (apply st_q; exact q1)
  refine st_range (by exact e1) orm' (hP _ _ hI).wf ?_
  rintro bi h1 hbi g1 oi
  have hbi0 : h0.next ≤ bi := Nat.le_trans (hP _ _ hI).next hbi
  have hI1 : P [] h1 := hst _ _ _ bi hI (.inl hbi) hbi0 (fun c p hc _ => g1.keep _ _ hc) g1.wf g1.next
  clear hI obk' orm' g1
  repeat with_reducible first | refine zAA ?_ | refine zAB ?_
  with_reducible refine cd_block ?_
  refine cd_loop (fun m a hp => ∃ s : List Nat, m + s.length = ks.length ∧ s.Nodup ∧ (∀ i ∈ s, i < ks.length) ∧ P s hp ∧ (∃ ver, hp.objs.get bi = some (ver, .iter rm ks.length s ks.length)) ∧ a.defers = [] ∧ ev a (.tmp 0) = some y ∧ ev a (.tmp 5) = some (.ptr (some (bi, 0)))) ?_ (n := ks.length)
    ⟨[], rfl, List.nodup_nil, fun i hi => (by cases hi), hI1, ⟨_, oi⟩, by exact n1, by exact e1, by exact e1⟩
  clear hI1 oi hbi
  rintro m a hp ⟨s, hm, hnd, hlt, hI, ⟨vi, oi⟩, hd, e0', e5'⟩
  have ormp := (hP _ _ hI).keep _ _ orm
  have wp := (hP _ _ hI).wf
  have hes : ∀ e ∈ ksE 0 ks, e.2.2 < ks.length := fun e he => by
    obtain ⟨k, hk, rfl⟩ := ksE_mem he
    show 0 + k < _
    omega
  repeat with_reducible first | refine zAC ?_ | refine zAD ?_
  refine st_next (by exact e1) oi ormp hes wp (fun hall => ?_) fun e he hns ver' h4 p4 o4 => ?_
  · have hfin : ∃ s : List Nat, s.Nodup ∧ (∀ i, i ∈ s ↔ i < ks.length) ∧ P s hp := ⟨s, hnd, fun i => ⟨hlt i, fun hi => by
      have := hall _ (ksE_in (i := 0) hi)
      simpa using this⟩, hI⟩
    clear hall hes oi ormp
    repeat with_reducible first | refine zAA ?_ | refine zAa ?_ | refine zAZ ?_ | refine zAB ?_ | refine zAC ?_ | refine cd_exit ?_ | (apply st_q; exact q1) | (apply zAH; exact e1)
    refine fin_normal (by exact n1) (v := .tuple []) (by exact r1) hfin
  · obtain ⟨i, hi, rfl⟩ := ksE_mem he
    rw [Nat.zero_add] at hns o4
    simp only at hns o4
    have hI4 : P s h4 := hst _ _ _ bi hI (.inr ⟨_, _, _, _, _, oi⟩) hbi0 (fun c p hc hne => p4.keep c hne _ hc) (p4.wf wp) p4.next
    have orm4 := (hP _ _ hI4).keep _ _ orm
    have hfind := ksE_at (l := ks) (i := 0) hi
    rw [Nat.zero_add] at hfind
    have hlen : s.length < ks.length := by
      have h1 : (s ++ [i]).Nodup := by
        rw [List.nodup_append]
        exact ⟨hnd, by simp, fun a ha b hb => by simp only [List.mem_singleton] at hb; subst hb; rintro rfl; exact hns ha⟩
      have h2 := nat_most (n := ks.length) h1 fun j hj => by
        rcases List.mem_append.1 hj with hj | hj
        · exact hlt j hj
        · rw [List.mem_singleton.1 hj]; exact hi
      rw [List.length_append, List.length_singleton] at h2
      omega
    have hstep := Hid.mk (hy s h4 i hi hI4 hnd hns hlen)
    have hnd' : Hid ((s ++ [i]).Nodup) := ⟨by
        rw [List.nodup_append]
        exact ⟨hnd, by simp, fun a ha b hb => by simp only [List.mem_singleton] at hb; subst hb; rintro rfl; exact hns ha⟩⟩
    have hlt' : Hid (∀ j ∈ s ++ [i], j < ks.length) := ⟨fun j hj => by
        rcases List.mem_append.1 hj with hj | hj
        · exact hlt j hj
        · rw [List.mem_singleton.1 hj]; exact hi⟩
    replace hfind := Hid.mk hfind
    replace hns := Hid.mk hns
    clear he hes oi ormp hI p4
    repeat with_reducible first | refine zAA ?_ | refine zAB ?_ | refine zAC ?_ | refine zAD ?_ | refine zAG ?_ | refine zAK ?_ | (apply st_q; exact q1) | (apply zAF; exact e1)
    refine st_entry (by exact e1) o4 orm4 hfind.out ?_
    repeat with_reducible first | refine zAA ?_ | refine zAB ?_ | refine zAC ?_ | refine zAD ?_ | (apply st_q; exact q1)
    refine st_e (ex_call (by exact e1) (by exact s1) (hstep.out.mono ?_))
    rintro _ h5 ⟨rfl, hI5, hkeep⟩
    have o5 := hkeep _ _ _ _ _ _ o4
    clear hstep hkeep o4 orm4
    repeat with_reducible first | refine zAA ?_ | refine zAE ?_ | refine zAB ?_ | refine zAK ?_ | (apply st_q; exact q1) | (apply zAH; exact e1)
    exact ⟨m - 1, by omega, s ++ [i], by rw [List.length_append, List.length_singleton]; omega, hnd'.out, hlt'.out, hI5, ⟨_, o5⟩, by exact n1, by exact e1, by exact e1⟩
end
end Go.Ab.S
end
