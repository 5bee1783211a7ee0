import Derived.Test.YtapnoohglfhgeaaGreatDoorP15
import Derived.Test.YtapnoohglfhgeaaGreatDoorP17
import Derived.Test.YtapnoohglfhgeaaGreatDoorP18
/-
  Part 19 of the proof.
-/
set_option linter.all false
section
/-
  Keys collected, and sorted.
-/
namespace Go.Ab.S
open Go.Ab
set_option maxHeartbeats 4000000
def pickK (ks : List (List Nat)) (s : List Nat) : List (List Nat) := s.map fun i => ks.getD i []
theorem pick_put {ks : List (List Nat)} {s : List Nat} {i : Nat} (hi : i < ks.length) : pickK ks (s ++ [i]) = pickK ks s ++ [ks[i]] := by
  simp [pickK, List.getD, List.getElem?_eq_getElem hi]
theorem pick_mem {ks : List (List Nat)} {s : List Nat} (h : ∀ i, i ∈ s ↔ i < ks.length) (x : List Nat) : x ∈ pickK ks s ↔ x ∈ ks := by
  simp only [pickK, List.mem_map]
  constructor
  · rintro ⟨i, hi, rfl⟩
    have := (h i).1 hi
    rw [List.getD, List.getElem?_eq_getElem this]; exact List.getElem_mem _
  · intro hx
    obtain ⟨i, hi, rfl⟩ := List.mem_iff_getElem.1 hx
    exact ⟨i, (h i).2 hi, by rw [List.getD, List.getElem?_eq_getElem hi]; rfl⟩
theorem pick_nodup {ks : List (List Nat)} (hk : ks.Nodup) {s : List Nat} (hs : s.Nodup) (h : ∀ i ∈ s, i < ks.length) : (pickK ks s).Nodup := by
  rw [pickK, List.nodup_iff_pairwise_ne, List.pairwise_map]
  refine List.Pairwise.imp_of_mem ?_ (List.nodup_iff_pairwise_ne.1 hs)
  intro a b ha hb hne he
  have h1 := h a ha
  have h2 := h b hb
  simp only [List.getD, List.getElem?_eq_getElem h1, List.getElem?_eq_getElem h2, Option.getD_some] at he
  exact hne ((List.getElem_inj hk).1 he)
section
variable {fns : FuncId → Option AFunc} {summ : FuncId → List AVal → AHeap → Option (D (AVal × AHeap))}
variable (H : Has fns summ)
include H
theorem AppendSeq_ok (ks : List (List Nat)) (hks : ks.length ≤ 2 ^ 20) (rm bk : Nat) (h : AHeap) (hw : WF h) (hbk : ∃ ver ro e, h.objs.get bk = some (ver, .cells ro e [.map (some rm)])) (hrm : SetAt h rm ks) :
    Cl fns summ 135 [.slice none 0, .func 101 [] [.ptr (some (bk, 0))]] h fun r h' => ∃ s : List Nat, s.Nodup ∧ (∀ i, i ∈ s ↔ i < ks.length) ∧ Built h' h.next 9 1 r s.length ((pickK ks s).map AVal.str) ∧ Grow h h' := by
  have e20 : (2 : Nat) ^ 20 = 1048576 := by decide
  have e31 : (2 : Nat) ^ 31 = 2147483648 := by decide
  refine H.go (fn := F_AppendSeq) rfl (by decide) rfl rfl ?_
  unfold F_AppendSeq
  dsimp only [qQ, qE, qN, gQ, gE, vi]
  refine zAC (zAD ?_)
  refine st_box (by exact e1) (by exact cc) hw ?_
  rintro b2 h2 hb2 g2 o2
  have l2 := g2.wf.lt o2
  repeat with_reducible first | refine zAA ?_ | refine zAB ?_ | refine zAC ?_ | refine zAD ?_ | (apply st_q; exact q1)
  refine cd_gen (fun A => A.defers = [] ∧ ev A (.tmp 2) = some (.ptr (some (b2, 0))) ∧ ev A (.tmp 6) = some (.func 101 [] [.ptr (some (bk, 0))])) ⟨by exact n1, by exact e1, by exact e1⟩ ?_
  rintro A ⟨hd, t2, t6⟩
  refine cd_block ?_
  generalize hB : ACode.block 1 _ = B
  generalize hA : ACode.ops [⟨some 5, none, .q (.mov (.tmp 7))⟩] = As
  refine rangeF_K t6 g2.wf ?_
  intro l d h3 hdn hld g3 ol od
  have n2 := g2.next
  refine (MKeys1_ok H ks rm bk h hbk hrm (.yield l) (fun s hp => Grow h hp ∧ (l < hp.next ∧ b2 < hp.next) ∧ (∃ ver, hp.objs.get l = some (ver, .loop .ready none A.tmps [7] As B d)) ∧ (∃ ver, hp.objs.get d = some (ver, .dfr false)) ∧ s.length ≤ ks.length ∧ ∃ ver vo, hp.objs.get b2 = some (ver, .cells false 38 [vo]) ∧ Built hp h.next 9 1 vo s.length ((pickK ks s).map AVal.str))
    (fun s hp p => p.1) ?_ ?_ h3 ⟨g2.trans g3, ⟨by obtain ⟨_, ol⟩ := ol; exact g3.wf.lt ol, Nat.lt_of_lt_of_le l2 g3.next⟩, ol, od, Nat.zero_le _, _, _, g3.keep _ _ o2, .inl ⟨rfl, rfl, rfl⟩⟩).mono ?_
  · rintro s hp hp' bi ⟨gp, ⟨ll, lb2⟩, ⟨vl, ol⟩, ⟨vd, od⟩, hsl, ver, vo, o2p, B2⟩ hbi hb0 hkp w' hn
    have hne : ∀ {c : Nat} {p : Nat × AObj}, hp.objs.get c = some p → (∀ r a b d, p.2 ≠ .iter r a b d) → c ≠ bi := by
      rintro c p hc hp' rfl
      rcases hbi with hbi | ⟨ver, r, a, b, d, ho⟩
      · have := gp.wf.lt hc; omega
      · rw [ho] at hc
        simp only [Option.some.injEq] at hc
        exact hp' _ _ _ _ (by rw [← hc])
    refine ⟨⟨w', Nat.le_trans gp.next hn, fun c p hc => hkp c p (gp.keep _ _ hc) (by have := hw.lt hc; omega)⟩, ⟨by omega, by omega⟩, ⟨_, hkp _ _ ol (hne ol fun _ _ _ _ hh => by cases hh)⟩, ⟨_, hkp _ _ od (hne od fun _ _ _ _ hh => by cases hh)⟩, hsl, ver, vo, hkp _ _ o2p (hne o2p fun _ _ _ _ hh => by cases hh), built_stay B2 fun c p hc ⟨vs, hp2⟩ _ => hkp _ _ hc (hne hc fun _ _ _ _ hh => by rw [hp2] at hh; cases hh)⟩
  · clear ol od
    rintro s hp i hi ⟨gp, ⟨ll, lb2⟩, ⟨vl, ol⟩, ⟨vd, od⟩, hsl, ver, vo, o2p, B2⟩ hnd hns hlen
    have T2 : ev { tmps := A.tmps, defers := [] } (.tmp 2) = some (.ptr (some (b2, 0))) := t2
    refine yield_K ol gp.wf rfl (fun a1 => a1.defers = [] ∧ ev a1 (.tmp 5) = some (.str ks[i]) ∧ ev a1 (.tmp 2) = some (.ptr (some (b2, 0)))) ?_ ?_
    · subst hA
      clear hd t2 t6
      repeat with_reducible first | refine zAA ?_ | refine zAB ?_ | refine zAD ?_ | (apply st_q; exact q1)
      exact ⟨rfl, by exact n1, by exact e1, by exact e1⟩
    · rintro a1 hq ⟨hd1, t5, t2'⟩ pL ⟨vlb, olb⟩
      subst hB
      clear hd t2 t6 T2
      have hld' : d ≠ l := by rintro rfl; rw [ol] at od; cases od
      have hbl : b2 ≠ l := by rintro rfl; rw [ol] at o2p; cases o2p
      have gq : Grow h hq := pL.grow h hw gp (by omega)
      have o2q := pL.keep _ hbl _ o2p
      have odq := pL.keep _ hld' _ od
      have Bq := built_but B2 pL ol (fun vs hh => by cases hh)
      have hroom := roomOK H (b := 16) (k := s.length + 1) (by decide) (by omega)
      have nq := gq.next
      have nL := pL.next
      have kpi : ∀ c ver r a b d, hp.objs.get c = some (ver, .iter r a b d) → hq.objs.get c = some (ver, .iter r a b d) := fun c ver r a b d hc => pL.keep c (by rintro rfl; rw [ol] at hc; cases hc) _ hc
      replace kpi := Hid.mk kpi
      clear ol od o2p B2 pL
      repeat with_reducible first | refine zAX ?_ | (apply st_q; exact q1)
      refine st_bslice1 (by exact e1) (by exact cc) rfl rfl gq.wf ?_
      rintro bz h10 hbz g10 oz
      have kB' := Bq.grow g10
      refine st_append1 (by exact e1) (by exact e1) kB' oz rfl rfl hroom g10.wf (by have := g10.next; omega) ?_
      rintro vw' h11 B11 f11 w11 n11 gr11 kp11
      have o211 := kp11 _ _ (g10.keep _ _ o2q) (built_ne kB' (g10.keep _ _ o2q) fun vs hh => by cases hh)
      have ol11 := kp11 _ _ (g10.keep _ _ olb) (built_ne kB' (g10.keep _ _ olb) fun vs hh => by cases hh)
      have od11 := kp11 _ _ (g10.keep _ _ odq) (built_ne kB' (g10.keep _ _ odq) fun vs hh => by cases hh)
      have g11 := gr11 h hw (gq.trans g10) (Nat.le_refl _)
      have kpi11 : ∀ c ver r a b d, hp.objs.get c = some (ver, .iter r a b d) → h11.objs.get c = some (ver, .iter r a b d) := fun c ver r a b d hc => by
        have := g10.keep _ _ (kpi.out _ _ _ _ _ _ hc)
        exact kp11 _ _ this (built_ne kB' this fun vs hh => by cases hh)
      replace kpi11 := Hid.mk kpi11
      have hone := zAO B11.len
      have n10 := g10.next
      clear kpi o2q olb odq kp11 gr11 kB' oz Bq
      skip
      refine zAM (by exact e1) (by exact e1) (cells_of_len B11.len) rfl w11 o211 (by simp) (by simp only [List.all_cons, List.all_nil, hone, Bool.and_true]) ?_
      rintro v12 h12 p12 o12
      simp only [List.take_zero, List.nil_append, List.length_cons, List.length_nil, List.drop_succ_cons, List.drop_zero, List.append_nil, Nat.zero_add, Nat.reduceAdd, List.drop_nil, List.cons_append] at o12
      have ol12 := p12.keep l (fun e => hbl e.symm) _ ol11
      have od12 := p12.keep d (by rintro rfl; rw [od11] at o211; cases o211) _ od11
      have g12 := p12.grow h hw g11 hb2
      have B12 := built_but B11 p12 o211 (fun vs hh => by cases hh)
      have n12 := p12.next
      have kpi12 : ∀ c ver r a b d, hp.objs.get c = some (ver, .iter r a b d) → h12.objs.get c = some (ver, .iter r a b d) := fun c ver r a b d hc => by
        have h1 := kpi11.out _ _ _ _ _ _ hc
        exact p12.keep c (by rintro rfl; rw [o211] at h1; cases h1) _ h1
      replace kpi12 := Hid.mk kpi12
      clear o211 ol11 od11 kpi11
      repeat with_reducible first | refine zAE ?_ | refine zAB ?_
      refine ⟨g12.wf, ⟨_, ol12⟩, fun _ h13 p13 o13 => ⟨rfl, ⟨p13.grow h hw g12 (by omega), ⟨by have := p13.next; omega, by have := p13.next; omega⟩, o13, ⟨_, p13.keep d hld' _ od12⟩, by rw [List.length_append, List.length_singleton]; omega, v12, vw', p13.keep b2 hbl _ o12, ?_⟩, fun c ver r a b d hc => ?_⟩, fun hh => absurd rfl hh⟩
      · rw [pick_put hi, List.map_append, List.length_append, List.length_singleton]
        exact built_but B12 p13 ol12 (fun vs hh => by cases hh)
      · have h2 := kpi12.out _ _ _ _ _ _ hc
        exact p13.keep c (by rintro rfl; rw [ol12] at h2; cases h2) _ h2
  · clear ol od
    rintro _ h8 ⟨s, hnd, hall, gp, ⟨ll, lb2⟩, ⟨vl, ol⟩, ⟨vd, od⟩, hsl, ver, vo, o2p, B2⟩
    refine ⟨gp.wf, .inl ⟨⟨_, ol⟩, fun h9 p9 => ?_⟩⟩
    have hld' : d ≠ l := by rintro rfl; rw [ol] at od; cases od
    have hbl : b2 ≠ l := by rintro rfl; rw [ol] at o2p; cases o2p
    have o29 := p9.keep b2 hbl _ o2p
    have od9 := p9.keep d hld' _ od
    have g9 := p9.grow h hw gp (by omega)
    have B9 := built_but B2 p9 ol (fun vs hh => by cases hh)
    have T2 : ev { tmps := A.tmps, defers := [.collected d] } (.tmp 2) = some (.ptr (some (b2, 0))) := t2
    have hdd : (ADef.collected d :: A.defers) = [.collected d] := by rw [hd]
    replace hall := Hid.mk hall
    clear hd t6 ol od o2p B2
    repeat with_reducible first | refine zAA ?_ | refine zAE ?_ | refine zAB ?_ | refine zAC ?_ | refine zAD ?_ | refine zAI ?_ | (apply st_q; exact q1)
    refine fin_coll (by first | exact hdd | (simp only [zAY]; exact hdd)) g9.wf ⟨_, od9⟩ fun h12 p12 => ?_
    refine ⟨_, by exact r1, s, hnd, hall.out, built_but B9 p12 od9 (fun vs hh => by cases hh), p12.grow h hw g9 (by omega)⟩
end
end Go.Ab.S
end
section
/-
  All names of meanings of a sort, rising.
-/
namespace Go.Ab.S
open Go.Ab
set_option maxHeartbeats 4000000
theorem lessL_asym {x y : List Nat} (h : lessL x y = true) : lessL y x = false := by
  cases h2 : lessL y x
  · rfl
  · have := lessL_trans h h2
    rw [lessL_irr] at this; cases this
theorem sortL_mem {l : List (List Nat)} {s : List Nat} : s ∈ sortL l ↔ s ∈ l := List.mem_mergeSort
theorem sortL_len (l : List (List Nat)) : (sortL l).length = l.length := List.length_mergeSort _
theorem sortL_le (l : List (List Nat)) : (sortL l).Pairwise fun x y => (!lessL y x) = true := by
  refine List.pairwise_mergeSort (fun a b c h1 h2 => ?_) (fun a b => ?_) l
  · simp only [Bool.not_eq_true'] at h1 h2 ⊢
    cases h : lessL c a
    · rfl
    · rcases lessL_tri b c with k | rfl | k
      · have := lessL_trans k h; rw [h1] at this; cases this
      · rw [h1] at h; cases h
      · rw [h2] at k; cases k
  · cases h : lessL b a
    · rfl
    · rw [lessL_asym h]; rfl
theorem sortL_rises {l : List (List Nat)} (hn : l.Nodup) : Rises (sortL l) := by
  have h1 := sortL_le l
  have h2 : (sortL l).Nodup := (List.mergeSort_perm l _).nodup_iff.2 hn
  intro i j hij x y hx hy
  obtain ⟨hi, rfl⟩ := List.getElem?_eq_some_iff.1 hx
  obtain ⟨hj, rfl⟩ := List.getElem?_eq_some_iff.1 hy
  have h3 := List.pairwise_iff_getElem.1 h1 i j hi hj hij
  simp only [Bool.not_eq_true'] at h3
  rcases lessL_tri (sortL l)[i] (sortL l)[j] with k | k | k
  · exact k
  · have := (List.getElem_inj h2).1 k; omega
  · rw [h3] at k; cases k
def BytesL (l : List (List Nat)) : Prop := ∀ s ∈ l, ∀ c ∈ s, c < 256
section
variable {fns : FuncId → Option AFunc} {summ : FuncId → List AVal → AHeap → Option (D (AVal × AHeap))}
variable (H : Has fns summ) (HS : HasSort summ)
include H
theorem Collect_ok (ks : List (List Nat)) (hks : ks.length ≤ 2 ^ 20) (rm bk : Nat) (h : AHeap) (hw : WF h) (hbk : ∃ ver ro e, h.objs.get bk = some (ver, .cells ro e [.map (some rm)])) (hrm : SetAt h rm ks) :
    Cl fns summ 100 [.func 101 [] [.ptr (some (bk, 0))]] h fun r h' => ∃ s : List Nat, s.Nodup ∧ (∀ i, i ∈ s ↔ i < ks.length) ∧ Built h' h.next 9 1 r s.length ((pickK ks s).map AVal.str) ∧ Grow h h' := by
  refine H.go (fn := F_Collect) rfl (by decide) rfl rfl ?_
  unfold F_Collect
  dsimp only [qQ, qE, qN, gQ, gE, vi]
  repeat with_reducible first | refine zAA ?_ | refine zAB ?_ | refine zAC ?_ | refine zAD ?_ | (apply st_q; exact q1)
  refine zAT (by exact s1) ((AppendSeq_ok H ks hks rm bk h hw hbk hrm).mono ?_)
  rintro r h2 hq
  repeat' with_reducible first | refine zAA ?_ | refine zAB ?_ | refine zAI ?_ | (apply st_q; exact q1) | (apply zAJ; exact n1; exact r1)
  exact hq
include HS
theorem Sorted_ok (ks : List (List Nat)) (hks : ks.length ≤ 2 ^ 20) (hkb : BytesL ks) (hkn : ks.Nodup) (rm bk : Nat) (h : AHeap) (hw : WF h) (hbk : ∃ ver ro e, h.objs.get bk = some (ver, .cells ro e [.map (some rm)])) (hrm : SetAt h rm ks) :
    Cl fns summ 67 [.func 101 [] [.ptr (some (bk, 0))]] h fun r h' => ∃ out, StrsAt h' r out ∧ Rises out ∧ (∀ s, s ∈ out ↔ s ∈ ks) ∧ out.length ≤ 2 ^ 20 ∧ Grow h h' := by
  have e20 : (2 : Nat) ^ 20 = 1048576 := by decide
  have e31 : (2 : Nat) ^ 31 = 2147483648 := by decide
  refine H.go (fn := F_Sorted) rfl (by decide) rfl rfl ?_
  unfold F_Sorted
  dsimp only [qQ, qE, qN, gQ, gE, vi]
  repeat with_reducible first | refine zAA ?_ | refine zAB ?_ | refine zAC ?_ | refine zAD ?_ | (apply st_q; exact q1)
  refine zAT (by exact s1) ((Collect_ok H ks hks rm bk h hw hbk hrm).mono ?_)
  rintro r h2 ⟨s, hnd, hall, B, g2⟩
  have hpl : (pickK ks s).length = s.length := by simp [pickK]
  have hsl := nat_most hnd fun i hi => (hall i).1 hi
  have hpn := pick_nodup hkn hnd fun i hi => (hall i).1 hi
  have hpm := pick_mem hall
  have fin : ∃ out : List (List Nat), out = sortL (pickK ks s) ∧ Rises out ∧ (∀ x, x ∈ out ↔ x ∈ ks) ∧ out.length ≤ 2 ^ 20 := ⟨_, rfl, sortL_rises hpn, fun x => sortL_mem.trans (hpm x), by rw [sortL_len, hpl]; omega⟩
  obtain ⟨out, ho, f1, f2, f3⟩ := fin
  have hol : out.length = s.length := by rw [ho, sortL_len, hpl]
  replace f1 := Hid.mk f1
  replace f2 := Hid.mk f2
  replace f3 := Hid.mk f3
  have hpb : BytesL (pickK ks s) := fun x hx => hkb x ((hpm x).1 hx)
  replace hpb := Hid.mk hpb
  rcases B with ⟨rfl, h0, hnil⟩ | ⟨rfl, h0, _⟩ | ⟨b, vs, ver, hb, rfl, ob, hlen, htk⟩
  · have hout : out = [] := List.length_eq_zero_iff.1 (by omega)
    have hs := HS.none h2
    clear hall hpm hpn ho
    repeat with_reducible first | refine zAA ?_ | refine zAB ?_ | refine zAC ?_ | refine zAD ?_ | (apply st_q; exact q1)
    refine zAT (by exact s1) (cl_summ hs ?_)
    rw [D.sat_ret]
    repeat' with_reducible first | refine zAA ?_ | refine zAB ?_ | refine zAC ?_ | refine zAD ?_ | refine zAI ?_ | (apply st_q; exact q1) | (apply zAJ; exact n1; exact r1)
    exact ⟨out, by rw [hout]; exact ⟨rfl, fun i x hx => by simp at hx⟩, f1.out, f2.out, f3.out, g2⟩
  · have hout : out = [] := List.length_eq_zero_iff.1 (by omega)
    have hs := HS.zero h2
    clear hall hpm hpn ho
    repeat with_reducible first | refine zAA ?_ | refine zAB ?_ | refine zAC ?_ | refine zAD ?_ | (apply st_q; exact q1)
    refine zAT (by exact s1) (cl_summ hs ?_)
    rw [D.sat_ret]
    repeat' with_reducible first | refine zAA ?_ | refine zAB ?_ | refine zAC ?_ | refine zAD ?_ | refine zAI ?_ | (apply st_q; exact q1) | (apply zAJ; exact n1; exact r1)
    exact ⟨out, by rw [hout]; exact ⟨rfl, fun i x hx => by simp at hx⟩, f1.out, f2.out, f3.out, g2⟩
  · rw [Nat.mul_one] at hlen htk
    rw [← hpl] at hlen htk
    have hs := HS.some (pickK ks s) hpb.out (by omega) h2 b ver vs g2.wf ob hlen htk
    rw [hpl] at hs
    have pb := but_put g2.wf ob (.cells false 9 ((sortL (pickK ks s)).map AVal.str ++ vs.drop s.length))
    have ob' := zAR h2 b (.cells false 9 ((sortL (pickK ks s)).map AVal.str ++ vs.drop s.length))
    rw [← ho] at hs pb ob'
    replace hs := Hid.mk hs
    have g3 := pb.grow h hw g2 hb
    have hB : Built (putObjA h2 b (.cells false 9 (out.map AVal.str ++ vs.drop s.length))) h.next 9 1 (.slice (some (b, 0)) out.length) out.length (out.map AVal.str) := .inr (.inr ⟨b, _, _, hb, rfl, ob', by simp, by simp⟩)
    have hSt := built_strs hB
    rw [hol] at hSt
    replace hSt := Hid.mk hSt
    clear hall hpm hpn ho ob htk hlen pb ob' hB
    repeat with_reducible first | refine zAA ?_ | refine zAB ?_ | refine zAC ?_ | refine zAD ?_ | (apply st_q; exact q1)
    refine zAT (by exact s1) (cl_summ hs.out ?_)
    rw [D.sat_ret]
    generalize putObjA h2 b _ = h3 at hSt g3 ⊢
    repeat' with_reducible first | refine zAA ?_ | refine zAB ?_ | refine zAC ?_ | refine zAD ?_ | refine zAI ?_ | (apply st_q; exact q1) | (apply zAJ; exact n1; exact r1)
    exact ⟨out, hSt.out, f1.out, f2.out, f3.out, g3⟩
end
end Go.Ab.S
end
section
/-
  Whether a class's type may be: the law of it.
-/
namespace Go.Ab.S
open Go.Ab
set_option maxHeartbeats 1000000
def isArrow (n : Node) : Bool := n.kind == 2 && eqL n.name [45, 62]
def isStar (n : Node) : Bool := n.kind == 2 && eqL n.name [42]
def downF (g : Graph) : Nat → Int → Option Int
  | 0, a => some a
  | k + 1, a => if isArrow (zAL g a) then downF g k ((zAL g a).args.getD 1 0) else none
def partF (g : Graph) (a : Int) : Option (Int × Int) :=
  if isStar (zAL g a) then
    (if ((zAL g ((zAL g a).args.getD 0 0)).kind == 3 && !(zAL g ((zAL g a).args.getD 0 0)).isOpen) && (zAL g ((zAL g a).args.getD 1 0)).kind == 3 then some ((zAL g a).args.getD 0 0, (zAL g a).args.getD 1 0) else none)
  else none
def bodyF (c : CDef) : Option (Int × Int) := match downF c.g c.params.toNat c.g.root with
  | none => none
  | some a => partF c.g a
def headOK (c : CDef) : Bool := ((!decide (c.params < 0) && !decide (c.params > 100)) && risingF c.conc) && risingF c.virt
def ckF (c : CDef) : Int :=
  if checkF c.g ≠ 0 then checkF c.g else if headOK c then (match bodyF c with
    | none => 2
    | some p => if eqLL (sortL (c.conc ++ c.virt)) (zAL c.g p.2).labels then 0 else 2) else 2
theorem rises_nod {l : List (List Nat)} (hr : Rises l) : l.Nodup := by
  rw [List.nodup_iff_pairwise_ne, List.pairwise_iff_getElem]
  intro i j hi hj hij he
  have := hr i j hij _ _ (List.getElem?_eq_getElem hi) (List.getElem?_eq_getElem hj)
  rw [he, lessL_irr] at this
  cases this
theorem arrow_args {n : Node} {N : Int} (h : mayF n N = true) (ha : isArrow n = true ∨ isStar n = true) : n.args.length = 2 := by
  have hk : n.kind = 2 := by
    rcases ha with ha | ha <;> (simp only [isArrow, isStar, Bool.and_eq_true, beq_iff_eq] at ha; exact ha.1)
  rcases may_kind h with ⟨q, _⟩ | ⟨_, _, _, _, l⟩ | ⟨q, _⟩
  · omega
  · rw [l]
    rcases ha with ha | ha <;> (simp only [isArrow, isStar, Bool.and_eq_true, eqL_iff] at ha; rw [ha.2]; rfl)
  · omega
theorem ck_facts {c : CDef} (h : ckF c = 0) : checkF c.g = 0 ∧ (0 ≤ c.params ∧ c.params ≤ 100) ∧ ∃ p, bodyF c = some p := by
  unfold ckF at h
  split at h
  · rename_i hc; exact absurd h hc
  · rename_i hc
    split at h
    · rename_i hh
      simp only [headOK, Bool.and_eq_true, Bool.not_eq_true', decide_eq_false_iff_not] at hh
      refine ⟨by simpa using hc, ⟨by omega, by omega⟩, ?_⟩
      cases hb : bodyF c with
      | none => rw [hb] at h; cases h
      | some p => exact ⟨p, rfl⟩
    · cases h
end Go.Ab.S
end
section
/-
  Names, as they are told by definition.
-/
namespace Go.Ab.S
open Go.Ab
set_option maxHeartbeats 1000000
def smallF (c : Nat) : Bool := (97 ≤ c && c ≤ 122) || c == 95
def letterF (c : Nat) : Bool := ((97 ≤ c && c ≤ 122) || (65 ≤ c && c ≤ 90)) || c == 95
def digitF (c : Nat) : Bool := 48 ≤ c && c ≤ 57
def keyWords : List (List Nat) := [[97, 110, 100], [97, 115], [99, 108, 97, 115, 115], [101, 108, 115, 101], [101, 110, 100], [102, 97, 108, 115, 101], [102, 117, 110], [105, 102], [105, 110], [105, 110, 104, 101, 114, 105, 116], [108, 101, 116], [109, 101, 116, 104, 111, 100], [110, 101, 119], [111, 98, 106, 101, 99, 116], [114, 101, 99], [116, 104, 101, 110], [116, 114, 117, 101], [118, 97, 108], [118, 105, 114, 116, 117, 97, 108]]
def rowS : List (List Nat) → List Nat
  | [] => [32]
  | w :: r => 32 :: (w ++ rowS r)
theorem keys_row : keysS = rowS keyWords := by decide
theorem pref_word : ∀ (s w r : List Nat), 32 ∉ s → 32 ∉ w → prefL (s ++ [32]) (w ++ 32 :: r) = decide (s = w)
  | [], [], r, _, _ => by simp [prefL]
  | [], a :: w, r, _, hw => by
    have : ¬ a = 32 := fun e => hw (by simp [e])
    simp [prefL]; omega
  | a :: s, [], r, hs, _ => by
    have : ¬ a = 32 := fun e => hs (by simp [e])
    simp [prefL, this]
  | a :: s, b :: w, r, hs, hw => by
    have ih := pref_word s w r (fun h => hs (by simp [h])) (fun h => hw (by simp [h]))
    simp only [List.cons_append, prefL, ih]
    by_cases h : a = b
    · subst h; simp
    · simp [h]
theorem row_head (ws : List (List Nat)) : ∃ r, rowS ws = 32 :: r := by cases ws <;> exact ⟨_, rfl⟩
theorem in_word : ∀ (w r p : List Nat), 32 ∉ w → inL (w ++ r) (32 :: p) = inL r (32 :: p)
  | [], _, _, _ => rfl
  | a :: w, r, p, h => by
    have ha : ¬ 32 = a := fun e => h (by simp [e])
    rw [List.cons_append, inL, in_word w r p fun hh => h (by simp [hh])]
    have : ((32 : Nat) == a) = false := by simpa using ha
    simp only [prefL, this, Bool.false_and, Bool.false_or]
theorem in_row : ∀ (ws : List (List Nat)) (s : List Nat), (∀ w ∈ ws, 32 ∉ w) → 32 ∉ s → inL (rowS ws) ([32] ++ s ++ [32]) = ws.contains s
  | [], s, _, _ => by
    show inL [32] (32 :: (s ++ [32])) = _
    cases s <;> simp [inL, prefL]
  | w :: ws, s, h, hs => by
    have hw := h w (by simp)
    have ih := in_row ws s (fun x hx => h x (by simp [hx])) hs
    obtain ⟨r, hr⟩ := row_head ws
    show inL (32 :: (w ++ rowS ws)) (32 :: (s ++ [32])) = _
    rw [inL, in_word _ _ _ hw]
    have ih' : inL (rowS ws) (32 :: (s ++ [32])) = ws.contains s := ih
    rw [ih', prefL, hr, pref_word s w r hs hw]
    simp only [List.contains_cons, beq_self_eq_true, Bool.true_and]
    congr 1
    rw [Bool.eq_iff_iff]; simp
theorem blank_in : ∀ s : List Nat, inL s [32] = decide (32 ∈ s)
  | [] => by simp [inL, prefL]
  | a :: s => by
    rw [inL, blank_in s]
    have : prefL [32] (a :: s) = (32 == a) := by simp [prefL]
    rw [this]
    by_cases h : 32 = a
    · simp [h]
    · simp [h]
theorem isKey_eq (s : List Nat) : isKeyF s = keyWords.contains s := by
  unfold isKeyF
  rw [blank_in]
  by_cases hb : 32 ∈ s
  · have : keyWords.contains s = false := by
      rw [← Bool.not_eq_true, List.contains_iff_mem]
      intro hm
      have : ∀ w ∈ keyWords, 32 ∉ w := by decide
      exact this s hm hb
    rw [this]; simp [hb]
  · rw [keys_row, in_row keyWords s (by decide) hb]
    cases s with
    | nil => decide
    | cons a s =>
      have : eqL (a :: s) [] = false := rfl
      rw [this]; simp [hb]
def goS : List Nat → Nat
  | [] => 0
  | c :: r => if letterF c || digitF c then 1 + goS r else 0
def rwordF : List Nat → Nat
  | [] => 0
  | c :: r => if smallF c then 1 + goS r else 0
theorem goes_on (c : Nat) : goesF c false = (letterF c || digitF c) := by
  simp only [goesF, letterF, digitF, Bool.not_false, Bool.and_true]
  cases (decide (48 ≤ c) && decide (c ≤ 57)) <;> cases (decide (65 ≤ c) && decide (c ≤ 90)) <;> cases (decide (97 ≤ c) && decide (c ≤ 122)) <;> cases (c == 95) <;> rfl
theorem goes_start (c : Nat) : goesF c true = smallF c := by
  simp [goesF, smallF]
theorem word_go : ∀ (s : List Nat) (i : Nat), 0 < i → wordG i s = i + goS s
  | [], i, _ => rfl
  | c :: r, i, hi => by
    have hz : (i == 0) = false := by simp; omega
    rw [wordG, goS, hz, goes_on]
    split
    · rw [word_go r (i + 1) (by omega)]; omega
    · rfl
theorem word_eq (s : List Nat) : wordG 0 s = rwordF s := by
  cases s with
  | nil => rfl
  | cons c r =>
    rw [wordG, rwordF, show ((0 : Nat) == 0) = true from rfl, goes_start, word_go r 1 (by omega)]
def rnameF (s : List Nat) : Bool := ((!decide (s.length = 0) && decide (s.length ≤ 100)) && rwordF s == s.length) && !keyWords.contains s
theorem rname_eq (s : List Nat) : rnameF s = isNameF s := by
  unfold rnameF isNameF
  rw [isKey_eq, word_eq]
  cases s with
  | nil => rfl
  | cons a s =>
    have : eqL (a :: s) [] = false := rfl
    rw [this]; simp
theorem goS_all : ∀ s : List Nat, goS s = s.length → ∀ c ∈ s, c < 256
  | [], _ => by intro c hc; cases hc
  | c :: r, h => by
    rw [goS] at h
    split at h
    · rename_i hc
      intro x hx
      rcases List.mem_cons.1 hx with rfl | hx
      · simp only [letterF, digitF, Bool.or_eq_true, Bool.and_eq_true, decide_eq_true_eq, beq_iff_eq] at hc; omega
      · exact goS_all r (by simp only [List.length_cons] at h; omega) x hx
    · simp at h
theorem name_bytes {s : List Nat} (h : isNameF s = true) : ∀ c ∈ s, c < 256 := by
  rw [← rname_eq] at h
  simp only [rnameF, Bool.and_eq_true, beq_iff_eq] at h
  have hw := h.1.2
  cases s with
  | nil => intro c hc; cases hc
  | cons a r =>
    rw [rwordF] at hw
    split at hw
    · rename_i hc
      intro x hx
      rcases List.mem_cons.1 hx with rfl | hx
      · simp only [smallF, Bool.or_eq_true, Bool.and_eq_true, decide_eq_true_eq, beq_iff_eq] at hc; omega
      · exact goS_all r (by simp only [List.length_cons] at hw; omega) x hx
    · simp at hw
theorem rising_bytes : ∀ {l : List (List Nat)} {p : Option (List Nat)}, risG p l = true → BytesL l
  | [], _, _ => by intro s hs; cases hs
  | z :: l, p, h => by
    simp only [risG, Bool.and_eq_true] at h
    intro s hs
    rcases List.mem_cons.1 hs with rfl | hs
    · exact name_bytes h.1.1
    · exact rising_bytes h.2 s hs
end Go.Ab.S
end
section
/-
  Names, as they are told by definition: the walks.
-/
namespace Go.Ab.S
open Go.Ab
set_option maxHeartbeats 4000000
section
variable {fns : FuncId → Option AFunc} {summ : FuncId → List AVal → AHeap → Option (D (AVal × AHeap))}
variable (H : Has fns summ)
include H
end
section
variable {fns : FuncId → Option AFunc} {summ : FuncId → List AVal → AHeap → Option (D (AVal × AHeap))}
variable (H : Has fns summ)
include H
theorem erising_ok (l : List (List Nat)) (hs : ∀ s ∈ l, s.length < 2 ^ 60) (hn : l.length < 2 ^ 60) (v : AVal) (h : AHeap) (hv : StrsAt h v l) : Cl fns summ 34 [v] h fun r h' => r = .bool (risingF l) ∧ h' = h := by
  refine H.go (fn := F_erising) rfl (by decide) rfl rfl ?_
  unfold F_erising
  dsimp only [qQ, qE, qN, gQ, gE, vi]
  have hlen := hv.len
  repeat with_reducible first | refine zAA ?_ | refine zAB ?_ | refine zAC ?_ | refine zAD ?_ | (apply st_q; exact q1)
  refine cd_count (N := l.length) (by omega) (fun j a hp => hp = h ∧ a.defers = [] ∧ ev a (.tmp 0) = some v ∧ ev a (.tmp 5) = some v ∧ risingF l = risG (prevL l j) (l.drop j))
    (by rintro j a hp t w (rfl | rfl | rfl) ⟨h1, h2, h3, h4, h5⟩ <;> exact ⟨h1, by rw [zAY]; exact h2, by exact e1, by exact e1, h5⟩) (by decide) ?_ ?_ ⟨rfl, by exact n1, by exact e1, by exact e1, rfl⟩ (by exact e1) (by exact e1)
  · rintro j a hp hj ⟨rfl, hd, h0, h5, hr⟩ hi hN
    have hc : l[j]? = some l[j] := List.getElem?_eq_getElem hj
    obtain ⟨b, o, ver, ro, e, vs, hix, hget, hvo⟩ := hv.at hc
    repeat with_reducible first | refine zAA ?_ | refine zAB ?_ | refine zAC ?_ | refine zAD ?_ | refine zAG ?_ | (apply st_q; exact q1)
    refine zAT (by exact s1) ((IsName_ok H _ (hs _ (List.getElem_mem hj)) _).mono ?_)
    rintro _ _ ⟨rfl, rfl⟩
    rw [risG_drop hc] at hr
    cases hg : isNameF l[j]
    · rw [hg] at hr
      repeat' with_reducible first | refine zAA ?_ | refine zAN ?_ | refine zAU ?_ | refine zAB ?_ | refine zAC ?_ | refine zAD ?_ | refine zAI ?_ | (apply st_q; exact q1) | (apply st_qF; exact e1) | (apply st_qU; exact e1) | (apply zAF; exact e1) | (apply zAJ; exact n1; exact r1)
      exact ⟨by rw [hr]; rfl, rfl⟩
    · rw [hg] at hr
      cases j with
      | zero =>
        have hz : decide (((0 : Nat) : Int) > 0) = false := rfl
        repeat with_reducible first | refine zAA ?_ | refine zAE ?_ | refine zAB ?_ | refine zAK ?_ | (apply st_q; exact q1) | (apply st_qT; exact e1; exact q1) | (apply st_qF; exact e1) | (apply zAH; exact e1)
        exact ⟨⟨rfl, by exact n1, by exact e1, by exact e1, by rw [hr]; show _ = risG (l[0]?) _; rw [hc]; rfl⟩, by exact e1, by exact e1⟩
      | succ j =>
        have hz : decide (((j + 1 : Nat) : Int) > 0) = true := by simp
        have hc' : l[j]? = some l[j] := List.getElem?_eq_getElem (by omega)
        obtain ⟨b', o', ver', ro', e', vs', hix', hget', hvo'⟩ := hv.at hc'
        have hw : IntKind.i64.wrap (((j + 1 : Nat) : Int) - 1) = (j : Nat) := by rw [wrap_small (by omega) (by omega)]; omega
        rw [prevL, hc'] at hr
        cases hlt : lessL l[j] l[j + 1]
        · simp only [hlt, Bool.and_false, Bool.false_and] at hr
          repeat' with_reducible first | refine zAA ?_ | refine zAN ?_ | refine zAU ?_ | refine zAB ?_ | refine zAC ?_ | refine zAD ?_ | refine zAI ?_ | (apply st_q; exact q1) | (apply st_qT; exact e1; exact q1) | (apply zAF; exact e1) | (apply zAJ; exact n1; exact r1)
          exact ⟨by rw [hr], rfl⟩
        · simp only [hlt, Bool.and_true, Bool.true_and] at hr
          repeat with_reducible first | refine zAA ?_ | refine zAE ?_ | refine zAB ?_ | refine zAK ?_ | (apply st_q; exact q1) | (apply st_qT; exact e1; exact q1) | (apply zAH; exact e1)
          exact ⟨⟨rfl, by exact n1, by exact e1, by exact e1, by rw [hr]; show _ = risG (l[j + 1]?) _; rw [hc]⟩, by exact e1, by exact e1⟩
  · rintro a hp ⟨rfl, hd, h0, h5, hr⟩
    rw [List.drop_length] at hr
    repeat' with_reducible first | refine zAA ?_ | refine zAB ?_ | refine zAC ?_ | refine zAD ?_ | refine zAI ?_ | (apply st_q; exact q1) | (apply zAJ; exact n1; exact r1)
    exact ⟨by rw [hr]; rfl, rfl⟩
end
end Go.Ab.S
end
