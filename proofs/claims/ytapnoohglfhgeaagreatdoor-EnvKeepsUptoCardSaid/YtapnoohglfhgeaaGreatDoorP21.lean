import Derived.Test.YtapnoohglfhgeaaGreatDoorP17
import Derived.Test.YtapnoohglfhgeaaGreatDoorP19
import Derived.Test.YtapnoohglfhgeaaGreatDoorP20
/-
  Part 21 of the proof.
-/
set_option linter.all false
section
/-
  All values' names.
-/
namespace Go.Ab.S
open Go.Ab
set_option maxHeartbeats 4000000
section
variable {fns : FuncId → Option AFunc} {summ : FuncId → List AVal → AHeap → Option (D (AVal × AHeap))}
variable (H : Has fns summ) (HS : HasSort summ)
include H
theorem EValues1_ok (m : Mean) (l : List Mean) (bm : Nat) (h : AHeap) (hE : EnvAt h (.ptr (some (bm, 0))) (m :: l)) : Cl fns summ 45 [.ptr (some (bm, 0))] h fun r h' => r = .bool m.value.isSome ∧ h' = h := by
  obtain ⟨be, ver, ro, e, pv, pc, pa, hq, oe, hv, _, _⟩ := hE
  cases hq
  refine H.go (fn := F_EValues1) rfl (by decide) rfl rfl ?_
  unfold F_EValues1
  dsimp only [qQ, qE, qN, gQ, gE, vi]
  cases hmv : m.value with
  | none =>
    rw [hmv] at hv
    have hpv : pv = .ptr none := hv
    subst hpv
    have hq1 : eqA .ptr (.ptr none) (.ptr none) = some true := rfl
    have hxr : (true ^^ true) = false := rfl
    repeat' with_reducible first | refine zAA ?_ | refine zAB ?_ | refine zAC ?_ | refine zAD ?_ | refine zAI ?_ | (apply st_q; exact q1) | (apply zAJ; exact n1; exact r1)
    exact ⟨rfl, rfl⟩
  | some g =>
    rw [hmv] at hv
    obtain ⟨bg, verg, rog, eg, nvg, rfl, og5, hNg⟩ := hv
    have hq1 : eqA .ptr (.ptr (some (bg, 0))) (.ptr none) = some false := rfl
    have hxr : (true ^^ false) = true := rfl
    repeat' with_reducible first | refine zAA ?_ | refine zAB ?_ | refine zAC ?_ | refine zAD ?_ | refine zAI ?_ | (apply st_q; exact q1) | (apply zAJ; exact n1; exact r1)
    exact ⟨rfl, rfl⟩
include HS
theorem enames_ok (L : List Mean) (p : Mean → Bool) (hL : L.length ≤ 2 ^ 20) (hb : ∀ m ∈ L, p m = true → ∀ c ∈ m.name, c < 256) (fv : AVal) (hfv : one fv = true) (hf : ∀ m l bm h, EnvAt h (.ptr (some (bm, 0))) (m :: l) → Cv fns summ fv [.ptr (some (bm, 0))] h fun r h' => r = .bool (p m) ∧ h' = h)
    (v : AVal) (h : AHeap) (hw : WF h) (hE : EnvAt h v L) : Cl fns summ 44 [v, fv] h fun r h' => ∃ out, StrsAt h' r out ∧ Rises out ∧ (∀ s, s ∈ out ↔ ∃ m ∈ L, p m = true ∧ m.name = s) ∧ out.length ≤ 2 ^ 20 ∧ Grow h h' := by
  have hv1 := hE.one
  have hfc : cellsA fv = [fv] := by cases fv <;> first | rfl | cases hfv
  have hf' := Hid.mk hf
  have hb' := Hid.mk hb
  clear hf hb
  refine H.go (fn := F_enames) rfl (by decide) rfl rfl ?_
  unfold F_enames
  dsimp only [qQ, qE, qN, gQ, gE, vi]
  refine zAC (zAD ?_)
  refine st_box (by exact e1) hfc hw ?_
  rintro b3 h3 hb3 g3 o3
  have l3 := g3.wf.lt o3
  have n3 := g3.next
  repeat with_reducible first | refine zAA ?_ | refine zAB ?_ | refine zAC ?_ | refine zAD ?_ | (apply st_q; exact q1)
  refine st_mkmap (.inl rfl) g3.wf ?_
  rintro rm h4 hrm g4 om
  have l4 := g4.wf.lt om
  have n4 := g4.next
  refine st_alloc g4.wf ?_
  rintro b5 h5 hb5 g5 o5
  replace om := g5.keep _ _ om
  refine zAM (by exact e1) (by exact e1) (cs := [.map (some rm)]) rfl rfl g5.wf o5 (by simp) rfl ?_
  rintro v6 h6 p6 o6
  simp only [List.take_zero, List.nil_append, List.length_cons, List.length_nil, List.drop_succ_cons, List.drop_zero, List.append_nil, Nat.zero_add, Nat.reduceAdd, List.drop_nil, List.cons_append] at o6
  have g36 : Grow h3 h6 := p6.grow h3 g3.wf (g4.trans g5) (by omega)
  have om6 := p6.keep rm (by omega) _ om
  have n5 := g5.next
  have l5 := g5.wf.lt o5
  have n6 := g36.next
  have w3 := g3.wf
  clear om o5 p6 g4 g5
  repeat with_reducible first | refine zAA ?_ | refine zAB ?_ | refine zAC ?_ | refine zAD ?_ | (apply st_q; exact q1)
  refine zAT (by exact s1) ((eall_ok H v hv1 h6 g36.wf).mono ?_)
  rintro _ h7 ⟨b, rfl, hbb, vb, g7⟩
  have lb : b < h7.next := by obtain ⟨_, ov⟩ := vb; exact g7.wf.lt ov
  have l56 : b5 < h6.next := g36.wf.lt o6
  repeat with_reducible first | refine zAA ?_ | refine zAB ?_
  refine cd_gen (fun A => A.defers = [] ∧ ev A (.tmp 3) = some (.ptr (some (b3, 0))) ∧ ev A (.tmp 5) = some (.ptr (some (b5, 0))) ∧ ev A (.tmp 9) = some (.func 61 [] [.ptr (some (b, 0))])) ⟨by exact n1, by exact e1, by exact e1, by exact e1⟩ ?_
  rintro A ⟨hd, t3, t5, t9⟩
  refine cd_block ?_
  generalize hB : ACode.block 1 _ = B
  generalize hA : ACode.ops [⟨some 6, none, .q (.mov (.tmp 10))⟩] = As
  refine rangeF_K t9 g7.wf ?_
  intro l d h8 hdn hld g8 ol od
  have g38 : Grow h3 h8 := (g36.trans g7).trans g8
  have n7 := g7.next
  refine (eall1_ok H L v h3 (hE.mono g3) b (.yield l) (fun k hp => Grow h3 hp ∧ l < hp.next ∧ (∃ ver, hp.objs.get l = some (ver, .loop .ready none A.tmps [10] As B d)) ∧ (∃ ver, hp.objs.get d = some (ver, .dfr false)) ∧ (∃ ver, hp.objs.get b5 = some (ver, .cells false 117 [.map (some rm)])) ∧ ∃ ks, SetAt hp rm ks ∧ ks.Nodup ∧ ks.length ≤ k ∧ ∀ s, s ∈ ks ↔ ∃ m ∈ L.take k, p m = true ∧ m.name = s)
    (fun _ => False) (fun k hp q => q.1) ?_ ?_ h8 ⟨g38, by obtain ⟨_, ol⟩ := ol; exact g8.wf.lt ol, ol, od, ⟨_, g8.keep _ _ (g7.keep _ _ o6)⟩, [], ⟨_, g8.keep _ _ (g7.keep _ _ om6)⟩, List.nodup_nil, Nat.le_refl _, fun s => by simp⟩ (by obtain ⟨vv, ov⟩ := vb; exact ⟨vv, g8.keep _ _ ov⟩)).mono ?_
  · rintro k hp hp' vk ⟨gp, hl, ⟨vl, ol⟩, ⟨vd, od⟩, ⟨v5, o5⟩, ks, ⟨vm, om⟩, hk1, hk2, hk3⟩ ⟨vv, ov⟩ pb
    exact ⟨pb.grow h3 w3 gp (by omega), Nat.lt_of_lt_of_le hl pb.next, ⟨_, pb.keep l (by rintro rfl; rw [ol] at ov; cases ov) _ ol⟩, ⟨_, pb.keep d (by rintro rfl; rw [od] at ov; cases ov) _ od⟩, ⟨_, pb.keep b5 (by omega) _ o5⟩, ks, ⟨_, pb.keep rm (by rintro rfl; rw [om] at ov; cases ov) _ om⟩, hk1, hk2, hk3⟩
  · clear ol od o6 om6 vb
    rintro k hp vk hk ⟨gp, hl, ⟨vl, ol⟩, ⟨vd, od⟩, ⟨v5, o5⟩, ks, ⟨vm, om⟩, hk1, hk2, hk3⟩ ⟨vv, ov⟩ hEk
    obtain ⟨mm, rest, hdrop⟩ : ∃ mm rest, L.drop k = mm :: rest := by
      rw [List.drop_eq_getElem_cons hk]; exact ⟨_, _, rfl⟩
    have htake : L.take (k + 1) = L.take k ++ [mm] := by
      rw [List.take_succ_eq_append_getElem hk]
      have : L[k] = mm := by
        have := hdrop
        rw [List.drop_eq_getElem_cons hk] at this
        exact (List.cons.inj this).1
      rw [this]
    rw [hdrop] at hEk
    have hEk' := hEk
    obtain ⟨be, vere, roe, ee, pv, pc, pa, rfl, oe3, hv, hc, hrest⟩ := hEk
    have oe := gp.keep _ _ oe3
    have T3 : ev { tmps := A.tmps, defers := [] } (.tmp 3) = some (.ptr (some (b3, 0))) := t3
    have T5 : ev { tmps := A.tmps, defers := [] } (.tmp 5) = some (.ptr (some (b5, 0))) := t5
    refine yield_K ol gp.wf rfl (fun a1 => a1.defers = [] ∧ ev a1 (.tmp 6) = some (.ptr (some (be, 0))) ∧ ev a1 (.tmp 3) = some (.ptr (some (b3, 0))) ∧ ev a1 (.tmp 5) = some (.ptr (some (b5, 0)))) ?_ ?_
    · subst hA
      clear hd t3 t5 t9
      repeat with_reducible first | refine zAA ?_ | refine zAB ?_ | refine zAD ?_ | (apply st_q; exact q1)
      exact ⟨rfl, by exact n1, by exact e1, by exact e1, by exact e1⟩
    · rintro a1 hq ⟨hd1, t6, t3', t5'⟩ pL ⟨vlb, olb⟩
      subst hB
      clear hd t3 t5 t9 T3 T5
      have hlb : b ≠ l := by rintro rfl; rw [ol] at ov; cases ov
      have hld' : d ≠ l := by rintro rfl; rw [ol] at od; cases od
      have hel : be ≠ l := by rintro rfl; rw [ol] at oe; cases oe
      have h5l : b5 ≠ l := by rintro rfl; rw [ol] at o5; cases o5
      have hml : rm ≠ l := by rintro rfl; rw [ol] at om; cases om
      have gq : Grow h3 hq := pL.grow h3 w3 gp (by omega)
      have oeq := pL.keep _ hel _ oe
      have odq := pL.keep _ hld' _ od
      have ovq := pL.keep _ hlb _ ov
      have o5q := pL.keep _ h5l _ o5
      have omq := pL.keep _ hml _ om
      have o3q := gq.keep _ _ o3
      have hlq : l < hq.next := Nat.lt_of_lt_of_le hl pL.next
      have w := gq.wf
      have hcall := hf'.out mm rest be hq (hEk'.mono gq)
      have hmem : mm ∈ L := List.mem_of_mem_drop (i := k) (by rw [hdrop]; simp)
      replace hk3 := Hid.mk hk3
      replace htake := Hid.mk htake
      clear ol oe od ov o5 om pL hEk'
      repeat with_reducible first | refine zAC ?_ | refine zAD ?_ | refine zAG ?_ | (apply st_q; exact q1)
      refine st_e (ex_call (by exact e1) (by exact s1) (hcall.mono ?_))
      rintro _ hq' ⟨rfl, hqe⟩
      replace hqe := hqe.symm
      subst hqe
      cases hpm : p mm
      · have hk3' : ∀ s, s ∈ ks ↔ ∃ m ∈ L.take (k + 1), p m = true ∧ m.name = s := fun s => by
          rw [hk3.out, htake.out]
          constructor
          · rintro ⟨m, h1, h2⟩; exact ⟨m, List.mem_append_left _ h1, h2⟩
          · rintro ⟨m, h1, h2, h3⟩
            rcases List.mem_append.1 h1 with h1 | h1
            · exact ⟨m, h1, h2, h3⟩
            · rw [List.mem_singleton.1 h1, hpm] at h2; cases h2
        replace hk3' := Hid.mk hk3'
        repeat with_reducible first | refine zAA ?_ | refine zAE ?_ | refine zAB ?_ | refine zAK ?_ | (apply zAH; exact e1)
        exact ⟨w, ⟨_, olb⟩, fun _ h4 p4 o4 => .inl ⟨rfl, ⟨p4.grow h3 w3 gq (by omega), Nat.lt_of_lt_of_le hlq p4.next, o4, ⟨_, p4.keep d hld' _ odq⟩, ⟨_, p4.keep b5 h5l _ o5q⟩, ks, ⟨_, p4.keep rm hml _ omq⟩, hk1, by omega, hk3'.out⟩, ⟨_, p4.keep b hlb _ ovq⟩⟩, fun hh => absurd rfl hh⟩
      · have hfd := ksE_find mm.name ks 0 0
        cases hcn : ks.contains mm.name
        · rw [hcn] at hfd
          have hfd : findA .str (.str mm.name) (ksE 0 ks) 0 = some none := hfd
          have hnin : mm.name ∉ ks := by simpa using hcn
          have hk3' : ∀ s, s ∈ ks ++ [mm.name] ↔ ∃ m ∈ L.take (k + 1), p m = true ∧ m.name = s := fun s => by
            rw [List.mem_append, hk3.out, htake.out, List.mem_singleton]
            constructor
            · rintro (⟨m, h1, h2⟩ | rfl)
              · exact ⟨m, List.mem_append_left _ h1, h2⟩
              · exact ⟨mm, List.mem_append_right _ (by simp), hpm, rfl⟩
            · rintro ⟨m, h1, h2, h3⟩
              rcases List.mem_append.1 h1 with h1 | h1
              · exact .inl ⟨m, h1, h2, h3⟩
              · rw [List.mem_singleton.1 h1] at h3; exact .inr h3.symm
          have hk1' : (ks ++ [mm.name]).Nodup := by
            rw [List.nodup_append]
            exact ⟨hk1, by simp, fun a ha b hb => by simp only [List.mem_singleton] at hb; subst hb; rintro rfl; exact hnin ha⟩
          replace hk3' := Hid.mk hk3'
          replace hk1' := Hid.mk hk1'
          replace hk1 := Hid.mk hk1
          replace hfd := Hid.mk hfd
          clear hnin
          repeat with_reducible first | refine zAA ?_ | refine zAB ?_ | refine zAV ?_ | (apply dr_q; exact q1) | (apply dr_ql; exact q1; exact og1) | (apply zAF; exact e1)
          refine dr_st (st_put (by exact e1) (by exact e1) (by exact e1) (by intro hh; cases hh) rfl w omq hfd.out ?_)
          rintro ver' h9 p9 o9
          refine zAB ⟨by simp [heldOk, Nat.testBit], ?_⟩
          have hset : SetAt h9 rm (ks ++ [mm.name]) := ⟨_, by rw [ksE_put, List.length_append, List.length_singleton, Nat.zero_add]; exact o9⟩
          have olb9 := p9.keep l (fun e => hml e.symm) _ olb
          have od9 := p9.keep d (by rintro rfl; rw [odq] at omq; cases omq) _ odq
          have o59 := p9.keep b5 (by rintro rfl; rw [o5q] at omq; cases omq) _ o5q
          have ov9 := p9.keep b (by rintro rfl; rw [ovq] at omq; cases omq) _ ovq
          have g9 := p9.grow h3 w3 gq (by omega)
          have n9 := p9.next
          replace hset := Hid.mk hset
          clear omq o9 olb odq o5q ovq oeq o3q
          repeat with_reducible first | refine zAE ?_ | refine dr_nil ?_
          exact ⟨g9.wf, ⟨_, olb9⟩, fun _ h4 p4 o4 => .inl ⟨rfl, ⟨p4.grow h3 w3 g9 (by omega), by have := p4.next; omega, o4, ⟨_, p4.keep d hld' _ od9⟩, ⟨_, p4.keep b5 h5l _ o59⟩, ks ++ [mm.name], by obtain ⟨vz, oz⟩ := hset.out; exact ⟨vz, p4.keep rm hml _ oz⟩, hk1'.out, by rw [List.length_append, List.length_singleton]; omega, hk3'.out⟩, ⟨_, p4.keep b hlb _ ov9⟩⟩, fun hh => absurd rfl hh⟩
        · rw [hcn] at hfd
          have hfd : findA .str (.str mm.name) (ksE 0 ks) 0 = some (some (0 + ks.idxOf mm.name, .bool true)) := hfd
          have hin : mm.name ∈ ks := by simpa using hcn
          have hk3' : ∀ s, s ∈ ks ↔ ∃ m ∈ L.take (k + 1), p m = true ∧ m.name = s := fun s => by
            rw [hk3.out, htake.out]
            constructor
            · rintro ⟨m, h1, h2⟩; exact ⟨m, List.mem_append_left _ h1, h2⟩
            · rintro ⟨m, h1, h2, h3⟩
              rcases List.mem_append.1 h1 with h1 | h1
              · exact ⟨m, h1, h2, h3⟩
              · rw [List.mem_singleton.1 h1] at h3
                rw [← h3]; exact (hk3.out _).1 hin
          replace hk3' := Hid.mk hk3'
          replace hk1 := Hid.mk hk1
          replace hfd := Hid.mk hfd
          clear hin
          repeat with_reducible first | refine zAA ?_ | refine zAB ?_ | refine zAV ?_ | (apply dr_q; exact q1) | (apply dr_ql; exact q1; exact og1) | (apply zAF; exact e1)
          refine dr_st (st_reput (by exact e1) (by exact e1) (by exact e1) (by intro hh; cases hh) rfl w omq hfd.out ?_)
          rintro ver' h9 p9 o9
          rw [ksE_set] at o9
          refine zAB ⟨by simp [heldOk, Nat.testBit], ?_⟩
          have olb9 := p9.keep l (fun e => hml e.symm) _ olb
          have od9 := p9.keep d (by rintro rfl; rw [odq] at omq; cases omq) _ odq
          have o59 := p9.keep b5 (by rintro rfl; rw [o5q] at omq; cases omq) _ o5q
          have ov9 := p9.keep b (by rintro rfl; rw [ovq] at omq; cases omq) _ ovq
          have g9 := p9.grow h3 w3 gq (by omega)
          have n9 := p9.next
          clear omq olb odq o5q ovq oeq o3q
          repeat with_reducible first | refine zAE ?_ | refine dr_nil ?_
          exact ⟨g9.wf, ⟨_, olb9⟩, fun _ h4 p4 o4 => .inl ⟨rfl, ⟨p4.grow h3 w3 g9 (by omega), by have := p4.next; omega, o4, ⟨_, p4.keep d hld' _ od9⟩, ⟨_, p4.keep b5 h5l _ o59⟩, ks, ⟨_, p4.keep rm hml _ o9⟩, hk1.out, by omega, hk3'.out⟩, ⟨_, p4.keep b hlb _ ov9⟩⟩, fun hh => absurd rfl hh⟩
  · clear ol od o6 om6 vb
    rintro _ h9 (⟨gp, hl, ⟨vl, ol⟩, ⟨vd, od⟩, ⟨v5, o5⟩, ks, ⟨vm, om⟩, hk1, hk2, hk3⟩ | hF)
    rotate_left
    · exact hF.elim
    rw [List.take_length] at hk3
    refine ⟨gp.wf, .inl ⟨⟨_, ol⟩, fun h10 p10 => ?_⟩⟩
    have hld' : d ≠ l := by rintro rfl; rw [ol] at od; cases od
    have h5l : b5 ≠ l := by rintro rfl; rw [ol] at o5; cases o5
    have hml : rm ≠ l := by rintro rfl; rw [ol] at om; cases om
    have od10 := p10.keep d hld' _ od
    have o510 := p10.keep b5 h5l _ o5
    have om10 := p10.keep rm hml _ om
    have g10 := p10.grow h hw (g3.trans gp) (by omega)
    have T5 : ev { tmps := A.tmps, defers := [.collected d] } (.tmp 5) = some (.ptr (some (b5, 0))) := t5
    have hdd : (ADef.collected d :: A.defers) = [.collected d] := by rw [hd]
    have hkb : BytesL ks := fun s hs => by
      obtain ⟨m, h1, h2, rfl⟩ := (hk3 s).1 hs
      exact hb'.out m h1 h2
    replace hk3 := Hid.mk hk3
    replace hkb := Hid.mk hkb
    replace hk1 := Hid.mk hk1
    have hkl : ks.length ≤ 2 ^ 20 := by omega
    clear hd t3 t9 ol od o5 om
    repeat with_reducible first | refine zAA ?_ | refine zAE ?_ | refine zAC ?_ | refine zAD ?_ | (apply st_q; exact q1)
    refine zAT (by exact s1) ((MKeys_ok H rm h10 g10.wf).mono ?_)
    rintro _ h11 ⟨bk, verk, rfl, hbk, obk, g11⟩
    have om11 := g11.keep _ _ om10
    have od11 := g11.keep _ _ od10
    skip
    refine zAT (by exact s1) ((Sorted_ok H HS ks hkl hkb.out hk1.out rm bk h11 g11.wf ⟨_, _, _, obk⟩ ⟨_, om11⟩).mono ?_)
    rintro rv h12 ⟨out, hSt, hR, hM, hOl, g12⟩
    have od12 := g12.keep _ _ od11
    have g012 := (g10.trans g11).trans g12
    replace hR := Hid.mk hR
    replace hM := Hid.mk hM
    clear om10 od10 om11 od11 obk o510
    repeat with_reducible first | refine zAA ?_ | refine zAB ?_ | refine zAI ?_ | (apply st_q; exact q1)
    refine fin_coll (by first | exact hdd | (simp only [zAY]; exact hdd)) g012.wf ⟨_, od12⟩ fun h13 p13 => ?_
    refine ⟨_, by exact r1, out, sl_stay (fun c ver ro e vs hc => p13.keep c (by rintro rfl; rw [od12] at hc; cases hc) _ hc) hSt, hR.out, fun s => (hM.out s).trans (hk3.out s), hOl, p13.grow h hw g012 (by omega)⟩
theorem EValues_ok (L : List Mean) (hL : L.length ≤ 2 ^ 20) (hb : ∀ m ∈ L, m.value.isSome = true → ∀ c ∈ m.name, c < 256) (v : AVal) (h : AHeap) (hw : WF h) (hE : EnvAt h v L) :
    Cl fns summ 20 [v] h fun r h' => ∃ out, StrsAt h' r out ∧ Rises out ∧ (∀ s, s ∈ out ↔ ∃ m ∈ L, m.value.isSome = true ∧ m.name = s) ∧ out.length ≤ 2 ^ 20 ∧ Grow h h' := by
  have hq := enames_ok H HS L (fun m => m.value.isSome) hL hb (.func 45 [] []) rfl (fun m l bm h hE => cv_func (EValues1_ok H m l bm h hE)) v h hw hE
  refine H.go (fn := F_EValues) rfl (by decide) rfl rfl ?_
  unfold F_EValues
  dsimp only [qQ, qE, qN, gQ, gE, vi]
  repeat with_reducible first | refine zAA ?_ | refine zAB ?_ | refine zAC ?_ | refine zAD ?_ | (apply st_q; exact q1)
  refine zAT (by exact s1) (hq.mono ?_)
  rintro r h2 hr
  repeat' with_reducible first | refine zAA ?_ | refine zAB ?_ | refine zAI ?_ | (apply st_q; exact q1) | (apply zAJ; exact n1; exact r1)
  exact hr
end
end Go.Ab.S
end
section
/-
  The document's examples; the last meaning of a name counts: the law's walk.
-/
namespace Go.Ab.S
open Go.Ab
set_option maxHeartbeats 4000000
theorem value_start : ∀ {l : List Nat}, 0 ∈ l → valueF (l.map startM ++ [baseM]) nF = some (leastF gF)
  | i :: l, h => by
    match i with
    | 0 => rfl
    | 1 =>
      have h' : 0 ∈ l := by simpa using h
      show (if (some (leastF gS)).isSome && eqL nS nF then some (leastF gS) else valueF (l.map startM ++ [baseM]) nF) = _
      rw [show ((some (leastF gS)).isSome && eqL nS nF) = false from by decide, if_neg (by decide)]
      exact value_start h'
    | j + 2 =>
      have h' : 0 ∈ l := by simpa using h
      show (if (some (leastF gN)).isSome && eqL nN nF then some (leastF gN) else valueF (l.map startM ++ [baseM]) nF) = _
      rw [show ((some (leastF gN)).isSome && eqL nN nF) = false from by decide, if_neg (by decide)]
      exact value_start h'
theorem start_gsm (i : Nat) : ∀ g, (startM i).value = some g → GSm g := by
  intro g h
  match i with
  | 0 => cases h; exact (least_tiny tiny_F ok_F).toGSm
  | 1 => cases h; exact (least_tiny tiny_S ok_S).toGSm
  | j + 2 => cases h; exact (least_tiny tiny_N ok_N).toGSm
theorem newL_facts {L : List Mean} (h : NewL L) : L ≠ [] ∧ L.length ≤ 4 ∧ (∀ m ∈ L, ∀ g, m.value = some g → GSm g) ∧ valueF L nF = some (leastF gF) ∧ (∀ m ∈ L, m.value.isSome = true → ∀ c ∈ m.name, c < 256) ∧ ∀ s, (∃ m ∈ L, m.value.isSome = true ∧ m.name = s) ↔ s ∈ [nF, nN, nS] := by
  obtain ⟨seen, h1, h2, rfl⟩ := h
  have hlen := three_most h1 fun i hi => (h2 i).1 hi
  have hm : ∀ m, m ∈ seen.reverse.map startM ++ [baseM] → (∃ i, i < 3 ∧ m = startM i) ∨ m = baseM := fun m hm => by
    rcases List.mem_append.1 hm with hm | hm
    · obtain ⟨i, hi, rfl⟩ := List.mem_map.1 hm
      exact .inl ⟨i, (h2 i).1 (List.mem_reverse.1 hi), rfl⟩
    · exact .inr (List.mem_singleton.1 hm)
  have hin : ∀ i, i < 3 → startM i ∈ seen.reverse.map startM ++ [baseM] := fun i hi => List.mem_append_left _ (List.mem_map.2 ⟨i, List.mem_reverse.2 ((h2 i).2 hi), rfl⟩)
  refine ⟨by simp, by simp; omega, fun m hmm g hg => ?_, value_start (List.mem_reverse.2 ((h2 0).2 (by decide))), fun m hmm hv => ?_, fun s => ⟨?_, fun hs => ?_⟩⟩
  · rcases hm m hmm with ⟨i, _, rfl⟩ | rfl
    · exact start_gsm i g hg
    · cases hg
  · rcases hm m hmm with ⟨i, hi, rfl⟩ | rfl
    · rcases (by omega : i = 0 ∨ i = 1 ∨ i = 2) with rfl | rfl | rfl <;> decide
    · cases hv
  · rintro ⟨m, hmm, hv, rfl⟩
    rcases hm m hmm with ⟨i, hi, rfl⟩ | rfl
    · rcases (by omega : i = 0 ∨ i = 1 ∨ i = 2) with rfl | rfl | rfl
      · simp [startM]
      · simp [startM]
      · simp [startM]
    · cases hv
  · simp only [List.mem_cons, List.not_mem_nil, or_false] at hs
    rcases hs with rfl | rfl | rfl
    · exact ⟨_, hin 0 (by decide), rfl, rfl⟩
    · exact ⟨_, hin 2 (by decide), rfl, rfl⟩
    · exact ⟨_, hin 1 (by decide), rfl, rfl⟩
theorem names_start {out : List (List Nat)} (hr : Rises out) (hm : ∀ s, s ∈ out ↔ s ∈ [nF, nN, nS]) : out = [nF, nN, nS] := by
  refine rises_ext hr ?_ hm
  exact ris_rises (p := none) (by decide)
section
variable {fns : FuncId → Option AFunc} {summ : FuncId → List AVal → AHeap → Option (D (AVal × AHeap))}
variable (H : Has fns summ)
include H
theorem EValue_some (L : List Mean) (hL : ∀ m ∈ L, ∀ g, m.value = some g → GSm g) (hne : L ≠ []) (v : AVal) (s : List Nat) (g : Graph) (hs : valueF L s = some g) (h : AHeap) (hw : WF h) (hE : EnvAt h v L) :
    Cl fns summ 11 [v, .str s] h fun r h' => (∃ zn, r = .tuple [.agg [zn, .int .i64 (trimF g).root], .int .i64 0] ∧ NodesAt h' zn (trimF g).nodes) ∧ Grow h h' :=
  (EValue_ok H L hL hne v s h hw hE).mono fun r h' ⟨⟨z, hr, hz⟩, gg⟩ => by
    rw [hs] at hr hz
    obtain ⟨zn, rfl, hzn⟩ := hz
    exact ⟨⟨zn, hr, hzn⟩, gg⟩
variable (HS : HasSort summ) (HR : HasRead summ)
include HS HR
theorem alive14_ok (h : AHeap) (hw : WF h) : Cl fns summ 7 [] h fun r h' => r = .bool true ∧ Grow h h' := by
  refine H.go (fn := F_alive14) rfl (by decide) rfl rfl ?_
  unfold F_alive14
  dsimp only [qQ, qE, qN, gQ, gE, vi]
  repeat with_reducible first | refine zAA ?_ | refine zAB ?_ | refine zAC ?_ | refine zAD ?_ | (apply st_q; exact q1)
  refine zAT (by exact s1) ((EnvNew_ok H HR h hw).mono ?_)
  rintro _ h1 ⟨⟨b, L, rfl, hL, hE⟩, g1'⟩
  obtain ⟨f1, f2, f3, f4, f5, f6⟩ := newL_facts hL
  have f2' : L.length ≤ 2 ^ 20 := Nat.le_trans f2 (by decide)
  replace f3 := Hid.mk f3
  replace f5 := Hid.mk f5
  replace f6 := Hid.mk f6
  replace f1 := Hid.mk f1
  replace f4 := Hid.mk f4
  have hsame := Hid.mk (own_same ok_F)
  have hti := Hid.mk (own_tiny tiny_F ok_F)
  clear hL f2
  repeat with_reducible first | refine zAA ?_ | refine zAB ?_ | refine zAC ?_ | refine zAD ?_ | (apply st_q; exact q1)
  refine zAT (by exact s1) ((EValue_some H L f3.out f1.out _ nF _ f4.out h1 g1'.wf hE).mono ?_)
  rintro _ h2 ⟨⟨zn, rfl, hzn⟩, g2⟩
  have hzo := zAO hzn.len
  generalize hT : trimF (leastF gF) = T at *
  clear hT
  have hE2 := hE.mono g2
  have g02 := g1'.trans g2
  clear hE g1' g2
  repeat with_reducible (apply st_q; exact q1)
  refine st_alloc g02.wf ?_
  rintro b2 h3 hb2 g3 o2
  refine zAM (by exact e1) (by exact e1) (cs := [zn, .int .i64 T.root]) rfl rfl g3.wf o2 (by simp) (by rw [List.all_cons, List.all_cons, hzo]; rfl) ?_
  rintro v4 h4 p4 s2
  simp only [List.take_zero, List.nil_append, List.length_cons, List.length_nil, List.drop_succ_cons, List.drop_zero, List.append_nil, Nat.zero_add, Nat.reduceAdd, List.drop_nil, List.cons_append] at s2
  have g24 : Grow h2 h4 := p4.grow h2 g02.wf g3 hb2
  have hE4 := hE2.mono g24
  have hz4 := hzn.mono g24
  have g04 := g02.trans g24
  clear hE2 hzn g02 g24 g3 o2 p4 hb2
  repeat with_reducible first | refine zAA ?_ | refine zAB ?_ | refine zAC ?_ | refine zAD ?_ | (apply st_q; exact q1)
  obtain ⟨rv, h5, hr5, ⟨rn, rfl, hrn⟩, g5⟩ := HR.read tF gF (by simp) h4 g04.wf
  refine zAT (by exact s1) (cl_summ hr5 ?_)
  rw [D.sat_ret]
  have hro := zAO hrn.len
  have s25 := g5.keep _ _ s2
  have hE5 := hE4.mono g5
  have hz5 := hz4.mono g5
  have g05 := g04.trans g5
  clear hr5 s2 hE4 hz4 g04 g5
  repeat with_reducible (apply st_q; exact q1)
  refine st_alloc g05.wf ?_
  rintro b4 h6 hb4 g6 o4
  refine zAM (by exact e1) (by exact e1) (cs := [rn, .int .i64 gF.root]) rfl rfl g6.wf o4 (by simp) (by rw [List.all_cons, List.all_cons, hro]; rfl) ?_
  rintro v7 h7 p7 s4
  simp only [List.take_zero, List.nil_append, List.length_cons, List.length_nil, List.drop_succ_cons, List.drop_zero, List.append_nil, Nat.zero_add, Nat.reduceAdd, List.drop_nil, List.cons_append] at s4
  have g57 : Grow h5 h7 := p7.grow h5 g05.wf g6 hb4
  have s27 := g57.keep _ _ s25
  have hE7 := hE5.mono g57
  have hz7 := hz5.mono g57
  have hr7 := hrn.mono g57
  have g07 := g05.trans g57
  clear s25 hE5 hz5 hrn g05 g57 g6 o4 p7 hb4
  repeat with_reducible first | refine zAA ?_ | refine zAB ?_ | refine zAC ?_ | refine zAD ?_ | (apply st_q; exact q1)
  refine zAT (by exact s1) ((EValue_nil H nF h7 g07.wf).mono ?_)
  rintro _ h8 ⟨rfl, g8⟩
  have s28 := g8.keep _ _ s27
  have s48 := g8.keep _ _ s4
  have hE8 := hE7.mono g8
  have hz8 := hz7.mono g8
  have hr8 := hr7.mono g8
  have g08 := g07.trans g8
  clear s27 s4 hE7 hz7 hr7 g07 g8
  repeat with_reducible (apply st_q; exact q1)
  refine st_alloc g08.wf ?_
  rintro b7 h9 hb7 g9 o7
  refine zAM (by exact e1) (by exact e1) (cs := [.slice none 0, .int .i64 0]) rfl rfl g9.wf o7 (by simp) rfl ?_
  rintro v10 h10 p10 s7
  have g810 : Grow h8 h10 := p10.grow h8 g08.wf g9 hb7
  have s210 := g810.keep _ _ s28
  have s410 := g810.keep _ _ s48
  have hE10 := hE8.mono g810
  have hz10 := hz8.mono g810
  have hr10 := hr8.mono g810
  have g010 := g08.trans g810
  clear s28 s48 hE8 hz8 hr8 g08 g810 g9 o7 p10 hb7 s7
  repeat with_reducible first | refine zAA ?_ | refine zAB ?_ | refine zAC ?_ | refine zAD ?_ | (apply st_q; exact q1)
  refine zAT (by exact s1) ((EValues_ok H HS L f2' f5.out _ h10 g010.wf hE10).mono ?_)
  rintro r1v h11 ⟨out, hS1, hR1, hM1, _, g11⟩
  have ho1 : out = [nF, nN, nS] := names_start hR1 fun s => (hM1 s).trans (f6.out s)
  subst ho1
  have hl1 : lenO r1v = some 3 := hS1.len
  have s211 := g11.keep _ _ s210
  have s411 := g11.keep _ _ s410
  have hE11 := hE10.mono g11
  have hz11 := hz10.mono g11
  have hr11 := hr10.mono g11
  have g011 := g010.trans g11
  have h33 : ((Int.ofNat 3 : Int) == 3) = true := rfl
  clear s210 s410 hE10 hz10 hr10 g010 g11 hS1 hR1 hM1
  repeat with_reducible first | (apply st_q; exact q1) | (apply st_qT; exact e1; exact q1)
  refine st_callT (by exact e1) (by exact s1) ((EValues_ok H HS L f2' f5.out _ h11 g011.wf hE11).mono ?_)
  rintro r2v h12 ⟨out, hS2, hR2, hM2, _, g12⟩
  have ho2 : out = [nF, nN, nS] := names_start hR2 fun s => (hM2 s).trans (f6.out s)
  subst ho2
  obtain ⟨bb, ob, verb, rb, eb, vsb, hix, hget, hvo⟩ := hS2.at (i := 0) (c := nF) rfl
  have s212 := g12.keep _ _ s211
  have s412 := g12.keep _ _ s411
  have hz12 := hz11.mono g12
  have hr12 := hr11.mono g12
  have g012 := g011.trans g12
  have hff : eqL nF [102, 115, 116] = true := rfl
  have h00 : ((0 : Int) == 0) = true := rfl
  have h11' : ((1 : Int) == 1) = true := rfl
  have hpT : partA (some 2) [zn, .int .i64 T.root] 0 = some (.agg [zn, .int .i64 T.root]) := rfl
  have hpG : partA (some 2) [rn, .int .i64 gF.root] 0 = some (.agg [rn, .int .i64 gF.root]) := rfl
  have ht2 : ∀ x y : AVal, List.take 2 [x, y] = [x, y] := fun _ _ => rfl
  have hq0 : Hid (∀ A hh, ev A (.tmp 30) = some r2v → qA A hh (.indexA 1 (.tmp 30) (.val (.int .i64 0))) = some (.ptr (some (bb, ob)), none)) := ⟨fun A hh k => by
    simp only [qA_indexA, k, ev_val, show asNat (.int .i64 0) = some 0 from rfl, hix]⟩
  clear s211 s411 hE11 hz11 hr11 g011 g12 hS2 hR2 hM2
  skip
  refine st_qT (by exact e1) (hq0.out _ _ (by exact e1)) ?_
  repeat with_reducible first | (apply st_q; exact q1) | (apply st_qT; exact e1; exact q1)
  refine st_callT (by exact e1) (by exact s1) ((Same_ok H T gF hti.out tiny_F _ _ h12 g012.wf ⟨zn, rfl, hz12⟩ ⟨rn, rfl, hr12⟩).mono ?_)
  rw [hsame.out]
  rintro _ h13 ⟨rfl, g13⟩
  repeat' with_reducible first | refine zAA ?_ | refine zAB ?_ | refine zAI ?_ | (apply st_q; exact q1) | (apply st_qT; exact e1; exact q1) | (apply zAJ; exact n1; exact r1)
  exact ⟨rfl, g012.trans g13⟩
end
end Go.Ab.S
end
section
/-
  Steps: each a name that means a type, or a class; are they more than are looked at?
-/
namespace Go.Ab.S
open Go.Ab
set_option maxHeartbeats 4000000
structure StepD where
  name : List Nat
  cls : Bool
  g : Graph
  c : CDef
def stepC (s : StepD) (nv mv cv vv : AVal) : List AVal := [.str s.name, .bool s.cls, nv, .int .i64 s.g.root, .int .i64 s.c.params, mv, .int .i64 s.c.g.root, cv, vv]
def StepAt (h : AHeap) (c : List AVal) (s : StepD) : Prop := ∃ nv mv cv vv, c = stepC s nv mv cv vv ∧ NodesAt h nv s.g.nodes ∧ NodesAt h mv s.c.g.nodes ∧ StrsAt h cv s.c.conc ∧ StrsAt h vv s.c.virt
def StepsAt (h : AHeap) (v : AVal) (l : List StepD) : Prop := ∃ cs : List (List AVal), SlAt h 9 v cs ∧ cs.length = l.length ∧ ∀ (i : Nat) n c, l[i]? = some n → cs[i]? = some c → StepAt h c n
theorem StepsAt.len {h : AHeap} {v : AVal} {l : List StepD} (k : StepsAt h v l) : lenO v = some l.length := by
  obtain ⟨cs, h1, h2, _⟩ := k
  rw [← h2]; exact h1.1
theorem StepsAt.mono {h h' : AHeap} (g : Grow h h') {v : AVal} {l : List StepD} (k : StepsAt h v l) : StepsAt h' v l := by
  obtain ⟨cs, h1, h2, h3⟩ := k
  refine ⟨cs, h1.mono g, h2, fun i n c hn hc => ?_⟩
  obtain ⟨nv, mv, cv, vv, q1, q2, q3, q4, q5⟩ := h3 i n c hn hc
  exact ⟨nv, mv, cv, vv, q1, q2.mono g, q3.mono g, q4.mono g, q5.mono g⟩
theorem StepsAt.at {h : AHeap} {v : AVal} {l : List StepD} (k : StepsAt h v l) {i : Nat} {s : StepD} (hi : l[i]? = some s) :
    ∃ b o ver ro e vs nv mv cv vv, slA v 9 i = some (b, o) ∧ h.objs.get b = some (ver, .cells ro e vs) ∧ o + 9 ≤ vs.length ∧ (vs.drop o).take 9 = [.str s.name, .bool s.cls, nv, .int .i64 s.g.root, .int .i64 s.c.params, mv, .int .i64 s.c.g.root, cv, vv] ∧
      NodesAt h nv s.g.nodes ∧ NodesAt h mv s.c.g.nodes ∧ StrsAt h cv s.c.conc ∧ StrsAt h vv s.c.virt := by
  obtain ⟨cs, h1, h2, h3⟩ := k
  have hil := (List.getElem?_eq_some_iff.1 hi).1
  have hc : cs[i]? = some cs[i] := List.getElem?_eq_getElem (by omega)
  obtain ⟨nv, mv, cv, vv, q1, q2, q3, q4, q5⟩ := h3 i s _ hi hc
  obtain ⟨hl, b, o, ver, ro, e, vs, hs, hg, hv⟩ := h1.2 i _ hc
  rw [q1] at hv
  refine ⟨b, o, ver, ro, e, vs, nv, mv, cv, vv, hs, hg, ?_, hv, q2, q3, q4, q5⟩
  have := congrArg List.length hv
  simp only [stepC, List.length_take, List.length_drop, List.length_cons, List.length_nil] at this
  omega
def badSt (s : StepD) : Bool := ((decide ((greatF s.g : Int) > 80) || decide ((greatF s.c.g : Int) > 80)) || decide ((s.name.length : Int) > 1000)) || decide (((s.c.conc.length + s.c.virt.length : Nat) : Int) > 30)
def egreatF (l : List StepD) : Bool := l.any badSt || decide ((l.length : Int) > 40)
structure StepOK (s : StepD) : Prop where
  g : Sane s.g
  k : Sane s.c.g
  name : s.name.length < 2 ^ 60
  conc : ∀ x ∈ s.c.conc, x.length < 2 ^ 60
  virt : ∀ x ∈ s.c.virt, x.length < 2 ^ 60
  sum : s.c.conc.length + s.c.virt.length < 2 ^ 60
theorem take9 (a b c d e f g h i : AVal) : List.take 9 [a, b, c, d, e, f, g, h, i] = [a, b, c, d, e, f, g, h, i] := rfl
theorem take2_2 (a b c d e f g h i : AVal) : List.take 2 (List.drop 2 [a, b, c, d, e, f, g, h, i]) = [c, d] := rfl
theorem take2_5 (a b c d e f g h i : AVal) : List.take 2 (List.drop 5 [a, b, c, d, e, f, g, h, i]) = [f, g] := rfl
theorem take5_4 (a b c d e f g h i : AVal) : List.take 5 (List.drop 4 [a, b, c, d, e, f, g, h, i]) = [e, f, g, h, i] := rfl
section
variable {fns : FuncId → Option AFunc} {summ : FuncId → List AVal → AHeap → Option (D (AVal × AHeap))}
variable (H : Has fns summ)
include H
theorem egreat_ok (l : List StepD) (hn : l.length < 2 ^ 60) (hl : ∀ s ∈ l, StepOK s) (v : AVal) (h : AHeap) (hw : WF h) (hv : StepsAt h v l) : Cl fns summ 19 [v] h fun r h' => r = .bool (egreatF l) ∧ Grow h h' := by
  have hlen := hv.len
  have hl' := Hid.mk hl
  clear hl
  refine H.go (fn := F_egreat) rfl (by decide) rfl rfl ?_
  unfold F_egreat
  dsimp only [qQ, qE, qN, gQ, gE, vi]
  repeat with_reducible first | refine zAA ?_ | refine zAB ?_ | refine zAC ?_ | refine zAD ?_ | (apply st_q; exact q1)
  refine cd_count (N := l.length) (by omega) (fun j a hp => Grow h hp ∧ a.defers = [] ∧ ev a (.tmp 0) = some v ∧ ev a (.tmp 5) = some v ∧ (l.take j).any badSt = false)
    (by rintro j a hp t w (rfl | rfl | rfl) ⟨h1, h2, h3, h4, h5⟩ <;> exact ⟨h1, by rw [zAY]; exact h2, by exact e1, by exact e1, h5⟩) (by decide) ?_ ?_ ⟨Grow.refl hw, by exact n1, by exact e1, by exact e1, rfl⟩ (by exact e1) (by exact e1)
  · rintro j a hp hj ⟨gp, hd, t0, t5, hany⟩ hi hN
    obtain ⟨b, o, ver, ro, e, vs, nv, mv, cv, vv, hix, hget, hvl, hvo, iN, iM, iC, iV⟩ := hv.at (List.getElem?_eq_getElem hj)
    replace hget := gp.keep _ _ hget
    have ht : (l.take (j + 1)).any badSt = badSt l[j] := by
      rw [List.take_succ_eq_append_getElem hj, List.any_append, hany]; simp
    have hmem : l[j] ∈ l := List.getElem_mem hj
    have hok := Hid.mk (hl'.out _ hmem)
    have hgr : badSt l[j] = true → Hid (egreatF l = true) := fun hb => ⟨by
      unfold egreatF
      rw [List.any_eq_true.2 ⟨_, hmem, hb⟩]; rfl⟩
    have hone : [.str l[j].name, .bool l[j].cls, nv, .int .i64 l[j].g.root, .int .i64 l[j].c.params, mv, .int .i64 l[j].c.g.root, cv, vv].all one = true := by
      simp only [List.all_cons, List.all_nil, zAO iN.len, zAO iM.len, zAO iC.len, zAO iV.len]; rfl
    have ht9 := take9
    have ht22 := take2_2
    have ht25 := take2_5
    have ic := iC.len
    have iv := iV.len
    clear hmem hany
    generalize l[j] = s at *
    repeat with_reducible first | refine zAC ?_ | refine zAD ?_ | refine zAG ?_ | (apply st_q; exact q1)
    refine st_alloc gp.wf ?_
    rintro b4 h4 hb4 g4 o4
    refine zAM (by exact e1) (by exact e1) (cs := [.str s.name, .bool s.cls, nv, .int .i64 s.g.root, .int .i64 s.c.params, mv, .int .i64 s.c.g.root, cv, vv]) rfl rfl g4.wf o4 (by simp) hone ?_
    rintro v5 h5 p5 o5
    simp only [List.take_zero, List.nil_append, List.length_cons, List.length_nil, List.drop_succ_cons, List.drop_zero, List.append_nil, Nat.zero_add, Nat.reduceAdd, List.drop_nil, List.cons_append] at o5
    have G := gp.trans (p5.grow hp gp.wf g4 hb4)
    clear o4 g4 p5 hget hvl hvo hix hb4 gp
    repeat with_reducible first | refine zAA ?_ | refine zAB ?_ | refine zAC ?_ | refine zAD ?_ | (apply st_q; exact q1)
    refine zAT (by exact s1) ((Great_ok H s.g hok.out.g.great _ h5 G.wf ⟨nv, rfl, iN.mono G⟩).mono ?_)
    rintro _ h6 ⟨rfl, g6⟩
    replace o5 := g6.keep _ _ o5
    replace G := G.trans g6
    clear g6
    cases c1 : decide ((greatF s.g : Int) > 80)
    rotate_left
    · have hb := hgr (by unfold badSt; rw [c1]; rfl)
      clear hgr ht
      repeat' with_reducible first | refine zAA ?_ | refine zAN ?_ | refine zAU ?_ | refine zAB ?_ | refine zAC ?_ | refine zAD ?_ | refine zAI ?_ | (apply st_q; exact q1) | (apply st_qF; exact e1) | (apply st_eF; exact e1) | (apply zAF; exact e1) | (apply zAJ; exact n1; exact r1)
      exact ⟨by rw [hb.out], G⟩
    repeat with_reducible first | (apply st_q; exact q1) | (apply st_qT; exact e1; exact q1)
    refine st_callT (by exact e1) (by exact s1) ((Great_ok H s.c.g hok.out.k.great _ h6 G.wf ⟨mv, rfl, iM.mono G⟩).mono ?_)
    rintro _ h7 ⟨rfl, g7⟩
    replace o5 := g7.keep _ _ o5
    replace G := G.trans g7
    clear g7
    cases c2 : decide ((greatF s.c.g : Int) > 80)
    rotate_left
    · have hb := hgr (by unfold badSt; rw [c1, c2]; rfl)
      clear hgr ht
      repeat' with_reducible first | refine zAA ?_ | refine zAN ?_ | refine zAU ?_ | refine zAB ?_ | refine zAC ?_ | refine zAD ?_ | refine zAI ?_ | (apply st_q; exact q1) | (apply st_qT; exact e1; exact q1) | (apply st_qF; exact e1) | (apply zAF; exact e1) | (apply zAJ; exact n1; exact r1)
      exact ⟨by rw [hb.out], G⟩
    cases c3 : decide ((s.name.length : Int) > 1000)
    rotate_left
    · have hb := hgr (by unfold badSt; rw [c1, c2, c3]; rfl)
      have c3' : decide (Int.ofNat s.name.length > 1000) = true := c3
      clear hgr ht
      repeat' with_reducible first | refine zAA ?_ | refine zAN ?_ | refine zAU ?_ | refine zAB ?_ | refine zAC ?_ | refine zAD ?_ | refine zAI ?_ | (apply st_q; exact q1) | (apply st_qT; exact e1; exact q1) | (apply st_qF; exact e1) | (apply zAF; exact e1) | (apply zAJ; exact n1; exact r1)
      exact ⟨by rw [hb.out], G⟩
    have c3' : decide (Int.ofNat s.name.length > 1000) = false := c3
    have hwr : IntKind.i64.wrap (Int.ofNat s.c.conc.length + Int.ofNat s.c.virt.length) = ((s.c.conc.length + s.c.virt.length : Nat) : Int) := wrap_add (by have := hok.out.sum; omega)
    cases c4 : decide (((s.c.conc.length + s.c.virt.length : Nat) : Int) > 30)
    rotate_left
    · have hb := hgr (by unfold badSt; rw [c1, c2, c3, c4]; rfl)
      clear hgr ht
      repeat' with_reducible first | refine zAA ?_ | refine zAN ?_ | refine zAU ?_ | refine zAB ?_ | refine zAC ?_ | refine zAD ?_ | refine zAI ?_ | (apply st_q; exact q1) | (apply st_qT; exact e1; exact q1) | (apply zAF; exact e1) | (apply zAJ; exact n1; exact r1)
      exact ⟨by rw [hb.out], G⟩
    · have hb : badSt s = false := by unfold badSt; rw [c1, c2, c3, c4]; rfl
      rw [hb] at ht
      replace ht := Hid.mk ht
      clear hgr hb
      repeat with_reducible first | refine zAA ?_ | refine zAE ?_ | refine zAB ?_ | refine zAK ?_ | (apply st_q; exact q1) | (apply st_qT; exact e1; exact q1) | (apply zAH; exact e1)
      exact ⟨⟨G, by exact n1, by exact e1, by exact e1, ht.out⟩, by exact e1, by exact e1⟩
  · rintro a hp ⟨gp, hd, t0, t5, hany⟩
    rw [List.take_length] at hany
    have hb : Hid (egreatF l = decide ((Int.ofNat l.length : Int) > 40)) := ⟨by unfold egreatF; rw [hany]; rfl⟩
    clear hany
    repeat' with_reducible first | refine zAA ?_ | refine zAB ?_ | refine zAC ?_ | refine zAD ?_ | refine zAI ?_ | (apply st_q; exact q1) | (apply zAJ; exact n1; exact r1)
    exact ⟨by rw [hb.out], gp⟩
end
end Go.Ab.S
end
section
/-
  A name means a class from now on; all classes' names.
-/
namespace Go.Ab.S
open Go.Ab
set_option maxHeartbeats 4000000
def withC (s : List Nat) (c : CDef) : Int := if isNameF s then ckF c else 2
def keptC (c : CDef) : CDef := ⟨c.params, leastF (trimF c.g), c.conc, c.virt⟩
def ownC (c : CDef) : CDef := ⟨c.params, trimF c.g, c.conc, c.virt⟩
section
variable {fns : FuncId → Option AFunc} {summ : FuncId → List AVal → AHeap → Option (D (AVal × AHeap))}
variable (H : Has fns summ)
include H
theorem cown_ok (c : CDef) (hg : GSm c.g) (h1 : c.conc.length ≤ 2 ^ 31) (h2 : c.virt.length ≤ 2 ^ 31) (nv cv vv : AVal) (h : AHeap) (hw : WF h) (hN : NodesAt h nv c.g.nodes) (hcv : StrsAt h cv c.conc) (hvv : StrsAt h vv c.virt) :
    Cl fns summ 47 [.agg [.int .i64 c.params, nv, .int .i64 c.g.root, cv, vv]] h fun r h' => (∃ xn xc xv, r = .agg [.int .i64 c.params, xn, .int .i64 (trimF c.g).root, xc, xv] ∧ OwnG h' h.next (.agg [xn, .int .i64 (trimF c.g).root]) (trimF c.g) ∧ Built h' h.next 9 1 xc c.conc.length (c.conc.map AVal.str) ∧ Built h' h.next 9 1 xv c.virt.length (c.virt.map AVal.str)) ∧ Grow h h' := by
  refine H.go (fn := F_cown) rfl (by decide) rfl rfl ?_
  unfold F_cown
  dsimp only [qQ, qE, qN, gQ, gE, vi]
  refine zAC (zAD ?_)
  refine st_box (by exact e1) (by exact cc) hw ?_
  rintro b1 k1 hb1 g1' o1
  refine st_alloc g1'.wf ?_
  rintro b2 k2 hb2 g2' o2
  have l1 := g1'.wf.lt o1
  have m1 := g1'.next
  replace o1 := g2'.keep _ _ o1
  have G := g1'.trans g2'
  have l2 := g2'.wf.lt o2
  have ht21 := take21
  have ht5 := take5
  clear g1' g2'
  repeat with_reducible first | refine zAA ?_ | refine zAB ?_ | refine zAC ?_ | refine zAV ?_ | (apply dr_q; exact q1) | (apply dr_ql; exact q1; exact og1)
  refine dr_e (ex_callF (by exact s1) ((eown_ok H c.g hg _ k2 G.wf ⟨nv, rfl, hN.mono G⟩).mono ?_))
  rintro _ k3 ⟨hO, g3⟩
  have hO' := Hid.mk hO
  obtain ⟨tn, ds, rfl, kB, kl, kn⟩ := hO
  have htn := zAO kB.len
  replace o1 := g3.keep _ _ o1
  replace o2 := g3.keep _ _ o2
  have m3 := g3.next
  replace G := G.trans g3
  clear kB kl kn g3
  refine ⟨by simp [heldOk, Nat.testBit, o1], ?_⟩
  repeat with_reducible (apply dr_q; exact q1)
  refine dr_e (ex_callF (by exact s1) ((CloneStr_ok H c.conc h1 cv k3 G.wf (hcv.mono G)).mono ?_))
  rintro xc k4 ⟨B1, g4⟩
  have B1' := Hid.mk B1
  have hxc := zAO B1.len
  replace o1 := g4.keep _ _ o1
  replace o2 := g4.keep _ _ o2
  have m4 := g4.next
  replace G := G.trans g4
  have hO4 := Hid.mk (hO'.out.grow g4)
  clear B1 g4 hO'
  refine ⟨by simp [heldOk, Nat.testBit, o1], ?_⟩
  refine dr_e (ex_callF (by exact s1) ((CloneStr_ok H c.virt h2 vv k4 G.wf (hvv.mono G)).mono ?_))
  rintro xv k5 ⟨B2, g5⟩
  have B2' := Hid.mk B2
  have hxv := zAO B2.len
  replace o1 := g5.keep _ _ o1
  replace o2 := g5.keep _ _ o2
  have m5 := g5.next
  replace G := G.trans g5
  have hO5 := Hid.mk (hO4.out.grow g5)
  have B15 := Hid.mk (B1'.out.grow g5)
  clear B2 g5 hO4 B1'
  refine ⟨by simp [heldOk, Nat.testBit, o1], ?_⟩
  -- the parts are written into what was handed
  refine dr_st (zAM (by exact e1) (by exact e1) (cs := [tn, .int .i64 (trimF c.g).root]) rfl rfl G.wf o1 (by simp) (by rw [List.all_cons, List.all_cons, htn]; rfl) ?_)
  rintro v6 k6 p6 o16
  replace o16 : k6.objs.get b1 = some (v6, .cells false 42 [.int .i64 c.params, tn, .int .i64 (trimF c.g).root, cv, vv]) := o16
  have o26 := p6.keep b2 (by omega) _ o2
  have G6 := p6.grow h hw G (by omega)
  refine zAB ⟨by simp [heldOk, Nat.testBit], ?_⟩
  have n6 := p6.next
  clear o1 o2
  repeat with_reducible (apply dr_q; exact q1)
  refine dr_st (zAM (by exact e1) (by exact e1) (cs := [xc]) (cells_of_len B15.out.len) rfl G6.wf o16 (by simp) (by rw [List.all_cons, hxc]; rfl) ?_)
  rintro v7 k7 p7 o17
  replace o17 : k7.objs.get b1 = some (v7, .cells false 42 [.int .i64 c.params, tn, .int .i64 (trimF c.g).root, xc, vv]) := o17
  have o27 := p7.keep b2 (by omega) _ o26
  have G7 := p7.grow h hw G6 (by omega)
  refine zAB ⟨by simp [heldOk, Nat.testBit], ?_⟩
  have n7 := p7.next
  repeat with_reducible (apply dr_q; exact q1)
  refine dr_st (zAM (by exact e1) (by exact e1) (cs := [xv]) (cells_of_len B2'.out.len) rfl G7.wf o17 (by simp) (by rw [List.all_cons, hxv]; rfl) ?_)
  rintro v8 k8 p8 o18
  replace o18 : k8.objs.get b1 = some (v8, .cells false 42 [.int .i64 c.params, tn, .int .i64 (trimF c.g).root, xc, xv]) := o18
  have o28 := p8.keep b2 (by omega) _ o27
  have G8 := p8.grow h hw G7 (by omega)
  refine zAB ⟨by simp [heldOk, Nat.testBit], ?_⟩
  have n8 := p8.next
  clear o16 o26 o17 o27
  repeat with_reducible first | refine zAA ?_ | refine zAC ?_ | refine zAD ?_ | refine dr_nil ?_ | (apply st_q; exact q1)
  refine zAM (by exact e1) (by exact e1) (cs := [.int .i64 c.params, tn, .int .i64 (trimF c.g).root, xc, xv]) rfl rfl G8.wf o28 (by simp) (by simp only [List.all_cons, List.all_nil, htn, hxc, hxv]; rfl) ?_
  rintro v9 k9 p9 o29
  simp only [List.take_zero, List.nil_append, List.length_cons, List.length_nil, List.drop_succ_cons, List.drop_zero, List.append_nil, Nat.zero_add, Nat.reduceAdd, List.drop_nil, List.cons_append] at o29
  have G9 := p9.grow h hw G8 (by omega)
  have kk : ∀ x p, k2.next ≤ x → k5.objs.get x = some p → k9.objs.get x = some p := fun x p hx hp => by
    have a := p6.keep x (by omega) _ hp
    have b := p7.keep x (by omega) _ a
    have d := p8.keep x (by omega) _ b
    exact p9.keep x (by omega) _ d
  have q1' := (hO5.out.stay fun x p hx hp _ => kk x p hx hp).base (base' := h.next) (by omega)
  have q2' := built_base (built_stay' B15.out fun x p hx hp _ => kk x p (by omega) hp) (b' := h.next) (by omega)
  have q3' := built_base (built_stay' B2'.out fun x p hx hp _ => kk x p (by omega) hp) (b' := h.next) (by omega)
  clear o18 o28 p9
  repeat' with_reducible first | refine zAA ?_ | refine zAB ?_ | refine zAI ?_ | (apply zAJ; exact n1; exact r1)
  exact ⟨⟨_, _, _, rfl, q1', q2', q3'⟩, G9⟩
variable (HG : HasGrow summ) (HS : HasSort summ)
include HG HS
theorem WithClass_ok (L : List Mean) (bv : Nat) (s : List Nat) (hs : s.length < 2 ^ 60) (c : CDef) (hc : CSm c) (hg : GTi c.g) (nv cv vv : AVal) (h : AHeap) (hw : WF h) (hE : EnvAt h (.ptr (some (bv, 0))) L) (hN : NodesAt h nv c.g.nodes) (hcv : StrsAt h cv c.conc) (hvv : StrsAt h vv c.virt) :
    Cl fns summ 22 [.ptr (some (bv, 0)), .str s, .agg [.int .i64 c.params, nv, .int .i64 c.g.root, cv, vv]] h fun r h' => (∃ z, r = .tuple [z, .int .i64 (withC s c)] ∧ (withC s c ≠ 0 → z = .ptr none) ∧ (withC s c = 0 → ∃ bz, z = .ptr (some (bz, 0)) ∧ EnvAt h' z (⟨s, none, some (keptC c)⟩ :: L))) ∧ Grow h h' := by
  have sc := Hid.mk hc
  have tg := Hid.mk hg
  clear hc hg
  refine H.go (fn := F_WithClass) rfl (by decide) rfl rfl ?_
  unfold F_WithClass
  dsimp only [qQ, qE, qN, gQ, gE, vi]
  refine zAC (zAD ?_)
  refine st_box (by exact e1) (by exact cc) hw ?_
  rintro b5 h5 hb5 g5 o5
  have l5 := g5.wf.lt o5
  have hvp : eqA .ptr (.ptr (some (bv, 0))) (.ptr none) = some false := rfl
  have hx0 : (false ^^ false) = false := rfl
  have ht5 := take5
  have ht2 := take21
  repeat with_reducible first | refine zAA ?_ | refine zAB ?_ | refine zAC ?_ | refine zAD ?_ | refine zAG ?_ | (apply st_q; exact q1) | (apply zAH; exact e1)
  refine zAT (by exact s1) ((IsName_ok H s hs h5).mono ?_)
  rintro _ h5' ⟨rfl, hq5⟩
  replace hq5 := hq5.symm
  subst hq5
  cases hn : isNameF s
  · have hz : withC s c = 2 := by rw [withC, hn]; rfl
    replace hz := Hid.mk hz
    repeat' with_reducible first | refine zAA ?_ | refine zAN ?_ | refine zAU ?_ | refine zAB ?_ | refine zAC ?_ | refine zAD ?_ | refine zAI ?_ | (apply st_q; exact q1) | (apply zAF; exact e1) | (apply zAJ; exact n1; exact r1)
    refine ⟨⟨_, by rw [hz.out], fun _ => rfl, fun hh => ?_⟩, g5⟩
    rw [hz.out] at hh; cases hh
  · have hz : withC s c = ckF c := by rw [withC, hn]; rfl
    replace hz := Hid.mk hz
    repeat with_reducible first | refine zAA ?_ | refine zAE ?_ | refine zAB ?_ | refine zAC ?_ | refine zAD ?_ | refine zAK ?_ | (apply st_q; exact q1) | (apply zAH; exact e1)
    refine zAT (by exact s1) ((CheckClass_ok H HG HS c sc.out nv cv vv h5 g5.wf (hN.mono g5) (hcv.mono g5) (hvv.mono g5)).mono ?_)
    rintro _ h6 ⟨rfl, g6⟩
    have o56 := g6.keep _ _ o5
    have g06 := g5.trans g6
    cases hck : (ckF c != 0)
    rotate_left
    · have hne : ckF c ≠ 0 := by simpa using hck
      replace hne := Hid.mk hne
      repeat' with_reducible first | refine zAA ?_ | refine zAN ?_ | refine zAB ?_ | refine zAC ?_ | refine zAD ?_ | refine zAI ?_ | (apply st_q; exact q1) | (apply zAF; exact e1) | (apply zAJ; exact n1; exact r1)
      exact ⟨⟨_, by rw [hz.out], fun _ => rfl, fun hh => absurd (hz.out ▸ hh) hne.out⟩, g06⟩
    · have hk0 : ckF c = 0 := by simpa using hck
      have hc0 := (ck_facts hk0).1
      have tt := Hid.mk (trim_tiny tg.out hc0)
      have ct := Hid.mk (trim_quo hc0).check
      replace hk0 := Hid.mk hk0
      clear hc0
      repeat with_reducible first | refine zAA ?_ | refine zAB ?_ | refine zAC ?_ | refine zAD ?_ | refine zAK ?_ | (apply st_q; exact q1) | (apply zAH; exact e1)
      refine zAT (by exact s1) ((cown_ok H c tg.out.toGSm (by have := sc.out.sum; omega) (by have := sc.out.sum; omega) nv cv vv h6 g6.wf (hN.mono g06) (hcv.mono g06) (hvv.mono g06)).mono ?_)
      rintro _ h7 ⟨⟨xn, xc, xv, rfl, hxn, hxc, hxv⟩, g7⟩
      have o1n : one xn = true := by
        obtain ⟨nv', cs, hq, kB, _⟩ := hxn
        cases hq
        exact zAO kB.len
      have o1c := zAO hxc.len
      have o1v := zAO hxv.len
      have o57 := g7.keep _ _ o56
      have g07 := g06.trans g7
      have n6 := g6.next
      clear o5 o56
      skip
      refine zAM (by exact e1) (by exact e1) (cs := [.int .i64 c.params, xn, .int .i64 (trimF c.g).root, xc, xv]) rfl rfl g7.wf o57 (by simp) (by simp only [List.all_cons, List.all_nil, o1n, o1c, o1v]; rfl) ?_
      rintro v8 h8 p8 o8
      simp only [List.take_zero, List.nil_append, List.length_cons, List.length_nil, List.drop_succ_cons, List.drop_zero, List.append_nil, Nat.zero_add, Nat.reduceAdd, List.drop_nil, List.cons_append] at o8
      have g08 := p8.grow h hw g07 hb5
      have hx8 := (hxn.stay fun x p hx hp _ => p8.keep x (by omega) _ hp).graph
      obtain ⟨xn', hq, hN8⟩ := hx8
      cases hq
      have hC8 := built_stay' hxc fun x p hx hp _ => p8.keep x (by omega) _ hp
      have hV8 := built_stay' hxv fun x p hx hp _ => p8.keep x (by omega) _ hp
      have oE8 := hE.mono g08
      clear o57 p8 hxn hxc hxv
      repeat with_reducible first | refine zAA ?_ | refine zAB ?_ | refine zAC ?_ | refine zAD ?_ | (apply st_q; exact q1)
      refine zAT (by exact s1) ((Least_ok H (trimF c.g) tt.out ct.out _ h8 g08.wf ⟨xn, rfl, hN8⟩).mono ?_)
      rintro lv h9 ⟨hO, g9⟩
      have hO' := Hid.mk hO
      obtain ⟨ln, cs, rfl, kB, kl, kn⟩ := hO
      have hln := zAO kB.len
      have o59 := g9.keep _ _ o8
      have n8 := g08.wf.lt o8
      clear kB kl kn o8
      repeat with_reducible (apply st_q; exact q1)
      refine zAM (by exact e1) (by exact e1) (cs := [ln, .int .i64 (leastF (trimF c.g)).root]) rfl rfl g9.wf o59 (by simp) (by rw [List.all_cons, List.all_cons, hln]; rfl) ?_
      rintro v10 h10 p10 o10
      replace o10 : h10.objs.get b5 = some (v10, .cells false 42 [.int .i64 c.params, ln, .int .i64 (leastF (trimF c.g)).root, xc, xv]) := o10
      have g010 := p10.grow h hw (g08.trans g9) hb5
      have hL10 := (hO'.out.stay fun x p hx hp _ => p10.keep x (by omega) _ hp).graph
      obtain ⟨ln', hq, hLN⟩ := hL10
      cases hq
      have hC10 := built_strs' (built_stay' (hC8.grow g9) fun x p hx hp _ => p10.keep x (by omega) _ hp)
      have hV10 := built_strs' (built_stay' (hV8.grow g9) fun x p hx hp _ => p10.keep x (by omega) _ hp)
      have hE10 := hE.mono g010
      clear o59 p10 hO' hC8 hV8 oE8
      repeat with_reducible first | refine zAA ?_ | refine zAB ?_ | refine zAC ?_ | refine zAD ?_ | (apply st_q; exact q1)
      refine st_q (v := .agg [.str s, .ptr none, .ptr (some (b5, 0)), .ptr (some (bv, 0))]) (b := none) (by rw [qA_build]; simp only [fillA, ev_put, ev_start, if_true, if_false, Nat.reduceEqDiff, cellsA, List.length_cons, List.length_nil]; rfl) ?_
      refine st_box (by exact e1) (by exact cc) g010.wf ?_
      rintro bz h11 hbz g11 o11
      have o511 := g11.keep _ _ o10
      have hz0 : withC s c = 0 := by rw [hz.out, hk0.out]
      replace hz0 := Hid.mk hz0
      clear o10
      repeat' with_reducible first | refine zAA ?_ | refine zAB ?_ | refine zAI ?_ | (apply st_q; exact q1) | (apply zAJ; exact n1; exact r1)
      refine ⟨⟨_, by rw [hz0.out], fun hh => absurd hz0.out hh, fun _ => ⟨bz, rfl, bz, _, _, _, _, _, _, rfl, o11, rfl, ⟨b5, _, _, _, ln, xc, xv, rfl, o511, hLN.mono g11, hC10.mono g11, hV10.mono g11⟩, hE10.mono g11⟩⟩, g010.trans g11⟩
end
end Go.Ab.S
end
