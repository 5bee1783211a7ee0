import Derived.Test.YtapnoohglfhgeaaGreatDoorP07
import Derived.Test.YtapnoohglfhgeaaGreatDoorP21
import Derived.Test.YtapnoohglfhgeaaGreatDoorP22
/-
  Part 23 of the proof.
-/
set_option linter.all false
section
/-
  All names rise, and each means something: the law's walk.
-/
namespace Go.Ab.S
open Go.Ab
set_option maxHeartbeats 4000000
structure LOK (L : List Mean) : Prop where
  ne : L ≠ []
  val : ∀ m ∈ L, ∀ g, m.value = some g → GSm g
  cls : ∀ m ∈ L, ∀ c, m.cls = some c → COk c
  nv : ∀ m ∈ L, m.value.isSome = true → ∀ c ∈ m.name, c < 256
  nc : ∀ m ∈ L, m.cls.isSome = true → ∀ c ∈ m.name, c < 256
theorem new_ok {L : List Mean} (h : NewL L) : LOK L ∧ L.length ≤ 4 := by
  obtain ⟨f1, f2, f3, _, f5, _⟩ := newL_facts h
  obtain ⟨seen, _, _, rfl⟩ := h
  have hno : ∀ m ∈ seen.reverse.map startM ++ [baseM], m.cls = none := fun m hm => by
    rcases List.mem_append.1 hm with hm | hm
    · obtain ⟨i, _, rfl⟩ := List.mem_map.1 hm
      match i with
      | 0 => rfl
      | 1 => rfl
      | i + 2 => rfl
    · rw [List.mem_singleton.1 hm]; rfl
  exact ⟨⟨f1, f3, fun m hm c hc => (by rw [hno m hm] at hc; cases hc), f5, fun m hm hc => (by rw [hno m hm] at hc; cases hc)⟩, f2⟩
theorem withF_ok {s : List Nat} {g : Graph} (h : withF s g = 0) : isNameF s = true ∧ zAh g = 0 := by
  unfold withF at h
  split at h
  · rename_i hn; exact ⟨hn, h⟩
  · cases h
theorem withC_ok {s : List Nat} {c : CDef} (h : withC s c = 0) : isNameF s = true ∧ ckF c = 0 := by
  unfold withC at h
  split at h
  · rename_i hn; exact ⟨hn, h⟩
  · cases h
theorem LOK.putV {L : List Mean} (k : LOK L) {s : List Nat} {g : Graph} (hg : GTi g) (h : withF s g = 0) : LOK (⟨s, some (leastF g), none⟩ :: L) := by
  obtain ⟨hn, hc⟩ := withF_ok h
  refine ⟨by simp, fun m hm x hx => ?_, fun m hm x hx => ?_, fun m hm hv => ?_, fun m hm hv => ?_⟩
  · rcases List.mem_cons.1 hm with rfl | hm
    · cases hx; exact (least_tiny hg hc).toGSm
    · exact k.val m hm x hx
  · rcases List.mem_cons.1 hm with rfl | hm
    · cases hx
    · exact k.cls m hm x hx
  · rcases List.mem_cons.1 hm with rfl | hm
    · exact name_bytes hn
    · exact k.nv m hm hv
  · rcases List.mem_cons.1 hm with rfl | hm
    · cases hv
    · exact k.nc m hm hv
theorem LOK.putC {L : List Mean} (k : LOK L) {s : List Nat} {c : CDef} (hg : GTi c.g) (hs : CSm c) (h : withC s c = 0) : LOK (⟨s, none, some (keptC c)⟩ :: L) := by
  obtain ⟨hn, hk⟩ := withC_ok h
  have hc := (ck_facts hk).1
  have hsum := hs.sum
  refine ⟨by simp, fun m hm x hx => ?_, fun m hm x hx => ?_, fun m hm hv => ?_, fun m hm hv => ?_⟩
  · rcases List.mem_cons.1 hm with rfl | hm
    · cases hx
    · exact k.val m hm x hx
  · rcases List.mem_cons.1 hm with rfl | hm
    · cases hx; exact ⟨(least_tiny (trim_tiny hg hc) (trim_quo hc).check).toGSm, by show c.conc.length ≤ _; omega, by show c.virt.length ≤ _; omega⟩
    · exact k.cls m hm x hx
  · rcases List.mem_cons.1 hm with rfl | hm
    · cases hv
    · exact k.nv m hm hv
  · rcases List.mem_cons.1 hm with rfl | hm
    · exact name_bytes hn
    · exact k.nc m hm hv
theorem value_mem : ∀ (L : List Mean) (s : List Nat), (valueF L s).isSome = true ↔ ∃ m ∈ L, m.value.isSome = true ∧ m.name = s
  | [], s => by simp [valueF]
  | m :: l, s => by
    rw [valueF]
    by_cases hc : (m.value.isSome && eqL m.name s) = true
    · rw [if_pos hc]
      simp only [Bool.and_eq_true, eqL_iff] at hc
      exact ⟨fun _ => ⟨m, by simp, hc.1, hc.2⟩, fun _ => hc.1⟩
    · rw [if_neg hc, value_mem l s]
      simp only [Bool.and_eq_true, eqL_iff, not_and] at hc
      constructor
      · rintro ⟨x, hx, h⟩; exact ⟨x, List.mem_cons_of_mem _ hx, h⟩
      · rintro ⟨x, hx, h1, h2⟩
        rcases List.mem_cons.1 hx with rfl | hx
        · exact absurd h2 (hc h1)
        · exact ⟨x, hx, h1, h2⟩
theorem class_mem : ∀ (L : List Mean) (s : List Nat), (classF L s).isSome = true ↔ ∃ m ∈ L, m.cls.isSome = true ∧ m.name = s
  | [], s => by simp [classF]
  | m :: l, s => by
    rw [classF]
    by_cases hc : (m.cls.isSome && eqL m.name s) = true
    · rw [if_pos hc]
      simp only [Bool.and_eq_true, eqL_iff] at hc
      exact ⟨fun _ => ⟨m, by simp, hc.1, hc.2⟩, fun _ => hc.1⟩
    · rw [if_neg hc, class_mem l s]
      simp only [Bool.and_eq_true, eqL_iff, not_and] at hc
      constructor
      · rintro ⟨x, hx, h⟩; exact ⟨x, List.mem_cons_of_mem _ hx, h⟩
      · rintro ⟨x, hx, h1, h2⟩
        rcases List.mem_cons.1 hx with rfl | hx
        · exact absurd h2 (hc h1)
        · exact ⟨x, hx, h1, h2⟩
theorem any_take {l : List (List Nat)} {p : List Nat → Bool} {j : Nat} (hj : j < l.length) : (l.take (j + 1)).any p = ((l.take j).any p || p l[j]) := by
  rw [List.take_succ_eq_append_getElem hj, List.any_append]; simp
theorem any_eqL (l : List (List Nat)) (s : List Nat) : (l.any fun x => eqL x s) = true ↔ s ∈ l := by
  rw [List.any_eq_true]
  constructor
  · rintro ⟨x, hx, h⟩; rw [eqL_iff] at h; exact h ▸ hx
  · intro h; exact ⟨s, h, eqL_iff.2 rfl⟩
theorem great_tiny {l : List StepD} (hg : egreatF l = false) {s : StepD} (hs : s ∈ l) (ok : StepOK s) : GTi s.g ∧ GTi s.c.g ∧ CSm s.c := by
  simp only [egreatF, Bool.or_eq_false_iff, List.any_eq_false] at hg
  have hb := hg.1 s hs
  simp only [badSt, Bool.or_eq_true, decide_eq_true_eq, not_or] at hb
  have e31 : (2 : Nat) ^ 31 = 2147483648 := by decide
  exact ⟨ok.g.tiny (by omega), ok.k.tiny (by omega), ⟨ok.k.sm, ok.conc, ok.virt, by omega⟩⟩
section
variable {fns : FuncId → Option AFunc} {summ : FuncId → List AVal → AHeap → Option (D (AVal × AHeap))}
theorem cd_mid {ro : Option Nat} {c : ACode} {a : AAct} {h : AHeap} {K : AAct → AHeap → Prop} {Q : AExit → AAct → AHeap → Prop} (I : AAct → AHeap → Prop) (k1 : Cd fns summ ro c a h (nxt I Q)) (k2 : ∀ a h, I a h → K a h) : Cd fns summ ro c a h (nxt K Q) :=
  k1.mono fun e a1 h1 hq => by cases e with
    | normal => exact k2 a1 h1 hq
    | ret => exact hq
    | exit i => exact hq
variable (H : Has fns summ)
include H
theorem sTo_ok (v0 v1 v2 v3 v4 : AVal) (hone : [v0, v1, v2, v3, v4].all one = true) (h : AHeap) (hw : WF h) : Cl fns summ 14 [.agg [v0, v1, v2, v3, v4]] h fun r h' => r = .agg [v0, v1, v2, v3, v4] ∧ Grow h h' := by
  refine H.go (fn := F_ccTo) rfl (by decide) rfl rfl ?_
  unfold F_ccTo
  dsimp only [qQ, qE, qN, gQ, gE, vi]
  refine zAC (zAD ?_)
  refine st_box (by exact e1) (by exact cc) hw ?_
  rintro b1 h1 hb1 g1 o1
  refine st_alloc g1.wf ?_
  rintro b2 h2 hb2 g2 o2
  replace o1 := g2.keep _ _ o1
  have ht5 := take5
  have m1 := g1.next
  repeat with_reducible first | refine zAA ?_ | refine zAB ?_ | refine zAC ?_ | refine zAD ?_ | (apply st_q; exact q1)
  refine zAT (by exact e1) (by exact e1) (cs := [v0, v1, v2, v3, v4]) rfl rfl g2.wf o2 (by simp) hone ?_
  rintro v3' h3 p3 o3
  simp only [List.take_zero, List.nil_append, List.length_cons, List.length_nil, List.drop_succ_cons, List.drop_zero, List.append_nil, Nat.zero_add, Nat.reduceAdd, List.drop_nil, List.cons_append] at o3
  have G := p3.grow h hw (g1.trans g2) (by omega)
  clear o1 o2 p3
  repeat' with_reducible first | refine zAA ?_ | refine zAB ?_ | refine zAI ?_ | (apply zAK; exact n1; exact r1)
  exact ⟨rfl, G⟩
theorem EClass_some (L : List Mean) (hL : ∀ m ∈ L, ∀ g, m.cls = some g → COk g) (hne : L ≠ []) (v : AVal) (s : List Nat) (c : CDef) (hs : classF L s = some c) (h : AHeap) (hw : WF h) (hE : EnvAt h v L) :
    Cl fns summ 24 [v, .str s] h fun r h' => (∃ xn xc xv, r = .tuple [.agg [.int .i64 c.params, xn, .int .i64 (trimF c.g).root, xc, xv], .int .i64 0] ∧ NodesAt h' xn (trimF c.g).nodes ∧ StrsAt h' xc c.conc ∧ StrsAt h' xv c.virt) ∧ Grow h h' :=
  (EClass_ok H L hL hne v s h hw hE).mono fun r h' ⟨⟨z, hr, hz⟩, gg⟩ => by
    rw [hs] at hr hz
    obtain ⟨xn, xc, xv, rfl, q1, q2, q3⟩ := hz
    exact ⟨⟨xn, xc, xv, hr, q1, q2, q3⟩, gg⟩
variable (HS : HasSort summ) (HR : HasRead summ) (HG : HasGrow summ)
include HS HR HG
/-- The steps, one behind the other. -/
theorem EnvNames_ok (l : List StepD) (hn : l.length < 2 ^ 60) (hl : ∀ s ∈ l, StepOK s) (name : List Nat) (hnl : name.length < 2 ^ 60) (v : AVal) (h0 : AHeap) (hw : WF h0) (hv : StepsAt h0 v l) :
    Cl fns summ 6 [v, .str name] h0 fun r h' => r = .bool true ∧ Grow h0 h' := by
  have hlen := hv.len
  have hl' := Hid.mk hl
  clear hl
  refine H.go (fn := F_EnvNames) rfl (by decide) rfl rfl ?_
  unfold F_EnvNames
  dsimp only [qQ, qE, qN, gQ, gE, vi]
  repeat with_reducible first | refine zAA ?_ | refine zAB ?_ | refine zAC ?_ | refine zAD ?_ | (apply st_q; exact q1)
  refine zAd (by exact s1) ((alive14_ok H HS HR h0 hw).mono ?_)
  rintro _ h1 ⟨rfl, G⟩
  repeat with_reducible first | refine zAA ?_ | refine zAB ?_ | refine zAC ?_ | refine zAD ?_ | refine zAJ ?_ | (apply st_q; exact q1) | (apply zAH; exact e1)
  refine zAd (by exact s1) ((egreat_ok H l hn hl'.out v h1 G.wf (hv.mono G)).mono ?_)
  rintro _ h2 ⟨rfl, g2⟩
  replace G := G.trans g2
  clear g2
  cases hgr : egreatF l
  rotate_left
  · repeat' with_reducible first | refine zAA ?_ | refine zAL ?_ | refine zAB ?_ | refine zAC ?_ | refine zAD ?_ | refine zAI ?_ | (apply st_q; exact q1) | (apply zAi; exact e1) | (apply zAG; exact e1) | (apply zAK; exact n1; exact r1)
    exact ⟨rfl, G⟩
  cases c1 : decide (Int.ofNat name.length > 1000)
  rotate_left
  · repeat' with_reducible first | refine zAA ?_ | refine zAL ?_ | refine zAB ?_ | refine zAC ?_ | refine zAD ?_ | refine zAI ?_ | (apply st_q; exact q1) | (apply zAe; exact e1; exact q1) | (apply zAG; exact e1) | (apply zAK; exact n1; exact r1)
    exact ⟨rfl, G⟩
  have hgt := Hid.mk (fun s (hs : s ∈ l) => great_tiny hgr hs (hl'.out s hs))
  have hl40 : l.length ≤ 40 := by
    simp only [egreatF, Bool.or_eq_false_iff, decide_eq_false_iff_not] at hgr
    omega
  repeat with_reducible first | refine zAA ?_ | refine zAB ?_ | refine zAC ?_ | refine zAD ?_ | refine zAJ ?_ | (apply st_q; exact q1) | (apply zAe; exact e1; exact q1) | (apply zAH; exact e1)
  refine zAd (by exact s1) ((EnvNew_ok H HR h2 G.wf).mono ?_)
  rintro _ h3 ⟨⟨be, L, rfl, hL, hE⟩, g3⟩
  have hLO := (new_ok hL).1
  have hLn := (new_ok hL).2
  replace G := G.trans g3
  clear hL g3
  repeat with_reducible first | refine zAA ?_ | refine zAB ?_ | refine zAC ?_ | refine zAD ?_ | (apply st_q; exact q1)
  refine cd_count (N := l.length) (by omega) (fun j a hp => ∃ (be : Nat) (L : List Mean), Grow h0 hp ∧ a.defers = [] ∧ ev a (.tmp 1) = some (.str name) ∧ ev a (.tmp 33) = some v ∧ ev a (.tmp 5) = some (.ptr (some (be, 0))) ∧ EnvAt hp (.ptr (some (be, 0))) L ∧ LOK L ∧ L.length ≤ 4 + j)
    (by rintro j a hp t w (rfl | rfl | rfl) ⟨be, L, k1, k2, k3, k4, k5, k6⟩ <;> exact ⟨be, L, k1, by rw [zAg]; exact k2, by exact e1, by exact e1, by exact e1, k6⟩) (by decide) ?_ ?_ ⟨be, L, G, by exact n1, by exact e1, by exact e1, by exact e1, hE, hLO, by omega⟩ (by exact e1) (by exact e1)
  · clear hE hLO hLn G
    rintro j a hp hj ⟨be, L, gp, hd, t1', t33, t5, hE, hLO, hLn⟩ hi hN
    obtain ⟨b, o, ver, ro, e, vs, nv, mv, cv, vv, hix, hget, hvl, hvo, iN, iM, iC, iV⟩ := hv.at (List.getElem?_eq_getElem hj)
    replace hget := gp.keep _ _ hget
    have hmem : l[j] ∈ l := List.getElem_mem hj
    obtain ⟨tg, tk, sk⟩ := hgt.out _ hmem
    have hok := Hid.mk (hl'.out _ hmem)
    have hone : [.str l[j].name, .bool l[j].cls, nv, .int .i64 l[j].g.root, .int .i64 l[j].c.params, mv, .int .i64 l[j].c.g.root, cv, vv].all one = true := by
      simp only [List.all_cons, List.all_nil, zAW iN.len, zAW iM.len, zAW iC.len, zAW iV.len]; rfl
    have hone5 : [.int .i64 l[j].c.params, mv, .int .i64 l[j].c.g.root, cv, vv].all one = true := by
      simp only [List.all_cons, List.all_nil, zAW iM.len, zAW iC.len, zAW iV.len]; rfl
    have ht9 := take9
    have ht22 := take2_2
    have ht54 := take5_4
    clear hmem
    replace tg := Hid.mk tg
    replace tk := Hid.mk tk
    replace sk := Hid.mk sk
    replace hLO := Hid.mk hLO
    generalize l[j] = s at *
    repeat with_reducible first | refine zAC ?_ | refine zAD ?_ | refine zAF ?_ | (apply st_q; exact q1)
    refine st_alloc gp.wf ?_
    rintro b7 h5 hb7 g5 o7
    refine zAT (by exact e1) (by exact e1) (cs := [.str s.name, .bool s.cls, nv, .int .i64 s.g.root, .int .i64 s.c.params, mv, .int .i64 s.c.g.root, cv, vv]) rfl rfl g5.wf o7 (by simp) hone ?_
    rintro v6 h6 p6 o6
    simp only [List.take_zero, List.nil_append, List.length_cons, List.length_nil, List.drop_succ_cons, List.drop_zero, List.append_nil, Nat.zero_add, Nat.reduceAdd, List.drop_nil, List.cons_append] at o6
    have gg := p6.grow hp gp.wf g5 hb7
    have G := gp.trans gg
    have hE6 := hE.mono gg
    clear o7 g5 p6 hget hvl hvo hix hb7 hE
    cases hcl : s.cls
    · repeat with_reducible first | refine zAA ?_ | refine zAB ?_ | refine zAC ?_ | refine zAD ?_ | (apply st_q; exact q1) | (apply zAH; exact e1)
      refine zAd (by exact s1) ((WithValue_ok H L be s.name hok.out.name s.g tg.out _ h6 G.wf hE6 ⟨nv, rfl, iN.mono G⟩).mono ?_)
      rintro _ h7 ⟨⟨z, rfl, hz0, hz1⟩, g7⟩
      have hE7 := hE6.mono g7
      have G7 := G.trans g7
      clear hE6
      cases c2 : (withF s.name s.g != 0)
      · have hw0 : withF s.name s.g = 0 := by simpa using c2
        obtain ⟨bz, rfl, hEz⟩ := hz1 hw0
        have hLZ := Hid.mk (hLO.out.putV tg.out hw0)
        have hq1 : eqA .ptr (.ptr (some (bz, 0))) (.ptr none) = some false := rfl
        have hx1 : (true ^^ false) = true := rfl
        clear hz0 hz1 hw0
        repeat with_reducible first | refine zAA ?_ | refine zAE ?_ | refine zAB ?_ | refine zAC ?_ | refine zAD ?_ | (apply st_q; exact q1) | (apply zAG; exact e1)
        exact ⟨⟨bz, _, G7, by exact n1, by exact e1, by exact e1, by exact e1, hEz, hLZ.out, by simp only [List.length_cons]; omega⟩, by exact e1, by exact e1⟩
      · have hw0 : withF s.name s.g ≠ 0 := by simpa using c2
        obtain rfl := hz0 hw0
        have hq1 : eqA .ptr (.ptr none) (.ptr none) = some true := rfl
        have hx1 : (true ^^ true) = false := rfl
        clear hz0 hz1 hw0
        repeat with_reducible first | refine zAA ?_ | refine zAE ?_ | refine zAB ?_ | refine zAC ?_ | refine zAD ?_ | refine zAJ ?_ | (apply st_q; exact q1) | (apply zAH; exact e1)
        exact ⟨⟨be, L, G7, by exact n1, by exact e1, by exact e1, by exact e1, hE7, hLO.out, by omega⟩, by exact e1, by exact e1⟩
    · repeat with_reducible first | refine zAA ?_ | refine zAB ?_ | refine zAC ?_ | refine zAD ?_ | refine zAS ?_ | (apply dr_q; exact q1) | (apply dr_ql; exact q1; exact og1) | (apply st_q; exact q1) | (apply zAG; exact e1)
      refine dr_e (ex_callF (by exact s1) ((sTo_ok H _ _ _ _ _ hone5 h6 G.wf).mono ?_))
      rintro _ h6' ⟨rfl, g6'⟩
      replace o6 := g6'.keep _ _ o6
      replace G := G.trans g6'
      replace hE6 := hE6.mono g6'
      refine ⟨by simp [heldOk, Nat.testBit, o6], ?_⟩
      refine dr_e (ex_callF (by exact s1) ((WithClass_ok H HG HS L be s.name hok.out.name s.c sk.out tk.out mv cv vv h6' G.wf hE6 (iM.mono G) (iC.mono G) (iV.mono G)).mono ?_))
      rintro _ h7 ⟨⟨z, rfl, hz0, hz1⟩, g7⟩
      replace o6 := g7.keep _ _ o6
      have hE7 := hE6.mono g7
      have G7 := G.trans g7
      clear hE6
      refine ⟨by simp [heldOk, Nat.testBit, o6], ?_⟩
      cases c2 : (withC s.name s.c != 0)
      · have hw0 : withC s.name s.c = 0 := by simpa using c2
        obtain ⟨bz, rfl, hEz⟩ := hz1 hw0
        have hLZ := Hid.mk (hLO.out.putC tk.out sk.out hw0)
        have hq1 : eqA .ptr (.ptr (some (bz, 0))) (.ptr none) = some false := rfl
        have hx1 : (true ^^ false) = true := rfl
        clear hz0 hz1 hw0
        repeat with_reducible first | refine zAA ?_ | refine zAE ?_ | refine zAB ?_ | refine zAC ?_ | refine zAD ?_ | refine zAa ?_ | (apply dr_q; exact q1) | (apply st_q; exact q1) | (apply zAG; exact e1)
        exact ⟨⟨bz, _, G7, by exact n1, by exact e1, by exact e1, by exact e1, hEz, hLZ.out, by simp only [List.length_cons]; omega⟩, by exact e1, by exact e1⟩
      · have hw0 : withC s.name s.c ≠ 0 := by simpa using c2
        obtain rfl := hz0 hw0
        have hq1 : eqA .ptr (.ptr none) (.ptr none) = some true := rfl
        have hx1 : (true ^^ true) = false := rfl
        clear hz0 hz1 hw0
        repeat with_reducible first | refine zAA ?_ | refine zAE ?_ | refine zAB ?_ | refine zAC ?_ | refine zAD ?_ | refine zAJ ?_ | refine zAa ?_ | (apply dr_q; exact q1) | (apply st_q; exact q1) | (apply zAH; exact e1)
        exact ⟨⟨be, L, G7, by exact n1, by exact e1, by exact e1, by exact e1, hE7, hLO.out, by omega⟩, by exact e1, by exact e1⟩
  · clear hE hLO hLn G
    rintro a hp ⟨be, L, gp, hd, t1', t33, t5, hE, hLO, hLn⟩
    replace hLO := Hid.mk hLO
    have e20 : (2 : Nat) ^ 20 = 1048576 := by decide
    repeat with_reducible first | refine zAA ?_ | refine zAB ?_ | refine zAC ?_ | refine zAD ?_ | (apply st_q; exact q1)
    refine zAd (by exact s1) ((EValues_ok H HS L (by omega) hLO.out.nv _ hp gp.wf hE).mono ?_)
    rintro rv h4 ⟨out, hst, hrs, hmem, holn, g4⟩
    replace gp := gp.trans g4
    replace hE := hE.mono g4
    have e20 : (2 : Nat) ^ 20 = 1048576 := by decide
    have hrl := hst.len
    replace hrs := Hid.mk hrs
    replace hmem := Hid.mk hmem
    clear g4
    repeat with_reducible first | refine zAA ?_ | refine zAB ?_ | (apply st_q; exact q1)
    refine cd_count (N := out.length) (by omega) (fun j a hp => Grow h0 hp ∧ a.defers = [] ∧ ev a (.tmp 1) = some (.str name) ∧ ev a (.tmp 5) = some (.ptr (some (be, 0))) ∧ ev a (.tmp 66) = some rv ∧ EnvAt hp (.ptr (some (be, 0))) L ∧ StrsAt hp rv out ∧ ev a (.tmp 9) = some (.bool ((out.take j).any fun x => eqL x name)) ∧ ev a (.tmp 10) = some (.bool false))
      (by rintro j a hp t w (rfl | rfl | rfl) ⟨k1, k2, k3, k4, k5, k6, k7, k8, k9⟩ <;> exact ⟨k1, by rw [zAg]; exact k2, by exact e1, by exact e1, by exact e1, k6, k7, by exact e1, by exact e1⟩) (by decide) ?_ ?_ ⟨gp, by exact n1, by exact e1, by exact e1, by exact e1, hE, hst, by exact e1, by exact e1⟩ (by exact e1) (by exact e1)
    · clear hE hst gp hd t1' t5 t33
      rintro j a hp hj ⟨gp, hd, t1', t5, t66, hE, hst, t9, t10⟩ hi hN
      obtain ⟨b, o, ver, ro, e, vs, hix, hget, hvo⟩ := hst.at (List.getElem?_eq_getElem hj)
      have hsm : (valueF L out[j]).isSome = true := (value_mem L out[j]).2 ((hmem.out _).1 (List.getElem_mem hj))
      obtain ⟨g, hsg⟩ := Option.isSome_iff_exists.1 hsm
      have htk := Hid.mk (any_take (p := fun x => eqL x name) hj)
      have hls : Hid (∀ i, i + 1 = j → ∀ x, out[i]? = some x → lessL x out[j] = true) := ⟨fun i hij x hx => hrs.out i j (by omega) x _ hx (List.getElem?_eq_getElem hj)⟩
      clear hsm
      replace hsg := Hid.mk hsg
      generalize hS : out[j] = s at *
      clear hS
      repeat with_reducible first | refine zAA ?_ | refine zAB ?_ | refine zAC ?_ | refine zAD ?_ | refine zAF ?_ | (apply st_q; exact q1)
      refine zAd (by exact s1) ((EValue_some H L hLO.out.val hLO.out.ne _ s g hsg.out hp gp.wf hE).mono ?_)
      rintro _ h5 ⟨⟨zn, rfl, hzn⟩, g5⟩
      have hE5 := hE.mono g5
      have gp5 := gp.trans g5
      have hst5 := hst.mono g5
      have hzo := zAW hzn.len
      clear hE hget hst
      repeat with_reducible (apply st_q; exact q1)
      refine st_alloc gp5.wf ?_
      rintro b13 h6 hb6 g6 o6
      refine zAT (by exact e1) (by exact e1) (cs := [zn, .int .i64 (trimF g).root]) rfl rfl g6.wf o6 (by simp) (by rw [List.all_cons, List.all_cons, hzo]; rfl) ?_
      rintro v7 h7 p7 o7
      have gg := p7.grow h5 gp5.wf g6 hb6
      have gp7 := gp5.trans gg
      have hE7 := hE5.mono gg
      have hst7 := hst5.mono gg
      clear o6 o7 g6 p7 gp5 hE5 hst5 gg hb6
      have h00 : ((0 : Int) != 0) = false := rfl
      repeat with_reducible first | refine zAA ?_ | refine zAB ?_ | (apply st_q; exact q1)
      refine cd_mid (fun A hq => Grow h0 hq ∧ A.defers = [] ∧ ev A (.tmp 1) = some (.str name) ∧ ev A (.tmp 5) = some (.ptr (some (be, 0))) ∧ ev A (.tmp 66) = some rv ∧ EnvAt hq (.ptr (some (be, 0))) L ∧ StrsAt hq rv out ∧ ev A (.tmp 9) = some (.bool ((out.take j).any fun x => eqL x name)) ∧ ev A (.tmp 10) = some (.bool false) ∧ ev A (.tmp 68) = some (.int .i64 (j : Nat)) ∧ ev A (.tmp 67) = some (.int .i64 (out.length : Nat)) ∧ ev A (.tmp 12) = some (.str s)) ?_ ?_
      · cases j with
        | zero =>
          have hz0 : decide (((0 : Nat) : Int) > 0) = false := rfl
          repeat with_reducible first | refine zAA ?_ | refine zAB ?_ | refine zAC ?_ | refine zAD ?_ | refine zAJ ?_ | (apply st_q; exact q1) | (apply zAe; exact e1; exact q1) | (apply zAi; exact e1) | (apply st_eF; exact e1) | (apply zAH; exact e1)
          exact ⟨gp7, by exact n1, by exact e1, by exact e1, by exact e1, hE7, hst7, by exact e1, by exact e1, by exact e1, by exact e1, by exact e1⟩
        | succ j =>
          have hz0 : decide (((j + 1 : Nat) : Int) > 0) = true := by simp
          repeat with_reducible first | refine zAC ?_ | refine zAD ?_ | (apply st_q; exact q1) | (apply zAe; exact e1; exact q1)
          refine st_callT (by exact e1) (by exact s1) ((EValues_ok H HS L (by omega) hLO.out.nv _ _ gp7.wf hE7).mono ?_)
          rintro ru h8 ⟨out2, hst2, hrs2, hmem2, _, g8⟩
          have ho2 : out2 = out := rises_ext hrs2 hrs.out fun x => (hmem2 x).trans (hmem.out x).symm
          subst ho2
          have hE8 := hE7.mono g8
          have gp8 := gp7.trans g8
          have hst8 := hst7.mono g8
          have hjl : j < out2.length := by omega
          obtain ⟨b', o', ver', ro', e', vs', hix', hget', hvo'⟩ := hst2.at (List.getElem?_eq_getElem hjl)
          have hlt := hls.out j rfl _ (List.getElem?_eq_getElem hjl)
          have hw1 : IntKind.i64.wrap (((j + 1 : Nat) : Int) - 1) = (j : Nat) := by rw [wrap_small (by omega) (by omega)]; omega
          clear hE7 hst7 hst2 hrs2 hmem2 g8
          generalize out2[j] = pv at *
          repeat with_reducible first | refine zAA ?_ | refine zAB ?_ | refine zAJ ?_ | (apply st_q; exact q1) | (apply zAe; exact e1; exact q1) | (apply zAH; exact e1)
          exact ⟨gp8, by exact n1, by exact e1, by exact e1, by exact e1, hE8, hst8, by exact e1, by exact e1, by exact e1, by exact e1, by exact e1⟩
      · clear hE7 hst7 gp7 t1' t5 t66 t9 t10 hi hN hd
        rintro A hq ⟨gp7, hd, t1', t5, t66, hE7, hst7, t9, t10, ti, tn, ts⟩
        cases hB : (out.take j).any fun x => eqL x name
        · rw [hB] at t9
          rw [hB] at htk
          have htk' : Hid (((out.take (j + 1)).any fun x => eqL x name) = eqL s name) := ⟨by rw [htk.out]; rfl⟩
          clear htk
          repeat with_reducible first | refine zAA ?_ | refine zAE ?_ | refine zAB ?_ | refine zAD ?_ | (apply st_q; exact q1) | (apply zAe; exact e1; exact q1)
          exact ⟨⟨gp7, by exact n1, by exact e1, by exact e1, by exact e1, hE7, hst7, by rw [htk'.out]; exact e1, by exact e1⟩, by exact e1, by exact e1⟩
        · rw [hB] at t9
          rw [hB] at htk
          have htk' : Hid (((out.take (j + 1)).any fun x => eqL x name) = true) := ⟨by rw [htk.out]; rfl⟩
          clear htk
          repeat with_reducible first | refine zAA ?_ | refine zAE ?_ | refine zAB ?_ | refine zAD ?_ | (apply st_q; exact q1) | (apply zAi; exact e1)
          exact ⟨⟨gp7, by exact n1, by exact e1, by exact e1, by exact e1, hE7, hst7, by rw [htk'.out]; exact e1, by exact e1⟩, by exact e1, by exact e1⟩
    · clear hE hst gp hd t1' t5 t33
      rintro a hp ⟨gp, hd, t1', t5, t66, hE, hst, t9, t10⟩
      rw [List.take_length] at t9
      have hbv : Hid ((out.any fun x => eqL x name) = (valueF L name).isSome) := ⟨by
        rw [Bool.eq_iff_iff, any_eqL, hmem.out, value_mem]⟩
      rw [hbv.out] at t9
      generalize hbV : (valueF L name).isSome = bv at *
      replace hbV := Hid.mk hbV
      clear hst hbv hrs hmem hrl t66 holn
      repeat with_reducible first | refine zAA ?_ | refine zAC ?_ | refine zAD ?_ | (apply st_q; exact q1)
      refine zAd (by exact s1) ((EClasses_ok H HS L (by omega) hLO.out.nc _ hp gp.wf hE).mono ?_)
      rintro rv h4 ⟨out, hst, hrs, hmem, holn, g4⟩
      replace gp := gp.trans g4
      replace hE := hE.mono g4
      have e20 : (2 : Nat) ^ 20 = 1048576 := by decide
      have hrl := hst.len
      replace hrs := Hid.mk hrs
      replace hmem := Hid.mk hmem
      clear g4
      repeat with_reducible first | refine zAA ?_ | refine zAB ?_ | (apply st_q; exact q1)
      refine cd_count (N := out.length) (by omega) (fun j a hp => Grow h0 hp ∧ a.defers = [] ∧ ev a (.tmp 1) = some (.str name) ∧ ev a (.tmp 5) = some (.ptr (some (be, 0))) ∧ ev a (.tmp 103) = some rv ∧ EnvAt hp (.ptr (some (be, 0))) L ∧ StrsAt hp rv out ∧ ev a (.tmp 10) = some (.bool ((out.take j).any fun x => eqL x name)) ∧ ev a (.tmp 9) = some (.bool bv))
        (by rintro j a hp t w (rfl | rfl | rfl) ⟨k1, k2, k3, k4, k5, k6, k7, k8, k9⟩ <;> exact ⟨k1, by rw [zAg]; exact k2, by exact e1, by exact e1, by exact e1, k6, k7, by exact e1, by exact e1⟩) (by decide) ?_ ?_ ⟨gp, by exact n1, by exact e1, by exact e1, by exact e1, hE, hst, by exact e1, by exact e1⟩ (by exact e1) (by exact e1)
      · clear hE hst gp hd t1' t5 t9
        rintro j a hp hj ⟨gp, hd, t1', t5, t66, hE, hst, t9, t10⟩ hi hN
        obtain ⟨b, o, ver, ro, e, vs, hix, hget, hvo⟩ := hst.at (List.getElem?_eq_getElem hj)
        have hsm : (classF L out[j]).isSome = true := (class_mem L out[j]).2 ((hmem.out _).1 (List.getElem_mem hj))
        obtain ⟨g, hsg⟩ := Option.isSome_iff_exists.1 hsm
        have htk := Hid.mk (any_take (p := fun x => eqL x name) hj)
        have hls : Hid (∀ i, i + 1 = j → ∀ x, out[i]? = some x → lessL x out[j] = true) := ⟨fun i hij x hx => hrs.out i j (by omega) x _ hx (List.getElem?_eq_getElem hj)⟩
        clear hsm
        replace hsg := Hid.mk hsg
        generalize hS : out[j] = s at *
        clear hS
        repeat with_reducible first | refine zAA ?_ | refine zAB ?_ | refine zAC ?_ | refine zAD ?_ | refine zAF ?_ | (apply st_q; exact q1)
        refine zAd (by exact s1) ((EClass_some H L hLO.out.cls hLO.out.ne _ s g hsg.out hp gp.wf hE).mono ?_)
        rintro _ h5 ⟨⟨zn, zc, zv, rfl, hzn, hzc, hzv⟩, g5⟩
        have hE5 := hE.mono g5
        have gp5 := gp.trans g5
        have hst5 := hst.mono g5
        have hzo : [.int .i64 g.params, zn, .int .i64 (trimF g.g).root, zc, zv].all one = true := by
          simp only [List.all_cons, List.all_nil, zAW hzn.len, zAW hzc.len, zAW hzv.len]; rfl
        clear hE hget hst
        repeat with_reducible (apply st_q; exact q1)
        refine st_alloc gp5.wf ?_
        rintro b13 h6 hb6 g6 o6
        refine zAT (by exact e1) (by exact e1) (cs := [.int .i64 g.params, zn, .int .i64 (trimF g.g).root, zc, zv]) rfl rfl g6.wf o6 (by simp) (by exact hzo) ?_
        rintro v7 h7 p7 o7
        have gg := p7.grow h5 gp5.wf g6 hb6
        have gp7 := gp5.trans gg
        have hE7 := hE5.mono gg
        have hst7 := hst5.mono gg
        clear o6 o7 g6 p7 gp5 hE5 hst5 gg hb6
        have h00 : ((0 : Int) != 0) = false := rfl
        repeat with_reducible first | refine zAA ?_ | refine zAB ?_ | (apply st_q; exact q1)
        refine cd_mid (fun A hq => Grow h0 hq ∧ A.defers = [] ∧ ev A (.tmp 1) = some (.str name) ∧ ev A (.tmp 5) = some (.ptr (some (be, 0))) ∧ ev A (.tmp 103) = some rv ∧ EnvAt hq (.ptr (some (be, 0))) L ∧ StrsAt hq rv out ∧ ev A (.tmp 10) = some (.bool ((out.take j).any fun x => eqL x name)) ∧ ev A (.tmp 9) = some (.bool bv) ∧ ev A (.tmp 105) = some (.int .i64 (j : Nat)) ∧ ev A (.tmp 104) = some (.int .i64 (out.length : Nat)) ∧ ev A (.tmp 16) = some (.str s)) ?_ ?_
        · cases j with
          | zero =>
            have hz0 : decide (((0 : Nat) : Int) > 0) = false := rfl
            repeat with_reducible first | refine zAA ?_ | refine zAB ?_ | refine zAC ?_ | refine zAD ?_ | refine zAJ ?_ | (apply st_q; exact q1) | (apply zAe; exact e1; exact q1) | (apply zAi; exact e1) | (apply st_eF; exact e1) | (apply zAH; exact e1)
            exact ⟨gp7, by exact n1, by exact e1, by exact e1, by exact e1, hE7, hst7, by exact e1, by exact e1, by exact e1, by exact e1, by exact e1⟩
          | succ j =>
            have hz0 : decide (((j + 1 : Nat) : Int) > 0) = true := by simp
            repeat with_reducible first | refine zAC ?_ | refine zAD ?_ | (apply st_q; exact q1) | (apply zAe; exact e1; exact q1)
            refine st_callT (by exact e1) (by exact s1) ((EClasses_ok H HS L (by omega) hLO.out.nc _ _ gp7.wf hE7).mono ?_)
            rintro ru h8 ⟨out2, hst2, hrs2, hmem2, _, g8⟩
            have ho2 : out2 = out := rises_ext hrs2 hrs.out fun x => (hmem2 x).trans (hmem.out x).symm
            subst ho2
            have hE8 := hE7.mono g8
            have gp8 := gp7.trans g8
            have hst8 := hst7.mono g8
            have hjl : j < out2.length := by omega
            obtain ⟨b', o', ver', ro', e', vs', hix', hget', hvo'⟩ := hst2.at (List.getElem?_eq_getElem hjl)
            have hlt := hls.out j rfl _ (List.getElem?_eq_getElem hjl)
            have hw1 : IntKind.i64.wrap (((j + 1 : Nat) : Int) - 1) = (j : Nat) := by rw [wrap_small (by omega) (by omega)]; omega
            clear hE7 hst7 hst2 hrs2 hmem2 g8
            generalize out2[j] = pv at *
            repeat with_reducible first | refine zAA ?_ | refine zAB ?_ | refine zAJ ?_ | (apply st_q; exact q1) | (apply zAe; exact e1; exact q1) | (apply zAH; exact e1)
            exact ⟨gp8, by exact n1, by exact e1, by exact e1, by exact e1, hE8, hst8, by exact e1, by exact e1, by exact e1, by exact e1, by exact e1⟩
        · clear hE7 hst7 gp7 t1' t5 t66 t9 t10 hi hN hd
          rintro A hq ⟨gp7, hd, t1', t5, t66, hE7, hst7, t9, t10, ti, tn, ts⟩
          cases hB : (out.take j).any fun x => eqL x name
          · rw [hB] at t9
            rw [hB] at htk
            have htk' : Hid (((out.take (j + 1)).any fun x => eqL x name) = eqL s name) := ⟨by rw [htk.out]; rfl⟩
            clear htk
            repeat with_reducible first | refine zAA ?_ | refine zAE ?_ | refine zAB ?_ | refine zAD ?_ | (apply st_q; exact q1) | (apply zAe; exact e1; exact q1)
            exact ⟨⟨gp7, by exact n1, by exact e1, by exact e1, by exact e1, hE7, hst7, by rw [htk'.out]; exact e1, by exact e1⟩, by exact e1, by exact e1⟩
          · rw [hB] at t9
            rw [hB] at htk
            have htk' : Hid (((out.take (j + 1)).any fun x => eqL x name) = true) := ⟨by rw [htk.out]; rfl⟩
            clear htk
            repeat with_reducible first | refine zAA ?_ | refine zAE ?_ | refine zAB ?_ | refine zAD ?_ | (apply st_q; exact q1) | (apply zAi; exact e1)
            exact ⟨⟨gp7, by exact n1, by exact e1, by exact e1, by exact e1, hE7, hst7, by rw [htk'.out]; exact e1, by exact e1⟩, by exact e1, by exact e1⟩
      · clear hE hst gp hd t1' t5 t9
        rintro a hp ⟨gp, hd, t1', t5, t66, hE, hst, t10, t9⟩
        rw [List.take_length] at t10
        have hbc : Hid ((out.any fun x => eqL x name) = (classF L name).isSome) := ⟨by
          rw [Bool.eq_iff_iff, any_eqL, hmem.out, class_mem]⟩
        rw [hbc.out] at t10
        generalize hbC : (classF L name).isSome = bc at *
        replace hbC := Hid.mk hbC
        clear hst hbc hrs hmem hrl t66 holn
        repeat with_reducible first | refine zAA ?_ | refine zAC ?_ | refine zAD ?_ | (apply st_q; exact q1)
        refine zAd (by exact s1) ((EValue_ok H L hLO.out.val hLO.out.ne _ name hp gp.wf hE).mono ?_)
        rw [hbV.out]
        rintro _ h5 ⟨⟨z, rfl, zn, rfl, hzn⟩, g5⟩
        have hzo := zAW hzn.len
        have hE5 := hE.mono g5
        have gp5 := gp.trans g5
        clear hE
        generalize (resG (valueF L name)).root = rz at *
        repeat with_reducible (apply st_q; exact q1)
        refine st_alloc gp5.wf ?_
        rintro b19 h6 hb6 g6 o6
        refine zAT (by exact e1) (by exact e1) (cs := [zn, .int .i64 rz]) rfl rfl g6.wf o6 (by simp) (by rw [List.all_cons, List.all_cons, hzo]; rfl) ?_
        rintro v7 h7 p7 o7
        have gg := p7.grow h5 gp5.wf g6 hb6
        have gp7 := gp5.trans gg
        have hE7 := hE5.mono gg
        clear o6 o7 g6 p7 gp5 hE5 gg hb6
        repeat with_reducible first | refine zAA ?_ | refine zAB ?_ | refine zAC ?_ | refine zAD ?_ | (apply st_q; exact q1)
        refine zAd (by exact s1) ((EClass_ok H L hLO.out.cls hLO.out.ne _ name h7 gp7.wf hE7).mono ?_)
        rw [hbC.out]
        rintro _ h8 ⟨⟨z, rfl, xn, xc, xv, rfl, hxn, hxc, hxv⟩, g8⟩
        have hxo : [.int .i64 (resC (classF L name)).params, xn, .int .i64 (resC (classF L name)).g.root, xc, xv].all one = true := by
          simp only [List.all_cons, List.all_nil, zAW hxn.len, zAW hxc.len, zAW hxv.len]; rfl
        have gp8 := gp7.trans g8
        generalize (resC (classF L name)).params = x1 at *
        generalize (resC (classF L name)).g.root = x2 at *
        clear hE7 hxn hxc hxv
        repeat with_reducible (apply st_q; exact q1)
        refine st_alloc gp8.wf ?_
        rintro b21 h9 hb9 g9 o9
        refine zAT (by exact e1) (by exact e1) (cs := [.int .i64 x1, xn, .int .i64 x2, xc, xv]) rfl rfl g9.wf o9 (by simp) hxo ?_
        rintro v10 h10 p10 o10
        have gp10 := gp8.trans (p10.grow h8 gp8.wf g9 hb9)
        have k0 : ((0 : Int) == 0) = true := rfl
        have k1 : ((10 : Int) == 0) = false := rfl
        have k2 : ((10 : Int) == 10) = true := rfl
        have kt : eqA .bool (.bool true) (.bool true) = some true := rfl
        have kf : eqA .bool (.bool false) (.bool false) = some true := rfl
        have kx : (false ^^ true) = true := rfl
        clear o9 o10 g9 p10 hb9
        cases bv
        · cases bc
          · repeat' with_reducible first | refine zAA ?_ | refine zAB ?_ | refine zAC ?_ | refine zAD ?_ | refine zAI ?_ | (apply st_q; exact q1) | (apply st_pA; exact e1; exact e2) | (apply st_qS; exact e1; exact g1; exact q2) | (apply zAK; exact n1; exact r1)
            exact ⟨rfl, gp10⟩
          · repeat' with_reducible first | refine zAA ?_ | refine zAB ?_ | refine zAC ?_ | refine zAD ?_ | refine zAI ?_ | (apply st_q; exact q1) | (apply st_pA; exact e1; exact e2) | (apply st_qS; exact e1; exact g1; exact q2) | (apply zAK; exact n1; exact r1)
            exact ⟨rfl, gp10⟩
        · cases bc
          · repeat' with_reducible first | refine zAA ?_ | refine zAB ?_ | refine zAC ?_ | refine zAD ?_ | refine zAI ?_ | (apply st_q; exact q1) | (apply st_pA; exact e1; exact e2) | (apply zAe; exact e1; exact q1) | (apply st_qS; exact e1; exact g1; exact q2) | (apply zAK; exact n1; exact r1)
            exact ⟨rfl, gp10⟩
          · repeat' with_reducible first | refine zAA ?_ | refine zAB ?_ | refine zAC ?_ | refine zAD ?_ | refine zAI ?_ | (apply st_q; exact q1) | (apply zAe; exact e1; exact q1) | (apply zAi; exact e1) | (apply zAK; exact n1; exact r1)
            exact ⟨rfl, gp10⟩
end
end Go.Ab.S
end
section
/-
  What a run on memory of its own makes, laid beside memory that is told of: a call with known arguments is run once, and taken at that word anywhere.
-/
namespace Go.Ab
open Go.RowKit (Below)

/-! ### Numbers of blocks, renamed -/
mutual
def mapV (f : Nat → Nat) : AVal → AVal
  | .ptr (some p) => .ptr (some (f p.1, p.2))
  | .slice (some p) n => .slice (some (f p.1, p.2)) n
  | .agg l => .agg (mapVs f l)
  | .tuple l => .tuple (mapVs f l)
  | .iface t v => .iface t (mapV f v)
  | v => v
def mapVs (f : Nat → Nat) : List AVal → List AVal
  | [] => []
  | x :: r => mapV f x :: mapVs f r
end
mutual
def plainV (k : Nat) : AVal → Bool
  | .ptr (some p) => Nat.blt p.1 k
  | .slice (some p) _ => Nat.blt p.1 k
  | .agg l => plainVs k l
  | .tuple l => plainVs k l
  | .iface _ v => plainV k v
  | .map (some _) => false
  | .func _ _ _ => false
  | .yield _ => false
  | _ => true
def plainVs (k : Nat) : List AVal → Bool
  | [] => true
  | x :: r => plainV k x && plainVs k r
end
theorem mapVs_length (f : Nat → Nat) : ∀ l : List AVal, (mapVs f l).length = l.length
  | [] => rfl
  | _ :: r => congrArg (· + 1) (mapVs_length f r)

section
variable {P : Program} {G G' : GM} {f g : Nat → Nat} {k : Nat}
mutual
theorem VR.ren (hG : ∀ i, i < k → ∀ gi, G (f i) = some gi → G' (g i) = some gi) : ∀ {x : AVal} {v : Value}, plainV k x = true → VR P G (mapV f x) v → VR P G' (mapV g x) v
  | .bool _, _, _, e => e
  | .int _ _, _, _, e => e
  | .str _, _, _, e => e
  | .ptr none, _, _, e => e
  | .ptr (some p), _, h, ⟨gi, e, r⟩ => ⟨gi, hG _ (Nat.blt_eq.mp h) _ e, r⟩
  | .slice none _, _, _, e => e
  | .slice (some p) _, _, h, ⟨gi, c, e, r⟩ => ⟨gi, c, hG _ (Nat.blt_eq.mp h) _ e, r⟩
  | .slice0, _, _, e => e
  | .sliceE, _, _, e => e
  | .map none, _, _, e => e
  | .map (some _), _, h, _ => by cases h
  | .func _ _ _, _, h, _ => by cases h
  | .yield _, _, h, _ => by cases h
  | .nilFunc, _, _, e => e
  | .iface _ _, _, h, ⟨y, e, r⟩ => ⟨y, e, VR.ren hG h r⟩
  | .nilIface, _, _, e => e
  | .agg _, _, h, ⟨L, e, r⟩ => ⟨L, e, VsR.ren hG h r⟩
  | .tuple _, _, h, ⟨L, e, r⟩ => ⟨L, e, VsR.ren hG h r⟩
theorem VsR.ren (hG : ∀ i, i < k → ∀ gi, G (f i) = some gi → G' (g i) = some gi) : ∀ {xs : List AVal} {vs : List Value}, plainVs k xs = true → VsR P G (mapVs f xs) vs → VsR P G' (mapVs g xs) vs
  | [], _, _, e => e
  | _ :: _, _, h, ⟨y, ys, e, a, b⟩ => by
    simp only [plainVs, Bool.and_eq_true] at h
    exact ⟨y, ys, e, VR.ren hG h.1 a, VsR.ren hG h.2 b⟩
end
end

/-! ### Blocks laid beside others -/
def layH (n : Nat) : List (TypeId × List AVal) → AHeap → AHeap
  | [], h => h
  | (e, vs) :: r, h => layH n r (newA h (.cells false e (mapVs (n + ·) vs)))
theorem layH_next (n : Nat) : ∀ (os : List (TypeId × List AVal)) (h : AHeap), (layH n os h).next = h.next + os.length
  | [], h => rfl
  | (e, vs) :: r, h => by rw [layH, layH_next n r]; simp only [newA, List.length_cons]; omega
theorem layH_old (n : Nat) : ∀ (os : List (TypeId × List AVal)) (h : AHeap) (b : Nat), b < h.next ∨ h.next + os.length ≤ b → (layH n os h).objs.get b = h.objs.get b
  | [], h, _, _ => rfl
  | (e, vs) :: r, h, b, hb => by
    simp only [List.length_cons] at hb
    rw [layH, layH_old n r _ b (by simp only [newA]; omega)]
    simp only [newA, T.get_set]
    rw [if_neg (by omega)]
theorem layH_new (n : Nat) : ∀ (os : List (TypeId × List AVal)) (h : AHeap) (i : Nat) (e : TypeId) (vs : List AVal), os[i]? = some (e, vs) → (layH n os h).objs.get (h.next + i) = some (h.next + i, .cells false e (mapVs (n + ·) vs))
  | [], h, _, _, _, hi => by simp at hi
  | (e, vs) :: r, h, 0, e', vs', hi => by
    simp only [List.getElem?_cons_zero, Option.some.injEq, Prod.mk.injEq] at hi
    obtain ⟨rfl, rfl⟩ := hi
    rw [layH, layH_old n r _ _ (by simp only [newA]; omega)]
    simp only [newA, T.get_set, Nat.add_zero, if_true]
  | (e, vs) :: r, h, i + 1, e', vs', hi => by
    simp only [List.getElem?_cons_succ] at hi
    have := layH_new n r (newA h (.cells false e (mapVs (n + ·) vs))) i e' vs' hi
    rw [layH, show h.next + (i + 1) = (newA h (.cells false e (mapVs (n + ·) vs))).next + i by simp only [newA]; omega]
    exact this

section
variable {P : Program} {N : Nat} {w0 w w' : World} {G GA GA' : GM} {h hA hA' : AHeap}

/-- **Beside what was told of: what a run on memory of its own has made.** -/
theorem Rel.beside (R1 : Rel P N w0 G h w) (R2 : Rel P N w0 GA' hA' w') (E2 : Ext GA hA w GA' hA' w') (hro : ∀ id x, hA.objs.get id = some x → x.2.ro = true)
    {os : List (TypeId × List AVal)} {keep : List Nat} (hk : keep.length = os.length) (hnd : keep.Nodup) (hpl : ∀ o ∈ os, plainVs os.length o.2 = true)
    (hos : ∀ (i : Nat) e vs, os[i]? = some (e, vs) → ∃ ver, hA'.objs.get (keep.getD i 0) = some (ver, .cells false e (mapVs (fun j => keep.getD j 0) vs))) {v0 : AVal} {cv : Value} (hv0 : plainV os.length v0 = true) (hv : VR P GA' (mapV (fun j => keep.getD j 0) v0) cv) :
    ∃ G'', Rel P N w0 G'' (layH h.next os h) w' ∧ Ext G h w G'' (layH h.next os h) w' ∧ VR P G'' (mapV (h.next + ·) v0) cv := by
  have hfr : ∀ b, b < w.heap.size → w'.heap[b]? = w.heap[b]? := fun b hb => E2.frame b hb fun id x gi hx hf _ => by rw [hro id x hx] at hf; cases hf
  have hnew : ∀ (i : Nat) e vs, os[i]? = some (e, vs) → ∃ ver gi ob, hA'.objs.get (keep.getD i 0) = some (ver, .cells false e (mapVs (fun j => keep.getD j 0) vs)) ∧ GA' (keep.getD i 0) = some gi ∧ w'.heap[gi.blk]? = some ob ∧ OR P GA' gi (.cells false e (mapVs (fun j => keep.getD j 0) vs)) ob ∧ w.heap.size ≤ gi.blk := by
    intro i e vs hi
    obtain ⟨ver, h1⟩ := hos i e vs hi
    obtain ⟨gi, h2, ob, h3, h4⟩ := R2.obj _ _ _ h1
    refine ⟨ver, gi, ob, h1, h2, h3, h4, ?_⟩
    rcases E2.owned _ _ gi h1 rfl h2 with h5 | ⟨id0, x0, _, h5, h6, _⟩
    · exact h5
    · rw [hro id0 x0 h5] at h6; cases h6
  let G'' : GM := fun i => if h.next ≤ i ∧ i < h.next + os.length then GA' (keep.getD (i - h.next) 0) else G i
  have hG1 : ∀ i, i < os.length → G'' (h.next + i) = GA' (keep.getD i 0) := fun i hi => by
    show (if _ then _ else _) = _
    rw [if_pos (by omega), show h.next + i - h.next = i by omega]
  have hG2 : ∀ i, i < h.next → G'' i = G i := fun i hi => by
    show (if _ then _ else _) = _
    rw [if_neg (by omega)]
  have hle : GLe G G'' := fun i gi hi => by
    rcases Nat.lt_or_ge i h.next with hl | hl
    · rw [hG2 i hl]; exact hi
    · rw [R1.fresh i hl] at hi; cases hi
  have hren : ∀ i, i < os.length → ∀ gi, GA' (keep.getD i 0) = some gi → G'' (h.next + i) = some gi := fun i hi gi hg => by rw [hG1 i hi]; exact hg
  have hcase : ∀ id x, (layH h.next os h).objs.get id = some x → (id < h.next ∧ h.objs.get id = some x) ∨ ∃ i e vs, id = h.next + i ∧ i < os.length ∧ os[i]? = some (e, vs) ∧ x = (h.next + i, .cells false e (mapVs (h.next + ·) vs)) := by
    intro id x hx
    by_cases hr : h.next ≤ id ∧ id < h.next + os.length
    · obtain ⟨i, rfl⟩ : ∃ i, id = h.next + i := ⟨id - h.next, by omega⟩
      have hi : i < os.length := by omega
      have := layH_new h.next os h i os[i].1 os[i].2 (List.getElem?_eq_getElem hi)
      rw [this] at hx
      simp only [Option.some.injEq] at hx
      exact .inr ⟨i, os[i].1, os[i].2, rfl, hi, List.getElem?_eq_getElem hi, hx.symm⟩
    · rw [layH_old _ _ _ _ (by omega)] at hx
      rcases Nat.lt_or_ge id h.next with hl | hl
      · exact .inl ⟨hl, hx⟩
      · obtain ⟨gi, hgi, _⟩ := R1.obj id x.1 x.2 hx
        rw [R1.fresh id hl] at hgi; cases hgi
  have hblk : ∀ id x gi, h.objs.get id = some x → G id = some gi → gi.blk < w.heap.size := fun id x gi hx hg => by
    obtain ⟨gi', h1, ob, h2, _⟩ := R1.obj id x.1 x.2 hx
    rw [hg] at h1; cases h1
    exact lt_of_heap h2
  have hown : ∀ (id : Nat) (x : Nat × AObj) gi, (layH h.next os h).objs.get id = some x → x.2.ro = false → G'' id = some gi → w.heap.size ≤ gi.blk ∨ ∃ id0 x0 gi0, h.objs.get id0 = some x0 ∧ x0.2.ro = false ∧ G id0 = some gi0 ∧ gi0.blk = gi.blk := by
    intro id x gi hx hf hg
    rcases hcase id x hx with ⟨hl, h1⟩ | ⟨i, e, vs, rfl, hi, h1, rfl⟩
    · rw [hG2 id hl] at hg
      exact .inr ⟨id, x, gi, h1, hf, hg, rfl⟩
    · obtain ⟨ver, gi', ob, k1, k2, k3, k4, k5⟩ := hnew i e vs h1
      rw [hG1 i hi, k2] at hg; cases hg
      exact .inl k5
  refine ⟨G'', ⟨?_, ?_, ?_, ?_, ?_, ?_, ?_, R2.below, R2.size, ?_⟩, ⟨hle, ?_, ?_, ?_, hown, E2.size⟩, VR.ren hren hv0 hv⟩
  · intro id ver o hx
    rcases hcase id _ hx with ⟨hl, h1⟩ | ⟨i, e, vs, rfl, hi, h1, h2⟩
    · obtain ⟨gi, k1, ob, k2, k3⟩ := R1.obj id ver o h1
      exact ⟨gi, hle _ _ k1, ob, by rw [hfr _ (lt_of_heap k2)]; exact k2, k3.mono hle⟩
    · simp only [Prod.mk.injEq] at h2
      obtain ⟨rfl, rfl⟩ := h2
      obtain ⟨ver, gi', ob, k1, k2, k3, k4, k5⟩ := hnew i e vs h1
      refine ⟨gi', hren i hi _ k2, ob, k3, ?_⟩
      obtain ⟨c, t, fr, q1, q2, q3, q4, q5, q6⟩ := k4
      rw [mapVs_length] at q5 q6
      refine ⟨c, t, fr, q1, q2, q3, q4, by rw [mapVs_length]; exact q5, ?_⟩
      rw [mapVs_length]
      exact VsR.ren hren (hpl (e, vs) (List.mem_of_getElem? h1)) q6
  · intro id id' x x' gi gi' hx hx' hf hg hg' hb
    rcases hcase id _ hx with ⟨hl, h1⟩ | ⟨i, e, vs, rfl, hi, h1, rfl⟩
    · rw [hG2 id hl] at hg
      have hlt := hblk id x gi h1 hg
      rcases hcase id' _ hx' with ⟨hl', h1'⟩ | ⟨i', e', vs', rfl, hi', h1', rfl⟩
      · rw [hG2 id' hl'] at hg'
        exact R1.inj id id' x x' gi gi' h1 h1' hf hg hg' hb
      · obtain ⟨ver, gi2, ob, k1, k2, k3, k4, k5⟩ := hnew i' e' vs' h1'
        rw [hG1 i' hi', k2] at hg'; cases hg'
        omega
    · obtain ⟨ver, gi1, ob, k1, k2, k3, k4, k5⟩ := hnew i e vs h1
      rw [hG1 i hi, k2] at hg; cases hg
      rcases hcase id' _ hx' with ⟨hl', h1'⟩ | ⟨i', e', vs', rfl, hi', h1', rfl⟩
      · rw [hG2 id' hl'] at hg'
        have hlt := hblk id' x' gi' h1' hg'
        omega
      · obtain ⟨ver', gi2, ob', k1', k2', k3', k4', k5'⟩ := hnew i' e' vs' h1'
        rw [hG1 i' hi', k2'] at hg'; cases hg'
        have he := R2.inj _ _ _ _ gi gi' k1 k1' rfl k2 k2' hb
        have e1 : keep.getD i 0 = keep[i]'(by omega) := by simp [List.getD, List.getElem?_eq_getElem (show i < keep.length by omega)]
        have e2 : keep.getD i' 0 = keep[i']'(by omega) := by simp [List.getD, List.getElem?_eq_getElem (show i' < keep.length by omega)]
        rw [e1, e2] at he
        have := (List.getElem_inj hnd).1 he
        rw [this]
  · intro id ver o gi hx hg hf
    rcases hcase id _ hx with ⟨hl, h1⟩ | ⟨i, e, vs, rfl, hi, h1, h2⟩
    · rw [hG2 id hl] at hg
      exact R1.own id ver o gi h1 hg hf
    · obtain ⟨ver', gi1, ob, k1, k2, k3, k4, k5⟩ := hnew i e vs h1
      rw [hG1 i hi, k2] at hg; cases hg
      exact R2.own _ _ _ _ k1 k2 rfl
  · intro id hid
    rw [layH_next] at hid
    show (if _ then _ else _) = _
    rw [if_neg (by omega)]
    exact R1.fresh id (by omega)
  · intro id ver o hx
    rw [layH_next]
    rcases hcase id _ hx with ⟨hl, h1⟩ | ⟨i, e, vs, rfl, hi, h1, h2⟩
    · have := R1.vers id ver o h1; omega
    · simp only [Prod.mk.injEq] at h2; omega
  · intro g hg
    have := R1.low
    rw [hG2 g (by omega)]; exact R1.glob g hg
  · rw [layH_next]; have := R1.low; omega
  · intro id ver o gi hx hg hr
    rcases hcase id _ hx with ⟨hl, h1⟩ | ⟨i, e, vs, rfl, hi, h1, h2⟩
    · rw [hG2 id hl] at hg
      exact R1.rolow id ver o gi h1 hg hr
    · simp only [Prod.mk.injEq] at h2
      rw [h2.2] at hr; cases hr
  · rw [layH_next]; omega
  · intro id ver o hx
    rcases hcase id _ hx with ⟨hl, h1⟩ | ⟨i, e, vs, rfl, hi, h1, h2⟩
    · refine .inr ⟨h1, fun gi hg => hfr _ (hblk id _ gi h1 hg)⟩
    · simp only [Prod.mk.injEq] at h2; exact .inl (by omega)
  · intro b hb _
    exact hfr b hb
end
end Go.Ab
end
section
/-
  A call whose arguments are known, run once: it is taken at that word wherever it is made.
-/
namespace Go.Ab
open Go.RowKit (Below)

def eqO : Option (Nat × Nat) → Option (Nat × Nat) → Bool
  | none, none => true
  | some p, some q => Nat.beq p.1 q.1 && Nat.beq p.2 q.2
  | _, _ => false
theorem eqO_sound : ∀ {a b : Option (Nat × Nat)}, eqO a b = true → a = b
  | none, none, _ => rfl
  | some (p1, p2), some (q1, q2), h => by
    simp only [eqO, Bool.and_eq_true] at h
    rw [Nat.eq_of_beq_eq_true h.1, Nat.eq_of_beq_eq_true h.2]
  | none, some _, h => by cases h
  | some _, none, h => by cases h
mutual
def eqV : AVal → AVal → Bool
  | .bool a, .bool b => a == b
  | .int k a, .int k' b => decide (k = k') && a == b
  | .str s, .str t => decide (s = t)
  | .ptr x, .ptr y => eqO x y
  | .slice x n, .slice y m => eqO x y && Nat.beq n m
  | .slice0, .slice0 => true
  | .sliceE, .sliceE => true
  | .agg l, .agg m => eqVs l m
  | .tuple l, .tuple m => eqVs l m
  | _, _ => false
def eqVs : List AVal → List AVal → Bool
  | [], [] => true
  | x :: r, y :: s => eqV x y && eqVs r s
  | _, _ => false
end
mutual
theorem eqV_sound : ∀ {a b : AVal}, eqV a b = true → a = b := by
  intro a b h
  cases a with
  | bool x => cases b <;> simp [eqV] at h; rw [h]
  | int k x => cases b <;> simp [eqV] at h; rw [h.1, h.2]
  | str x => cases b <;> simp [eqV] at h; rw [h]
  | ptr x => cases b <;> simp only [eqV, Bool.false_eq_true] at h; rw [eqO_sound h]
  | slice x n => cases b <;> simp only [eqV, Bool.false_eq_true, Bool.and_eq_true] at h; rw [eqO_sound h.1, Nat.eq_of_beq_eq_true h.2]
  | slice0 => cases b <;> first | rfl | cases h
  | sliceE => cases b <;> first | rfl | cases h
  | agg l => cases b <;> simp only [eqV, Bool.false_eq_true] at h; rw [eqVs_sound h]
  | tuple l => cases b <;> simp only [eqV, Bool.false_eq_true] at h; rw [eqVs_sound h]
  | map x => cases b <;> simp [eqV] at h
  | func f l m => cases b <;> simp [eqV] at h
  | yield l => cases b <;> simp [eqV] at h
  | nilFunc => cases b <;> simp [eqV] at h
  | iface t x => cases b <;> simp [eqV] at h
  | nilIface => cases b <;> simp [eqV] at h
theorem eqVs_sound : ∀ {a b : List AVal}, eqVs a b = true → a = b := by
  intro a b h
  cases a with
  | nil => cases b with
    | nil => rfl
    | cons _ _ => simp [eqVs] at h
  | cons x r => cases b with
    | nil => simp [eqVs] at h
    | cons y s =>
      simp only [eqVs, Bool.and_eq_true] at h
      rw [eqV_sound h.1, eqVs_sound h.2]
end

/-- All that it may come to is so. -/
def D.all {α : Type} (p : α → Bool) : D α → Bool
  | .ret a => p a
  | .fail => false
  | .ask n k => Nat.blt 0 n && (List.range n).all fun i => (k i).all p
theorem D.all_sat {α : Type} {p : α → Bool} : ∀ {d : D α}, d.all p = true → d.sat fun a => p a = true
  | .ret _, h => h
  | .fail, h => by cases h
  | .ask n k, h => by
    simp only [D.all, Bool.and_eq_true, List.all_eq_true, List.mem_range] at h
    exact ⟨Nat.blt_eq.mp h.1, fun i hi => D.all_sat (h.2 i hi)⟩

/-- Is that the answer, and lie these blocks there? -/
def isAt (keep : List Nat) (v0 : AVal) (os : List (TypeId × List AVal)) (r : AVal × AHeap) : Bool :=
  eqV r.1 (mapV (fun j => keep.getD j 0) v0) && (List.range os.length).all fun i => match os[i]?, r.2.objs.get (keep.getD i 0) with
    | some (e, vs), some (_, .cells false e' vs') => Nat.beq e e' && eqVs vs' (mapVs (fun j => keep.getD j 0) vs)
    | _, _ => false
theorem isAt_sound {keep : List Nat} {v0 : AVal} {os : List (TypeId × List AVal)} {r : AVal × AHeap} (h : isAt keep v0 os r = true) :
    r.1 = mapV (fun j => keep.getD j 0) v0 ∧ ∀ (i : Nat) e vs, os[i]? = some (e, vs) → ∃ ver, r.2.objs.get (keep.getD i 0) = some (ver, .cells false e (mapVs (fun j => keep.getD j 0) vs)) := by
  simp only [isAt, Bool.and_eq_true, List.all_eq_true, List.mem_range] at h
  refine ⟨eqV_sound h.1, fun i e vs hi => ?_⟩
  have := h.2 i (List.getElem?_eq_some_iff.1 hi).1
  rw [hi] at this
  split at this
  · rename_i e1 vs1 ver e' vs' h1 h2
    simp only [Option.some.injEq, Prod.mk.injEq] at h1
    obtain ⟨rfl, rfl⟩ := h1
    simp only [Bool.and_eq_true] at this
    obtain ⟨h4, h3⟩ := this
    exact ⟨ver, by rw [h2, Nat.eq_of_beq_eq_true h4, eqVs_sound h3]⟩
  · cases this

mutual
theorem mapV_plain {f : Nat → Nat} : ∀ {x : AVal}, plainV 0 x = true → mapV f x = x
  | .bool _, _ => rfl
  | .int _ _, _ => rfl
  | .str _, _ => rfl
  | .ptr none, _ => rfl
  | .ptr (some p), h => by simp [plainV, Nat.blt] at h
  | .slice none _, _ => rfl
  | .slice (some p) _, h => by simp [plainV, Nat.blt] at h
  | .slice0, _ => rfl
  | .sliceE, _ => rfl
  | .map none, _ => rfl
  | .map (some _), h => by cases h
  | .func _ _ _, h => by cases h
  | .yield _, h => by cases h
  | .nilFunc, _ => rfl
  | .iface t v, h => congrArg (AVal.iface t) (mapV_plain (x := v) h)
  | .nilIface, _ => rfl
  | .agg _, h => by simp only [mapV]; rw [mapVs_plain h]
  | .tuple _, h => by simp only [mapV]; rw [mapVs_plain h]
theorem mapVs_plain {f : Nat → Nat} : ∀ {x : List AVal}, plainVs 0 x = true → mapVs f x = x
  | [], _ => rfl
  | _ :: _, h => by
    simp only [plainVs, Bool.and_eq_true] at h
    simp only [mapVs]
    rw [mapV_plain h.1, mapVs_plain h.2]
end

section
variable {P : Program} {fns : FuncId → Option AFunc} {summ : FuncId → List AVal → AHeap → Option (D (AVal × AHeap))} {N : Nat} {w0 : World}

/-- Memory in which nothing lies but one table. -/
def tblH (t nx : Nat) (tab : List AVal) : AHeap := { objs := (T.leaf : T (Nat × AObj)).set t (some (0, .cells true 0 tab)), next := nx }
theorem tblH_get {t nx : Nat} {tab : List AVal} {id : Nat} {x : Nat × AObj} (h : (tblH t nx tab).objs.get id = some x) : id = t ∧ x = (0, .cells true 0 tab) := by
  simp only [tblH, T.get_set, T.get_leaf] at h
  split at h
  · rename_i e; simp only [Option.some.injEq] at h; exact ⟨e, h.symm⟩
  · cases h
/-- The table lies in the world as it began. -/
def TblOK (P : Program) (N : Nat) (w0 : World) (t nx : Nat) (tab : List AVal) : Prop :=
  t < P.globals.size ∧ P.globals.size ≤ nx ∧ P.globals.size ≤ N ∧ 0 < nx ∧ ∃ c e fr, w0.heap[t]? = some (.cells c e fr) ∧ tab.length ≤ c.size ∧ VsR P (fun _ => none) tab (c.toList.take tab.length)

theorem rel_tbl {G : GM} {h : AHeap} {w : World} {t nx : Nat} {tab : List AVal} (R : Rel P N w0 G h w) (T : TblOK P N w0 t nx tab) : ∃ GA, Rel P N w0 GA (tblH t nx tab) w := by
  obtain ⟨ht, hn, hN, hp, c, e, fr, hc, hl, hv⟩ := T
  have hw : w.heap[t]? = some (.cells c e fr) := by rw [R.below.block t (by omega)]; exact hc
  refine ⟨fun i => if i = t then some ⟨t, c.size, 0, 0⟩ else if i < P.globals.size then some ⟨i, 0, 0, 0⟩ else none, ?_, ?_, ?_, ?_, ?_, ?_, hn, R.below, R.size, ?_⟩
  · intro id ver o hx
    obtain ⟨rfl, h1⟩ := tblH_get hx
    simp only [Prod.mk.injEq] at h1
    obtain ⟨rfl, rfl⟩ := h1
    exact ⟨_, if_pos rfl, _, hw, c, e, fr, rfl, (fun hh => by cases hh), by simp, rfl, hl, by rw [List.drop_zero]; exact hv.mono (fun _ _ hh => by cases hh)⟩
  · intro id id' x x' gi gi' hx _ hf
    obtain ⟨_, rfl⟩ := tblH_get hx
    cases hf
  · intro id ver o gi hx _ hf
    obtain ⟨_, h1⟩ := tblH_get hx
    simp only [Prod.mk.injEq] at h1
    rw [h1.2] at hf; cases hf
  · intro id hid
    have : nx ≤ id := hid
    show (if _ then _ else _) = _
    rw [if_neg (by omega), if_neg (by omega)]
  · intro id ver o hx
    obtain ⟨_, h1⟩ := tblH_get hx
    simp only [Prod.mk.injEq] at h1
    show ver < nx
    omega
  · intro g hg
    by_cases hgt : g = t
    · exact ⟨_, if_pos hgt, by rw [hgt], rfl⟩
    · exact ⟨⟨g, 0, 0, 0⟩, by simp [hgt, hg], rfl, rfl⟩
  · intro id ver o gi hx hg _
    obtain ⟨rfl, _⟩ := tblH_get hx
    simp only [if_true, Option.some.injEq] at hg
    subst hg
    show id < N
    omega

/-- **What a run on memory of its own comes to, anywhere.** -/
theorem summ_run {n : Nat} {f : FuncId} {args : List AVal} {t nx : Nat} {tab : List AVal} {keep : List Nat} {v0 : AVal} {os : List (TypeId × List AVal)} (hm : P.follows .mixedOrders = true) (hF : FnsOK P fns) (hM : SummOK P N w0 summ) (hT : TblOK P N w0 t nx tab)
    (hpa : plainVs 0 args = true) (hk : keep.length = os.length) (hnd : keep.Nodup) (hpl : ∀ o ∈ os, plainVs os.length o.2 = true) (hv0 : plainV os.length v0 = true)
    (he : ((run fns summ n).call f args (tblH t nx tab)).all (isAt keep v0 os) = true) {G : GM} {h : AHeap} {w : World} {argsV : Array Value} {Q : AVal × AHeap → Prop} (R : Rel P N w0 G h w) (hv : VsR P G args argsV.toList) (hq : Q (mapV (h.next + ·) v0, layH h.next os h)) :
    CallsIn (FR none) 0 P f argsV w (PostC P N w0 G h w Q) := by
  obtain ⟨GA, RA⟩ := rel_tbl R hT
  have hvA : VsR P GA args argsV.toList := by
    have := VsR.ren (G := G) (G' := GA) (f := id) (g := id) (k := 0) (fun i hi => absurd hi (Nat.not_lt_zero i)) hpa (by rw [mapVs_plain hpa]; exact hv)
    rwa [mapVs_plain hpa] at this
  refine ((run_sound hF hM (fun _ hS => draw_sound hm hS) n).call f args _ GA w argsV _ RA hvA (D.all_sat he)).mono fun e w' hp => ?_
  obtain ⟨v, h', G', cv, rfl, h1, h2, h3, h4⟩ := hp
  obtain ⟨h5, h6⟩ := isAt_sound h1
  simp only at h5 h6
  subst h5
  obtain ⟨G'', k1, k2, k3⟩ := R.beside h2 h3 (fun id x hx => by obtain ⟨_, rfl⟩ := tblH_get hx; rfl) hk hnd hpl h6 hv0 h4
  exact ⟨_, _, G'', cv, rfl, hq, k1, k2, k3⟩
end
end Go.Ab
end
