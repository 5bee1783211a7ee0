import Derived.Test.YtapnoohglfhgeaaGreatDoorP20
/-
  Part 21 of the proof.
-/
set_option linter.all false
section
/-
  Rows of names, one behind the other; whether a class's type may be; its fields.
-/
namespace Go.Ab.S
open Go.Ab
set_option maxHeartbeats 4000000
structure HasGrow (summ : FuncId → List AVal → AHeap → Option (D (AVal × AHeap))) : Prop where
  zero : ∀ h, summ 62 [.slice none 0, .int .i64 0] h = some (.ret (.slice none 0, h))
  more : ∀ (n : Nat) h, 0 < n → n ≤ 2 ^ 31 → summ 62 [.slice none 0, .int .i64 (n : Nat)] h = some (.ret (.slice (some (h.next, 0)) 0, newA h (.cells false 9 [])))
theorem sort_nil : sortL ([] : List (List Nat)) = [] := List.length_eq_zero_iff.1 (by rw [sortL_len]; rfl)
theorem wrap_add {a b : Nat} (h : a + b < 2 ^ 62) : IntKind.i64.wrap ((a : Int) + (b : Int)) = ((a + b : Nat) : Int) := by
  have e62 : (2 : Nat) ^ 62 = 4611686018427387904 := by decide
  rw [wrap_small (by omega) (by omega)]; omega
theorem built_strs' {h : AHeap} {base : Nat} {v : AVal} {l : List (List Nat)} (B : Built h base 9 1 v l.length (l.map AVal.str)) : StrsAt h v l :=
  B.sl (by decide) (xs := l.map strC) (by rw [strsFlat]) (by intro c hc; obtain ⟨a, _, rfl⟩ := List.mem_map.1 hc; rfl) (by simp)
section
variable {fns : FuncId → Option AFunc} {summ : FuncId → List AVal → AHeap → Option (D (AVal × AHeap))} {ro : Option Nat}
theorem st_bslice2 {d : Option Tmp} {e : TypeId} {z v u : AVal} {x y : AOpd} {l : List Step} {a : AAct} {h : AHeap} {K : AAct → AHeap → Prop} (hx : ev a x = some v) (hy : ev a y = some u) (hv : cellsA v = [v]) (hu : cellsA u = [u]) (w : WF h)
    (k : ∀ b h', h.next ≤ b → Grow h h' → h'.objs.get b = some (b, .cells false e [v, u]) → St fns summ ro l (putA a d (.slice (some (b, 0)) 2)) h' K) : St fns summ ro (⟨d, none, .e (.bslice e 1 2 [z] [(0, x), (1, y)])⟩ :: l) a h K := by
  refine st_t (by intro _ _ hh; cases hh) (by intro _ _ hh; cases hh) (v := .slice (some (h.next, 0)) 2) (h' := newA h (.cells false e [v, u])) ?_ (k _ _ (Nat.le_refl _) ((Grow.refl w).new _) (zAQ _ _))
  simp [turnA, rowA, rep, hx, hy, hv, hu]
/-- A row put behind another one. -/
theorem st_appStrs (H : Has fns summ) {d : Option Tmp} {x y : AOpd} {l : List Step} {a : AAct} {h : AHeap} {K : AAct → AHeap → Prop} {base : Nat} {v u : AVal} {p q : List (List Nat)} (hx : ev a x = some v) (hy : ev a y = some u) (B : Built h base 9 1 v p.length (p.map AVal.str)) (hu : StrsAt h u q) (hl : p.length + q.length ≤ 2 ^ 31) (w : WF h) (hb : base ≤ h.next)
    (k : ∀ v' h', Built h' base 9 1 v' (p ++ q).length ((p ++ q).map AVal.str) → WF h' → h.next ≤ h'.next → (∀ h0, WF h0 → Grow h0 h → h0.next ≤ base → Grow h0 h') → St fns summ ro l (putA a d v') h' K) : St fns summ ro (⟨d, none, .e (.append 9 1 16 x y)⟩ :: l) a h K := by
  rcases Nat.eq_zero_or_pos q.length with h0 | h0
  · have hq0 : q = [] := List.length_eq_zero_iff.1 h0
    subst hq0
    have hla : lenA u = some 0 := by
      have := hu.1
      cases u <;> first | exact this | cases this
    have hap : appendA h 9 1 16 v u = some (v, h) := by
      rcases B with ⟨rfl, _⟩ | ⟨rfl, _⟩ | ⟨b, vs, ver, _, rfl, _⟩ <;> simp only [appendA, hla]
    refine st_t (by intro _ _ hh; cases hh) (by intro _ _ hh; cases hh) (v := v) (h' := h) ?_ (k v h (by rw [List.append_nil]; exact B) w (Nat.le_refl _) fun _ _ g _ => g)
    simp only [turnA, hx, hy, hap]
  · rcases slForms hu.1 with rfl | ⟨b, o, rfl⟩ | ⟨_, hh⟩ | ⟨_, hh⟩
    · obtain ⟨_, b, o, ver, ro, e, vs, h1, _⟩ := hu.2 0 _ (List.getElem?_eq_getElem (by simpa using h0))
      cases h1
    · obtain ⟨_, ver, rb, eb, vs, h2, h3, h4, h5⟩ := SlAt_cells hu (by simpa using h0) (by decide)
      have hfl := strsFlat q
      rw [hfl] at h4 h5
      refine st_append (n := p.length) (cells := p.map AVal.str) hx hy B (m := q.length) (by simp [lenA]) h0 (new := q.map AVal.str) ?_ (by simp [List.all_map, one]) (roomOK H (by decide) hl) (by simp) w hb ?_
      · rw [List.length_map] at h3 h4
        simp only [cellsOfA, h2, if_pos h3, h4]
      · intro v' h' B' _ w' n' g _
        refine k v' h' ?_ w' n' g
        rw [List.length_append, List.map_append]; exact B'
    · have : q.length = 0 := by simpa using hh
      omega
    · have : q.length = 0 := by simpa using hh
      omega
end
section
variable {fns : FuncId → Option AFunc} {summ : FuncId → List AVal → AHeap → Option (D (AVal × AHeap))}
variable (H : Has fns summ) (HG : HasGrow summ)
include H HG
theorem ConcatStr_ok (a b : List (List Nat)) (hl : a.length + b.length ≤ 2 ^ 31) (cv vv : AVal) (v : AVal) (h : AHeap) (hw : WF h) (hv : SlAt h 1 v [[cv], [vv]]) (ha : StrsAt h cv a) (hb : StrsAt h vv b) :
    Cl fns summ 36 [v] h fun r h' => Built h' h.next 9 1 r (a ++ b).length ((a ++ b).map AVal.str) ∧ Grow h h' := by
  have e31 : (2 : Nat) ^ 31 = 2147483648 := by decide
  have hlen : lenO v = some 2 := hv.1
  have hla := ha.len
  have hlb := hb.len
  obtain ⟨_, b0, o0, ver0, ro0, et0, vs0, hix0, hg0, hv0⟩ := hv.2 0 [cv] rfl
  obtain ⟨_, b1, o1, ver1, ro1, et1, vs1, hix1, hg1, hv1⟩ := hv.2 1 [vv] rfl
  replace hv0 := one_of_take hv0
  replace hv1 := one_of_take hv1
  clear hv
  refine H.go (fn := F_ConcatStr) rfl (by decide) rfl rfl ?_
  unfold F_ConcatStr
  dsimp only [qQ, qE, qN, gQ, gE, vi]
  repeat with_reducible first | refine zAA ?_ | refine zAB ?_ | refine zAC ?_ | refine zAD ?_ | (apply st_q; exact q1)
  refine cd_count (N := 2) (by decide) (fun j a' hp => hp = h ∧ a'.defers = [] ∧ ev a' (.tmp 0) = some v ∧ ev a' (.tmp 9) = some v ∧ ev a' (.tmp 3) = some (.int .i64 ((if j = 0 then 0 else if j = 1 then a.length else a.length + b.length : Nat) : Int)))
    (by rintro j a hp t w (rfl | rfl | rfl) ⟨h1, h2, h3, h4, h5⟩ <;> exact ⟨h1, by rw [zAV]; exact h2, by exact e1, by exact e1, by exact e1⟩) (by decide) ?_ ?_ ⟨rfl, by exact n1, by exact e1, by exact e1, by exact e1⟩ (by exact e1) (by exact e1)
  · rintro j A hp hj ⟨rfl, hd, t0, t9, t3⟩ hi hn
    rcases (by omega : j = 0 ∨ j = 1) with rfl | rfl
    · replace t3 : ev A (.tmp 3) = some (.int .i64 ((0 : Nat) : Int)) := t3
      have hw1 : IntKind.i64.wrap (((0 : Nat) : Int) + Int.ofNat a.length) = ((a.length : Nat) : Int) := by
        rw [show (Int.ofNat a.length : Int) = ((a.length : Nat) : Int) from rfl, wrap_add (by omega), Nat.zero_add]
      have hd1 : decide (((a.length : Nat) : Int) < 0) = false := by simp
      repeat with_reducible first | refine zAA ?_ | refine zAJ ?_ | refine zAB ?_ | refine zAC ?_ | refine zAD ?_ | refine zAK ?_ | refine zAL ?_ | (apply st_q; exact q1) | (apply zAI; exact e1)
      exact ⟨⟨rfl, by exact n1, by exact e1, by exact e1, by exact e1⟩, by exact e1, by exact e1⟩
    · replace t3 : ev A (.tmp 3) = some (.int .i64 ((a.length : Nat) : Int)) := t3
      have hw1 : IntKind.i64.wrap (((a.length : Nat) : Int) + Int.ofNat b.length) = ((a.length + b.length : Nat) : Int) := by
        rw [show (Int.ofNat b.length : Int) = ((b.length : Nat) : Int) from rfl, wrap_add (by omega)]
      have hd1 : decide (((a.length + b.length : Nat) : Int) < 0) = false := by simp; omega
      repeat with_reducible first | refine zAA ?_ | refine zAJ ?_ | refine zAB ?_ | refine zAC ?_ | refine zAD ?_ | refine zAK ?_ | refine zAL ?_ | (apply st_q; exact q1) | (apply zAI; exact e1)
      exact ⟨⟨rfl, by exact n1, by exact e1, by exact e1, by exact e1⟩, by exact e1, by exact e1⟩
  · rintro A hp ⟨rfl, hd, t0, t9, t3⟩
    replace t3 : ev A (.tmp 3) = some (.int .i64 ((a.length + b.length : Nat) : Int)) := t3
    have hgrow : ∃ gv h2, summ 62 [.slice none 0, .int .i64 ((a.length + b.length : Nat) : Int)] hp = some (.ret (gv, h2)) ∧ Built h2 hp.next 9 1 gv ([] : List (List Nat)).length (([] : List (List Nat)).map AVal.str) ∧ Grow hp h2 := by
      rcases Nat.eq_zero_or_pos (a.length + b.length) with h0 | h0
      · rw [h0]; exact ⟨_, _, HG.zero hp, .inl ⟨rfl, rfl, rfl⟩, Grow.refl hw⟩
      · exact ⟨_, _, HG.more _ hp h0 (by omega), .inr (.inr ⟨hp.next, [], hp.next, Nat.le_refl _, rfl, zAQ _ _, by simp, rfl⟩), (Grow.refl hw).new _⟩
    obtain ⟨gv, h2, hsm, B, g2⟩ := hgrow
    repeat with_reducible first | refine zAA ?_ | refine zAC ?_ | refine zAD ?_ | (apply st_q; exact q1)
    refine zAS (by exact s1) (cl_summ hsm ?_)
    rw [D.sat_ret]
    clear hsm t3 t9
    repeat with_reducible first | refine zAA ?_ | refine zAB ?_ | refine zAC ?_ | refine zAD ?_ | (apply st_q; exact q1)
    refine cd_count (N := 2) (by decide) (fun j a' h3 => WF h3 ∧ Grow hp h3 ∧ hp.next ≤ h3.next ∧ a'.defers = [] ∧ ev a' (.tmp 25) = some v ∧ ∃ gv, ev a' (.tmp 6) = some gv ∧ Built h3 hp.next 9 1 gv (if j = 0 then [] else if j = 1 then a else a ++ b : List (List Nat)).length ((if j = 0 then [] else if j = 1 then a else a ++ b : List (List Nat)).map AVal.str))
      (by rintro j a hp t w (rfl | rfl | rfl) ⟨k0, k1, k2, k3, k4, gv, k5, k6⟩ <;> exact ⟨k0, k1, k2, by rw [zAV]; exact k3, by exact e1, gv, by exact e1, k6⟩) (by decide) ?_ ?_ ⟨g2.wf, g2, g2.next, by exact n1, by exact e1, gv, by exact e1, B⟩ (by exact e1) (by exact e1)
    · clear B g2
      rintro j A h3 hj ⟨w3, g3, n3, hd, t25, gv, t6, B⟩ hi hn
      rcases (by omega : j = 0 ∨ j = 1) with rfl | rfl
      · replace B : Built h3 hp.next 9 1 gv ([] : List (List Nat)).length (([] : List (List Nat)).map AVal.str) := B
        replace hg0 := g3.keep _ _ hg0
        repeat with_reducible first | refine zAA ?_ | refine zAB ?_ | refine zAC ?_ | refine zAD ?_ | refine zAK ?_ | (apply st_q; exact q1)
        refine st_appStrs H (by exact e1) (by exact e1) B (ha.mono g3) (by simp; omega) w3 n3 ?_
        intro v' h4 B' w4 n4 g4
        rw [List.nil_append] at B'
        repeat with_reducible first | refine zAA ?_ | refine zAJ ?_ | refine zAB ?_ | (apply st_q; exact q1)
        exact ⟨⟨w4, g4 hp hw g3 (Nat.le_refl _), by omega, by exact n1, by exact e1, v', by exact e1, B'⟩, by exact e1, by exact e1⟩
      · replace B : Built h3 hp.next 9 1 gv a.length (a.map AVal.str) := B
        replace hg1 := g3.keep _ _ hg1
        repeat with_reducible first | refine zAA ?_ | refine zAB ?_ | refine zAC ?_ | refine zAD ?_ | refine zAK ?_ | (apply st_q; exact q1)
        refine st_appStrs H (by exact e1) (by exact e1) B (hb.mono g3) hl w3 n3 ?_
        intro v' h4 B' w4 n4 g4
        repeat with_reducible first | refine zAA ?_ | refine zAJ ?_ | refine zAB ?_ | (apply st_q; exact q1)
        exact ⟨⟨w4, g4 hp hw g3 (Nat.le_refl _), by omega, by exact n1, by exact e1, v', by exact e1, B'⟩, by exact e1, by exact e1⟩
    · rintro A h3 ⟨w3, g3, n3, hd, t25, gv, t6, B'⟩
      replace B' : Built h3 hp.next 9 1 gv (a ++ b).length ((a ++ b).map AVal.str) := B'
      clear B g2
      repeat' with_reducible first | refine zAA ?_ | refine zAB ?_ | refine zAC ?_ | refine zAD ?_ | refine zAG ?_ | (apply st_q; exact q1) | (apply zAE; exact n1; exact r1)
      exact ⟨B', g3⟩
variable (HS : HasSort summ)
include HS
/-- A class as a value. -/
def clsV (c : CDef) (nv cv vv : AVal) : AVal := .agg [.int .i64 c.params, nv, .int .i64 c.g.root, cv, vv]
/-- So small that no count goes round. -/
structure CSm (c : CDef) : Prop where
  g : GraphSm c.g
  conc : ∀ s ∈ c.conc, s.length < 2 ^ 60
  virt : ∀ s ∈ c.virt, s.length < 2 ^ 60
  sum : c.conc.length + c.virt.length ≤ 2 ^ 31
theorem CheckClass_ok (c : CDef) (hs : CSm c) (nv cv vv : AVal) (h : AHeap) (hw : WF h) (hN : NodesAt h nv c.g.nodes) (hcv : StrsAt h cv c.conc) (hvv : StrsAt h vv c.virt) :
    Cl fns summ 13 [.agg [.int .i64 c.params, nv, .int .i64 c.g.root, cv, vv]] h fun r h' => r = .int .i64 (ckF c) ∧ Grow h h' := by
  have e31 : (2 : Nat) ^ 31 = 2147483648 := by decide
  have e60 : (2 : Nat) ^ 60 = 1152921504606846976 := by decide
  have oc := one_of_len hcv.len
  have ov := one_of_len hvv.len
  have sc := Hid.mk hs
  clear hs
  refine H.go (fn := F_CheckClass) rfl (by decide) rfl rfl ?_
  unfold F_CheckClass
  dsimp only [qQ, qE, qN, gQ, gE, vi]
  refine zAC (zAD ?_)
  refine st_box (by exact e1) (by exact cc) hw ?_
  rintro b1 h1 hb1 g1 o1
  have ht2 := take21
  have ht5 := take5
  repeat with_reducible first | refine zAA ?_ | refine zAB ?_ | refine zAC ?_ | refine zAD ?_ | (apply st_q; exact q1)
  refine zAS (by exact s1) ((Check_ok H c.g sc.out.g _ h1 g1.wf ⟨nv, rfl, hN.mono g1⟩).mono ?_)
  rintro _ h2 ⟨rfl, g2⟩
  replace o1 := g2.keep _ _ o1
  have G := g1.trans g2
  cases hck : (zAT c.g != 0)
  rotate_left
  · have hr : ckF c = zAT c.g := by
      unfold ckF; rw [if_pos (by simpa using hck)]
    replace hr := Hid.mk hr
    repeat' with_reducible first | refine zAA ?_ | refine zAN ?_ | refine zAB ?_ | refine zAC ?_ | refine zAD ?_ | refine zAG ?_ | (apply st_q; exact q1) | (apply zAF; exact e1) | (apply zAE; exact n1; exact r1)
    exact ⟨by rw [hr.out], G⟩
  have hc : zAT c.g = 0 := by simpa using hck
  have hr : ckF c = if headOK c then (match bodyF c with
    | none => 2
    | some p => if eqLL (sortL (c.conc ++ c.virt)) (zAH c.g p.2).labels then 0 else 2) else 2 := by
    unfold ckF; rw [if_neg (by simpa using hc)]; rfl
  replace hr := Hid.mk hr
  replace hc := Hid.mk hc
  have bad : headOK c = false → Hid (ckF c = 2) := fun hh => ⟨by rw [hr.out, hh]; rfl⟩
  unfold headOK at bad
  cases c1 : decide (c.params < 0)
  rotate_left
  · have hb := bad (by rw [c1]; rfl)
    clear bad
    repeat' with_reducible first | refine zAA ?_ | refine zAN ?_ | refine zAB ?_ | refine zAC ?_ | refine zAD ?_ | refine zAL ?_ | refine zAG ?_ | (apply st_q; exact q1) | (apply st_qF; exact e1) | (apply st_eF; exact e1) | (apply zAF; exact e1) | (apply zAI; exact e1) | (apply zAE; exact n1; exact r1)
    exact ⟨by rw [hb.out], G⟩
  cases c2 : decide (c.params > 100)
  rotate_left
  · have hb := bad (by rw [c1, c2]; rfl)
    clear bad
    repeat' with_reducible first | refine zAA ?_ | refine zAN ?_ | refine zAB ?_ | refine zAC ?_ | refine zAD ?_ | refine zAL ?_ | refine zAG ?_ | (apply st_q; exact q1) | (apply st_qT; exact e1; exact q1) | (apply st_qF; exact e1) | (apply st_eF; exact e1) | (apply zAF; exact e1) | (apply zAI; exact e1) | (apply zAE; exact n1; exact r1)
    exact ⟨by rw [hb.out], G⟩
  repeat with_reducible first | refine zAA ?_ | refine zAB ?_ | refine zAC ?_ | refine zAD ?_ | refine zAL ?_ | (apply st_q; exact q1) | (apply st_qT; exact e1; exact q1) | (apply zAI; exact e1)
  refine st_callT (by exact e1) (by exact s1) ((erising_ok H c.conc sc.out.conc (by have := sc.out.sum; omega) cv h2 (hcv.mono G)).mono ?_)
  rintro _ _ ⟨rfl, rfl⟩
  cases c3 : risingF c.conc
  · have hb := bad (by rw [c1, c2, c3]; rfl)
    clear bad
    repeat' with_reducible first | refine zAA ?_ | refine zAN ?_ | refine zAB ?_ | refine zAC ?_ | refine zAD ?_ | refine zAG ?_ | (apply st_q; exact q1) | (apply st_qT; exact e1; exact q1) | (apply st_qF; exact e1) | (apply st_eF; exact e1) | (apply zAF; exact e1) | (apply zAE; exact n1; exact r1)
    exact ⟨by rw [hb.out], G⟩
  repeat with_reducible first | (apply st_q; exact q1) | (apply st_qT; exact e1; exact q1)
  refine st_callT (by exact e1) (by exact s1) ((erising_ok H c.virt sc.out.virt (by have := sc.out.sum; omega) vv _ (hvv.mono G)).mono ?_)
  rintro _ _ ⟨rfl, rfl⟩
  cases c4 : risingF c.virt
  · have hb := bad (by rw [c1, c2, c3, c4]; rfl)
    clear bad
    repeat' with_reducible first | refine zAA ?_ | refine zAN ?_ | refine zAB ?_ | refine zAC ?_ | refine zAD ?_ | refine zAG ?_ | (apply st_q; exact q1) | (apply st_qT; exact e1; exact q1) | (apply zAF; exact e1) | (apply zAE; exact n1; exact r1)
    exact ⟨by rw [hb.out], G⟩
  have hh : headOK c = true := by unfold headOK; rw [c1, c2, c3, c4]; rfl
  have hr' : Hid (ckF c = match bodyF c with
    | none => 2
    | some p => if eqLL (sortL (c.conc ++ c.virt)) (zAH c.g p.2).labels then 0 else 2) := ⟨by rw [hr.out, hh]; rfl⟩
  have hpr : 0 ≤ c.params ∧ c.params ≤ 100 := by
    have := of_decide_eq_false c1
    have := of_decide_eq_false c2
    omega
  have hby : BytesL (c.conc ++ c.virt) := fun s hs => by
    rcases List.mem_append.1 hs with hs | hs
    · exact rising_bytes c3 s hs
    · exact rising_bytes c4 s hs
  replace hby := Hid.mk hby
  clear bad c1 c2 c3 c4 hr hh hck
  repeat with_reducible first | refine zAA ?_ | refine zAB ?_ | refine zAC ?_ | refine zAD ?_ | refine zAL ?_ | (apply st_q; exact q1) | (apply st_qT; exact e1; exact q1) | (apply zAI; exact e1)
  refine zAS (by exact s1) ((ebody_ok H c hc.out hpr nv cv vv _ G.wf (hN.mono G) oc ov).mono ?_)
  rintro _ h3 ⟨⟨na, nb, a1, l1, a2, l2, rfl, i1, k1, i2, k2, hbd⟩, g3⟩
  replace o1 := g3.keep _ _ o1
  have G3 := G.trans g3
  have z1 := ones_node (n := na) i1.len k1.len
  have z2 := ones_node (n := nb) i2.len k2.len
  replace hbd := Hid.mk hbd
  unfold nodeV
  repeat with_reducible (apply st_q; exact q1)
  refine st_alloc G3.wf ?_
  rintro b4 h4 hb4 g4 o4
  refine st_alloc g4.wf ?_
  rintro b5 h5 hb5 g5 o5
  have l4 := g4.wf.lt o4
  replace o4 := g5.keep _ _ o4
  have m3 := G3.next
  have m4 := g4.next
  refine zAP (by exact e1) (by exact e1) (cs := [.int .i64 na.kind, .str na.name, a1, l1, .bool na.isOpen]) rfl rfl g5.wf o4 (by simp) z1 ?_
  rintro v6 h6 p6 o46
  simp only [List.take_zero, List.nil_append, List.length_cons, List.length_nil, List.drop_succ_cons, List.drop_zero, List.append_nil, Nat.zero_add, Nat.reduceAdd, List.drop_nil, List.cons_append] at o46
  have o56 := p6.keep b5 (by omega) _ o5
  refine zAP (by exact e1) (by exact e1) (cs := [.int .i64 nb.kind, .str nb.name, a2, l2, .bool nb.isOpen]) rfl rfl (p6.wf g5.wf) o56 (by simp) z2 ?_
  rintro v7 h7 p7 o57
  simp only [List.take_zero, List.nil_append, List.length_cons, List.length_nil, List.drop_succ_cons, List.drop_zero, List.append_nil, Nat.zero_add, Nat.reduceAdd, List.drop_nil, List.cons_append] at o57
  have g37 : Grow h3 h7 := p7.grow h3 G3.wf (p6.grow h3 G3.wf (g4.trans g5) (by omega)) (by omega)
  replace o1 := g37.keep _ _ o1
  have G7 := G3.trans g37
  have k27 := k2.mono g37
  have y1 := cells_of_len hcv.len
  have y2 := cells_of_len hvv.len
  clear o46 p6 p7 o56 g4 g5 o4 o5 i1 k1 i2 k2 hb4 hb5 l4 m3 m4 g37 z1 z2
  repeat with_reducible first | refine zAA ?_ | refine zAB ?_ | refine zAC ?_ | refine zAD ?_ | (apply st_q; exact q1)
  refine st_bslice2 (by exact e1) (by exact e1) y1 y2 G7.wf ?_
  rintro b8 h8 hb8 g8 o8
  have hsl : SlAt h8 1 (.slice (some (b8, 0)) 2) [[cv], [vv]] := by
    refine ⟨rfl, fun i x hx => ?_⟩
    match i with
    | 0 => cases hx; exact ⟨rfl, b8, 0, _, _, _, _, rfl, o8, rfl⟩
    | 1 => cases hx; exact ⟨rfl, b8, 1, _, _, _, _, rfl, o8, rfl⟩
    | i + 2 => simp at hx
  replace o1 := g8.keep _ _ o1
  replace o57 := g8.keep _ _ o57
  have G8 := G7.trans g8
  have k28 := k27.mono g8
  skip
  refine zAS (by exact s1) ((ConcatStr_ok H HG c.conc c.virt sc.out.sum cv vv _ h8 g8.wf hsl (hcv.mono G8) (hvv.mono G8)).mono ?_)
  rintro rv h9 ⟨B, g9⟩
  clear hsl o8 y1 y2 k27 g8
  -- sorted
  have hsort : ∃ (h10 : AHeap), summ 37 [rv] h9 = some (.ret (.tuple [], h10)) ∧ StrsAt h10 rv (sortL (c.conc ++ c.virt)) ∧ Grow h8 h10 := by
    generalize hL : c.conc ++ c.virt = L at B hby
    rcases B with ⟨rfl, h0, _⟩ | ⟨rfl, h0, _⟩ | ⟨b, vs, ver, hb, rfl, ob, hlen, htk⟩
    · have : L = [] := List.length_eq_zero_iff.1 h0
      subst this
      exact ⟨h9, HS.none h9, by rw [sort_nil]; exact strs_nil h9, g9⟩
    · have : L = [] := List.length_eq_zero_iff.1 h0
      subst this
      exact ⟨h9, HS.zero h9, by rw [sort_nil]; exact ⟨rfl, fun i x hx => by simp at hx⟩, g9⟩
    · rw [Nat.mul_one] at hlen htk
      have hl : L.length ≤ 2 ^ 31 := by rw [← hL, List.length_append]; exact sc.out.sum
      refine ⟨_, HS.some L (fun s hs c hc => hby.out s hs c hc) hl h9 b ver vs g9.wf ob hlen htk, ?_, g9.put (by exact G8.wf) _ hb (g9.wf.lt ob)⟩
      have hb' : Built (putObjA h9 b (.cells false 9 ((sortL L).map AVal.str ++ vs.drop L.length))) h8.next 9 1 (.slice (some (b, 0)) L.length) (sortL L).length ((sortL L).map AVal.str) := by
        rw [sortL_len]
        exact .inr (.inr ⟨b, _, _, hb, rfl, zAR _ _ _, by simp [sortL_len], by rw [Nat.mul_one, ← sortL_len L]; simp⟩)
      exact built_strs' hb'
  obtain ⟨h10, hsm, hst, g810⟩ := hsort
  replace o1 := g810.keep _ _ o1
  replace o57 := g810.keep _ _ o57
  have k2X := k28.mono g810
  have GX := G8.trans g810
  clear B g9 k28
  repeat with_reducible first | refine zAA ?_ | refine zAB ?_ | refine zAC ?_ | refine zAD ?_ | (apply st_q; exact q1)
  refine zAS (by exact s1) (cl_summ hsm ?_)
  rw [D.sat_ret]
  have hlt : (sortL (c.conc ++ c.virt)).length < 2 ^ 60 := by rw [sortL_len, List.length_append]; have := sc.out.sum; omega
  cases hbo : (bodyF c).isSome
  · have hb : bodyF c = none := by simpa using hbo
    have hz : Hid (ckF c = 2) := ⟨by rw [hr'.out, hb]⟩
    clear hb hr' hsm
    repeat' with_reducible first | refine zAA ?_ | refine zAN ?_ | refine zAB ?_ | refine zAC ?_ | refine zAD ?_ | refine zAG ?_ | (apply st_q; exact q1) | (apply st_qF; exact e1) | (apply st_eF; exact e1) | (apply zAF; exact e1) | (apply zAE; exact n1; exact r1)
    exact ⟨by rw [hz.out], GX⟩
  · obtain ⟨p, hb⟩ := Option.isSome_iff_exists.1 hbo
    have hz : Hid (ckF c = if eqLL (sortL (c.conc ++ c.virt)) nb.labels then 0 else 2) := ⟨by rw [hr'.out, hb, (hbd.out p hb).2]⟩
    clear hb hr' hsm
    repeat with_reducible first | refine zAA ?_ | refine zAB ?_ | refine zAC ?_ | refine zAD ?_ | (apply st_q; exact q1) | (apply st_qT; exact e1; exact q1)
    refine st_callT (by exact e1) (by exact s1) ((EqualStr_ok H _ nb.labels hlt rv l2 _ hst k2X).mono ?_)
    rintro _ _ ⟨rfl, rfl⟩
    cases heq : eqLL (sortL (c.conc ++ c.virt)) nb.labels
    · rw [heq] at hz
      repeat' with_reducible first | refine zAA ?_ | refine zAN ?_ | refine zAB ?_ | refine zAC ?_ | refine zAD ?_ | refine zAG ?_ | (apply st_q; exact q1) | (apply st_qT; exact e1; exact q1) | (apply zAF; exact e1) | (apply zAE; exact n1; exact r1)
      exact ⟨by rw [hz.out]; rfl, GX⟩
    · rw [heq] at hz
      repeat' with_reducible first | refine zAA ?_ | refine zAB ?_ | refine zAC ?_ | refine zAD ?_ | refine zAL ?_ | refine zAG ?_ | (apply st_q; exact q1) | (apply st_qT; exact e1; exact q1) | (apply zAI; exact e1) | (apply zAE; exact n1; exact r1)
      exact ⟨by rw [hz.out]; rfl, GX⟩
theorem EFields_ok (c : CDef) (hs : CSm c) (nv cv vv : AVal) (h : AHeap) (hw : WF h) (hN : NodesAt h nv c.g.nodes) (hcv : StrsAt h cv c.conc) (hvv : StrsAt h vv c.virt) (hlab : ∀ n ∈ c.g.nodes, n.labels.length * 16 ≤ 140737488355328) :
    Cl fns summ 17 [.agg [.int .i64 c.params, nv, .int .i64 c.g.root, cv, vv]] h fun r h' => StrsAt h' r (fieldsF c) ∧ Grow h h' := by
  have oc := one_of_len hcv.len
  have ov := one_of_len hvv.len
  have sc := Hid.mk hs
  have hlab' := Hid.mk hlab
  clear hs hlab
  refine H.go (fn := F_EFields) rfl (by decide) rfl rfl ?_
  unfold F_EFields
  dsimp only [qQ, qE, qN, gQ, gE, vi]
  refine zAC (zAD ?_)
  refine st_box (by exact e1) (by exact cc) hw ?_
  rintro b1 h1 hb1 g1 o1
  have ht5 := take5
  repeat with_reducible first | refine zAA ?_ | refine zAB ?_ | refine zAC ?_ | refine zAD ?_ | (apply st_q; exact q1)
  refine zAS (by exact s1) ((CheckClass_ok H HG HS c sc.out nv cv vv h1 g1.wf (hN.mono g1) (hcv.mono g1) (hvv.mono g1)).mono ?_)
  rintro _ h2 ⟨rfl, g2⟩
  replace o1 := g2.keep _ _ o1
  have G := g1.trans g2
  cases hck : (ckF c != 0)
  rotate_left
  · have hz : fieldsF c = [] := by
      unfold fieldsF; rw [if_neg (by simpa using hck)]
    replace hz := Hid.mk hz
    repeat' with_reducible first | refine zAA ?_ | refine zAN ?_ | refine zAB ?_ | refine zAC ?_ | refine zAD ?_ | refine zAG ?_ | (apply st_q; exact q1) | (apply zAF; exact e1) | (apply zAE; exact n1; exact r1)
    exact ⟨by rw [hz.out]; exact strs_nil _, G⟩
  have hk0 : ckF c = 0 := by simpa using hck
  have hz : fieldsF c = (match bodyF c with
    | none => []
    | some p => (zAH c.g p.1).labels) := by
      unfold fieldsF; rw [if_pos hk0]; rfl
  obtain ⟨hc, hpr, p, hb⟩ := ck_facts hk0
  have hz2 : fieldsF c = (zAH c.g p.1).labels := by rw [hz, hb]
  replace hz2 := Hid.mk hz2
  replace hb := Hid.mk hb
  have hin := body_in hc hb.out
  have hll := hlab'.out _ (node_in hin.1)
  clear hz hk0 hin
  repeat with_reducible first | refine zAA ?_ | refine zAB ?_ | refine zAC ?_ | refine zAD ?_ | refine zAL ?_ | (apply st_q; exact q1) | (apply zAI; exact e1)
  refine zAS (by exact s1) ((ebody_ok H c hc hpr nv cv vv _ G.wf (hN.mono G) oc ov).mono ?_)
  rintro _ h3 ⟨⟨na, nb, a1, l1, a2, l2, rfl, i1, k1, i2, k2, hbd⟩, g3⟩
  have G3 := G.trans g3
  have hqa := Hid.mk (hbd p hb.out).1
  have z1 := ones_node (n := na) i1.len k1.len
  have z2 := ones_node (n := nb) i2.len k2.len
  unfold nodeV
  clear hbd
  repeat with_reducible (apply st_q; exact q1)
  refine st_alloc G3.wf ?_
  rintro b4 h4 hb4 g4 o4
  refine st_alloc g4.wf ?_
  rintro b5 h5 hb5 g5 o5
  have l4 := g4.wf.lt o4
  replace o4 := g5.keep _ _ o4
  have m3 := G3.next
  have m4 := g4.next
  refine zAP (by exact e1) (by exact e1) (cs := [.int .i64 na.kind, .str na.name, a1, l1, .bool na.isOpen]) rfl rfl g5.wf o4 (by simp) z1 ?_
  rintro v6 h6 p6 o46
  simp only [List.take_zero, List.nil_append, List.length_cons, List.length_nil, List.drop_succ_cons, List.drop_zero, List.append_nil, Nat.zero_add, Nat.reduceAdd, List.drop_nil, List.cons_append] at o46
  have o56 := p6.keep b5 (by omega) _ o5
  refine zAP (by exact e1) (by exact e1) (cs := [.int .i64 nb.kind, .str nb.name, a2, l2, .bool nb.isOpen]) rfl rfl (p6.wf g5.wf) o56 (by simp) z2 ?_
  rintro v7 h7 p7 o57
  have g37 : Grow h3 h7 := p7.grow h3 G3.wf (p6.grow h3 G3.wf (g4.trans g5) (by omega)) (by omega)
  replace o46 := p7.keep b4 (by omega) _ o46
  have k17 := k1.mono g37
  have G7 := G3.trans g37
  clear o57 o56 o5 o4 o1 p6 p7 g4 g5
  have hll' : na.labels.length * 16 ≤ 140737488355328 := by rw [hqa.out]; exact hll
  repeat with_reducible first | refine zAA ?_ | refine zAB ?_ | refine zAC ?_ | refine zAD ?_ | (apply st_q; exact q1)
  refine zAS (by exact s1) ((CloneStr_ok H na.labels hll' l1 h7 G7.wf k17).mono ?_)
  rintro rv h8 ⟨B, g8⟩
  have hst := built_strs' B
  rw [hqa.out, ← hz2.out] at hst
  repeat' with_reducible first | refine zAA ?_ | refine zAB ?_ | refine zAG ?_ | (apply st_q; exact q1) | (apply zAE; exact n1; exact r1)
  exact ⟨hst, G7.trans g8⟩
end
end Go.Ab.S
end
section
/-
  What a node and a graph may be, by definition: the walks.
-/
namespace Go.Ab.S
open Go.Ab
set_option maxHeartbeats 4000000
theorem gt_zero (n : Nat) : decide ((Int.ofNat n : Int) > 0) = !(n == 0) := by
  cases n with
  | zero => rfl
  | succ n => simp
section
variable {fns : FuncId → Option AFunc} {summ : FuncId → List AVal → AHeap → Option (D (AVal × AHeap))}
variable (H : Has fns summ)
include H
theorem rHas_ok (l : List (List Nat)) (hn : l.length < 2 ^ 60) (s : List Nat) (v : AVal) (h : AHeap) (hv : StrsAt h v l) : Cl fns summ 42 [v, .str s] h fun r h' => r = .bool (l.contains s) ∧ h' = h := by
  refine H.go (fn := F_rHas) rfl (by decide) rfl rfl ?_
  unfold F_rHas
  dsimp only [qQ, qE, qN, gQ, gE, vi]
  have hlen := hv.len
  repeat with_reducible first | refine zAA ?_ | refine zAB ?_ | refine zAC ?_ | refine zAD ?_ | (apply st_q; exact q1)
  refine cd_count (N := l.length) (by omega) (fun j a hp => hp = h ∧ a.defers = [] ∧ ev a (.tmp 1) = some (.str s) ∧ ev a (.tmp 7) = some v ∧ l.contains s = (l.drop j).contains s)
    (by rintro j a hp t w (rfl | rfl | rfl) ⟨h1, h2, h3, h4, h5⟩ <;> exact ⟨h1, by rw [zAV]; exact h2, by exact e1, by exact e1, h5⟩) (by decide) ?_ ?_ ⟨rfl, by exact n1, by exact e1, by exact e1, rfl⟩ (by exact e1) (by exact e1)
  · rintro j a hp hj ⟨rfl, hd, t1, t7, hr⟩ hi hN
    obtain ⟨b, o, ver, ro, e, vs, hix, hget, hvo⟩ := hv.at (List.getElem?_eq_getElem hj)
    rw [List.drop_eq_getElem_cons hj, List.contains_cons] at hr
    cases he : eqL l[j] s
    · have hne : (s == l[j]) = false := by
        rw [eqL_eq] at he
        have : l[j] ≠ s := by simpa using he
        simpa using Ne.symm this
      rw [hne, Bool.false_or] at hr
      replace hr := Hid.mk hr
      repeat with_reducible first | refine zAA ?_ | refine zAJ ?_ | refine zAB ?_ | refine zAC ?_ | refine zAD ?_ | refine zAK ?_ | refine zAL ?_ | (apply st_q; exact q1) | (apply zAI; exact e1)
      exact ⟨⟨rfl, by exact n1, by exact e1, by exact e1, hr.out⟩, by exact e1, by exact e1⟩
    · have hne : (s == l[j]) = true := by
        rw [eqL_eq] at he
        have : l[j] = s := by simpa using he
        simp [this]
      rw [hne, Bool.true_or] at hr
      replace hr := Hid.mk hr
      repeat' with_reducible first | refine zAA ?_ | refine zAN ?_ | refine blk_ret ?_ | refine zAB ?_ | refine zAC ?_ | refine zAD ?_ | refine zAK ?_ | refine zAG ?_ | (apply st_q; exact q1) | (apply zAF; exact e1) | (apply zAE; exact n1; exact r1)
      exact ⟨by rw [hr.out], rfl⟩
  · rintro a hp ⟨rfl, hd, t1, t7, hr⟩
    rw [List.drop_length] at hr
    have hr' : Hid (l.contains s = false) := ⟨hr⟩
    clear hr
    repeat' with_reducible first | refine zAA ?_ | refine zAB ?_ | refine zAC ?_ | refine zAD ?_ | refine zAG ?_ | (apply st_q; exact q1) | (apply zAE; exact n1; exact r1)
    exact ⟨by rw [hr'.out], rfl⟩
theorem rmay_ok (n : Node) (hn : NodeSm n) (size : Int) (av lv : AVal) (h : AHeap) (hw : WF h) (ha : IntsAt h av n.args) (hl : StrsAt h lv n.labels) :
    Cl fns summ 65 [nodeV n av lv, .int .i64 size] h fun v h' => v = .bool (mayF n size) ∧ Grow h h' := by
  have hs := Hid.mk hn
  clear hn
  have hla := ha.len
  have hll := hl.len
  have n60 := hs.out.args
  have l60 := hs.out.labels
  unfold nodeV
  refine H.go (fn := F_rmay) rfl (by decide) rfl rfl ?_
  unfold F_rmay
  dsimp only [qQ, qE, qN, gQ, gE, vi]
  refine zAC (zAD ?_)
  refine st_box (by exact e1) (by exact cc) hw ?_
  rintro b2 h1 hb2 g1 o2
  repeat with_reducible first | refine zAA ?_ | refine zAB ?_ | refine zAC ?_ | refine zAD ?_ | (apply st_q; exact q1)
  refine cd_count (N := n.args.length) (by omega) (fun j a hp => hp = h1 ∧ a.defers = [] ∧ ev a (.tmp 1) = some (.int .i64 size) ∧ ev a (.tmp 2) = some (.ptr (some (b2, 0))) ∧ ev a (.tmp 10) = some av ∧ ((n.args.take j).any fun a => decide (a < 0) || decide (a ≥ size)) = false)
    (by rintro j a hp t w (rfl | rfl | rfl) ⟨k1, k2, k3, k4, k5, k6⟩ <;> exact ⟨k1, by rw [zAV]; exact k2, by exact e1, by exact e1, by exact e1, k6⟩) (by decide) ?_ ?_ ⟨rfl, by exact n1, by exact e1, by exact e1, by exact e1, rfl⟩ (by exact e1) (by exact e1)
  · rintro j a hp hj ⟨rfl, hd, t1, t2, t10, hr⟩ hi hN
    obtain ⟨b, o, ver, ro, e, vs, hix, hget, hvo⟩ := ha.at (List.getElem?_eq_getElem hj)
    replace hget := g1.keep _ _ hget
    have ht : ((n.args.take (j + 1)).any fun a => decide (a < 0) || decide (a ≥ size)) = (decide (n.args[j] < 0) || decide (n.args[j] ≥ size)) := by
      rw [List.take_succ_eq_append_getElem hj, List.any_append, hr]; simp
    have hbad : (decide (n.args[j] < 0) || decide (n.args[j] ≥ size)) = true → mayF n size = false := fun hh => by
      unfold mayF
      rw [if_pos (List.any_eq_true.2 ⟨_, List.getElem_mem hj, hh⟩)]
    cases k1 : decide (n.args[j] < 0)
    · cases k2 : decide (n.args[j] ≥ size)
      · rw [k1, k2] at ht
        replace ht := Hid.mk ht
        clear hbad
        repeat with_reducible first | refine zAA ?_ | refine zAJ ?_ | refine zAB ?_ | refine zAC ?_ | refine zAD ?_ | refine zAK ?_ | refine zAL ?_ | (apply st_q; exact q1) | (apply st_qT; exact e1; exact q1) | (apply zAI; exact e1)
        exact ⟨⟨rfl, by exact n1, by exact e1, by exact e1, by exact e1, ht.out⟩, by exact e1, by exact e1⟩
      · have hb := Hid.mk (hbad (by rw [k1, k2]; rfl))
        clear hbad ht
        repeat' with_reducible first | refine zAA ?_ | refine zAN ?_ | refine blk_ret ?_ | refine zAB ?_ | refine zAC ?_ | refine zAD ?_ | refine zAK ?_ | refine zAG ?_ | (apply st_q; exact q1) | (apply st_qT; exact e1; exact q1) | (apply zAF; exact e1) | (apply zAE; exact n1; exact r1)
        exact ⟨by rw [hb.out], g1⟩
    · have hb := Hid.mk (hbad (by rw [k1]; rfl))
      clear hbad ht
      repeat' with_reducible first | refine zAA ?_ | refine zAN ?_ | refine blk_ret ?_ | refine zAB ?_ | refine zAC ?_ | refine zAD ?_ | refine zAK ?_ | refine zAG ?_ | (apply st_q; exact q1) | (apply st_qF; exact e1) | (apply zAF; exact e1) | (apply zAE; exact n1; exact r1)
      exact ⟨by rw [hb.out], g1⟩
  · rintro a hp ⟨rfl, hd, t1, t2, t10, hr⟩
    rw [List.take_length] at hr
    have hm : Hid (mayF n size = if n.kind == 1 then ((n.labels.length == 0 && !n.isOpen) && eqL n.name []) && n.args.length == 0
      else if n.kind == 2 then ((n.labels.length == 0 && !n.isOpen) && arIs n.name) && n.args.length == arK n.name
      else if n.kind == 3 then (eqL n.name [] && n.labels.length == n.args.length) && risingF n.labels
      else false) := ⟨by simp only [mayF, hr]; rfl⟩
    clear hr
    have hz1 : ((Int.ofNat n.labels.length : Int) == 0) = (n.labels.length == 0) := by cases n.labels.length <;> rfl
    have hz2 : ((Int.ofNat n.args.length : Int) == 0) = (n.args.length == 0) := by cases n.args.length <;> rfl
    have hz3 : ((Int.ofNat n.args.length : Int) == 2) = (n.args.length == 2) := by rw [Bool.eq_iff_iff]; simp; omega
    have hz4 : ((Int.ofNat n.labels.length : Int) == Int.ofNat n.args.length) = (n.labels.length == n.args.length) := by rw [Bool.eq_iff_iff]; simp; omega
    have hz5 := gt_zero n.labels.length
    cases k1 : n.kind == 1
    · cases k2 : n.kind == 2
      · cases k3 : n.kind == 3
        · have hm' : Hid (mayF n size = false) := ⟨by rw [hm.out, k1, k2, k3]; rfl⟩
          clear hm
          repeat' with_reducible first | refine zAA ?_ | refine zAJ ?_ | refine zAB ?_ | refine zAC ?_ | refine zAD ?_ | refine zAK ?_ | refine zAL ?_ | refine zAG ?_ | (apply st_q; exact q1) | (apply zAI; exact e1) | (apply zAE; exact n1; exact r1)
          exact ⟨by rw [hm'.out], g1⟩
        · have hm' : Hid (mayF n size = ((eqL n.name [] && n.labels.length == n.args.length) && risingF n.labels)) := ⟨by rw [hm.out, k1, k2, k3]; rfl⟩
          clear hm
          repeat with_reducible first | refine zAA ?_ | refine zAB ?_ | refine zAC ?_ | refine zAD ?_ | refine zAK ?_ | (apply st_q; exact q1) | (apply zAF; exact e1) | (apply zAI; exact e1)
          refine cd_count (N := n.labels.length) (by omega) (fun j a hq => hq = hp ∧ a.defers = [] ∧ ev a (.tmp 2) = some (.ptr (some (b2, 0))) ∧ ev a (.tmp 97) = some lv ∧ risingF n.labels = risG (prevL n.labels j) (n.labels.drop j))
            (by rintro j a hp t w (rfl | rfl | rfl) ⟨k1, k2, k3, k4, k5⟩ <;> exact ⟨k1, by rw [zAV]; exact k2, by exact e1, by exact e1, k5⟩) (by decide) ?_ ?_ ⟨rfl, by exact n1, by exact e1, by exact e1, rfl⟩ (by exact e1) (by exact e1)
          · clear hz1 hz2 hz3 hz4 hz5 hd t1 t2 t10
            rintro j a hq hj ⟨rfl, hd, t2, t97, hr⟩ hi hN
            have hc : n.labels[j]? = some n.labels[j] := List.getElem?_eq_getElem hj
            obtain ⟨b, o, ver, ro, e, vs, hix, hget, hvo⟩ := hl.at hc
            replace hget := g1.keep _ _ hget
            have hfalse : risingF n.labels = false → Hid (mayF n size = false) := fun hh => ⟨by rw [hm'.out, hh, Bool.and_false]⟩
            repeat with_reducible first | refine zAA ?_ | refine zAB ?_ | refine zAC ?_ | refine zAD ?_ | refine zAK ?_ | (apply st_q; exact q1)
            refine zAS (by exact s1) ((rIsName_ok H _ (hs.out.texts _ (List.getElem_mem hj)) _).mono ?_)
            rintro _ _ ⟨rfl, rfl⟩
            rw [risG_drop hc] at hr
            cases hg : isNameF n.labels[j]
            · rw [hg] at hr
              have hb := hfalse (by rw [hr]; rfl)
              clear hfalse hr
              repeat' with_reducible first | refine zAA ?_ | refine zAN ?_ | refine blk_ret ?_ | refine zAB ?_ | refine zAC ?_ | refine zAD ?_ | refine zAG ?_ | (apply st_q; exact q1) | (apply st_qF; exact e1) | (apply st_qU; exact e1) | (apply zAF; exact e1) | (apply zAE; exact n1; exact r1)
              exact ⟨by rw [hb.out], g1⟩
            · rw [hg] at hr
              cases j with
              | zero =>
                have hz : decide (((0 : Nat) : Int) > 0) = false := rfl
                have hr' : Hid (risingF n.labels = risG (prevL n.labels (0 + 1)) (n.labels.drop (0 + 1))) := ⟨by rw [hr]; show _ = risG (n.labels[0]?) _; rw [hc]; rfl⟩
                clear hfalse hr
                repeat with_reducible first | refine zAA ?_ | refine zAJ ?_ | refine zAB ?_ | refine zAL ?_ | (apply st_q; exact q1) | (apply st_qT; exact e1; exact q1) | (apply st_qF; exact e1) | (apply zAI; exact e1)
                exact ⟨⟨rfl, by exact n1, by exact e1, by exact e1, hr'.out⟩, by exact e1, by exact e1⟩
              | succ j =>
                have hz : decide (((j + 1 : Nat) : Int) > 0) = true := by simp
                have hc' : n.labels[j]? = some n.labels[j] := List.getElem?_eq_getElem (by omega)
                obtain ⟨b', o', ver', ro', e', vs', hix', hget', hvo'⟩ := hl.at hc'
                replace hget' := g1.keep _ _ hget'
                have hw : IntKind.i64.wrap (((j + 1 : Nat) : Int) - 1) = (j : Nat) := by rw [wrap_small (by omega) (by omega)]; omega
                rw [prevL, hc'] at hr
                cases hlt : lessL n.labels[j] n.labels[j + 1]
                · simp only [hlt, Bool.and_false, Bool.false_and] at hr
                  have hb := hfalse hr
                  clear hfalse hr
                  repeat' with_reducible first | refine zAA ?_ | refine zAN ?_ | refine blk_ret ?_ | refine zAB ?_ | refine zAC ?_ | refine zAD ?_ | refine zAG ?_ | (apply st_q; exact q1) | (apply st_qT; exact e1; exact q1) | (apply zAF; exact e1) | (apply zAE; exact n1; exact r1)
                  exact ⟨by rw [hb.out], g1⟩
                · simp only [hlt, Bool.and_true, Bool.true_and] at hr
                  have hr' : Hid (risingF n.labels = risG (prevL n.labels (j + 1 + 1)) (n.labels.drop (j + 1 + 1))) := ⟨by rw [hr]; show _ = risG (n.labels[j + 1]?) _; rw [hc]⟩
                  clear hfalse hr
                  repeat with_reducible first | refine zAA ?_ | refine zAJ ?_ | refine zAB ?_ | refine zAL ?_ | (apply st_q; exact q1) | (apply st_qT; exact e1; exact q1) | (apply zAI; exact e1)
                  exact ⟨⟨rfl, by exact n1, by exact e1, by exact e1, hr'.out⟩, by exact e1, by exact e1⟩
          · clear hd t1 t2 t10
            rintro a hq ⟨rfl, hd, t2, t97, hr⟩
            rw [List.drop_length] at hr
            have hr' : Hid (mayF n size = (eqL n.name [] && n.labels.length == n.args.length)) := ⟨by rw [hm'.out, hr]; simp [risG]⟩
            clear hr
            cases d1 : eqL n.name []
            · rw [d1] at hr'
              repeat' with_reducible first | refine zAA ?_ | refine zAN ?_ | refine blk_ret ?_ | refine zAB ?_ | refine zAC ?_ | refine zAD ?_ | refine zAG ?_ | (apply st_q; exact q1) | (apply st_qF; exact e1) | (apply zAE; exact n1; exact r1)
              exact ⟨by rw [hr'.out]; simp, g1⟩
            · rw [d1] at hr'
              repeat' with_reducible first | refine zAA ?_ | refine zAN ?_ | refine blk_ret ?_ | refine zAB ?_ | refine zAC ?_ | refine zAD ?_ | refine zAG ?_ | (apply st_q; exact q1) | (apply st_qT; exact e1; exact q1) | (apply zAE; exact n1; exact r1)
              exact ⟨by rw [hr'.out]; simp, g1⟩
      · have hm' : Hid (mayF n size = (((n.labels.length == 0 && !n.isOpen) && arIs n.name) && n.args.length == arK n.name)) := ⟨by rw [hm.out, k1, k2]; rfl⟩
        clear hm
        cases c1 : n.labels.length == 0
        · have hb : Hid (mayF n size = false) := ⟨by rw [hm'.out, c1]; rfl⟩
          repeat' with_reducible first | refine zAA ?_ | refine zAN ?_ | refine blk_ret ?_ | refine zAB ?_ | refine zAC ?_ | refine zAD ?_ | refine zAK ?_ | refine zAG ?_ | (apply st_q; exact q1) | (apply st_qF; exact e1) | (apply zAF; exact e1) | (apply zAI; exact e1) | (apply zAE; exact n1; exact r1)
          exact ⟨by rw [hb.out], g1⟩
        cases c2 : n.isOpen
        rotate_left
        · have hb : Hid (mayF n size = false) := ⟨by rw [hm'.out, c1, c2]; rfl⟩
          repeat' with_reducible first | refine zAA ?_ | refine zAN ?_ | refine blk_ret ?_ | refine zAB ?_ | refine zAC ?_ | refine zAD ?_ | refine zAK ?_ | refine zAG ?_ | (apply st_q; exact q1) | (apply st_qT; exact e1; exact q1) | (apply zAF; exact e1) | (apply zAI; exact e1) | (apply zAE; exact n1; exact r1)
          exact ⟨by rw [hb.out], g1⟩
        cases c3 : eqL n.name [45, 62]
        · cases c4 : eqL n.name [42]
          · have hb : Hid (mayF n size = ((((eqL n.name [105, 110, 116] || eqL n.name [98, 111, 111, 108]) || eqL n.name [115, 116, 114, 105, 110, 103]) || eqL n.name [117, 110, 105, 116]) && n.args.length == 0)) := ⟨by
              rw [hm'.out, c1, c2]
              simp only [arIs, arK, c3, c4]
              cases eqL n.name [105, 110, 116] <;> cases eqL n.name [98, 111, 111, 108] <;> cases eqL n.name [115, 116, 114, 105, 110, 103] <;> cases eqL n.name [117, 110, 105, 116] <;> simp⟩
            clear hm'
            cases c5 : n.args.length == 0
            · have hb' : Hid (mayF n size = false) := ⟨by rw [hb.out, c5, Bool.and_false]⟩
              clear hb
              repeat' with_reducible first | refine zAA ?_ | refine zAN ?_ | refine blk_ret ?_ | refine zAB ?_ | refine zAC ?_ | refine zAD ?_ | refine zAK ?_ | refine zAL ?_ | refine zAG ?_ | (apply st_q; exact q1) | (apply st_qT; exact e1; exact q1) | (apply st_qF; exact e1) | (apply st_qU; exact e1) | (apply zAF; exact e1) | (apply zAI; exact e1) | (apply zAE; exact n1; exact r1)
              exact ⟨by rw [hb'.out], g1⟩
            · have hb' : Hid (mayF n size = ((((eqL n.name [105, 110, 116] || eqL n.name [98, 111, 111, 108]) || eqL n.name [115, 116, 114, 105, 110, 103]) || eqL n.name [117, 110, 105, 116]))) := ⟨by rw [hb.out, c5, Bool.and_true]⟩
              clear hb
              cases d1 : eqL n.name [105, 110, 116]
              rotate_left
              · rw [d1] at hb'
                repeat' with_reducible first | refine zAA ?_ | refine zAN ?_ | refine blk_ret ?_ | refine zAB ?_ | refine zAC ?_ | refine zAD ?_ | refine zAK ?_ | refine zAL ?_ | refine zAG ?_ | (apply st_q; exact q1) | (apply st_qT; exact e1; exact q1) | (apply st_qF; exact e1) | (apply zAF; exact e1) | (apply zAI; exact e1) | (apply zAE; exact n1; exact r1)
                exact ⟨by rw [hb'.out]; simp, g1⟩
              cases d2 : eqL n.name [98, 111, 111, 108]
              rotate_left
              · rw [d1, d2] at hb'
                repeat' with_reducible first | refine zAA ?_ | refine zAN ?_ | refine blk_ret ?_ | refine zAB ?_ | refine zAC ?_ | refine zAD ?_ | refine zAK ?_ | refine zAL ?_ | refine zAG ?_ | (apply st_q; exact q1) | (apply st_qT; exact e1; exact q1) | (apply st_qF; exact e1) | (apply zAF; exact e1) | (apply zAI; exact e1) | (apply zAE; exact n1; exact r1)
                exact ⟨by rw [hb'.out]; simp, g1⟩
              cases d3 : eqL n.name [115, 116, 114, 105, 110, 103]
              rotate_left
              · rw [d1, d2, d3] at hb'
                repeat' with_reducible first | refine zAA ?_ | refine zAN ?_ | refine blk_ret ?_ | refine zAB ?_ | refine zAC ?_ | refine zAD ?_ | refine zAK ?_ | refine zAL ?_ | refine zAG ?_ | (apply st_q; exact q1) | (apply st_qT; exact e1; exact q1) | (apply st_qF; exact e1) | (apply zAF; exact e1) | (apply zAI; exact e1) | (apply zAE; exact n1; exact r1)
                exact ⟨by rw [hb'.out]; simp, g1⟩
              · rw [d1, d2, d3] at hb'
                repeat' with_reducible first | refine zAA ?_ | refine zAN ?_ | refine blk_ret ?_ | refine zAB ?_ | refine zAC ?_ | refine zAD ?_ | refine zAK ?_ | refine zAL ?_ | refine zAG ?_ | (apply st_q; exact q1) | (apply st_qT; exact e1; exact q1) | (apply zAF; exact e1) | (apply zAI; exact e1) | (apply zAE; exact n1; exact r1)
                exact ⟨by rw [hb'.out]; simp, g1⟩
          · have hb : Hid (mayF n size = (n.args.length == 2)) := ⟨by
              rw [hm'.out, c1, c2]
              have : n.name = [42] := eqL_iff.1 c4
              rw [this]; rfl⟩
            clear hm'
            repeat' with_reducible first | refine zAA ?_ | refine zAN ?_ | refine blk_ret ?_ | refine zAB ?_ | refine zAC ?_ | refine zAD ?_ | refine zAK ?_ | refine zAL ?_ | refine zAG ?_ | (apply st_q; exact q1) | (apply st_qT; exact e1; exact q1) | (apply zAF; exact e1) | (apply zAI; exact e1) | (apply zAE; exact n1; exact r1)
            exact ⟨by rw [hb.out], g1⟩
        · have hb : Hid (mayF n size = (n.args.length == 2)) := ⟨by
              rw [hm'.out, c1, c2]
              have : n.name = [45, 62] := eqL_iff.1 c3
              rw [this]; rfl⟩
          clear hm'
          repeat' with_reducible first | refine zAA ?_ | refine zAN ?_ | refine blk_ret ?_ | refine zAB ?_ | refine zAC ?_ | refine zAD ?_ | refine zAK ?_ | refine zAL ?_ | refine zAG ?_ | (apply st_q; exact q1) | (apply st_qT; exact e1; exact q1) | (apply st_qF; exact e1) | (apply zAF; exact e1) | (apply zAI; exact e1) | (apply zAE; exact n1; exact r1)
          exact ⟨by rw [hb.out], g1⟩
    · have hm' : Hid (mayF n size = (((eqL n.name [] && n.args.length == 0) && n.labels.length == 0) && !n.isOpen)) := ⟨by
        rw [hm.out, k1]
        show (((n.labels.length == 0 && !n.isOpen) && eqL n.name []) && n.args.length == 0) = _
        cases n.labels.length == 0 <;> cases n.isOpen <;> cases eqL n.name [] <;> cases n.args.length == 0 <;> rfl⟩
      clear hm
      cases d1 : eqL n.name []
      · rw [d1] at hm'
        repeat' with_reducible first | refine zAA ?_ | refine zAN ?_ | refine blk_ret ?_ | refine zAB ?_ | refine zAC ?_ | refine zAD ?_ | refine zAK ?_ | refine zAG ?_ | (apply st_q; exact q1) | (apply st_qF; exact e1) | (apply zAF; exact e1) | (apply zAE; exact n1; exact r1)
        exact ⟨by rw [hm'.out]; simp, g1⟩
      cases d2 : n.args.length == 0
      · rw [d1, d2] at hm'
        repeat' with_reducible first | refine zAA ?_ | refine zAN ?_ | refine blk_ret ?_ | refine zAB ?_ | refine zAC ?_ | refine zAD ?_ | refine zAK ?_ | refine zAG ?_ | (apply st_q; exact q1) | (apply st_qT; exact e1; exact q1) | (apply st_qF; exact e1) | (apply zAF; exact e1) | (apply zAE; exact n1; exact r1)
        exact ⟨by rw [hm'.out]; simp, g1⟩
      cases d3 : n.labels.length == 0
      · rw [d1, d2, d3] at hm'
        repeat' with_reducible first | refine zAA ?_ | refine zAN ?_ | refine blk_ret ?_ | refine zAB ?_ | refine zAC ?_ | refine zAD ?_ | refine zAK ?_ | refine zAG ?_ | (apply st_q; exact q1) | (apply st_qT; exact e1; exact q1) | (apply st_qF; exact e1) | (apply zAF; exact e1) | (apply zAE; exact n1; exact r1)
        exact ⟨by rw [hm'.out]; simp, g1⟩
      · rw [d1, d2, d3] at hm'
        repeat' with_reducible first | refine zAA ?_ | refine zAN ?_ | refine blk_ret ?_ | refine zAB ?_ | refine zAC ?_ | refine zAD ?_ | refine zAK ?_ | refine zAG ?_ | (apply st_q; exact q1) | (apply st_qT; exact e1; exact q1) | (apply zAF; exact e1) | (apply zAE; exact n1; exact r1)
        exact ⟨by rw [hm'.out]; simp, g1⟩
theorem rCheck_ok (g : Graph) (hg : GraphSm g) (v : AVal) (h : AHeap) (hw : WF h) (hv : GraphAt h v g) : Cl fns summ 39 [v] h fun r h' => r = .int .i64 (zAT g) ∧ Grow h h' := by
  obtain ⟨nv, rfl, hN⟩ := hv
  have hlen := hN.len
  have sg := Hid.mk hg
  have n60 := sg.out.nodes
  clear hg
  refine H.go (fn := F_rCheck) rfl (by decide) rfl rfl ?_
  unfold F_rCheck
  dsimp only [qQ, qE, qN, gQ, gE, vi]
  refine zAC (zAD ?_)
  refine st_box (by exact e1) (by exact cc) hw ?_
  rintro b1 h1 hb1 g1 o1
  cases c8 : decide ((Int.ofNat g.nodes.length : Int) > 1048576)
  rotate_left
  · have hr : Hid (zAT g = 3) := ⟨by unfold zAT; rw [if_pos (of_decide_eq_true c8)]⟩
    repeat' with_reducible first | refine zAA ?_ | refine zAN ?_ | refine zAB ?_ | refine zAC ?_ | refine zAD ?_ | refine zAG ?_ | (apply st_q; exact q1) | (apply zAF; exact e1) | (apply zAE; exact n1; exact r1)
    exact ⟨by rw [hr.out], g1⟩
  cases c1 : decide (g.root < 0)
  rotate_left
  · have hr : Hid (zAT g = 2) := ⟨by unfold zAT; rw [if_neg (of_decide_eq_false c8), if_pos (of_decide_eq_true c1)]⟩
    repeat' with_reducible first | refine zAA ?_ | refine zAN ?_ | refine zAB ?_ | refine zAC ?_ | refine zAD ?_ | refine zAL ?_ | refine zAG ?_ | (apply st_q; exact q1) | (apply st_qF; exact e1) | (apply zAF; exact e1) | (apply zAI; exact e1) | (apply zAE; exact n1; exact r1)
    exact ⟨by rw [hr.out], g1⟩
  cases c2 : decide (g.root ≥ Int.ofNat g.nodes.length)
  rotate_left
  · have hr : Hid (zAT g = 2) := ⟨by unfold zAT; rw [if_neg (of_decide_eq_false c8), if_neg (of_decide_eq_false c1), if_pos (of_decide_eq_true c2)]⟩
    repeat' with_reducible first | refine zAA ?_ | refine zAN ?_ | refine zAB ?_ | refine zAC ?_ | refine zAD ?_ | refine zAL ?_ | refine zAG ?_ | (apply st_q; exact q1) | (apply st_qT; exact e1; exact q1) | (apply zAF; exact e1) | (apply zAI; exact e1) | (apply zAE; exact n1; exact r1)
    exact ⟨by rw [hr.out], g1⟩
  have hr : Hid (zAT g = if g.nodes.any (fun n => !mayF n g.nodes.length) then 2 else 0) := ⟨by unfold zAT; rw [if_neg (of_decide_eq_false c8), if_neg (of_decide_eq_false c1), if_neg (of_decide_eq_false c2)]⟩
  repeat with_reducible first | refine zAA ?_ | refine zAB ?_ | refine zAC ?_ | refine zAD ?_ | refine zAL ?_ | (apply st_q; exact q1) | (apply st_qT; exact e1; exact q1) | (apply zAI; exact e1)
  refine cd_count (N := g.nodes.length) (by omega) (fun j a hp => Grow h hp ∧ a.defers = [] ∧ ev a (.tmp 1) = some (.ptr (some (b1, 0))) ∧ ev a (.tmp 21) = some nv ∧ (∃ ver, hp.objs.get b1 = some (ver, .cells false 24 [nv, .int .i64 g.root])) ∧ ((g.nodes.take j).any fun n => !mayF n g.nodes.length) = false)
    (by rintro j a hp t w (rfl | rfl | rfl) ⟨k1, k2, k3, k4, k5⟩ <;> exact ⟨k1, by rw [zAV]; exact k2, by exact e1, by exact e1, k5⟩) (by decide) ?_ ?_ ⟨g1, by exact n1, by exact e1, by exact e1, ⟨_, o1⟩, rfl⟩ (by exact e1) (by exact e1)
  · clear o1 g1 c8 c1 c2
    rintro j a hp hj ⟨gp, hd, t1, t21, ⟨v1, o1⟩, hany⟩ hi hN'
    obtain ⟨b, o, ver, ro, e, vs, av, lv, hix, hget, hvl, hvo, _, _, _, _, _, ia, il⟩ := hN.at (List.getElem?_eq_getElem hj)
    replace hget := gp.keep _ _ hget
    have ht : ((g.nodes.take (j + 1)).any fun n => !mayF n g.nodes.length) = !mayF g.nodes[j] g.nodes.length := by
      rw [List.take_succ_eq_append_getElem hj, List.any_append, hany]; simp
    have hone := ones_node (n := g.nodes[j]) ia.len il.len
    have hmem : g.nodes[j] ∈ g.nodes := List.getElem_mem hj
    replace hmem := Hid.mk hmem
    replace ht := Hid.mk ht
    have l1 := gp.wf.lt o1
    clear hany
    generalize hX : g.nodes[j] = X at *
    repeat with_reducible first | refine zAC ?_ | refine zAD ?_ | refine zAK ?_ | (apply st_q; exact q1)
    refine st_alloc gp.wf ?_
    rintro b4 h4 hb4 g4 o4
    replace o1 := g4.keep _ _ o1
    refine zAP (by exact e1) (by exact e1) (cs := [.int .i64 X.kind, .str X.name, av, lv, .bool X.isOpen]) rfl rfl g4.wf o4 (by simp) hone ?_
    rintro v5 h5 p5 o5
    simp only [List.take_zero, List.nil_append, List.length_cons, List.length_nil, List.drop_succ_cons, List.drop_zero, List.append_nil, Nat.zero_add, Nat.reduceAdd, List.drop_nil, List.cons_append] at o5
    have gp5 : Grow hp h5 := p5.grow hp gp.wf g4 hb4
    replace o1 := p5.keep b1 (by omega) _ o1
    have ht5 := take5
    have G5 := gp.trans gp5
    clear o4 g4 p5 hget hvo hvl hix
    repeat with_reducible first | refine zAA ?_ | refine zAB ?_ | refine zAC ?_ | refine zAD ?_ | (apply st_q; exact q1)
    refine zAS (by exact s1) ((rmay_ok H X (sg.out.all _ hmem.out) (Int.ofNat g.nodes.length) av lv h5 gp5.wf (ia.mono G5) (il.mono G5)).mono ?_)
    rintro _ h6 ⟨rfl, g6⟩
    replace o1 := g6.keep _ _ o1
    have G6 := G5.trans g6
    have hmq : mayF X (Int.ofNat g.nodes.length) = mayF X g.nodes.length := rfl
    rw [hmq]
    cases hmx : mayF X g.nodes.length
    · have hb : Hid (zAT g = 2) := ⟨by rw [hr.out, if_pos (List.any_eq_true.2 ⟨_, hmem.out, by rw [hmx]; rfl⟩)]⟩
      clear hmq
      repeat' with_reducible first | refine zAA ?_ | refine zAN ?_ | refine blk_ret ?_ | refine zAB ?_ | refine zAC ?_ | refine zAD ?_ | refine zAG ?_ | (apply st_q; exact q1) | (apply zAF; exact e1) | (apply zAE; exact n1; exact r1)
      exact ⟨by rw [hb.out], G6⟩
    · rw [hmx] at ht
      clear hmq
      repeat with_reducible first | refine zAA ?_ | refine zAJ ?_ | refine zAB ?_ | refine zAL ?_ | (apply st_q; exact q1) | (apply zAI; exact e1)
      exact ⟨⟨G6, by exact n1, by exact e1, by exact e1, ⟨_, o1⟩, ht.out⟩, by exact e1, by exact e1⟩
  · rintro a hp ⟨gp, hd, t1, t21, _, hany⟩
    rw [List.take_length] at hany
    have hb : Hid (zAT g = 0) := ⟨by rw [hr.out, hany]; rfl⟩
    clear hany
    repeat' with_reducible first | refine zAA ?_ | refine zAB ?_ | refine zAC ?_ | refine zAD ?_ | refine zAG ?_ | (apply st_q; exact q1) | (apply zAE; exact n1; exact r1)
    exact ⟨by rw [hb.out], gp⟩
end
end Go.Ab.S
end
