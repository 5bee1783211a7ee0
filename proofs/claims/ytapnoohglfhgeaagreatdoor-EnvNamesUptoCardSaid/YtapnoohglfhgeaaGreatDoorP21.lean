import Derived.Test.YtapnoohglfhgeaaGreatDoorP18
import Derived.Test.YtapnoohglfhgeaaGreatDoorP19
import Derived.Test.YtapnoohglfhgeaaGreatDoorP20
/-
  Part 21 of the proof.
-/
set_option linter.all false
section
/-
  Rows of names, one behind the other; whether a class's type may be; its fields.
-/
namespace Go.Ab.S
open Go.Ab
set_option maxHeartbeats 4000000
structure HasGrow (summ : FuncId → List AVal → AHeap → Option (D (AVal × AHeap))) : Prop where
  zero : ∀ h, summ 62 [.slice none 0, .int .i64 0] h = some (.ret (.slice none 0, h))
  more : ∀ (n : Nat) h, 0 < n → n ≤ 2 ^ 31 → summ 62 [.slice none 0, .int .i64 (n : Nat)] h = some (.ret (.slice (some (h.next, 0)) 0, newA h (.cells false 9 [])))
theorem sort_nil : sortL ([] : List (List Nat)) = [] := List.length_eq_zero_iff.1 (by rw [sortL_len]; rfl)
theorem wrap_add {a b : Nat} (h : a + b < 2 ^ 62) : IntKind.i64.wrap ((a : Int) + (b : Int)) = ((a + b : Nat) : Int) := by
  have e62 : (2 : Nat) ^ 62 = 4611686018427387904 := by decide
  rw [wrap_small (by omega) (by omega)]; omega
theorem built_strs' {h : AHeap} {base : Nat} {v : AVal} {l : List (List Nat)} (B : Built h base 9 1 v l.length (l.map AVal.str)) : StrsAt h v l :=
  B.sl (by decide) (xs := l.map strC) (by rw [strsFlat]) (by intro c hc; obtain ⟨a, _, rfl⟩ := List.mem_map.1 hc; rfl) (by simp)
section
variable {fns : FuncId → Option AFunc} {summ : FuncId → List AVal → AHeap → Option (D (AVal × AHeap))} {ro : Option Nat}
theorem st_bslice2 {d : Option Tmp} {e : TypeId} {z v u : AVal} {x y : AOpd} {l : List Step} {a : AAct} {h : AHeap} {K : AAct → AHeap → Prop} (hx : ev a x = some v) (hy : ev a y = some u) (hv : cellsA v = [v]) (hu : cellsA u = [u]) (w : WF h)
    (k : ∀ b h', h.next ≤ b → Grow h h' → h'.objs.get b = some (b, .cells false e [v, u]) → St fns summ ro l (putA a d (.slice (some (b, 0)) 2)) h' K) : St fns summ ro (⟨d, none, .e (.bslice e 1 2 [z] [(0, x), (1, y)])⟩ :: l) a h K := by
  refine st_t (by intro _ _ hh; cases hh) (by intro _ _ hh; cases hh) (v := .slice (some (h.next, 0)) 2) (h' := newA h (.cells false e [v, u])) ?_ (k _ _ (Nat.le_refl _) ((Grow.refl w).new _) (zAb _ _))
  simp [turnA, rowA, rep, hx, hy, hv, hu]
/-- A row put behind another one. -/
theorem st_appStrs (H : Has fns summ) {d : Option Tmp} {x y : AOpd} {l : List Step} {a : AAct} {h : AHeap} {K : AAct → AHeap → Prop} {base : Nat} {v u : AVal} {p q : List (List Nat)} (hx : ev a x = some v) (hy : ev a y = some u) (B : Built h base 9 1 v p.length (p.map AVal.str)) (hu : StrsAt h u q) (hl : p.length + q.length ≤ 2 ^ 31) (w : WF h) (hb : base ≤ h.next)
    (k : ∀ v' h', Built h' base 9 1 v' (p ++ q).length ((p ++ q).map AVal.str) → WF h' → h.next ≤ h'.next → (∀ h0, WF h0 → Grow h0 h → h0.next ≤ base → Grow h0 h') → St fns summ ro l (putA a d v') h' K) : St fns summ ro (⟨d, none, .e (.append 9 1 16 x y)⟩ :: l) a h K := by
  rcases Nat.eq_zero_or_pos q.length with h0 | h0
  · have hq0 : q = [] := List.length_eq_zero_iff.1 h0
    subst hq0
    have hla : lenA u = some 0 := by
      have := hu.1
      cases u <;> first | exact this | cases this
    have hap : appendA h 9 1 16 v u = some (v, h) := by
      rcases B with ⟨rfl, _⟩ | ⟨rfl, _⟩ | ⟨b, vs, ver, _, rfl, _⟩ <;> simp only [appendA, hla]
    refine st_t (by intro _ _ hh; cases hh) (by intro _ _ hh; cases hh) (v := v) (h' := h) ?_ (k v h (by rw [List.append_nil]; exact B) w (Nat.le_refl _) fun _ _ g _ => g)
    simp only [turnA, hx, hy, hap]
  · rcases slForms hu.1 with rfl | ⟨b, o, rfl⟩ | ⟨_, hh⟩ | ⟨_, hh⟩
    · obtain ⟨_, b, o, ver, ro, e, vs, h1, _⟩ := hu.2 0 _ (List.getElem?_eq_getElem (by simpa using h0))
      cases h1
    · obtain ⟨_, ver, rb, eb, vs, h2, h3, h4, h5⟩ := SlAt_cells hu (by simpa using h0) (by decide)
      have hfl := strsFlat q
      rw [hfl] at h4 h5
      refine st_append (n := p.length) (cells := p.map AVal.str) hx hy B (m := q.length) (by simp [lenA]) h0 (new := q.map AVal.str) ?_ (by simp [List.all_map, one]) (roomOK H (by decide) hl) (by simp) w hb ?_
      · rw [List.length_map] at h3 h4
        simp only [cellsOfA, h2, if_pos h3, h4]
      · intro v' h' B' _ w' n' g _
        refine k v' h' ?_ w' n' g
        rw [List.length_append, List.map_append]; exact B'
    · have : q.length = 0 := by simpa using hh
      omega
    · have : q.length = 0 := by simpa using hh
      omega
end
section
variable {fns : FuncId → Option AFunc} {summ : FuncId → List AVal → AHeap → Option (D (AVal × AHeap))}
variable (H : Has fns summ) (HG : HasGrow summ)
include H HG
theorem ConcatStr_ok (a b : List (List Nat)) (hl : a.length + b.length ≤ 2 ^ 31) (cv vv : AVal) (v : AVal) (h : AHeap) (hw : WF h) (hv : SlAt h 1 v [[cv], [vv]]) (ha : StrsAt h cv a) (hb : StrsAt h vv b) :
    Cl fns summ 36 [v] h fun r h' => Built h' h.next 9 1 r (a ++ b).length ((a ++ b).map AVal.str) ∧ Grow h h' := by
  have e31 : (2 : Nat) ^ 31 = 2147483648 := by decide
  have hlen : lenO v = some 2 := hv.1
  have hla := ha.len
  have hlb := hb.len
  obtain ⟨_, b0, o0, ver0, ro0, et0, vs0, hix0, hg0, hv0⟩ := hv.2 0 [cv] rfl
  obtain ⟨_, b1, o1, ver1, ro1, et1, vs1, hix1, hg1, hv1⟩ := hv.2 1 [vv] rfl
  replace hv0 := one_of_take hv0
  replace hv1 := one_of_take hv1
  clear hv
  refine H.go (fn := F_ConcatStr) rfl (by decide) rfl rfl ?_
  unfold F_ConcatStr
  dsimp only [qQ, qE, qN, gQ, gE, vi]
  repeat with_reducible first | refine zAA ?_ | refine zAB ?_ | refine zAC ?_ | refine zAD ?_ | (apply st_q; exact q1)
  refine cd_count (N := 2) (by decide) (fun j a' hp => hp = h ∧ a'.defers = [] ∧ ev a' (.tmp 0) = some v ∧ ev a' (.tmp 9) = some v ∧ ev a' (.tmp 3) = some (.int .i64 ((if j = 0 then 0 else if j = 1 then a.length else a.length + b.length : Nat) : Int)))
    (by rintro j a hp t w (rfl | rfl | rfl) ⟨h1, h2, h3, h4, h5⟩ <;> exact ⟨h1, by rw [zAg]; exact h2, by exact e1, by exact e1, by exact e1⟩) (by decide) ?_ ?_ ⟨rfl, by exact n1, by exact e1, by exact e1, by exact e1⟩ (by exact e1) (by exact e1)
  · rintro j A hp hj ⟨rfl, hd, t0, t9, t3⟩ hi hn
    rcases (by omega : j = 0 ∨ j = 1) with rfl | rfl
    · replace t3 : ev A (.tmp 3) = some (.int .i64 ((0 : Nat) : Int)) := t3
      have hw1 : IntKind.i64.wrap (((0 : Nat) : Int) + Int.ofNat a.length) = ((a.length : Nat) : Int) := by
        rw [show (Int.ofNat a.length : Int) = ((a.length : Nat) : Int) from rfl, wrap_add (by omega), Nat.zero_add]
      have hd1 : decide (((a.length : Nat) : Int) < 0) = false := by simp
      repeat with_reducible first | refine zAA ?_ | refine zAE ?_ | refine zAB ?_ | refine zAC ?_ | refine zAD ?_ | refine zAF ?_ | refine zAJ ?_ | (apply st_q; exact q1) | (apply zAH; exact e1)
      exact ⟨⟨rfl, by exact n1, by exact e1, by exact e1, by exact e1⟩, by exact e1, by exact e1⟩
    · replace t3 : ev A (.tmp 3) = some (.int .i64 ((a.length : Nat) : Int)) := t3
      have hw1 : IntKind.i64.wrap (((a.length : Nat) : Int) + Int.ofNat b.length) = ((a.length + b.length : Nat) : Int) := by
        rw [show (Int.ofNat b.length : Int) = ((b.length : Nat) : Int) from rfl, wrap_add (by omega)]
      have hd1 : decide (((a.length + b.length : Nat) : Int) < 0) = false := by simp; omega
      repeat with_reducible first | refine zAA ?_ | refine zAE ?_ | refine zAB ?_ | refine zAC ?_ | refine zAD ?_ | refine zAF ?_ | refine zAJ ?_ | (apply st_q; exact q1) | (apply zAH; exact e1)
      exact ⟨⟨rfl, by exact n1, by exact e1, by exact e1, by exact e1⟩, by exact e1, by exact e1⟩
  · rintro A hp ⟨rfl, hd, t0, t9, t3⟩
    replace t3 : ev A (.tmp 3) = some (.int .i64 ((a.length + b.length : Nat) : Int)) := t3
    have hgrow : ∃ gv h2, summ 62 [.slice none 0, .int .i64 ((a.length + b.length : Nat) : Int)] hp = some (.ret (gv, h2)) ∧ Built h2 hp.next 9 1 gv ([] : List (List Nat)).length (([] : List (List Nat)).map AVal.str) ∧ Grow hp h2 := by
      rcases Nat.eq_zero_or_pos (a.length + b.length) with h0 | h0
      · rw [h0]; exact ⟨_, _, HG.zero hp, .inl ⟨rfl, rfl, rfl⟩, Grow.refl hw⟩
      · exact ⟨_, _, HG.more _ hp h0 (by omega), .inr (.inr ⟨hp.next, [], hp.next, Nat.le_refl _, rfl, zAb _ _, by simp, rfl⟩), (Grow.refl hw).new _⟩
    obtain ⟨gv, h2, hsm, B, g2⟩ := hgrow
    repeat with_reducible first | refine zAA ?_ | refine zAC ?_ | refine zAD ?_ | (apply st_q; exact q1)
    refine zAd (by exact s1) (cl_summ hsm ?_)
    rw [D.sat_ret]
    clear hsm t3 t9
    repeat with_reducible first | refine zAA ?_ | refine zAB ?_ | refine zAC ?_ | refine zAD ?_ | (apply st_q; exact q1)
    refine cd_count (N := 2) (by decide) (fun j a' h3 => WF h3 ∧ Grow hp h3 ∧ hp.next ≤ h3.next ∧ a'.defers = [] ∧ ev a' (.tmp 25) = some v ∧ ∃ gv, ev a' (.tmp 6) = some gv ∧ Built h3 hp.next 9 1 gv (if j = 0 then [] else if j = 1 then a else a ++ b : List (List Nat)).length ((if j = 0 then [] else if j = 1 then a else a ++ b : List (List Nat)).map AVal.str))
      (by rintro j a hp t w (rfl | rfl | rfl) ⟨k0, k1, k2, k3, k4, gv, k5, k6⟩ <;> exact ⟨k0, k1, k2, by rw [zAg]; exact k3, by exact e1, gv, by exact e1, k6⟩) (by decide) ?_ ?_ ⟨g2.wf, g2, g2.next, by exact n1, by exact e1, gv, by exact e1, B⟩ (by exact e1) (by exact e1)
    · clear B g2
      rintro j A h3 hj ⟨w3, g3, n3, hd, t25, gv, t6, B⟩ hi hn
      rcases (by omega : j = 0 ∨ j = 1) with rfl | rfl
      · replace B : Built h3 hp.next 9 1 gv ([] : List (List Nat)).length (([] : List (List Nat)).map AVal.str) := B
        replace hg0 := g3.keep _ _ hg0
        repeat with_reducible first | refine zAA ?_ | refine zAB ?_ | refine zAC ?_ | refine zAD ?_ | refine zAF ?_ | (apply st_q; exact q1)
        refine st_appStrs H (by exact e1) (by exact e1) B (ha.mono g3) (by simp; omega) w3 n3 ?_
        intro v' h4 B' w4 n4 g4
        rw [List.nil_append] at B'
        repeat with_reducible first | refine zAA ?_ | refine zAE ?_ | refine zAB ?_ | (apply st_q; exact q1)
        exact ⟨⟨w4, g4 hp hw g3 (Nat.le_refl _), by omega, by exact n1, by exact e1, v', by exact e1, B'⟩, by exact e1, by exact e1⟩
      · replace B : Built h3 hp.next 9 1 gv a.length (a.map AVal.str) := B
        replace hg1 := g3.keep _ _ hg1
        repeat with_reducible first | refine zAA ?_ | refine zAB ?_ | refine zAC ?_ | refine zAD ?_ | refine zAF ?_ | (apply st_q; exact q1)
        refine st_appStrs H (by exact e1) (by exact e1) B (hb.mono g3) hl w3 n3 ?_
        intro v' h4 B' w4 n4 g4
        repeat with_reducible first | refine zAA ?_ | refine zAE ?_ | refine zAB ?_ | (apply st_q; exact q1)
        exact ⟨⟨w4, g4 hp hw g3 (Nat.le_refl _), by omega, by exact n1, by exact e1, v', by exact e1, B'⟩, by exact e1, by exact e1⟩
    · rintro A h3 ⟨w3, g3, n3, hd, t25, gv, t6, B'⟩
      replace B' : Built h3 hp.next 9 1 gv (a ++ b).length ((a ++ b).map AVal.str) := B'
      clear B g2
      repeat' with_reducible first | refine zAA ?_ | refine zAB ?_ | refine zAC ?_ | refine zAD ?_ | refine zAI ?_ | (apply st_q; exact q1) | (apply zAK; exact n1; exact r1)
      exact ⟨B', g3⟩
variable (HS : HasSort summ)
include HS
/-- A class as a value. -/
def clsV (c : CDef) (nv cv vv : AVal) : AVal := .agg [.int .i64 c.params, nv, .int .i64 c.g.root, cv, vv]
/-- So small that no count goes round. -/
structure CSm (c : CDef) : Prop where
  g : GraphSm c.g
  conc : ∀ s ∈ c.conc, s.length < 2 ^ 60
  virt : ∀ s ∈ c.virt, s.length < 2 ^ 60
  sum : c.conc.length + c.virt.length ≤ 2 ^ 31
theorem CheckClass_ok (c : CDef) (hs : CSm c) (nv cv vv : AVal) (h : AHeap) (hw : WF h) (hN : NodesAt h nv c.g.nodes) (hcv : StrsAt h cv c.conc) (hvv : StrsAt h vv c.virt) :
    Cl fns summ 13 [.agg [.int .i64 c.params, nv, .int .i64 c.g.root, cv, vv]] h fun r h' => r = .int .i64 (ckF c) ∧ Grow h h' := by
  have e31 : (2 : Nat) ^ 31 = 2147483648 := by decide
  have e60 : (2 : Nat) ^ 60 = 1152921504606846976 := by decide
  have oc := zAW hcv.len
  have ov := zAW hvv.len
  have sc := Hid.mk hs
  clear hs
  refine H.go (fn := F_CheckClass) rfl (by decide) rfl rfl ?_
  unfold F_CheckClass
  dsimp only [qQ, qE, qN, gQ, gE, vi]
  refine zAC (zAD ?_)
  refine st_box (by exact e1) (by exact cc) hw ?_
  rintro b1 h1 hb1 g1 o1
  have ht2 := take21
  have ht5 := take5
  repeat with_reducible first | refine zAA ?_ | refine zAB ?_ | refine zAC ?_ | refine zAD ?_ | (apply st_q; exact q1)
  refine zAd (by exact s1) ((Check_ok H c.g sc.out.g _ h1 g1.wf ⟨nv, rfl, hN.mono g1⟩).mono ?_)
  rintro _ h2 ⟨rfl, g2⟩
  replace o1 := g2.keep _ _ o1
  have G := g1.trans g2
  cases hck : (zAh c.g != 0)
  rotate_left
  · have hr : ckF c = zAh c.g := by
      unfold ckF; rw [if_pos (by simpa using hck)]
    replace hr := Hid.mk hr
    repeat' with_reducible first | refine zAA ?_ | refine zAL ?_ | refine zAB ?_ | refine zAC ?_ | refine zAD ?_ | refine zAI ?_ | (apply st_q; exact q1) | (apply zAG; exact e1) | (apply zAK; exact n1; exact r1)
    exact ⟨by rw [hr.out], G⟩
  have hc : zAh c.g = 0 := by simpa using hck
  have hr : ckF c = if headOK c then (match bodyF c with
    | none => 2
    | some p => if eqLL (sortL (c.conc ++ c.virt)) (zAR c.g p.2).labels then 0 else 2) else 2 := by
    unfold ckF; rw [if_neg (by simpa using hc)]; rfl
  replace hr := Hid.mk hr
  replace hc := Hid.mk hc
  have bad : headOK c = false → Hid (ckF c = 2) := fun hh => ⟨by rw [hr.out, hh]; rfl⟩
  unfold headOK at bad
  cases c1 : decide (c.params < 0)
  rotate_left
  · have hb := bad (by rw [c1]; rfl)
    clear bad
    repeat' with_reducible first | refine zAA ?_ | refine zAL ?_ | refine zAB ?_ | refine zAC ?_ | refine zAD ?_ | refine zAJ ?_ | refine zAI ?_ | (apply st_q; exact q1) | (apply zAi; exact e1) | (apply st_eF; exact e1) | (apply zAG; exact e1) | (apply zAH; exact e1) | (apply zAK; exact n1; exact r1)
    exact ⟨by rw [hb.out], G⟩
  cases c2 : decide (c.params > 100)
  rotate_left
  · have hb := bad (by rw [c1, c2]; rfl)
    clear bad
    repeat' with_reducible first | refine zAA ?_ | refine zAL ?_ | refine zAB ?_ | refine zAC ?_ | refine zAD ?_ | refine zAJ ?_ | refine zAI ?_ | (apply st_q; exact q1) | (apply zAe; exact e1; exact q1) | (apply zAi; exact e1) | (apply st_eF; exact e1) | (apply zAG; exact e1) | (apply zAH; exact e1) | (apply zAK; exact n1; exact r1)
    exact ⟨by rw [hb.out], G⟩
  repeat with_reducible first | refine zAA ?_ | refine zAB ?_ | refine zAC ?_ | refine zAD ?_ | refine zAJ ?_ | (apply st_q; exact q1) | (apply zAe; exact e1; exact q1) | (apply zAH; exact e1)
  refine st_callT (by exact e1) (by exact s1) ((erising_ok H c.conc sc.out.conc (by have := sc.out.sum; omega) cv h2 (hcv.mono G)).mono ?_)
  rintro _ _ ⟨rfl, rfl⟩
  cases c3 : risingF c.conc
  · have hb := bad (by rw [c1, c2, c3]; rfl)
    clear bad
    repeat' with_reducible first | refine zAA ?_ | refine zAL ?_ | refine zAB ?_ | refine zAC ?_ | refine zAD ?_ | refine zAI ?_ | (apply st_q; exact q1) | (apply zAe; exact e1; exact q1) | (apply zAi; exact e1) | (apply st_eF; exact e1) | (apply zAG; exact e1) | (apply zAK; exact n1; exact r1)
    exact ⟨by rw [hb.out], G⟩
  repeat with_reducible first | (apply st_q; exact q1) | (apply zAe; exact e1; exact q1)
  refine st_callT (by exact e1) (by exact s1) ((erising_ok H c.virt sc.out.virt (by have := sc.out.sum; omega) vv _ (hvv.mono G)).mono ?_)
  rintro _ _ ⟨rfl, rfl⟩
  cases c4 : risingF c.virt
  · have hb := bad (by rw [c1, c2, c3, c4]; rfl)
    clear bad
    repeat' with_reducible first | refine zAA ?_ | refine zAL ?_ | refine zAB ?_ | refine zAC ?_ | refine zAD ?_ | refine zAI ?_ | (apply st_q; exact q1) | (apply zAe; exact e1; exact q1) | (apply zAG; exact e1) | (apply zAK; exact n1; exact r1)
    exact ⟨by rw [hb.out], G⟩
  have hh : headOK c = true := by unfold headOK; rw [c1, c2, c3, c4]; rfl
  have hr' : Hid (ckF c = match bodyF c with
    | none => 2
    | some p => if eqLL (sortL (c.conc ++ c.virt)) (zAR c.g p.2).labels then 0 else 2) := ⟨by rw [hr.out, hh]; rfl⟩
  have hpr : 0 ≤ c.params ∧ c.params ≤ 100 := by
    have := of_decide_eq_false c1
    have := of_decide_eq_false c2
    omega
  have hby : BytesL (c.conc ++ c.virt) := fun s hs => by
    rcases List.mem_append.1 hs with hs | hs
    · exact rising_bytes c3 s hs
    · exact rising_bytes c4 s hs
  replace hby := Hid.mk hby
  clear bad c1 c2 c3 c4 hr hh hck
  repeat with_reducible first | refine zAA ?_ | refine zAB ?_ | refine zAC ?_ | refine zAD ?_ | refine zAJ ?_ | (apply st_q; exact q1) | (apply zAe; exact e1; exact q1) | (apply zAH; exact e1)
  refine zAd (by exact s1) ((ebody_ok H c hc.out hpr nv cv vv _ G.wf (hN.mono G) oc ov).mono ?_)
  rintro _ h3 ⟨⟨na, nb, a1, l1, a2, l2, rfl, i1, k1, i2, k2, hbd⟩, g3⟩
  replace o1 := g3.keep _ _ o1
  have G3 := G.trans g3
  have z1 := ones_node (n := na) i1.len k1.len
  have z2 := ones_node (n := nb) i2.len k2.len
  replace hbd := Hid.mk hbd
  unfold nodeV
  repeat with_reducible (apply st_q; exact q1)
  refine st_alloc G3.wf ?_
  rintro b4 h4 hb4 g4 o4
  refine st_alloc g4.wf ?_
  rintro b5 h5 hb5 g5 o5
  have l4 := g4.wf.lt o4
  replace o4 := g5.keep _ _ o4
  have m3 := G3.next
  have m4 := g4.next
  refine zAT (by exact e1) (by exact e1) (cs := [.int .i64 na.kind, .str na.name, a1, l1, .bool na.isOpen]) rfl rfl g5.wf o4 (by simp) z1 ?_
  rintro v6 h6 p6 o46
  simp only [List.take_zero, List.nil_append, List.length_cons, List.length_nil, List.drop_succ_cons, List.drop_zero, List.append_nil, Nat.zero_add, Nat.reduceAdd, List.drop_nil, List.cons_append] at o46
  have o56 := p6.keep b5 (by omega) _ o5
  refine zAT (by exact e1) (by exact e1) (cs := [.int .i64 nb.kind, .str nb.name, a2, l2, .bool nb.isOpen]) rfl rfl (p6.wf g5.wf) o56 (by simp) z2 ?_
  rintro v7 h7 p7 o57
  simp only [List.take_zero, List.nil_append, List.length_cons, List.length_nil, List.drop_succ_cons, List.drop_zero, List.append_nil, Nat.zero_add, Nat.reduceAdd, List.drop_nil, List.cons_append] at o57
  have g37 : Grow h3 h7 := p7.grow h3 G3.wf (p6.grow h3 G3.wf (g4.trans g5) (by omega)) (by omega)
  replace o1 := g37.keep _ _ o1
  have G7 := G3.trans g37
  have k27 := k2.mono g37
  have y1 := cells_of_len hcv.len
  have y2 := cells_of_len hvv.len
  clear o46 p6 p7 o56 g4 g5 o4 o5 i1 k1 i2 k2 hb4 hb5 l4 m3 m4 g37 z1 z2
  repeat with_reducible first | refine zAA ?_ | refine zAB ?_ | refine zAC ?_ | refine zAD ?_ | (apply st_q; exact q1)
  refine st_bslice2 (by exact e1) (by exact e1) y1 y2 G7.wf ?_
  rintro b8 h8 hb8 g8 o8
  have hsl : SlAt h8 1 (.slice (some (b8, 0)) 2) [[cv], [vv]] := by
    refine ⟨rfl, fun i x hx => ?_⟩
    match i with
    | 0 => cases hx; exact ⟨rfl, b8, 0, _, _, _, _, rfl, o8, rfl⟩
    | 1 => cases hx; exact ⟨rfl, b8, 1, _, _, _, _, rfl, o8, rfl⟩
    | i + 2 => simp at hx
  replace o1 := g8.keep _ _ o1
  replace o57 := g8.keep _ _ o57
  have G8 := G7.trans g8
  have k28 := k27.mono g8
  skip
  refine zAd (by exact s1) ((ConcatStr_ok H HG c.conc c.virt sc.out.sum cv vv _ h8 g8.wf hsl (hcv.mono G8) (hvv.mono G8)).mono ?_)
  rintro rv h9 ⟨B, g9⟩
  clear hsl o8 y1 y2 k27 g8
  -- sorted
  have hsort : ∃ (h10 : AHeap), summ 37 [rv] h9 = some (.ret (.tuple [], h10)) ∧ StrsAt h10 rv (sortL (c.conc ++ c.virt)) ∧ Grow h8 h10 := by
    generalize hL : c.conc ++ c.virt = L at B hby
    rcases B with ⟨rfl, h0, _⟩ | ⟨rfl, h0, _⟩ | ⟨b, vs, ver, hb, rfl, ob, hlen, htk⟩
    · have : L = [] := List.length_eq_zero_iff.1 h0
      subst this
      exact ⟨h9, HS.none h9, by rw [sort_nil]; exact strs_nil h9, g9⟩
    · have : L = [] := List.length_eq_zero_iff.1 h0
      subst this
      exact ⟨h9, HS.zero h9, by rw [sort_nil]; exact ⟨rfl, fun i x hx => by simp at hx⟩, g9⟩
    · rw [Nat.mul_one] at hlen htk
      have hl : L.length ≤ 2 ^ 31 := by rw [← hL, List.length_append]; exact sc.out.sum
      refine ⟨_, HS.some L (fun s hs c hc => hby.out s hs c hc) hl h9 b ver vs g9.wf ob hlen htk, ?_, g9.put (by exact G8.wf) _ hb (g9.wf.lt ob)⟩
      have hb' : Built (putObjA h9 b (.cells false 9 ((sortL L).map AVal.str ++ vs.drop L.length))) h8.next 9 1 (.slice (some (b, 0)) L.length) (sortL L).length ((sortL L).map AVal.str) := by
        rw [sortL_len]
        exact .inr (.inr ⟨b, _, _, hb, rfl, zAc _ _ _, by simp [sortL_len], by rw [Nat.mul_one, ← sortL_len L]; simp⟩)
      exact built_strs' hb'
  obtain ⟨h10, hsm, hst, g810⟩ := hsort
  replace o1 := g810.keep _ _ o1
  replace o57 := g810.keep _ _ o57
  have k2X := k28.mono g810
  have GX := G8.trans g810
  clear B g9 k28
  repeat with_reducible first | refine zAA ?_ | refine zAB ?_ | refine zAC ?_ | refine zAD ?_ | (apply st_q; exact q1)
  refine zAd (by exact s1) (cl_summ hsm ?_)
  rw [D.sat_ret]
  have hlt : (sortL (c.conc ++ c.virt)).length < 2 ^ 60 := by rw [sortL_len, List.length_append]; have := sc.out.sum; omega
  cases hbo : (bodyF c).isSome
  · have hb : bodyF c = none := by simpa using hbo
    have hz : Hid (ckF c = 2) := ⟨by rw [hr'.out, hb]⟩
    clear hb hr' hsm
    repeat' with_reducible first | refine zAA ?_ | refine zAL ?_ | refine zAB ?_ | refine zAC ?_ | refine zAD ?_ | refine zAI ?_ | (apply st_q; exact q1) | (apply zAi; exact e1) | (apply st_eF; exact e1) | (apply zAG; exact e1) | (apply zAK; exact n1; exact r1)
    exact ⟨by rw [hz.out], GX⟩
  · obtain ⟨p, hb⟩ := Option.isSome_iff_exists.1 hbo
    have hz : Hid (ckF c = if eqLL (sortL (c.conc ++ c.virt)) nb.labels then 0 else 2) := ⟨by rw [hr'.out, hb, (hbd.out p hb).2]⟩
    clear hb hr' hsm
    repeat with_reducible first | refine zAA ?_ | refine zAB ?_ | refine zAC ?_ | refine zAD ?_ | (apply st_q; exact q1) | (apply zAe; exact e1; exact q1)
    refine st_callT (by exact e1) (by exact s1) ((EqualStr_ok H _ nb.labels hlt rv l2 _ hst k2X).mono ?_)
    rintro _ _ ⟨rfl, rfl⟩
    cases heq : eqLL (sortL (c.conc ++ c.virt)) nb.labels
    · rw [heq] at hz
      repeat' with_reducible first | refine zAA ?_ | refine zAL ?_ | refine zAB ?_ | refine zAC ?_ | refine zAD ?_ | refine zAI ?_ | (apply st_q; exact q1) | (apply zAe; exact e1; exact q1) | (apply zAG; exact e1) | (apply zAK; exact n1; exact r1)
      exact ⟨by rw [hz.out]; rfl, GX⟩
    · rw [heq] at hz
      repeat' with_reducible first | refine zAA ?_ | refine zAB ?_ | refine zAC ?_ | refine zAD ?_ | refine zAJ ?_ | refine zAI ?_ | (apply st_q; exact q1) | (apply zAe; exact e1; exact q1) | (apply zAH; exact e1) | (apply zAK; exact n1; exact r1)
      exact ⟨by rw [hz.out]; rfl, GX⟩
theorem EFields_ok (c : CDef) (hs : CSm c) (nv cv vv : AVal) (h : AHeap) (hw : WF h) (hN : NodesAt h nv c.g.nodes) (hcv : StrsAt h cv c.conc) (hvv : StrsAt h vv c.virt) (hlab : ∀ n ∈ c.g.nodes, n.labels.length ≤ 2 ^ 31) :
    Cl fns summ 17 [.agg [.int .i64 c.params, nv, .int .i64 c.g.root, cv, vv]] h fun r h' => StrsAt h' r (fieldsF c) ∧ Grow h h' := by
  have oc := zAW hcv.len
  have ov := zAW hvv.len
  have sc := Hid.mk hs
  have hlab' := Hid.mk hlab
  clear hs hlab
  refine H.go (fn := F_EFields) rfl (by decide) rfl rfl ?_
  unfold F_EFields
  dsimp only [qQ, qE, qN, gQ, gE, vi]
  refine zAC (zAD ?_)
  refine st_box (by exact e1) (by exact cc) hw ?_
  rintro b1 h1 hb1 g1 o1
  have ht5 := take5
  repeat with_reducible first | refine zAA ?_ | refine zAB ?_ | refine zAC ?_ | refine zAD ?_ | (apply st_q; exact q1)
  refine zAd (by exact s1) ((CheckClass_ok H HG HS c sc.out nv cv vv h1 g1.wf (hN.mono g1) (hcv.mono g1) (hvv.mono g1)).mono ?_)
  rintro _ h2 ⟨rfl, g2⟩
  replace o1 := g2.keep _ _ o1
  have G := g1.trans g2
  cases hck : (ckF c != 0)
  rotate_left
  · have hz : fieldsF c = [] := by
      unfold fieldsF; rw [if_neg (by simpa using hck)]
    replace hz := Hid.mk hz
    repeat' with_reducible first | refine zAA ?_ | refine zAL ?_ | refine zAB ?_ | refine zAC ?_ | refine zAD ?_ | refine zAI ?_ | (apply st_q; exact q1) | (apply zAG; exact e1) | (apply zAK; exact n1; exact r1)
    exact ⟨by rw [hz.out]; exact strs_nil _, G⟩
  have hk0 : ckF c = 0 := by simpa using hck
  have hz : fieldsF c = (match bodyF c with
    | none => []
    | some p => (zAR c.g p.1).labels) := by
      unfold fieldsF; rw [if_pos hk0]; rfl
  obtain ⟨hc, hpr, p, hb⟩ := ck_facts hk0
  have hz2 : fieldsF c = (zAR c.g p.1).labels := by rw [hz, hb]
  replace hz2 := Hid.mk hz2
  replace hb := Hid.mk hb
  have hin := body_in hc hb.out
  have hll := hlab'.out _ (node_in hin.1)
  clear hz hk0 hin
  repeat with_reducible first | refine zAA ?_ | refine zAB ?_ | refine zAC ?_ | refine zAD ?_ | refine zAJ ?_ | (apply st_q; exact q1) | (apply zAH; exact e1)
  refine zAd (by exact s1) ((ebody_ok H c hc hpr nv cv vv _ G.wf (hN.mono G) oc ov).mono ?_)
  rintro _ h3 ⟨⟨na, nb, a1, l1, a2, l2, rfl, i1, k1, i2, k2, hbd⟩, g3⟩
  have G3 := G.trans g3
  have hqa := Hid.mk (hbd p hb.out).1
  have z1 := ones_node (n := na) i1.len k1.len
  have z2 := ones_node (n := nb) i2.len k2.len
  unfold nodeV
  clear hbd
  repeat with_reducible (apply st_q; exact q1)
  refine st_alloc G3.wf ?_
  rintro b4 h4 hb4 g4 o4
  refine st_alloc g4.wf ?_
  rintro b5 h5 hb5 g5 o5
  have l4 := g4.wf.lt o4
  replace o4 := g5.keep _ _ o4
  have m3 := G3.next
  have m4 := g4.next
  refine zAT (by exact e1) (by exact e1) (cs := [.int .i64 na.kind, .str na.name, a1, l1, .bool na.isOpen]) rfl rfl g5.wf o4 (by simp) z1 ?_
  rintro v6 h6 p6 o46
  simp only [List.take_zero, List.nil_append, List.length_cons, List.length_nil, List.drop_succ_cons, List.drop_zero, List.append_nil, Nat.zero_add, Nat.reduceAdd, List.drop_nil, List.cons_append] at o46
  have o56 := p6.keep b5 (by omega) _ o5
  refine zAT (by exact e1) (by exact e1) (cs := [.int .i64 nb.kind, .str nb.name, a2, l2, .bool nb.isOpen]) rfl rfl (p6.wf g5.wf) o56 (by simp) z2 ?_
  rintro v7 h7 p7 o57
  have g37 : Grow h3 h7 := p7.grow h3 G3.wf (p6.grow h3 G3.wf (g4.trans g5) (by omega)) (by omega)
  replace o46 := p7.keep b4 (by omega) _ o46
  have k17 := k1.mono g37
  have G7 := G3.trans g37
  clear o57 o56 o5 o4 o1 p6 p7 g4 g5
  have hll' : na.labels.length ≤ 2 ^ 31 := by rw [hqa.out]; exact hll
  repeat with_reducible first | refine zAA ?_ | refine zAB ?_ | refine zAC ?_ | refine zAD ?_ | (apply st_q; exact q1)
  refine zAd (by exact s1) ((CloneStr_ok H na.labels hll' l1 h7 G7.wf k17).mono ?_)
  rintro rv h8 ⟨B, g8⟩
  have hst := built_strs' B
  rw [hqa.out, ← hz2.out] at hst
  repeat' with_reducible first | refine zAA ?_ | refine zAB ?_ | refine zAI ?_ | (apply st_q; exact q1) | (apply zAK; exact n1; exact r1)
  exact ⟨hst, G7.trans g8⟩
end
end Go.Ab.S
end
section
/-
  All values' names.
-/
namespace Go.Ab.S
open Go.Ab
set_option maxHeartbeats 4000000
section
variable {fns : FuncId → Option AFunc} {summ : FuncId → List AVal → AHeap → Option (D (AVal × AHeap))}
variable (H : Has fns summ) (HS : HasSort summ)
include H
theorem EValues1_ok (m : Mean) (l : List Mean) (bm : Nat) (h : AHeap) (hE : EnvAt h (.ptr (some (bm, 0))) (m :: l)) : Cl fns summ 45 [.ptr (some (bm, 0))] h fun r h' => r = .bool m.value.isSome ∧ h' = h := by
  obtain ⟨be, ver, ro, e, pv, pc, pa, hq, oe, hv, _, _⟩ := hE
  cases hq
  refine H.go (fn := F_EValues1) rfl (by decide) rfl rfl ?_
  unfold F_EValues1
  dsimp only [qQ, qE, qN, gQ, gE, vi]
  cases hmv : m.value with
  | none =>
    rw [hmv] at hv
    have hpv : pv = .ptr none := hv
    subst hpv
    have hq1 : eqA .ptr (.ptr none) (.ptr none) = some true := rfl
    have hxr : (true ^^ true) = false := rfl
    repeat' with_reducible first | refine zAA ?_ | refine zAB ?_ | refine zAC ?_ | refine zAD ?_ | refine zAI ?_ | (apply st_q; exact q1) | (apply zAK; exact n1; exact r1)
    exact ⟨rfl, rfl⟩
  | some g =>
    rw [hmv] at hv
    obtain ⟨bg, verg, rog, eg, nvg, rfl, og5, hNg⟩ := hv
    have hq1 : eqA .ptr (.ptr (some (bg, 0))) (.ptr none) = some false := rfl
    have hxr : (true ^^ false) = true := rfl
    repeat' with_reducible first | refine zAA ?_ | refine zAB ?_ | refine zAC ?_ | refine zAD ?_ | refine zAI ?_ | (apply st_q; exact q1) | (apply zAK; exact n1; exact r1)
    exact ⟨rfl, rfl⟩
include HS
theorem enames_ok (L : List Mean) (p : Mean → Bool) (hL : L.length ≤ 2 ^ 20) (hb : ∀ m ∈ L, p m = true → ∀ c ∈ m.name, c < 256) (fv : AVal) (hfv : one fv = true) (hf : ∀ m l bm h, EnvAt h (.ptr (some (bm, 0))) (m :: l) → Cv fns summ fv [.ptr (some (bm, 0))] h fun r h' => r = .bool (p m) ∧ h' = h)
    (v : AVal) (h : AHeap) (hw : WF h) (hE : EnvAt h v L) : Cl fns summ 44 [v, fv] h fun r h' => ∃ out, StrsAt h' r out ∧ Rises out ∧ (∀ s, s ∈ out ↔ ∃ m ∈ L, p m = true ∧ m.name = s) ∧ out.length ≤ 2 ^ 20 ∧ Grow h h' := by
  have hv1 := hE.one
  have hfc : cellsA fv = [fv] := by cases fv <;> first | rfl | cases hfv
  have hf' := Hid.mk hf
  have hb' := Hid.mk hb
  clear hf hb
  refine H.go (fn := F_enames) rfl (by decide) rfl rfl ?_
  unfold F_enames
  dsimp only [qQ, qE, qN, gQ, gE, vi]
  refine zAC (zAD ?_)
  refine st_box (by exact e1) hfc hw ?_
  rintro b3 h3 hb3 g3 o3
  have l3 := g3.wf.lt o3
  have n3 := g3.next
  repeat with_reducible first | refine zAA ?_ | refine zAB ?_ | refine zAC ?_ | refine zAD ?_ | (apply st_q; exact q1)
  refine st_mkmap (.inl rfl) g3.wf ?_
  rintro rm h4 hrm g4 om
  have l4 := g4.wf.lt om
  have n4 := g4.next
  refine st_alloc g4.wf ?_
  rintro b5 h5 hb5 g5 o5
  replace om := g5.keep _ _ om
  refine zAT (by exact e1) (by exact e1) (cs := [.map (some rm)]) rfl rfl g5.wf o5 (by simp) rfl ?_
  rintro v6 h6 p6 o6
  simp only [List.take_zero, List.nil_append, List.length_cons, List.length_nil, List.drop_succ_cons, List.drop_zero, List.append_nil, Nat.zero_add, Nat.reduceAdd, List.drop_nil, List.cons_append] at o6
  have g36 : Grow h3 h6 := p6.grow h3 g3.wf (g4.trans g5) (by omega)
  have om6 := p6.keep rm (by omega) _ om
  have n5 := g5.next
  have l5 := g5.wf.lt o5
  have n6 := g36.next
  have w3 := g3.wf
  clear om o5 p6 g4 g5
  repeat with_reducible first | refine zAA ?_ | refine zAB ?_ | refine zAC ?_ | refine zAD ?_ | (apply st_q; exact q1)
  refine zAd (by exact s1) ((eall_ok H v hv1 h6 g36.wf).mono ?_)
  rintro _ h7 ⟨b, rfl, hbb, vb, g7⟩
  have lb : b < h7.next := by obtain ⟨_, ov⟩ := vb; exact g7.wf.lt ov
  have l56 : b5 < h6.next := g36.wf.lt o6
  repeat with_reducible first | refine zAA ?_ | refine zAB ?_
  refine cd_gen (fun A => A.defers = [] ∧ ev A (.tmp 3) = some (.ptr (some (b3, 0))) ∧ ev A (.tmp 5) = some (.ptr (some (b5, 0))) ∧ ev A (.tmp 9) = some (.func 61 [] [.ptr (some (b, 0))])) ⟨by exact n1, by exact e1, by exact e1, by exact e1⟩ ?_
  rintro A ⟨hd, t3, t5, t9⟩
  refine cd_block ?_
  generalize hB : ACode.block 1 _ = B
  generalize hA : ACode.ops [⟨some 6, none, .q (.mov (.tmp 10))⟩] = As
  refine rangeF_K t9 g7.wf ?_
  intro l d h8 hdn hld g8 ol od
  have g38 : Grow h3 h8 := (g36.trans g7).trans g8
  have n7 := g7.next
  refine (eall1_ok H L v h3 (hE.mono g3) b (.yield l) (fun k hp => Grow h3 hp ∧ l < hp.next ∧ (∃ ver, hp.objs.get l = some (ver, .loop .ready none A.tmps [10] As B d)) ∧ (∃ ver, hp.objs.get d = some (ver, .dfr false)) ∧ (∃ ver, hp.objs.get b5 = some (ver, .cells false 117 [.map (some rm)])) ∧ ∃ ks, SetAt hp rm ks ∧ ks.Nodup ∧ ks.length ≤ k ∧ ∀ s, s ∈ ks ↔ ∃ m ∈ L.take k, p m = true ∧ m.name = s)
    (fun _ => False) (fun k hp q => q.1) ?_ ?_ h8 ⟨g38, by obtain ⟨_, ol⟩ := ol; exact g8.wf.lt ol, ol, od, ⟨_, g8.keep _ _ (g7.keep _ _ o6)⟩, [], ⟨_, g8.keep _ _ (g7.keep _ _ om6)⟩, List.nodup_nil, Nat.le_refl _, fun s => by simp⟩ (by obtain ⟨vv, ov⟩ := vb; exact ⟨vv, g8.keep _ _ ov⟩)).mono ?_
  · rintro k hp hp' vk ⟨gp, hl, ⟨vl, ol⟩, ⟨vd, od⟩, ⟨v5, o5⟩, ks, ⟨vm, om⟩, hk1, hk2, hk3⟩ ⟨vv, ov⟩ pb
    exact ⟨pb.grow h3 w3 gp (by omega), Nat.lt_of_lt_of_le hl pb.next, ⟨_, pb.keep l (by rintro rfl; rw [ol] at ov; cases ov) _ ol⟩, ⟨_, pb.keep d (by rintro rfl; rw [od] at ov; cases ov) _ od⟩, ⟨_, pb.keep b5 (by omega) _ o5⟩, ks, ⟨_, pb.keep rm (by rintro rfl; rw [om] at ov; cases ov) _ om⟩, hk1, hk2, hk3⟩
  · clear ol od o6 om6 vb
    rintro k hp vk hk ⟨gp, hl, ⟨vl, ol⟩, ⟨vd, od⟩, ⟨v5, o5⟩, ks, ⟨vm, om⟩, hk1, hk2, hk3⟩ ⟨vv, ov⟩ hEk
    obtain ⟨mm, rest, hdrop⟩ : ∃ mm rest, L.drop k = mm :: rest := by
      rw [List.drop_eq_getElem_cons hk]; exact ⟨_, _, rfl⟩
    have htake : L.take (k + 1) = L.take k ++ [mm] := by
      rw [List.take_succ_eq_append_getElem hk]
      have : L[k] = mm := by
        have := hdrop
        rw [List.drop_eq_getElem_cons hk] at this
        exact (List.cons.inj this).1
      rw [this]
    rw [hdrop] at hEk
    have hEk' := hEk
    obtain ⟨be, vere, roe, ee, pv, pc, pa, rfl, oe3, hv, hc, hrest⟩ := hEk
    have oe := gp.keep _ _ oe3
    have T3 : ev { tmps := A.tmps, defers := [] } (.tmp 3) = some (.ptr (some (b3, 0))) := t3
    have T5 : ev { tmps := A.tmps, defers := [] } (.tmp 5) = some (.ptr (some (b5, 0))) := t5
    refine yield_K ol gp.wf rfl (fun a1 => a1.defers = [] ∧ ev a1 (.tmp 6) = some (.ptr (some (be, 0))) ∧ ev a1 (.tmp 3) = some (.ptr (some (b3, 0))) ∧ ev a1 (.tmp 5) = some (.ptr (some (b5, 0)))) ?_ ?_
    · subst hA
      clear hd t3 t5 t9
      repeat with_reducible first | refine zAA ?_ | refine zAB ?_ | refine zAD ?_ | (apply st_q; exact q1)
      exact ⟨rfl, by exact n1, by exact e1, by exact e1, by exact e1⟩
    · rintro a1 hq ⟨hd1, t6, t3', t5'⟩ pL ⟨vlb, olb⟩
      subst hB
      clear hd t3 t5 t9 T3 T5
      have hlb : b ≠ l := by rintro rfl; rw [ol] at ov; cases ov
      have hld' : d ≠ l := by rintro rfl; rw [ol] at od; cases od
      have hel : be ≠ l := by rintro rfl; rw [ol] at oe; cases oe
      have h5l : b5 ≠ l := by rintro rfl; rw [ol] at o5; cases o5
      have hml : rm ≠ l := by rintro rfl; rw [ol] at om; cases om
      have gq : Grow h3 hq := pL.grow h3 w3 gp (by omega)
      have oeq := pL.keep _ hel _ oe
      have odq := pL.keep _ hld' _ od
      have ovq := pL.keep _ hlb _ ov
      have o5q := pL.keep _ h5l _ o5
      have omq := pL.keep _ hml _ om
      have o3q := gq.keep _ _ o3
      have hlq : l < hq.next := Nat.lt_of_lt_of_le hl pL.next
      have w := gq.wf
      have hcall := hf'.out mm rest be hq (hEk'.mono gq)
      have hmem : mm ∈ L := List.mem_of_mem_drop (i := k) (by rw [hdrop]; simp)
      replace hk3 := Hid.mk hk3
      replace htake := Hid.mk htake
      clear ol oe od ov o5 om pL hEk'
      repeat with_reducible first | refine zAC ?_ | refine zAD ?_ | refine zAF ?_ | (apply st_q; exact q1)
      refine st_e (ex_call (by exact e1) (by exact s1) (hcall.mono ?_))
      rintro _ hq' ⟨rfl, hqe⟩
      replace hqe := hqe.symm
      subst hqe
      cases hpm : p mm
      · have hk3' : ∀ s, s ∈ ks ↔ ∃ m ∈ L.take (k + 1), p m = true ∧ m.name = s := fun s => by
          rw [hk3.out, htake.out]
          constructor
          · rintro ⟨m, h1, h2⟩; exact ⟨m, List.mem_append_left _ h1, h2⟩
          · rintro ⟨m, h1, h2, h3⟩
            rcases List.mem_append.1 h1 with h1 | h1
            · exact ⟨m, h1, h2, h3⟩
            · rw [List.mem_singleton.1 h1, hpm] at h2; cases h2
        replace hk3' := Hid.mk hk3'
        repeat with_reducible first | refine zAA ?_ | refine zAE ?_ | refine zAB ?_ | refine zAJ ?_ | (apply zAH; exact e1)
        exact ⟨w, ⟨_, olb⟩, fun _ h4 p4 o4 => .inl ⟨rfl, ⟨p4.grow h3 w3 gq (by omega), Nat.lt_of_lt_of_le hlq p4.next, o4, ⟨_, p4.keep d hld' _ odq⟩, ⟨_, p4.keep b5 h5l _ o5q⟩, ks, ⟨_, p4.keep rm hml _ omq⟩, hk1, by omega, hk3'.out⟩, ⟨_, p4.keep b hlb _ ovq⟩⟩, fun hh => absurd rfl hh⟩
      · have hfd := ksE_find mm.name ks 0 0
        cases hcn : ks.contains mm.name
        · rw [hcn] at hfd
          have hfd : findA .str (.str mm.name) (ksE 0 ks) 0 = some none := hfd
          have hnin : mm.name ∉ ks := by simpa using hcn
          have hk3' : ∀ s, s ∈ ks ++ [mm.name] ↔ ∃ m ∈ L.take (k + 1), p m = true ∧ m.name = s := fun s => by
            rw [List.mem_append, hk3.out, htake.out, List.mem_singleton]
            constructor
            · rintro (⟨m, h1, h2⟩ | rfl)
              · exact ⟨m, List.mem_append_left _ h1, h2⟩
              · exact ⟨mm, List.mem_append_right _ (by simp), hpm, rfl⟩
            · rintro ⟨m, h1, h2, h3⟩
              rcases List.mem_append.1 h1 with h1 | h1
              · exact .inl ⟨m, h1, h2, h3⟩
              · rw [List.mem_singleton.1 h1] at h3; exact .inr h3.symm
          have hk1' : (ks ++ [mm.name]).Nodup := by
            rw [List.nodup_append]
            exact ⟨hk1, by simp, fun a ha b hb => by simp only [List.mem_singleton] at hb; subst hb; rintro rfl; exact hnin ha⟩
          replace hk3' := Hid.mk hk3'
          replace hk1' := Hid.mk hk1'
          replace hk1 := Hid.mk hk1
          replace hfd := Hid.mk hfd
          clear hnin
          repeat with_reducible first | refine zAA ?_ | refine zAB ?_ | refine zAS ?_ | (apply dr_q; exact q1) | (apply dr_ql; exact q1; exact og1) | (apply zAG; exact e1)
          refine dr_st (st_put (by exact e1) (by exact e1) (by exact e1) (by intro hh; cases hh) rfl w omq hfd.out ?_)
          rintro ver' h9 p9 o9
          refine zAB ⟨by simp [heldOk, Nat.testBit], ?_⟩
          have hset : SetAt h9 rm (ks ++ [mm.name]) := ⟨_, by rw [ksE_put, List.length_append, List.length_singleton, Nat.zero_add]; exact o9⟩
          have olb9 := p9.keep l (fun e => hml e.symm) _ olb
          have od9 := p9.keep d (by rintro rfl; rw [odq] at omq; cases omq) _ odq
          have o59 := p9.keep b5 (by rintro rfl; rw [o5q] at omq; cases omq) _ o5q
          have ov9 := p9.keep b (by rintro rfl; rw [ovq] at omq; cases omq) _ ovq
          have g9 := p9.grow h3 w3 gq (by omega)
          have n9 := p9.next
          replace hset := Hid.mk hset
          clear omq o9 olb odq o5q ovq oeq o3q
          repeat with_reducible first | refine zAE ?_ | refine zAa ?_
          exact ⟨g9.wf, ⟨_, olb9⟩, fun _ h4 p4 o4 => .inl ⟨rfl, ⟨p4.grow h3 w3 g9 (by omega), by have := p4.next; omega, o4, ⟨_, p4.keep d hld' _ od9⟩, ⟨_, p4.keep b5 h5l _ o59⟩, ks ++ [mm.name], by obtain ⟨vz, oz⟩ := hset.out; exact ⟨vz, p4.keep rm hml _ oz⟩, hk1'.out, by rw [List.length_append, List.length_singleton]; omega, hk3'.out⟩, ⟨_, p4.keep b hlb _ ov9⟩⟩, fun hh => absurd rfl hh⟩
        · rw [hcn] at hfd
          have hfd : findA .str (.str mm.name) (ksE 0 ks) 0 = some (some (0 + ks.idxOf mm.name, .bool true)) := hfd
          have hin : mm.name ∈ ks := by simpa using hcn
          have hk3' : ∀ s, s ∈ ks ↔ ∃ m ∈ L.take (k + 1), p m = true ∧ m.name = s := fun s => by
            rw [hk3.out, htake.out]
            constructor
            · rintro ⟨m, h1, h2⟩; exact ⟨m, List.mem_append_left _ h1, h2⟩
            · rintro ⟨m, h1, h2, h3⟩
              rcases List.mem_append.1 h1 with h1 | h1
              · exact ⟨m, h1, h2, h3⟩
              · rw [List.mem_singleton.1 h1] at h3
                rw [← h3]; exact (hk3.out _).1 hin
          replace hk3' := Hid.mk hk3'
          replace hk1 := Hid.mk hk1
          replace hfd := Hid.mk hfd
          clear hin
          repeat with_reducible first | refine zAA ?_ | refine zAB ?_ | refine zAS ?_ | (apply dr_q; exact q1) | (apply dr_ql; exact q1; exact og1) | (apply zAG; exact e1)
          refine dr_st (st_reput (by exact e1) (by exact e1) (by exact e1) (by intro hh; cases hh) rfl w omq hfd.out ?_)
          rintro ver' h9 p9 o9
          rw [ksE_set] at o9
          refine zAB ⟨by simp [heldOk, Nat.testBit], ?_⟩
          have olb9 := p9.keep l (fun e => hml e.symm) _ olb
          have od9 := p9.keep d (by rintro rfl; rw [odq] at omq; cases omq) _ odq
          have o59 := p9.keep b5 (by rintro rfl; rw [o5q] at omq; cases omq) _ o5q
          have ov9 := p9.keep b (by rintro rfl; rw [ovq] at omq; cases omq) _ ovq
          have g9 := p9.grow h3 w3 gq (by omega)
          have n9 := p9.next
          clear omq olb odq o5q ovq oeq o3q
          repeat with_reducible first | refine zAE ?_ | refine zAa ?_
          exact ⟨g9.wf, ⟨_, olb9⟩, fun _ h4 p4 o4 => .inl ⟨rfl, ⟨p4.grow h3 w3 g9 (by omega), by have := p4.next; omega, o4, ⟨_, p4.keep d hld' _ od9⟩, ⟨_, p4.keep b5 h5l _ o59⟩, ks, ⟨_, p4.keep rm hml _ o9⟩, hk1.out, by omega, hk3'.out⟩, ⟨_, p4.keep b hlb _ ov9⟩⟩, fun hh => absurd rfl hh⟩
  · clear ol od o6 om6 vb
    rintro _ h9 (⟨gp, hl, ⟨vl, ol⟩, ⟨vd, od⟩, ⟨v5, o5⟩, ks, ⟨vm, om⟩, hk1, hk2, hk3⟩ | hF)
    rotate_left
    · exact hF.elim
    rw [List.take_length] at hk3
    refine ⟨gp.wf, .inl ⟨⟨_, ol⟩, fun h10 p10 => ?_⟩⟩
    have hld' : d ≠ l := by rintro rfl; rw [ol] at od; cases od
    have h5l : b5 ≠ l := by rintro rfl; rw [ol] at o5; cases o5
    have hml : rm ≠ l := by rintro rfl; rw [ol] at om; cases om
    have od10 := p10.keep d hld' _ od
    have o510 := p10.keep b5 h5l _ o5
    have om10 := p10.keep rm hml _ om
    have g10 := p10.grow h hw (g3.trans gp) (by omega)
    have T5 : ev { tmps := A.tmps, defers := [.collected d] } (.tmp 5) = some (.ptr (some (b5, 0))) := t5
    have hdd : (ADef.collected d :: A.defers) = [.collected d] := by rw [hd]
    have hkb : BytesL ks := fun s hs => by
      obtain ⟨m, h1, h2, rfl⟩ := (hk3 s).1 hs
      exact hb'.out m h1 h2
    replace hk3 := Hid.mk hk3
    replace hkb := Hid.mk hkb
    replace hk1 := Hid.mk hk1
    have hkl : ks.length ≤ 2 ^ 20 := by omega
    clear hd t3 t9 ol od o5 om
    repeat with_reducible first | refine zAA ?_ | refine zAE ?_ | refine zAC ?_ | refine zAD ?_ | (apply st_q; exact q1)
    refine zAd (by exact s1) ((MKeys_ok H rm h10 g10.wf).mono ?_)
    rintro _ h11 ⟨bk, verk, rfl, hbk, obk, g11⟩
    have om11 := g11.keep _ _ om10
    have od11 := g11.keep _ _ od10
    skip
    refine zAd (by exact s1) ((Sorted_ok H HS ks hkl hkb.out hk1.out rm bk h11 g11.wf ⟨_, _, _, obk⟩ ⟨_, om11⟩).mono ?_)
    rintro rv h12 ⟨out, hSt, hR, hM, hOl, g12⟩
    have od12 := g12.keep _ _ od11
    have g012 := (g10.trans g11).trans g12
    replace hR := Hid.mk hR
    replace hM := Hid.mk hM
    clear om10 od10 om11 od11 obk o510
    repeat with_reducible first | refine zAA ?_ | refine zAB ?_ | refine zAI ?_ | (apply st_q; exact q1)
    refine fin_coll (by first | exact hdd | (simp only [zAg]; exact hdd)) g012.wf ⟨_, od12⟩ fun h13 p13 => ?_
    refine ⟨_, by exact r1, out, sl_stay (fun c ver ro e vs hc => p13.keep c (by rintro rfl; rw [od12] at hc; cases hc) _ hc) hSt, hR.out, fun s => (hM.out s).trans (hk3.out s), hOl, p13.grow h hw g012 (by omega)⟩
theorem EValues_ok (L : List Mean) (hL : L.length ≤ 2 ^ 20) (hb : ∀ m ∈ L, m.value.isSome = true → ∀ c ∈ m.name, c < 256) (v : AVal) (h : AHeap) (hw : WF h) (hE : EnvAt h v L) :
    Cl fns summ 20 [v] h fun r h' => ∃ out, StrsAt h' r out ∧ Rises out ∧ (∀ s, s ∈ out ↔ ∃ m ∈ L, m.value.isSome = true ∧ m.name = s) ∧ out.length ≤ 2 ^ 20 ∧ Grow h h' := by
  have hq := enames_ok H HS L (fun m => m.value.isSome) hL hb (.func 45 [] []) rfl (fun m l bm h hE => cv_func (EValues1_ok H m l bm h hE)) v h hw hE
  refine H.go (fn := F_EValues) rfl (by decide) rfl rfl ?_
  unfold F_EValues
  dsimp only [qQ, qE, qN, gQ, gE, vi]
  repeat with_reducible first | refine zAA ?_ | refine zAB ?_ | refine zAC ?_ | refine zAD ?_ | (apply st_q; exact q1)
  refine zAd (by exact s1) (hq.mono ?_)
  rintro r h2 hr
  repeat' with_reducible first | refine zAA ?_ | refine zAB ?_ | refine zAI ?_ | (apply st_q; exact q1) | (apply zAK; exact n1; exact r1)
  exact hr
end
end Go.Ab.S
end
section
/-
  The document's examples; the last meaning of a name counts: the law's walk.
-/
namespace Go.Ab.S
open Go.Ab
set_option maxHeartbeats 4000000
theorem value_start : ∀ {l : List Nat}, 0 ∈ l → valueF (l.map startM ++ [baseM]) nF = some (leastF gF)
  | i :: l, h => by
    match i with
    | 0 => rfl
    | 1 =>
      have h' : 0 ∈ l := by simpa using h
      show (if (some (leastF gS)).isSome && eqL nS nF then some (leastF gS) else valueF (l.map startM ++ [baseM]) nF) = _
      rw [show ((some (leastF gS)).isSome && eqL nS nF) = false from by decide, if_neg (by decide)]
      exact value_start h'
    | j + 2 =>
      have h' : 0 ∈ l := by simpa using h
      show (if (some (leastF gN)).isSome && eqL nN nF then some (leastF gN) else valueF (l.map startM ++ [baseM]) nF) = _
      rw [show ((some (leastF gN)).isSome && eqL nN nF) = false from by decide, if_neg (by decide)]
      exact value_start h'
theorem start_gsm (i : Nat) : ∀ g, (startM i).value = some g → GSm g := by
  intro g h
  match i with
  | 0 => cases h; exact (least_tiny tiny_F ok_F).toGSm
  | 1 => cases h; exact (least_tiny tiny_S ok_S).toGSm
  | j + 2 => cases h; exact (least_tiny tiny_N ok_N).toGSm
theorem newL_facts {L : List Mean} (h : NewL L) : L ≠ [] ∧ L.length ≤ 4 ∧ (∀ m ∈ L, ∀ g, m.value = some g → GSm g) ∧ valueF L nF = some (leastF gF) ∧ (∀ m ∈ L, m.value.isSome = true → ∀ c ∈ m.name, c < 256) ∧ ∀ s, (∃ m ∈ L, m.value.isSome = true ∧ m.name = s) ↔ s ∈ [nF, nN, nS] := by
  obtain ⟨seen, h1, h2, rfl⟩ := h
  have hlen := three_most h1 fun i hi => (h2 i).1 hi
  have hm : ∀ m, m ∈ seen.reverse.map startM ++ [baseM] → (∃ i, i < 3 ∧ m = startM i) ∨ m = baseM := fun m hm => by
    rcases List.mem_append.1 hm with hm | hm
    · obtain ⟨i, hi, rfl⟩ := List.mem_map.1 hm
      exact .inl ⟨i, (h2 i).1 (List.mem_reverse.1 hi), rfl⟩
    · exact .inr (List.mem_singleton.1 hm)
  have hin : ∀ i, i < 3 → startM i ∈ seen.reverse.map startM ++ [baseM] := fun i hi => List.mem_append_left _ (List.mem_map.2 ⟨i, List.mem_reverse.2 ((h2 i).2 hi), rfl⟩)
  refine ⟨by simp, by simp; omega, fun m hmm g hg => ?_, value_start (List.mem_reverse.2 ((h2 0).2 (by decide))), fun m hmm hv => ?_, fun s => ⟨?_, fun hs => ?_⟩⟩
  · rcases hm m hmm with ⟨i, _, rfl⟩ | rfl
    · exact start_gsm i g hg
    · cases hg
  · rcases hm m hmm with ⟨i, hi, rfl⟩ | rfl
    · rcases (by omega : i = 0 ∨ i = 1 ∨ i = 2) with rfl | rfl | rfl <;> decide
    · cases hv
  · rintro ⟨m, hmm, hv, rfl⟩
    rcases hm m hmm with ⟨i, hi, rfl⟩ | rfl
    · rcases (by omega : i = 0 ∨ i = 1 ∨ i = 2) with rfl | rfl | rfl
      · simp [startM]
      · simp [startM]
      · simp [startM]
    · cases hv
  · simp only [List.mem_cons, List.not_mem_nil, or_false] at hs
    rcases hs with rfl | rfl | rfl
    · exact ⟨_, hin 0 (by decide), rfl, rfl⟩
    · exact ⟨_, hin 2 (by decide), rfl, rfl⟩
    · exact ⟨_, hin 1 (by decide), rfl, rfl⟩
theorem names_start {out : List (List Nat)} (hr : Rises out) (hm : ∀ s, s ∈ out ↔ s ∈ [nF, nN, nS]) : out = [nF, nN, nS] := by
  refine rises_ext hr ?_ hm
  exact ris_rises (p := none) (by decide)
section
variable {fns : FuncId → Option AFunc} {summ : FuncId → List AVal → AHeap → Option (D (AVal × AHeap))}
variable (H : Has fns summ)
include H
theorem EValue_some (L : List Mean) (hL : ∀ m ∈ L, ∀ g, m.value = some g → GSm g) (hne : L ≠ []) (v : AVal) (s : List Nat) (g : Graph) (hs : valueF L s = some g) (h : AHeap) (hw : WF h) (hE : EnvAt h v L) :
    Cl fns summ 11 [v, .str s] h fun r h' => (∃ zn, r = .tuple [.agg [zn, .int .i64 (trimF g).root], .int .i64 0] ∧ NodesAt h' zn (trimF g).nodes) ∧ Grow h h' :=
  (EValue_ok H L hL hne v s h hw hE).mono fun r h' ⟨⟨z, hr, hz⟩, gg⟩ => by
    rw [hs] at hr hz
    obtain ⟨zn, rfl, hzn⟩ := hz
    exact ⟨⟨zn, hr, hzn⟩, gg⟩
variable (HS : HasSort summ) (HR : HasRead summ)
include HS HR
theorem alive14_ok (h : AHeap) (hw : WF h) : Cl fns summ 7 [] h fun r h' => r = .bool true ∧ Grow h h' := by
  refine H.go (fn := F_alive14) rfl (by decide) rfl rfl ?_
  unfold F_alive14
  dsimp only [qQ, qE, qN, gQ, gE, vi]
  repeat with_reducible first | refine zAA ?_ | refine zAB ?_ | refine zAC ?_ | refine zAD ?_ | (apply st_q; exact q1)
  refine zAd (by exact s1) ((EnvNew_ok H HR h hw).mono ?_)
  rintro _ h1 ⟨⟨b, L, rfl, hL, hE⟩, g1'⟩
  obtain ⟨f1, f2, f3, f4, f5, f6⟩ := newL_facts hL
  have f2' : L.length ≤ 2 ^ 20 := Nat.le_trans f2 (by decide)
  replace f3 := Hid.mk f3
  replace f5 := Hid.mk f5
  replace f6 := Hid.mk f6
  replace f1 := Hid.mk f1
  replace f4 := Hid.mk f4
  have hsame := Hid.mk (own_same ok_F)
  have hti := Hid.mk (own_tiny tiny_F ok_F)
  clear hL f2
  repeat with_reducible first | refine zAA ?_ | refine zAB ?_ | refine zAC ?_ | refine zAD ?_ | (apply st_q; exact q1)
  refine zAd (by exact s1) ((EValue_some H L f3.out f1.out _ nF _ f4.out h1 g1'.wf hE).mono ?_)
  rintro _ h2 ⟨⟨zn, rfl, hzn⟩, g2⟩
  have hzo := zAW hzn.len
  generalize hT : trimF (leastF gF) = T at *
  clear hT
  have hE2 := hE.mono g2
  have g02 := g1'.trans g2
  clear hE g1' g2
  repeat with_reducible (apply st_q; exact q1)
  refine st_alloc g02.wf ?_
  rintro b2 h3 hb2 g3 o2
  refine zAT (by exact e1) (by exact e1) (cs := [zn, .int .i64 T.root]) rfl rfl g3.wf o2 (by simp) (by rw [List.all_cons, List.all_cons, hzo]; rfl) ?_
  rintro v4 h4 p4 s2
  simp only [List.take_zero, List.nil_append, List.length_cons, List.length_nil, List.drop_succ_cons, List.drop_zero, List.append_nil, Nat.zero_add, Nat.reduceAdd, List.drop_nil, List.cons_append] at s2
  have g24 : Grow h2 h4 := p4.grow h2 g02.wf g3 hb2
  have hE4 := hE2.mono g24
  have hz4 := hzn.mono g24
  have g04 := g02.trans g24
  clear hE2 hzn g02 g24 g3 o2 p4 hb2
  repeat with_reducible first | refine zAA ?_ | refine zAB ?_ | refine zAC ?_ | refine zAD ?_ | (apply st_q; exact q1)
  obtain ⟨rv, h5, hr5, ⟨rn, rfl, hrn⟩, g5⟩ := HR.read tF gF (by simp) h4 g04.wf
  refine zAd (by exact s1) (cl_summ hr5 ?_)
  rw [D.sat_ret]
  have hro := zAW hrn.len
  have s25 := g5.keep _ _ s2
  have hE5 := hE4.mono g5
  have hz5 := hz4.mono g5
  have g05 := g04.trans g5
  clear hr5 s2 hE4 hz4 g04 g5
  repeat with_reducible (apply st_q; exact q1)
  refine st_alloc g05.wf ?_
  rintro b4 h6 hb4 g6 o4
  refine zAT (by exact e1) (by exact e1) (cs := [rn, .int .i64 gF.root]) rfl rfl g6.wf o4 (by simp) (by rw [List.all_cons, List.all_cons, hro]; rfl) ?_
  rintro v7 h7 p7 s4
  simp only [List.take_zero, List.nil_append, List.length_cons, List.length_nil, List.drop_succ_cons, List.drop_zero, List.append_nil, Nat.zero_add, Nat.reduceAdd, List.drop_nil, List.cons_append] at s4
  have g57 : Grow h5 h7 := p7.grow h5 g05.wf g6 hb4
  have s27 := g57.keep _ _ s25
  have hE7 := hE5.mono g57
  have hz7 := hz5.mono g57
  have hr7 := hrn.mono g57
  have g07 := g05.trans g57
  clear s25 hE5 hz5 hrn g05 g57 g6 o4 p7 hb4
  repeat with_reducible first | refine zAA ?_ | refine zAB ?_ | refine zAC ?_ | refine zAD ?_ | (apply st_q; exact q1)
  refine zAd (by exact s1) ((EValue_nil H nF h7 g07.wf).mono ?_)
  rintro _ h8 ⟨rfl, g8⟩
  have s28 := g8.keep _ _ s27
  have s48 := g8.keep _ _ s4
  have hE8 := hE7.mono g8
  have hz8 := hz7.mono g8
  have hr8 := hr7.mono g8
  have g08 := g07.trans g8
  clear s27 s4 hE7 hz7 hr7 g07 g8
  repeat with_reducible (apply st_q; exact q1)
  refine st_alloc g08.wf ?_
  rintro b7 h9 hb7 g9 o7
  refine zAT (by exact e1) (by exact e1) (cs := [.slice none 0, .int .i64 0]) rfl rfl g9.wf o7 (by simp) rfl ?_
  rintro v10 h10 p10 s7
  have g810 : Grow h8 h10 := p10.grow h8 g08.wf g9 hb7
  have s210 := g810.keep _ _ s28
  have s410 := g810.keep _ _ s48
  have hE10 := hE8.mono g810
  have hz10 := hz8.mono g810
  have hr10 := hr8.mono g810
  have g010 := g08.trans g810
  clear s28 s48 hE8 hz8 hr8 g08 g810 g9 o7 p10 hb7 s7
  repeat with_reducible first | refine zAA ?_ | refine zAB ?_ | refine zAC ?_ | refine zAD ?_ | (apply st_q; exact q1)
  refine zAd (by exact s1) ((EValues_ok H HS L f2' f5.out _ h10 g010.wf hE10).mono ?_)
  rintro r1v h11 ⟨out, hS1, hR1, hM1, _, g11⟩
  have ho1 : out = [nF, nN, nS] := names_start hR1 fun s => (hM1 s).trans (f6.out s)
  subst ho1
  have hl1 : lenO r1v = some 3 := hS1.len
  have s211 := g11.keep _ _ s210
  have s411 := g11.keep _ _ s410
  have hE11 := hE10.mono g11
  have hz11 := hz10.mono g11
  have hr11 := hr10.mono g11
  have g011 := g010.trans g11
  have h33 : ((Int.ofNat 3 : Int) == 3) = true := rfl
  clear s210 s410 hE10 hz10 hr10 g010 g11 hS1 hR1 hM1
  repeat with_reducible first | (apply st_q; exact q1) | (apply zAe; exact e1; exact q1)
  refine st_callT (by exact e1) (by exact s1) ((EValues_ok H HS L f2' f5.out _ h11 g011.wf hE11).mono ?_)
  rintro r2v h12 ⟨out, hS2, hR2, hM2, _, g12⟩
  have ho2 : out = [nF, nN, nS] := names_start hR2 fun s => (hM2 s).trans (f6.out s)
  subst ho2
  obtain ⟨bb, ob, verb, rb, eb, vsb, hix, hget, hvo⟩ := hS2.at (i := 0) (c := nF) rfl
  have s212 := g12.keep _ _ s211
  have s412 := g12.keep _ _ s411
  have hz12 := hz11.mono g12
  have hr12 := hr11.mono g12
  have g012 := g011.trans g12
  have hff : eqL nF [102, 115, 116] = true := rfl
  have h00 : ((0 : Int) == 0) = true := rfl
  have h11' : ((1 : Int) == 1) = true := rfl
  have hpT : partA (some 2) [zn, .int .i64 T.root] 0 = some (.agg [zn, .int .i64 T.root]) := rfl
  have hpG : partA (some 2) [rn, .int .i64 gF.root] 0 = some (.agg [rn, .int .i64 gF.root]) := rfl
  have ht2 : ∀ x y : AVal, List.take 2 [x, y] = [x, y] := fun _ _ => rfl
  have hq0 : Hid (∀ A hh, ev A (.tmp 30) = some r2v → qA A hh (.indexA 1 (.tmp 30) (.val (.int .i64 0))) = some (.ptr (some (bb, ob)), none)) := ⟨fun A hh k => by
    simp only [qA_indexA, k, ev_val, show asNat (.int .i64 0) = some 0 from rfl, hix]⟩
  clear s211 s411 hE11 hz11 hr11 g011 g12 hS2 hR2 hM2
  skip
  refine zAe (by exact e1) (hq0.out _ _ (by exact e1)) ?_
  repeat with_reducible first | (apply st_q; exact q1) | (apply zAe; exact e1; exact q1)
  refine st_callT (by exact e1) (by exact s1) ((Same_ok H T gF hti.out tiny_F _ _ h12 g012.wf ⟨zn, rfl, hz12⟩ ⟨rn, rfl, hr12⟩).mono ?_)
  rw [hsame.out]
  rintro _ h13 ⟨rfl, g13⟩
  repeat' with_reducible first | refine zAA ?_ | refine zAB ?_ | refine zAI ?_ | (apply st_q; exact q1) | (apply zAe; exact e1; exact q1) | (apply zAK; exact n1; exact r1)
  exact ⟨rfl, g012.trans g13⟩
end
end Go.Ab.S
end
