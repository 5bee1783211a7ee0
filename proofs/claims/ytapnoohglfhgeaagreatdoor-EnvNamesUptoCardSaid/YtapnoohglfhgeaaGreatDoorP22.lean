import Derived.Test.YtapnoohglfhgeaaGreatDoorP21
/-
  Part 22 of the proof.
-/
set_option linter.all false
section
/-
  Steps: each a name that means a type, or a class; are they more than are looked at?
-/
namespace Go.Ab.S
open Go.Ab
set_option maxHeartbeats 4000000
structure StepD where
  name : List Nat
  cls : Bool
  g : Graph
  c : CDef
def stepC (s : StepD) (nv mv cv vv : AVal) : List AVal := [.str s.name, .bool s.cls, nv, .int .i64 s.g.root, .int .i64 s.c.params, mv, .int .i64 s.c.g.root, cv, vv]
def StepAt (h : AHeap) (c : List AVal) (s : StepD) : Prop := ∃ nv mv cv vv, c = stepC s nv mv cv vv ∧ NodesAt h nv s.g.nodes ∧ NodesAt h mv s.c.g.nodes ∧ StrsAt h cv s.c.conc ∧ StrsAt h vv s.c.virt
def StepsAt (h : AHeap) (v : AVal) (l : List StepD) : Prop := ∃ cs : List (List AVal), SlAt h 9 v cs ∧ cs.length = l.length ∧ ∀ (i : Nat) n c, l[i]? = some n → cs[i]? = some c → StepAt h c n
theorem StepsAt.len {h : AHeap} {v : AVal} {l : List StepD} (k : StepsAt h v l) : lenO v = some l.length := by
  obtain ⟨cs, h1, h2, _⟩ := k
  rw [← h2]; exact h1.1
theorem StepsAt.mono {h h' : AHeap} (g : Grow h h') {v : AVal} {l : List StepD} (k : StepsAt h v l) : StepsAt h' v l := by
  obtain ⟨cs, h1, h2, h3⟩ := k
  refine ⟨cs, h1.mono g, h2, fun i n c hn hc => ?_⟩
  obtain ⟨nv, mv, cv, vv, q1, q2, q3, q4, q5⟩ := h3 i n c hn hc
  exact ⟨nv, mv, cv, vv, q1, q2.mono g, q3.mono g, q4.mono g, q5.mono g⟩
theorem StepsAt.at {h : AHeap} {v : AVal} {l : List StepD} (k : StepsAt h v l) {i : Nat} {s : StepD} (hi : l[i]? = some s) :
    ∃ b o ver ro e vs nv mv cv vv, slA v 9 i = some (b, o) ∧ h.objs.get b = some (ver, .cells ro e vs) ∧ o + 9 ≤ vs.length ∧ (vs.drop o).take 9 = [.str s.name, .bool s.cls, nv, .int .i64 s.g.root, .int .i64 s.c.params, mv, .int .i64 s.c.g.root, cv, vv] ∧
      NodesAt h nv s.g.nodes ∧ NodesAt h mv s.c.g.nodes ∧ StrsAt h cv s.c.conc ∧ StrsAt h vv s.c.virt := by
  obtain ⟨cs, h1, h2, h3⟩ := k
  have hil := (List.getElem?_eq_some_iff.1 hi).1
  have hc : cs[i]? = some cs[i] := List.getElem?_eq_getElem (by omega)
  obtain ⟨nv, mv, cv, vv, q1, q2, q3, q4, q5⟩ := h3 i s _ hi hc
  obtain ⟨hl, b, o, ver, ro, e, vs, hs, hg, hv⟩ := h1.2 i _ hc
  rw [q1] at hv
  refine ⟨b, o, ver, ro, e, vs, nv, mv, cv, vv, hs, hg, ?_, hv, q2, q3, q4, q5⟩
  have := congrArg List.length hv
  simp only [stepC, List.length_take, List.length_drop, List.length_cons, List.length_nil] at this
  omega
def badSt (s : StepD) : Bool := ((decide ((greatF s.g : Int) > 80) || decide ((greatF s.c.g : Int) > 80)) || decide ((s.name.length : Int) > 1000)) || decide (((s.c.conc.length + s.c.virt.length : Nat) : Int) > 30)
def egreatF (l : List StepD) : Bool := l.any badSt || decide ((l.length : Int) > 40)
/-- So small that no count goes round. -/
structure StepOK (s : StepD) : Prop where
  g : Sane s.g
  k : Sane s.c.g
  name : s.name.length < 2 ^ 60
  conc : ∀ x ∈ s.c.conc, x.length < 2 ^ 60
  virt : ∀ x ∈ s.c.virt, x.length < 2 ^ 60
  sum : s.c.conc.length + s.c.virt.length < 2 ^ 60
theorem take9 (a b c d e f g h i : AVal) : List.take 9 [a, b, c, d, e, f, g, h, i] = [a, b, c, d, e, f, g, h, i] := rfl
theorem take2_2 (a b c d e f g h i : AVal) : List.take 2 (List.drop 2 [a, b, c, d, e, f, g, h, i]) = [c, d] := rfl
theorem take2_5 (a b c d e f g h i : AVal) : List.take 2 (List.drop 5 [a, b, c, d, e, f, g, h, i]) = [f, g] := rfl
theorem take5_4 (a b c d e f g h i : AVal) : List.take 5 (List.drop 4 [a, b, c, d, e, f, g, h, i]) = [e, f, g, h, i] := rfl
section
variable {fns : FuncId → Option AFunc} {summ : FuncId → List AVal → AHeap → Option (D (AVal × AHeap))}
variable (H : Has fns summ)
include H
theorem egreat_ok (l : List StepD) (hn : l.length < 2 ^ 60) (hl : ∀ s ∈ l, StepOK s) (v : AVal) (h : AHeap) (hw : WF h) (hv : StepsAt h v l) : Cl fns summ 19 [v] h fun r h' => r = .bool (egreatF l) ∧ Grow h h' := by
  have hlen := hv.len
  have hl' := Hid.mk hl
  clear hl
  refine H.go (fn := F_egreat) rfl (by decide) rfl rfl ?_
  unfold F_egreat
  dsimp only [qQ, qE, qN, gQ, gE, vi]
  repeat with_reducible first | refine zAA ?_ | refine zAB ?_ | refine zAC ?_ | refine zAD ?_ | (apply st_q; exact q1)
  refine cd_count (N := l.length) (by omega) (fun j a hp => Grow h hp ∧ a.defers = [] ∧ ev a (.tmp 0) = some v ∧ ev a (.tmp 5) = some v ∧ (l.take j).any badSt = false)
    (by rintro j a hp t w (rfl | rfl | rfl) ⟨h1, h2, h3, h4, h5⟩ <;> exact ⟨h1, by rw [zAg]; exact h2, by exact e1, by exact e1, h5⟩) (by decide) ?_ ?_ ⟨Grow.refl hw, by exact n1, by exact e1, by exact e1, rfl⟩ (by exact e1) (by exact e1)
  · rintro j a hp hj ⟨gp, hd, t0, t5, hany⟩ hi hN
    obtain ⟨b, o, ver, ro, e, vs, nv, mv, cv, vv, hix, hget, hvl, hvo, iN, iM, iC, iV⟩ := hv.at (List.getElem?_eq_getElem hj)
    replace hget := gp.keep _ _ hget
    have ht : (l.take (j + 1)).any badSt = badSt l[j] := by
      rw [List.take_succ_eq_append_getElem hj, List.any_append, hany]; simp
    have hmem : l[j] ∈ l := List.getElem_mem hj
    have hok := Hid.mk (hl'.out _ hmem)
    have hgr : badSt l[j] = true → Hid (egreatF l = true) := fun hb => ⟨by
      unfold egreatF
      rw [List.any_eq_true.2 ⟨_, hmem, hb⟩]; rfl⟩
    have hone : [.str l[j].name, .bool l[j].cls, nv, .int .i64 l[j].g.root, .int .i64 l[j].c.params, mv, .int .i64 l[j].c.g.root, cv, vv].all one = true := by
      simp only [List.all_cons, List.all_nil, zAW iN.len, zAW iM.len, zAW iC.len, zAW iV.len]; rfl
    have ht9 := take9
    have ht22 := take2_2
    have ht25 := take2_5
    have ic := iC.len
    have iv := iV.len
    clear hmem hany
    generalize l[j] = s at *
    repeat with_reducible first | refine zAC ?_ | refine zAD ?_ | refine zAF ?_ | (apply st_q; exact q1)
    refine st_alloc gp.wf ?_
    rintro b4 h4 hb4 g4 o4
    refine zAT (by exact e1) (by exact e1) (cs := [.str s.name, .bool s.cls, nv, .int .i64 s.g.root, .int .i64 s.c.params, mv, .int .i64 s.c.g.root, cv, vv]) rfl rfl g4.wf o4 (by simp) hone ?_
    rintro v5 h5 p5 o5
    simp only [List.take_zero, List.nil_append, List.length_cons, List.length_nil, List.drop_succ_cons, List.drop_zero, List.append_nil, Nat.zero_add, Nat.reduceAdd, List.drop_nil, List.cons_append] at o5
    have G := gp.trans (p5.grow hp gp.wf g4 hb4)
    clear o4 g4 p5 hget hvl hvo hix hb4 gp
    repeat with_reducible first | refine zAA ?_ | refine zAB ?_ | refine zAC ?_ | refine zAD ?_ | (apply st_q; exact q1)
    refine zAd (by exact s1) ((Great_ok H s.g hok.out.g.great _ h5 G.wf ⟨nv, rfl, iN.mono G⟩).mono ?_)
    rintro _ h6 ⟨rfl, g6⟩
    replace o5 := g6.keep _ _ o5
    replace G := G.trans g6
    clear g6
    cases c1 : decide ((greatF s.g : Int) > 80)
    rotate_left
    · have hb := hgr (by unfold badSt; rw [c1]; rfl)
      clear hgr ht
      repeat' with_reducible first | refine zAA ?_ | refine zAL ?_ | refine zAQ ?_ | refine zAB ?_ | refine zAC ?_ | refine zAD ?_ | refine zAI ?_ | (apply st_q; exact q1) | (apply zAi; exact e1) | (apply st_eF; exact e1) | (apply zAG; exact e1) | (apply zAK; exact n1; exact r1)
      exact ⟨by rw [hb.out], G⟩
    repeat with_reducible first | (apply st_q; exact q1) | (apply zAe; exact e1; exact q1)
    refine st_callT (by exact e1) (by exact s1) ((Great_ok H s.c.g hok.out.k.great _ h6 G.wf ⟨mv, rfl, iM.mono G⟩).mono ?_)
    rintro _ h7 ⟨rfl, g7⟩
    replace o5 := g7.keep _ _ o5
    replace G := G.trans g7
    clear g7
    cases c2 : decide ((greatF s.c.g : Int) > 80)
    rotate_left
    · have hb := hgr (by unfold badSt; rw [c1, c2]; rfl)
      clear hgr ht
      repeat' with_reducible first | refine zAA ?_ | refine zAL ?_ | refine zAQ ?_ | refine zAB ?_ | refine zAC ?_ | refine zAD ?_ | refine zAI ?_ | (apply st_q; exact q1) | (apply zAe; exact e1; exact q1) | (apply zAi; exact e1) | (apply zAG; exact e1) | (apply zAK; exact n1; exact r1)
      exact ⟨by rw [hb.out], G⟩
    cases c3 : decide ((s.name.length : Int) > 1000)
    rotate_left
    · have hb := hgr (by unfold badSt; rw [c1, c2, c3]; rfl)
      have c3' : decide (Int.ofNat s.name.length > 1000) = true := c3
      clear hgr ht
      repeat' with_reducible first | refine zAA ?_ | refine zAL ?_ | refine zAQ ?_ | refine zAB ?_ | refine zAC ?_ | refine zAD ?_ | refine zAI ?_ | (apply st_q; exact q1) | (apply zAe; exact e1; exact q1) | (apply zAi; exact e1) | (apply zAG; exact e1) | (apply zAK; exact n1; exact r1)
      exact ⟨by rw [hb.out], G⟩
    have c3' : decide (Int.ofNat s.name.length > 1000) = false := c3
    have hwr : IntKind.i64.wrap (Int.ofNat s.c.conc.length + Int.ofNat s.c.virt.length) = ((s.c.conc.length + s.c.virt.length : Nat) : Int) := wrap_add (by have := hok.out.sum; omega)
    cases c4 : decide (((s.c.conc.length + s.c.virt.length : Nat) : Int) > 30)
    rotate_left
    · have hb := hgr (by unfold badSt; rw [c1, c2, c3, c4]; rfl)
      clear hgr ht
      repeat' with_reducible first | refine zAA ?_ | refine zAL ?_ | refine zAQ ?_ | refine zAB ?_ | refine zAC ?_ | refine zAD ?_ | refine zAI ?_ | (apply st_q; exact q1) | (apply zAe; exact e1; exact q1) | (apply zAG; exact e1) | (apply zAK; exact n1; exact r1)
      exact ⟨by rw [hb.out], G⟩
    · have hb : badSt s = false := by unfold badSt; rw [c1, c2, c3, c4]; rfl
      rw [hb] at ht
      replace ht := Hid.mk ht
      clear hgr hb
      repeat with_reducible first | refine zAA ?_ | refine zAE ?_ | refine zAB ?_ | refine zAJ ?_ | (apply st_q; exact q1) | (apply zAe; exact e1; exact q1) | (apply zAH; exact e1)
      exact ⟨⟨G, by exact n1, by exact e1, by exact e1, ht.out⟩, by exact e1, by exact e1⟩
  · rintro a hp ⟨gp, hd, t0, t5, hany⟩
    rw [List.take_length] at hany
    have hb : Hid (egreatF l = decide ((Int.ofNat l.length : Int) > 40)) := ⟨by unfold egreatF; rw [hany]; rfl⟩
    clear hany
    repeat' with_reducible first | refine zAA ?_ | refine zAB ?_ | refine zAC ?_ | refine zAD ?_ | refine zAI ?_ | (apply st_q; exact q1) | (apply zAK; exact n1; exact r1)
    exact ⟨by rw [hb.out], gp⟩
end
end Go.Ab.S
end
section
/-
  A name means a class from now on; all classes' names.
-/
namespace Go.Ab.S
open Go.Ab
set_option maxHeartbeats 4000000
def withC (s : List Nat) (c : CDef) : Int := if isNameF s then ckF c else 2
/-- What is kept of a class. -/
def keptC (c : CDef) : CDef := ⟨c.params, leastF (trimF c.g), c.conc, c.virt⟩
def ownC (c : CDef) : CDef := ⟨c.params, trimF c.g, c.conc, c.virt⟩
theorem take1_3 (a b c d e : AVal) : List.drop 3 [a, b, c, d, e] = [d, e] := rfl
section
variable {fns : FuncId → Option AFunc} {summ : FuncId → List AVal → AHeap → Option (D (AVal × AHeap))}
variable (H : Has fns summ)
include H
theorem cown_ok (c : CDef) (hg : GSm c.g) (h1 : c.conc.length ≤ 2 ^ 31) (h2 : c.virt.length ≤ 2 ^ 31) (nv cv vv : AVal) (h : AHeap) (hw : WF h) (hN : NodesAt h nv c.g.nodes) (hcv : StrsAt h cv c.conc) (hvv : StrsAt h vv c.virt) :
    Cl fns summ 47 [.agg [.int .i64 c.params, nv, .int .i64 c.g.root, cv, vv]] h fun r h' => (∃ xn xc xv, r = .agg [.int .i64 c.params, xn, .int .i64 (trimF c.g).root, xc, xv] ∧ OwnG h' h.next (.agg [xn, .int .i64 (trimF c.g).root]) (trimF c.g) ∧ Built h' h.next 9 1 xc c.conc.length (c.conc.map AVal.str) ∧ Built h' h.next 9 1 xv c.virt.length (c.virt.map AVal.str)) ∧ Grow h h' := by
  refine H.go (fn := F_cown) rfl (by decide) rfl rfl ?_
  unfold F_cown
  dsimp only [qQ, qE, qN, gQ, gE, vi]
  refine zAC (zAD ?_)
  refine st_box (by exact e1) (by exact cc) hw ?_
  rintro b1 k1 hb1 g1' o1
  refine st_alloc g1'.wf ?_
  rintro b2 k2 hb2 g2' o2
  have l1 := g1'.wf.lt o1
  have m1 := g1'.next
  replace o1 := g2'.keep _ _ o1
  have G := g1'.trans g2'
  have l2 := g2'.wf.lt o2
  have ht21 := take21
  have ht5 := take5
  clear g1' g2'
  repeat with_reducible first | refine zAA ?_ | refine zAB ?_ | refine zAC ?_ | refine zAS ?_ | (apply dr_q; exact q1) | (apply dr_ql; exact q1; exact og1)
  refine dr_e (ex_callF (by exact s1) ((eown_ok H c.g hg _ k2 G.wf ⟨nv, rfl, hN.mono G⟩).mono ?_))
  rintro _ k3 ⟨hO, g3⟩
  have hO' := Hid.mk hO
  obtain ⟨tn, ds, rfl, kB, kl, kn⟩ := hO
  have htn := zAW kB.len
  replace o1 := g3.keep _ _ o1
  replace o2 := g3.keep _ _ o2
  have m3 := g3.next
  replace G := G.trans g3
  clear kB kl kn g3
  refine ⟨by simp [heldOk, Nat.testBit, o1], ?_⟩
  repeat with_reducible (apply dr_q; exact q1)
  refine dr_e (ex_callF (by exact s1) ((CloneStr_ok H c.conc h1 cv k3 G.wf (hcv.mono G)).mono ?_))
  rintro xc k4 ⟨B1, g4⟩
  have B1' := Hid.mk B1
  have hxc := zAW B1.len
  replace o1 := g4.keep _ _ o1
  replace o2 := g4.keep _ _ o2
  have m4 := g4.next
  replace G := G.trans g4
  have hO4 := Hid.mk (hO'.out.grow g4)
  clear B1 g4 hO'
  refine ⟨by simp [heldOk, Nat.testBit, o1], ?_⟩
  refine dr_e (ex_callF (by exact s1) ((CloneStr_ok H c.virt h2 vv k4 G.wf (hvv.mono G)).mono ?_))
  rintro xv k5 ⟨B2, g5⟩
  have B2' := Hid.mk B2
  have hxv := zAW B2.len
  replace o1 := g5.keep _ _ o1
  replace o2 := g5.keep _ _ o2
  have m5 := g5.next
  replace G := G.trans g5
  have hO5 := Hid.mk (hO4.out.grow g5)
  have B15 := Hid.mk (B1'.out.grow g5)
  clear B2 g5 hO4 B1'
  refine ⟨by simp [heldOk, Nat.testBit, o1], ?_⟩
  -- the parts are written into what was handed
  refine dr_st (zAT (by exact e1) (by exact e1) (cs := [tn, .int .i64 (trimF c.g).root]) rfl rfl G.wf o1 (by simp) (by rw [List.all_cons, List.all_cons, htn]; rfl) ?_)
  rintro v6 k6 p6 o16
  replace o16 : k6.objs.get b1 = some (v6, .cells false 42 [.int .i64 c.params, tn, .int .i64 (trimF c.g).root, cv, vv]) := o16
  have o26 := p6.keep b2 (by omega) _ o2
  have G6 := p6.grow h hw G (by omega)
  refine zAB ⟨by simp [heldOk, Nat.testBit], ?_⟩
  have n6 := p6.next
  clear o1 o2
  repeat with_reducible (apply dr_q; exact q1)
  refine dr_st (zAT (by exact e1) (by exact e1) (cs := [xc]) (cells_of_len B15.out.len) rfl G6.wf o16 (by simp) (by rw [List.all_cons, hxc]; rfl) ?_)
  rintro v7 k7 p7 o17
  replace o17 : k7.objs.get b1 = some (v7, .cells false 42 [.int .i64 c.params, tn, .int .i64 (trimF c.g).root, xc, vv]) := o17
  have o27 := p7.keep b2 (by omega) _ o26
  have G7 := p7.grow h hw G6 (by omega)
  refine zAB ⟨by simp [heldOk, Nat.testBit], ?_⟩
  have n7 := p7.next
  repeat with_reducible (apply dr_q; exact q1)
  refine dr_st (zAT (by exact e1) (by exact e1) (cs := [xv]) (cells_of_len B2'.out.len) rfl G7.wf o17 (by simp) (by rw [List.all_cons, hxv]; rfl) ?_)
  rintro v8 k8 p8 o18
  replace o18 : k8.objs.get b1 = some (v8, .cells false 42 [.int .i64 c.params, tn, .int .i64 (trimF c.g).root, xc, xv]) := o18
  have o28 := p8.keep b2 (by omega) _ o27
  have G8 := p8.grow h hw G7 (by omega)
  refine zAB ⟨by simp [heldOk, Nat.testBit], ?_⟩
  have n8 := p8.next
  clear o16 o26 o17 o27
  repeat with_reducible first | refine zAA ?_ | refine zAC ?_ | refine zAD ?_ | refine zAa ?_ | (apply st_q; exact q1)
  refine zAT (by exact e1) (by exact e1) (cs := [.int .i64 c.params, tn, .int .i64 (trimF c.g).root, xc, xv]) rfl rfl G8.wf o28 (by simp) (by simp only [List.all_cons, List.all_nil, htn, hxc, hxv]; rfl) ?_
  rintro v9 k9 p9 o29
  simp only [List.take_zero, List.nil_append, List.length_cons, List.length_nil, List.drop_succ_cons, List.drop_zero, List.append_nil, Nat.zero_add, Nat.reduceAdd, List.drop_nil, List.cons_append] at o29
  have G9 := p9.grow h hw G8 (by omega)
  have kk : ∀ x p, k2.next ≤ x → k5.objs.get x = some p → k9.objs.get x = some p := fun x p hx hp => by
    have a := p6.keep x (by omega) _ hp
    have b := p7.keep x (by omega) _ a
    have d := p8.keep x (by omega) _ b
    exact p9.keep x (by omega) _ d
  have q1' := (hO5.out.stay fun x p hx hp _ => kk x p hx hp).base (base' := h.next) (by omega)
  have q2' := built_base (built_stay' B15.out fun x p hx hp _ => kk x p (by omega) hp) (b' := h.next) (by omega)
  have q3' := built_base (built_stay' B2'.out fun x p hx hp _ => kk x p (by omega) hp) (b' := h.next) (by omega)
  clear o18 o28 p9
  repeat' with_reducible first | refine zAA ?_ | refine zAB ?_ | refine zAI ?_ | (apply zAK; exact n1; exact r1)
  exact ⟨⟨_, _, _, rfl, q1', q2', q3'⟩, G9⟩
variable (HG : HasGrow summ) (HS : HasSort summ)
include HG HS
theorem WithClass_ok (L : List Mean) (bv : Nat) (s : List Nat) (hs : s.length < 2 ^ 60) (c : CDef) (hc : CSm c) (hg : GTi c.g) (nv cv vv : AVal) (h : AHeap) (hw : WF h) (hE : EnvAt h (.ptr (some (bv, 0))) L) (hN : NodesAt h nv c.g.nodes) (hcv : StrsAt h cv c.conc) (hvv : StrsAt h vv c.virt) :
    Cl fns summ 22 [.ptr (some (bv, 0)), .str s, .agg [.int .i64 c.params, nv, .int .i64 c.g.root, cv, vv]] h fun r h' => (∃ z, r = .tuple [z, .int .i64 (withC s c)] ∧ (withC s c ≠ 0 → z = .ptr none) ∧ (withC s c = 0 → ∃ bz, z = .ptr (some (bz, 0)) ∧ EnvAt h' z (⟨s, none, some (keptC c)⟩ :: L))) ∧ Grow h h' := by
  have sc := Hid.mk hc
  have tg := Hid.mk hg
  clear hc hg
  refine H.go (fn := F_WithClass) rfl (by decide) rfl rfl ?_
  unfold F_WithClass
  dsimp only [qQ, qE, qN, gQ, gE, vi]
  refine zAC (zAD ?_)
  refine st_box (by exact e1) (by exact cc) hw ?_
  rintro b5 h5 hb5 g5 o5
  have l5 := g5.wf.lt o5
  have hvp : eqA .ptr (.ptr (some (bv, 0))) (.ptr none) = some false := rfl
  have hx0 : (false ^^ false) = false := rfl
  have ht5 := take5
  have ht2 := take21
  repeat with_reducible first | refine zAA ?_ | refine zAB ?_ | refine zAC ?_ | refine zAD ?_ | refine zAF ?_ | (apply st_q; exact q1) | (apply zAH; exact e1)
  refine zAd (by exact s1) ((IsName_ok H s hs h5).mono ?_)
  rintro _ h5' ⟨rfl, hq5⟩
  replace hq5 := hq5.symm
  subst hq5
  cases hn : isNameF s
  · have hz : withC s c = 2 := by rw [withC, hn]; rfl
    replace hz := Hid.mk hz
    repeat' with_reducible first | refine zAA ?_ | refine zAL ?_ | refine zAQ ?_ | refine zAB ?_ | refine zAC ?_ | refine zAD ?_ | refine zAI ?_ | (apply st_q; exact q1) | (apply zAG; exact e1) | (apply zAK; exact n1; exact r1)
    refine ⟨⟨_, by rw [hz.out], fun _ => rfl, fun hh => ?_⟩, g5⟩
    rw [hz.out] at hh; cases hh
  · have hz : withC s c = ckF c := by rw [withC, hn]; rfl
    replace hz := Hid.mk hz
    repeat with_reducible first | refine zAA ?_ | refine zAE ?_ | refine zAB ?_ | refine zAC ?_ | refine zAD ?_ | refine zAJ ?_ | (apply st_q; exact q1) | (apply zAH; exact e1)
    refine zAd (by exact s1) ((CheckClass_ok H HG HS c sc.out nv cv vv h5 g5.wf (hN.mono g5) (hcv.mono g5) (hvv.mono g5)).mono ?_)
    rintro _ h6 ⟨rfl, g6⟩
    have o56 := g6.keep _ _ o5
    have g06 := g5.trans g6
    cases hck : (ckF c != 0)
    rotate_left
    · have hne : ckF c ≠ 0 := by simpa using hck
      replace hne := Hid.mk hne
      repeat' with_reducible first | refine zAA ?_ | refine zAL ?_ | refine zAB ?_ | refine zAC ?_ | refine zAD ?_ | refine zAI ?_ | (apply st_q; exact q1) | (apply zAG; exact e1) | (apply zAK; exact n1; exact r1)
      exact ⟨⟨_, by rw [hz.out], fun _ => rfl, fun hh => absurd (hz.out ▸ hh) hne.out⟩, g06⟩
    · have hk0 : ckF c = 0 := by simpa using hck
      have hc0 := (ck_facts hk0).1
      have tt := Hid.mk (trim_tiny tg.out hc0)
      have ct := Hid.mk (trim_quo hc0).check
      replace hk0 := Hid.mk hk0
      clear hc0
      repeat with_reducible first | refine zAA ?_ | refine zAB ?_ | refine zAC ?_ | refine zAD ?_ | refine zAJ ?_ | (apply st_q; exact q1) | (apply zAH; exact e1)
      refine zAd (by exact s1) ((cown_ok H c tg.out.toGSm (by have := sc.out.sum; omega) (by have := sc.out.sum; omega) nv cv vv h6 g6.wf (hN.mono g06) (hcv.mono g06) (hvv.mono g06)).mono ?_)
      rintro _ h7 ⟨⟨xn, xc, xv, rfl, hxn, hxc, hxv⟩, g7⟩
      have o1n : one xn = true := by
        obtain ⟨nv', cs, hq, kB, _⟩ := hxn
        cases hq
        exact zAW kB.len
      have o1c := zAW hxc.len
      have o1v := zAW hxv.len
      have o57 := g7.keep _ _ o56
      have g07 := g06.trans g7
      have n6 := g6.next
      clear o5 o56
      skip
      refine zAT (by exact e1) (by exact e1) (cs := [.int .i64 c.params, xn, .int .i64 (trimF c.g).root, xc, xv]) rfl rfl g7.wf o57 (by simp) (by simp only [List.all_cons, List.all_nil, o1n, o1c, o1v]; rfl) ?_
      rintro v8 h8 p8 o8
      simp only [List.take_zero, List.nil_append, List.length_cons, List.length_nil, List.drop_succ_cons, List.drop_zero, List.append_nil, Nat.zero_add, Nat.reduceAdd, List.drop_nil, List.cons_append] at o8
      have g08 := p8.grow h hw g07 hb5
      have hx8 := (hxn.stay fun x p hx hp _ => p8.keep x (by omega) _ hp).graph
      obtain ⟨xn', hq, hN8⟩ := hx8
      cases hq
      have hC8 := built_stay' hxc fun x p hx hp _ => p8.keep x (by omega) _ hp
      have hV8 := built_stay' hxv fun x p hx hp _ => p8.keep x (by omega) _ hp
      have oE8 := hE.mono g08
      clear o57 p8 hxn hxc hxv
      repeat with_reducible first | refine zAA ?_ | refine zAB ?_ | refine zAC ?_ | refine zAD ?_ | (apply st_q; exact q1)
      refine zAd (by exact s1) ((Least_ok H (trimF c.g) tt.out ct.out _ h8 g08.wf ⟨xn, rfl, hN8⟩).mono ?_)
      rintro lv h9 ⟨hO, g9⟩
      have hO' := Hid.mk hO
      obtain ⟨ln, cs, rfl, kB, kl, kn⟩ := hO
      have hln := zAW kB.len
      have o59 := g9.keep _ _ o8
      have n8 := g08.wf.lt o8
      clear kB kl kn o8
      repeat with_reducible (apply st_q; exact q1)
      refine zAT (by exact e1) (by exact e1) (cs := [ln, .int .i64 (leastF (trimF c.g)).root]) rfl rfl g9.wf o59 (by simp) (by rw [List.all_cons, List.all_cons, hln]; rfl) ?_
      rintro v10 h10 p10 o10
      replace o10 : h10.objs.get b5 = some (v10, .cells false 42 [.int .i64 c.params, ln, .int .i64 (leastF (trimF c.g)).root, xc, xv]) := o10
      have g010 := p10.grow h hw (g08.trans g9) hb5
      have hL10 := (hO'.out.stay fun x p hx hp _ => p10.keep x (by omega) _ hp).graph
      obtain ⟨ln', hq, hLN⟩ := hL10
      cases hq
      have hC10 := built_strs' (built_stay' (hC8.grow g9) fun x p hx hp _ => p10.keep x (by omega) _ hp)
      have hV10 := built_strs' (built_stay' (hV8.grow g9) fun x p hx hp _ => p10.keep x (by omega) _ hp)
      have hE10 := hE.mono g010
      clear o59 p10 hO' hC8 hV8 oE8
      repeat with_reducible first | refine zAA ?_ | refine zAB ?_ | refine zAC ?_ | refine zAD ?_ | (apply st_q; exact q1)
      refine st_q (v := .agg [.str s, .ptr none, .ptr (some (b5, 0)), .ptr (some (bv, 0))]) (b := none) (by rw [qA_build]; simp only [fillA, ev_put, ev_start, if_true, if_false, Nat.reduceEqDiff, cellsA, List.length_cons, List.length_nil]; rfl) ?_
      refine st_box (by exact e1) (by exact cc) g010.wf ?_
      rintro bz h11 hbz g11 o11
      have o511 := g11.keep _ _ o10
      have hz0 : withC s c = 0 := by rw [hz.out, hk0.out]
      replace hz0 := Hid.mk hz0
      clear o10
      repeat' with_reducible first | refine zAA ?_ | refine zAB ?_ | refine zAI ?_ | (apply st_q; exact q1) | (apply zAK; exact n1; exact r1)
      refine ⟨⟨_, by rw [hz0.out], fun hh => absurd hz0.out hh, fun _ => ⟨bz, rfl, bz, _, _, _, _, _, _, rfl, o11, rfl, ⟨b5, _, _, _, ln, xc, xv, rfl, o511, hLN.mono g11, hC10.mono g11, hV10.mono g11⟩, hE10.mono g11⟩⟩, g010.trans g11⟩
end
end Go.Ab.S
end
section
/-
  What a name means as a class; all classes' names.
-/
namespace Go.Ab.S
open Go.Ab
set_option maxHeartbeats 4000000
def classF : List Mean → List Nat → Option CDef
  | [], _ => none
  | m :: l, s => if m.cls.isSome && eqL m.name s then m.cls else classF l s
def resC (o : Option CDef) : CDef := match o with | some c => ownC c | none => ⟨0, ⟨[], 0⟩, [], []⟩
def ClsAt (h : AHeap) (v : AVal) (c : CDef) : Prop := ∃ nv cv vv, v = .agg [.int .i64 c.params, nv, .int .i64 c.g.root, cv, vv] ∧ NodesAt h nv c.g.nodes ∧ StrsAt h cv c.conc ∧ StrsAt h vv c.virt
structure COk (c : CDef) : Prop where
  g : GSm c.g
  conc : c.conc.length ≤ 2 ^ 31
  virt : c.virt.length ≤ 2 ^ 31
/-- A class of one's own. -/
def OwnC (h : AHeap) (base : Nat) (cs : List AVal) (c : CDef) : Prop := ∃ xn xc xv, cs = [.int .i64 c.params, xn, .int .i64 c.g.root, xc, xv] ∧ OwnG h base (.agg [xn, .int .i64 c.g.root]) c.g ∧ Built h base 9 1 xc c.conc.length (c.conc.map AVal.str) ∧ Built h base 9 1 xv c.virt.length (c.virt.map AVal.str)
theorem OwnC.stay {h h' : AHeap} {base : Nat} {cs : List AVal} {c : CDef} (k : OwnC h base cs c) (hk : ∀ x p, base ≤ x → h.objs.get x = some p → h'.objs.get x = some p) : OwnC h' base cs c := by
  obtain ⟨xn, xc, xv, q0, q1, q2, q3⟩ := k
  exact ⟨xn, xc, xv, q0, q1.stay fun x p hx hp _ => hk x p hx hp, built_stay' q2 fun x p hx hp _ => hk x p hx hp, built_stay' q3 fun x p hx hp _ => hk x p hx hp⟩
theorem OwnC.at {h : AHeap} {base : Nat} {cs : List AVal} {c : CDef} (k : OwnC h base cs c) : ClsAt h (.agg cs) c := by
  obtain ⟨xn, xc, xv, rfl, q1, q2, q3⟩ := k
  obtain ⟨nv, hq, hN⟩ := q1.graph
  cases hq
  exact ⟨xn, xc, xv, rfl, hN, built_strs' q2, built_strs' q3⟩
theorem OwnC.ones {h : AHeap} {base : Nat} {cs : List AVal} {c : CDef} (k : OwnC h base cs c) : cs.all one = true := by
  obtain ⟨nv, cv, vv, hq, q1, q2, q3⟩ := k.at
  cases hq
  simp only [List.all_cons, List.all_nil, zAW q1.len, zAW q2.len, zAW q3.len]; rfl
section
variable {fns : FuncId → Option AFunc} {summ : FuncId → List AVal → AHeap → Option (D (AVal × AHeap))}
variable (H : Has fns summ)
include H
theorem EClass_nil (s : List Nat) (h : AHeap) (hw : WF h) : Cl fns summ 24 [.ptr none, .str s] h fun r h' => r = .tuple [.agg [.int .i64 0, .slice none 0, .int .i64 0, .slice none 0, .slice none 0], .int .i64 1] ∧ Grow h h' := by
  refine H.go (fn := F_EClass) rfl (by decide) rfl rfl ?_
  unfold F_EClass
  dsimp only [qQ, qE, qN, gQ, gE, vi]
  refine zAC (zAD ?_)
  refine st_box (by exact e1) (by exact cc) hw ?_
  rintro b3 h3 hb3 g3 o3
  refine st_alloc g3.wf ?_
  rintro b4 h4 hb4 g4 o4
  refine st_alloc g4.wf ?_
  rintro b5 h5 hb5 g5 o5
  have l4 := g4.wf.lt o4
  replace o4 := g5.keep _ _ o4
  have g05 := (g3.trans g4).trans g5
  have n3 := g3.next
  have n4 := g4.next
  have hne : eqA .ptr (.ptr none) (.ptr none) = some true := rfl
  clear o3 g3 g4 g5
  repeat with_reducible first | refine zAA ?_ | refine zAB ?_ | refine zAC ?_ | refine zAD ?_ | (apply st_q; exact q1) | (apply zAG; exact e1)
  refine zAT (by exact e1) (by exact e1) (cs := [.int .i64 0, .slice none 0, .int .i64 0, .slice none 0, .slice none 0]) rfl rfl g05.wf o4 (by simp) rfl ?_
  rintro v6 h6 p6 o6
  simp only [List.take_zero, List.nil_append, List.length_cons, List.length_nil, List.drop_succ_cons, List.drop_zero, List.append_nil, Nat.zero_add, Nat.reduceAdd, List.drop_nil, List.cons_append] at o6
  have o56 := p6.keep b5 (by omega) _ o5
  have g06 := p6.grow h hw g05 (by omega)
  skip
  refine zAT (by exact e1) (by exact e1) (cs := [.int .i64 1]) rfl rfl g06.wf o56 (by simp) rfl ?_
  rintro v7 h7 p7 o7
  simp only [List.take_zero, List.nil_append, List.length_cons, List.length_nil, List.drop_succ_cons, List.drop_zero, List.append_nil, Nat.zero_add, Nat.reduceAdd, List.drop_nil, List.cons_append] at o7
  have o67 := p7.keep b4 (by omega) _ o6
  have hpz := take5
  have g07 := p7.grow h hw g06 (by omega)
  repeat' with_reducible first | refine zAA ?_ | refine zAL ?_ | refine zAB ?_ | refine zAI ?_ | (apply zAK; exact n1; exact r1)
  exact ⟨rfl, g07⟩
theorem EClass_ok (L : List Mean) (hL : ∀ m ∈ L, ∀ g, m.cls = some g → COk g) (hne : L ≠ []) (v : AVal) (s : List Nat) (h : AHeap) (hw : WF h) (hE : EnvAt h v L) :
    Cl fns summ 24 [v, .str s] h fun r h' => (∃ z, r = .tuple [z, .int .i64 (if (classF L s).isSome then 0 else 10)] ∧ ClsAt h' z (resC (classF L s))) ∧ Grow h h' := by
  have hv1 := hE.one
  obtain ⟨bv, rfl⟩ : ∃ bv, v = .ptr (some (bv, 0)) := by
    cases L with
    | nil => exact absurd rfl hne
    | cons m l => obtain ⟨b, _, _, _, _, _, _, rfl, _⟩ := hE; exact ⟨b, rfl⟩
  have hvp : eqA .ptr (.ptr (some (bv, 0))) (.ptr none) = some false := rfl
  have hLs := Hid.mk hL
  have hx0 : (false ^^ false) = false := rfl
  clear hL
  refine H.go (fn := F_EClass) rfl (by decide) rfl rfl ?_
  unfold F_EClass
  dsimp only [qQ, qE, qN, gQ, gE, vi]
  refine zAC (zAD ?_)
  refine st_box (by exact e1) (by exact cc) hw ?_
  rintro b3 h3 hb3 g3 o3
  refine st_alloc g3.wf ?_
  rintro b4 h4 hb4 g4 o4
  refine st_alloc g4.wf ?_
  rintro b5 h5 hb5 g5 o5
  have l3 := g3.wf.lt o3
  have l4 := g4.wf.lt o4
  have l5 := g5.wf.lt o5
  replace o4 := g5.keep _ _ o4
  replace o3 := g5.keep _ _ (g4.keep _ _ o3)
  have g05 := (g3.trans g4).trans g5
  have n3 := g3.next
  have n4 := g4.next
  have n5 := g5.next
  clear g3 g4 g5
  repeat with_reducible first | refine zAA ?_ | refine zAB ?_ | refine zAC ?_ | refine zAD ?_ | refine zAJ ?_ | (apply st_q; exact q1) | (apply zAH; exact e1)
  refine zAd (by exact s1) ((eall_ok H _ hv1 h5 g05.wf).mono ?_)
  rintro _ h6 ⟨b, rfl, hb, vb, g6⟩
  have hb3 := l3
  have lb : b < h6.next := by obtain ⟨_, ov⟩ := vb; exact g6.wf.lt ov
  repeat with_reducible first | refine zAA ?_ | refine zAB ?_
  refine cd_gen (fun A => A.defers = [] ∧ ev A (.tmp 3) = some (.ptr (some (b3, 0))) ∧ ev A (.tmp 4) = some (.ptr (some (b4, 0))) ∧ ev A (.tmp 5) = some (.ptr (some (b5, 0))) ∧ ev A (.tmp 11) = some (.func 61 [] [.ptr (some (b, 0))]))
    ⟨by exact n1, by exact e1, by exact e1, by exact e1, by exact e1⟩ ?_
  rintro A ⟨hd, t3, t4, t5, t11⟩
  refine cd_block ?_
  generalize hB : ACode.block 1 _ = B
  generalize hA : ACode.ops [⟨some 6, none, .q (.mov (.tmp 12))⟩] = As
  refine rangeF_K t11 g6.wf ?_
  intro l d h7 hdn hld g7 ol od
  have g57 : Grow h5 h7 := g6.trans g7
  have n6 := g6.next
  have w5 := g05.wf
  refine (eall1_ok H L _ h5 (hE.mono g05) b (.yield l) (fun k hp => Grow h5 hp ∧ l < hp.next ∧ (∃ ver, hp.objs.get l = some (ver, .loop .ready none A.tmps [12] As B d)) ∧ (∃ ver, hp.objs.get d = some (ver, .dfr false)) ∧ classF L s = classF (L.drop k) s)
    (fun hp => WF hp ∧ Grow h hp ∧ (∃ ver, hp.objs.get l = some (ver, .loop .done (some .ret) A.tmps [12] As B d)) ∧ (∃ ver, hp.objs.get d = some (ver, .dfr false)) ∧ ∃ z zc zv g ver4 ver5 base, classF L s = some g ∧ hp.objs.get b4 = some (ver4, .cells false 42 [.int .i64 g.params, z, .int .i64 (trimF g.g).root, zc, zv]) ∧ hp.objs.get b5 = some (ver5, .cells false 31 [.int .i64 0]) ∧ (l < base ∧ d < base) ∧ OwnC hp base [.int .i64 g.params, z, .int .i64 (trimF g.g).root, zc, zv] (ownC g))
    (fun k hp p => p.1) ?_ ?_ h7 ⟨g57, by obtain ⟨_, ol⟩ := ol; exact g7.wf.lt ol, ol, od, rfl⟩ (by obtain ⟨vv, ov⟩ := vb; exact ⟨vv, g7.keep _ _ ov⟩)).mono ?_
  · rintro k hp hp' vk ⟨gp, hl, ⟨vl, ol⟩, ⟨vd, od⟩, hr⟩ ⟨vv, ov⟩ pb
    exact ⟨pb.grow h5 w5 gp hb, Nat.lt_of_lt_of_le hl pb.next, ⟨_, pb.keep l (by rintro rfl; rw [ol] at ov; cases ov) _ ol⟩, ⟨_, pb.keep d (by rintro rfl; rw [od] at ov; cases ov) _ od⟩, hr⟩
  · clear ol od
    rintro k hp vk hk ⟨gp, hl, ⟨vl, ol⟩, ⟨vd, od⟩, hr⟩ ⟨vv, ov⟩ hEk
    obtain ⟨mm, rest, hdrop⟩ : ∃ mm rest, L.drop k = mm :: rest := by
      rw [List.drop_eq_getElem_cons hk]; exact ⟨_, _, rfl⟩
    have hmem : mm ∈ L := List.mem_of_mem_drop (i := k) (by rw [hdrop]; simp)
    have hrd : L.drop (k + 1) = rest := by
      have := congrArg List.tail hdrop
      simpa using this
    rw [hdrop] at hEk
    obtain ⟨be, vere, roe, ee, pv, pc, pa, rfl, oe5, hvx, hv, hrest⟩ := hEk
    have oe := gp.keep _ _ oe5
    have T3 : ev { tmps := A.tmps, defers := [] } (.tmp 3) = some (.ptr (some (b3, 0))) := t3
    have T4 : ev { tmps := A.tmps, defers := [] } (.tmp 4) = some (.ptr (some (b4, 0))) := t4
    have T5 : ev { tmps := A.tmps, defers := [] } (.tmp 5) = some (.ptr (some (b5, 0))) := t5
    refine yield_K ol gp.wf rfl (fun a1 => a1.defers = [] ∧ ev a1 (.tmp 6) = some (.ptr (some (be, 0))) ∧ ev a1 (.tmp 3) = some (.ptr (some (b3, 0))) ∧ ev a1 (.tmp 4) = some (.ptr (some (b4, 0))) ∧ ev a1 (.tmp 5) = some (.ptr (some (b5, 0)))) ?_ ?_
    · subst hA
      clear hd t3 t4 t5 t11
      repeat with_reducible first | refine zAA ?_ | refine zAB ?_ | refine zAD ?_ | (apply st_q; exact q1)
      exact ⟨rfl, by exact n1, by exact e1, by exact e1, by exact e1, by exact e1⟩
    · rintro a1 hq ⟨hd1, t6, t3', t4', t5'⟩ pL ⟨vlb, olb⟩
      clear hd t3 t4 t5 t11 T3 T4 T5
      have hlb : b ≠ l := by rintro rfl; rw [ol] at ov; cases ov
      have hld' : d ≠ l := by rintro rfl; rw [ol] at od; cases od
      have hel : be ≠ l := by rintro rfl; rw [ol] at oe; cases oe
      have gq : Grow h5 hq := pL.grow h5 w5 gp (by omega)
      have oeq := pL.keep _ hel _ oe
      have odq := pL.keep _ hld' _ od
      have ovq := pL.keep _ hlb _ ov
      have o3q := gq.keep _ _ o3
      have o4q := gq.keep _ _ o4
      have o5q := gq.keep _ _ o5
      have hlq : l < hq.next := Nat.lt_of_lt_of_le hl pL.next
      have w := gq.wf
      have next : ∀ e : AExit, classF L s = classF (L.drop (k + 1)) s → e = .normal → ∀ h4, But l hq h4 → (∃ ver, h4.objs.get l = some (ver, .loop .ready none A.tmps [12] As B d)) → (((.bool true : AVal) = .bool true ∧ (Grow h5 h4 ∧ l < h4.next ∧ (∃ ver, h4.objs.get l = some (ver, .loop .ready none A.tmps [12] As B d)) ∧ (∃ ver, h4.objs.get d = some (ver, .dfr false)) ∧ classF L s = classF (L.drop (k + 1)) s) ∧ VarAt h4 b (.ptr (some (be, 0)))) ∨ False) := fun e hh _ h4 p4 o4l =>
        .inl ⟨rfl, ⟨p4.grow h5 w5 gq (by omega), Nat.lt_of_lt_of_le hlq p4.next, o4l, ⟨_, p4.keep d hld' _ odq⟩, hh⟩, ⟨_, p4.keep b hlb _ ovq⟩⟩
      replace next := Hid.mk next
      subst hB
      clear ol oe od ov pL
      cases hmv : mm.cls with
      | none =>
        rw [hmv] at hv
        have hpv : pc = .ptr none := hv
        subst hpv
        have hq1 : eqA .ptr (.ptr none) (.ptr none) = some true := rfl
        have hxr : (true ^^ true) = false := rfl
        have hr' : classF L s = classF (L.drop (k + 1)) s := by rw [hr, hdrop, classF, hmv, hrd]; rfl
        replace hr' := Hid.mk hr'
        clear hr
        repeat with_reducible first | refine zAA ?_ | refine zAE ?_ | refine zAC ?_ | refine zAF ?_ | refine zAJ ?_ | refine zAa ?_ | refine zAS ?_ | (apply dr_gF; exact e1) | (apply dr_q; exact q1) | (apply dr_ql; exact q1; exact og1) | (apply zAH; exact e1)
        exact ⟨w, ⟨_, olb⟩, fun hh h4 p4 o4 => (next.out _ hr'.out hh h4 p4 o4).imp id False.elim, fun hh => absurd rfl hh⟩
      | some g =>
        rw [hmv] at hv
        obtain ⟨bg, verg, rog, eg, nvg, cvg, vvg, rfl, og5, hNg, hCg, hVg⟩ := hv
        have hq1 : eqA .ptr (.ptr (some (bg, 0))) (.ptr none) = some false := rfl
        have hxr : (true ^^ false) = true := rfl
        have ogq := gq.keep _ _ og5
        cases hn : eqL mm.name s
        · have hr' : classF L s = classF (L.drop (k + 1)) s := by rw [hr, hdrop, classF, hmv, hn, hrd]; rfl
          replace hr' := Hid.mk hr'
          clear hr
          repeat with_reducible first | refine zAA ?_ | refine zAE ?_ | refine zAC ?_ | refine zAF ?_ | refine zAJ ?_ | refine zAa ?_ | refine zAS ?_ | (apply dr_gT; exact e1) | (apply dr_q; exact q1) | (apply dr_ql; exact q1; exact og1) | (apply zAH; exact e1)
          exact ⟨w, ⟨_, olb⟩, fun hh h4 p4 o4 => (next.out _ hr'.out hh h4 p4 o4).imp id False.elim, fun hh => absurd rfl hh⟩
        · have hr' : classF L s = some g := by rw [hr, hdrop, classF, hmv, hn]; rfl
          replace hr' := Hid.mk hr'
          clear hr next
          have hgs := hLs.out mm hmem g hmv
          replace hmv := Hid.mk hmv
          have hpg := take5
          have ht2 : ∀ x y : AVal, List.take 2 [x, y] = [x, y] := fun _ _ => rfl
          repeat with_reducible first | refine zAA ?_ | refine zAC ?_ | refine zAD ?_ | refine zAF ?_ | refine zAa ?_ | refine zAS ?_ | (apply dr_gT; exact e1) | (apply dr_q; exact q1) | (apply dr_ql; exact q1; exact og1) | (apply st_q; exact q1) | (apply zAG; exact e1)
          refine zAd (by exact s1) ((cown_ok H g hgs.g hgs.conc hgs.virt nvg cvg vvg hq w (hNg.mono gq) (hCg.mono gq) (hVg.mono gq)).mono ?_)
          rintro _ h8 ⟨⟨tn, tc, tv, rfl, hO1, hO2, hO3⟩, g8⟩
          have hO' : Hid (OwnC h8 hq.next [.int .i64 g.params, tn, .int .i64 (trimF g.g).root, tc, tv] (ownC g)) := ⟨⟨tn, tc, tv, rfl, hO1, hO2, hO3⟩⟩
          have htn := hO'.out.ones
          clear hO1 hO2 hO3
          have o48 := g8.keep _ _ o4q
          have o58 := g8.keep _ _ o5q
          have olb8 := g8.keep _ _ olb
          have od8 := g8.keep _ _ odq
          have nq := gq.next
          have n8 := g8.next
          clear o3q o4q o5q oeq ogq ovq olb odq
          skip
          refine zAT (by exact e1) (by exact e1) (cs := [.int .i64 g.params, tn, .int .i64 (trimF g.g).root, tc, tv]) rfl rfl g8.wf o48 (by simp) htn ?_
          rintro v9 h9 p9 o9
          simp only [List.take_zero, List.nil_append, List.length_cons, List.length_nil, List.drop_succ_cons, List.drop_zero, List.append_nil, Nat.zero_add, Nat.reduceAdd, List.drop_nil, List.cons_append] at o9
          have o59 := p9.keep b5 (by omega) _ o58
          have olb9 := p9.keep l (by omega) _ olb8
          have od9 := p9.keep d (by omega) _ od8
          have w9 := p9.wf g8.wf
          have g9 := p9.grow h hw (g05.trans (gq.trans g8)) (by omega)
          have hO9 := hO'.out.stay fun c p hcb hp => p9.keep c (by omega) _ hp
          clear o48 o58 olb8 od8
          skip
          refine zAT (by exact e1) (by exact e1) (cs := [.int .i64 0]) rfl rfl w9 o59 (by simp) rfl ?_
          rintro v10 h10 p10 o10
          simp only [List.take_zero, List.nil_append, List.length_cons, List.length_nil, List.drop_succ_cons, List.drop_zero, List.append_nil, Nat.zero_add, Nat.reduceAdd, List.drop_nil, List.cons_append] at o10
          have o410 := p10.keep b4 (by omega) _ o9
          have olb10 := p10.keep l (by omega) _ olb9
          have od10 := p10.keep d (by omega) _ od9
          have w10 := p10.wf w9
          have g10 := p10.grow h hw g9 (by omega)
          have n9 := p9.next
          have hO10 := hO9.stay fun c p hcb hp => p10.keep c (by omega) _ hp
          clear o9 o59 olb9 od9
          repeat with_reducible first | refine zAA ?_ | refine zAQ ?_ | refine zAB ?_ | refine zAI ?_
          refine ⟨w10, ⟨_, olb10⟩, (by intro hh; cases hh), fun _ h4' p4 o4l => .inr ⟨rfl, p4.wf w10, p4.grow h hw g10 (by omega), o4l, ⟨_, p4.keep d hld' _ od10⟩, tn, tc, tv, g, _, _, hq.next, hr'.out, p4.keep b4 (by omega) _ o410, p4.keep b5 (by omega) _ o10, ⟨hlq, by omega⟩, hO10.stay fun c p hcb hp => p4.keep c (by omega) _ hp⟩⟩
  · clear ol od
    rintro _ h8 (⟨gp, hl, ⟨vl, ol⟩, ⟨vd, od⟩, hr⟩ | ⟨w8, g8, ol, ⟨vd, od⟩, z, zc, zv, gg, ver4, ver5, base, hvf, oz4, oz5, ⟨bl, bd⟩, hOwn⟩)
    · rw [List.drop_length] at hr
      have hnone : classF L s = none := hr
      refine ⟨gp.wf, .inl ⟨⟨_, ol⟩, fun h9 p9 => ?_⟩⟩
      have hld' : d ≠ l := by rintro rfl; rw [ol] at od; cases od
      have o49 := p9.keep b4 (by omega) _ (gp.keep _ _ o4)
      have o59 := p9.keep b5 (by omega) _ (gp.keep _ _ o5)
      have od9 := p9.keep d hld' _ od
      have g9 := p9.grow h hw (g05.trans gp) (by omega)
      have T4 : ev { tmps := A.tmps, defers := [.collected d] } (.tmp 4) = some (.ptr (some (b4, 0))) := t4
      have T5 : ev { tmps := A.tmps, defers := [.collected d] } (.tmp 5) = some (.ptr (some (b5, 0))) := t5
      have hdd : (ADef.collected d :: A.defers) = [.collected d] := by rw [hd]
      have hpz := take5
      replace hnone := Hid.mk hnone
      clear hr hd t3 t4 t5 t11 ol od o3 o4 o5
      repeat with_reducible first | refine zAA ?_ | refine zAE ?_ | refine zAC ?_ | refine zAD ?_ | (apply st_q; exact q1)
      refine zAT (by exact e1) (by exact e1) (cs := [.int .i64 0, .slice none 0, .int .i64 0, .slice none 0, .slice none 0]) rfl rfl g9.wf o49 (by simp) rfl ?_
      rintro v10 h10 p10 o10
      simp only [List.take_zero, List.nil_append, List.length_cons, List.length_nil, List.drop_succ_cons, List.drop_zero, List.append_nil, Nat.zero_add, Nat.reduceAdd, List.drop_nil, List.cons_append] at o10
      have o510 := p10.keep b5 (by omega) _ o59
      have od10 := p10.keep d (by omega) _ od9
      have g10 := p10.grow h hw g9 (by omega)
      clear o49 o59 od9
      skip
      refine zAT (by exact e1) (by exact e1) (cs := [.int .i64 10]) rfl rfl g10.wf o510 (by simp) rfl ?_
      rintro v11 h11 p11 o11
      simp only [List.take_zero, List.nil_append, List.length_cons, List.length_nil, List.drop_succ_cons, List.drop_zero, List.append_nil, Nat.zero_add, Nat.reduceAdd, List.drop_nil, List.cons_append] at o11
      have o411 := p11.keep b4 (by omega) _ o10
      have od11 := p11.keep d (by omega) _ od10
      have g11 := p11.grow h hw g10 (by omega)
      clear o10 o510 od10
      repeat with_reducible first | refine zAA ?_ | refine zAB ?_ | refine zAI ?_
      refine fin_coll (by first | exact hdd | (simp only [zAg]; exact hdd)) g11.wf ⟨_, od11⟩ fun h12 p12 => ?_
      have o412 := p12.keep b4 (by omega) _ o411
      have o512 := p12.keep b5 (by omega) _ o11
      refine ⟨_, by exact r1, ⟨.agg [.int .i64 0, .slice none 0, .int .i64 0, .slice none 0, .slice none 0], ?_, ?_⟩, p12.grow h hw g11 (by omega)⟩
      · rw [hnone.out]; rfl
      · rw [hnone.out]
        exact ⟨.slice none 0, .slice none 0, .slice none 0, rfl, ⟨[], ⟨rfl, fun i x hx => by simp at hx⟩, rfl, fun i n c hn _ => by simp [resC] at hn⟩, strs_nil _, strs_nil _⟩
    · refine ⟨w8, .inr ⟨.ret, (by intro hh; cases hh), ol, fun h9 p9 => ?_⟩⟩
      obtain ⟨vl, ol⟩ := ol
      have hld' : d ≠ l := by rintro rfl; rw [ol] at od; cases od
      have T4 : ev { tmps := A.tmps, defers := [.collected d] } (.tmp 4) = some (.ptr (some (b4, 0))) := t4
      have T5 : ev { tmps := A.tmps, defers := [.collected d] } (.tmp 5) = some (.ptr (some (b5, 0))) := t5
      have hdd : (ADef.collected d :: A.defers) = [.collected d] := by rw [hd]
      have o49 := p9.keep b4 (by omega) _ oz4
      have o59 := p9.keep b5 (by omega) _ oz5
      have od9 := p9.keep d hld' _ od
      have g9 := p9.grow h hw g8 (by omega)
      have hO9 := hOwn.stay fun c p hcb hp => p9.keep c (by omega) _ hp
      have hpz := take5
      replace hvf := Hid.mk hvf
      clear hd t3 t11 oz4 oz5 od hOwn o3 o4 o5
      repeat with_reducible first | refine zAL ?_ | refine zAQ ?_
      refine fin_coll (by first | exact hdd | (simp only [zAg]; exact hdd)) g9.wf ⟨_, od9⟩ fun h12 p12 => ?_
      have o412 := p12.keep b4 (by omega) _ o49
      have o512 := p12.keep b5 (by omega) _ o59
      refine ⟨_, by exact r1, ⟨.agg [.int .i64 gg.params, z, .int .i64 (trimF gg.g).root, zc, zv], ?_, ?_⟩, p12.grow h hw g9 (by omega)⟩
      · rw [hvf.out]; rfl
      · rw [hvf.out]
        exact (hO9.stay fun c p hcb hp => p12.keep c (by omega) _ hp).at
theorem EClasses1_ok (m : Mean) (l : List Mean) (bm : Nat) (h : AHeap) (hE : EnvAt h (.ptr (some (bm, 0))) (m :: l)) : Cl fns summ 46 [.ptr (some (bm, 0))] h fun r h' => r = .bool m.cls.isSome ∧ h' = h := by
  obtain ⟨be, ver, ro, e, pv, pc, pa, hq, oe, _, hv, _⟩ := hE
  cases hq
  refine H.go (fn := F_EClasses1) rfl (by decide) rfl rfl ?_
  unfold F_EClasses1
  dsimp only [qQ, qE, qN, gQ, gE, vi]
  cases hmv : m.cls with
  | none =>
    rw [hmv] at hv
    have hpv : pc = .ptr none := hv
    subst hpv
    have hq1 : eqA .ptr (.ptr none) (.ptr none) = some true := rfl
    have hxr : (true ^^ true) = false := rfl
    repeat' with_reducible first | refine zAA ?_ | refine zAB ?_ | refine zAC ?_ | refine zAD ?_ | refine zAI ?_ | (apply st_q; exact q1) | (apply zAK; exact n1; exact r1)
    exact ⟨rfl, rfl⟩
  | some g =>
    rw [hmv] at hv
    obtain ⟨bg, verg, rog, eg, nvg, cvg, vvg, rfl, og5, hNg, _, _⟩ := hv
    have hq1 : eqA .ptr (.ptr (some (bg, 0))) (.ptr none) = some false := rfl
    have hxr : (true ^^ false) = true := rfl
    repeat' with_reducible first | refine zAA ?_ | refine zAB ?_ | refine zAC ?_ | refine zAD ?_ | refine zAI ?_ | (apply st_q; exact q1) | (apply zAK; exact n1; exact r1)
    exact ⟨rfl, rfl⟩
variable (HS : HasSort summ)
include HS
theorem EClasses_ok (L : List Mean) (hL : L.length ≤ 2 ^ 20) (hb : ∀ m ∈ L, m.cls.isSome = true → ∀ c ∈ m.name, c < 256) (v : AVal) (h : AHeap) (hw : WF h) (hE : EnvAt h v L) :
    Cl fns summ 21 [v] h fun r h' => ∃ out, StrsAt h' r out ∧ Rises out ∧ (∀ s, s ∈ out ↔ ∃ m ∈ L, m.cls.isSome = true ∧ m.name = s) ∧ out.length ≤ 2 ^ 20 ∧ Grow h h' := by
  have hq := enames_ok H HS L (fun m => m.cls.isSome) hL hb (.func 46 [] []) rfl (fun m l bm h hE => cv_func (EClasses1_ok H m l bm h hE)) v h hw hE
  refine H.go (fn := F_EClasses) rfl (by decide) rfl rfl ?_
  unfold F_EClasses
  dsimp only [qQ, qE, qN, gQ, gE, vi]
  repeat with_reducible first | refine zAA ?_ | refine zAB ?_ | refine zAC ?_ | refine zAD ?_ | (apply st_q; exact q1)
  refine zAd (by exact s1) (hq.mono ?_)
  rintro r h2 hr
  repeat' with_reducible first | refine zAA ?_ | refine zAB ?_ | refine zAI ?_ | (apply st_q; exact q1) | (apply zAK; exact n1; exact r1)
  exact hr
end
end Go.Ab.S
end
