import Derived.Test.YtapnoohglfhgeaaGreatDoorP19
/-
  Part 20 of the proof.
-/
set_option linter.all false
/-
  What is known all the while, and what is put behind.
-/
namespace Go.Ab.S
open Go.Ab
set_option maxHeartbeats 8000000
def swP (q : Pr) : Pr := (q.2, q.1)
def flM (g : Graph) (met : List Pr) : List Pr := met.filter fun q => freeF (nodeD g q.1)
/-- What is known all the while. -/
structure SInv (h0 : AHeap) (b2 b3 r5 r6 r7 : Nat) (nv mv : AVal) (g h : Graph) (w met fl fl' : List Pr) (vw : AVal) (hp : AHeap) : Prop where
  grow : Grow h0 hp
  o2 : ∃ ver, hp.objs.get b2 = some (ver, .cells false 24 [nv, .int .i64 g.root])
  o3 : ∃ ver, hp.objs.get b3 = some (ver, .cells false 24 [mv, .int .i64 h.root])
  o5 : ∃ ver es c, hp.objs.get r5 = some (ver, .map es c) ∧ MP es met
  o6 : ∃ ver es c, hp.objs.get r6 = some (ver, .map es c) ∧ FA es fl
  o7 : ∃ ver es c, hp.objs.get r7 = some (ver, .map es c) ∧ FA es fl'
  bw : Built hp h0.next 76 2 vw w.length (rowC w)
  low : h0.next ≤ r5 ∧ h0.next ≤ r6 ∧ h0.next ≤ r7 ∧ r5 ≠ r6 ∧ r5 ≠ r7 ∧ r6 ≠ r7
section
variable {h0 : AHeap} {b2 b3 r5 r6 r7 : Nat} {nv mv : AVal} {g h : Graph} {w w' met fl fl' : List Pr} {vw vw' : AVal} {hp hq : AHeap} (I : SInv h0 b2 b3 r5 r6 r7 nv mv g h w met fl fl' vw hp)
include I
theorem SInv.other (gr : Grow hp hq) : SInv h0 b2 b3 r5 r6 r7 nv mv g h w met fl fl' vw hq := by
  obtain ⟨v2, k2⟩ := I.o2
  obtain ⟨v3, k3⟩ := I.o3
  obtain ⟨v5, e5, c5, k5, f5⟩ := I.o5
  obtain ⟨v6, e6, c6, k6, f6⟩ := I.o6
  obtain ⟨v7, e7, c7, k7, f7⟩ := I.o7
  exact ⟨I.grow.trans gr, ⟨v2, gr.keep _ _ k2⟩, ⟨v3, gr.keep _ _ k3⟩, ⟨_, _, _, gr.keep _ _ k5, f5⟩, ⟨_, _, _, gr.keep _ _ k6, f6⟩, ⟨_, _, _, gr.keep _ _ k7, f7⟩, I.bw.grow gr, I.low⟩
theorem SInv.row (B : Built hp h0.next 76 2 vw' w'.length (rowC w')) : SInv h0 b2 b3 r5 r6 r7 nv mv g h w' met fl fl' vw' hp :=
  ⟨I.grow, I.o2, I.o3, I.o5, I.o6, I.o7, B, I.low⟩
/-- Rows put behind: all else stays. -/
theorem SInv.push (gr : Grow h0 hq) (kp : ∀ c p, hp.objs.get c = some p → (∀ n, vw ≠ .slice (some (c, 0)) n) → hq.objs.get c = some p) (B : Built hq h0.next 76 2 vw' w'.length (rowC w')) : SInv h0 b2 b3 r5 r6 r7 nv mv g h w' met fl fl' vw' hq := by
  obtain ⟨v2, k2⟩ := I.o2
  obtain ⟨v3, k3⟩ := I.o3
  obtain ⟨v5, e5, c5, k5, f5⟩ := I.o5
  obtain ⟨v6, e6, c6, k6, f6⟩ := I.o6
  obtain ⟨v7, e7, c7, k7, f7⟩ := I.o7
  have kk : ∀ c p, hp.objs.get c = some p → (∀ vs, p.2 ≠ .cells false 76 vs) → hq.objs.get c = some p := fun c p hc hne => kp c p hc (built_ne I.bw hc hne)
  exact ⟨gr, ⟨v2, kk _ _ k2 (fun vs hh => by cases hh)⟩, ⟨v3, kk _ _ k3 (fun vs hh => by cases hh)⟩, ⟨_, _, _, kk _ _ k5 (fun vs hh => by cases hh), f5⟩, ⟨_, _, _, kk _ _ k6 (fun vs hh => by cases hh), f6⟩, ⟨_, _, _, kk _ _ k7 (fun vs hh => by cases hh), f7⟩, B, I.low⟩
theorem SInv.put5 (w0 : WF h0) {ver : Nat} {es : List (AVal × AVal × Nat)} {c : Nat} {met' : List Pr} (p : But r5 hp hq) (o : hq.objs.get r5 = some (ver, .map es c)) (f : MP es met') : SInv h0 b2 b3 r5 r6 r7 nv mv g h w met' fl fl' vw hq := by
  obtain ⟨v2, k2⟩ := I.o2
  obtain ⟨v3, k3⟩ := I.o3
  obtain ⟨v5, e5, c5, k5, f5⟩ := I.o5
  obtain ⟨v6, e6, c6, k6, f6⟩ := I.o6
  obtain ⟨v7, e7, c7, k7, f7⟩ := I.o7
  obtain ⟨l5, l6, l7, n56, n57, n67⟩ := I.low
  exact ⟨p.grow h0 w0 I.grow l5, ⟨_, p.kp k5 k2 rfl⟩, ⟨_, p.kp k5 k3 rfl⟩, ⟨_, _, _, o, f⟩, ⟨_, _, _, p.keep _ (Ne.symm n56) _ k6, f6⟩, ⟨_, _, _, p.keep _ (Ne.symm n57) _ k7, f7⟩, built_but I.bw p k5 (fun vs hh => by cases hh), l5, l6, l7, n56, n57, n67⟩
theorem SInv.put6 (w0 : WF h0) {ver : Nat} {es : List (AVal × AVal × Nat)} {c : Nat} {fl2 : List Pr} (p : But r6 hp hq) (o : hq.objs.get r6 = some (ver, .map es c)) (f : FA es fl2) : SInv h0 b2 b3 r5 r6 r7 nv mv g h w met fl2 fl' vw hq := by
  obtain ⟨v2, k2⟩ := I.o2
  obtain ⟨v3, k3⟩ := I.o3
  obtain ⟨v5, e5, c5, k5, f5⟩ := I.o5
  obtain ⟨v6, e6, c6, k6, f6⟩ := I.o6
  obtain ⟨v7, e7, c7, k7, f7⟩ := I.o7
  obtain ⟨l5, l6, l7, n56, n57, n67⟩ := I.low
  exact ⟨p.grow h0 w0 I.grow l6, ⟨_, p.kp k6 k2 rfl⟩, ⟨_, p.kp k6 k3 rfl⟩, ⟨_, _, _, p.keep _ n56 _ k5, f5⟩, ⟨_, _, _, o, f⟩, ⟨_, _, _, p.keep _ (Ne.symm n67) _ k7, f7⟩, built_but I.bw p k6 (fun vs hh => by cases hh), l5, l6, l7, n56, n57, n67⟩
theorem SInv.put7 (w0 : WF h0) {ver : Nat} {es : List (AVal × AVal × Nat)} {c : Nat} {fl2 : List Pr} (p : But r7 hp hq) (o : hq.objs.get r7 = some (ver, .map es c)) (f : FA es fl2) : SInv h0 b2 b3 r5 r6 r7 nv mv g h w met fl fl2 vw hq := by
  obtain ⟨v2, k2⟩ := I.o2
  obtain ⟨v3, k3⟩ := I.o3
  obtain ⟨v5, e5, c5, k5, f5⟩ := I.o5
  obtain ⟨v6, e6, c6, k6, f6⟩ := I.o6
  obtain ⟨v7, e7, c7, k7, f7⟩ := I.o7
  obtain ⟨l5, l6, l7, n56, n57, n67⟩ := I.low
  exact ⟨p.grow h0 w0 I.grow l7, ⟨_, p.kp k7 k2 rfl⟩, ⟨_, p.kp k7 k3 rfl⟩, ⟨_, _, _, p.keep _ n57 _ k5, f5⟩, ⟨_, _, _, p.keep _ n67 _ k6, f6⟩, ⟨_, _, _, o, f⟩, built_but I.bw p k7 (fun vs hh => by cases hh), l5, l6, l7, n56, n57, n67⟩
end
theorem cd_post' {fns : FuncId → Option AFunc} {summ : FuncId → List AVal → AHeap → Option (D (AVal × AHeap))} {ro : Option Nat} {c : ACode} {a : AAct} {h : AHeap} {Q : AExit → AAct → AHeap → Prop} (I : AAct → AHeap → Prop) (k1 : Cd fns summ ro c a h (nxt I Q)) (k2 : ∀ a h, I a h → Q .normal a h) : Cd fns summ ro c a h Q :=
  k1.mono fun e a1 h1 hq => by cases e with
    | normal => exact k2 a1 h1 hq
    | ret => exact hq
    | exit i => exact hq
theorem flM_put (g : Graph) (met : List Pr) (p : Pr) : flM g (met ++ [p]) = flM g met ++ (if freeF (nodeD g p.1) then [p] else []) := by
  simp only [flM, List.filter_append]
  congr 1
  cases h : freeF (nodeD g p.1) <;> simp [h]
theorem bad_any {g : Graph} {met : List Pr} {p : Pr} (hp : p ∉ met) (hf : freeF (nodeD g p.1) = true) : met.any (badS g p) = (((flM g met).any fun q => q.1 == p.1) || (((flM g met).map swP).any fun q => q.1 == p.2)) := by
  unfold flM
  rw [Bool.eq_iff_iff]
  simp only [List.any_eq_true, badS, hf, Bool.true_and, Bool.and_eq_true, Bool.or_eq_true, List.mem_filter, List.mem_map, beq_iff_eq, swP]
  constructor
  · rintro ⟨q, hq, hq2, h | h⟩
    · exact .inl ⟨q, ⟨hq, hq2⟩, h.symm⟩
    · exact .inr ⟨_, ⟨q, ⟨hq, hq2⟩, rfl⟩, h.symm⟩
  · rintro (⟨q, ⟨hq, hq2⟩, h⟩ | ⟨_, ⟨q, ⟨hq, hq2⟩, rfl⟩, h⟩)
    · exact ⟨q, hq, hq2, .inl h.symm⟩
    · exact ⟨q, hq, hq2, .inr h.symm⟩
theorem bad_none {g : Graph} {met : List Pr} {p : Pr} (hf : freeF (nodeD g p.1) = false) : met.any (badS g p) = false := by
  rw [List.any_eq_false]; intro q _; simp [badS, hf]
/-- All that follows from two nodes is put behind. -/
def pushCode : ACode :=
 .seq (
 .ops [
 ⟨(some 111), none, .q (.fieldA 2 (.tmp 10))⟩,
 ⟨(some 112), none, .q (.load none (.tmp 111))⟩,
 ⟨(some 113), none, .q (.lenV (.tmp 112))⟩,
 ⟨(some 114), none, .q (.mov (.val (.int .i64 0)))⟩]) (
 .block 2 (
 .loop (
 .seq (
 .ops [
 ⟨(some 115), none, .q (.num .lss (.tmp 114) (.tmp 113))⟩]) (
 .seq (
 .cond (.tmp 115) (
 .skip) (
 .exit 2)) (
 .seq (
 .block 3 (
 .seq (
 .ops [
 ⟨(some 116), none, .q (.mov (.tmp 114))⟩,
 ⟨(some 16), none, .q (.mov (.tmp 116))⟩]) (
 .draw [
 ⟨0, 0, ⟨(some 117), none, .q (.mov (.tmp 8))⟩⟩,
 ⟨1, 0, ⟨(some 118), none, .q (.fieldA 2 (.tmp 10))⟩⟩,
 ⟨2, 2, ⟨(some 119), none, .q (.load none (.tmp 118))⟩⟩,
 ⟨3, 0, ⟨(some 120), none, .q (.mov (.tmp 16))⟩⟩,
 ⟨4, 12, ⟨(some 121), none, .q (.indexA 1 (.tmp 119) (.tmp 120))⟩⟩,
 ⟨5, 16, ⟨(some 122), none, .q (.load none (.tmp 121))⟩⟩,
 ⟨6, 0, ⟨(some 123), none, .q (.fieldA 2 (.tmp 11))⟩⟩,
 ⟨7, 64, ⟨(some 124), none, .q (.load none (.tmp 123))⟩⟩,
 ⟨8, 0, ⟨(some 125), none, .q (.mov (.tmp 16))⟩⟩,
 ⟨9, 384, ⟨(some 126), none, .q (.indexA 1 (.tmp 124) (.tmp 125))⟩⟩,
 ⟨10, 512, ⟨(some 127), none, .q (.load none (.tmp 126))⟩⟩,
 ⟨11, 1056, ⟨(some 128), none, .q (.build [(.int .i64 0), (.int .i64 0)] [(0, 1, (.tmp 122)), (1, 1, (.tmp 127))])⟩⟩,
 ⟨12, 2048, ⟨(some 129), none, .e (.bslice 76 2 1 [(.int .i64 0), (.int .i64 0)] [(0, (.tmp 128))])⟩⟩,
 ⟨13, 4097, ⟨(some 130), none, .e (.append 76 2 16 (.tmp 117) (.tmp 129))⟩⟩,
 ⟨14, 16383, ⟨(some 8), none, .q (.mov (.tmp 130))⟩⟩]))) (
 .ops [
 ⟨(some 131), none, .q (.num .add (.tmp 114) (.val (.int .i64 1)))⟩,
 ⟨(some 114), none, .q (.mov (.tmp 131))⟩]))))))
section
variable {fns : FuncId → Option AFunc} {summ : FuncId → List AVal → AHeap → Option (D (AVal × AHeap))}
theorem push_ok {h0 : AHeap} {b2 b3 r5 r6 r7 b10 b11 : Nat} {nv mv : AVal} {g h : Graph} {w met fl fl' : List Pr} {vw : AVal} {hq : AHeap} {a : AAct} {Q : AExit → AAct → AHeap → Prop} (w0 : WF h0) (I : SInv h0 b2 b3 r5 r6 r7 nv mv g h w met fl fl' vw hq) {x y : Node} {av lv bv mv' : AVal}
    (o10 : ∃ ver, hq.objs.get b10 = some (ver, .cells false 60 [.int .i64 x.kind, .str x.name, av, lv, .bool x.isOpen])) (o11 : ∃ ver, hq.objs.get b11 = some (ver, .cells false 60 [.int .i64 y.kind, .str y.name, bv, mv', .bool y.isOpen]))
    (ha : IntsAt h0 av x.args) (hb : IntsAt h0 bv y.args) (hxy : x.args.length = y.args.length) (hx : x.args.length ≤ 4096) (hw : w.length ≤ 2 ^ 36) (hd : a.defers = [])
    (h2' : ev a (.tmp 2) = some (.ptr (some (b2, 0)))) (h3' : ev a (.tmp 3) = some (.ptr (some (b3, 0)))) (h5' : ev a (.tmp 5) = some (.map (some r5))) (h6' : ev a (.tmp 6) = some (.map (some r6))) (h7' : ev a (.tmp 7) = some (.map (some r7))) (h8' : ev a (.tmp 8) = some vw) (h10' : ev a (.tmp 10) = some (.ptr (some (b10, 0)))) (h11' : ev a (.tmp 11) = some (.ptr (some (b11, 0))))
    (k : ∀ a hr vw', SInv h0 b2 b3 r5 r6 r7 nv mv g h ((List.zip x.args y.args).reverse ++ w) met fl fl' vw' hr → a.defers = [] → ev a (.tmp 2) = some (.ptr (some (b2, 0))) → ev a (.tmp 3) = some (.ptr (some (b3, 0))) → ev a (.tmp 5) = some (.map (some r5)) → ev a (.tmp 6) = some (.map (some r6)) → ev a (.tmp 7) = some (.map (some r7)) → ev a (.tmp 8) = some vw' → Q .normal a hr) : Cd fns summ none pushCode a hq Q := by
  have hla := ha.len
  have hlb := hb.len
  have e36 : (2 : Nat) ^ 36 = 68719476736 := by decide
  have e37 : (2 : Nat) ^ 37 = 137438953472 := by decide
  obtain ⟨v10, o10⟩ := o10
  obtain ⟨v11, o11⟩ := o11
  unfold pushCode
  repeat with_reducible first | refine nxt_normal ?_ | refine nxt_ret ?_ | refine nxt_exit ?_ | refine blk_normal ?_ | refine blk_ret ?_ | refine blk_same ?_ | refine blk_other ?_ rfl | refine st_nil ?_ | refine cd_seq ?_ | refine cd_ops ?_ | refine cd_blockS ?_ | refine cd_blockO ?_ | refine cd_skip ?_ | refine cd_exit ?_ | refine cd_ret ?_ | refine dr_nil ?_ | refine cd_draw ?_ | (apply st_pair; exact e1; exact e1) | (apply dr_pair; exact e1; exact e1) | (apply dr_gT; exact e1) | (apply dr_gF; exact e1) | (apply dr_gU; exact e1) | (apply dr_q; exact q1) | (apply dr_ql; exact q1; exact og1) | (apply st_q; exact q1) | (apply st_pA; exact e1; exact e2) | (apply st_pO; exact e1; exact e2) | (apply st_qT; exact e1; exact q1) | (apply st_qF; exact e1) | (apply st_qU; exact e1) | (apply st_eF; exact e1) | (apply st_eU; exact e1) | (apply st_qS; exact e1; exact g1; exact q2) | (apply st_sA; exact e1; exact g1; exact e2; exact e3) | (apply st_sO; exact e1; exact g1; exact e2; exact e3) | (apply cd_condT; exact e1) | (apply cd_condF; exact e1)
  refine cd_count (N := x.args.length) (by omega) (fun j a hr => ∃ vx, SInv h0 b2 b3 r5 r6 r7 nv mv g h (((List.zip x.args y.args).take j).reverse ++ w) met fl fl' vx hr ∧ (∃ ver, hr.objs.get b10 = some (ver, .cells false 60 [.int .i64 x.kind, .str x.name, av, lv, .bool x.isOpen])) ∧ (∃ ver, hr.objs.get b11 = some (ver, .cells false 60 [.int .i64 y.kind, .str y.name, bv, mv', .bool y.isOpen])) ∧ a.defers = [] ∧
      ev a (.tmp 2) = some (.ptr (some (b2, 0))) ∧ ev a (.tmp 3) = some (.ptr (some (b3, 0))) ∧ ev a (.tmp 5) = some (.map (some r5)) ∧ ev a (.tmp 6) = some (.map (some r6)) ∧ ev a (.tmp 7) = some (.map (some r7)) ∧ ev a (.tmp 8) = some vx ∧ ev a (.tmp 10) = some (.ptr (some (b10, 0))) ∧ ev a (.tmp 11) = some (.ptr (some (b11, 0))))
    (by rintro j a hp t w (rfl | rfl | rfl) ⟨vx, k1, k2, k3, k4, k5, k6, k7, k8, k9, k10, k11, k12⟩ <;> exact ⟨vx, k1, k2, k3, by rw [defers_put]; exact k4, by exact e1, by exact e1, by exact e1, by exact e1, by exact e1, by exact e1, by exact e1, by exact e1⟩) (by decide) ?_ ?_ ⟨vw, by simpa using I, ⟨_, o10⟩, ⟨_, o11⟩, by exact n1, by exact e1, by exact e1, by exact e1, by exact e1, by exact e1, by exact e1, by exact e1, by exact e1⟩ (by exact e1) (by exact e1)
  · clear I o10 o11 hd h2' h3' h5' h6' h7' h8' h10' h11'
    rintro j a hr hj ⟨vx, I, ⟨v10, o10⟩, ⟨v11, o11⟩, hd, h2', h3', h5', h6', h7', h8', h10', h11'⟩ hi hn
    have hjy : j < y.args.length := by omega
    obtain ⟨ba, oa, vera, ra, ea, vsa, hixa, hga0, hva⟩ := ha.at (List.getElem?_eq_getElem hj)
    obtain ⟨bb, ob, verb, rb, eb, vsb, hixb, hgb0, hvb⟩ := hb.at (List.getElem?_eq_getElem hjy)
    have hga := I.grow.keep _ _ hga0
    have hgb := I.grow.keep _ _ hgb0
    have hzl : j < (List.zip x.args y.args).length := by rw [List.length_zip]; omega
    have hwl : (((List.zip x.args y.args).take j).reverse ++ w).length ≤ 2 ^ 36 + 4096 := by
      rw [List.length_append, List.length_reverse, List.length_take]; omega
    have hst : ((List.zip x.args y.args).take (j + 1)).reverse ++ w = (x.args[j], y.args[j]) :: (((List.zip x.args y.args).take j).reverse ++ w) := by
      rw [List.take_succ_eq_append_getElem hzl, List.reverse_append, List.getElem_zip]; rfl
    have hroom : roomA 16 ((((List.zip x.args y.args).take j).reverse ++ w).length + 1) = true := roomP (by omega)
    clear hla hlb hx hw hwl hzl
    replace hxy := Hid.mk hxy
    repeat with_reducible first | refine nxt_normal ?_ | refine nxt_ret ?_ | refine nxt_exit ?_ | refine blk_normal ?_ | refine blk_ret ?_ | refine blk_same ?_ | refine blk_other ?_ rfl | refine st_nil ?_ | refine cd_seq ?_ | refine cd_ops ?_ | refine cd_blockS ?_ | refine cd_blockO ?_ | refine cd_skip ?_ | refine cd_exit ?_ | refine cd_ret ?_ | refine dr_nil ?_ | refine cd_draw ?_ | (apply st_pair; exact e1; exact e1) | (apply dr_pair; exact e1; exact e1) | (apply dr_gT; exact e1) | (apply dr_gF; exact e1) | (apply dr_gU; exact e1) | (apply dr_q; exact q1) | (apply dr_ql; exact q1; exact og1) | (apply st_q; exact q1) | (apply st_pA; exact e1; exact e2) | (apply st_pO; exact e1; exact e2) | (apply st_qT; exact e1; exact q1) | (apply st_qF; exact e1) | (apply st_qU; exact e1) | (apply st_eF; exact e1) | (apply st_eU; exact e1) | (apply st_qS; exact e1; exact g1; exact q2) | (apply st_sA; exact e1; exact g1; exact e2; exact e3) | (apply st_sO; exact e1; exact g1; exact e2; exact e3) | (apply cd_condT; exact e1) | (apply cd_condF; exact e1)
    refine dr_st (st_bslice1 (v := .agg (pairC (x.args[j], y.args[j]))) (cs := pairC (x.args[j], y.args[j])) (by exact e1) rfl rfl rfl I.grow.wf ?_)
    rintro bx h9 hbx g9 ox
    refine st_nil ⟨by simp [heldOk, Nat.testBit, g9.keep _ _ o10, g9.keep _ _ o11, g9.keep _ _ hga, g9.keep _ _ hgb], ?_⟩
    have B9 := I.bw.grow g9
    have I9 := I.other g9
    refine dr_st (st_append1 (by exact e1) (by exact e1) B9 ox rfl rfl hroom g9.wf (by have := I9.grow.next; omega) ?_)
    rintro vx' h10 B10 f10 w10 n10 gr10 kp10
    have G10 := gr10 h0 w0 I9.grow (Nat.le_refl _)
    rw [← rowC_cons, ← hst] at B10
    have hll : (((List.zip x.args y.args).take (j + 1)).reverse ++ w).length = (((List.zip x.args y.args).take j).reverse ++ w).length + 1 := by rw [hst]; rfl
    rw [← hll] at B10
    have I10 := I9.push G10 kp10 B10
    have o10' := kp10 _ _ (g9.keep _ _ o10) (built_ne B9 (g9.keep _ _ o10) fun vs hh => by cases hh)
    have o11' := kp10 _ _ (g9.keep _ _ o11) (built_ne B9 (g9.keep _ _ o11) fun vs hh => by cases hh)
    refine st_nil ⟨by simp [heldOk, Nat.testBit, o10', o11', G10.keep _ _ hga0, G10.keep _ _ hgb0], ?_⟩
    clear I I9 B9 B10 kp10 gr10 f10 ox o10 o11 hga hgb hga0 hgb0 hixa hixb hva hvb g9 hst hll
    repeat with_reducible first | refine nxt_normal ?_ | refine nxt_ret ?_ | refine nxt_exit ?_ | refine blk_normal ?_ | refine blk_ret ?_ | refine blk_same ?_ | refine blk_other ?_ rfl | refine st_nil ?_ | refine cd_seq ?_ | refine cd_ops ?_ | refine cd_blockS ?_ | refine cd_blockO ?_ | refine cd_skip ?_ | refine cd_exit ?_ | refine cd_ret ?_ | refine dr_nil ?_ | refine cd_draw ?_ | (apply st_pair; exact e1; exact e1) | (apply dr_pair; exact e1; exact e1) | (apply dr_gT; exact e1) | (apply dr_gF; exact e1) | (apply dr_gU; exact e1) | (apply dr_q; exact q1) | (apply dr_ql; exact q1; exact og1) | (apply st_q; exact q1) | (apply st_pA; exact e1; exact e2) | (apply st_pO; exact e1; exact e2) | (apply st_qT; exact e1; exact q1) | (apply st_qF; exact e1) | (apply st_qU; exact e1) | (apply st_eF; exact e1) | (apply st_eU; exact e1) | (apply st_qS; exact e1; exact g1; exact q2) | (apply st_sA; exact e1; exact g1; exact e2; exact e3) | (apply st_sO; exact e1; exact g1; exact e2; exact e3) | (apply cd_condT; exact e1) | (apply cd_condF; exact e1)
    exact ⟨⟨vx', I10, ⟨_, o10'⟩, ⟨_, o11'⟩, by exact n1, by exact e1, by exact e1, by exact e1, by exact e1, by exact e1, by exact e1, by exact e1, by exact e1⟩, by exact e1, by exact e1⟩
  · rintro a hr ⟨vx, I, _, _, k4, k5, k6, k7, k8, k9, k10, _, _⟩
    rw [List.take_of_length_le (by rw [List.length_zip]; omega)] at I
    exact k a hr vx I k4 k5 k6 k7 k8 k9 k10
end
end Go.Ab.S
