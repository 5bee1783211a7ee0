import Derived.Test.YtapnoohglfhgeaaGreatDoorP02
import Derived.Lib.IndexBytes
import Derived.Deep.AppendSrc
import Derived.Laws.CopyRow
import Derived.RangeFuncRecord
/-
  Part 3 of the proof.
-/
set_option linter.all false
section
/-
  The quiet operations' soundness.
-/
namespace Go.Ab
open Go.RowKit (Below)

section
variable {P : Program} {N : Nat} {w0 : World} {G G' : GM} {h : AHeap} {w : World} {a : AAct} {ag : Act} {M : Nat}

theorem VR.of_ptr {p : Nat × Nat} {V : Value} (hv : VR P G (.ptr (some p)) V) : ∃ g, G p.1 = some g ∧ V = .pointer (some ⟨g.blk, g.off + p.2, none⟩) := hv

theorem q_lenS {x : Operand} {x' : AOpd} {c : Call} {t : TypeId} {s : List Nat} (hc : c.callee = .builtin .len) (hx : c.args.toList = [x]) (ht : c.argTypes.toList = [t]) (hu : P.underlying t = some .string)
    (hv : VR P G (.str s) (ag.eval x)) : QY P G w ag (.call c) (.int .i64 (Int.ofNat s.length)) none := by
  obtain ⟨b, hb, rfl⟩ := hv
  have ht' : c.argTypes = #[t] := by cases hh : c.argTypes; rw [hh] at ht; simp at ht; rw [ht]
  refine ⟨.int .i64 (Int.ofNat b.size), by simp [VR], fun o ho w' _ => ?_⟩
  rw [len_exec hc hx ht o ho, hb, ht']
  simp [Builtin.len_, run_underlying hu, goInt]

theorem q_lenV {x : Operand} {c : Call} {t e : TypeId} {n : Nat} {A : Option Addr} {cp : Nat} (hc : c.callee = .builtin .len) (hx : c.args.toList = [x]) (ht : c.argTypes.toList = [t]) (hu : P.underlying t = some (.slice e))
    (hv : ag.eval x = .slice A n cp) : QY P G w ag (.call c) (.int .i64 (Int.ofNat n)) none := by
  have ht' : c.argTypes = #[t] := by cases hh : c.argTypes; rw [hh] at ht; simp at ht; rw [ht]
  refine ⟨.int .i64 (Int.ofNat n), rfl, fun o ho w' _ => ?_⟩
  rw [len_exec hc hx ht o ho, hv, ht']
  simp [Builtin.len_, run_underlying hu, goInt]

theorem ER.length : ∀ {es : List (AVal × AVal × Nat)} {E : List MapEntry}, ER P G es E → E.length = es.length
  | [], _, e => by cases e; rfl
  | (_, _, _) :: _, _, ⟨e, es', rfl, _, _, _, r⟩ => by simp [r.length]

theorem q_len (hR : Rel P N w0 G h w) (ha : ActR P G M a ag) {x : Operand} {c : Call} {t : TypeId} {q : QOp} {v : AVal} {id : Option Nat} (hc : c.callee = .builtin .len) (hx : c.args.toList = [x]) (ht : c.argTypes.toList = [t])
    (hq : cLen P x t = some q) (e : qA a h q = some (v, id)) : QY P G w ag (.call c) v id := by
  unfold cLen at hq
  split at hq
  · rename_i x' hx' hu
    simp only [Option.some.injEq] at hq; subst hq
    simp only [qA] at e
    split at e
    · rename_i s hs
      simp only [Option.some.injEq, Prod.mk.injEq] at e
      obtain ⟨rfl, rfl⟩ := e
      exact q_lenS (x' := x') hc hx ht hu (ev_sound hR.glob ha hx' hs)
    · cases e
  · rename_i el x' hx' hu
    simp only [Option.some.injEq] at hq; subst hq
    simp only [qA] at e
    split at e
    · rename_i p n hs
      simp only [Option.some.injEq, Prod.mk.injEq] at e
      obtain ⟨rfl, rfl⟩ := e
      have hv := ev_sound hR.glob ha hx' hs
      cases p with
      | none => obtain ⟨rfl, hv⟩ := hv; exact q_lenV hc hx ht hu hv
      | some p => obtain ⟨g, c', _, hv, _⟩ := hv; exact q_lenV hc hx ht hu hv
    · rename_i hs
      simp only [Option.some.injEq, Prod.mk.injEq] at e
      obtain ⟨rfl, rfl⟩ := e
      obtain ⟨A, hv⟩ := ev_sound hR.glob ha hx' hs
      exact q_lenV (n := 0) hc hx ht hu hv
    · rename_i hs
      simp only [Option.some.injEq, Prod.mk.injEq] at e
      obtain ⟨rfl, rfl⟩ := e
      obtain ⟨A, c', hv⟩ := ev_sound hR.glob ha hx' hs
      exact q_lenV (n := 0) hc hx ht hu hv
    · cases e
  · rename_i kt et x' hx' hu
    simp only [Option.some.injEq] at hq; subst hq
    have ht' : c.argTypes = #[t] := by cases hh : c.argTypes; rw [hh] at ht; simp at ht; rw [ht]
    simp only [qA] at e
    split at e
    · rename_i hs
      simp only [Option.some.injEq, Prod.mk.injEq] at e
      obtain ⟨rfl, rfl⟩ := e
      have hv := ev_sound hR.glob ha hx' hs
      refine ⟨.int .i64 0, rfl, fun o ho w' _ => ?_⟩
      rw [len_exec hc hx ht o ho, hv, ht']
      simp [Builtin.len_, run_underlying hu, goInt]
    · rename_i r hs
      split at e
      · rename_i ver es clock hget
        simp only [Option.some.injEq, Prod.mk.injEq] at e
        obtain ⟨rfl, rfl⟩ := e
        obtain ⟨g, hg, hv⟩ := ev_sound hR.glob ha hx' hs
        obtain ⟨gi, hgi, ob, hob, E, rfl, hE⟩ := hR.obj r ver _ hget
        rw [hg] at hgi; cases hgi
        refine ⟨.int .i64 (Int.ofNat es.length), rfl, fun o ho w' hl => ?_⟩
        rw [len_exec hc hx ht o ho, hv, ht']
        have := run_getObj_of (P := P) (w := w') (by rw [hl _ rfl _ hg]; exact hob) (by intro c e f hh; cases hh)
        have hlen := hE.length
        simp at hlen
        simp [Builtin.len_, run_underlying hu, goInt, this, hlen]
      · cases e
    · cases e
  · cases hq

theorem cField_spec {t : TypeId} {i : Nat} {f : Field} (e : cField P t i = some f) : ∃ fs, P.underlying t = some (.struct fs) ∧ fs[i]? = some f := by
  unfold cField at e
  split at e
  · rename_i fs hu; exact ⟨fs, hu, by simpa using e⟩
  · cases e

set_option maxHeartbeats 1000000 in
theorem qA_sound (hR : Rel P N w0 G h w) (ha : ActR P G M a ag) {op : Op} {q : QOp} {v : AVal} {id : Option Nat} (hq : cQ P op = some q) (e : qA a h q = some (v, id)) : QY P G w ag op v id := by
  have ev1 : ∀ {x : Operand} {x' : AOpd} {v : AVal}, cOpd P x = some x' → ev a x' = some v → VR P G v (ag.eval x) := fun h1 h2 => ev_sound hR.glob ha h1 h2
  cases op with
  | move x =>
    simp only [cQ] at hq
    split at hq
    · rename_i x' hx
      simp only [Option.some.injEq] at hq; subst hq
      simp only [qA] at e
      split at e
      · rename_i u hu
        simp only [Option.some.injEq, Prod.mk.injEq] at e
        obtain ⟨rfl, rfl⟩ := e
        exact ⟨_, ev1 hx hu, fun o ho w' _ => by unfold execOp; rw [ho]; rfl⟩
      · cases e
    · cases hq
  | assign x =>
    simp only [cQ] at hq
    split at hq
    · rename_i x' hx
      simp only [Option.some.injEq] at hq; subst hq
      simp only [qA] at e
      split at e
      · rename_i u hu
        simp only [Option.some.injEq, Prod.mk.injEq] at e
        obtain ⟨rfl, rfl⟩ := e
        exact ⟨_, ev1 hx hu, fun o ho w' _ => by unfold execOp; rw [ho]; rfl⟩
      · cases e
    · cases hq
  | pick c x y =>
    simp only [cQ] at hq
    split at hq
    · rename_i c' x' y' hc hx hy
      simp only [Option.some.injEq] at hq; subst hq
      simp only [qA] at e
      split at e
      · rename_i hb
        split at e
        · rename_i u hu
          simp only [Option.some.injEq, Prod.mk.injEq] at e
          obtain ⟨rfl, rfl⟩ := e
          have hb' := ev1 hc hb
          exact ⟨_, ev1 hx hu, fun o ho w' _ => by unfold execOp; rw [ho]; simp only [VR] at hb'; simp [hb', asBool]⟩
        · cases e
      · rename_i hb
        split at e
        · rename_i u hu
          simp only [Option.some.injEq, Prod.mk.injEq] at e
          obtain ⟨rfl, rfl⟩ := e
          have hb' := ev1 hc hb
          exact ⟨_, ev1 hy hu, fun o ho w' _ => by unfold execOp; rw [ho]; simp only [VR] at hb'; simp [hb', asBool]⟩
        · cases e
      · cases e
    · cases hq
  | build t ps =>
    simp only [cQ] at hq
    split at hq
    · rename_i fs z ps' hu hz hps
      split at hq
      · rename_i hall
        simp only [Option.some.injEq] at hq; subst hq
        simp only [qA] at e
        split at e
        · rename_i cs hcs
          simp only [Option.some.injEq, Prod.mk.injEq] at e
          obtain ⟨rfl, rfl⟩ := e
          exact QY.of_yi (build_sound (id := none) (w := w) hR.glob ha hz hps hcs (.inl ⟨fs, hu, hall⟩)) fun o ho => by unfold execOp; rw [ho]
        · cases e
      · cases hq
    · rename_i n el z ps' hu hz hps
      split at hq
      · rename_i i hi
        simp only [Option.some.injEq] at hq; subst hq
        simp only [qA] at e
        split at e
        · rename_i cs hcs
          simp only [Option.some.injEq, Prod.mk.injEq] at e
          obtain ⟨rfl, rfl⟩ := e
          exact QY.of_yi (build_sound (id := none) (w := w) hR.glob ha hz hps hcs (.inr ⟨n, el, i, hu, hi⟩)) fun o ho => by unfold execOp; rw [ho]
        · cases e
      · cases hq
    · cases hq
  | nilCheck x =>
    simp only [cQ] at hq
    split at hq
    · rename_i x' hx
      simp only [Option.some.injEq] at hq; subst hq
      simp only [qA] at e
      split at e
      · rename_i p hp
        simp only [Option.some.injEq, Prod.mk.injEq] at e
        obtain ⟨rfl, rfl⟩ := e
        have hv := ev1 hx hp
        obtain ⟨g, hg, hv'⟩ := hv.of_ptr
        exact ⟨_, hv, fun o ho w' _ => by unfold execOp; rw [ho]; simp [hv']⟩
      · cases e
    · cases hq
  | binOp op t x y ty =>
    simp only [cQ, cBin] at hq
    split at hq
    · rename_i u' v' k hx hy hu
      simp only [Option.some.injEq] at hq; subst hq
      simp only [qA] at e
      split at e
      · rename_i uu vv h1 h2
        split at e
        · rename_i r hr
          simp only [Option.some.injEq, Prod.mk.injEq] at e
          obtain ⟨rfl, rfl⟩ := e
          obtain ⟨cv, h3, h4⟩ := numA_sound (G := G) (t := t) hr (ev1 hx h1) (ev1 hy h2)
          exact ⟨cv, h3, fun o ho w' _ => by
            unfold execOp; rw [ho]
            simp [guard_num (t := t) (x := x) (y := y) hr (ev1 hx h1) (ev1 hy h2) w', h4 w']⟩
        · cases e
      · cases e
    · rename_i u' v' hx hy hu
      simp only [Option.some.injEq] at hq; subst hq
      simp only [qA] at e
      split at e
      · rename_i uu vv h1 h2
        split at e
        · rename_i r hr
          simp only [Option.some.injEq, Prod.mk.injEq] at e
          obtain ⟨rfl, rfl⟩ := e
          obtain ⟨cv, h3, h4⟩ := numA_sound (G := G) (t := t) hr (ev1 hx h1) (ev1 hy h2)
          exact ⟨cv, h3, fun o ho w' _ => by
            unfold execOp; rw [ho]
            simp [guard_num (t := t) (x := x) (y := y) hr (ev1 hx h1) (ev1 hy h2) w', h4 w']⟩
        · cases e
      · cases e
    · rename_i u' v' hx hy _ _
      cases op <;> simp only at hq <;> first | cases hq; done | skip
      all_goals
        split at hq
        · rename_i k hk
          simp only [Option.some.injEq] at hq; subst hq
          simp only [qA] at e
          split at e
          · rename_i uu vv h1 h2
            split at e
            · rename_i b hb
              simp only [Option.some.injEq, Prod.mk.injEq] at e
              obtain ⟨rfl, rfl⟩ := e
              exact ⟨_, rfl, fun o ho w' _ => by
                unfold execOp; rw [ho]
                simp [eqA_guard hk hb (ev1 hx h1) (ev1 hy h2) _ w', (binOp_eql hk hb (ev1 hx h1) (ev1 hy h2) w').1, (binOp_eql hk hb (ev1 hx h1) (ev1 hy h2) w').2]⟩
            · cases e
          · cases e
        · cases hq
    · cases hq
  | unOp op t x =>
    simp only [cQ] at hq
    split at hq
    · rename_i x' hx
      simp only [Option.some.injEq] at hq; subst hq
      simp only [qA] at e
      split at e
      · rename_i b hb
        simp only [Option.some.injEq, Prod.mk.injEq] at e
        obtain ⟨rfl, rfl⟩ := e
        have hv := ev1 hx hb
        exact ⟨_, rfl, fun o ho w' _ => by unfold execOp; rw [ho]; simp only [VR] at hv; simp [hv, Op.unary]⟩
      · cases e
    · rename_i x' hx
      simp only [Option.some.injEq] at hq; subst hq
      simp only [qA] at e
      split at e
      · rename_i k n hb
        simp only [Option.some.injEq, Prod.mk.injEq] at e
        obtain ⟨rfl, rfl⟩ := e
        have hv := ev1 hx hb
        exact ⟨_, rfl, fun o ho w' _ => by unfold execOp; rw [ho]; simp only [VR] at hv; simp [hv, Op.unary, Op.intArith]⟩
      · cases e
    · cases hq
  | convert src dst x =>
    simp only [cQ] at hq
    split at hq
    · rename_i d k x' hs hd hx
      simp only [Option.some.injEq] at hq; subst hq
      simp only [qA] at e
      split at e
      · rename_i k' n hb
        simp only [Option.some.injEq, Prod.mk.injEq] at e
        obtain ⟨rfl, rfl⟩ := e
        have hv := ev1 hx hb
        exact ⟨_, rfl, fun o ho w' _ => by unfold execOp; rw [ho]; simp only [VR] at hv; simp [hv, convert, run_underlying hs, run_underlying hd, Conv.intToInt]⟩
      · cases e
    · rename_i x' hs hd hx
      simp only [Option.some.injEq] at hq; subst hq
      simp only [qA] at e
      split at e
      · rename_i s hb
        simp only [Option.some.injEq, Prod.mk.injEq] at e
        obtain ⟨rfl, rfl⟩ := e
        have hv := ev1 hx hb
        obtain ⟨b, hb', hb2⟩ := hv
        exact ⟨.string b, ⟨b, rfl, hb2⟩, fun o ho w' _ => by unfold execOp; rw [ho]; simp [hb', convert, run_underlying hs, run_underlying hd]⟩
      · cases e
    · cases hq
  | makeInterface t x =>
    simp only [cQ] at hq
    split at hq
    · cases hq
    · rename_i d x' hni hu hx
      simp only [Option.some.injEq] at hq; subst hq
      simp only [qA] at e
      split at e
      · rename_i u hu'
        simp only [Option.some.injEq, Prod.mk.injEq] at e
        obtain ⟨rfl, rfl⟩ := e
        refine ⟨.iface t (ag.eval x), ⟨_, rfl, ev1 hx hu'⟩, fun o ho w' _ => ?_⟩
        unfold execOp; rw [ho]
        cases d <;> first | (simp [Instr.makeInterface, run_underlying hu]; done) | (exact absurd rfl (hni _))
      · cases e
    · cases hq
  | makeFunc fn first captured =>
    cases fn <;> simp only [cQ] at hq <;> first | cases hq; done | skip
    rename_i f
    split at hq
    · rename_i l m hf hc
      simp only [Option.some.injEq] at hq; subst hq
      simp only [qA] at e
      split at e
      · rename_i L K h1 h2
        simp only [Option.some.injEq, Prod.mk.injEq] at e
        obtain ⟨rfl, rfl⟩ := e
        refine ⟨.func (.func f) (first.map ag.eval) (captured.map ag.eval), ⟨_, _, rfl, evs_sound hR.glob ha hf h1, evs_sound hR.glob ha hc h2⟩, fun o ho w' _ => ?_⟩
        unfold execOp; rw [ho]
        simp [Instr.makeFunc]
      · cases e
    · cases hq
  | field t x i =>
    simp only [cQ] at hq
    split at hq
    · rename_i f x' hf hx
      split at hq
      · rename_i s hs
        simp only [Option.some.injEq] at hq; subst hq
        simp only [qA] at e
        split at e
        · rename_i cs hcs
          split at e
          · rename_i u hu
            simp only [Option.some.injEq, Prod.mk.injEq] at e
            obtain ⟨rfl, rfl⟩ := e
            obtain ⟨fs, hfs, hfi⟩ := cField_spec hf
            obtain ⟨L, hL, hLs⟩ := ev1 hx hcs
            obtain ⟨cv, h1, h2⟩ := partA_sound hs hLs hu
            refine ⟨cv, h1, fun o ho w' _ => ?_⟩
            unfold execOp; rw [ho]
            simp [Instr.field, run_underlying hfs, hfi, hL, asAgg, h2 w']
          · cases e
        · cases e
      · cases hq
    · cases hq
  | fieldAddr t x i =>
    simp only [cQ] at hq
    split at hq
    · rename_i f x' hf hx
      split at hq
      · rename_i n hs
        simp only [Option.some.injEq] at hq; subst hq
        simp only [qA] at e
        split at e
        · rename_i b o hp
          simp only [Option.some.injEq, Prod.mk.injEq] at e
          obtain ⟨rfl, rfl⟩ := e
          obtain ⟨fs, hfs, hfi⟩ := cField_spec hf
          obtain ⟨g, hg, hv⟩ := ev1 hx hp
          refine ⟨.pointer (some ⟨g.blk, g.off + (o + f.offset), none⟩), ⟨g, hg, rfl⟩, fun o ho w' _ => ?_⟩
          unfold execOp; rw [ho]
          simp [Instr.fieldAt, run_underlying hfs, hfi, hv, Instr.sureAddr, fieldPlace, run_sizeOf_c hs, addr_add, Nat.add_assoc]
        · cases e
      · cases hq
    · cases hq
  | indexAddr t x i =>
    simp only [cQ] at hq
    split at hq
    · rename_i el x' i' hu hx hi
      split at hq
      · rename_i s hs
        simp only [Option.some.injEq] at hq; subst hq
        simp only [qA] at e
        split at e
        · rename_i b o n vi h1 h2
          split at e
          · rename_i j hj
            split at e
            · rename_i hlt
              simp only [Option.some.injEq, Prod.mk.injEq] at e
              obtain ⟨rfl, rfl⟩ := e
              obtain ⟨g, cp, hg, hv, _⟩ := ev1 hx h1
              obtain ⟨k, hk⟩ := asNat_sound hj (ev1 hi h2)
              refine ⟨.pointer (some ⟨g.blk, g.off + (o + j * s), none⟩), ⟨g, hg, rfl⟩, fun o ho w' _ => ?_⟩
              unfold execOp; rw [ho]
              have : (0 : Int) ≤ j ∧ (j : Int) < n := by omega
              simp [Instr.indexAt, run_underlying hu, hv, hk, asIntOf, run_sizeOf_c hs, addr_add, hlt, Nat.add_assoc]
            · cases e
          · cases e
        · cases e
      · cases hq
    · rename_i n el x' i' hu hx hi
      split at hq
      · rename_i s hs
        simp only [Option.some.injEq] at hq; subst hq
        simp only [qA] at e
        split at e
        · rename_i b o vi h1 h2
          split at e
          · rename_i j hj
            split at e
            · rename_i hlt
              simp only [Option.some.injEq, Prod.mk.injEq] at e
              obtain ⟨rfl, rfl⟩ := e
              obtain ⟨g, hg, hv⟩ := ev1 hx h1
              obtain ⟨k, hk⟩ := asNat_sound hj (ev1 hi h2)
              refine ⟨.pointer (some ⟨g.blk, g.off + (o + j * s), none⟩), ⟨g, hg, rfl⟩, fun o ho w' _ => ?_⟩
              unfold execOp; rw [ho]
              simp [Instr.indexAt, Instr.sureAddr, run_underlying hu, hv, hk, asIntOf, run_sizeOf_c hs, addr_add, hlt, Nat.add_assoc]
            · cases e
          · cases e
        · cases e
      · cases hq
    · cases hq
  | index t x i =>
    simp only [cQ] at hq
    split at hq
    · rename_i x' i' hu hx hi
      simp only [Option.some.injEq] at hq; subst hq
      simp only [qA] at e
      split at e
      · rename_i s vi h1 h2
        split at e
        · rename_i j hj
          split at e
          · rename_i c hc
            simp only [Option.some.injEq, Prod.mk.injEq] at e
            obtain ⟨rfl, rfl⟩ := e
            obtain ⟨b, hb, hb2⟩ := ev1 hx h1
            obtain ⟨k, hk⟩ := asNat_sound hj (ev1 hi h2)
            rw [← hb2, List.getElem?_map] at hc
            cases hbj : b.data.toList[j]? with
            | none => rw [hbj] at hc; cases hc
            | some y =>
              rw [hbj] at hc
              simp only [Option.map_some, Option.some.injEq] at hc
              have hby : b[j]? = some y := by
                have hlt : j < b.size := by
                  rcases Nat.lt_or_ge j b.data.toList.length with hh | hh
                  · simpa using hh
                  · rw [List.getElem?_eq_none hh] at hbj; cases hbj
                rw [ByteArray.getElem?_lt' b j hlt]
                have := Lib.data_getElem? b j hlt
                rw [hbj] at this
                exact this.symm
              refine ⟨.int .u8 (Int.ofNat c), rfl, fun o ho w' _ => ?_⟩
              unfold execOp; rw [ho]
              simp [Instr.index, run_underlying hu, hb, hk, asIntOf, hby, hc]
          · cases e
        · cases e
      · cases e
    · rename_i n el x' i' hu hx hi
      split at hq
      · rename_i hw s hs1 hs
        simp only [Option.some.injEq] at hq; subst hq
        simp only [qA] at e
        split at e
        · rename_i cs vi h1 h2
          split at e
          · rename_i j hj
            split at e
            · rename_i hlt
              split at e
              · rename_i u hu'
                simp only [Option.some.injEq, Prod.mk.injEq] at e
                obtain ⟨rfl, rfl⟩ := e
                obtain ⟨L, hL, hLs⟩ := ev1 hx h1
                obtain ⟨k, hk⟩ := asNat_sound hj (ev1 hi h2)
                have hw' : (if hw.isSome = true then some s else none) = hw := by
                  cases hw with
                  | none => rfl
                  | some m =>
                    rcases cHow_run (P := P) hs1 w with ⟨hh, _⟩ | ⟨m', hh, _, hh2⟩
                    · cases hh
                    · cases hh
                      rw [run_sizeOf_c hs] at hh2
                      simp at hh2
                      simp [hh2]
                rw [hw'] at hu'
                obtain ⟨cv, h3, h4⟩ := partA_sound hs1 hLs hu'
                refine ⟨cv, h3, fun o ho w' _ => ?_⟩
                unfold execOp; rw [ho]
                simp [Instr.index, run_underlying hu, hL, hk, asIntOf, run_sizeOf_c hs, hlt, h4 w']
              · cases e
            · cases e
          · cases e
        · cases e
      · cases hq
    · cases hq
  | slice t x lo hi mx =>
    cases mx with
    | none =>
      simp only [cQ] at hq
      split at hq
      · rename_i x' lo' hi' hu hx hlo hhi
        simp only [Option.some.injEq] at hq; subst hq
        simp only [qA] at e
        split at e
        · rename_i s h1
          split at e
          · rename_i hh hhh
            split at e
            · rename_i l hl
              simp only [Option.some.injEq, Prod.mk.injEq] at e
              obtain ⟨rfl, rfl⟩ := e
              obtain ⟨b, hb, rfl⟩ := ev1 hx h1
              have hsz : (b.data.toList.map UInt8.toNat).length = b.size := by simp
              rw [hsz] at hhh
              obtain ⟨hle, _, _⟩ := run_sliceBounds (len := b.size) (cap := b.size) hR.glob ha hlo hhi hhh hl (Nat.le_refl _) false w
              refine ⟨.string (b.extract l hh), ⟨_, rfl, ?_⟩, fun o ho w' _ => ?_⟩
              · rw [Lib.extract_data, List.drop_take, List.map_take, List.map_drop]
              · obtain ⟨_, _, hr⟩ := run_sliceBounds (len := b.size) (cap := b.size) hR.glob ha hlo hhi hhh hl (Nat.le_refl _) false w'
                unfold execOp; rw [ho]
                simp [Instr.sliceAt, Instr.slice, run_underlying hu, hb, hr]
            · cases e
          · cases e
        · cases e
      · rename_i el x' lo' hi' hu hx hlo hhi
        split at hq
        · rename_i s hs
          simp only [Option.some.injEq] at hq; subst hq
          simp only [qA] at e
          split at e
          · rename_i n h1
            split at e
            · rename_i hh hhh
              split at e
              · rename_i l hl
                simp only [Option.some.injEq, Prod.mk.injEq] at e
                obtain ⟨rfl, rfl⟩ := e
                obtain ⟨rfl, hv⟩ := ev1 hx h1
                obtain ⟨hle, hle2, _⟩ := run_sliceBounds (len := 0) (cap := 0) hR.glob ha hlo hhi hhh hl (Nat.le_refl _) true w
                refine ⟨.slice none 0 0, ⟨rfl, rfl⟩, fun o ho w' _ => ?_⟩
                obtain ⟨_, _, hr⟩ := run_sliceBounds (len := 0) (cap := 0) hR.glob ha hlo hhi hhh hl (Nat.le_refl _) true w'
                unfold execOp; rw [ho]
                have h2 : l = 0 := by omega
                have h3 : hh = 0 := by omega
                subst h2; subst h3
                simp [Instr.sliceAt, Instr.slice, run_underlying hu, hv, hr, run_sizeOf_c hs]
              · cases e
            · cases e
          · rename_i b o n h1
            split at e
            · rename_i hh hhh
              split at e
              · rename_i hl
                obtain ⟨g, cp, hg, hv, hcap, hroom⟩ := ev1 hx h1
                simp only [Option.some.injEq, Prod.mk.injEq] at e
                obtain ⟨rfl, rfl⟩ := e
                obtain ⟨hle, hle2, _⟩ := run_sliceBounds (len := n) (cap := cp) hR.glob ha hlo hhi hhh hl hcap true w
                refine ⟨.slice (some ⟨g.blk, g.off + o, none⟩) hh cp, ⟨g, cp, hg, rfl, by omega, hroom⟩, fun o' ho w' _ => ?_⟩
                obtain ⟨_, _, hr⟩ := run_sliceBounds (len := n) (cap := cp) hR.glob ha hlo hhi hhh hl hcap true w'
                unfold execOp; rw [ho]
                simp [Instr.sliceAt, Instr.slice, run_underlying hu, hv, hr, run_sizeOf_c hs, addr_add]
              · rename_i l hl0 hl
                obtain ⟨g, cp, hg, hv, hcap, hroom⟩ := ev1 hx h1
                obtain ⟨hle, hle2, _⟩ := run_sliceBounds (len := n) (cap := cp) hR.glob ha hlo hhi hhh hl hcap true w
                split at e
                · rename_i hlt
                  split at e
                  · rename_i ver ro e' vs hget
                    split at e
                    · rename_i hel
                      subst hel
                      simp only [Option.some.injEq, Prod.mk.injEq] at e
                      obtain ⟨rfl, rfl⟩ := e
                      obtain ⟨gi, hgi, ob, hob, c, tc, fr, rfl, _, _, hge, _⟩ := hR.obj b ver _ hget
                      rw [hg] at hgi; cases hgi
                      have hsz : P.cellsOf g.elem = s := by rw [hge]; exact cellsOf_c hs
                      refine ⟨.slice (some ⟨g.blk, g.off + (o + l * s), none⟩) (hh - l) (cp - l), ⟨g, cp - l, hg, rfl, by omega, ?_⟩, fun o' ho w' _ => ?_⟩
                      · show o + l * s + (cp - l) * P.cellsOf g.elem ≤ g.size
                        rw [hsz] at hroom ⊢
                        have : l * s + (cp - l) * s = cp * s := by rw [← Nat.add_mul]; congr 1; omega
                        omega
                      · obtain ⟨_, _, hr⟩ := run_sliceBounds (len := n) (cap := cp) hR.glob ha hlo hhi hhh hl hcap true w'
                        unfold execOp; rw [ho]
                        have hne : ¬ cp = l := by omega
                        simp [Instr.sliceAt, Instr.slice, run_underlying hu, hv, hr, run_sizeOf_c hs, addr_add, hne, Nat.add_assoc]
                    · cases e
                  · cases e
                · simp only [Option.some.injEq, Prod.mk.injEq] at e
                  obtain ⟨rfl, rfl⟩ := e
                  refine ⟨.slice (if cp = l then some ⟨g.blk, g.off + o, none⟩ else (some (⟨g.blk, g.off + o, none⟩ : Addr)).map (·.add (l * s))) (hh - l) (cp - l), ⟨if cp = l then ⟨g.blk, g.off + o, none⟩ else (⟨g.blk, g.off + o, none⟩ : Addr).add (l * s), cp - l, by rw [show hh - l = 0 from by omega]; by_cases hcl : cp = l <;> simp [hcl]⟩, fun o' ho w' _ => ?_⟩
                  obtain ⟨_, _, hr⟩ := run_sliceBounds (len := n) (cap := cp) hR.glob ha hlo hhi hhh hl hcap true w'
                  unfold execOp; rw [ho]
                  simp [Instr.sliceAt, Instr.slice, run_underlying hu, hv, hr, run_sizeOf_c hs]
              · cases e
            · cases e
          · cases e
        · cases hq
      · cases hq
    | some mx =>
      cases hi with
      | none => simp [cQ] at hq
      | some hi =>
        simp only [cQ] at hq
        split at hq
        · rename_i el x' hz hu hx
          split at hq
          · rename_i sz hs
            simp only [Option.some.injEq] at hq; subst hq
            simp only [Bool.and_eq_true] at hz
            obtain ⟨⟨hz1, hz2⟩, hz3⟩ := hz
            have hb : ∀ y, isZ y = true → ∃ k, ag.eval y = .int k 0 := fun y hy => by
              cases y <;> simp only [isZ, Bool.false_eq_true] at hy
              rename_i c
              cases c <;> simp only [isZ, Bool.false_eq_true] at hy
              rename_i k n
              have : n = 0 := by simpa using hy
              subst this
              exact ⟨k, rfl⟩
            obtain ⟨k1, hk1⟩ := hb _ hz1
            obtain ⟨k2, hk2⟩ := hb _ hz2
            simp only [qA] at e
            have key : ∀ (A : Option Addr) (n c : Nat) (v : AVal), ag.eval x = .slice A n c → VR P G v (.slice A 0 0) → QY P G w ag (.slice t x lo (some hi) (some mx)) v none := by
              intro A n c v hv hvr
              refine ⟨.slice A 0 0, hvr, fun o ho w' _ => ?_⟩
              have hsb : ∀ y code, (Instr.sliceBound (.int k1 0) y code).run P w' = .ok 0 w' := fun y code => by have := run_sliceBound (P := P) (k := k1) (Nat.zero_le y) code w'; simpa using this
              have hsb2 : ∀ y code, (Instr.sliceBound (.int k2 0) y code).run P w' = .ok 0 w' := fun y code => by have := run_sliceBound (P := P) (k := k2) (Nat.zero_le y) code w'; simpa using this
              have hbounds : (Instr.sliceBounds true n c (lo.map ag.eval) (some (ag.eval hi)) (some (ag.eval mx))).run P w' = .ok (0, 0, 0) w' := by
                cases lo with
                | none => simp [Instr.sliceBounds, hk1, hk2, hsb, hsb2]
                | some l =>
                  obtain ⟨k3, hk3⟩ := hb _ hz3
                  have hsb3 : ∀ y code, (Instr.sliceBound (.int k3 0) y code).run P w' = .ok 0 w' := fun y code => by have := run_sliceBound (P := P) (k := k3) (Nat.zero_le y) code w'; simpa using this
                  simp [Instr.sliceBounds, hk1, hk2, hk3, hsb, hsb2, hsb3]
              unfold execOp; rw [ho]
              simp [Instr.sliceAt, Instr.slice, run_underlying hu, hv, hbounds, run_sizeOf_c hs]
            split at e
            · rename_i n h1
              simp only [Option.some.injEq, Prod.mk.injEq] at e
              obtain ⟨rfl, rfl⟩ := e
              obtain ⟨rfl, hv⟩ := ev1 hx h1
              exact key _ _ _ _ hv ⟨rfl, rfl⟩
            · rename_i p n h1
              simp only [Option.some.injEq, Prod.mk.injEq] at e
              obtain ⟨rfl, rfl⟩ := e
              obtain ⟨g, c, _, hv, _⟩ := ev1 hx h1
              exact key _ _ _ _ hv ⟨_, rfl⟩
            · rename_i h1
              simp only [Option.some.injEq, Prod.mk.injEq] at e
              obtain ⟨rfl, rfl⟩ := e
              obtain ⟨A, hv⟩ := ev1 hx h1
              exact key _ _ _ _ hv ⟨_, rfl⟩
            · cases e
          · cases hq
        · cases hq
  | extract x i =>
    simp only [cQ] at hq
    split at hq
    · rename_i x' hx
      simp only [Option.some.injEq] at hq; subst hq
      simp only [qA] at e
      split at e
      · rename_i vs hvs
        split at e
        · rename_i u hu
          simp only [Option.some.injEq, Prod.mk.injEq] at e
          obtain ⟨rfl, rfl⟩ := e
          obtain ⟨L, hL, hLs⟩ := ev1 hx hvs
          obtain ⟨cv, h1, h2⟩ := hLs.get hu
          have h1' : L[i]? = some cv := by simpa using h1
          exact ⟨cv, h2, fun o ho w' _ => by unfold execOp; rw [ho]; simp [hL, Instr.extract, h1']⟩
        · cases e
      · cases e
    · cases hq
  | load t x =>
    simp only [cQ] at hq
    split at hq
    · rename_i s x' hs hx
      simp only [Option.some.injEq] at hq; subst hq
      simp only [qA] at e
      split at e
      · rename_i b o hp
        split at e
        · rename_i ver ro el vs hget
          split at e
          · rename_i u hu
            simp only [Option.some.injEq, Prod.mk.injEq] at e
            obtain ⟨rfl, rfl⟩ := e
            obtain ⟨g, hg, hv⟩ := ev1 hx hp
            obtain ⟨gi, hgi, ob, hob, c, tc, fr, rfl, _, _, _, _, hvs⟩ := hR.obj b ver _ hget
            rw [hg] at hgi; cases hgi
            obtain ⟨cv, h1, h2⟩ := run_loadVar_c (b := g.blk) (o := o) (e := tc) (fr := fr) hs hvs hu
            refine ⟨cv, h1, fun o' ho w' hl => ?_⟩
            have := h2 w' (by rw [hl _ rfl _ hg]; exact hob)
            unfold execOp; rw [ho]
            simp [Instr.loadAt, hv, Instr.sureAddr, this]
          · cases e
        · cases e
      · cases e
    · cases hq
  | lookup t m k ok =>
    simp only [cQ] at hq
    split at hq
    · cases hq
    · rename_i kk z m' k' hne hm hm' hk'
      simp only [Option.some.injEq] at hq; subst hq
      have e' : ∃ mv kv, ev a m' = some mv ∧ ev a k' = some kv ∧ lookA h kk z ok mv kv = some (v, id) := by
        cases kk with
        | ptr => exact absurd rfl hne
        | _ =>
          simp only [qA] at e
          split at e
          · exact ⟨_, _, by assumption, by assumption, e⟩
          · cases e
      obtain ⟨mv, kv, h1, h2, e'⟩ := e'
      obtain ⟨cv, h3, h4⟩ := lookA_sound (P := P) hR hm e' (ev1 hm' h1) (ev1 hk' h2) (fun _ => True) (fun hh => absurd hh hne)
      refine ⟨cv, h3, fun o ho w' hl => ?_⟩
      unfold execOp; rw [ho]
      simp [h4 w' hl trivial]
    · cases hq
  | call c =>
    simp only [cQ] at hq
    split at hq
    · rename_i x t hc hx ht
      exact q_len hR ha hc hx ht hq e
    · rename_i x y hc hx
      split at hq
      · rename_i x' y' hx' hy'
        simp only [Option.some.injEq] at hq; subst hq
        simp only [qA] at e
        split at e
        · rename_i k u k' u' h1 h2
          simp only [Option.some.injEq, Prod.mk.injEq] at e
          obtain ⟨rfl, rfl⟩ := e
          have h3 := ev1 hx' h1
          have h4 := ev1 hy' h2
          simp only [VR] at h3 h4
          refine ⟨_, rfl, fun o ho w' _ => ?_⟩
          rw [max_exec hc hx o ho, h3, h4]
          simp [run_max_int2]
        · cases e
      · cases hq
    · rename_i x y hc hx
      split at hq
      · rename_i x' y' hx' hy'
        simp only [Option.some.injEq] at hq; subst hq
        simp only [qA] at e
        split at e
        · rename_i k u k' u' h1 h2
          simp only [Option.some.injEq, Prod.mk.injEq] at e
          obtain ⟨rfl, rfl⟩ := e
          have h3 := ev1 hx' h1
          have h4 := ev1 hy' h2
          simp only [VR] at h3 h4
          refine ⟨_, rfl, fun o ho w' _ => ?_⟩
          rw [min_exec hc hx o ho, h3, h4]
          simp [run_min_int2]
        · cases e
      · cases hq
    · cases hq
  | _ => simp [cQ] at hq
end
end Go.Ab
end
section
/-
  The operations that turn memory.
-/
namespace Go.Ab
open Go.RowKit (Below)

section
variable {P : Program} {N : Nat} {w0 : World} {G G' : GM} {h h' : AHeap} {w w' : World} {a : AAct} {ag : Act} {M : Nat}

/-- What an operation of the machine that turns memory comes to. -/
def EY (P : Program) (N : Nat) (w0 : World) (G : GM) (h : AHeap) (w : World) (ag : Act) (op : Op) (Q : AVal × AHeap → Prop) : Prop :=
  ∃ v h' G' w' cv nx, Q (v, h') ∧ Rel P N w0 G' h' w' ∧ Ext G h w G' h' w' ∧ VR P G' v cv ∧ (nx = .value cv ∨ (nx = .skip ∧ cv = undef)) ∧ ∀ o : Oper, o.op = op → (execOp ag.eval o).run P w = .ok nx w'

theorem EY.val {op : Op} {Q : AVal × AHeap → Prop} {v : AVal} {cv : Value} {s : Sem Value} (hq : Q (v, h')) (hr : Rel P N w0 G' h' w') (he : Ext G h w G' h' w') (hv : VR P G' v cv) (hs : s.run P w = .ok cv w')
    (hop : ∀ o : Oper, o.op = op → execOp ag.eval o = (do pure (Next.value (← s)))) : EY P N w0 G h w ag op Q :=
  ⟨v, h', G', w', cv, .value cv, hq, hr, he, hv, .inl rfl, fun o ho => by rw [hop o ho]; simp [hs]⟩
theorem EY.unit {op : Op} {Q : AVal × AHeap → Prop} {s : Sem Unit} (hq : Q (.tuple [], h')) (hr : Rel P N w0 G' h' w') (he : Ext G h w G' h' w') (hs : s.run P w = .ok () w')
    (hop : ∀ o : Oper, o.op = op → execOp ag.eval o = (do s; pure .skip)) : EY P N w0 G h w ag op Q :=
  ⟨.tuple [], h', G', w', undef, .skip, hq, hr, he, ⟨#[], rfl, rfl⟩, .inr ⟨rfl, rfl⟩, fun o ho => by rw [hop o ho]; simp [hs]⟩

/-! ### New blocks -/
theorem alloc_cells (hR : Rel P N w0 G h w) {vs : List AVal} {c : Array Value} (e : TypeId) (hv : VsR P G vs (c.toList.take vs.length)) (hl : vs.length ≤ c.size) :
    Rel P N w0 (addG G h.next ⟨w.heap.size, c.size, e, 0⟩) (newA h (.cells false e vs)) (w.alloc (.cells c e)) ∧ Ext G h w (addG G h.next ⟨w.heap.size, c.size, e, 0⟩) (newA h (.cells false e vs)) (w.alloc (.cells c e)) :=
  hR.alloc rfl rfl ⟨c, e, (0, 0), rfl, fun _ => ⟨rfl, rfl, rfl, rfl⟩, by simp, rfl, hl, by rw [List.drop_zero]; exact hv.mono (addG_le (hR.fresh _ (Nat.le_refl _)))⟩

theorem run_newRow (e : TypeId) (c : Array Value) : (newRow e c).run P w = .ok ⟨w.heap.size, 0, none⟩ (w.alloc (.cells c e)) := rfl

/-- The whole of a row is told of. -/
theorem VsR.whole {vs : List AVal} {c : Array Value} (hv : VsR P G vs c.toList) : VsR P G vs (c.toList.take vs.length) ∧ vs.length = c.size := by
  have := hv.length
  have e : c.toList.take vs.length = c.toList := by rw [← this]; exact List.take_length
  rw [e]; exact ⟨hv, by simpa using this.symm⟩

theorem e_var (hR : Rel P N w0 G h w) {op : Op} {Q : AVal × AHeap → Prop} {s : Sem Value} {e : TypeId} {vs : List AVal} {c : Array Value} (hv : VsR P G vs c.toList)
    (hq : Q (.ptr (some (h.next, 0)), newA h (.cells false e vs))) (hs : s.run P w = .ok (.pointer (some ⟨w.heap.size, 0, none⟩)) (w.alloc (.cells c e)))
    (hop : ∀ o : Oper, o.op = op → execOp ag.eval o = (do pure (Next.value (← s)))) : EY P N w0 G h w ag op Q := by
  obtain ⟨h1, h2⟩ := hv.whole
  obtain ⟨h3, h4⟩ := alloc_cells hR e h1 (Nat.le_of_eq h2)
  exact EY.val hq h3 h4 ⟨_, addG_same, rfl⟩ hs hop

theorem e_row (hR : Rel P N w0 G h w) {op : Op} {Q : AVal × AHeap → Prop} {s : Sem Value} {e : TypeId} {vs : List AVal} {c : Array Value} {n m : Nat} (hv : VsR P G vs (c.toList.take vs.length)) (hl : vs.length ≤ c.size) (hnm : n ≤ m) (hm : m * P.cellsOf e ≤ c.size)
    (hq : Q (.slice (some (h.next, 0)) n, newA h (.cells false e vs))) (hs : s.run P w = .ok (.slice (some ⟨w.heap.size, 0, none⟩) n m) (w.alloc (.cells c e)))
    (hop : ∀ o : Oper, o.op = op → execOp ag.eval o = (do pure (Next.value (← s)))) : EY P N w0 G h w ag op Q := by
  obtain ⟨h3, h4⟩ := alloc_cells hR e hv hl
  exact EY.val hq h3 h4 ⟨_, m, addG_same, rfl, hnm, by simpa using hm⟩ hs hop

/-! ### A block that is turned -/
theorem setRow_other (g k : Nat) (cs : Array Value) (hk : k ≠ g) : (w.setRow g cs).heap[k]? = w.heap[k]? := by
  show (w.heap.modify g _)[k]? = _
  rw [Array.getElem?_modify]; simp [Ne.symm hk]
theorem setRow_below (g : Nat) (cs : Array Value) (hN : N ≤ g) : Below N w (w.setRow g cs) :=
  ⟨rfl, rfl, rfl, by simp [World.setRow], fun k hk => setRow_other g k cs (by omega)⟩
theorem putObj_below (g : Nat) (o : Obj) (hN : N ≤ g) : Below N w (w.putObj g o) :=
  ⟨rfl, rfl, rfl, by simp, fun k hk => World.putObj_heap_other (by omega)⟩

/-- Cells are laid into a prefix. -/
theorem VsR.lay {vs : List AVal} {cur : List Value} {cs : List AVal} {news : List Value} {o : Nat} (hv : VsR P G vs (cur.take vs.length)) (hl : vs.length ≤ cur.length) (hc : VsR P G cs news) (ho : o + cs.length ≤ vs.length) :
    VsR P G (vs.take o ++ cs ++ vs.drop (o + cs.length)) ((cur.take o ++ news ++ cur.drop (o + cs.length)).take (vs.take o ++ cs ++ vs.drop (o + cs.length)).length) := by
  have hn := hc.length
  have h1 : (vs.take o ++ cs ++ vs.drop (o + cs.length)).length = vs.length := by simp; omega
  rw [h1]
  have h2 : (cur.take o ++ news ++ cur.drop (o + cs.length)).take vs.length = (cur.take vs.length).take o ++ news ++ (cur.take vs.length).drop (o + cs.length) := by
    apply List.ext_getElem?
    intro i
    simp only [List.getElem?_append, List.getElem?_take, List.getElem?_drop, List.length_append, List.length_take]
    grind
  rw [h2]
  exact ((hv.take o).append hc).append (hv.drop _)

theorem VsR.oneCells : ∀ {xs : List AVal} {vs : List Value}, VsR P G xs vs → xs.all Ab.one = true → ∀ v ∈ vs, v.oneCell' = true
  | [], _, e, _, v, hv => by subst e; cases hv
  | x :: xs, _, ⟨y, ys, e, a, b⟩, h1, v, hv => by
    subst e
    simp only [List.all_cons, Bool.and_eq_true] at h1
    rcases List.mem_cons.1 hv with rfl | hv
    · exact a.oneCell h1.1
    · exact b.oneCells h1.2 v hv

theorem store_sound (hR : Rel P N w0 G h w) {t : TypeId} {v : AVal} {X V : Value} {b o n : Nat} (hn : cSize P t = some n) (hx : VR P G (.ptr (some (b, o))) X) (hv : VR P G v V) (hl : (cellsA v).length = n) (e : storeCellsA h b o (cellsA v) = some h') :
    ∃ w', Rel P N w0 G h' w' ∧ Ext G h w G h' w' ∧ (Instr.storeAt t X V).run P w = .ok () w' := by
  obtain ⟨g, hg, rfl⟩ := hx
  unfold storeCellsA at e
  split at e
  · rename_i ver el vs hget
    split at e
    · rename_i hc
      simp only [Option.some.injEq] at e; subst e
      obtain ⟨gi, hgi, ob, hob, c, el', fr, rfl, hfr, hfit, hel, hle, hvs⟩ := hR.obj b ver _ hget
      have hg' : G b = some g := hg
      rw [hg'] at hgi; cases hgi
      obtain ⟨hsz, hoff, hel', hfr'⟩ := hfr rfl
      subst hel'; subst hfr'
      rw [hoff, Nat.zero_add]
      rw [hoff, List.drop_zero] at hvs
      rw [← hsz] at hle
      have hN : N ≤ g.blk := hR.own b ver _ g hget hg' rfl
      have hcs := hv.cells
      have hcl := hcs.length
      have hone := hcs.oneCells hc.2
      have hrun := run_storeCells_at (P := P) g.blk o el' V.cells.toList 0 c w hob (by omega) hone
      simp only [Nat.add_zero, hcl, List.append_assoc] at hrun
      refine ⟨w.setRow g.blk (c.toList.take o ++ V.cells.toList ++ c.toList.drop (o + (cellsA v).length)).toArray, ?_, ?_, ?_⟩
      rotate_left 2
      · have hsz' : V.cells.size = n := by rw [← hl, ← hcl]; simp
        simp [Instr.storeAt, Instr.sureAddr, storeVar, run_sizeOf_c hn, hsz']
        exact hrun
      all_goals
        have hput := hR.put (w' := w.setRow g.blk (c.toList.take o ++ V.cells.toList ++ c.toList.drop (o + (cellsA v).length)).toArray) (o' := .cells false el' (vs.take o ++ cellsA v ++ vs.drop (o + (cellsA v).length)))
          (ob' := .cells (c.toList.take o ++ V.cells.toList ++ c.toList.drop (o + (cellsA v).length)).toArray el' (0, 0)) hget rfl rfl hg'
          (setRow_heap w g.blk c _ el' (0, 0) hob) (fun k hk => setRow_other g.blk k _ hk) (setRow_below g.blk _ hN)
          ⟨_, _, (0, 0), rfl, fun _ => ⟨by simp; simp at hcl; omega, hoff, rfl, rfl⟩, by simp; simp at hcl; omega, hel, by simp; simp at hcl; omega, by
            rw [hoff, List.drop_zero]
            have := VsR.lay (cur := c.toList) hvs (by simpa using hle) hcs hc.1
            simpa using this⟩
      · exact hput.1
      · exact hput.2
    · cases e
  · cases e
end
end Go.Ab
end
section
/-
  Maps that are turned, and gone through; rows.
-/
namespace Go.Ab
open Go.RowKit (Below)

section
variable {P : Program} {N : Nat} {w0 : World} {G G' : GM} {h h' : AHeap} {w w' : World} {a : AAct} {ag : Act} {M : Nat}

/-! ### Keys -/
theorem eqCells_eq : ∀ {xs ys : List AVal}, eqCells xs ys = some true → xs = ys
  | [], [], _ => rfl
  | [], _ :: _, e => by simp [eqCells] at e
  | x :: xs, [], e => by cases x <;> simp [eqCells] at e
  | x :: xs, y :: ys, e => by
    cases x <;> cases y <;> simp only [eqCells] at e <;> first | cases e; done | skip
    split at e
    · rename_i hk; subst hk
      split at e
      · rename_i hab
        rw [eqCells_eq e]
        have := eq_of_beq hab
        rw [this]
      · split at e <;> cases e
    · cases e

theorem eqL_true : ∀ {x y : List Nat}, eqL x y = true → x = y
  | [], [], _ => rfl
  | [], _ :: _, e => by simp [eqL] at e
  | _ :: _, [], e => by simp [eqL] at e
  | a :: x, b :: y, e => by
    simp only [eqL] at e
    split at e
    · rename_i hab
      rw [eqL_true e, Nat.eq_of_beq_eq_true hab]
    · cases e

theorem keyA_eq {k : KeyK} {x y : AVal} (e : keyA k x y = some true) : x = y := by
  unfold keyA at e
  split at e
  · simp only [Option.some.injEq] at e; rw [eqL_true e]
  · split at e
    · rename_i hk; subst hk
      simp only [Option.some.injEq] at e
      rw [eq_of_beq e]
    · cases e
  · simp only [Option.some.injEq, Bool.and_eq_true] at e
    rw [Nat.eq_of_beq_eq_true e.1, Nat.eq_of_beq_eq_true e.2]
  · split at e
    · rw [eqCells_eq e]
    · cases e
  · cases e

theorem findA_some {k : KeyK} {x v : AVal} : ∀ {es : List (AVal × AVal × Nat)} {i j : Nat}, findA k x es i = some (some (j, v)) → i ≤ j ∧ ∃ b, es[j - i]? = some (x, v, b)
  | [], i, j, e => by simp [findA] at e
  | (y, u, b) :: es, i, j, e => by
    simp only [findA] at e
    split at e
    · rename_i hk
      simp only [Option.some.injEq, Prod.mk.injEq] at e
      obtain ⟨rfl, rfl⟩ := e
      exact ⟨Nat.le_refl _, b, by rw [keyA_eq hk]; simp⟩
    · obtain ⟨h1, b', h2⟩ := findA_some e
      refine ⟨by omega, b', ?_⟩
      rw [show j - i = (j - (i + 1)) + 1 from by omega]
      simpa using h2
    · cases e

theorem ER.setVal {k v : AVal} {K V : Value} {b : Nat} (hk : VR P G k K) (hv : VR P G v V) {u : AVal} : ∀ {es : List (AVal × AVal × Nat)} {E : List MapEntry} {i : Nat}, ER P G es E → es[i]? = some (k, u, b) →
    ER P G (setVal es i v) (E.modify i fun e => { e with key := K, val := V })
  | [], E, i, _, e => by simp at e
  | (k', v', b') :: es, E, 0, ⟨e, es', h1, h2, h3, h4, h5⟩, hi => by
    subst h1
    simp only [List.getElem?_cons_zero, Option.some.injEq, Prod.mk.injEq] at hi
    obtain ⟨rfl, rfl, rfl⟩ := hi
    exact ⟨{ e with key := K, val := V }, es', by simp, hk, hv, h4, h5⟩
  | (k', v', b') :: es, E, i + 1, ⟨e, es', h1, h2, h3, h4, h5⟩, hi => by
    subst h1
    exact ⟨e, _, by simp, h2, h3, h4, ER.setVal hk hv h5 (by simpa using hi)⟩

theorem ER.push {k v : AVal} {K V : Value} {b : Nat} (hk : VR P G k K) (hv : VR P G v V) : ∀ {es : List (AVal × AVal × Nat)} {E : List MapEntry}, ER P G es E → ER P G (es ++ [(k, v, b)]) (E ++ [{ key := K, val := V, born := b }])
  | [], _, h => by subst h; exact ⟨_, [], rfl, hk, hv, rfl, rfl⟩
  | (_, _, _) :: _, _, ⟨e, es', h1, h2, h3, h4, h5⟩ => by subst h1; exact ⟨e, _, by simp, h2, h3, h4, ER.push hk hv h5⟩

theorem ER.filter {f : Nat → Bool} : ∀ {es : List (AVal × AVal × Nat)} {E : List MapEntry}, ER P G es E → ER P G (es.filter fun e => f e.2.2) (E.filter fun e => f e.born)
  | [], _, h => by subst h; rfl
  | (_, _, _) :: _, _, ⟨e, es', h1, h2, h3, h4, h5⟩ => by
    subst h1; subst h4
    simp only [List.filter_cons]
    split
    · exact ⟨e, _, rfl, h2, h3, rfl, ER.filter h5⟩
    · exact ER.filter h5

theorem ER.get : ∀ {es : List (AVal × AVal × Nat)} {E : List MapEntry}, ER P G es E → ∀ {i : Nat} {k v : AVal} {b : Nat}, es[i]? = some (k, v, b) → ∃ e, E[i]? = some e ∧ VR P G k e.key ∧ VR P G v e.val ∧ e.born = b
  | [], _, _, i, k, v, b, hi => by simp at hi
  | (_, _, _) :: _, _, ⟨e, es', h1, h2, h3, h4, h5⟩, 0, k, v, b, hi => by
    subst h1
    simp only [List.getElem?_cons_zero, Option.some.injEq, Prod.mk.injEq] at hi
    obtain ⟨rfl, rfl, rfl⟩ := hi
    exact ⟨e, by simp, h2, h3, h4⟩
  | (_, _, _) :: _, _, ⟨e, es', h1, h2, h3, h4, h5⟩, i + 1, k, v, b, hi => by
    subst h1
    obtain ⟨e', h6, h7⟩ := ER.get h5 (by simpa using hi)
    exact ⟨e', by simpa using h6, h7⟩

theorem ER.all {f : Nat → Bool} : ∀ {es : List (AVal × AVal × Nat)} {E : List MapEntry}, ER P G es E → (E.all fun e => f e.born) = es.all fun e => f e.2.2
  | [], _, h => by subst h; rfl
  | (_, _, _) :: _, _, ⟨e, es', h1, h2, h3, h4, h5⟩ => by subst h1; subst h4; simp [ER.all h5]
theorem ER.find {f : Nat → Bool} {k v : AVal} {b : Nat} : ∀ {es : List (AVal × AVal × Nat)} {E : List MapEntry}, ER P G es E → es.find? (fun e => f e.2.2) = some (k, v, b) → ∃ e, E.find? (fun e => f e.born) = some e ∧ VR P G k e.key ∧ VR P G v e.val
  | [], _, h, e => by cases e
  | (_, _, _) :: _, _, ⟨e, es', h1, h2, h3, h4, h5⟩, hf => by
    subst h1; subst h4
    simp only [List.find?_cons] at hf ⊢
    split at hf
    · rename_i hh
      simp only [Option.some.injEq, Prod.mk.injEq] at hf
      obtain ⟨rfl, rfl, rfl⟩ := hf
      exact ⟨e, by simp [hh], h2, h3⟩
    · rename_i hh
      obtain ⟨e', h6, h7⟩ := ER.find h5 hf
      exact ⟨e', by simp [hh, h6], h7⟩

theorem Ext.drewR {w'' : World} (hw : w'' = w ∨ w'' = w.drew) (hR : Rel P N w0 G h w) : Rel P N w0 G h w'' ∧ Ext G h w G h w'' := by
  rcases hw with rfl | rfl
  · exact ⟨hR, Ext.refl _ _ _⟩
  · exact ⟨hR.drew, (Ext.refl _ _ _).drew⟩

theorem run_keyThatStays (old new : Value) (w : World) : ∃ K w1, (w1 = w ∨ w1 = w.drew) ∧ (K = old ∨ K = new) ∧ (Instr.keyThatStays old new).run P w = .ok K w1 := by
  unfold Instr.keyThatStays
  split
  · exact ⟨new, w, .inl rfl, .inr rfl, rfl⟩
  · refine ⟨if _ = 0 then new else old, w.drew, .inr rfl, ?_, rfl⟩
    split
    · exact .inr rfl
    · exact .inl rfl

/-! ### Pointers as keys -/
theorem liveP_some {x : AVal} (e : liveP h x = true) : ∃ b o v el vs, x = .ptr (some (b, o)) ∧ h.objs.get b = some (v, .cells false el vs) := by
  unfold liveP at e
  split at e
  · rename_i b o
    split at e
    · rename_i v el vs hg
      exact ⟨b, o, v, el, vs, rfl, hg⟩
    · cases e
  · cases e

theorem frozen_of_cells {b o : Nat} {c : Array Value} {e : TypeId} (hb : w.heap[b]? = some (.cells c e (0, 0))) : w.frozen? ⟨b, o, none⟩ = false := by
  simp [World.frozen?, hb]

theorem keysOk_ptr (hR : Rel P N w0 G h w) {k : KeyK} {m x : AVal} (e : keysOk h k m x = true) : k = .ptr → ∀ r ver es c, m = .map (some r) → h.objs.get r = some (ver, .map es c) → ∀ w', w' = w → PtrOK P G es x w' := by
  rintro rfl r ver es c rfl hg w' rfl
  simp only [keysOk, hg, Bool.and_eq_true, List.all_eq_true] at e
  obtain ⟨hx, hes⟩ := e
  obtain ⟨bx, ox, vx, elx, vsx, rfl, hgx⟩ := liveP_some hx
  rintro y b Y X ⟨en, hen, rfl⟩ hk hX hY el i t hu hi hsz
  obtain ⟨by_, oy, vy, ely, vsy, hy, hgy⟩ := liveP_some (hes en hen)
  rw [hy] at hk hY
  obtain ⟨gx, hgx', rfl⟩ := hX
  obtain ⟨gy, hgy', rfl⟩ := hY
  simp only [keyA, Option.some.injEq] at hk
  subst hk
  obtain ⟨gi, h1, ob, h2, cx, tx, frx, rfl, hfx, _⟩ := hR.obj bx _ _ hgx
  have hgx'' : G bx = some gx := hgx'
  rw [hgx''] at h1; cases h1
  obtain ⟨gi, h1, ob, h3, cy, ty, fry, rfl, hfy, _⟩ := hR.obj by_ _ _ hgy
  have hgy'' : G by_ = some gy := hgy'
  rw [hgy''] at h1; cases h1
  obtain ⟨_, offx, rfl, rfl⟩ := hfx rfl
  obtain ⟨_, offy, rfl, rfl⟩ := hfy rfl
  simp only [offx, offy, Nat.zero_add]
  have hs : (sizeOf el).run P w' = .ok i.size w' := by simp [sizeOf, typeInfo, hi]
  have hinj : gx.blk = gy.blk ↔ bx = by_ := by
    constructor
    · intro hh
      exact hR.inj bx by_ _ _ gx gy hgx hgy rfl hgx' hgy' hh
    · rintro rfl
      rw [hgx''] at hgy''; cases hgy''; rfl
  have key : ∀ d, (Op.equalIn (d + 1) t (.pointer (some ⟨gx.blk, ox, none⟩)) (.pointer (some ⟨gy.blk, oy, none⟩))).run P w' = (sameAddr ⟨gx.blk, ox, none⟩ ⟨gy.blk, oy, none⟩).run P w' := fun d => by
    simp only [Op.equalIn, Sem.run_bind, run_underlying hu, Result.andThen_ok, hs, if_pos hsz, ne_eq, hsz, not_false_eq_true, if_true]
  refine (key 9999).trans ?_
  by_cases hbb : bx = by_
  · have := hinj.2 hbb
    have hr : Nat.beq bx by_ = true := by rw [hbb]; exact Nat.beq_refl _
    simp only [sameAddr, this, beq_self_eq_true, if_true, hr, Bool.true_and]
    by_cases ho : ox = oy
    · subst ho; simp
    · have h4 : Nat.beq ox oy = false := by rw [Bool.eq_false_iff]; intro hh; exact ho (Nat.eq_of_beq_eq_true hh)
      simp [ho, h4]
  · have hne : ¬ gx.blk = gy.blk := fun hh => hbb (hinj.1 hh)
    have hr : Nat.beq bx by_ = false := by rw [Bool.eq_false_iff]; intro hh; exact hbb (Nat.eq_of_beq_eq_true hh)
    have hv1 : w'.heap[gx.blk]? = some (.cells cx tx (0, 0)) := h2
    have hv2 : w'.heap[gy.blk]? = some (.cells cy ty (0, 0)) := h3
    have f1 := frozen_of_cells (w := w') (b := gx.blk) (o := ox) h2
    have f2 := frozen_of_cells (w := w') (b := gy.blk) (o := oy) h3
    have f3 := frozen_of_cells (w := w') (b := gx.blk) (o := cx.size) h2
    have f4 := frozen_of_cells (w := w') (b := gy.blk) (o := cy.size) h3
    simp [sameAddr, hne, hr, f1, f2, noView, viewAt, mayBeOne, stringish, World.shape?, h2, h3, f3, f4]
end
end Go.Ab
end
