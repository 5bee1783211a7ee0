import Derived.Test.YtapnoohglfhgeaaGreatDoorP04
import Derived.RangeFuncLeaves
import Derived.RecoverIn
import Derived.OrdersIn
/-
  Part 5 of the proof.
-/
set_option linter.all false
section
/-
  Steps of code: operations in the order in which they stand.
-/
namespace Go.Ab
open Go.RowKit (Below)

/-- The fence that lets everything in, for a frame of the round rv. -/
def FR (rv : Option Nat) : Fence := { Fence.wide with round := rv }
theorem FR_inRound (rv : Option Nat) (l : Nat) : (FR rv).inRound l = FR (some l) := rfl
theorem FR_depth {rv : Option Nat} {n : Nat} : (FR rv).depth.isSome = true → 1 ≤ n := fun h => by cases h
theorem FR_calls {rv rv' : Option Nat} {n : Nat} {P : Program} {f : FuncId} {args : Array Value} {w : World} {R : Ending → World → Prop} (h : CallsIn (FR rv) n P f args w R) : CallsIn (FR rv') n P f args w R := h
theorem FR_round {rv rv' : Option Nat} {n : Nat} {P : Program} {l : Nat} {f : FuncId} {tmps : Array Value} {as bd : Code} {w : World} {R : Ending → World → Prop} (h : RoundIn (FR rv) n P l f tmps as bd w R) : RoundIn (FR rv') n P l f tmps as bd w R := h

def Enters (P : Program) (f : FuncId) : Prop := ∃ fn c, P.funcs[f]? = some fn ∧ (fn.name == "runtime.NumGoroutine") = false ∧ fn.body = some c

/-- The round in which the code runs. -/
def roR (G : GM) : Option Nat → Option Nat → Prop
  | none, rv => rv = none
  | some l, rv => ∃ g, G l = some g ∧ rv = some g.blk
theorem roR.mono {G G' : GM} (hg : GLe G G') : ∀ {ro rv : Option Nat}, roR G ro rv → roR G' ro rv
  | none, _, h => h
  | some _, _, ⟨g, h1, h2⟩ => ⟨g, hg _ _ h1, h2⟩

def ExR : AExit → Exit → Prop
  | .normal, e => e = .normal
  | .ret, e => e = .ret
  | .exit id, e => e = .exit id

section
variable (P : Program) (N : Nat) (w0 : World)

/-- What is held behind a stretch of code. -/
def Post (G : GM) (h : AHeap) (w : World) (M : Nat) (Q : AExit × AAct × AHeap → Prop) : Exit → Act → World → Prop :=
  fun e ag' w' => ∃ ae a' h' G', Q (ae, a', h') ∧ ExR ae e ∧ Rel P N w0 G' h' w' ∧ Ext G h w G' h' w' ∧ ActR P G' M a' ag'
/-- What is held behind a call. -/
def PostC (G : GM) (h : AHeap) (w : World) (Q : AVal × AHeap → Prop) : Ending → World → Prop :=
  fun e w' => ∃ v h' G' cv, e = .returned cv ∧ Q (v, h') ∧ Rel P N w0 G' h' w' ∧ Ext G h w G' h' w' ∧ VR P G' v cv
/-- What is held behind an operation. -/
def PostA (G : GM) (h : AHeap) (w : World) (M : Nat) (Q : AAct × AHeap → Prop) : Act → World → Prop :=
  fun ag' w' => ∃ a' h' G', Q (a', h') ∧ Rel P N w0 G' h' w' ∧ Ext G h w G' h' w' ∧ ActR P G' M a' ag'

structure SelfOK (S : Self) : Prop where
  enters : ∀ f args h Q, (S.call f args h).sat Q → Enters P f
  call : ∀ f args h G w (argsV : Array Value) Q, Rel P N w0 G h w → VsR P G args argsV.toList → (S.call f args h).sat Q → CallsIn (FR none) 0 P f argsV w (PostC P N w0 G h w Q)
  code : ∀ ro rv c C M a ag h G w Q, roR G ro rv → cCode P M C = some c → ActR P G M a ag → Rel P N w0 G h w → (S.code ro c a h).sat Q → C.wpIn (FR rv) 0 P (Post P N w0 G h w M Q) ag w
end

section
variable {P : Program} {N : Nat} {w0 : World} {G G' : GM} {h h' : AHeap} {w w' : World} {a : AAct} {ag : Act} {M : Nat} {S : Self}

/-! ### Temporaries -/
theorem TR.put {t : T AVal} {tmps : Array Value} {d : Nat} {v : AVal} {cv : Value} (ht : TR P G t tmps) (hd : d < tmps.size) (hv : VR P G v cv) : TR P G (t.set d (some v)) (tmps.setIfInBounds d cv) := by
  intro i x hx
  rw [T.get_set] at hx
  by_cases hi : i = d
  · rw [if_pos hi] at hx; cases hx
    subst hi
    exact ⟨cv, by simp [hd], hv⟩
  · rw [if_neg hi] at hx
    obtain ⟨u, h1, h2⟩ := ht i x hx
    exact ⟨u, by rw [Array.getElem?_setIfInBounds_ne (Ne.symm hi)]; exact h1, h2⟩

theorem cDst_spec {d d' : Option Tmp} (e : cDst M d = some d') : d' = d ∧ ∀ t, d = some t → t < M := by
  unfold cDst at e
  split at e
  · simp only [Option.some.injEq] at e; subst e; exact ⟨rfl, fun t h => by cases h⟩
  · split at e
    · rename_i t ht
      simp only [Option.some.injEq] at e; subst e
      exact ⟨rfl, fun t' h => by cases h; exact ht⟩
    · cases e

theorem ActR.put (ha : ActR P G M a ag) {d d' : Option Tmp} (hd : cDst M d = some d') {v : AVal} {cv : Value} (hv : VR P G v cv) : ActR P G M (putA a d' v) (ag.put d cv) := by
  obtain ⟨rfl, hlt⟩ := cDst_spec hd
  cases d' with
  | none => exact ha
  | some t =>
    exact ⟨ha.tmps.put (Nat.lt_of_lt_of_le (hlt t rfl) ha.size) hv, by show M ≤ (ag.tmps.setIfInBounds t cv).size; rw [Array.size_setIfInBounds]; exact ha.size, ha.defers⟩

theorem setParams_sound : ∀ {ps : List Tmp} {vs : List AVal} {us : List Value} {t t' : T AVal} {tmps : Array Value}, setParams t ps vs = some t' → VsR P G vs us → TR P G t tmps → (∀ p ∈ ps, p < tmps.size) →
    ps.length = us.length ∧ TR P G t' ((ps.zip us).foldl (fun tmps (p : Tmp × Value) => tmps.setIfInBounds p.1 p.2) tmps) ∧ ((ps.zip us).foldl (fun tmps (p : Tmp × Value) => tmps.setIfInBounds p.1 p.2) tmps).size = tmps.size
  | [], [], us, t, t', tmps, e, hv, ht, _ => by
    cases hv
    simp only [setParams, Option.some.injEq] at e; subst e
    exact ⟨rfl, ht, rfl⟩
  | [], _ :: _, _, _, _, _, e, _, _, _ => by cases e
  | _ :: _, [], _, _, _, _, e, _, _, _ => by cases e
  | p :: ps, v :: vs, us, t, t', tmps, e, ⟨u, us', hu, hv, hvs⟩, ht, hp => by
    subst hu
    simp only [setParams] at e
    obtain ⟨h1, h2, h3⟩ := setParams_sound e hvs (ht.put (hp p (List.mem_cons_self ..)) hv) (fun q hq => by rw [Array.size_setIfInBounds]; exact hp q (List.mem_cons_of_mem _ hq))
    refine ⟨by simp [h1], h2, ?_⟩
    rw [List.zip_cons_cons, List.foldl_cons, h3, Array.size_setIfInBounds]

/-! ### A round -/
theorem run_getLoop' {l : Nat} {r : Loop} (hb : w.heap[l]? = some (.loop r)) : (Instr.getLoop l).run P w = .ok r w := by
  simp [Instr.getLoop, getObj, Sem.run, hb]

theorem loop_of {l ver : Nat} {st : LoopState} {pd : Option AExit} {t : T AVal} {ps : List Tmp} {as bd : ACode} {df : Nat} (hR : Rel P N w0 G h w) (hget : h.objs.get l = some (ver, .loop st pd t ps as bd df)) {g : GI} (hg : G l = some g) :
    ∃ r : Loop, w.heap[g.blk]? = some (.loop r) ∧ OR P G g (.loop st pd t ps as bd df) (.loop r) ∧ N ≤ g.blk := by
  obtain ⟨gi, h1, ob, h2, h3⟩ := hR.obj l ver _ hget
  rw [hg] at h1; cases h1
  obtain ⟨r, Mr, gd, rfl, rest⟩ := h3
  exact ⟨r, h2, ⟨r, Mr, gd, rfl, rest⟩, hR.own l ver _ g hget hg rfl⟩

theorem putLoop (hR : Rel P N w0 G h w) {l ver : Nat} {o o' : AObj} (hget : h.objs.get l = some (ver, o)) (hro : o.ro = false) (hro' : o'.ro = false) {g : GI} (hg : G l = some g) {ob ob' : Obj} (hob : w.heap[g.blk]? = some ob) (ho : OR P G g o' ob') :
    Rel P N w0 G (putObjA h l o') (w.putObj g.blk ob') ∧ Ext G h w G (putObjA h l o') (w.putObj g.blk ob') :=
  hR.put hget hro hro' hg (World.putObj_heap_same (lt_of_heap hob)) (fun _ hk => World.putObj_heap_other hk) (putObj_below _ _ (hR.own l ver o g hget hg hro)) ho

theorem roundA_sound (hS : SelfOK P N w0 S) (hR : Rel P N w0 G h w) {l : Nat} {g : GI} (hg : G l = some g) {args : List AVal} {argsV : Array Value} (hargs : VsR P G args argsV.toList) {Q : AVal × AHeap → Prop} (hs : (roundA S l args h).sat Q) (rv : Option Nat) :
    ∃ fn tmps as bd, (Instr.yield g.blk argsV).run P w = .ok (.round g.blk fn tmps as bd) w ∧ RoundIn (FR rv) 0 P g.blk fn tmps as bd w (PostC P N w0 G h w Q) := by
  unfold roundA at hs
  split at hs
  · rename_i ver pd0 t ps as bd df hget
    obtain ⟨r, hob, ⟨r', Mr, gd, hr', hst, hpc, htr, hsz, hps, has, hbd, hlt, hgd, hdf⟩, hN⟩ := loop_of hR hget hg
    cases hr'
    split at hs
    · rename_i t' hset
      obtain ⟨h1, h2, h3⟩ := setParams_sound (tmps := r.tmps) hset hargs htr (fun p hp => Nat.lt_of_lt_of_le (hlt p hp) hsz)
      have hzip : (r.params.zip argsV).foldl (fun tmps (t, a) => tmps.setIfInBounds t a) r.tmps = ((ps.zip argsV.toList).foldl (fun tmps (p : Tmp × Value) => tmps.setIfInBounds p.1 p.2) r.tmps) := by
        rw [← Array.foldl_toList, Array.toList_zip, hps]
      have hsize : argsV.size = r.params.size := by
        rw [← hps] at h1; simpa using h1.symm
      refine ⟨r.fn, (r.params.zip argsV).foldl (fun tmps (t, a) => tmps.setIfInBounds t a) r.tmps, r.assign, r.body, ?_, ?_⟩
      · simp only [Instr.yield, Sem.run_bind, run_getLoop' hob, Result.andThen_ok]
        simp [hsize]
      · rw [D.sat_bind] at hs
        rw [hzip]
        refine roundIn_of_wpIn trivial ?_
        have hc := hS.code (some l) (some g.blk) as r.assign Mr { tmps := t', defers := [] } { tmps := ((ps.zip argsV.toList).foldl (fun tmps (p : Tmp × Value) => tmps.setIfInBounds p.1 p.2) r.tmps), defers := [] } h G w _
          ⟨g, hg, rfl⟩ has ⟨h2, by rw [h3]; exact hsz, rfl⟩ hR hs
        refine wpIn_mono hc fun e ag1 w1 hpost => ?_
        obtain ⟨ae, a1, hh1, G1, hq1, hex, hR1, hE1, ha1⟩ := hpost
        have hg1 := hE1.gle _ _ hg
        simp only at hq1
        split at hq1
        · rename_i ver1 pd1 t1 ps1 as1 bd1 df1 hget1
          cases hex
          obtain ⟨r1, hob1, ⟨r1', M1, gd1, hr1', hst1, hpc1, htr1, hsz1, hps1, has1, hbd1, hlt1, hgd1, hdf1⟩, hN1⟩ := loop_of hR1 hget1 hg1
          cases hr1'
          obtain ⟨hR2, hE2⟩ := putLoop hR1 (o' := .loop .busy pd1 t1 ps1 as1 bd1 df1) hget1 rfl rfl hg1 hob1 (ob' := .loop { r1 with state := .busy }) ⟨_, M1, gd1, rfl, rfl, hpc1, htr1, hsz1, hps1, has1, hbd1, hlt1, hgd1, hdf1⟩
          refine ⟨w1.putObj g.blk (.loop { r1 with state := .busy }), ?_, ?_⟩
          · simp [Instr.beginRound, run_getLoop' hob1, run_setObj_loop _ hob1, hst1]
          · rw [D.sat_bind] at hq1
            have hc2 := hS.code (some l) (some g.blk) bd r.body Mr a1 ag1 _ G1 _ _ ⟨g, hg1, rfl⟩ hbd ha1 hR2 hq1
            refine wpIn_mono hc2 fun e2 ag2 w2 hpost2 => ?_
            obtain ⟨ae2, a2, hh2, G2, hq2, hex2, hR3, hE3, ha2⟩ := hpost2
            have hg2 := hE3.gle _ _ hg1
            have hE : Ext G h w G2 hh2 w2 := (hE1.trans hE2).trans hE3
            simp only at hq2
            split at hq2
            · rename_i ver2 st2 pd2 t2 ps2 as2 bd2 df2 hget2
              obtain ⟨r2, hob2, ⟨r2', M2, gd2, hr2', hst2, hpc2, htr2, hsz2, hps2, has2, hbd2, hlt2, hgd2, hdf2⟩, hN2⟩ := loop_of hR3 hget2 hg2
              cases hr2'
              have fin : ∀ (st' : LoopState) (pd' : Option AExit) (pc : Option Code) (b : Bool), pendC pd' pc → b = pc.isNone → st' = (if pc.isNone then .ready else .done) → Q (.bool b, putObjA hh2 l (.loop st' pd' t2 ps2 as2 bd2 df2)) →
                  ∃ v w', (Instr.endRound g.blk pc).run P w2 = .ok v w' ∧ PostC P N w0 G h w Q (.returned v) w' := by
                intro st' pd' pc b hpc hb hst' hQ
                obtain ⟨hR4, hE4⟩ := putLoop hR3 (o' := .loop st' pd' t2 ps2 as2 bd2 df2) hget2 rfl rfl hg2 hob2 (ob' := .loop { r2 with state := if pc.isNone then .ready else .done, pending := pc })
                  ⟨_, M2, gd2, rfl, hst'.symm, hpc, htr2, hsz2, hps2, has2, hbd2, hlt2, hgd2, hdf2⟩
                refine ⟨.bool pc.isNone, _, ?_, .bool b, _, G2, .bool pc.isNone, rfl, hQ, hR4, hE.trans hE4, by rw [hb]; rfl⟩
                simp [Instr.endRound, run_getLoop' hob2, run_setObj_loop _ hob2]
              cases ae2 with
              | normal => cases hex2; exact fin .ready none none true rfl rfl rfl hq2
              | ret => cases hex2; exact fin .done (some .ret) (some .ret) false rfl rfl rfl hq2
              | exit id => cases hex2; exact fin .done (some (.exit id)) (some (.exit id)) false rfl rfl rfl hq2
            · cases hq2
        · cases hq1
    · cases hs
  · cases hs
end
end Go.Ab
end
section
/-
  One operation, calls and all; operations in the order in which they stand.
-/
namespace Go.Ab
open Go.RowKit (Below)

section
variable {P : Program} {N : Nat} {w0 : World} {G G' : GM} {h h' : AHeap} {w w' : World} {a : AAct} {ag : Act} {M : Nat} {S : Self}

theorem run_enter {f : FuncId} {fn : Func} {c : Code} (hf : P.funcs[f]? = some fn) (hname : (fn.name == "runtime.NumGoroutine") = false) (hb : fn.body = some c) (args : Array Value) (w : World) :
    (callFunc f args).run P w = .ok (.enter f args) w := by
  simp only [callFunc, Sem.run_bind, run_program, Result.andThen_ok, hf, hname, hb]
  rfl

theorem callVA_sound (hS : SelfOK P N w0 S) (hR : Rel P N w0 G h w) {f : AVal} {V : Value} {args : List AVal} {argsV : Array Value} (hf : VR P G f V) (hargs : VsR P G args argsV.toList) {Q : AVal × AHeap → Prop}
    (hs : (callVA S f args h).sat Q) (rv : Option Nat) :
    ∃ d, (Deferred.ofValue V argsV).run P w = .ok d w ∧
    ((∃ g allargs, (invoke d.target d.args).run P w = .ok (.enter g allargs) w ∧ CallsIn (FR rv) 0 P g allargs w (PostC P N w0 G h w Q)) ∨
     ∃ l fn tmps as bd, (invoke d.target d.args).run P w = .ok (.round l fn tmps as bd) w ∧ RoundIn (FR rv) 0 P l fn tmps as bd w (PostC P N w0 G h w Q)) := by
  unfold callVA at hs
  split at hs
  · rename_i g first captured
    obtain ⟨L, Mv, rfl, h1, h2⟩ := hf
    obtain ⟨fn, c, h3, h4, h5⟩ := hS.enters _ _ _ _ hs
    refine ⟨_, rfl, .inl ⟨g, L ++ argsV ++ Mv, run_enter h3 h4 h5 _ w, FR_calls (hS.call g _ h G w _ Q hR ?_ hs)⟩⟩
    simpa using (h1.append hargs).append h2
  · rename_i l
    obtain ⟨g, hg, rfl⟩ := hf
    obtain ⟨fn, tmps, as, bd, h1, h2⟩ := roundA_sound hS hR hg hargs hs rv
    refine ⟨_, rfl, .inr ⟨g.blk, fn, tmps, as, bd, ?_, h2⟩⟩
    show (Instr.yield g.blk (#[] ++ argsV)).run P w = _
    simpa using h1
  · cases hs

theorem cE_calls {op : Op} {e : EOp} (hq : cE P op = some e) (h1 : ∀ c, op ≠ .call c) (h2 : ∀ c, op ≠ .defer c) : (∀ f xs, e ≠ .call f xs) ∧ ∀ f xs, e ≠ .defer f xs := by
  unfold cE at hq
  constructor <;> rintro f xs rfl
  all_goals
    split at hq <;> first | exact absurd rfl (h1 _) | exact absurd rfl (h2 _) | skip
    all_goals repeat' (first | (cases hq; done) | split at hq)

/-- An operation that turns memory, calls and all: whatever the temporaries that it does not look at. -/
theorem eA_sound (hS : SelfOK P N w0 S) {ro rv : Option Nat} (hro : roR G ro rv) (hR : Rel P N w0 G h w) (ha : ActR P G M a ag) {o : Oper} {e : EOp} {d : Option Tmp} (hd : cDst M o.dst = some d) (hq : cE P o.op = some e) {Q : AAct × AHeap → Prop}
    (hs : (eA S ro a h d e).sat Q) (QQ : Exit → Act → World → Prop) : o.wpIn (FR rv) 0 P ag w (PostA P N w0 G h w M Q) QQ := by
  refine ⟨fun _ _ => trivial, ?_⟩
  have turn : ∀ e', e = e' → (eA S ro a h d e = (turnA a h e').bind fun p => .ret (putA a d p.1, p.2)) → (∀ c, o.op ≠ .defer c) → o.uponIn (FR rv) 0 P ag (PostA P N w0 G h w M Q) QQ ((o.semAt (FR rv).round ag.eval).run P w) := by
    rintro e' rfl hh hnd
    rw [hh, D.sat_bind] at hs
    obtain ⟨v, h', G', w', cv, nx, h1, h2, h3, h4, h5, h6⟩ := turnA_sound hR ha hq hs
    rw [Oper.semAt_eq _ _ _ hnd, h6 o rfl]
    have hp : PostA P N w0 G h w M Q (ag.put o.dst cv) w' := ⟨_, h', G', h1, h2, h3, (ha.mono h3.gle).put hd h4⟩
    rcases h5 with rfl | ⟨rfl, rfl⟩
    · exact hp
    · exact hp
  cases hop : o.op with
  | call c =>
    rw [hop] at hq
    simp only [cE] at hq
    split at hq
    · -- append
      have hnd : ∀ c', o.op ≠ .defer c' := fun c' hh => by rw [hop] at hh; cases hh
      split at hq
      · split at hq
        · split at hq
          · split at hq
            · cases hq
            · split at hq
              · simp only [Option.some.injEq] at hq; subst hq
                exact turn _ rfl rfl hnd
              · cases hq
            · cases hq
          · cases hq
        · cases hq
      · cases hq
    · rename_i fo hcal
      split at hq
      · rename_i f' xs' hf' hxs'
        simp only [Option.some.injEq] at hq; subst hq
        simp only [eA] at hs
        split at hs
        · rename_i fv xv hfv hxv
          rw [D.sat_bind] at hs
          have hV := ev_sound hR.glob ha hf' hfv
          have hXs := evs_sound hR.glob ha hxs' hxv
          obtain ⟨dd, h1, h2⟩ := callVA_sound hS hR hV hXs hs rv
          have hsem : o.semAt (FR rv).round ag.eval = (do let d ← Deferred.ofValue (ag.eval fo) (c.args.map ag.eval); invoke d.target d.args) := by
            rw [Oper.semAt_eq _ _ _ (fun c' hh => by rw [hop] at hh; cases hh)]
            unfold execOp
            rw [hop]
            simp only [resolve, hcal]
          have next : ∀ e w', PostC P N w0 G h w (fun p => (D.ret (putA a d p.1, p.2)).sat Q) e w' → ∃ v, e = .returned v ∧ PostA P N w0 G h w M Q (ag.put o.dst v) w' := by
            rintro e w' ⟨v, h', G', cv, rfl, h3, h4, h5, h6⟩
            exact ⟨cv, rfl, _, h', G', h3, h4, h5, (ha.mono h5.gle).put hd h6⟩
          rw [hsem, Sem.run_bind, h1, Result.andThen_ok]
          rcases h2 with ⟨g, allargs, h3, h4⟩ | ⟨l, fn, tmps, as, bd, h3, h4⟩
          · rw [h3, Oper.uponIn_enter]
            exact ⟨FR_depth, h4.mono fun e w' he => by obtain ⟨v, rfl, hh⟩ := next e w' he; exact hh⟩
          · rw [h3, Oper.uponIn_round]
            exact ⟨FR_depth, h4.mono fun e w' he => by obtain ⟨v, rfl, hh⟩ := next e w' he; exact hh⟩
        · cases hs
      · cases hq
    · cases hq
  | defer c =>
    rw [hop] at hq
    simp only [cE] at hq
    split at hq
    · rename_i fo hcal
      split at hq
      · rename_i f' xs' hf' hxs'
        simp only [Option.some.injEq] at hq; subst hq
        simp only [eA] at hs
        split at hs
        · rename_i g first captured xv hfv hxv
          cases hro
          have hV := ev_sound hR.glob ha hf' hfv
          have hXs := evs_sound hR.glob ha hxs' hxv
          obtain ⟨L, Mv, hL, h1, h2⟩ := hV
          have hsem : (o.semAt (FR none).round ag.eval).run P w = .ok (.defer { target := .fn (.func g) Mv, args := L ++ c.args.map ag.eval }) w := by
            show (execOp ag.eval o).run P w = _
            unfold execOp
            rw [hop]
            simp only [resolve, hcal, hL, Deferred.ofValue]
            rfl
          rw [hsem]
          refine ⟨_, h, G, hs, hR, Ext.refl _ _ _, ?_⟩
          have hd2 : ActR P G M { a with defers := .fn g (first ++ xv ++ captured) :: a.defers } { ag with defers := { target := .fn (.func g) Mv, args := L ++ c.args.map ag.eval } :: ag.defers } :=
            ⟨ha.tmps, ha.size, _, _, Mv, rfl, rfl, by simpa using (h1.append hXs).append h2, ha.defers⟩
          exact hd2.put hd ⟨#[], rfl, rfl⟩
        · cases hs
      · cases hq
    · cases hq
  | _ =>
    have hnd : ∀ c', o.op ≠ .defer c' := fun c' hh => by rw [hop] at hh; cases hh
    refine turn e rfl ?_ hnd
    obtain ⟨h1, h2⟩ := cE_calls hq (fun c' hh => by rw [hop] at hh; cases hh) hnd
    cases e with
    | call f xs => exact absurd rfl (h1 _ _)
    | defer f xs => exact absurd rfl (h2 _ _)
    | _ => rfl
end
end Go.Ab
end
section
/-
  Steps in the order in which they stand.
-/
namespace Go.Ab
open Go.RowKit (Below)

section
variable {P : Program} {N : Nat} {w0 : World} {G G' : GM} {h h' : AHeap} {w w' : World} {a : AAct} {ag : Act} {M : Nat} {S : Self}

theorem cQ_defer {c : Call} : cQ P (.defer c) = none := rfl

theorem q_wpIn (hR : Rel P N w0 G h w) (ha : ActR P G M a ag) {o : Oper} {q : QOp} {d : Option Tmp} (hd : cDst M o.dst = some d) (hq : cQ P o.op = some q) {v : AVal} {id : Option Nat} (e : qA a h q = some (v, id)) {Q : AAct × AHeap → Prop} (hQ : Q (putA a d v, h))
    (QQ : Exit → Act → World → Prop) {rv : Option Nat} : o.wpIn (FR rv) 0 P ag w (PostA P N w0 G h w M Q) QQ := by
  obtain ⟨cv, h1, h2⟩ := qA_sound hR ha hq e
  refine ⟨fun _ _ => trivial, ?_⟩
  rw [Oper.semAt_eq _ _ _ (fun c hc => by rw [hc, cQ_defer] at hq; cases hq), h2 o rfl w (fun _ _ _ _ => rfl)]
  exact ⟨_, h, G, hQ, hR, Ext.refl _ _ _, ha.put hd h1⟩

theorem want_sound {ops : Array Oper} (ha : ActR P G M a ag) {o : Oper} {g : Option (Tmp × Bool)} (hg : cGuard ops.toList o.guard = some g) {c : Bool} (e : wantA a g = some c) : Region.wanted o (yielded ops ag.tmps) = c := by
  cases hgd : o.guard with
  | none =>
    rw [hgd] at hg
    simp only [cGuard, Option.some.injEq] at hg; subst hg
    simp only [wantA, Option.some.injEq] at e
    simp [Region.wanted, hgd, e]
  | some p =>
    obtain ⟨j, b⟩ := p
    rw [hgd] at hg
    simp only [cGuard] at hg
    split at hg
    · rename_i oj hoj
      split at hg
      · rename_i t ht
        simp only [Option.some.injEq] at hg; subst hg
        have hoj' : ops[j]? = some oj := by simpa using hoj
        simp only [wantA] at e
        split at e
        · rename_i c' hc'
          simp only [Option.some.injEq] at e
          obtain ⟨v, h1, h2⟩ := ha.tmps _ _ hc'
          cases h2
          simp only [Region.wanted, hgd, yielded, hoj', Option.bind_some, ht, h1]
          rw [← e]; rfl
        · rename_i hc'
          simp only [Option.some.injEq] at e
          obtain ⟨v, h1, h2⟩ := ha.tmps _ _ hc'
          obtain ⟨L, rfl, h3⟩ := h2
          simp only [Region.wanted, hgd, yielded, hoj', Option.bind_some, ht, h1]
          rw [← e]; rfl
        · cases e
      · cases hg
    · cases hg

theorem cStep_spec {ops : List Oper} {o : Oper} {s : Step} (e : cStep P M ops o = some s) : cDst M o.dst = some s.dst ∧ cGuard ops o.guard = some s.guard ∧ s.op = cOp P o.op := by
  unfold cStep at e
  split at e
  · rename_i d g hd hg
    simp only [Option.some.injEq] at e; subst e
    exact ⟨hd, hg, rfl⟩
  · cases e

/-- What one operation of a row comes to, when its guard has been looked at. -/
theorem body_sound (hS : SelfOK P N w0 S) {ro rv : Option Nat} (hro : roR G ro rv) (hR : Rel P N w0 G h w) (ha : ActR P G M a ag) {o : Oper} {d : Option Tmp} (hd : cDst M o.dst = some d) {Q : AAct × AHeap → Prop}
    (hs : (match cOp P o.op with
      | .q op => (match qA a h op with
        | some (v, _) => .ret (putA a d v, h)
        | none => .fail)
      | .e op => eA S ro a h d op : D (AAct × AHeap)).sat Q) (QQ : Exit → Act → World → Prop) : o.wpIn (FR rv) 0 P ag w (PostA P N w0 G h w M Q) QQ := by
  unfold cOp at hs
  cases hq : cQ P o.op with
  | some q =>
    rw [hq] at hs
    simp only at hs
    split at hs
    · rename_i v id hv
      exact q_wpIn hR ha hd hq hv hs QQ
    · cases hs
  | none =>
    rw [hq] at hs
    cases he : cE P o.op with
    | some e =>
      rw [he] at hs
      exact eA_sound hS hro hR ha hd he hs QQ
    | none =>
      rw [he] at hs
      simp only [qA] at hs
      cases hs

theorem step_sound (hS : SelfOK P N w0 S) {ro rv : Option Nat} (hro : roR G ro rv) (hR : Rel P N w0 G h w) (ha : ActR P G M a ag) {ops : Array Oper} {i : Nat} {o : Oper} {s : Step} (hi : ops[i]? = some o) (hc : cStep P M ops.toList o = some s) {Q : AAct × AHeap → Prop}
    (hs : (stepA S ro a h s).sat Q) (QQ : Exit → Act → World → Prop) : wpOpIn (FR rv) 0 P ops QQ i (PostA P N w0 G h w M Q) ag w := by
  obtain ⟨h1, h2, h3⟩ := cStep_spec hc
  unfold wpOpIn
  simp only [hi]
  unfold stepA at hs
  split at hs
  · rename_i hw
    rw [want_sound ha h2 hw, if_pos rfl]
    rw [h3] at hs
    exact body_sound hS hro hR ha h1 hs QQ
  · rename_i hw
    rw [want_sound ha h2 hw]
    exact ⟨fun _ _ => trivial, _, h, G, hs, hR, Ext.refl _ _ _, ha.put h1 ⟨#[], rfl, rfl⟩⟩
  · cases hs

theorem steps_sound (hS : SelfOK P N w0 S) {ro rv : Option Nat} {ops : Array Oper} {Q : AAct × AHeap → Prop} {QQ : Exit → Act → World → Prop} : ∀ {is : List Nat} {os : List Oper} {ss : List Step} {G : GM} {h : AHeap} {w : World} {a : AAct} {ag : Act}, roR G ro rv → Rel P N w0 G h w → ActR P G M a ag →
    is.map (ops[·]?) = os.map some → mapO (cStep P M ops.toList) os = some ss → (stepsA S ro ss a h).sat Q →
    (∀ ag' w', PostA P N w0 G h w M Q ag' w' → QQ .normal ag' w') → wpOpsIn (FR rv) 0 P ops QQ is ag w
  | [], [], ss, G, h, w, a, ag, hro, hR, ha, _, hm, hs, hQ => by
    simp only [mapO, Option.some.injEq] at hm; subst hm
    exact hQ ag w ⟨a, h, G, hs, hR, Ext.refl _ _ _, ha⟩
  | [], _ :: _, _, _, _, _, _, _, _, _, _, e, _, _, _ => by cases e
  | _ :: _, [], _, _, _, _, _, _, _, _, _, e, _, _, _ => by cases e
  | i :: is, o :: os, ss, G, h, w, a, ag, hro, hR, ha, e, hm, hs, hQ => by
    simp only [List.map_cons, List.cons.injEq] at e
    obtain ⟨s, ss', h1, h2, rfl⟩ := mapO_cons hm
    simp only [stepsA, D.sat_bind] at hs
    rw [wpOpsIn_cons]
    refine wpOpIn_mono (fun ag1 w1 hp => ?_) (step_sound hS hro hR ha e.1 h1 hs QQ)
    obtain ⟨a1, hh1, G1, h3, h4, h5, h6⟩ := hp
    refine steps_sound hS (hro.mono h5.gle) h4 h6 e.2 h2 h3 (fun ag' w' hp' => hQ ag' w' ?_)
    obtain ⟨a2, hh2, G2, h7, h8, h9, h10⟩ := hp'
    exact ⟨a2, hh2, G2, h7, h8, h5.trans h9, h10⟩

theorem region_sound (hS : SelfOK P N w0 S) {ro rv : Option Nat} (hro : roR G ro rv) (hR : Rel P N w0 G h w) (ha : ActR P G M a ag) {id : Nat} {ops : Array Oper} {ss : List Step} (hm : mapO (cStep P M ops.toList) ops.toList = some ss) {Q : AAct × AHeap → Prop}
    (hs : (stepsA S ro ss a h).sat Q) {QQ : Exit → Act → World → Prop} (hQ : ∀ ag' w', PostA P N w0 G h w M Q ag' w' → QQ .normal ag' w') : (Code.region id ops false).wpIn (FR rv) 0 P QQ ag w := by
  refine wpIn_region ?_
  refine steps_sound hS hro hR ha ?_ hm hs hQ
  apply List.ext_getElem?
  intro i
  simp only [List.getElem?_map]
  rcases Nat.lt_or_ge i ops.size with hi | hi
  · simp [hi]
  · simp [hi]
end
end Go.Ab
end
section
/-
  Code: loops by fuel; ranges over functions.
-/
namespace Go.Ab
open Go.RowKit (Below)

theorem least_of {p : Nat → Prop} : ∀ (n : Nat), p n → ∃ k, p k ∧ ∀ j, p j → k ≤ j := by
  intro n
  induction n using Nat.strongRecOn with
  | _ n ih =>
    intro hn
    by_cases h : ∃ j, j < n ∧ p j
    · obtain ⟨j, hj, hp⟩ := h; exact ih j hj hp
    · exact ⟨n, hn, fun j hj => Nat.le_of_not_lt fun hlt => h ⟨j, hlt, hj⟩⟩

open Classical in
theorem wpIn_loop_fuel {F : Fence} {n : Nat} {P : Program} {Q : Exit → Act → World → Prop} {c : Code} (J : Nat → Act → World → Prop)
    (round : ∀ k a w, J k a w → c.wpIn F n P (Exit.then (fun a' w' => ∃ k', k' < k ∧ J k' a' w') Q) a w) {k : Nat} {a : Act} {w : World} (h : J k a w) : (Code.loop c).wpIn F n P Q a w := by
  have hl : ∀ a w, (∃ k, J k a w) → ∃ k, J k a w ∧ ∀ j, J j a w → k ≤ j := fun a w ⟨k, hk⟩ => least_of k hk
  let μ : Act → World → Nat := fun a w => if hh : ∃ k, J k a w then Classical.choose (hl a w hh) else 0
  have hμ : ∀ a w, (hh : ∃ k, J k a w) → J (μ a w) a w ∧ ∀ j, J j a w → μ a w ≤ j := fun a w hh => by
    have : μ a w = Classical.choose (hl a w hh) := dif_pos hh
    rw [this]
    exact Classical.choose_spec (hl a w hh)
  refine wpIn_loop (fun a w => ∃ k, J k a w) μ ⟨k, h⟩ fun a w hI => ?_
  refine wpIn_mono (round _ a w (hμ a w hI).1) fun e a' w' he => ?_
  cases e with
  | normal =>
    obtain ⟨k', h1, h2⟩ := he
    exact ⟨⟨k', h2⟩, Nat.lt_of_le_of_lt ((hμ a' w' ⟨k', h2⟩).2 k' h2) h1⟩
  | _ => exact he

section
variable {P : Program} {N : Nat} {w0 : World} {G G' : GM} {h h' : AHeap} {w w' : World} {a : AAct} {ag : Act} {M : Nat} {S : Self}

theorem Post.of_normal {Q : AExit × AAct × AHeap → Prop} {ag' : Act} {w' : World} (hp : PostA P N w0 G h w M (fun p => Q (.normal, p.1, p.2)) ag' w') : Post P N w0 G h w M Q .normal ag' w' := by
  obtain ⟨a', h', G', h1, h2, h3, h4⟩ := hp
  exact ⟨.normal, a', h', G', h1, rfl, h2, h3, h4⟩

/-- A drawn region is sound: what is shown apart. -/
def DrawOK (P : Program) (N : Nat) (w0 : World) (S : Self) : Prop :=
  ∀ {G : GM} {h : AHeap} {w : World} {a : AAct} {ag : Act} {M : Nat} {ro rv : Option Nat}, roR G ro rv → Rel P N w0 G h w → ActR P G M a ag → ∀ {id : Nat} {ops : Array Oper} {plan : List DStep}, cDraw P M ops.toList = some plan → ∀ {Q : AAct × AHeap → Prop},
    (drawA S ro plan [] a h).sat Q → ∀ {QQ : Exit → Act → World → Prop}, (∀ ag' w', PostA P N w0 G h w M Q ag' w' → QQ .normal ag' w') → (Code.region id ops true).wpIn (FR rv) 0 P QQ ag w

theorem rangeF_sound (hS : SelfOK P N w0 S) (hR : Rel P N w0 G h w) (ha : ActR P G M a ag) {f : Operand} {f' : AOpd} {ps : Array Tmp} {as bd : Code} {as' bd' : ACode} (hf : cOpd P f = some f') (has : cCode P M as = some as') (hbd : cCode P M bd = some bd')
    (hps : ps.toList.all (fun p => Nat.blt p M) = true) {Q : AExit × AAct × AHeap → Prop} (hs : (codeA S none (.rangeF f' ps.toList as' bd') a h).sat Q) : (Code.rangeFunc f ps as bd).wpIn (FR none) 0 P (Post P N w0 G h w M Q) ag w := by
  simp only [codeA] at hs
  split at hs
  · rename_i g first captured hro hv
    have hV := ev_sound hR.glob ha hf hv
    obtain ⟨L, Mv, hL, h1, h2⟩ := hV
    rw [D.sat_bind] at hs
    -- the two blocks that are laid
    obtain ⟨hR1, hE1⟩ := hR.alloc (o := .dfr false) (ob := .deferred (some [])) (gi := ⟨w.heap.size, 0, 0, 0⟩) rfl rfl (by show Obj.deferred _ = _; rfl)
    have ha1 := ha.mono hE1.gle
    have hlt : ∀ p ∈ ps.toList, p < M := fun p hp => Nat.blt_eq.mp (List.all_eq_true.1 hps p hp)
    have hgd : addG G h.next ⟨w.heap.size, 0, 0, 0⟩ h.next = some ⟨w.heap.size, 0, 0, 0⟩ := addG_same
    refine wpIn_rangeFunc fun fn _ => ?_
    obtain ⟨hR2, hE2⟩ := hR1.alloc (o := .loop .ready none a.tmps ps.toList as' bd' h.next) (ob := .loop { state := .ready, pending := none, fn, tmps := ag.tmps, params := ps, assign := as, body := bd, defers := w.heap.size })
      (gi := ⟨w.heap.size + 1, 0, 0, 0⟩) (by simp) rfl ⟨_, M, ⟨w.heap.size, 0, 0, 0⟩, rfl, rfl, rfl, ha1.tmps.mono (addG_le (hR1.fresh _ (Nat.le_refl _))), ha.size, rfl, has, hbd, hlt, addG_le (hR1.fresh _ (Nat.le_refl _)) _ _ hgd, rfl⟩
    have hE := hE1.trans hE2
    generalize hw2 : (w.alloc (.deferred (some []))).alloc (.loop { state := .ready, pending := none, fn, tmps := ag.tmps, params := ps, assign := as, body := bd, defers := w.heap.size }) = w2 at hR2 hE
    generalize hG2 : addG (addG G h.next ⟨w.heap.size, 0, 0, 0⟩) (newA h (.dfr false)).next ⟨w.heap.size + 1, 0, 0, 0⟩ = G2 at hR2 hE
    have hgl : G2 (h.next + 1) = some ⟨w.heap.size + 1, 0, 0, 0⟩ := by rw [← hG2]; exact addG_same
    have hgd2 : G2 h.next = some ⟨w.heap.size, 0, 0, 0⟩ := by
      rw [← hG2]; exact (addG_ne (by show h.next ≠ h.next + 1; omega)).trans addG_same
    obtain ⟨fnF, c, h3, h4, h5⟩ := hS.enters _ _ _ _ hs
    refine ⟨w.heap.size + 1, [{ target := .collected w.heap.size, args := #[] }], w2, { target := .fn (.func g) Mv, args := L ++ #[.func (.yield (w.heap.size + 1)) #[] #[]] }, w2, g, L ++ #[.func (.yield (w.heap.size + 1)) #[] #[]] ++ Mv, w2, ?_, ?_, fun _ _ => trivial, ?_, FR_depth, ?_⟩
    · show (Instr.enterLoop fn ag.tmps ps as bd none).run P w = _
      rw [← hw2]
      simp [Instr.enterLoop]
    · simp [resolve, rangeCall, hL, Deferred.ofValue]; rfl
    · exact run_enter h3 h4 h5 _ w2
    · have hargs : VsR P G2 (first ++ [.yield (h.next + 1)] ++ captured) (L ++ #[Value.func (.yield (w.heap.size + 1)) #[] #[]] ++ Mv).toList := by
        have hy : VR P G2 (.yield (h.next + 1)) (Value.func (.yield (w.heap.size + 1)) #[] #[]) := ⟨_, hgl, rfl⟩
        simpa using ((h1.mono hE.gle).append (VsR.one hy)).append (h2.mono hE.gle)
      have hcall := hS.call g _ _ G2 w2 _ _ hR2 hargs hs
      refine hcall.mono fun e w3 hp => ?_
      obtain ⟨v, h', G', cv, rfl, hq, hR3, hE3, hv3⟩ := hp
      have hgl3 := hE3.gle _ _ hgl
      have hgd3 := hE3.gle _ _ hgd2
      simp only at hq
      split at hq
      · rename_i ver st pd t ps' as'' bd'' df' hget
        obtain ⟨r, hob, ⟨r', Mr, gd, hr', hst, hpc, htr, hsz, hps', has', hbd2, hlt', hgd', hdf⟩, hN⟩ := loop_of hR3 hget hgl3
        cases hr'
        have fin : st ≠ .busy → ∀ (ae : AExit) (e : Exit), ExR ae e → Q (ae, { a with defers := .collected h.next :: a.defers }, putObjA h' (h.next + 1) (.loop .exhausted pd t ps' as'' bd'' df')) →
            ∃ w4, (Instr.endLoop (w.heap.size + 1)).run P w3 = .ok r.pending w4 ∧ Post P N w0 G h w M Q e { ag with defers := [{ target := .collected w.heap.size, args := #[] }] ++ ag.defers } w4 := by
          intro hnb ae e hex hQ
          obtain ⟨hR4, hE4⟩ := putLoop hR3 (o' := .loop .exhausted pd t ps' as'' bd'' df') hget rfl rfl hgl3 hob (ob' := .loop { r with state := .exhausted }) ⟨_, Mr, gd, rfl, rfl, hpc, htr, hsz, hps', has', hbd2, hlt', hgd', hdf⟩
          refine ⟨_, ?_, ae, _, _, G', hQ, hex, hR4, (hE.trans hE3).trans hE4, ?_⟩
          · have hne : r.state ≠ .busy := by rw [hst]; exact hnb
            simp only at hob
            simp [Instr.endLoop, run_getLoop' hob, run_setObj_loop _ hob, hne]
          · have ha3 := ha.mono (hE.trans hE3).gle
            exact ⟨ha3.tmps, ha3.size, ⟨⟨w.heap.size, 0, 0, 0⟩, _, _, rfl, hgd3, rfl, ha3.defers⟩⟩
        split at hq
        · cases hq
        · rename_i hnb
          have hnb' : st ≠ .busy := fun hh => hnb hh
          cases pd with
          | none =>
            obtain ⟨w4, h6, h7⟩ := fin hnb' .normal .normal rfl hq
            refine ⟨r.pending, w4, h6, ?_⟩
            rw [hpc]; exact h7
          | some pe =>
            cases pe with
            | normal => exact absurd hpc (by simp [pendC])
            | ret =>
              obtain ⟨w4, h6, h7⟩ := fin hnb' .ret .ret rfl hq
              refine ⟨r.pending, w4, h6, ?_⟩
              rw [hpc]; exact wpIn_ret h7
            | exit id =>
              obtain ⟨w4, h6, h7⟩ := fin hnb' (.exit id) (.exit id) rfl hq
              refine ⟨r.pending, w4, h6, ?_⟩
              rw [hpc]; exact wpIn_exit h7
      · cases hq
  · cases hs
end
end Go.Ab
end
section
/-
  Code is sound, so long as the machine at less fuel is.
-/
namespace Go.Ab
open Go.RowKit (Below)

section
variable {P : Program} {N : Nat} {w0 : World} {fns : FuncId → Option AFunc} {summ : FuncId → List AVal → AHeap → Option (D (AVal × AHeap))}

theorem Post.later {G G' : GM} {h h' : AHeap} {w w' : World} {M : Nat} {Q : AExit × AAct × AHeap → Prop} (hE : Ext G h w G' h' w') {e : Exit} {ag : Act} {w2 : World} (hp : Post P N w0 G' h' w' M Q e ag w2) : Post P N w0 G h w M Q e ag w2 := by
  obtain ⟨ae, a', h2, G2, h1, hx, h3, h4, h5⟩ := hp
  exact ⟨ae, a', h2, G2, h1, hx, h3, hE.trans h4, h5⟩

theorem trap_fail {S : Self} {ro : Option Nat} {a : AAct} {h : AHeap} {Q : AExit × AAct × AHeap → Prop} (hs : (codeA S ro (.ops [{ dst := none, guard := none, op := .q .trap }]) a h).sat Q) : False := hs

theorem codeA_sound {B : Nat} (hS : ∀ k, k ≤ B → SelfOK P N w0 (run fns summ k)) (hD : ∀ k, k ≤ B → DrawOK P N w0 (run fns summ k)) : ∀ (C : Code) {n : Nat}, n ≤ B → ∀ {c : ACode} {M : Nat} {ro rv : Option Nat} {G : GM} {h : AHeap} {w : World} {a : AAct} {ag : Act} {Q : AExit × AAct × AHeap → Prop},
    cCode P M C = some c → roR G ro rv → ActR P G M a ag → Rel P N w0 G h w → (codeA (run fns summ n) ro c a h).sat Q → C.wpIn (FR rv) 0 P (Post P N w0 G h w M Q) ag w := by
  intro C
  induction C with
  | skip =>
    intro n hn c M ro rv G h w a ag Q hc hro ha hR hs
    simp only [cCode, Option.some.injEq] at hc; subst hc
    exact wpIn_skip ⟨.normal, a, h, G, hs, rfl, hR, Ext.refl _ _ _, ha⟩
  | label l =>
    intro n hn c M ro rv G h w a ag Q hc hro ha hR hs
    simp only [cCode, Option.some.injEq] at hc; subst hc
    exact wpIn_label ⟨.normal, a, h, G, hs, rfl, hR, Ext.refl _ _ _, ha⟩
  | region id ops draw =>
    intro n hn c M ro rv G h w a ag Q hc hro ha hR hs
    cases draw with
    | false =>
      simp only [cCode] at hc
      split at hc
      · rename_i l hl
        simp only [Option.some.injEq] at hc; subst hc
        simp only [codeA, D.sat_bind] at hs
        exact region_sound (hS n hn) hro hR ha hl hs (fun ag' w' hp => Post.of_normal hp)
      · cases hc
    | true =>
      simp only [cCode] at hc
      split at hc
      · rename_i l hl
        simp only [Option.some.injEq] at hc; subst hc
        simp only [codeA, D.sat_bind] at hs
        exact hD n hn hro hR ha hl hs (fun ag' w' hp => Post.of_normal hp)
      · simp only [Option.some.injEq] at hc; subst hc
        exact (trap_fail hs).elim
  | seq x y ihx ihy =>
    intro n hn c M ro rv G h w a ag Q hc hro ha hR hs
    simp only [cCode] at hc
    split at hc
    · rename_i x' y' hx hy
      simp only [Option.some.injEq] at hc; subst hc
      simp only [codeA, D.sat_bind] at hs
      refine wpIn_seq (wpIn_mono (ihx hn hx hro ha hR hs) fun e ag1 w1 hp => ?_)
      obtain ⟨ae, a1, h1, G1, hq, hx1, hR1, hE1, ha1⟩ := hp
      cases ae with
      | normal =>
        cases hx1
        exact wpIn_mono (ihy hn hy (hro.mono hE1.gle) ha1 hR1 hq) fun _ _ _ hp => hp.later hE1
      | ret => cases hx1; exact ⟨.ret, a1, h1, G1, hq, rfl, hR1, hE1, ha1⟩
      | exit id => cases hx1; exact ⟨.exit id, a1, h1, G1, hq, rfl, hR1, hE1, ha1⟩
    · cases hc
  | cond cd x y ihx ihy =>
    intro n hn c M ro rv G h w a ag Q hc hro ha hR hs
    simp only [cCode] at hc
    split at hc
    · rename_i c' x' y' hcd hx hy
      simp only [Option.some.injEq] at hc; subst hc
      simp only [codeA] at hs
      split at hs
      · rename_i hv
        exact wpIn_cond_true (ev_sound hR.glob ha hcd hv) (ihx hn hx hro ha hR hs)
      · rename_i hv
        exact wpIn_cond_false (ev_sound hR.glob ha hcd hv) (ihy hn hy hro ha hR hs)
      · cases hs
    · cases hc
  | block id x ih =>
    intro n hn c M ro rv G h w a ag Q hc hro ha hR hs
    simp only [cCode] at hc
    split at hc
    · rename_i x' hx
      simp only [Option.some.injEq] at hc; subst hc
      simp only [codeA, D.sat_bind] at hs
      refine wpIn_block (wpIn_mono (ih hn hx hro ha hR hs) fun e ag1 w1 hp => ?_)
      obtain ⟨ae, a1, h1, G1, hq, hx1, hR1, hE1, ha1⟩ := hp
      cases ae with
      | normal => cases hx1; exact ⟨.normal, a1, h1, G1, hq, rfl, hR1, hE1, ha1⟩
      | ret => cases hx1; exact ⟨.ret, a1, h1, G1, hq, rfl, hR1, hE1, ha1⟩
      | exit id' =>
        cases hx1
        simp only at hq
        split at hq
        · rename_i hid
          have hid' := Nat.eq_of_beq_eq_true hid
          simp only [Exit.inBlock, hid', if_true]
          exact ⟨.normal, a1, h1, G1, hq, rfl, hR1, hE1, ha1⟩
        · rename_i hid
          have hid' : id' ≠ id := fun hh => by rw [hh, Nat.beq_refl] at hid; cases hid
          simp only [Exit.inBlock, hid', if_false]
          exact ⟨.exit id', a1, h1, G1, hq, rfl, hR1, hE1, ha1⟩
    · cases hc
  | loop x ih =>
    intro n hn c M ro rv G h w a ag Q hc hro ha hR hs
    simp only [cCode] at hc
    split at hc
    · rename_i x' hx
      simp only [Option.some.injEq] at hc; subst hc
      refine wpIn_loop_fuel (fun k ag1 w1 => k ≤ B ∧ ∃ a1 h1 G1, roR G1 ro rv ∧ ActR P G1 M a1 ag1 ∧ Rel P N w0 G1 h1 w1 ∧ Ext G h w G1 h1 w1 ∧ (codeA (run fns summ k) ro (.loop x') a1 h1).sat Q) ?_ (k := n) ⟨hn, a, h, G, hro, ha, hR, Ext.refl _ _ _, hs⟩
      rintro k ag1 w1 ⟨hk, a1, h1, G1, hro1, ha1, hR1, hE1, hs1⟩
      simp only [codeA, D.sat_bind] at hs1
      refine wpIn_mono (ih hk hx hro1 ha1 hR1 hs1) fun e ag2 w2 hp => ?_
      obtain ⟨ae, a2, h2, G2, hq, hx2, hR2, hE2, ha2⟩ := hp
      cases ae with
      | normal =>
        cases hx2
        cases k with
        | zero => cases hq
        | succ k =>
          exact ⟨k, Nat.lt_succ_self k, Nat.le_trans (Nat.le_succ k) hk, a2, h2, G2, hro1.mono hE2.gle, ha2, hR2, hE1.trans hE2, hq⟩
      | ret => cases hx2; exact ⟨.ret, a2, h2, G2, hq, rfl, hR2, hE1.trans hE2, ha2⟩
      | exit id => cases hx2; exact ⟨.exit id, a2, h2, G2, hq, rfl, hR2, hE1.trans hE2, ha2⟩
    · cases hc
  | exit id =>
    intro n hn c M ro rv G h w a ag Q hc hro ha hR hs
    simp only [cCode, Option.some.injEq] at hc; subst hc
    exact wpIn_exit ⟨.exit id, a, h, G, hs, rfl, hR, Ext.refl _ _ _, ha⟩
  | ret =>
    intro n hn c M ro rv G h w a ag Q hc hro ha hR hs
    simp only [cCode, Option.some.injEq] at hc; subst hc
    exact wpIn_ret ⟨.ret, a, h, G, hs, rfl, hR, Ext.refl _ _ _, ha⟩
  | rangeFunc f ps as bd _ _ =>
    intro n hn c M ro rv G h w a ag Q hc hro ha hR hs
    simp only [cCode] at hc
    split at hc
    · rename_i f' as' bd' hf has hbd
      split at hc
      · rename_i hps
        simp only [Option.some.injEq] at hc; subst hc
        cases ro with
        | none =>
          cases hro
          exact rangeF_sound (hS n hn) hR ha hf has hbd hps hs
        | some l => simp only [codeA] at hs; cases hs
      · cases hc
    · cases hc
  | refuse why =>
    intro n hn c M ro rv G h w a ag Q hc hro ha hR hs
    simp only [cCode, Option.some.injEq] at hc; subst hc
    exact (trap_fail hs).elim
  | scope x _ =>
    intro n hn c M ro rv G h w a ag Q hc
    simp only [cCode] at hc; cases hc
  | goto l =>
    intro n hn c M ro rv G h w a ag Q hc
    simp only [cCode] at hc; cases hc
end
end Go.Ab
end
section
/-
  Calls are sound: entering, results, what is deferred.
-/
namespace Go.Ab
open Go.RowKit (Below)

section
variable {P : Program} {N : Nat} {w0 : World} {G G' : GM} {h h' : AHeap} {w w' : World} {a : AAct} {ag : Act} {M : Nat} {S : Self} {fns : FuncId → Option AFunc} {summ : FuncId → List AVal → AHeap → Option (D (AVal × AHeap))}

/-! ### Entering -/
theorem setParams_range : ∀ {vs : List AVal} {k : Nat} {t t' : T AVal}, setParams t (List.range' k vs.length) vs = some t' → ∀ {i : Nat} {x : AVal}, t'.get i = some x → (∃ j, i = k + j ∧ vs[j]? = some x) ∨ t.get i = some x
  | [], k, t, t', e, i, x, hx => by
    simp only [List.length_nil, List.range'_zero, setParams, Option.some.injEq] at e; subst e
    exact .inr hx
  | v :: vs, k, t, t', e, i, x, hx => by
    simp only [List.length_cons, List.range'_succ, setParams] at e
    rcases setParams_range e hx with ⟨j, h1, h2⟩ | h1
    · exact .inl ⟨j + 1, by omega, by simpa using h2⟩
    · rw [T.get_set] at h1
      by_cases hi : i = k
      · rw [if_pos hi] at h1; cases h1
        exact .inl ⟨0, by omega, by simp⟩
      · rw [if_neg hi] at h1; exact .inr h1

theorem enter_act {args : List AVal} {argsV : Array Value} {t : T AVal} {m : Nat} (hv : VsR P G args argsV.toList) (e : setParams .leaf (List.range args.length) args = some t) :
    ActR P G m { tmps := t, defers := [] } { tmps := argsV ++ Array.replicate (m - argsV.size) undef, defers := [] } := by
  refine ⟨fun i x hx => ?_, by simp; omega, rfl⟩
  rw [List.range_eq_range'] at e
  rcases setParams_range e hx with ⟨j, rfl, h2⟩ | h1
  · obtain ⟨v, h3, h4⟩ := hv.get h2
    have h3' : argsV[j]? = some v := by simpa using h3
    refine ⟨v, ?_, h4⟩
    have hlt : j < argsV.size := by
      rcases Nat.lt_or_ge j argsV.size with h | h
      · exact h
      · simp [Array.getElem?_eq_none h] at h3'
    show (argsV ++ _)[0 + j]? = _
    rw [Nat.zero_add, Array.getElem?_append_left hlt]; exact h3'
  · rw [T.get_leaf] at h1; cases h1

/-! ### Results -/
theorem cRes_tmp {t : Tmp} {r : ARes} (e : cRes P (.tmp t) = some r) : r = .tmp t := by simpa [cRes] using e.symm

def resS (tmps : Array Value) : ResultVar → Sem Value
  | .tmp t => pure (tmps.getD t undef)
  | .cell a t => do loadVar t (← asAddr (tmps.getD a undef))
theorem results_eq (fn : Func) (tmps : Array Value) : results fn tmps = (do
    let vs ← fn.results.mapM (resS tmps)
    pure (if h : vs.size = 1 then vs[0] else .tuple vs)) := rfl

theorem resultA_sound (hR : Rel P N w0 G h w) (ht : TR P G a.tmps ag.tmps) {r : ResultVar} {r' : ARes} {v : AVal} (hc : cRes P r = some r') (e : resultA a h r' = some v) :
    ∃ cv, VR P G v cv ∧ (resS ag.tmps r).run P w = .ok cv w := by
  cases r with
  | tmp t =>
    simp only [cRes, Option.some.injEq] at hc; subst hc
    obtain ⟨cv, h1, h2⟩ := ht t v e
    refine ⟨cv, h2, ?_⟩
    simp [resS, Array.getD_eq_getD_getElem?, h1]
  | cell x t =>
    simp only [cRes] at hc
    split at hc
    · rename_i s hs
      simp only [Option.some.injEq] at hc; subst hc
      simp only [resultA] at e
      split at e
      · rename_i b o hp
        split at e
        · rename_i ver ro el vs hget
          obtain ⟨pv, h1, h2⟩ := ht x _ hp
          obtain ⟨g, hg, rfl⟩ := h2
          obtain ⟨gi, hgi, ob, hob, c, tc, fr, rfl, hfr, hfit, hel, hle, hvs⟩ := hR.obj b ver _ hget
          have hg' : G b = some g := hg
          rw [hg'] at hgi; cases hgi
          obtain ⟨cv, h3, h4⟩ := run_loadVar_c (e := tc) (fr := fr) (b := g.blk) hs hvs e
          refine ⟨cv, h3, ?_⟩
          simp [resS, Array.getD_eq_getD_getElem?, h1, asAddr, h4 w hob]
        · cases e
      · cases e
    · cases hc

theorem results_list (hR : Rel P N w0 G h w) (ht : TR P G a.tmps ag.tmps) : ∀ {rs : List ResultVar} {rs' : List ARes} {vs : List AVal}, mapO (cRes P) rs = some rs' → mapO (resultA a h) rs' = some vs →
    ∃ cvs, VsR P G vs cvs ∧ (rs.mapM (resS ag.tmps)).run P w = .ok cvs w
  | [], rs', vs, hc, e => by
    simp only [mapO, Option.some.injEq] at hc; subst hc
    simp only [mapO, Option.some.injEq] at e; subst e
    exact ⟨[], rfl, by simp⟩
  | r :: rs, rs', vs, hc, e => by
    obtain ⟨r1, rs1, h1, h2, rfl⟩ := mapO_cons hc
    obtain ⟨v, us, h3, h4, rfl⟩ := mapO_cons e
    obtain ⟨cv, h5, h6⟩ := resultA_sound hR ht h1 h3
    obtain ⟨cvs, h7, h8⟩ := results_list hR ht h2 h4
    refine ⟨cv :: cvs, ⟨cv, cvs, rfl, h5, h7⟩, ?_⟩
    simp only [List.mapM_cons, Sem.run_bind, Result.andThen_ok, Sem.run_pure]
    rw [h6]
    simp only [Result.andThen_ok, Sem.run_bind]
    rw [h8]
    rfl

theorem results_sound (hR : Rel P N w0 G h w) (ht : TR P G a.tmps ag.tmps) {fn : Func} {rs' : List ARes} {v : AVal} (hc : mapO (cRes P) fn.results.toList = some rs') (e : resultsA a h rs' = some v) :
    ∃ cv, VR P G v cv ∧ (results fn ag.tmps).run P w = .ok cv w := by
  unfold resultsA at e
  cases hm : mapO (resultA a h) rs' with
  | none => rw [hm] at e; cases e
  | some vs =>
    obtain ⟨cvs, h1, h2⟩ := results_list hR ht hc hm
    have h3 : (fn.results.mapM (resS ag.tmps)).run P w = .ok cvs.toArray w := by
      rw [Array.mapM_eq_mapM_toList]
      simp only [map_eq_pure_bind, Sem.run_bind, h2, Result.andThen_ok, Sem.run_pure]
    rw [hm] at e
    have hl := h1.length
    rw [results_eq]
    simp only [Sem.run_bind]
    rw [h3]
    simp only [Result.andThen_ok, Sem.run_pure]
    split at e
    · rename_i x hx
      simp only [Option.some.injEq] at e hx; subst e; subst hx
      obtain ⟨y, ys, rfl, h4, h5⟩ := h1
      cases h5
      exact ⟨y, h4, by simp⟩
    · rename_i us hne hx
      simp only [Option.some.injEq] at e hx; subst e; subst hx
      refine ⟨.tuple cvs.toArray, ⟨_, rfl, h1⟩, ?_⟩
      have : cvs.toArray.size ≠ 1 := by
        intro hh
        have : vs.length = 1 := by rw [← hl]; simpa using hh
        obtain ⟨x, rfl⟩ := List.length_eq_one_iff.1 this
        exact hne x rfl
      simp only [this, dite_false]
    · rename_i hh; cases hh

/-! ### What is deferred -/
theorem cFn_spec {fn : Func} {f' : AFunc} (e : cFn P fn = some f') : ∃ c, fn.body = some c ∧ (fn.name == "runtime.NumGoroutine") = false ∧ mapO (cRes P) fn.results.toList = some f'.results ∧
    ((f'.recovers = none ∧ cCode P fn.ntmps c = some f'.body) ∨ ∃ d c' d', cRec c = some (d, c') ∧ cDst fn.ntmps d = some d' ∧ f'.recovers = some d' ∧ cCode P fn.ntmps c' = some f'.body) := by
  unfold cFn at e
  split at e
  · cases e
  · rename_i c hb
    split at e
    · cases e
    · rename_i hn
      split at e
      · cases e
      · rename_i rs hrs
        split at e
        · rename_i d c' hr
          split at e
          · rename_i d' b hd hc
            simp only [Option.some.injEq] at e; subst e
            exact ⟨c, hb, by simpa using hn, hrs, .inr ⟨d, c', d', hr, hd, rfl, hc⟩⟩
          · cases e
        · split at e
          · rename_i b hc
            simp only [Option.some.injEq] at e; subst e
            exact ⟨c, hb, by simpa using hn, hrs, .inl ⟨rfl, hc⟩⟩
          · cases e

theorem cRec_spec {c c' : Code} {d : Option Tmp} (e : cRec c = some (d, c')) : ∃ id ops o cl, c = .seq (.region id ops false) c' ∧ ops = #[o] ∧ o.dst = d ∧ o.guard = none ∧ o.op = .call cl ∧ cl.callee = .builtin .recover ∧ cl.args = #[] := by
  unfold cRec at e
  split at e
  · rename_i id ops c2
    split at e
    · rename_i o ho
      split at e
      · rename_i cl args ats hop hg
        split at e
        · rename_i ha
          simp only [Option.some.injEq, Prod.mk.injEq] at e
          obtain ⟨rfl, rfl⟩ := e
          exact ⟨id, ops, o, _, rfl, by apply Array.ext'; simpa using ho, rfl, hg, hop, rfl, by apply Array.ext'; simpa using ha⟩
        · cases e
      · cases e
    · cases e
  · cases e
end
end Go.Ab
end
section
/-
  The machine is sound at every fuel, so long as drawn regions are.
-/
namespace Go.Ab
open Go.RowKit (Below)

/-- What is said of functions that are taken at their word. -/
def SummOK (P : Program) (N : Nat) (w0 : World) (summ : FuncId → List AVal → AHeap → Option (D (AVal × AHeap))) : Prop := ∀ f args h d, summ f args h = some d → Enters P f ∧ ∀ (G : GM) (argsV : Array Value) (w : World) (Q : AVal × AHeap → Prop), Rel P N w0 G h w → VsR P G args argsV.toList → d.sat Q →
  CallsIn (FR none) 0 P f argsV w (PostC P N w0 G h w Q)

/-- The functions are the program's. -/
def FnsOK (P : Program) (fns : FuncId → Option AFunc) : Prop := ∀ f fn', fns f = some fn' → ∃ fn, P.funcs[f]? = some fn ∧ cFn P fn = some fn'

section
variable {P : Program} {N : Nat} {w0 : World} {G G' : GM} {h h' : AHeap} {w w' : World} {a : AAct} {ag : Act} {M : Nat} {S : Self} {fns : FuncId → Option AFunc} {summ : FuncId → List AVal → AHeap → Option (D (AVal × AHeap))}

theorem wpOpsSIn_recover {ops : Array Oper} {o : Oper} {Q : Exit → Act → List Frame → World → Prop} {cs : List Frame} {rv : Option Nat} (h0 : ops[0]? = some o) (hg : o.guard = none) (hr : (execOp ag.eval o).run P w = .ok .recover w) (hrd : recoverD cs = none)
    (h : Q .normal (ag.put o.dst .nilIface) cs w) : wpOpsSIn (FR rv) 0 P ops Q [0] ag cs w := by
  have hw : Region.wanted o (yielded ops ag.tmps) = true := by simp [Region.wanted, hg]
  simp only [wpOpsSIn, h0]
  refine ⟨fun _ _ => trivial, ?_⟩
  rw [if_pos hw, hr]
  simp only [hrd]
  exact h

theorem defdA_sound (hF : FnsOK P fns) (hS : SelfOK P N w0 S) (hR : Rel P N w0 G h w) {f : FuncId} {args : List AVal} {argsV : Array Value} (hargs : VsR P G args argsV.toList) {Q : AHeap → Prop} (hs : (defdA fns S f args h).sat Q) :
    Enters P f ∧ CallsDIn (FR none) 0 P f argsV .returning w fun e u' w' => (∃ v, e = .returned v) ∧ u' = .returning ∧ ∃ h' G', Q h' ∧ Rel P N w0 G' h' w' ∧ Ext G h w G' h' w' := by
  unfold defdA at hs
  split at hs
  · rename_i fn' hfn
    obtain ⟨fn, hf, hc⟩ := hF _ _ hfn
    obtain ⟨c, hb, hname, hrs, hbody⟩ := cFn_spec hc
    split at hs
    · rename_i dst t hrec hres ht
      rw [D.sat_bind] at hs
      rcases hbody with ⟨h1, _⟩ | ⟨d, c', d', h1, h2, h3, h4⟩
      · rw [h1] at hrec; cases hrec
      · rw [h3] at hrec; cases hrec
        obtain ⟨id, ops, o, cl, rfl, rfl, hod, hog, hoo, hcl, hca⟩ := cRec_spec h1
        refine ⟨⟨fn, _, hf, hname, hb⟩, callsDIn_of_wpSIn hf hb trivial fun c₀ cs hu => ?_⟩
        refine wpSIn_seq (wpSIn_region ?_)
        have hact := (enter_act (m := fn.ntmps) hargs ht).put (d := d) h2 (v := .nilIface) (cv := .nilIface) rfl
        have hr : (execOp ({ tmps := argsV ++ Array.replicate (fn.ntmps - argsV.size) undef, defers := [] } : Act).eval o).run P w = .ok .recover w := by
          unfold execOp
          rw [hoo]
          simp [resolve, hcl, invoke, builtin]
        have hrd : recoverD (c₀ :: cs) = none := by simp [recoverD, hu]
        refine wpOpsSIn_recover (o := o) rfl hog hr hrd ?_
        rw [hod]
        refine wpSIn_of_wpIn rfl (wpIn_mono (hS.code none none _ _ fn.ntmps _ _ h G w _ rfl h4 hact hR hs) fun e ag1 w1 hp => ?_)
        obtain ⟨ae, a1, h5, G1, hq, hex, hR1, hE1, ha1⟩ := hp
        have hres0 : fn.results.toList = [] := by
          rw [hres] at hrs
          cases hl : fn.results.toList with
          | nil => rfl
          | cons r rs => rw [hl] at hrs; obtain ⟨_, _, _, _, hh⟩ := mapO_cons hrs; cases hh
        have hres1 : fn.results = #[] := by apply Array.ext'; simpa using hres0
        have hrr : (results fn ag1.tmps).run P w1 = .ok (.tuple #[]) w1 := by
          rw [results_eq, hres1]; simp
        have hdd : ag1.defers = [] ∨ True := .inr trivial
        have fin : a1.defers = [] → Q h5 → ag1.defers = [] ∧ ∃ u', c₀ :: cs = { c₀ with mode := u' } :: cs ∧ ∃ v, (results fn ag1.tmps).run P w1 = .ok v w1 ∧ ((∃ v', Ending.returned v = .returned v') ∧ u' = .returning ∧ ∃ h' G', Q h' ∧ Rel P N w0 G' h' w1 ∧ Ext G h w G' h' w1) := by
          intro h6 hq
          have h7 := ha1.defers
          rw [h6] at h7
          refine ⟨h7, .returning, ?_, _, hrr, ⟨_, rfl⟩, rfl, h5, G1, hq, hR1, hE1⟩
          rw [← hu]
        simp only at hq
        cases hd0 : a1.defers with
        | nil =>
          rw [hd0] at hq
          cases ae with
          | normal => cases hex; exact fin hd0 hq
          | ret => cases hex; exact fin hd0 hq
          | exit id => cases hq
        | cons _ _ =>
          rw [hd0] at hq
          cases ae <;> cases hq
    · cases hs
  · cases hs

theorem leaveA_sound (hF : FnsOK P fns) (hS : SelfOK P N w0 S) {fn : Func} {tmps : Array Value} {R : Ending → World → Prop} : ∀ {ds : List ADef} {dsV : List Deferred} {G : GM} {h : AHeap} {w : World} {Q : AHeap → Prop}, DR P G ds dsV → Rel P N w0 G h w → (leaveA fns S ds h).sat Q →
    (∀ h' G' w', Q h' → Rel P N w0 G' h' w' → Ext G h w G' h' w' → ∃ v, (results fn tmps).run P w' = .ok v w' ∧ R (.returned v) w') → LeavesInM (FR none) 0 P fn tmps R dsV .returning w
  | [], dsV, G, h, w, Q, hd, hR, hs, hq => by
    cases hd
    exact hq h G w hs hR (Ext.refl _ _ _)
  | .collected r :: ds, dsV, G, h, w, Q, hd, hR, hs, hq => by
    obtain ⟨g, d, ds', rfl, hg, ht, hd'⟩ := hd
    simp only [leaveA] at hs
    split at hs
    · rename_i ver hget
      obtain ⟨gi, hgi, ob, hob, ho⟩ := hR.obj r ver _ hget
      rw [hg] at hgi; cases hgi
      have ho' : ob = .deferred (some []) := ho
      subst ho'
      obtain ⟨hR1, hE1⟩ := putLoop hR (o' := .dfr true) hget rfl rfl hg hob (ob' := .deferred none) rfl
      refine ⟨(fun hh => by cases hh), .inl ⟨g.blk, _, ht, ?_, leaveA_sound hF hS hd' hR1 hs fun h' G' w' h1 h2 h3 => hq h' G' w' h1 h2 (hE1.trans h3)⟩⟩
      have hno : ∀ c e f, Obj.deferred (some []) ≠ .cells c e f := by intro c e f hh; cases hh
      have h1 := run_getObj_of (P := P) hob hno
      have h2 := run_setObj_of (P := P) (.deferred none) hob hno
      simp only [Instr.takeDeferred, Sem.run_bind, h1, Result.andThen_ok, h2, Sem.run_pure]
      rfl
    · cases hs
  | .fn f args :: ds, dsV, G, h, w, Q, hd, hR, hs, hq => by
    obtain ⟨d, ds', cap, rfl, ht, hv, hd'⟩ := hd
    simp only [leaveA, D.sat_bind] at hs
    obtain ⟨⟨fnD, c, h1, h2, h3⟩, hcall⟩ := defdA_sound hF hS hR hv hs
    refine ⟨(fun hh => by cases hh), .inr ⟨FR_depth, .func f, cap, f, d.args ++ cap, ht, ?_, fun _ _ => trivial, hcall.mono fun e u' w' hp => ?_⟩⟩
    · rw [ht]; exact run_enter h1 h2 h3 _ w
    · obtain ⟨⟨v, rfl⟩, rfl, h', G', hq', hR1, hE1⟩ := hp
      exact leaveA_sound hF hS (hd'.mono hE1.gle) hR1 hq' fun h2 G2 w2 h4 h5 h6 => hq h2 G2 w2 h4 h5 (hE1.trans h6)

theorem callA_enters (hF : FnsOK P fns) (hM : SummOK P N w0 summ) {f : FuncId} {args : List AVal} {Q : AVal × AHeap → Prop} (hs : (callA fns summ S f args h).sat Q) : Enters P f := by
  unfold callA at hs
  split at hs
  · rename_i v hv; exact (hM _ _ _ _ hv).1
  · split at hs
    · rename_i fn' hfn
      obtain ⟨fn, hf, hc⟩ := hF _ _ hfn
      obtain ⟨c, hb, hname, _⟩ := cFn_spec hc
      exact ⟨fn, c, hf, hname, hb⟩
    · cases hs

theorem callA_sound (hF : FnsOK P fns) (hM : SummOK P N w0 summ) (hS : SelfOK P N w0 S) (hcode : ∀ {C : Code} {c : ACode} {M : Nat} {G : GM} {h : AHeap} {w : World} {a : AAct} {ag : Act} {Q : AExit × AAct × AHeap → Prop},
      cCode P M C = some c → ActR P G M a ag → Rel P N w0 G h w → (S.code none c a h).sat Q → C.wpIn (FR none) 0 P (Post P N w0 G h w M Q) ag w)
    (hR : Rel P N w0 G h w) {f : FuncId} {args : List AVal} {argsV : Array Value} (hargs : VsR P G args argsV.toList) {Q : AVal × AHeap → Prop} (hs : (callA fns summ S f args h).sat Q) : CallsIn (FR none) 0 P f argsV w (PostC P N w0 G h w Q) := by
  unfold callA at hs
  split at hs
  · rename_i v hv
    exact (hM _ _ _ _ hv).2 G argsV w Q hR hargs hs
  · split at hs
    · rename_i fn' hfn
      obtain ⟨fn, hf, hc⟩ := hF _ _ hfn
      obtain ⟨c, hb, hname, hrs, hbody⟩ := cFn_spec hc
      split at hs
      · rename_i t hrec ht
        rcases hbody with ⟨_, hcc⟩ | ⟨_, _, _, _, _, h3, _⟩
        · rw [D.sat_bind] at hs
          refine callsIn_of_wp_marks hf hb trivial (wpIn_mono (hcode hcc (enter_act hargs ht) hR hs) fun e ag1 w1 hp => ?_)
          obtain ⟨ae, a1, h1, G1, hq, hex, hR1, hE1, ha1⟩ := hp
          have fin : ((leaveA fns S a1.defers h1).bind fun h => (match resultsA a1 h fn'.results with
              | some v => .ret (v, h)
              | none => .fail : D (AVal × AHeap))).sat Q → LeavesInM (FR none) 0 P fn ag1.tmps (PostC P N w0 G h w Q) ag1.defers .returning w1 := by
            intro hq
            rw [D.sat_bind] at hq
            refine leaveA_sound hF hS ha1.defers hR1 hq fun h2 G2 w2 hq2 hR2 hE2 => ?_
            split at hq2
            · rename_i v hv
              obtain ⟨cv, h4, h5⟩ := results_sound (a := a1) (ag := ag1) hR2 (ha1.tmps.mono hE2.gle) hrs hv
              exact ⟨cv, h5, v, h2, G2, cv, rfl, hq2, hR2, hE1.trans hE2, h4⟩
            · cases hq2
          cases ae with
          | normal => cases hex; exact fin hq
          | ret => cases hex; exact fin hq
          | exit id => cases hq
        · rw [hrec] at h3; cases h3
      · cases hs
    · cases hs

/-- The machine is sound at every fuel. -/
theorem run_sound (hF : FnsOK P fns) (hM : SummOK P N w0 summ) (hD : ∀ S, SelfOK P N w0 S → DrawOK P N w0 S) : ∀ n, SelfOK P N w0 (run fns summ n) := by
  intro n
  induction n using Nat.strongRecOn with
  | _ n ih =>
    cases n with
    | zero => exact ⟨fun _ _ _ _ h => h.elim, fun _ _ _ _ _ _ _ _ _ h => h.elim, fun _ _ _ _ _ _ _ _ _ _ _ _ _ _ _ h => h.elim⟩
    | succ n =>
      have hS : ∀ k, k ≤ n → SelfOK P N w0 (run fns summ k) := fun k hk => ih k (Nat.lt_succ_of_le hk)
      have hcode : ∀ (C : Code) {c : ACode} {M : Nat} {ro rv : Option Nat} {G : GM} {h : AHeap} {w : World} {a : AAct} {ag : Act} {Q : AExit × AAct × AHeap → Prop}, cCode P M C = some c → roR G ro rv → ActR P G M a ag → Rel P N w0 G h w →
          (codeA (run fns summ n) ro c a h).sat Q → C.wpIn (FR rv) 0 P (Post P N w0 G h w M Q) ag w := fun C => codeA_sound hS (fun k hk => hD _ (hS k hk)) C (Nat.le_refl n)
      refine ⟨fun f args h Q hs => callA_enters hF hM hs, fun f args h G w argsV Q hR hv hs => ?_, fun ro rv c C M a ag h G w Q hro hc ha hR hs => hcode C hc hro ha hR hs⟩
      exact callA_sound hF hM (hS n (Nat.le_refl n)) (fun {C c M G h w a ag Q} hc ha hR hs => (hS n (Nat.le_refl n)).code none none c C M a ag h G w Q rfl hc ha hR hs) hR hv hs
end
end Go.Ab
end
