import Derived.Test.YtapnoohglfhgeaaGreatDoorP07
/-
  Part 8 of the proof.
-/
set_option linter.all false
section
/-
  Rules for what is known of code, one for each form.
-/
namespace Go.Ab
section
variable {fns : FuncId → Option AFunc} {summ : FuncId → List AVal → AHeap → Option (D (AVal × AHeap))} {ro : Option Nat}

theorem ev_const {α : Type} {d : D α} {Q : α → Prop} (h : d.sat Q) : Ev (fun _ => d) Q := ⟨0, fun _ _ => h⟩
theorem ev_shift {α : Type} {d : Nat → D α} {Q : α → Prop} (h : Ev (fun n => d (n + 1)) Q) : Ev d Q := by
  obtain ⟨n, hn⟩ := h
  refine ⟨n + 1, fun m hm => ?_⟩
  obtain ⟨k, rfl⟩ : ∃ k, m = k + 1 := ⟨m - 1, by omega⟩
  exact hn k (by omega)

variable (fns summ) in
/-- Code, what follows told by how it ends. -/
def Cd (ro : Option Nat) (c : ACode) (a : AAct) (h : AHeap) (Q : AExit → AAct → AHeap → Prop) : Prop := CodeW fns summ ro c a h fun p => Q p.1 p.2.1 p.2.2
variable (fns summ) in
def St (ro : Option Nat) (l : List Step) (a : AAct) (h : AHeap) (K : AAct → AHeap → Prop) : Prop := StepsW fns summ ro l a h fun p => K p.1 p.2
variable (fns summ) in
def Dr (ro : Option Nat) (l : List DStep) (hs : List Held) (a : AAct) (h : AHeap) (K : AAct → AHeap → Prop) : Prop := DrawW fns summ ro l hs a h fun p => K p.1 p.2
variable (fns summ) in
def Cl (f : FuncId) (args : List AVal) (h : AHeap) (K : AVal → AHeap → Prop) : Prop := CallW fns summ f args h fun p => K p.1 p.2
variable (fns summ) in
def Cv (f : AVal) (args : List AVal) (h : AHeap) (K : AVal → AHeap → Prop) : Prop := CallVW fns summ f args h fun p => K p.1 p.2
variable (fns summ) in
def Ex (ro : Option Nat) (a : AAct) (h : AHeap) (dst : Option Tmp) (op : EOp) (K : AAct → AHeap → Prop) : Prop := EW fns summ ro a h dst op fun p => K p.1 p.2
variable (fns summ) in
def Lv (ds : List ADef) (h : AHeap) (K : AHeap → Prop) : Prop := Ev (fun n => leaveA fns (run fns summ n) ds h) K
/-- What follows code that ends as it should. -/
def nxt (K : AAct → AHeap → Prop) (Q : AExit → AAct → AHeap → Prop) : AExit → AAct → AHeap → Prop
  | .normal, a, h => K a h
  | e, a, h => Q e a h
/-- What follows a block. -/
def blk (id : Nat) (Q : AExit → AAct → AHeap → Prop) : AExit → AAct → AHeap → Prop
  | .exit i, a, h => if i = id then Q .normal a h else Q (.exit i) a h
  | e, a, h => Q e a h

theorem Cd.mono {c : ACode} {a : AAct} {h : AHeap} {Q Q' : AExit → AAct → AHeap → Prop} (k : Cd fns summ ro c a h Q) (hq : ∀ e a h, Q e a h → Q' e a h) : Cd fns summ ro c a h Q' := Ev.mono k fun _ hp => hq _ _ _ hp
theorem St.mono {l : List Step} {a : AAct} {h : AHeap} {K K' : AAct → AHeap → Prop} (k : St fns summ ro l a h K) (hq : ∀ a h, K a h → K' a h) : St fns summ ro l a h K' := Ev.mono k fun _ hp => hq _ _ hp
theorem Cl.mono {f : FuncId} {args : List AVal} {h : AHeap} {K K' : AVal → AHeap → Prop} (k : Cl fns summ f args h K) (hq : ∀ v h, K v h → K' v h) : Cl fns summ f args h K' := Ev.mono k fun _ hp => hq _ _ hp
theorem Cv.mono {f : AVal} {args : List AVal} {h : AHeap} {K K' : AVal → AHeap → Prop} (k : Cv fns summ f args h K) (hq : ∀ v h, K v h → K' v h) : Cv fns summ f args h K' := Ev.mono k fun _ hp => hq _ _ hp
theorem Lv.mono {ds : List ADef} {h : AHeap} {K K' : AHeap → Prop} (k : Lv fns summ ds h K) (hq : ∀ h, K h → K' h) : Lv fns summ ds h K' := Ev.mono k hq

/-! ### Code -/
theorem zAL {a : AAct} {h : AHeap} {Q : AExit → AAct → AHeap → Prop} (k : Q .normal a h) : Cd fns summ ro .skip a h Q := ev_const k
theorem zAG {a : AAct} {h : AHeap} {Q : AExit → AAct → AHeap → Prop} (k : Q .ret a h) : Cd fns summ ro .ret a h Q := ev_const k
theorem cd_exit {id : Nat} {a : AAct} {h : AHeap} {Q : AExit → AAct → AHeap → Prop} (k : Q (.exit id) a h) : Cd fns summ ro (.exit id) a h Q := ev_const k
theorem zAD {l : List Step} {a : AAct} {h : AHeap} {Q : AExit → AAct → AHeap → Prop} (k : St fns summ ro l a h (Q .normal)) : Cd fns summ ro (.ops l) a h Q := by
  refine Ev.bind (fun n m hnm => stepsA_le (run_le fns summ hnm) ro l a h) (Ev.mono k fun p hp => ev_const hp)
theorem cd_draw {l : List DStep} {a : AAct} {h : AHeap} {Q : AExit → AAct → AHeap → Prop} (k : Dr fns summ ro l [] a h (Q .normal)) : Cd fns summ ro (.draw l) a h Q := by
  refine Ev.bind (fun n m hnm => drawA_le (run_le fns summ hnm) ro l [] a h) (Ev.mono k fun p hp => ev_const hp)
theorem zAC {x y : ACode} {a : AAct} {h : AHeap} {Q : AExit → AAct → AHeap → Prop} (k : Cd fns summ ro x a h (nxt (fun a h => Cd fns summ ro y a h Q) Q)) : Cd fns summ ro (.seq x y) a h Q := by
  refine Ev.bind (fun n m hnm => codeA_le (run_le fns summ hnm) ro x a h) (Ev.mono k fun p hp => ?_)
  obtain ⟨e, a1, h1⟩ := p
  cases e
  · exact hp
  · exact ev_const hp
  · exact ev_const hp
theorem cd_cond {c : AOpd} {x y : ACode} {a : AAct} {h : AHeap} {b : Bool} {Q : AExit → AAct → AHeap → Prop} (hc : ev a c = some (.bool b)) (h1 : b = true → Cd fns summ ro x a h Q) (h2 : b = false → Cd fns summ ro y a h Q) : Cd fns summ ro (.cond c x y) a h Q := by
  cases b with
  | true => have := h1 rfl; unfold Cd CodeW Ev at *; simpa only [codeA, hc] using this
  | false => have := h2 rfl; unfold Cd CodeW Ev at *; simpa only [codeA, hc] using this
theorem zAF {c : AOpd} {x y : ACode} {a : AAct} {h : AHeap} {Q : AExit → AAct → AHeap → Prop} (hc : ev a c = some (.bool true)) (h1 : Cd fns summ ro x a h Q) : Cd fns summ ro (.cond c x y) a h Q := cd_cond hc (fun _ => h1) (fun h => by cases h)
theorem zAI {c : AOpd} {x y : ACode} {a : AAct} {h : AHeap} {Q : AExit → AAct → AHeap → Prop} (hc : ev a c = some (.bool false)) (h1 : Cd fns summ ro y a h Q) : Cd fns summ ro (.cond c x y) a h Q := cd_cond hc (fun h => by cases h) (fun _ => h1)
theorem cd_block {id : Nat} {c : ACode} {a : AAct} {h : AHeap} {Q : AExit → AAct → AHeap → Prop} (k : Cd fns summ ro c a h (blk id Q)) : Cd fns summ ro (.block id c) a h Q := by
  refine Ev.bind (fun n m hnm => codeA_le (run_le fns summ hnm) ro c a h) (Ev.mono k fun p hp => ev_const ?_)
  obtain ⟨e, a1, h1⟩ := p
  cases e with
  | normal => exact hp
  | ret => exact hp
  | exit i =>
    simp only [blk] at hp
    by_cases hi : i = id
    · rw [if_pos hi] at hp
      have : Nat.beq i id = true := by rw [hi]; exact Nat.beq_refl id
      simp only [this]
      exact hp
    · rw [if_neg hi] at hp
      have : Nat.beq i id = false := by
        cases e : Nat.beq i id
        · rfl
        · exact absurd (Nat.eq_of_beq_eq_true e) hi
      simp only [this]
      exact hp
theorem cd_loop1 {c : ACode} {a : AAct} {h : AHeap} {Q : AExit → AAct → AHeap → Prop} (k : Cd fns summ ro c a h (nxt (fun a h => Cd fns summ ro (.loop c) a h Q) Q)) : Cd fns summ ro (.loop c) a h Q := by
  refine Ev.bind (fun n m hnm => codeA_le (run_le fns summ hnm) ro c a h) (Ev.mono k fun p hp => ?_)
  obtain ⟨e, a1, h1⟩ := p
  cases e
  · exact ev_shift hp
  · exact ev_const hp
  · exact ev_const hp
/-- A loop, by what is left to do. -/
theorem cd_loop {c : ACode} {Q : AExit → AAct → AHeap → Prop} (I : Nat → AAct → AHeap → Prop) (step : ∀ n a h, I n a h → Cd fns summ ro c a h (nxt (fun a h => ∃ m, m < n ∧ I m a h) Q)) :
    ∀ {n : Nat} {a : AAct} {h : AHeap}, I n a h → Cd fns summ ro (.loop c) a h Q := by
  intro n
  induction n using Nat.strongRecOn with
  | _ n ih =>
    intro a h hi
    refine cd_loop1 ((step n a h hi).mono fun e a1 h1 hq => ?_)
    cases e with
    | normal => obtain ⟨m, hm, hI⟩ := hq; exact ih m hm hI
    | ret => exact hq
    | exit i => exact hq

/-! ### Steps -/
theorem zAB {a : AAct} {h : AHeap} {K : AAct → AHeap → Prop} (k : K a h) : St fns summ ro [] a h K := ev_const k
theorem st_cons {s : Step} {l : List Step} {a : AAct} {h : AHeap} {K : AAct → AHeap → Prop} (k : StepW fns summ ro s a h fun p => St fns summ ro l p.1 p.2 K) : St fns summ ro (s :: l) a h K :=
  Ev.bind (fun n m hnm => stepA_le (run_le fns summ hnm) ro a h s) k
theorem st_q {d : Option Tmp} {op : QOp} {l : List Step} {a : AAct} {h : AHeap} {K : AAct → AHeap → Prop} {v : AVal} {b : Option Nat} (hv : qA a h op = some (v, b)) (k : St fns summ ro l (putA a d v) h K) :
    St fns summ ro (⟨d, none, .q op⟩ :: l) a h K := by
  refine st_cons ?_
  unfold StepW
  simp only [stepA, wantA, hv]
  exact ev_const k
theorem st_qg {d : Option Tmp} {t : Tmp} {w : Bool} {op : QOp} {l : List Step} {a : AAct} {h : AHeap} {K : AAct → AHeap → Prop} {c : AVal} (hg : a.tmps.get t = some c)
    (k1 : c = .bool w → ∃ v b, qA a h op = some (v, b) ∧ St fns summ ro l (putA a d v) h K) (k2 : (c = .bool (!w) ∨ c = .tuple []) → St fns summ ro l (putA a d (.tuple [])) h K) (k3 : c = .bool w ∨ c = .bool (!w) ∨ c = .tuple []) :
    St fns summ ro (⟨d, some (t, w), .q op⟩ :: l) a h K := by
  refine st_cons ?_
  unfold StepW
  rcases k3 with rfl | hc | hc
  · obtain ⟨v, b, hv, k⟩ := k1 rfl
    simp only [stepA, wantA, hg, hv, beq_self_eq_true]
    exact ev_const k
  · have k := k2 (.inl hc)
    subst hc
    have : ((!w) == w) = false := by cases w <;> rfl
    simp only [stepA, wantA, hg, this]
    exact ev_const k
  · have k := k2 (.inr hc)
    subst hc
    simp only [stepA, wantA, hg]
    exact ev_const k
theorem st_e {d : Option Tmp} {op : EOp} {l : List Step} {a : AAct} {h : AHeap} {K : AAct → AHeap → Prop} (k : Ex fns summ ro a h d op fun a h => St fns summ ro l a h K) :
    St fns summ ro (⟨d, none, .e op⟩ :: l) a h K := by
  refine st_cons ?_
  unfold StepW
  simp only [stepA, wantA]
  exact k
theorem st_eg {d : Option Tmp} {t : Tmp} {w : Bool} {op : EOp} {l : List Step} {a : AAct} {h : AHeap} {K : AAct → AHeap → Prop} {c : AVal} (hg : a.tmps.get t = some c)
    (k1 : c = .bool w → Ex fns summ ro a h d op fun a h => St fns summ ro l a h K) (k2 : (c = .bool (!w) ∨ c = .tuple []) → St fns summ ro l (putA a d (.tuple [])) h K) (k3 : c = .bool w ∨ c = .bool (!w) ∨ c = .tuple []) :
    St fns summ ro (⟨d, some (t, w), .e op⟩ :: l) a h K := by
  refine st_cons ?_
  unfold StepW
  rcases k3 with rfl | hc | hc
  · have k := k1 rfl
    simp only [stepA, wantA, hg, beq_self_eq_true]
    exact k
  · have k := k2 (.inl hc)
    subst hc
    have : ((!w) == w) = false := by cases w <;> rfl
    simp only [stepA, wantA, hg, this]
    exact ev_const k
  · have k := k2 (.inr hc)
    subst hc
    simp only [stepA, wantA, hg]
    exact ev_const k

/-! ### Drawn regions -/
theorem dr_nil {hs : List Held} {a : AAct} {h : AHeap} {K : AAct → AHeap → Prop} (k : K a h) : Dr fns summ ro [] hs a h K := ev_const k
theorem dr_q {i p : Nat} {d : Option Tmp} {op : QOp} {l : List DStep} {hs : List Held} {a : AAct} {h : AHeap} {K : AAct → AHeap → Prop} {v : AVal} (hv : qA a h op = some (v, none)) (k : Dr fns summ ro l hs (putA a d v) h K) :
    Dr fns summ ro (⟨i, p, ⟨d, none, .q op⟩⟩ :: l) hs a h K := by
  unfold Dr DrawW at *
  simp only [drawA, wantA, hv]
  exact k
theorem dr_ql {i p : Nat} {d : Option Tmp} {op : QOp} {l : List DStep} {hs : List Held} {a : AAct} {h : AHeap} {K : AAct → AHeap → Prop} {v : AVal} {id ver : Nat} {o : AObj} (hv : qA a h op = some (v, some id)) (ho : h.objs.get id = some (ver, o))
    (k : Dr fns summ ro l ({ i := i, id, ver } :: hs) (putA a d v) h K) :
    Dr fns summ ro (⟨i, p, ⟨d, none, .q op⟩⟩ :: l) hs a h K := by
  unfold Dr DrawW at *
  simp only [drawA, wantA, hv, ho]
  exact k
theorem dr_e {i p : Nat} {d : Option Tmp} {op : EOp} {l : List DStep} {hs : List Held} {a : AAct} {h : AHeap} {K : AAct → AHeap → Prop} (k : Ex fns summ ro a h d op fun a h => heldOk h p hs = true ∧ Dr fns summ ro l hs a h K) :
    Dr fns summ ro (⟨i, p, ⟨d, none, .e op⟩⟩ :: l) hs a h K := by
  unfold Dr DrawW at *
  simp only [drawA, wantA]
  refine Ev.bind (fun n m hnm => eA_le (run_le fns summ hnm) ro a h d op) (Ev.mono k fun q hq => ?_)
  simp only [hq.1]
  exact hq.2
theorem dr_g {s : DStep} {t : Tmp} {w : Bool} {l : List DStep} {hs : List Held} {a : AAct} {h : AHeap} {K : AAct → AHeap → Prop} {c : AVal} (hgd : s.st.guard = some (t, w)) (hg : a.tmps.get t = some c)
    (k1 : c = .bool w → Dr fns summ ro ({ s with st := { s.st with guard := none } } :: l) hs a h K) (k2 : (c = .bool (!w) ∨ c = .tuple []) → Dr fns summ ro l hs (putA a s.st.dst (.tuple [])) h K) (k3 : c = .bool w ∨ c = .bool (!w) ∨ c = .tuple []) :
    Dr fns summ ro (s :: l) hs a h K := by
  unfold Dr DrawW at *
  rcases k3 with rfl | hc | hc
  · have k := k1 rfl
    simp only [drawA, wantA] at k
    simp only [drawA, hgd, wantA, hg, beq_self_eq_true]
    exact k
  · have k := k2 (.inl hc)
    subst hc
    have : ((!w) == w) = false := by cases w <;> rfl
    simp only [drawA, hgd, wantA, hg, this]
    exact k
  · have k := k2 (.inr hc)
    subst hc
    simp only [drawA, hgd, wantA, hg]
    exact k

/-! ### Operations with effects -/
theorem ex_turn {op : EOp} {dst : Option Tmp} {a : AAct} {h : AHeap} {K : AAct → AHeap → Prop} (h1 : ∀ f xs, op ≠ .call f xs) (h2 : ∀ f xs, op ≠ .defer f xs) {v : AVal} {h' : AHeap} (ht : turnA a h op = .ret (v, h')) (k : K (putA a dst v) h') : Ex fns summ ro a h dst op K := by
  unfold Ex EW
  cases op <;> first | exact absurd rfl (h1 _ _) | exact absurd rfl (h2 _ _) | (simp only [eA, ht, D.bind_ret]; exact ev_const k)
theorem ex_turns {op : EOp} {dst : Option Tmp} {a : AAct} {h : AHeap} {K : AAct → AHeap → Prop} (h1 : ∀ f xs, op ≠ .call f xs) (h2 : ∀ f xs, op ≠ .defer f xs) (ht : (turnA a h op).sat fun p => K (putA a dst p.1) p.2) : Ex fns summ ro a h dst op K := by
  unfold Ex EW
  cases op <;> first | exact absurd rfl (h1 _ _) | exact absurd rfl (h2 _ _) | (simp only [eA]; exact ev_const ((D.sat_bind _ _ _).2 ht))
theorem ex_call {f : AOpd} {xs : List AOpd} {dst : Option Tmp} {a : AAct} {h : AHeap} {K : AAct → AHeap → Prop} {fv : AVal} {vs : List AVal} (hf : ev a f = some fv) (hv : evs a xs = some vs) (k : Cv fns summ fv vs h fun v h => K (putA a dst v) h) :
    Ex fns summ ro a h dst (.call f xs) K := by
  unfold Ex EW
  simp only [eA, hf, hv]
  exact Ev.bind (fun n m hnm => callVA_le (run_le fns summ hnm) _ _ _) (Ev.mono k fun p hp => ev_const hp)
theorem cv_func {g : FuncId} {first captured args : List AVal} {h : AHeap} {K : AVal → AHeap → Prop} (k : Cl fns summ g (first ++ args ++ captured) h K) : Cv fns summ (.func g first captured) args h K := k
theorem ex_defer {f : AOpd} {xs : List AOpd} {dst : Option Tmp} {a : AAct} {h : AHeap} {K : AAct → AHeap → Prop} {g : FuncId} {first captured vs : List AVal} (hf : ev a f = some (.func g first captured)) (hv : evs a xs = some vs)
    (k : K (putA { a with defers := .fn g (first ++ vs ++ captured) :: a.defers } dst (.tuple [])) h) : Ex fns summ none a h dst (.defer f xs) K := by
  unfold Ex EW
  simp only [eA, hf, hv]
  exact ev_const k

/-! ### Calls -/
theorem cl_summ {f : FuncId} {args : List AVal} {h : AHeap} {d : D (AVal × AHeap)} {K : AVal → AHeap → Prop} (hs : summ f args h = some d) (k : d.sat fun p => K p.1 p.2) : Cl fns summ f args h K := by
  refine ev_shift ?_
  unfold Ev
  simp only [run, callA, hs]
  exact ev_const k
theorem lv_nil {h : AHeap} {K : AHeap → Prop} (k : K h) : Lv fns summ [] h K := ev_const k
theorem lv_collected {r ver : Nat} {ds : List ADef} {h : AHeap} {K : AHeap → Prop} (hr : h.objs.get r = some (ver, .dfr false)) (k : Lv fns summ ds (putObjA h r (.dfr true)) K) : Lv fns summ (.collected r :: ds) h K := by
  unfold Lv at *
  simp only [leaveA, hr]
  exact k
/-- How a function that was called ends. -/
def fin (fns : FuncId → Option AFunc) (summ : FuncId → List AVal → AHeap → Option (D (AVal × AHeap))) (rs : List ARes) (K : AVal → AHeap → Prop) : AExit → AAct → AHeap → Prop
  | .exit _, _, _ => False
  | _, a, h => Lv fns summ a.defers h fun h => ∃ v, resultsA a h rs = some v ∧ K v h
theorem cl_enter {f : FuncId} {args : List AVal} {h : AHeap} {K : AVal → AHeap → Prop} {fn : AFunc} {t : T AVal} (hs : summ f args h = none) (hf : fns f = some fn) (hr : fn.recovers = none) (ht : setParams .leaf (List.range args.length) args = some t)
    (k : Cd fns summ none fn.body { tmps := t, defers := [] } h (fin fns summ fn.results K)) : Cl fns summ f args h K := by
  refine ev_shift (ev_shift ?_)
  simp only [run, callA, hs, hf, hr, ht]
  refine Ev.bind (fun n m hnm => codeA_le (run_le fns summ hnm) none fn.body _ h) (Ev.mono k fun p hp => ?_)
  obtain ⟨e, a1, h1⟩ := p
  have go : ∀ {h1 : AHeap}, (Lv fns summ a1.defers h1 fun h => ∃ v, resultsA a1 h fn.results = some v ∧ K v h) → Ev (fun n => (leaveA fns (run fns summ (n + 1)) a1.defers h1).bind fun h => (match resultsA a1 h fn.results with | some v => .ret (v, h) | none => .fail : D (AVal × AHeap))) fun p => K p.1 p.2 := by
    intro h1 hl
    refine Ev.bind (fun n m hnm => leaveA_le (run_le fns summ (by omega)) _ _) ?_
    obtain ⟨n, hn⟩ := hl
    refine ⟨n, fun m hm => D.sat_mono (hn (m + 1) (by omega)) fun h2 hq => ?_⟩
    obtain ⟨v, hv, hk⟩ := hq
    simp only [hv]
    exact ev_const hk
  cases e with
  | normal => exact go hp
  | ret => exact go hp
  | exit i => exact hp.elim
theorem zAE {rs : List ARes} {K : AVal → AHeap → Prop} {a : AAct} {h : AHeap} {v : AVal} (hd : a.defers = []) (hv : resultsA a h rs = some v) (k : K v h) : fin fns summ rs K .ret a h := by
  show Lv fns summ a.defers h _
  rw [hd]
  exact lv_nil ⟨v, hv, k⟩
theorem fin_normal {rs : List ARes} {K : AVal → AHeap → Prop} {a : AAct} {h : AHeap} {v : AVal} (hd : a.defers = []) (hv : resultsA a h rs = some v) (k : K v h) : fin fns summ rs K .normal a h := by
  show Lv fns summ a.defers h _
  rw [hd]
  exact lv_nil ⟨v, hv, k⟩
end
end Go.Ab
end
section
/-
  Memory that grows, and how rows lie in it; rules for loops that count, and for ranges over functions.
-/
namespace Go.Ab

/-! ### Environments -/
theorem ev_put (a : AAct) (d t : Nat) (v : AVal) : ev (putA a (some d) v) (.tmp t) = if t = d then some v else ev a (.tmp t) := by simp only [ev, putA, T.get_set]
theorem ev_none (a : AAct) (v : AVal) (x : AOpd) : ev (putA a none v) x = ev a x := rfl
theorem ev_val (a : AAct) (v : AVal) : ev a (.val v) = some v := rfl
theorem ev_glob (a : AAct) (g : Nat) : ev a (.glob g) = some (.ptr (some (g, 0))) := rfl
theorem ev_start (t : T AVal) (ds : List ADef) (i k : Nat) (v : AVal) : ev { tmps := t.set k (some v), defers := ds } (.tmp i) = if i = k then some v else ev { tmps := t, defers := ds } (.tmp i) := by simp only [ev, T.get_set]
theorem tmps_put (a : AAct) (d t : Nat) (v : AVal) : (putA a (some d) v).tmps.get t = if t = d then some v else a.tmps.get t := by simp only [putA, T.get_set]
theorem tmps_ev (a : AAct) (t : Nat) : a.tmps.get t = ev a (.tmp t) := rfl
theorem tmps_none (a : AAct) (v : AVal) : (putA a none v).tmps = a.tmps := rfl
theorem zAV (a : AAct) (d : Option Nat) (v : AVal) : (putA a d v).defers = a.defers := by cases d <;> rfl

/-! ### Memory -/
theorem new_next (h : AHeap) (o : AObj) : (newA h o).next = h.next + 1 := rfl
theorem put_next (h : AHeap) (id : Nat) (o : AObj) : (putObjA h id o).next = h.next + 1 := rfl
theorem drop_next (h : AHeap) (id : Nat) : (dropA h id).next = h.next := rfl
theorem new_get (h : AHeap) (o : AObj) (b : Nat) : (newA h o).objs.get b = if b = h.next then some (h.next, o) else h.objs.get b := by simp only [newA, T.get_set]
theorem put_get (h : AHeap) (id : Nat) (o : AObj) (b : Nat) : (putObjA h id o).objs.get b = if b = id then some (h.next, o) else h.objs.get b := by simp only [putObjA, T.get_set]
theorem drop_get (h : AHeap) (id : Nat) (b : Nat) : (dropA h id).objs.get b = if b = id then none else h.objs.get b := by simp only [dropA, T.get_set]
theorem zAQ (h : AHeap) (o : AObj) : (newA h o).objs.get h.next = some (h.next, o) := by rw [new_get, if_pos rfl]
theorem new_get_ne (h : AHeap) (o : AObj) {b : Nat} (hb : b ≠ h.next) : (newA h o).objs.get b = h.objs.get b := by rw [new_get, if_neg hb]
theorem zAR (h : AHeap) (id : Nat) (o : AObj) : (putObjA h id o).objs.get id = some (h.next, o) := by rw [put_get, if_pos rfl]
theorem put_get_ne (h : AHeap) (id : Nat) (o : AObj) {b : Nat} (hb : b ≠ id) : (putObjA h id o).objs.get b = h.objs.get b := by rw [put_get, if_neg hb]
theorem drop_get_ne (h : AHeap) (id : Nat) {b : Nat} (hb : b ≠ id) : (dropA h id).objs.get b = h.objs.get b := by rw [drop_get, if_neg hb]

/-- Nothing lies where nothing was made. -/
def WF (h : AHeap) : Prop := ∀ b, h.next ≤ b → h.objs.get b = none
/-- What was there stays as it was. -/
structure Grow (h h' : AHeap) : Prop where
  wf : WF h'
  next : h.next ≤ h'.next
  keep : ∀ b p, h.objs.get b = some p → h'.objs.get b = some p

theorem WF.lt {h : AHeap} (w : WF h) {b : Nat} {p : Nat × AObj} (hb : h.objs.get b = some p) : b < h.next := by
  rcases Nat.lt_or_ge b h.next with k | k
  · exact k
  · rw [w b k] at hb; cases hb
theorem Grow.refl {h : AHeap} (w : WF h) : Grow h h := ⟨w, Nat.le_refl _, fun _ _ k => k⟩
theorem Grow.trans {h h' h'' : AHeap} (a : Grow h h') (b : Grow h' h'') : Grow h h'' := ⟨b.wf, Nat.le_trans a.next b.next, fun x p k => b.keep x p (a.keep x p k)⟩
theorem Grow.new {h0 h : AHeap} (a : Grow h0 h) (o : AObj) : Grow h0 (newA h o) := by
  refine ⟨fun b hb => ?_, Nat.le_succ_of_le a.next, fun b p k => ?_⟩
  · rw [new_get, if_neg (by rw [new_next] at hb; omega)]; exact a.wf b (by rw [new_next] at hb; omega)
  · have := a.wf.lt (a.keep b p k)
    rw [new_get, if_neg (by omega)]; exact a.keep b p k
theorem Grow.put {h0 h : AHeap} (a : Grow h0 h) (w0 : WF h0) {id : Nat} (o : AObj) (hi : h0.next ≤ id) (hl : id < h.next) : Grow h0 (putObjA h id o) := by
  refine ⟨fun b hb => ?_, Nat.le_succ_of_le a.next, fun b p k => ?_⟩
  · rw [put_get, if_neg (by rw [put_next] at hb; omega)]; exact a.wf b (by rw [put_next] at hb; omega)
  · have := w0.lt k
    rw [put_get, if_neg (by omega)]; exact a.keep b p k
theorem Grow.drop {h0 h : AHeap} (a : Grow h0 h) (w0 : WF h0) {id : Nat} (hi : h0.next ≤ id) : Grow h0 (dropA h id) := by
  refine ⟨fun b hb => ?_, a.next, fun b p k => ?_⟩
  · rw [drop_get]; split
    · rfl
    · exact a.wf b hb
  · have := w0.lt k
    rw [drop_get, if_neg (by omega)]; exact a.keep b p k

/-! ### Rows -/
/-- How many elements a slice has. -/
def lenO : AVal → Option Nat
  | .slice _ n => some n
  | .slice0 => some 0
  | .sliceE => some 0
  | _ => none
/-- Where an element lies. -/
def slA (v : AVal) (sz i : Nat) : Option (Nat × Nat) :=
  match v with
  | .slice (some (b, o)) n => if i < n then some (b, o + i * sz) else none
  | _ => none
/-- A slice's elements, each of so many cells. -/
def SlAt (h : AHeap) (sz : Nat) (v : AVal) (xs : List (List AVal)) : Prop :=
  lenO v = some xs.length ∧ ∀ i x, xs[i]? = some x → x.length = sz ∧ ∃ b o ver ro e vs, slA v sz i = some (b, o) ∧ h.objs.get b = some (ver, .cells ro e vs) ∧ (vs.drop o).take sz = x

theorem SlAt.mono {h h' : AHeap} (g : Grow h h') {sz : Nat} {v : AVal} {xs : List (List AVal)} (k : SlAt h sz v xs) : SlAt h' sz v xs :=
  ⟨k.1, fun i x hx => by obtain ⟨h1, b, o, ver, ro, e, vs, h2, h3, h4⟩ := k.2 i x hx; exact ⟨h1, b, o, ver, ro, e, vs, h2, g.keep _ _ h3, h4⟩⟩

theorem one_of_take {vs : List AVal} {o : Nat} {x : AVal} (h : (vs.drop o).take 1 = [x]) : vs[o]? = some x := by
  have := congrArg (fun l => l[0]?) h
  simpa using this
theorem part_of_take {vs : List AVal} {o n : Nat} {x : List AVal} (h : (vs.drop o).take n = x) (hl : x.length = n) (hn : 0 < n) : partA (some n) vs o = some (.agg x) := by
  have h1 : x.length = min n (vs.length - o) := by rw [← h]; simp
  have : o + n ≤ vs.length := by omega
  simp only [partA, if_pos this, h]

/-! ### Quiet operations, one by one -/
section
variable (a : AAct) (h : AHeap)
theorem qA_mov (x : AOpd) : qA a h (.mov x) = (match ev a x with | some v => some (v, none) | none => none) := rfl
theorem qA_pick (c x y : AOpd) : qA a h (.pick c x y) = (match ev a c with
    | some (.bool true) => (match ev a x with | some v => some (v, none) | none => none)
    | some (.bool false) => (match ev a y with | some v => some (v, none) | none => none)
    | _ => none) := rfl
theorem qA_build (z : List AVal) (ps : List (Nat × Nat × AOpd)) : qA a h (.build z ps) = (match fillA a z ps with | some cs => some (.agg cs, none) | none => none) := rfl
theorem qA_nilCheck (x : AOpd) : qA a h (.nilCheck x) = (match ev a x with | some (.ptr (some p)) => some (.ptr (some p), none) | _ => none) := rfl
theorem qA_num (op : BinOp) (x y : AOpd) : qA a h (.num op x y) = (match ev a x, ev a y with
    | some u, some v => (match numA op u v with | some r => some (r, none) | none => none)
    | _, _ => none) := rfl
theorem qA_eql (neg : Bool) (k : EqK) (x y : AOpd) : qA a h (.eql neg k x y) = (match ev a x, ev a y with
    | some u, some v => (match eqA k u v with | some b => some (.bool (xor neg b), none) | none => none)
    | _, _ => none) := rfl
theorem qA_not (x : AOpd) : qA a h (.not x) = (match ev a x with | some (.bool b) => some (.bool (!b), none) | _ => none) := rfl
theorem qA_neg (x : AOpd) : qA a h (.neg x) = (match ev a x with | some (.int k n) => some (.int k (k.wrap (0 - n)), none) | _ => none) := rfl
theorem qA_conv (k : IntKind) (x : AOpd) : qA a h (.conv k x) = (match ev a x with | some (.int _ n) => some (.int k (k.wrap n), none) | _ => none) := rfl
theorem qA_same (x : AOpd) : qA a h (.same x) = (match ev a x with | some (.str s) => some (.str s, none) | _ => none) := rfl
theorem qA_iface (t : TypeId) (x : AOpd) : qA a h (.iface t x) = (match ev a x with | some v => some (.iface t v, none) | none => none) := rfl
theorem qA_func (f : FuncId) (l m : List AOpd) : qA a h (.func f l m) = (match evs a l, evs a m with
    | some l, some m => some (.func f l m, none)
    | _, _ => none) := rfl
theorem qA_field (off : Nat) (size : Option Nat) (x : AOpd) : qA a h (.field off size x) = (match ev a x with
    | some (.agg cs) => (match partA size cs off with | some v => some (v, none) | none => none)
    | _ => none) := rfl
theorem qA_fieldA (off : Nat) (x : AOpd) : qA a h (.fieldA off x) = (match ev a x with
    | some (.ptr (some (b, o))) => some (.ptr (some (b, o + off)), none)
    | _ => none) := rfl
theorem qA_indexA (size : Nat) (x i : AOpd) : qA a h (.indexA size x i) = (match ev a x, ev a i with
    | some v, some w => (match asNat w with
      | some i => (match slA v size i with | some p => some (.ptr (some p), none) | none => none)
      | none => none)
    | _, _ => none) := by
  simp only [qA]
  cases ev a x with
  | none => rfl
  | some v =>
    cases ev a i with
    | none => cases v with
      | slice p n => cases p <;> rfl
      | _ => rfl
    | some w =>
      cases hw : asNat w with
      | none => cases v with
        | slice p n => cases p <;> simp [hw]
        | _ => simp only [hw]
      | some j => cases v with
        | slice p n =>
          cases p with
          | none => simp only [hw, slA]
          | some p =>
            obtain ⟨b, o⟩ := p
            simp only [hw, slA]
            by_cases hj : j < n
            · simp only [if_pos hj]
            · simp only [if_neg hj]
        | _ => simp only [hw, slA]
theorem qA_indexR (n size : Nat) (x i : AOpd) : qA a h (.indexR n size x i) = (match ev a x, ev a i with
    | some (.ptr (some (b, o))), some v => (match asNat v with
      | some i => if i < n then some (.ptr (some (b, o + i * size)), none) else none
      | none => none)
    | _, _ => none) := rfl
theorem qA_indexS (x i : AOpd) : qA a h (.indexS x i) = (match ev a x, ev a i with
    | some (.str s), some v => (match asNat v with
      | some i => (match s[i]? with | some c => some (.int .u8 (Int.ofNat c), none) | none => none)
      | none => none)
    | _, _ => none) := rfl
theorem qA_indexV (n size : Nat) (ag : Bool) (x i : AOpd) : qA a h (.indexV n size ag x i) = (match ev a x, ev a i with
    | some (.agg cs), some v => (match asNat v with
      | some i => if i < n then (match partA (if ag then some size else none) cs (i * size) with | some v => some (v, none) | none => none) else none
      | none => none)
    | _, _ => none) := rfl
theorem qA_extract (x : AOpd) (i : Nat) : qA a h (.extract x i) = (match ev a x with
    | some (.tuple vs) => (match vs[i]? with | some v => some (v, none) | none => none)
    | _ => none) := rfl
theorem qA_lenS (x : AOpd) : qA a h (.lenS x) = (match ev a x with | some (.str s) => some (.int .i64 (Int.ofNat s.length), none) | _ => none) := rfl
theorem qA_lenV (x : AOpd) : qA a h (.lenV x) = (match ev a x with
    | some v => (match lenO v with | some n => some (.int .i64 (Int.ofNat n), none) | none => none)
    | none => none) := by
  simp only [qA]
  cases ev a x with
  | none => rfl
  | some v => cases v <;> rfl
theorem qA_lenM (x : AOpd) : qA a h (.lenM x) = (match ev a x with
    | some (.map none) => some (.int .i64 0, none)
    | some (.map (some r)) => (match h.objs.get r with
      | some (_, .map es _) => some (.int .i64 (Int.ofNat es.length), some r)
      | _ => none)
    | _ => none) := rfl
theorem qA_max (x y : AOpd) : qA a h (.max x y) = (match ev a x, ev a y with
    | some (.int k x), some (.int _ y) => some (.int k (if y > x then y else x), none)
    | _, _ => none) := rfl
theorem qA_min (x y : AOpd) : qA a h (.min x y) = (match ev a x, ev a y with
    | some (.int k x), some (.int _ y) => some (.int k (if y < x then y else x), none)
    | _, _ => none) := rfl
theorem qA_load (size : Option Nat) (x : AOpd) : qA a h (.load size x) = (match ev a x with
    | some (.ptr (some (b, o))) => (match h.objs.get b with
      | some (_, .cells _ _ vs) => (match partA size vs o with | some v => some (v, some b) | none => none)
      | _ => none)
    | _ => none) := rfl
theorem qA_lookStr (z : AVal) (ok : Bool) (m x : AOpd) : qA a h (.lookup .str z ok m x) = (match ev a m, ev a x with
      | some m, some x => lookA h .str z ok m x
      | _, _ => none) := rfl
theorem qA_lookInt (z : AVal) (ok : Bool) (m x : AOpd) : qA a h (.lookup .int z ok m x) = (match ev a m, ev a x with
      | some m, some x => lookA h .int z ok m x
      | _, _ => none) := rfl
theorem qA_lookAgg (n : Nat) (z : AVal) (ok : Bool) (m x : AOpd) : qA a h (.lookup (.agg n) z ok m x) = (match ev a m, ev a x with
      | some m, some x => lookA h (.agg n) z ok m x
      | _, _ => none) := rfl
theorem qA_slice (elem : TypeId) (size : Nat) (x : AOpd) (lo hi : Option AOpd) (h : AHeap) : qA a h (.slice elem size x lo hi) = (match ev a x with
    | some (.slice none n) => (match boundA a hi n n with
      | some h => (match boundA a lo 0 h with | some _ => some (.slice none 0, none) | none => none)
      | none => none)
    | some (.slice (some (b, o)) n) => (match boundA a hi n n with
      | some t => (match boundA a lo 0 t with
        | some 0 => some (.slice (some (b, o)) t, none)
        | some l => if l < n then (match h.objs.get b with
            | some (_, .cells _ e _) => if e = elem then some (.slice (some (b, o + l * size)) (t - l), none) else none
            | _ => none)
          else some (.sliceE, none)
        | none => none)
      | none => none)
    | _ => none) := rfl
theorem qA_slice00 (x : AOpd) : qA a h (.slice00 x) = (match ev a x with
    | some (.slice none _) => some (.slice none 0, none)
    | some (.slice (some _) _) => some (.slice0, none)
    | some .slice0 => some (.slice0, none)
    | _ => none) := rfl
end

/-! ### Numbers, texts, nodes, graphs -/
def intC (k : Int) : List AVal := [.int .i64 k]
def strC (s : List Nat) : List AVal := [.str s]
def IntsAt (h : AHeap) (v : AVal) (l : List Int) : Prop := SlAt h 1 v (l.map intC)
def StrsAt (h : AHeap) (v : AVal) (l : List (List Nat)) : Prop := SlAt h 1 v (l.map strC)
structure Node where
  kind : Int
  name : List Nat
  args : List Int
  labels : List (List Nat)
  isOpen : Bool
  deriving DecidableEq
structure Graph where
  nodes : List Node
  root : Int
  deriving DecidableEq
def NodeAt (h : AHeap) (c : List AVal) (n : Node) : Prop := ∃ av lv, c = [.int .i64 n.kind, .str n.name, av, lv, .bool n.isOpen] ∧ IntsAt h av n.args ∧ StrsAt h lv n.labels
def NodesAt (h : AHeap) (v : AVal) (l : List Node) : Prop := ∃ cs : List (List AVal), SlAt h 5 v cs ∧ cs.length = l.length ∧ ∀ (i : Nat) (n : Node) (c : List AVal), l[i]? = some n → cs[i]? = some c → NodeAt h c n
def GraphAt (h : AHeap) (v : AVal) (g : Graph) : Prop := ∃ nv, v = .agg [nv, .int .i64 g.root] ∧ NodesAt h nv g.nodes

section
variable {h h' : AHeap} (g : Grow h h')
include g
theorem IntsAt.mono {v : AVal} {l : List Int} (k : IntsAt h v l) : IntsAt h' v l := SlAt.mono g k
theorem StrsAt.mono {v : AVal} {l : List (List Nat)} (k : StrsAt h v l) : StrsAt h' v l := SlAt.mono g k
theorem NodeAt.mono {c : List AVal} {n : Node} (k : NodeAt h c n) : NodeAt h' c n := by obtain ⟨av, lv, h1, h2, h3⟩ := k; exact ⟨av, lv, h1, h2.mono g, h3.mono g⟩
theorem NodesAt.mono {v : AVal} {l : List Node} (k : NodesAt h v l) : NodesAt h' v l := by
  obtain ⟨cs, h1, h2, h3⟩ := k; exact ⟨cs, h1.mono g, h2, fun i n c a b => (h3 i n c a b).mono g⟩
theorem GraphAt.mono {v : AVal} {x : Graph} (k : GraphAt h v x) : GraphAt h' v x := by obtain ⟨nv, h1, h2⟩ := k; exact ⟨nv, h1, h2.mono g⟩
end
theorem IntsAt.len {h : AHeap} {v : AVal} {l : List Int} (k : IntsAt h v l) : lenO v = some l.length := by have := k.1; rwa [List.length_map] at this
theorem StrsAt.len {h : AHeap} {v : AVal} {l : List (List Nat)} (k : StrsAt h v l) : lenO v = some l.length := by have := k.1; rwa [List.length_map] at this
theorem NodesAt.len {h : AHeap} {v : AVal} {l : List Node} (k : NodesAt h v l) : lenO v = some l.length := by obtain ⟨cs, h1, h2, _⟩ := k; rw [← h2]; exact h1.1

/-- A number of a row is read. -/
theorem IntsAt.at {h : AHeap} {v : AVal} {l : List Int} (k : IntsAt h v l) {i : Nat} {c : Int} (hc : l[i]? = some c) :
    ∃ b o ver ro e vs, slA v 1 i = some (b, o) ∧ h.objs.get b = some (ver, .cells ro e vs) ∧ vs[o]? = some (.int .i64 c) := by
  obtain ⟨_, b, o, ver, ro, e, vs, h1, h2, h3⟩ := k.2 i (intC c) (by rw [List.getElem?_map, hc]; rfl)
  exact ⟨b, o, ver, ro, e, vs, h1, h2, one_of_take h3⟩
theorem StrsAt.at {h : AHeap} {v : AVal} {l : List (List Nat)} (k : StrsAt h v l) {i : Nat} {c : List Nat} (hc : l[i]? = some c) :
    ∃ b o ver ro e vs, slA v 1 i = some (b, o) ∧ h.objs.get b = some (ver, .cells ro e vs) ∧ vs[o]? = some (.str c) := by
  obtain ⟨_, b, o, ver, ro, e, vs, h1, h2, h3⟩ := k.2 i (strC c) (by rw [List.getElem?_map, hc]; rfl)
  exact ⟨b, o, ver, ro, e, vs, h1, h2, one_of_take h3⟩
theorem NodesAt.at {h : AHeap} {v : AVal} {l : List Node} (k : NodesAt h v l) {i : Nat} {n : Node} (hc : l[i]? = some n) :
    ∃ b o ver ro e vs av lv, slA v 5 i = some (b, o) ∧ h.objs.get b = some (ver, .cells ro e vs) ∧ o + 5 ≤ vs.length ∧ (vs.drop o).take 5 = [.int .i64 n.kind, .str n.name, av, lv, .bool n.isOpen] ∧
      vs[o]? = some (.int .i64 n.kind) ∧ vs[o + 1]? = some (.str n.name) ∧ vs[o + 2]? = some av ∧ vs[o + 3]? = some lv ∧ vs[o + 4]? = some (.bool n.isOpen) ∧ IntsAt h av n.args ∧ StrsAt h lv n.labels := by
  obtain ⟨cs, h1, h2, h3⟩ := k
  have hi : i < cs.length := by rw [h2]; exact (List.getElem?_eq_some_iff.1 hc).1
  have hcs : cs[i]? = some cs[i] := List.getElem?_eq_getElem hi
  obtain ⟨av, lv, h4, h5, h6⟩ := h3 i n _ hc hcs
  obtain ⟨k4, b, o, ver, ro, e, vs, k1, k2, k3⟩ := h1.2 i _ hcs
  rw [h4] at k3
  have hl : o + 5 ≤ vs.length := by have := congrArg List.length k3; simp at this; omega
  have hg : ∀ j : Nat, j < 5 → vs[o + j]? = ([.int .i64 n.kind, .str n.name, av, lv, .bool n.isOpen] : List AVal)[j]? := fun j hj => by
    rw [← k3, List.getElem?_take, if_pos hj, List.getElem?_drop]
  exact ⟨b, o, ver, ro, e, vs, av, lv, k1, k2, hl, k3, hg 0 (by decide), hg 1 (by decide), hg 2 (by decide), hg 3 (by decide), hg 4 (by decide), h5, h6⟩

/-! ### Loops that count -/
theorem wrap_small {n : Int} (h0 : -(2 ^ 62) ≤ n) (h1 : n < 2 ^ 62) : IntKind.i64.wrap n = n := by
  have hs : IntKind.i64.signed = true := rfl
  have hb : IntKind.i64.bits = 64 := rfl
  unfold IntKind.wrap
  simp only [hs, hb]
  have e63 : (2 : Int) ^ (64 - 1) = 9223372036854775808 := by decide
  have e64 : (2 : Int) ^ 64 = 18446744073709551616 := by decide
  rw [e63, e64]
  have h0' : -4611686018427387904 ≤ n := h0
  have h1' : n < 4611686018427387904 := h1
  rcases Int.lt_or_le n 0 with hn | hn
  · have : n % 18446744073709551616 = n + 18446744073709551616 := by omega
    rw [this]
    have : (decide (n + 18446744073709551616 ≥ 9223372036854775808)) = true := by rw [decide_eq_true_eq]; omega
    simp only [this, Bool.and_self, if_true]
    omega
  · have : n % 18446744073709551616 = n := by omega
    rw [this]
    have : (decide (n ≥ 9223372036854775808)) = false := by rw [decide_eq_false_iff_not]; omega
    simp only [this, Bool.and_false, Bool.false_eq_true, if_false]

section
variable {fns : FuncId → Option AFunc} {summ : FuncId → List AVal → AHeap → Option (D (AVal × AHeap))} {ro : Option Nat}

/-- A loop over numbers from 0 on. -/
theorem cd_count {k c i n d : Nat} {inner : ACode} {N : Nat} (hN : N < 2 ^ 62) {Q : AExit → AAct → AHeap → Prop} (I : Nat → AAct → AHeap → Prop)
    (stab : ∀ j a h t v, (t = c ∨ t = d ∨ t = i) → I j a h → I j (putA a (some t) v) h) (hx : n ≠ c ∧ n ≠ d ∧ n ≠ i ∧ c ≠ i ∧ d ≠ i)
    (hb : ∀ j a h, j < N → I j a h → ev a (.tmp i) = some (.int .i64 (j : Nat)) → ev a (.tmp n) = some (.int .i64 (N : Nat)) → Cd fns summ ro inner a h (nxt (fun a h => I (j + 1) a h ∧ ev a (.tmp i) = some (.int .i64 (j : Nat)) ∧ ev a (.tmp n) = some (.int .i64 (N : Nat))) (blk k Q)))
    (he : ∀ a h, I N a h → Q .normal a h) {a : AAct} {h : AHeap} (hi : I 0 a h) (h1 : ev a (.tmp i) = some (.int .i64 0)) (h2 : ev a (.tmp n) = some (.int .i64 (N : Nat))) :
    Cd fns summ ro (.block k (.loop (.seq (.ops [⟨some c, none, .q (.num .lss (.tmp i) (.tmp n))⟩]) (.seq (.cond (.tmp c) .skip (.exit k)) (.seq inner
      (.ops [⟨some d, none, .q (.num .add (.tmp i) (.val (.int .i64 1)))⟩, ⟨some i, none, .q (.mov (.tmp d))⟩])))))) a h Q := by
  obtain ⟨n1, n2, n3, n4, n5⟩ := hx
  refine cd_block ?_
  refine cd_loop (fun m a h => ∃ j : Nat, m + j = N ∧ I j a h ∧ ev a (.tmp i) = some (.int .i64 (j : Nat)) ∧ ev a (.tmp n) = some (.int .i64 (N : Nat))) ?_ (n := N) ⟨0, rfl, hi, h1, h2⟩
  rintro m a h ⟨j, hm, hI, hi, hn⟩
  refine zAC (zAD (st_q (v := .bool (decide ((j : Int) < (N : Int)))) (b := none) ?_ (zAB ?_)))
  · simp only [qA, hi, hn]; rfl
  refine zAC (cd_cond (b := decide ((j : Int) < (N : Int))) (by simp only [ev_put, if_true]) (fun hlt => zAL ?_) (fun hge => cd_exit ?_))
  · have hlt : (j : Int) < (N : Int) := of_decide_eq_true hlt
    have hlt' : j < N := by omega
    refine zAC ((hb j _ h hlt' (stab _ _ _ _ _ (.inl rfl) hI) (by rw [ev_put, if_neg (Ne.symm n4)]; exact hi) (by rw [ev_put, if_neg n1]; exact hn)).mono fun e a1 h1 hq => ?_)
    cases e with
    | normal =>
      obtain ⟨hI1, hi1, hn1⟩ := hq
      have hw : IntKind.i64.wrap ((j : Int) + 1) = ((j + 1 : Nat) : Int) := by rw [wrap_small (by omega) (by omega)]; omega
      refine zAD (st_q (v := .int .i64 ((j + 1 : Nat) : Int)) (b := none) ?_ (st_q (v := .int .i64 ((j + 1 : Nat) : Int)) (b := none) ?_ (zAB ?_)))
      · rw [← hw]; simp only [qA, hi1, ev_val]; rfl
      · simp only [qA, ev_put, if_true]
      · exact ⟨m - 1, by omega, j + 1, by omega, stab _ _ _ _ _ (.inr (.inr rfl)) (stab _ _ _ _ _ (.inr (.inl rfl)) hI1), by rw [ev_put, if_pos rfl], by rw [ev_put, if_neg n3, ev_put, if_neg n2]; exact hn1⟩
    | ret => exact hq
    | exit id => exact hq
  · have hge : ¬ ((j : Int) < (N : Int)) := of_decide_eq_false hge
    have : j = N := by omega
    subst this
    show blk k Q (.exit k) _ _
    simp only [blk, if_true]
    exact he _ _ (stab _ _ _ _ _ (.inl rfl) hI)

theorem st_qT {d : Option Tmp} {t : Tmp} {w : Bool} {op : QOp} {l : List Step} {a : AAct} {h : AHeap} {K : AAct → AHeap → Prop} {v : AVal} {b : Option Nat} (hg : ev a (.tmp t) = some (.bool w)) (hv : qA a h op = some (v, b)) (k : St fns summ ro l (putA a d v) h K) :
    St fns summ ro (⟨d, some (t, w), .q op⟩ :: l) a h K := st_qg hg (fun _ => ⟨v, b, hv, k⟩) (fun hc => by rcases hc with hc | hc <;> (cases w <;> cases hc)) (.inl rfl)
theorem st_qF {d : Option Tmp} {t : Tmp} {w : Bool} {op : QOp} {l : List Step} {a : AAct} {h : AHeap} {K : AAct → AHeap → Prop} (hg : ev a (.tmp t) = some (.bool (!w))) (k : St fns summ ro l (putA a d (.tuple [])) h K) :
    St fns summ ro (⟨d, some (t, w), .q op⟩ :: l) a h K := st_qg hg (fun hc => by cases w <;> cases hc) (fun _ => k) (.inr (.inl rfl))
theorem st_qU {d : Option Tmp} {t : Tmp} {w : Bool} {op : QOp} {l : List Step} {a : AAct} {h : AHeap} {K : AAct → AHeap → Prop} (hg : ev a (.tmp t) = some (.tuple [])) (k : St fns summ ro l (putA a d (.tuple [])) h K) :
    St fns summ ro (⟨d, some (t, w), .q op⟩ :: l) a h K := st_qg hg (fun hc => by cases hc) (fun _ => k) (.inr (.inr rfl))
theorem st_eT {d : Option Tmp} {t : Tmp} {w : Bool} {op : EOp} {l : List Step} {a : AAct} {h : AHeap} {K : AAct → AHeap → Prop} (hg : ev a (.tmp t) = some (.bool w)) (k : Ex fns summ ro a h d op fun a h => St fns summ ro l a h K) :
    St fns summ ro (⟨d, some (t, w), .e op⟩ :: l) a h K := st_eg hg (fun _ => k) (fun hc => by rcases hc with hc | hc <;> (cases w <;> cases hc)) (.inl rfl)
theorem st_eF {d : Option Tmp} {t : Tmp} {w : Bool} {op : EOp} {l : List Step} {a : AAct} {h : AHeap} {K : AAct → AHeap → Prop} (hg : ev a (.tmp t) = some (.bool (!w))) (k : St fns summ ro l (putA a d (.tuple [])) h K) :
    St fns summ ro (⟨d, some (t, w), .e op⟩ :: l) a h K := st_eg hg (fun hc => by cases w <;> cases hc) (fun _ => k) (.inr (.inl rfl))
theorem st_eU {d : Option Tmp} {t : Tmp} {w : Bool} {op : EOp} {l : List Step} {a : AAct} {h : AHeap} {K : AAct → AHeap → Prop} (hg : ev a (.tmp t) = some (.tuple [])) (k : St fns summ ro l (putA a d (.tuple [])) h K) :
    St fns summ ro (⟨d, some (t, w), .e op⟩ :: l) a h K := st_eg hg (fun hc => by cases hc) (fun _ => k) (.inr (.inr rfl))
/-- A call of a function by its number. -/
theorem zAS {d : Option Tmp} {f : FuncId} {xs : List AOpd} {l : List Step} {a : AAct} {h : AHeap} {K : AAct → AHeap → Prop} {vs : List AVal} (hv : evs a xs = some vs) (k : Cl fns summ f vs h fun v h => St fns summ ro l (putA a d v) h K) :
    St fns summ ro (⟨d, none, .e (.call (.val (.func f [] [])) xs)⟩ :: l) a h K := st_e (ex_call rfl hv (cv_func (by simpa using k)))
theorem st_callT {d : Option Tmp} {t : Tmp} {w : Bool} {f : FuncId} {xs : List AOpd} {l : List Step} {a : AAct} {h : AHeap} {K : AAct → AHeap → Prop} {vs : List AVal} (hg : ev a (.tmp t) = some (.bool w)) (hv : evs a xs = some vs) (k : Cl fns summ f vs h fun v h => St fns summ ro l (putA a d v) h K) :
    St fns summ ro (⟨d, some (t, w), .e (.call (.val (.func f [] [])) xs)⟩ :: l) a h K := st_eT hg (ex_call rfl hv (cv_func (by simpa using k)))
theorem st_t {d : Option Tmp} {op : EOp} {l : List Step} {a : AAct} {h : AHeap} {K : AAct → AHeap → Prop} (h1 : ∀ f xs, op ≠ .call f xs) (h2 : ∀ f xs, op ≠ .defer f xs) {v : AVal} {h' : AHeap} (ht : turnA a h op = .ret (v, h')) (k : St fns summ ro l (putA a d v) h' K) :
    St fns summ ro (⟨d, none, .e op⟩ :: l) a h K := st_e (ex_turn h1 h2 ht k)

theorem zAA {K : AAct → AHeap → Prop} {Q : AExit → AAct → AHeap → Prop} {a : AAct} {h : AHeap} (k : K a h) : nxt K Q .normal a h := k
theorem zAN {K : AAct → AHeap → Prop} {Q : AExit → AAct → AHeap → Prop} {a : AAct} {h : AHeap} (k : Q .ret a h) : nxt K Q .ret a h := k
theorem nxt_exit {K : AAct → AHeap → Prop} {Q : AExit → AAct → AHeap → Prop} {a : AAct} {h : AHeap} {i : Nat} (k : Q (.exit i) a h) : nxt K Q (.exit i) a h := k
theorem zAJ {Q : AExit → AAct → AHeap → Prop} {a : AAct} {h : AHeap} {i : Nat} (k : Q .normal a h) : blk i Q .normal a h := k
theorem blk_ret {Q : AExit → AAct → AHeap → Prop} {a : AAct} {h : AHeap} {i : Nat} (k : Q .ret a h) : blk i Q .ret a h := k
theorem blk_same {Q : AExit → AAct → AHeap → Prop} {a : AAct} {h : AHeap} {i : Nat} (k : Q .normal a h) : blk i Q (.exit i) a h := by simp only [blk, if_true]; exact k
theorem blk_other {Q : AExit → AAct → AHeap → Prop} {a : AAct} {h : AHeap} {i j : Nat} (k : Q (.exit j) a h) (hn : Nat.beq j i = false) : blk i Q (.exit j) a h := by
  have : j ≠ i := fun e => by rw [e, Nat.beq_refl] at hn; cases hn
  simp only [blk, if_neg this]; exact k
theorem cd_cut {x y : ACode} {a : AAct} {h : AHeap} {Q : AExit → AAct → AHeap → Prop} (I : AAct → AHeap → Prop) (k1 : Cd fns summ ro x a h (nxt I Q)) (k2 : ∀ a h, I a h → Cd fns summ ro y a h Q) : Cd fns summ ro (.seq x y) a h Q :=
  zAC (k1.mono fun e a1 h1 hq => by cases e with
    | normal => exact k2 a1 h1 hq
    | ret => exact hq
    | exit i => exact hq)
theorem zAK {id : Nat} {x y : ACode} {a : AAct} {h : AHeap} {Q : AExit → AAct → AHeap → Prop} (k : Cd fns summ ro (.seq x y) a h (blk id Q)) : Cd fns summ ro (.block id (.seq x y)) a h Q := cd_block k
theorem cd_blockO {id : Nat} {l : List Step} {a : AAct} {h : AHeap} {Q : AExit → AAct → AHeap → Prop} (k : St fns summ ro l a h (blk id Q .normal)) : Cd fns summ ro (.block id (.ops l)) a h Q := cd_block (zAD k)

theorem str_add {x y : List Nat} (h : x.length + y.length < 1000000000000) : strOpA .add x y = some (.str (x ++ y)) := by simp only [strOpA, if_pos h]
theorem str_eql (x y : List Nat) : strOpA .eql x y = some (.bool (eqL x y)) := rfl
theorem str_neq (x y : List Nat) : strOpA .neq x y = some (.bool (!eqL x y)) := rfl
theorem str_lss (x y : List Nat) : strOpA .lss x y = some (.bool (lessL x y)) := rfl
theorem str_leq (x y : List Nat) : strOpA .leq x y = some (.bool (lessL x y || eqL x y)) := rfl
theorem str_gtr (x y : List Nat) : strOpA .gtr x y = some (.bool (!(lessL x y || eqL x y))) := rfl
theorem str_geq (x y : List Nat) : strOpA .geq x y = some (.bool (!lessL x y)) := rfl

theorem st_upd_new {d : Option Tmp} {kk : KeyK} {m x v : AOpd} {l : List Step} {a : AAct} {h : AHeap} {K : AAct → AHeap → Prop} {r ver clock : Nat} {k val : AVal} {es : List (AVal × AVal × Nat)} (hm : ev a m = some (.map (some r))) (hx : ev a x = some k) (hv : ev a v = some val)
    (hn : kk ≠ .ptr) (hk : isKey kk k = true) (hg : h.objs.get r = some (ver, .map es clock)) (hf : findA kk k es 0 = some none) (kont : St fns summ ro l (putA a d (.tuple [])) (putObjA h r (.map (es ++ [(k, val, clock)]) (clock + 1))) K) : St fns summ ro (⟨d, none, .e (.update kk m x v)⟩ :: l) a h K := by
  refine st_t (by intro _ _ hh; cases hh) (by intro _ _ hh; cases hh) (v := .tuple []) (h' := putObjA h r (.map (es ++ [(k, val, clock)]) (clock + 1))) ?_ kont
  have : keysOk h kk (.map (some r)) k = true := by cases kk <;> first | rfl | exact absurd rfl hn
  simp only [turnA, hm, hx, hv, this, updateA, hk, hg, hf]
theorem st_upd_old {d : Option Tmp} {kk : KeyK} {m x v : AOpd} {l : List Step} {a : AAct} {h : AHeap} {K : AAct → AHeap → Prop} {r ver clock i : Nat} {k val old : AVal} {es : List (AVal × AVal × Nat)} (hm : ev a m = some (.map (some r))) (hx : ev a x = some k) (hv : ev a v = some val)
    (hn : kk ≠ .ptr) (hk : isKey kk k = true) (hg : h.objs.get r = some (ver, .map es clock)) (hf : findA kk k es 0 = some (some (i, old))) (kont : St fns summ ro l (putA a d (.tuple [])) (putObjA h r (.map (setVal es i val) clock)) K) : St fns summ ro (⟨d, none, .e (.update kk m x v)⟩ :: l) a h K := by
  refine st_t (by intro _ _ hh; cases hh) (by intro _ _ hh; cases hh) (v := .tuple []) (h' := putObjA h r (.map (setVal es i val) clock)) ?_ kont
  have : keysOk h kk (.map (some r)) k = true := by cases kk <;> first | rfl | exact absurd rfl hn
  simp only [turnA, hm, hx, hv, this, updateA, hk, hg, hf]

/-! ### Guards that are not known -/
/-- A value that is there just if .. -/
def gd (p : Bool) (v : AVal) : AVal := match p with | true => v | false => .tuple []
/-- Does a guard let through? -/
def gdB (w : Bool) : AVal → Option Bool
  | .bool c => some (c == w)
  | .tuple [] => some false
  | _ => none
theorem gdB_bool (w c : Bool) : gdB w (.bool c) = some (c == w) := rfl
theorem gdB_gd (w q c : Bool) : gdB w (gd q (.bool c)) = some (q && (c == w)) := by cases q <;> rfl
theorem gd_true (v : AVal) : gd true v = v := rfl
theorem beqT (b : Bool) : (b == true) = b := by cases b <;> rfl
theorem beqF (b : Bool) : (b == false) = !b := by cases b <;> rfl
theorem gdB_spec {w p : Bool} {gv : AVal} (hp : gdB w gv = some p) : (p = true → gv = .bool w) ∧ (p = false → gv = .bool (!w) ∨ gv = .tuple []) ∧ (gv = .bool w ∨ gv = .bool (!w) ∨ gv = .tuple []) := by
  unfold gdB at hp
  split at hp
  · rename_i c
    simp only [Option.some.injEq] at hp
    subst hp
    cases c <;> cases w <;> simp
  · simp only [Option.some.injEq] at hp; subst hp; simp
  · cases hp
theorem st_qS {d : Option Tmp} {t : Tmp} {w p : Bool} {op : QOp} {l : List Step} {a : AAct} {h : AHeap} {K : AAct → AHeap → Prop} {gv v : AVal} {b : Option Nat} (hg : ev a (.tmp t) = some gv) (hp : gdB w gv = some p) (hv : p = true → qA a h op = some (v, b)) (k : St fns summ ro l (putA a d (gd p v)) h K) :
    St fns summ ro (⟨d, some (t, w), .q op⟩ :: l) a h K := by
  obtain ⟨h1, h2, h3⟩ := gdB_spec hp
  refine st_qg hg (fun hc => ?_) (fun hc => ?_) h3
  · cases p with
    | true => exact ⟨v, b, hv rfl, k⟩
    | false => rcases h2 rfl with h4 | h4 <;> (rw [h4] at hc; cases w <;> cases hc)
  · cases p with
    | true => have := h1 rfl; subst this; rcases hc with hc | hc <;> (cases w <;> cases hc)
    | false => exact k
theorem st_eS {d : Option Tmp} {t : Tmp} {w p : Bool} {op : EOp} {l : List Step} {a : AAct} {h : AHeap} {K : AAct → AHeap → Prop} {gv : AVal} (hg : ev a (.tmp t) = some gv) (hp : gdB w gv = some p) (k1 : p = true → Ex fns summ ro a h d op fun a h => St fns summ ro l a h K) (k2 : p = false → St fns summ ro l (putA a d (.tuple [])) h K) :
    St fns summ ro (⟨d, some (t, w), .e op⟩ :: l) a h K := by
  obtain ⟨h1, h2, h3⟩ := gdB_spec hp
  refine st_eg hg (fun hc => ?_) (fun hc => ?_) h3
  · cases p with
    | true => exact k1 rfl
    | false => rcases h2 rfl with h4 | h4 <;> (rw [h4] at hc; cases w <;> cases hc)
  · cases p with
    | true => have := h1 rfl; subst this; rcases hc with hc | hc <;> (cases w <;> cases hc)
    | false => exact k2 rfl
theorem pick_and {a : AAct} {h : AHeap} {c x : AOpd} {b v : Bool} (hc : ev a c = some (.bool b)) (hx : b = true → ev a x = some (.bool v)) : qA a h (.pick c x (.val (.bool false))) = some (.bool (b && v), none) := by
  cases b with
  | true => simp only [qA, hc, hx rfl, Bool.true_and]
  | false => simp only [qA, hc, ev_val, Bool.false_and]
theorem pick_or {a : AAct} {h : AHeap} {c y : AOpd} {b v : Bool} (hc : ev a c = some (.bool b)) (hy : b = false → ev a y = some (.bool v)) : qA a h (.pick c (.val (.bool true)) y) = some (.bool (b || v), none) := by
  cases b with
  | true => simp only [qA, hc, ev_val, Bool.true_or]
  | false => simp only [qA, hc, hy rfl, Bool.false_or]

/-! ### Ranges over functions -/
theorem cd_rangeF {f : AOpd} {ps : List Tmp} {assign body : ACode} {a : AAct} {h : AHeap} {Q : AExit → AAct → AHeap → Prop} {g : FuncId} {first captured : List AVal} (hf : ev a f = some (.func g first captured))
    (k : Cl fns summ g (first ++ [.yield (h.next + 1)] ++ captured) (newA (newA h (.dfr false)) (.loop .ready none a.tmps ps assign body h.next)) fun _ h3 =>
      ∃ ver st pd t ps' as' bd' df', h3.objs.get (h.next + 1) = some (ver, .loop st pd t ps' as' bd' df') ∧ st ≠ .busy ∧
        (match pd with
        | none => Q .normal { a with defers := .collected h.next :: a.defers } (putObjA h3 (h.next + 1) (.loop .exhausted none t ps' as' bd' df'))
        | some .normal => False
        | some e => Q e { a with defers := .collected h.next :: a.defers } (putObjA h3 (h.next + 1) (.loop .exhausted (some e) t ps' as' bd' df')))) :
    Cd fns summ none (.rangeF f ps assign body) a h Q := by
  unfold Cd CodeW
  simp only [codeA, hf]
  refine Ev.bind (fun n m hnm => (run_le fns summ hnm).1 _ _ _) (Ev.mono k fun p hp => ?_)
  obtain ⟨ver, st, pd, t, ps', as', bd', df', h1, h2, h3⟩ := hp
  simp only [new_next, h1]
  cases st with
  | busy => exact absurd rfl h2
  | ready | done | exhausted =>
    cases pd with
    | none => exact ev_const h3
    | some e => cases e with
      | normal => exact h3.elim
      | ret => exact ev_const h3
      | exit id => exact ev_const h3
theorem cv_yield {l ver df : Nat} {args : List AVal} {h : AHeap} {pd : Option AExit} {tmps t : T AVal} {ps : List Tmp} {as bd : ACode} {K : AVal → AHeap → Prop} (hl : h.objs.get l = some (ver, .loop .ready pd tmps ps as bd df)) (ht : setParams tmps ps args = some t)
    (k : Cd fns summ (some l) as { tmps := t, defers := [] } h (nxt (fun a1 h1 => ∃ ver pd tm ps as bd1 df, h1.objs.get l = some (ver, .loop .ready pd tm ps as bd1 df) ∧
      Cd fns summ (some l) bd a1 (putObjA h1 l (.loop .busy pd tm ps as bd1 df)) (fun e _ h3 => ∃ ver st pd tm ps as bd df, h3.objs.get l = some (ver, .loop st pd tm ps as bd df) ∧
        (match e with
        | .normal => K (.bool true) (putObjA h3 l (.loop .ready none tm ps as bd df))
        | e => K (.bool false) (putObjA h3 l (.loop .done (some e) tm ps as bd df))))) (fun _ _ _ => False))) : Cv fns summ (.yield l) args h K := by
  unfold Cv CallVW
  simp only [callVA, roundA, hl, ht]
  refine ev_shift ?_
  refine Ev.bind (fun n m hnm => (run_le fns summ (by omega)).2 _ _ _ _) (Ev.mono k fun p hp => ?_)
  obtain ⟨e, a1, h1⟩ := p
  cases e with
  | ret => exact hp.elim
  | exit id => exact hp.elim
  | normal =>
    obtain ⟨ver, pd, tm, ps, as, bd1, df, h2, h3⟩ := hp
    simp only [h2]
    show Ev _ _
    refine Ev.bind (d := fun n => (run fns summ (n + 1)).code (some l) bd a1 (putObjA h1 l (.loop .busy pd tm ps as bd1 df))) (fun n m hnm => (run_le fns summ (by omega)).2 _ _ _ _) (Ev.mono h3 fun q hq => ?_)
    obtain ⟨ver, st, pd, tm, ps, as, bd, df, h4, h5⟩ := hq
    simp only [h4]
    obtain ⟨e, a3, h6⟩ := q
    cases e with
    | normal => exact ev_const h5
    | ret => exact ev_const h5
    | exit id => exact ev_const h5
end
end Go.Ab
end
