import Derived.Test.YtffgndlognihcaaGreatDoorP05
import Derived.Test.YtffgndlognihcaaGreatDoorP07
import Derived.Test.YtffgndlognihcaaGreatDoorP10
import Derived.Test.YtffgndlognihcaaGreatDoorP18
import Derived.Test.YtffgndlognihcaaGreatDoorP19
import Derived.Shelf.Strings.Search3
import Derived.Shelf.Strings.BuilderK
import Derived.Shelf.Strconv.Itoa3
import Derived.KernelRfl
import Derived.Test.YtffgndlognihcaaGreatDoorProg
import Derived.Shelf.Strings.Builder1
import Derived.Shelf.Strings.BuilderF
import Derived.Shelf.LaysM
import Derived.Ground.NamesProg
/-
  Part 20 of the proof.
-/
set_option linter.all false
section
/-
  A call whose arguments are known, run once: it is taken at that word wherever it is made.
-/
namespace Go.Ab
open Go.RowKit (Below)

def eqO : Option (Nat × Nat) → Option (Nat × Nat) → Bool
  | none, none => true
  | some p, some q => Nat.beq p.1 q.1 && Nat.beq p.2 q.2
  | _, _ => false
theorem eqO_sound : ∀ {a b : Option (Nat × Nat)}, eqO a b = true → a = b
  | none, none, _ => rfl
  | some (p1, p2), some (q1, q2), h => by
    simp only [eqO, Bool.and_eq_true] at h
    rw [Nat.eq_of_beq_eq_true h.1, Nat.eq_of_beq_eq_true h.2]
  | none, some _, h => by cases h
  | some _, none, h => by cases h
mutual
def eqV : AVal → AVal → Bool
  | .bool a, .bool b => a == b
  | .int k a, .int k' b => decide (k = k') && a == b
  | .str s, .str t => decide (s = t)
  | .ptr x, .ptr y => eqO x y
  | .slice x n, .slice y m => eqO x y && Nat.beq n m
  | .slice0, .slice0 => true
  | .sliceE, .sliceE => true
  | .agg l, .agg m => eqVs l m
  | .tuple l, .tuple m => eqVs l m
  | _, _ => false
def eqVs : List AVal → List AVal → Bool
  | [], [] => true
  | x :: r, y :: s => eqV x y && eqVs r s
  | _, _ => false
end
mutual
theorem eqV_sound : ∀ {a b : AVal}, eqV a b = true → a = b := by
  intro a b h
  cases a with
  | bool x => cases b <;> simp [eqV] at h; rw [h]
  | int k x => cases b <;> simp [eqV] at h; rw [h.1, h.2]
  | str x => cases b <;> simp [eqV] at h; rw [h]
  | ptr x => cases b <;> simp only [eqV, Bool.false_eq_true] at h; rw [eqO_sound h]
  | slice x n => cases b <;> simp only [eqV, Bool.false_eq_true, Bool.and_eq_true] at h; rw [eqO_sound h.1, Nat.eq_of_beq_eq_true h.2]
  | slice0 => cases b <;> first | rfl | cases h
  | sliceE => cases b <;> first | rfl | cases h
  | agg l => cases b <;> simp only [eqV, Bool.false_eq_true] at h; rw [eqVs_sound h]
  | tuple l => cases b <;> simp only [eqV, Bool.false_eq_true] at h; rw [eqVs_sound h]
  | map x => cases b <;> simp [eqV] at h
  | func f l m => cases b <;> simp [eqV] at h
  | yield l => cases b <;> simp [eqV] at h
  | nilFunc => cases b <;> simp [eqV] at h
  | iface t x => cases b <;> simp [eqV] at h
  | nilIface => cases b <;> simp [eqV] at h
theorem eqVs_sound : ∀ {a b : List AVal}, eqVs a b = true → a = b := by
  intro a b h
  cases a with
  | nil => cases b with
    | nil => rfl
    | cons _ _ => simp [eqVs] at h
  | cons x r => cases b with
    | nil => simp [eqVs] at h
    | cons y s =>
      simp only [eqVs, Bool.and_eq_true] at h
      rw [eqV_sound h.1, eqVs_sound h.2]
end

/-- All that it may come to is so. -/
def D.all {α : Type} (p : α → Bool) : D α → Bool
  | .ret a => p a
  | .fail => false
  | .ask n k => Nat.blt 0 n && (List.range n).all fun i => (k i).all p
theorem D.all_sat {α : Type} {p : α → Bool} : ∀ {d : D α}, d.all p = true → d.sat fun a => p a = true
  | .ret _, h => h
  | .fail, h => by cases h
  | .ask n k, h => by
    simp only [D.all, Bool.and_eq_true, List.all_eq_true, List.mem_range] at h
    exact ⟨Nat.blt_eq.mp h.1, fun i hi => D.all_sat (h.2 i hi)⟩

/-- Is that the answer, and lie these blocks there? -/
def isAt (keep : List Nat) (v0 : AVal) (os : List (TypeId × List AVal)) (r : AVal × AHeap) : Bool :=
  eqV r.1 (mapV (fun j => keep.getD j 0) v0) && (List.range os.length).all fun i => match os[i]?, r.2.objs.get (keep.getD i 0) with
    | some (e, vs), some (_, .cells false e' vs') => Nat.beq e e' && eqVs vs' (mapVs (fun j => keep.getD j 0) vs)
    | _, _ => false
theorem isAt_sound {keep : List Nat} {v0 : AVal} {os : List (TypeId × List AVal)} {r : AVal × AHeap} (h : isAt keep v0 os r = true) :
    r.1 = mapV (fun j => keep.getD j 0) v0 ∧ ∀ (i : Nat) e vs, os[i]? = some (e, vs) → ∃ ver, r.2.objs.get (keep.getD i 0) = some (ver, .cells false e (mapVs (fun j => keep.getD j 0) vs)) := by
  simp only [isAt, Bool.and_eq_true, List.all_eq_true, List.mem_range] at h
  refine ⟨eqV_sound h.1, fun i e vs hi => ?_⟩
  have := h.2 i (List.getElem?_eq_some_iff.1 hi).1
  rw [hi] at this
  split at this
  · rename_i e1 vs1 ver e' vs' h1 h2
    simp only [Option.some.injEq, Prod.mk.injEq] at h1
    obtain ⟨rfl, rfl⟩ := h1
    simp only [Bool.and_eq_true] at this
    obtain ⟨h4, h3⟩ := this
    exact ⟨ver, by rw [h2, Nat.eq_of_beq_eq_true h4, eqVs_sound h3]⟩
  · cases this

mutual
theorem mapV_plain {f : Nat → Nat} : ∀ {x : AVal}, plainV 0 x = true → mapV f x = x
  | .bool _, _ => rfl
  | .int _ _, _ => rfl
  | .str _, _ => rfl
  | .ptr none, _ => rfl
  | .ptr (some p), h => by simp [plainV, Nat.blt] at h
  | .slice none _, _ => rfl
  | .slice (some p) _, h => by simp [plainV, Nat.blt] at h
  | .slice0, _ => rfl
  | .sliceE, _ => rfl
  | .map none, _ => rfl
  | .map (some _), h => by cases h
  | .func _ _ _, h => by cases h
  | .yield _, h => by cases h
  | .nilFunc, _ => rfl
  | .iface t v, h => congrArg (AVal.iface t) (mapV_plain (x := v) h)
  | .nilIface, _ => rfl
  | .agg _, h => by simp only [mapV]; rw [mapVs_plain h]
  | .tuple _, h => by simp only [mapV]; rw [mapVs_plain h]
theorem mapVs_plain {f : Nat → Nat} : ∀ {x : List AVal}, plainVs 0 x = true → mapVs f x = x
  | [], _ => rfl
  | _ :: _, h => by
    simp only [plainVs, Bool.and_eq_true] at h
    simp only [mapVs]
    rw [mapV_plain h.1, mapVs_plain h.2]
end

section
variable {P : Program} {fns : FuncId → Option AFunc} {summ : FuncId → List AVal → AHeap → Option (D (AVal × AHeap))} {N : Nat} {w0 : World}

/-- Memory in which nothing lies but one table. -/
def tblH (t nx : Nat) (tab : List AVal) : AHeap := { objs := (T.leaf : T (Nat × AObj)).set t (some (0, .cells true 0 tab)), next := nx }
theorem tblH_get {t nx : Nat} {tab : List AVal} {id : Nat} {x : Nat × AObj} (h : (tblH t nx tab).objs.get id = some x) : id = t ∧ x = (0, .cells true 0 tab) := by
  simp only [tblH, T.get_set, T.get_leaf] at h
  split at h
  · rename_i e; simp only [Option.some.injEq] at h; exact ⟨e, h.symm⟩
  · cases h
/-- The table lies in the world as it began. -/
def TblOK (P : Program) (N : Nat) (w0 : World) (t nx : Nat) (tab : List AVal) : Prop :=
  t < P.globals.size ∧ P.globals.size ≤ nx ∧ P.globals.size ≤ N ∧ 0 < nx ∧ ∃ c e fr, w0.heap[t]? = some (.cells c e fr) ∧ tab.length ≤ c.size ∧ VsR P (fun _ => none) tab (c.toList.take tab.length)

theorem rel_tbl {G : GM} {h : AHeap} {w : World} {t nx : Nat} {tab : List AVal} (R : Rel P N w0 G h w) (T : TblOK P N w0 t nx tab) : ∃ GA, Rel P N w0 GA (tblH t nx tab) w := by
  obtain ⟨ht, hn, hN, hp, c, e, fr, hc, hl, hv⟩ := T
  have hw : w.heap[t]? = some (.cells c e fr) := by rw [R.below.block t (by omega)]; exact hc
  refine ⟨fun i => if i = t then some ⟨t, c.size, 0, 0⟩ else if i < P.globals.size then some ⟨i, 0, 0, 0⟩ else none, ?_, ?_, ?_, ?_, ?_, ?_, hn, R.below, R.size, ?_⟩
  · intro id ver o hx
    obtain ⟨rfl, h1⟩ := tblH_get hx
    simp only [Prod.mk.injEq] at h1
    obtain ⟨rfl, rfl⟩ := h1
    exact ⟨_, if_pos rfl, _, hw, c, e, fr, rfl, (fun hh => by cases hh), by simp, rfl, hl, by rw [List.drop_zero]; exact hv.mono (fun _ _ hh => by cases hh)⟩
  · intro id id' x x' gi gi' hx _ hf
    obtain ⟨_, rfl⟩ := tblH_get hx
    cases hf
  · intro id ver o gi hx _ hf
    obtain ⟨_, h1⟩ := tblH_get hx
    simp only [Prod.mk.injEq] at h1
    rw [h1.2] at hf; cases hf
  · intro id hid
    have : nx ≤ id := hid
    show (if _ then _ else _) = _
    rw [if_neg (by omega), if_neg (by omega)]
  · intro id ver o hx
    obtain ⟨_, h1⟩ := tblH_get hx
    simp only [Prod.mk.injEq] at h1
    show ver < nx
    omega
  · intro g hg
    by_cases hgt : g = t
    · exact ⟨_, if_pos hgt, by rw [hgt], rfl⟩
    · exact ⟨⟨g, 0, 0, 0⟩, by simp [hgt, hg], rfl, rfl⟩
  · intro id ver o gi hx hg _
    obtain ⟨rfl, _⟩ := tblH_get hx
    simp only [if_true, Option.some.injEq] at hg
    subst hg
    show id < N
    omega

/-- **What a run on memory of its own comes to, anywhere.** -/
theorem summ_run {n : Nat} {f : FuncId} {args : List AVal} {t nx : Nat} {tab : List AVal} {keep : List Nat} {v0 : AVal} {os : List (TypeId × List AVal)} (hm : P.follows .mixedOrders = true) (hF : FnsOK P fns) (hM : SummOK P N w0 summ) (hT : TblOK P N w0 t nx tab)
    (hpa : plainVs 0 args = true) (hk : keep.length = os.length) (hnd : keep.Nodup) (hpl : ∀ o ∈ os, plainVs os.length o.2 = true) (hv0 : plainV os.length v0 = true)
    (he : ((run fns summ n).call f args (tblH t nx tab)).all (isAt keep v0 os) = true) {G : GM} {h : AHeap} {w : World} {argsV : Array Value} {Q : AVal × AHeap → Prop} (R : Rel P N w0 G h w) (hv : VsR P G args argsV.toList) (hq : Q (mapV (h.next + ·) v0, layH h.next os h)) :
    CallsIn (FR none) 0 P f argsV w (PostC P N w0 G h w Q) := by
  obtain ⟨GA, RA⟩ := rel_tbl R hT
  have hvA : VsR P GA args argsV.toList := by
    have := VsR.ren (G := G) (G' := GA) (f := id) (g := id) (k := 0) (fun i hi => absurd hi (Nat.not_lt_zero i)) hpa (by rw [mapVs_plain hpa]; exact hv)
    rwa [mapVs_plain hpa] at this
  refine ((run_sound hF hM (fun _ hS => draw_sound hm hS) n).call f args _ GA w argsV _ RA hvA (D.all_sat he)).mono fun e w' hp => ?_
  obtain ⟨v, h', G', cv, rfl, h1, h2, h3, h4⟩ := hp
  obtain ⟨h5, h6⟩ := isAt_sound h1
  simp only at h5 h6
  subst h5
  obtain ⟨G'', k1, k2, k3⟩ := R.beside h2 h3 (fun id x hx => by obtain ⟨_, rfl⟩ := tblH_get hx; rfl) hk hnd hpl h6 hv0 h4
  exact ⟨_, _, G'', cv, rfl, hq, k1, k2, k3⟩
end
end Go.Ab
end
section
/-
  Functions of Go's library that are taken at their word: what the kit's contracts say of them, said of the small language.
-/
namespace Go.Ab
open Go.RowKit (Below)
open Go.Shelf Go.Proofs

section
variable {P : Program} {ρ : Ren} {N : Nat} {w0 : World}

/-- A call that comes to an answer and turns nothing. -/
theorem post_same {f : FuncId} {G : GM} {h : AHeap} {w : World} {argsV : Array Value} {v : AVal} {cv : Value} {Q : AVal × AHeap → Prop} (hR : Rel P N w0 G h w) (hv : VR P G v cv) (hq : Q (v, h)) (hc : Calls P f argsV w fun e w' => e = .returned cv ∧ w' = w) :
    CallsIn (FR none) 0 P f argsV w (PostC P N w0 G h w Q) :=
  callsIn_wide.2 (hc.mono fun e w' hp => ⟨v, h, G, cv, hp.1, hq, by rw [hp.2]; exact hR, by rw [hp.2]; exact Ext.refl _ _ _, hv⟩)

/-- Letters as numbers. -/
def numsOf (l : List UInt8) : List Nat := l.map UInt8.toNat
theorem numsOf_inj : ∀ {a b : List UInt8}, numsOf a = numsOf b → a = b
  | [], [], _ => rfl
  | [], _ :: _, h => by simp [numsOf] at h
  | _ :: _, [], h => by simp [numsOf] at h
  | x :: a, y :: b, h => by
    simp only [numsOf, List.map_cons, List.cons.injEq] at h
    rw [UInt8.toNat_inj.1 h.1, numsOf_inj h.2]

def prefN : List Nat → List Nat → Bool
  | [], _ => true
  | _ :: _, [] => false
  | a :: x, b :: y => match Nat.beq a b with | true => prefN x y | false => false
def inN : List Nat → List Nat → Bool
  | [], t => prefN t []
  | a :: s, t => match prefN t (a :: s) with | true => true | false => inN s t
theorem pref_nums : ∀ (a b : List UInt8), prefN (numsOf a) (numsOf b) = a.isPrefixOf b
  | [], _ => rfl
  | _ :: _, [] => rfl
  | x :: a, y :: b => by
    simp only [numsOf, List.map_cons, prefN, List.isPrefixOf]
    cases hxy : Nat.beq x.toNat y.toNat with
    | true =>
      have : x = y := UInt8.toNat_inj.1 (Nat.eq_of_beq_eq_true hxy)
      rw [this]
      simp only [beq_self_eq_true, Bool.true_and]
      exact pref_nums a b
    | false =>
      have : (x == y) = false := by
        rw [Bool.eq_false_iff]
        intro h
        have := eq_of_beq h
        rw [this, Nat.beq_refl] at hxy; cases hxy
      rw [this]; rfl
theorem in_nums : ∀ (s t : List UInt8), inN (numsOf s) (numsOf t) = Lib.contains s t
  | [], t => by
    simp only [numsOf, List.map_nil, inN, Lib.contains, Lib.index]
    cases t <;> rfl
  | a :: s, t => by
    have ih := in_nums s t
    have hp := pref_nums t (a :: s)
    simp only [Lib.contains, Lib.index] at ih ⊢
    simp only [numsOf, List.map_cons, inN] at hp ih ⊢
    rw [hp]
    rcases Bool.eq_false_or_eq_true (t.isPrefixOf (a :: s)) with h | h
    · simp [h]
    · simp only [h, Bool.false_eq_true, if_false]
      rw [ih]
      have := Lib.index_ge s t
      by_cases hm : Lib.index s t = -1
      · simp [hm]
      · have h2 : (Lib.index s t == -1) = false := by simpa using hm
        rw [h2]
        simp only [Bool.false_eq_true, if_false, decide_eq_decide]
        omega

theorem str_of {G : GM} {s : List Nat} {v : Value} (h : VR P G (.str s) v) : ∃ b : ByteArray, v = .string b ∧ numsOf b.data.toList = s := h
theorem args1 {G : GM} {a : AVal} {argsV : Array Value} (h : VsR P G [a] argsV.toList) : ∃ x, argsV = #[x] ∧ VR P G a x := by
  obtain ⟨y, ys, h1, h2, h3⟩ := h
  have h3 : ys = [] := h3
  subst h3
  exact ⟨y, by cases argsV; simp_all, h2⟩
theorem args2 {G : GM} {a b : AVal} {argsV : Array Value} (h : VsR P G [a, b] argsV.toList) : ∃ x y, argsV = #[x, y] ∧ VR P G a x ∧ VR P G b y := by
  obtain ⟨x, xs, h1, h2, y, ys, h4, h5, h6⟩ := h
  have h6 : ys = [] := h6
  subst h6; subst h4
  exact ⟨x, y, by cases argsV; simp_all, h2, h5⟩

/-- strings.Contains -/
theorem s_contains (L : Lays.n144 P ρ) (hc : ∃ m, w0.cell? ⟨ρ.g 1, 0, none⟩ = some (.int .i64 m)) (hg : ρ.g 1 < N) {s t : List Nat} {h : AHeap} (hs : s.length < 4294967281) {G : GM} {argsV : Array Value} {w : World} {Q : AVal × AHeap → Prop} (hR : Rel P N w0 G h w) (hv : VsR P G [.str s, .str t] argsV.toList)
    (hq : Q (.bool (inN s t), h)) : CallsIn (FR none) 0 P (ρ.f 144) argsV w (PostC P N w0 G h w Q) := by
  obtain ⟨x, y, rfl, h1, h2⟩ := args2 hv
  obtain ⟨b1, rfl, rfl⟩ := str_of h1
  obtain ⟨b2, rfl, rfl⟩ := str_of h2
  obtain ⟨m, hm⟩ := hc
  have hm' : w.cell? ⟨ρ.g 1, 0, none⟩ = some (.int .i64 m) := by
    simp only [World.cell?] at hm ⊢
    rw [hR.below.block _ hg]; exact hm
  have hs' : b1.size < 4294967281 := by
    have : (numsOf b1.data.toList).length = b1.size := by simp only [numsOf, List.length_map]; rfl
    omega
  exact post_same hR (v := .bool (inN _ _)) rfl hq ((Any.strings_Contains L b1 b2 m w hs' hm').mono fun e w' hp => ⟨by rw [hp.1, in_nums], hp.2⟩)

/-! ### A builder's own check -/
theorem s_check_used (L : Lays.n240 P ρ) (X : Builder.X72 P ρ) {h : AHeap} {b ver : Nat} {ro : Bool} {e : TypeId} {r : List AVal} (hb : h.objs.get b = some (ver, .cells false e (.ptr (some (b, 0)) :: r))) {G : GM} {argsV : Array Value} {w : World} {Q : AVal × AHeap → Prop} (hR : Rel P N w0 G h w) (hv : VsR P G [.ptr (some (b, 0))] argsV.toList)
    (hq : Q (.tuple [], h)) : CallsIn (FR none) 0 P (ρ.f 240) argsV w (PostC P N w0 G h w Q) := by
  obtain ⟨x, rfl, gi, hg, rfl⟩ := args1 hv
  obtain ⟨gi', h1, ob, h2, c, t, fr, rfl, hf, hfit, _, hl, hvs⟩ := hR.obj b _ _ hb
  have hg' : G b = some gi := hg
  rw [hg'] at h1; cases h1
  obtain ⟨hsz, hoff, ht, hfr⟩ := hf rfl
  rw [hoff, List.drop_zero] at hvs
  obtain ⟨y, ys, e1, ⟨gi2, k1, rfl⟩, _⟩ := hvs
  have k1 : G b = some gi2 := k1
  rw [hg'] at k1; cases k1
  have hc0 : c[0]? = some (.pointer (some ⟨gi.blk, 0, none⟩)) := by
    have := congrArg (fun l => l[0]?) e1
    simp only [List.getElem?_cons_zero] at this
    rw [List.getElem?_take, if_pos (by simp)] at this
    simpa [hoff] using this
  have hcell : w.cell? ⟨gi.blk, 0, none⟩ = some (.pointer (some ⟨gi.blk, 0, none⟩)) := by simp [World.cell?, h2, hc0]
  simp only [hoff, Nat.add_zero]
  exact post_same hR (v := .tuple []) ⟨#[], rfl, rfl⟩ hq (Any.Builder_copyCheck_used L X gi.blk w hcell)

theorem lies_self {T : TypeId} (hc : P.cellsOf T = 2) {c : Nat} (h : 1 ≤ c) : liesAt P P.depth T c 0 T 1 = true := by
  have hd : P.depth = (2 * (P.types.size + Made.depth) + 1) + 1 := rfl
  have hs : sameLayout P P.depth T T = true := by
    rw [hd, sameLayout]; simp
  rw [hd] at hs ⊢
  rw [liesAt]
  have : rowAt P (sameLayout P P.depth · T) P.depth T c 0 1 = true := by
    rw [hd] at *
    rw [rowAt]
    simp [hc, hs, h]
  rw [this]; rfl

set_option maxHeartbeats 1000000 in
set_option maxRecDepth 100000 in
/-- copyCheck at a fresh builder, wherever it lies: it stores its own address. -/
theorem copyCheck_fresh (L : Lays.n240 P ρ) (X : Builder.X72 P ρ) (b m : Nat) (hm : 2 ≤ m) (w : World) (h0 : w.cell? ⟨b, 0, none⟩ = some (.pointer none)) (hsh : w.shape? b = some ((ρ.t 72), m)) (hfz : w.frozen? ⟨b, 0, none⟩ = false) :
    Calls P (ρ.f 240) #[.pointer (some ⟨b, 0, none⟩)] w fun e w' => e = .returned (.tuple #[]) ∧ w' = w.setCell ⟨b, 0, none⟩ (.pointer (some ⟨b, 0, none⟩)) := by
  obtain ⟨j, hj, hjs⟩ := Option.map_eq_some_iff.1 X.sizeBuilder
  have hc2 : P.cellsOf (ρ.t 72) = 2 := by simp [Program.cellsOf, hj, hjs]
  have hlies : liesAt P P.depth (ρ.t 72) (m / P.cellsOf (ρ.t 72)) 0 (ρ.t 72) 1 = true := lies_self hc2 (by rw [hc2]; omega)
  have mixed := L.mixed
  have t72 := L.t72; have a72 := L.a72; have z72 := L.z72; have v72 := L.v72; have u72 := run_underlying L.t72
  have t70 := L.t70; have a70 := L.a70; have z70 := L.z70; have v70 := L.v70; have u70 := run_underlying L.t70
  have t9 := L.t9; have a9 := L.a9; have z9 := L.z9; have v9 := L.v9; have u9 := run_underlying L.t9
  have t4 := L.t4; have a4 := L.a4; have z4 := L.z4; have v4 := L.v4; have u4 := run_underlying L.t4
  have t164 := L.t164; have a164 := L.a164; have z164 := L.z164; have v164 := L.v164; have u164 := run_underlying L.t164
  go_enter L.f240, Body.n240_ntmps ρ
  go_wp2
  rw [Lib.run_to_unsafe w ⟨b, 0, none⟩ L.t70 L.t164 hj (by rw [hjs]; decide) hsh (show 0 < m by omega)]
  simp only [Result.andThen]
  rw [Oper.upon_value]
  go_wp2
  rw [run_callFunc_extern L.f276 (by kernel_rfl) (by kernel_rfl) (by kernel_rfl) (e := Extern.AbiNoEscape.same) (by kernel_rfl)]
  rw [Lib.run_noEscape]
  simp only [Result.andThen]
  rw [Oper.upon_value]
  go_wp2
  rw [Lib.run_from_unsafe w ⟨b, 0, none⟩ L.t164 L.t70 hj hsh hlies]
  simp only [Result.andThen]
  rw [Oper.upon_value]
  go_wp2
  go_end0
  exact ⟨rfl, rfl⟩

theorem s_check_fresh (L : Lays.n240 P ρ) (X : Builder.X72 P ρ) {h : AHeap} {b ver : Nat} {s : AVal} (hs : one s = true) (hb : h.objs.get b = some (ver, .cells false (ρ.t 72) [.ptr none, s])) {G : GM} {argsV : Array Value} {w : World} {Q : AVal × AHeap → Prop} (hR : Rel P N w0 G h w) (hv : VsR P G [.ptr (some (b, 0))] argsV.toList)
    (hq : Q (.tuple [], putObjA h b (.cells false (ρ.t 72) [.ptr (some (b, 0)), s]))) : CallsIn (FR none) 0 P (ρ.f 240) argsV w (PostC P N w0 G h w Q) := by
  obtain ⟨x, rfl, gi, hg, rfl⟩ := args1 hv
  obtain ⟨gi', h1, ob, h2, c, t, fr, rfl, hf, hfit, hel, hl, hvs⟩ := hR.obj b _ _ hb
  have hg' : G b = some gi := hg
  rw [hg'] at h1; cases h1
  obtain ⟨hsz, hoff, ht, hfr⟩ := hf rfl
  subst ht; subst hfr
  rw [hoff, List.drop_zero] at hvs
  have hc2 : 2 ≤ c.size := by rw [hsz]; simpa using hl
  obtain ⟨y, ys, e1, hy, z, zs, e2, hz, e3⟩ := hvs
  have e3 : zs = [] := e3
  subst e3; subst e2
  have hy : y = .pointer none := hy
  subst hy
  have hg0 : ∀ i : Nat, i < 2 → c[i]? = ([.pointer none, z] : List Value)[i]? := fun i hi => by
    have := congrArg (fun l => l[i]?) e1
    simp only [List.getElem?_take] at this
    rw [if_pos (by simpa using hi)] at this
    simpa using this
  have hcell : w.cell? ⟨gi.blk, 0, none⟩ = some (.pointer none) := by simp [World.cell?, h2, hg0 0 (by decide)]
  have hsh : w.shape? gi.blk = some (ρ.t 72, c.size) := by simp [World.shape?, h2]
  have hfz : w.frozen? ⟨gi.blk, 0, none⟩ = false := frozen_of_cells h2
  have hN : N ≤ gi.blk := hR.own b _ _ gi hb hg' rfl
  simp only [hoff, Nat.add_zero]
  refine callsIn_wide.2 ((copyCheck_fresh L X gi.blk c.size hc2 w hcell hsh hfz).mono fun e w' hp => ?_)
  obtain ⟨rfl, rfl⟩ := hp
  have hset : (w.setCell ⟨gi.blk, 0, none⟩ (.pointer (some ⟨gi.blk, 0, none⟩))).heap[gi.blk]? = some (.cells (c.setIfInBounds 0 (.pointer (some ⟨gi.blk, 0, none⟩))) (ρ.t 72) (0, 0)) := by
    show (w.heap.modify gi.blk _)[gi.blk]? = _
    rw [Array.getElem?_modify]; simp [h2]
  have hoth : ∀ k, k ≠ gi.blk → (w.setCell ⟨gi.blk, 0, none⟩ (.pointer (some ⟨gi.blk, 0, none⟩))).heap[k]? = w.heap[k]? := fun k hk => by
    show (w.heap.modify gi.blk _)[k]? = _
    rw [Array.getElem?_modify]; simp [Ne.symm hk]
  have hput := hR.put (w' := w.setCell ⟨gi.blk, 0, none⟩ (.pointer (some ⟨gi.blk, 0, none⟩))) (o' := .cells false (ρ.t 72) [.ptr (some (b, 0)), s]) (ob' := .cells (c.setIfInBounds 0 (.pointer (some ⟨gi.blk, 0, none⟩))) (ρ.t 72) (0, 0)) hb rfl rfl hg' hset hoth
    ⟨rfl, rfl, rfl, by simp [World.setCell], fun k hk => hoth k (by omega)⟩
    ⟨_, _, (0, 0), rfl, fun _ => ⟨by simp [hsz], hoff, rfl, rfl⟩, by simpa using hfit, hel, by simpa using hl, by
      rw [hoff, List.drop_zero]
      have : (c.setIfInBounds 0 (.pointer (some ⟨gi.blk, 0, none⟩))).toList.take 2 = [.pointer (some ⟨gi.blk, 0, none⟩), z] := by
        rw [Array.toList_setIfInBounds]
        have e1' : c.toList.take 2 = [.pointer none, z] := e1
        match hl : c.toList, e1' with
        | x :: y :: r, e => simp at e ⊢; exact e.2
      show VsR P G _ (List.take 2 _)
      rw [this]
      exact ⟨_, _, rfl, ⟨gi, hg', by simp [hoff]⟩, z, [], rfl, hz, rfl⟩⟩
  exact ⟨.tuple [], _, G, .tuple #[], rfl, hq, hput.1, hput.2, ⟨#[], rfl, rfl⟩⟩

/-! ### Worlds that turn where nothing is told of -/
theorem Rel.aside {G : GM} {h : AHeap} {w w' : World} (hR : Rel P N w0 G h w) (hb : Below N w w') (hk : ∀ id x gi, h.objs.get id = some x → G id = some gi → w'.heap[gi.blk]? = w.heap[gi.blk]?) : Rel P N w0 G h w' :=
  ⟨fun id ver o hx => by
      obtain ⟨gi, h1, ob, h2, h3⟩ := hR.obj id ver o hx
      exact ⟨gi, h1, ob, by rw [hk id _ gi hx h1]; exact h2, h3⟩,
    hR.inj, hR.own, hR.fresh, hR.vers, hR.glob, hR.low, hR.below.trans hb, Nat.le_trans hR.size hb.size, hR.rolow⟩
theorem Rel.grown {G : GM} {h : AHeap} {w w' : World} (hR : Rel P N w0 G h w) (hb : Below w.heap.size w w') : Rel P N w0 G h w' ∧ Ext G h w G h w' := by
  have hlt : ∀ id x gi, h.objs.get id = some x → G id = some gi → gi.blk < w.heap.size := fun id x gi hx hg => by
    obtain ⟨gi', h1, ob, h2, _⟩ := hR.obj id x.1 x.2 hx
    rw [hg] at h1; cases h1
    exact lt_of_heap h2
  refine ⟨hR.aside ⟨hb.os, hb.tape, hb.output, hb.size, fun k hk => hb.block k (Nat.lt_of_lt_of_le hk hR.size)⟩ fun id x gi hx hg => hb.block _ (hlt id x gi hx hg), ?_⟩
  exact ⟨GLe.refl G, Nat.le_refl _, fun i v o e => .inr ⟨e, fun gi hg => hb.block _ (hlt i _ gi e hg)⟩, fun k hk _ => hb.block k hk, fun i x g e hr hgi => .inr ⟨i, x, g, e, hr, hgi, rfl⟩, hb.size⟩

set_option maxHeartbeats 2000000 in
set_option maxRecDepth 100000 in
/-- What a builder's String does, told whole. -/
theorem builder_string (L : Lays.n169 P ρ) (X : Builder.Extra P ρ) (b g cap : Nat) (cur : Array Value) (fz : Nat × Nat) (l : List UInt8) (w : World) (h0 : l ≠ []) (hcap : l.length ≤ cap) (hc : w.cell? ⟨b, 1, none⟩ = some (.slice (some ⟨g, 0, none⟩) l.length cap)) (hg : w.heap[g]? = some (.cells cur (ρ.t 5) fz)) (hcur : l.length ≤ cur.size) (hmax : l.length ≤ 9223372036854775807)
    (hcells : ∀ (j : Nat) x, l[j]? = some x → w.cell? ⟨g, j, none⟩ = some (.int .u8 x.toNat)) :
    Calls P (ρ.f 169) #[.pointer (some ⟨b, 0, none⟩)] w fun e w' => e = .returned (.string ⟨l.toArray⟩) ∧ w' = w.drew.freeze ⟨g, 0, none⟩ l.length := by
  have hl0 : l.length ≠ 0 := by simpa using h0
  have c1 : w.drew.cell? ⟨b, 1, none⟩ = some (.slice (some ⟨g, 0, none⟩) l.length cap) := hc
  have hSD : (Builtin.unsafeSliceData_ #[(ρ.t 37)] (ρ.t 127) #[.slice (some ⟨g, 0, none⟩) l.length cap]).run P w.drew = .ok (.pointer (some ⟨g, 0, none⟩)) w.drew :=
    Lib.run_unsafeSliceData_row _ _ _ _ _ _ (by omega)
  have hUS : (Builtin.unsafeString_ #[(ρ.t 127), (ρ.t 3)] (ρ.t 9) #[.pointer (some ⟨g, 0, none⟩), .int .i64 l.length]).run P w.drew = .ok (.string ⟨l.toArray⟩) (w.drew.freeze ⟨g, 0, none⟩ l.length) := by
    refine Lib.run_unsafeString_row w.drew (ρ.t 127) (ρ.t 3) (ρ.t 9) (ρ.t 5) L.t127 X.cellsByte g cur.size (by have hg' : w.drew.heap[g]? = some (.cells cur (ρ.t 5) fz) := hg; simp [World.shape?, hg']) l h0 hcur hmax ?_
    intro j x hx
    rw [addr_add, Nat.zero_add]
    exact hcells j x hx
  have mixed := L.mixed
  have t72 := L.t72; have a72 := L.a72; have z72 := L.z72; have v72 := L.v72; have u72 := run_underlying L.t72
  have t70 := L.t70; have a70 := L.a70; have z70 := L.z70; have v70 := L.v70; have u70 := run_underlying L.t70
  have t37 := L.t37; have a37 := L.a37; have z37 := L.z37; have v37 := L.v37; have u37 := run_underlying L.t37
  have t127 := L.t127; have a127 := L.a127; have z127 := L.z127; have v127 := L.v127; have u127 := run_underlying L.t127
  have t3 := L.t3; have a3 := L.a3; have z3 := L.z3; have v3 := L.v3; have u3 := run_underlying L.t3
  have t9 := L.t9; have a9 := L.a9; have z9 := L.z9; have v9 := L.v9; have u9 := run_underlying L.t9
  have t5 := X.t5; have a5 := X.a5; have z5 := X.z5; have v5 := X.v5; have u5 := run_underlying X.t5
  go_enter L.f169, Body.n169_ntmps ρ
  go_wp2
  go_region_o
  all_goals (go_wp2; go_ret; exact ⟨rfl, rfl⟩)

/-- A builder's text; the row that bears it isn't told of any more. -/
theorem s_string (L : Lays.n169 P ρ) (X : Builder.Extra P ρ) {h : AHeap} {b c ver ver' : Nat} {e : TypeId} {x0 : AVal} {r vs : List AVal} {l : List UInt8} (hl : l ≠ []) (hb : h.objs.get b = some (ver, .cells false e (x0 :: .slice (some (c, 0)) l.length :: r))) (hc : h.objs.get c = some (ver', .cells false (ρ.t 5) vs))
    (hvs : vs.take l.length = l.map fun x => .int .u8 (x.toNat : Nat)) (hmax : l.length ≤ 1000000) {G : GM} {argsV : Array Value} {w : World} {Q : AVal × AHeap → Prop} (hR : Rel P N w0 G h w) (hv : VsR P G [.ptr (some (b, 0))] argsV.toList)
    (hq : Q (.str (numsOf l), dropA h c)) : CallsIn (FR none) 0 P (ρ.f 169) argsV w (PostC P N w0 G h w Q) := by
  obtain ⟨x, rfl, gi, hg, rfl⟩ := args1 hv
  obtain ⟨gi', h1, ob, h2, cb, tb, fr, rfl, hf, hfit, hel, hlb, hvb⟩ := hR.obj b _ _ hb
  have hg' : G b = some gi := hg
  rw [hg'] at h1; cases h1
  obtain ⟨hsz, hoff, ht, hfr⟩ := hf rfl
  rw [hoff, List.drop_zero] at hvb
  obtain ⟨y, ys, e1, hy, z, zs, e2, ⟨gc, cap, k1, rfl, k2, k3⟩, e3⟩ := hvb
  have k1 : G c = some gc := k1
  subst e2
  obtain ⟨gi2, q1, ob2, q2, cc, tc, frc, rfl, qf, qfit, qel, qlb, qvb⟩ := hR.obj c _ _ hc
  rw [k1] at q1; cases q1
  obtain ⟨qsz, qoff, qt, qfr⟩ := qf rfl
  subst qt; subst qfr
  rw [qoff, List.drop_zero] at qvb
  have hll : l.length ≤ vs.length := by
    have := congrArg List.length hvs
    rw [List.length_take, List.length_map] at this; omega
  have hcell1 : w.cell? ⟨gi.blk, 1, none⟩ = some (.slice (some ⟨gc.blk, 0, none⟩) l.length cap) := by
    have := congrArg (fun q => q[1]?) e1
    simp only [List.getElem?_take, List.getElem?_cons_succ, List.getElem?_cons_zero] at this
    rw [if_pos (by simp)] at this
    have : cb[1]? = some (.slice (some ⟨gc.blk, 0, none⟩) l.length cap) := by simpa [qoff] using this
    simp [World.cell?, h2, this]
  have hcells : ∀ (j : Nat) u, l[j]? = some u → w.cell? ⟨gc.blk, j, none⟩ = some (.int .u8 u.toNat) := fun j u hj => by
    have hlt : j < l.length := (List.getElem?_eq_some_iff.1 hj).1
    have hvj : vs[j]? = some (.int .u8 (u.toNat : Nat)) := by
      have := congrArg (fun q => q[j]?) hvs
      simp only [List.getElem?_take, if_pos hlt, List.getElem?_map, hj, Option.map_some] at this
      exact this
    obtain ⟨cv, r1, r2⟩ := qvb.get hvj
    have r2 : cv = .int .u8 (u.toNat : Nat) := r2
    subst r2
    rw [List.getElem?_take] at r1
    split at r1
    · have r1' : cc[j]? = some (.int .u8 (u.toNat : Nat)) := by simpa using r1
      simp [World.cell?, q2, r1']
    · cases r1
  have hcsz : l.length ≤ cc.size := by omega
  simp only [hoff, Nat.add_zero]
  refine callsIn_wide.2 ((builder_string L X gi.blk gc.blk cap cc (0, 0) l w hl k2 hcell1 q2 hcsz (by omega) hcells).mono fun e' w' hp => ?_)
  obtain ⟨rfl, rfl⟩ := hp
  have hN : N ≤ gc.blk := hR.own c _ _ gc hc k1 rfl
  have hoth : ∀ k, k ≠ gc.blk → (w.drew.freeze ⟨gc.blk, 0, none⟩ l.length).heap[k]? = w.heap[k]? := fun k hk => by
    unfold World.freeze
    split
    · rfl
    · show (w.heap.modify gc.blk _)[k]? = _
      rw [Array.getElem?_modify]; simp [Ne.symm hk]
  have hsize : (w.drew.freeze ⟨gc.blk, 0, none⟩ l.length).heap.size = w.heap.size := by
    unfold World.freeze
    split
    · rfl
    · simp
  obtain ⟨hD, hE⟩ := hR.drop c
  have hne : ∀ id x gi', (dropA h c).objs.get id = some x → G id = some gi' → gi'.blk ≠ gc.blk := by
    intro id x gi' hx hgi hh
    have hx' : id ≠ c ∧ h.objs.get id = some x := by
      simp only [dropA, T.get_set] at hx
      by_cases hi : id = c
      · rw [if_pos hi] at hx; cases hx
      · rw [if_neg hi] at hx; exact ⟨hi, hx⟩
    exact hx'.1 (hR.inj c id _ x gc gi' hc hx'.2 rfl k1 hgi hh.symm).symm
  have hB : Below N w (w.drew.freeze ⟨gc.blk, 0, none⟩ l.length) := Lib.below_freeze (Below.drew (Below.refl N w)) (p := ⟨gc.blk, 0, none⟩) hN _
  refine ⟨.str (numsOf l), dropA h c, G, .string ⟨l.toArray⟩, rfl, hq, hD.aside hB fun id x gi' hx hgi => hoth _ (hne id x gi' hx hgi), ?_, ⟨⟨l.toArray⟩, rfl, by simp [numsOf]⟩⟩
  refine ⟨hE.gle, hE.nle, fun id ver o hx => ?_, fun k hk hno => hoth k fun hkk => hno c _ gc hc rfl k1 hkk.symm, hE.owned, by rw [hsize]; exact Nat.le_refl _⟩
  rcases hE.same id ver o hx with h3 | ⟨h3, _⟩
  · exact .inl h3
  · exact .inr ⟨h3, fun gi' hgi => hoth _ (hne id _ gi' hx hgi)⟩

/-- A number's digits. -/
theorem s_itoa (L : LaysM.n171 P ρ) (n : Int) (hn0 : -9223372036854775808 ≤ n) (hn1 : n ≤ 9223372036854775807) (htab : ∀ w, Below N w0 w → Lib.TabIs P w "internal/strconv.uint64pow10" .u64 Lib.pow10Tab) {h : AHeap} {G : GM} {argsV : Array Value} {w : World} {Q : AVal × AHeap → Prop} (hR : Rel P N w0 G h w) (hv : VsR P G [.int .i64 n] argsV.toList)
    (hq : Q (.str (numsOf (Lib.itoa n)), h)) : CallsIn (FR none) 0 P (ρ.f 171) argsV w (PostC P N w0 G h w Q) := by
  obtain ⟨x, rfl, h1⟩ := args1 hv
  have h1 : x = .int .i64 n := h1
  subst h1
  refine callsIn_wide.2 ((Any.strconv_Itoa L n hn0 hn1 w (htab w hR.below)).mono fun e' w' hp => ?_)
  obtain ⟨rfl, k, os, rfl⟩ := hp
  obtain ⟨h2, h3⟩ := hR.grown (w' := Go.Sort.grow (w.drewN k) os) ⟨rfl, rfl, rfl, by simp [Go.Sort.grow], fun i hi => by
    show (w.heap ++ os)[i]? = _
    rw [Array.getElem?_append_left hi]⟩
  exact ⟨_, h, G, _, rfl, hq, h2, h3, ⟨⟨(Lib.itoa n).toArray⟩, rfl, by simp [numsOf]⟩⟩
end
end Go.Ab
end
section
/-
  What the document's texts are read as.
-/
namespace Go.Proofs
open Go Go.Ab Go.Ab.S
def fnsP (P : Program) : FuncId → Option AFunc := fun f => (P.funcs[f]?).bind (cFn P)
theorem fnsP_ok (P : Program) : FnsOK P (fnsP P) := fun _ _ h => Option.bind_eq_some_iff.1 h
/-- Of Go's library one function alone is taken at its word. -/
def summ0 : FuncId → List AVal → AHeap → Option (D (AVal × AHeap)) := fun f args h =>
  match Nat.beq f 116 with
  | true => (match args with
    | [.str s, .str t] => (match Nat.ble s.length 2000 with | true => some (.ret (.bool (inN s t), h)) | false => none)
    | _ => none)
  | false => none
def tabA : List AVal := (List.range 256).map fun i => .int .u8 (if i == 32 || (9 ≤ i && i ≤ 13) then 1 else 0)
def vR (n : Nat) : AVal := .tuple [.agg [.slice (some (0, 0)) n, .int .i64 0], .int .i64 0]
def keepA : List Nat := [510, 491]
def osA : List (TypeId × List AVal) := [(34, [(.int .i64 2), (.str [45, 62]), (.slice (some (1, 0)) 2), (.slice none 0), (.bool false), (.int .i64 2), (.str [105, 110, 116]), (.slice none 0), (.slice none 0), (.bool false), (.int .i64 2), (.str [105, 110, 116]), (.slice none 0), (.slice none 0), (.bool false)]), (3, [(.int .i64 1), (.int .i64 2)])]
def keepB : List Nat := [475, 463]
def osB : List (TypeId × List AVal) := [(34, [(.int .i64 2), (.str [45, 62]), (.slice (some (1, 0)) 2), (.slice none 0), (.bool false), (.int .i64 1), (.str []), (.slice none 0), (.slice none 0), (.bool false)]), (3, [(.int .i64 1), (.int .i64 1)])]
def keepC : List Nat := [865, 846, 844]
def osC : List (TypeId × List AVal) := [(34, [(.int .i64 3), (.str []), (.slice (some (1, 0)) 2), (.slice (some (2, 0)) 2), (.bool false), (.int .i64 2), (.str [105, 110, 116]), (.slice none 0), (.slice none 0), (.bool false), (.int .i64 2), (.str [105, 110, 116]), (.slice none 0), (.slice none 0), (.bool false)]), (3, [(.int .i64 1), (.int .i64 2)]), (9, [(.str [109]), (.str [110])])]
def keepD : List Nat := [713, 702, 700]
def osD : List (TypeId × List AVal) := [(34, [(.int .i64 3), (.str []), (.slice (some (1, 0)) 1), (.slice (some (2, 0)) 1), (.bool true), (.int .i64 1), (.str []), (.slice none 0), (.slice none 0), (.bool false)]), (3, [(.int .i64 1)]), (9, [(.str [109])])]
end Go.Proofs
end
section
/-
  One of the document's texts, read.
-/
namespace Go.Proofs
open Go Go.Ab Go.Ab.S
theorem readA : ((run (fnsP Tryz.prog) summ0 4000).call 18 [.str sA] (tblH 1 200 tabA)).all (isAt keepA (vR 3) osA) = true := by kernel_rfl
end Go.Proofs
end
section
/-
  One of the document's texts, read.
-/
namespace Go.Proofs
open Go Go.Ab Go.Ab.S
theorem readB : ((run (fnsP Tryz.prog) summ0 4000).call 18 [.str sB] (tblH 1 200 tabA)).all (isAt keepB (vR 2) osB) = true := by kernel_rfl
end Go.Proofs
end
section
/-
  One of the document's texts, read.
-/
namespace Go.Proofs
open Go Go.Ab Go.Ab.S
theorem readC : ((run (fnsP Tryz.prog) summ0 4000).call 18 [.str sC] (tblH 1 200 tabA)).all (isAt keepC (vR 3) osC) = true := by kernel_rfl
end Go.Proofs
end
section
/-
  One of the document's texts, read.
-/
namespace Go.Proofs
open Go Go.Ab Go.Ab.S
theorem readD : ((run (fnsP Tryz.prog) summ0 4000).call 18 [.str sD] (tblH 1 200 tabA)).all (isAt keepD (vR 2) osD) = true := by kernel_rfl
end Go.Proofs
end
section
/-
  The functions' text is the program's.
-/
namespace Go.Proofs
open Go Go.Ab Go.Ab.S
theorem of_fn {P : Program} {f : FuncId} {g : AFunc} (h : (P.funcs[f]?).bind (cFn P) = some g) : ∃ fn, P.funcs[f]? = some fn ∧ cFn P fn = some g := Option.bind_eq_some_iff.1 h
theorem tb_115 : (Tryz.prog.funcs[115]?).bind (cFn Tryz.prog) = some F_goes := by kernel_rfl
theorem tb_87 : (Tryz.prog.funcs[87]?).bind (cFn Tryz.prog) = some F_word := by kernel_rfl
theorem tb_88 : (Tryz.prog.funcs[88]?).bind (cFn Tryz.prog) = some F_IsKey := by kernel_rfl
theorem tb_63 : (Tryz.prog.funcs[63]?).bind (cFn Tryz.prog) = some F_IsName := by kernel_rfl
theorem tb_40 : (Tryz.prog.funcs[40]?).bind (cFn Tryz.prog) = some F_grising := by kernel_rfl
theorem tb_20 : (Tryz.prog.funcs[20]?).bind (cFn Tryz.prog) = some F_arity := by kernel_rfl
theorem tb_22 : (Tryz.prog.funcs[22]?).bind (cFn Tryz.prog) = some F_may := by kernel_rfl
theorem tb_39 : (Tryz.prog.funcs[39]?).bind (cFn Tryz.prog) = some F_may1 := by kernel_rfl
theorem tb_10 : (Tryz.prog.funcs[10]?).bind (cFn Tryz.prog) = some F_Check := by kernel_rfl
theorem tb_21 : (Tryz.prog.funcs[21]?).bind (cFn Tryz.prog) = some F_Check1 := by kernel_rfl
theorem tb_38 : (Tryz.prog.funcs[38]?).bind (cFn Tryz.prog) = some F_CFint := by kernel_rfl
theorem tb_62 : (Tryz.prog.funcs[62]?).bind (cFn Tryz.prog) = some F_IFint := by kernel_rfl
theorem tb_23 : (Tryz.prog.funcs[23]?).bind (cFn Tryz.prog) = some F_CFnode := by kernel_rfl
theorem tb_41 : (Tryz.prog.funcs[41]?).bind (cFn Tryz.prog) = some F_IFnode := by kernel_rfl
theorem tb_9 : (Tryz.prog.funcs[9]?).bind (cFn Tryz.prog) = some F_Great := by kernel_rfl
theorem tb_45 : (Tryz.prog.funcs[45]?).bind (cFn Tryz.prog) = some F_Reach := by kernel_rfl
theorem tb_29 : (Tryz.prog.funcs[29]?).bind (cFn Tryz.prog) = some F_Trim := by kernel_rfl
theorem tb_12 : (Tryz.prog.funcs[12]?).bind (cFn Tryz.prog) = some F_Same := by kernel_rfl
theorem tb_26 : (Tryz.prog.funcs[26]?).bind (cFn Tryz.prog) = some F_alike := by kernel_rfl
theorem tb_27 : (Tryz.prog.funcs[27]?).bind (cFn Tryz.prog) = some F_gfree := by kernel_rfl
theorem tb_30 : (Tryz.prog.funcs[30]?).bind (cFn Tryz.prog) = some F_Free := by kernel_rfl
theorem tb_46 : (Tryz.prog.funcs[46]?).bind (cFn Tryz.prog) = some F_CloneStr := by kernel_rfl
theorem tb_33 : (Tryz.prog.funcs[33]?).bind (cFn Tryz.prog) = some F_CloneInt := by kernel_rfl
theorem tb_67 : (Tryz.prog.funcs[67]?).bind (cFn Tryz.prog) = some F_Backward := by kernel_rfl
theorem tb_95 : (Tryz.prog.funcs[95]?).bind (cFn Tryz.prog) = some F_Backward1 := by kernel_rfl
theorem tb_42 : (Tryz.prog.funcs[42]?).bind (cFn Tryz.prog) = some F_Classes := by kernel_rfl
theorem tb_64 : (Tryz.prog.funcs[64]?).bind (cFn Tryz.prog) = some F_refine := by kernel_rfl
theorem tb_92 : (Tryz.prog.funcs[92]?).bind (cFn Tryz.prog) = some F_refine1 := by kernel_rfl
theorem tb_91 : (Tryz.prog.funcs[91]?).bind (cFn Tryz.prog) = some F_look := by kernel_rfl
theorem tb_90 : (Tryz.prog.funcs[90]?).bind (cFn Tryz.prog) = some F_cfree := by kernel_rfl
theorem tb_24 : (Tryz.prog.funcs[24]?).bind (cFn Tryz.prog) = some F_Least := by kernel_rfl
theorem tb_43 : (Tryz.prog.funcs[43]?).bind (cFn Tryz.prog) = some F_EqualStr := by kernel_rfl
theorem tb_65 : (Tryz.prog.funcs[65]?).bind (cFn Tryz.prog) = some F_EqualInt := by kernel_rfl
theorem tb_118 : (Tryz.prog.funcs[118]?).bind (cFn Tryz.prog) = some F_WriteString := by kernel_rfl
theorem tb_15 : (Tryz.prog.funcs[15]?).bind (cFn Tryz.prog) = some F_Equal := by kernel_rfl
theorem tb_31 : (Tryz.prog.funcs[31]?).bind (cFn Tryz.prog) = some F_Alike := by kernel_rfl
theorem tb_47 : (Tryz.prog.funcs[47]?).bind (cFn Tryz.prog) = some F_Labels := by kernel_rfl
theorem tb_32 : (Tryz.prog.funcs[32]?).bind (cFn Tryz.prog) = some F_Ints := by kernel_rfl
theorem tb_66 : (Tryz.prog.funcs[66]?).bind (cFn Tryz.prog) = some F_BinarySearch := by kernel_rfl
theorem tb_93 : (Tryz.prog.funcs[93]?).bind (cFn Tryz.prog) = some F_cmpLess := by kernel_rfl
theorem tb_94 : (Tryz.prog.funcs[94]?).bind (cFn Tryz.prog) = some F_isNaNs := by kernel_rfl
theorem tb_120 : (Tryz.prog.funcs[120]?).bind (cFn Tryz.prog) = some F_cisNaN := by kernel_rfl
theorem tb_25 : (Tryz.prog.funcs[25]?).bind (cFn Tryz.prog) = some F_match := by kernel_rfl
theorem tb_44 : (Tryz.prog.funcs[44]?).bind (cFn Tryz.prog) = some F_margs := by kernel_rfl
theorem tb_11 : (Tryz.prog.funcs[11]?).bind (cFn Tryz.prog) = some F_Is := by kernel_rfl
theorem tb_19 : (Tryz.prog.funcs[19]?).bind (cFn Tryz.prog) = some F_More := by kernel_rfl
theorem tb_14 : (Tryz.prog.funcs[14]?).bind (cFn Tryz.prog) = some F_Closed := by kernel_rfl
theorem tb_13 : (Tryz.prog.funcs[13]?).bind (cFn Tryz.prog) = some F_Close := by kernel_rfl
theorem tb_8 : (Tryz.prog.funcs[8]?).bind (cFn Tryz.prog) = some F_good := by kernel_rfl
theorem tb_7 : (Tryz.prog.funcs[7]?).bind (cFn Tryz.prog) = some F_alive11 := by kernel_rfl
theorem tb_3 : (Tryz.prog.funcs[3]?).bind (cFn Tryz.prog) = some F_InstOrders := by kernel_rfl
theorem tb_4 : (Tryz.prog.funcs[4]?).bind (cFn Tryz.prog) = some F_InstCloses := by kernel_rfl
theorem tb_5 : (Tryz.prog.funcs[5]?).bind (cFn Tryz.prog) = some F_InstPairs := by kernel_rfl
theorem tb_16 : (Tryz.prog.funcs[16]?).bind (cFn Tryz.prog) = some F_InstPairs1 := by kernel_rfl
theorem tb_28 : (Tryz.prog.funcs[28]?).bind (cFn Tryz.prog) = some F_CloneNode := by kernel_rfl
theorem tab_ok : FnsOK Tryz.prog tab := by
  intro f fn h
  unfold tab at h
  by_cases h115 : f = 115
  · rw [if_pos h115] at h; subst h115; cases h; exact of_fn tb_115
  rw [if_neg h115] at h
  by_cases h87 : f = 87
  · rw [if_pos h87] at h; subst h87; cases h; exact of_fn tb_87
  rw [if_neg h87] at h
  by_cases h88 : f = 88
  · rw [if_pos h88] at h; subst h88; cases h; exact of_fn tb_88
  rw [if_neg h88] at h
  by_cases h63 : f = 63
  · rw [if_pos h63] at h; subst h63; cases h; exact of_fn tb_63
  rw [if_neg h63] at h
  by_cases h40 : f = 40
  · rw [if_pos h40] at h; subst h40; cases h; exact of_fn tb_40
  rw [if_neg h40] at h
  by_cases h20 : f = 20
  · rw [if_pos h20] at h; subst h20; cases h; exact of_fn tb_20
  rw [if_neg h20] at h
  by_cases h22 : f = 22
  · rw [if_pos h22] at h; subst h22; cases h; exact of_fn tb_22
  rw [if_neg h22] at h
  by_cases h39 : f = 39
  · rw [if_pos h39] at h; subst h39; cases h; exact of_fn tb_39
  rw [if_neg h39] at h
  by_cases h10 : f = 10
  · rw [if_pos h10] at h; subst h10; cases h; exact of_fn tb_10
  rw [if_neg h10] at h
  by_cases h21 : f = 21
  · rw [if_pos h21] at h; subst h21; cases h; exact of_fn tb_21
  rw [if_neg h21] at h
  by_cases h38 : f = 38
  · rw [if_pos h38] at h; subst h38; cases h; exact of_fn tb_38
  rw [if_neg h38] at h
  by_cases h62 : f = 62
  · rw [if_pos h62] at h; subst h62; cases h; exact of_fn tb_62
  rw [if_neg h62] at h
  by_cases h23 : f = 23
  · rw [if_pos h23] at h; subst h23; cases h; exact of_fn tb_23
  rw [if_neg h23] at h
  by_cases h41 : f = 41
  · rw [if_pos h41] at h; subst h41; cases h; exact of_fn tb_41
  rw [if_neg h41] at h
  by_cases h9 : f = 9
  · rw [if_pos h9] at h; subst h9; cases h; exact of_fn tb_9
  rw [if_neg h9] at h
  by_cases h45 : f = 45
  · rw [if_pos h45] at h; subst h45; cases h; exact of_fn tb_45
  rw [if_neg h45] at h
  by_cases h29 : f = 29
  · rw [if_pos h29] at h; subst h29; cases h; exact of_fn tb_29
  rw [if_neg h29] at h
  by_cases h12 : f = 12
  · rw [if_pos h12] at h; subst h12; cases h; exact of_fn tb_12
  rw [if_neg h12] at h
  by_cases h26 : f = 26
  · rw [if_pos h26] at h; subst h26; cases h; exact of_fn tb_26
  rw [if_neg h26] at h
  by_cases h27 : f = 27
  · rw [if_pos h27] at h; subst h27; cases h; exact of_fn tb_27
  rw [if_neg h27] at h
  by_cases h30 : f = 30
  · rw [if_pos h30] at h; subst h30; cases h; exact of_fn tb_30
  rw [if_neg h30] at h
  by_cases h46 : f = 46
  · rw [if_pos h46] at h; subst h46; cases h; exact of_fn tb_46
  rw [if_neg h46] at h
  by_cases h33 : f = 33
  · rw [if_pos h33] at h; subst h33; cases h; exact of_fn tb_33
  rw [if_neg h33] at h
  by_cases h67 : f = 67
  · rw [if_pos h67] at h; subst h67; cases h; exact of_fn tb_67
  rw [if_neg h67] at h
  by_cases h95 : f = 95
  · rw [if_pos h95] at h; subst h95; cases h; exact of_fn tb_95
  rw [if_neg h95] at h
  by_cases h42 : f = 42
  · rw [if_pos h42] at h; subst h42; cases h; exact of_fn tb_42
  rw [if_neg h42] at h
  by_cases h64 : f = 64
  · rw [if_pos h64] at h; subst h64; cases h; exact of_fn tb_64
  rw [if_neg h64] at h
  by_cases h92 : f = 92
  · rw [if_pos h92] at h; subst h92; cases h; exact of_fn tb_92
  rw [if_neg h92] at h
  by_cases h91 : f = 91
  · rw [if_pos h91] at h; subst h91; cases h; exact of_fn tb_91
  rw [if_neg h91] at h
  by_cases h90 : f = 90
  · rw [if_pos h90] at h; subst h90; cases h; exact of_fn tb_90
  rw [if_neg h90] at h
  by_cases h24 : f = 24
  · rw [if_pos h24] at h; subst h24; cases h; exact of_fn tb_24
  rw [if_neg h24] at h
  by_cases h43 : f = 43
  · rw [if_pos h43] at h; subst h43; cases h; exact of_fn tb_43
  rw [if_neg h43] at h
  by_cases h65 : f = 65
  · rw [if_pos h65] at h; subst h65; cases h; exact of_fn tb_65
  rw [if_neg h65] at h
  by_cases h118 : f = 118
  · rw [if_pos h118] at h; subst h118; cases h; exact of_fn tb_118
  rw [if_neg h118] at h
  by_cases h15 : f = 15
  · rw [if_pos h15] at h; subst h15; cases h; exact of_fn tb_15
  rw [if_neg h15] at h
  by_cases h31 : f = 31
  · rw [if_pos h31] at h; subst h31; cases h; exact of_fn tb_31
  rw [if_neg h31] at h
  by_cases h47 : f = 47
  · rw [if_pos h47] at h; subst h47; cases h; exact of_fn tb_47
  rw [if_neg h47] at h
  by_cases h32 : f = 32
  · rw [if_pos h32] at h; subst h32; cases h; exact of_fn tb_32
  rw [if_neg h32] at h
  by_cases h66 : f = 66
  · rw [if_pos h66] at h; subst h66; cases h; exact of_fn tb_66
  rw [if_neg h66] at h
  by_cases h93 : f = 93
  · rw [if_pos h93] at h; subst h93; cases h; exact of_fn tb_93
  rw [if_neg h93] at h
  by_cases h94 : f = 94
  · rw [if_pos h94] at h; subst h94; cases h; exact of_fn tb_94
  rw [if_neg h94] at h
  by_cases h120 : f = 120
  · rw [if_pos h120] at h; subst h120; cases h; exact of_fn tb_120
  rw [if_neg h120] at h
  by_cases h25 : f = 25
  · rw [if_pos h25] at h; subst h25; cases h; exact of_fn tb_25
  rw [if_neg h25] at h
  by_cases h44 : f = 44
  · rw [if_pos h44] at h; subst h44; cases h; exact of_fn tb_44
  rw [if_neg h44] at h
  by_cases h11 : f = 11
  · rw [if_pos h11] at h; subst h11; cases h; exact of_fn tb_11
  rw [if_neg h11] at h
  by_cases h19 : f = 19
  · rw [if_pos h19] at h; subst h19; cases h; exact of_fn tb_19
  rw [if_neg h19] at h
  by_cases h14 : f = 14
  · rw [if_pos h14] at h; subst h14; cases h; exact of_fn tb_14
  rw [if_neg h14] at h
  by_cases h13 : f = 13
  · rw [if_pos h13] at h; subst h13; cases h; exact of_fn tb_13
  rw [if_neg h13] at h
  by_cases h8 : f = 8
  · rw [if_pos h8] at h; subst h8; cases h; exact of_fn tb_8
  rw [if_neg h8] at h
  by_cases h7 : f = 7
  · rw [if_pos h7] at h; subst h7; cases h; exact of_fn tb_7
  rw [if_neg h7] at h
  by_cases h3 : f = 3
  · rw [if_pos h3] at h; subst h3; cases h; exact of_fn tb_3
  rw [if_neg h3] at h
  by_cases h4 : f = 4
  · rw [if_pos h4] at h; subst h4; cases h; exact of_fn tb_4
  rw [if_neg h4] at h
  by_cases h5 : f = 5
  · rw [if_pos h5] at h; subst h5; cases h; exact of_fn tb_5
  rw [if_neg h5] at h
  by_cases h16 : f = 16
  · rw [if_pos h16] at h; subst h16; cases h; exact of_fn tb_16
  rw [if_neg h16] at h
  by_cases h28 : f = 28
  · rw [if_pos h28] at h; subst h28; cases h; exact of_fn tb_28
  rw [if_neg h28] at h
  cases h
end Go.Proofs
end
section
/-
  Functions of Go's library, as they lie in this seat's translation. Began as what the kit's lay-plain.mjs wrote.
-/
namespace Go.Proofs
open Go.Shelf
def Tryz.lays240_ren : Go.Shelf.Ren := ⟨fun | 240 => 152 | 276 => 178 | n => n, fun | 0 => 0 | 4 => 4 | 9 => 9 | 20 => 20 | 37 => 223 | 70 => 222 | 72 => 225 | 164 => 147 | n => n, fun | n => n⟩
theorem Tryz.lays240 : Go.Proofs.Lays.n240 Tryz.prog Tryz.lays240_ren := {
  mixed := by kernel_rfl
  f240 := Tryz.func152.trans (congrArg some (by kernel_rfl))
  f276 := Tryz.func178.trans (congrArg some (by kernel_rfl))
  t0 := Tryz.underlying0
  a0 := Tryz.isAgg0
  z0 := Tryz.sizeOf0
  v0 := Tryz.zeroValue0
  t4 := Tryz.underlying4
  a4 := Tryz.isAgg4
  z4 := Tryz.sizeOf4
  v4 := Tryz.zeroValue4
  t9 := Tryz.underlying9
  a9 := Tryz.isAgg9
  z9 := Tryz.sizeOf9
  v9 := Tryz.zeroValue9
  t20 := Tryz.underlying20
  a20 := Tryz.isAgg20
  z20 := Tryz.sizeOf20
  v20 := Tryz.zeroValue20
  t70 := Tryz.underlying222
  a70 := Tryz.isAgg222
  z70 := Tryz.sizeOf222
  v70 := Tryz.zeroValue222
  t72 := Tryz.underlying225
  a72 := Tryz.isAgg225
  z72 := Tryz.sizeOf225
  v72 := Tryz.zeroValue225
  t164 := Tryz.underlying147
  a164 := Tryz.isAgg147
  z164 := Tryz.sizeOf147
  v164 := Tryz.zeroValue147 }
theorem Tryz.Builder_X72_240 : Builder.X72 Tryz.prog Tryz.lays240_ren where
  sizeBuilder := by kernel_rfl
  liesBuilder := by kernel_rfl
def Tryz.lays169_ren : Go.Shelf.Ren := ⟨fun | 169 => 119 | n => n, fun | 70 => 222 | 9 => 9 | 0 => 0 | 72 => 225 | 37 => 223 | 127 => 263 | 3 => 3 | 5 => 5 | n => n, fun | n => n⟩
theorem Tryz.lays169 : Go.Proofs.Lays.n169 Tryz.prog Tryz.lays169_ren := {
  mixed := by kernel_rfl
  f169 := Tryz.func119.trans (congrArg some (by kernel_rfl))
  t0 := Tryz.underlying0
  a0 := Tryz.isAgg0
  z0 := Tryz.sizeOf0
  v0 := Tryz.zeroValue0
  t3 := Tryz.underlying3
  a3 := Tryz.isAgg3
  z3 := Tryz.sizeOf3
  v3 := Tryz.zeroValue3
  t9 := Tryz.underlying9
  a9 := Tryz.isAgg9
  z9 := Tryz.sizeOf9
  v9 := Tryz.zeroValue9
  t37 := Tryz.underlying223
  a37 := Tryz.isAgg223
  z37 := Tryz.sizeOf223
  v37 := Tryz.zeroValue223
  t70 := Tryz.underlying222
  a70 := Tryz.isAgg222
  z70 := Tryz.sizeOf222
  v70 := Tryz.zeroValue222
  t72 := Tryz.underlying225
  a72 := Tryz.isAgg225
  z72 := Tryz.sizeOf225
  v72 := Tryz.zeroValue225
  t127 := Tryz.underlying263
  a127 := Tryz.isAgg263
  z127 := Tryz.sizeOf263
  v127 := Tryz.zeroValue263 }
theorem Tryz.Builder_Extra_169 : Builder.Extra Tryz.prog Tryz.lays169_ren := {
  sizeBuilder := by kernel_rfl
  liesBuilder := by kernel_rfl
  t5 := Tryz.underlying5
  a5 := Tryz.isAgg5
  z5 := Tryz.sizeOf5
  v5 := Tryz.zeroValue5
  infoByte := by kernel_rfl
  cellsByte := by kernel_rfl
  sizeByte := by kernel_rfl
  neB5 := by decide }
def Tryz.laysM171_ren : Go.Shelf.Ren := ⟨fun | 171 => 89 | 243 => 117 | 246 => 151 | 283 => 174 | 284 => 175 | 285 => 176 | 286 => 177 | 129 => 131 | 317 => 192 | 318 => 193 | 319 => 194 | 320 => 195 | 337 => 200 | 338 => 201 | n => n, fun | 3 => 3 | 9 => 9 | 2 => 2 | 4 => 4 | 171 => 284 | 0 => 0 | 53 => 244 | 37 => 223 | 5 => 5 | 173 => 286 | 212 => 317 | 51 => 242 | 20 => 20 | 213 => 318 | 46 => 181 | 232 => 322 | 233 => 323 | n => n, fun | 17 => 8 | 18 => 9 | 19 => 10 | n => n⟩
theorem Tryz.laysM171 : Go.Proofs.LaysM.n171 Tryz.prog Tryz.laysM171_ren := {
  mixed := by kernel_rfl
  f129 := Tryz.func131.trans (congrArg some (by kernel_rfl))
  f171 := Tryz.func89.trans (congrArg some (by kernel_rfl))
  f243 := Tryz.func117.trans (congrArg some (by kernel_rfl))
  f246 := Tryz.func151.trans (congrArg some (by kernel_rfl))
  f283 := Tryz.func174.trans (congrArg some (by kernel_rfl))
  f284 := Tryz.func175.trans (congrArg some (by kernel_rfl))
  f285 := Tryz.func176.trans (congrArg some (by kernel_rfl))
  f286 := Tryz.func177.trans (congrArg some (by kernel_rfl))
  f317 := Tryz.func192.trans (congrArg some (by kernel_rfl))
  f318 := Tryz.func193.trans (congrArg some (by kernel_rfl))
  f319 := Tryz.func194.trans (congrArg some (by kernel_rfl))
  f320 := Tryz.func195.trans (congrArg some (by kernel_rfl))
  f337 := Tryz.func200.trans (congrArg some (by kernel_rfl))
  f338 := Tryz.func201.trans (congrArg some (by kernel_rfl))
  t0 := Tryz.underlying0
  a0 := Tryz.isAgg0
  z0 := Tryz.sizeOf0
  v0 := Tryz.zeroValue0
  t2 := Tryz.underlying2
  a2 := Tryz.isAgg2
  z2 := Tryz.sizeOf2
  v2 := Tryz.zeroValue2
  t3 := Tryz.underlying3
  a3 := Tryz.isAgg3
  z3 := Tryz.sizeOf3
  v3 := Tryz.zeroValue3
  t4 := Tryz.underlying4
  a4 := Tryz.isAgg4
  z4 := Tryz.sizeOf4
  v4 := Tryz.zeroValue4
  t5 := Tryz.underlying5
  a5 := Tryz.isAgg5
  z5 := Tryz.sizeOf5
  v5 := Tryz.zeroValue5
  t9 := Tryz.underlying9
  a9 := Tryz.isAgg9
  z9 := Tryz.sizeOf9
  v9 := Tryz.zeroValue9
  t20 := Tryz.underlying20
  a20 := Tryz.isAgg20
  z20 := Tryz.sizeOf20
  v20 := Tryz.zeroValue20
  t37 := Tryz.underlying223
  a37 := Tryz.isAgg223
  z37 := Tryz.sizeOf223
  v37 := Tryz.zeroValue223
  t46 := Tryz.underlying181
  a46 := Tryz.isAgg181
  z46 := Tryz.sizeOf181
  v46 := Tryz.zeroValue181
  t51 := Tryz.underlying242
  a51 := Tryz.isAgg242
  z51 := Tryz.sizeOf242
  v51 := Tryz.zeroValue242
  t53 := Tryz.underlying244
  a53 := Tryz.isAgg244
  z53 := Tryz.sizeOf244
  v53 := Tryz.zeroValue244
  t171 := Tryz.underlying284
  a171 := Tryz.isAgg284
  z171 := Tryz.sizeOf284
  v171 := Tryz.zeroValue284
  t173 := Tryz.underlying286
  a173 := Tryz.isAgg286
  z173 := Tryz.sizeOf286
  v173 := Tryz.zeroValue286
  t212 := Tryz.underlying317
  a212 := Tryz.isAgg317
  z212 := Tryz.sizeOf317
  v212 := Tryz.zeroValue317
  t213 := Tryz.underlying318
  a213 := Tryz.isAgg318
  z213 := Tryz.sizeOf318
  t232 := Tryz.underlying322
  a232 := Tryz.isAgg322
  z232 := Tryz.sizeOf322
  v232 := Tryz.zeroValue322
  t233 := Tryz.underlying323
  a233 := Tryz.isAgg323
  z233 := Tryz.sizeOf323
  v233 := Tryz.zeroValue323
  g17 := by kernel_rfl
  g18 := by kernel_rfl
  g19 := by kernel_rfl
  i0 := by kernel_rfl
  i2 := by kernel_rfl
  i3 := by kernel_rfl
  i4 := by kernel_rfl
  i5 := by kernel_rfl
  i9 := by kernel_rfl
  i20 := by kernel_rfl
  i37 := by kernel_rfl
  i46 := by kernel_rfl
  i51 := by kernel_rfl
  i53 := by kernel_rfl
  i171 := by kernel_rfl
  i173 := by kernel_rfl
  i212 := by kernel_rfl
  i232 := by kernel_rfl
  i233 := by kernel_rfl
  m17 := by kernel_rfl
  m18 := by kernel_rfl
  m19 := by kernel_rfl }
def Tryz.lays144_ren : Go.Shelf.Ren := ⟨fun | 144 => 116 | 143 => 105 | 219 => 137 | 217 => 160 | 225 => 161 | 224 => 162 | 267 => 163 | 266 => 181 | 314 => 182 | n => n, fun | 9 => 9 | 4 => 4 | 3 => 3 | 5 => 5 | 46 => 181 | 146 => 293 | 51 => 242 | n => n, fun | 1 => 2 | n => n⟩
theorem Tryz.lays144 : Go.Proofs.Lays.n144 Tryz.prog Tryz.lays144_ren := {
  mixed := by kernel_rfl
  f143 := Tryz.func105.trans (congrArg some (by kernel_rfl))
  f144 := Tryz.func116.trans (congrArg some (by kernel_rfl))
  f217 := Tryz.func160.trans (congrArg some (by kernel_rfl))
  f219 := Tryz.func137.trans (congrArg some (by kernel_rfl))
  f224 := Tryz.func162.trans (congrArg some (by kernel_rfl))
  f225 := Tryz.func161.trans (congrArg some (by kernel_rfl))
  f266 := Tryz.func181.trans (congrArg some (by kernel_rfl))
  f267 := Tryz.func163.trans (congrArg some (by kernel_rfl))
  f314 := Tryz.func182.trans (congrArg some (by kernel_rfl))
  t3 := Tryz.underlying3
  a3 := Tryz.isAgg3
  z3 := Tryz.sizeOf3
  v3 := Tryz.zeroValue3
  t4 := Tryz.underlying4
  a4 := Tryz.isAgg4
  z4 := Tryz.sizeOf4
  v4 := Tryz.zeroValue4
  t5 := Tryz.underlying5
  a5 := Tryz.isAgg5
  z5 := Tryz.sizeOf5
  v5 := Tryz.zeroValue5
  t9 := Tryz.underlying9
  a9 := Tryz.isAgg9
  z9 := Tryz.sizeOf9
  v9 := Tryz.zeroValue9
  t46 := Tryz.underlying181
  a46 := Tryz.isAgg181
  z46 := Tryz.sizeOf181
  v46 := Tryz.zeroValue181
  t51 := Tryz.underlying242
  a51 := Tryz.isAgg242
  z51 := Tryz.sizeOf242
  v51 := Tryz.zeroValue242
  t146 := Tryz.underlying293
  a146 := Tryz.isAgg293
  z146 := Tryz.sizeOf293
  v146 := Tryz.zeroValue293
  g1 := by kernel_rfl }
end Go.Proofs
end
