import Derived.Test.YtapnoohglfhgeaaGreatDoorP07
import Derived.Test.YtapnoohglfhgeaaGreatDoorP10
import Derived.Test.YtapnoohglfhgeaaGreatDoorP18
import Derived.Shelf.Strings.Search3
import Derived.Shelf.Strings.BuilderK
import Derived.Shelf.Strconv.Itoa3
import Derived.KernelRfl
import Derived.Test.YtapnoohglfhgeaaGreatDoorProg
import Derived.Shelf.Sort.Plain
import Derived.Sort.OwnSorted
import Derived.Shelf.Slices.In.SortNone
/-
  Part 24 of the proof.
-/
set_option linter.all false
section
/-
  What a run on memory of its own makes, laid beside memory that is told of: a call with known arguments is run once, and taken at that word anywhere.
-/
namespace Go.Ab
open Go.RowKit (Below)

mutual
def mapV (f : Nat → Nat) : AVal → AVal
  | .ptr (some p) => .ptr (some (f p.1, p.2))
  | .slice (some p) n => .slice (some (f p.1, p.2)) n
  | .agg l => .agg (mapVs f l)
  | .tuple l => .tuple (mapVs f l)
  | .iface t v => .iface t (mapV f v)
  | v => v
def mapVs (f : Nat → Nat) : List AVal → List AVal
  | [] => []
  | x :: r => mapV f x :: mapVs f r
end
mutual
def plainV (k : Nat) : AVal → Bool
  | .ptr (some p) => Nat.blt p.1 k
  | .slice (some p) _ => Nat.blt p.1 k
  | .agg l => plainVs k l
  | .tuple l => plainVs k l
  | .iface _ v => plainV k v
  | .map (some _) => false
  | .func _ _ _ => false
  | .yield _ => false
  | _ => true
def plainVs (k : Nat) : List AVal → Bool
  | [] => true
  | x :: r => plainV k x && plainVs k r
end
theorem mapVs_length (f : Nat → Nat) : ∀ l : List AVal, (mapVs f l).length = l.length
  | [] => rfl
  | _ :: r => congrArg (· + 1) (mapVs_length f r)

section
variable {P : Program} {G G' : GM} {f g : Nat → Nat} {k : Nat}
mutual
theorem VR.ren (hG : ∀ i, i < k → ∀ gi, G (f i) = some gi → G' (g i) = some gi) : ∀ {x : AVal} {v : Value}, plainV k x = true → VR P G (mapV f x) v → VR P G' (mapV g x) v
  | .bool _, _, _, e => e
  | .int _ _, _, _, e => e
  | .str _, _, _, e => e
  | .ptr none, _, _, e => e
  | .ptr (some p), _, h, ⟨gi, e, r⟩ => ⟨gi, hG _ (Nat.blt_eq.mp h) _ e, r⟩
  | .slice none _, _, _, e => e
  | .slice (some p) _, _, h, ⟨gi, c, e, r⟩ => ⟨gi, c, hG _ (Nat.blt_eq.mp h) _ e, r⟩
  | .slice0, _, _, e => e
  | .sliceE, _, _, e => e
  | .map none, _, _, e => e
  | .map (some _), _, h, _ => by cases h
  | .func _ _ _, _, h, _ => by cases h
  | .yield _, _, h, _ => by cases h
  | .nilFunc, _, _, e => e
  | .iface _ _, _, h, ⟨y, e, r⟩ => ⟨y, e, VR.ren hG h r⟩
  | .nilIface, _, _, e => e
  | .agg _, _, h, ⟨L, e, r⟩ => ⟨L, e, VsR.ren hG h r⟩
  | .tuple _, _, h, ⟨L, e, r⟩ => ⟨L, e, VsR.ren hG h r⟩
theorem VsR.ren (hG : ∀ i, i < k → ∀ gi, G (f i) = some gi → G' (g i) = some gi) : ∀ {xs : List AVal} {vs : List Value}, plainVs k xs = true → VsR P G (mapVs f xs) vs → VsR P G' (mapVs g xs) vs
  | [], _, _, e => e
  | _ :: _, _, h, ⟨y, ys, e, a, b⟩ => by
    simp only [plainVs, Bool.and_eq_true] at h
    exact ⟨y, ys, e, VR.ren hG h.1 a, VsR.ren hG h.2 b⟩
end
end

def layH (n : Nat) : List (TypeId × List AVal) → AHeap → AHeap
  | [], h => h
  | (e, vs) :: r, h => layH n r (newA h (.cells false e (mapVs (n + ·) vs)))
theorem layH_next (n : Nat) : ∀ (os : List (TypeId × List AVal)) (h : AHeap), (layH n os h).next = h.next + os.length
  | [], h => rfl
  | (e, vs) :: r, h => by rw [layH, layH_next n r]; simp only [newA, List.length_cons]; omega
theorem layH_old (n : Nat) : ∀ (os : List (TypeId × List AVal)) (h : AHeap) (b : Nat), b < h.next ∨ h.next + os.length ≤ b → (layH n os h).objs.get b = h.objs.get b
  | [], h, _, _ => rfl
  | (e, vs) :: r, h, b, hb => by
    simp only [List.length_cons] at hb
    rw [layH, layH_old n r _ b (by simp only [newA]; omega)]
    simp only [newA, T.get_set]
    rw [if_neg (by omega)]
theorem layH_new (n : Nat) : ∀ (os : List (TypeId × List AVal)) (h : AHeap) (i : Nat) (e : TypeId) (vs : List AVal), os[i]? = some (e, vs) → (layH n os h).objs.get (h.next + i) = some (h.next + i, .cells false e (mapVs (n + ·) vs))
  | [], h, _, _, _, hi => by simp at hi
  | (e, vs) :: r, h, 0, e', vs', hi => by
    simp only [List.getElem?_cons_zero, Option.some.injEq, Prod.mk.injEq] at hi
    obtain ⟨rfl, rfl⟩ := hi
    rw [layH, layH_old n r _ _ (by simp only [newA]; omega)]
    simp only [newA, T.get_set, Nat.add_zero, if_true]
  | (e, vs) :: r, h, i + 1, e', vs', hi => by
    simp only [List.getElem?_cons_succ] at hi
    have := layH_new n r (newA h (.cells false e (mapVs (n + ·) vs))) i e' vs' hi
    rw [layH, show h.next + (i + 1) = (newA h (.cells false e (mapVs (n + ·) vs))).next + i by simp only [newA]; omega]
    exact this

section
variable {P : Program} {N : Nat} {w0 w w' : World} {G GA GA' : GM} {h hA hA' : AHeap}

theorem Rel.beside (R1 : Rel P N w0 G h w) (R2 : Rel P N w0 GA' hA' w') (E2 : Ext GA hA w GA' hA' w') (hro : ∀ id x, hA.objs.get id = some x → x.2.ro = true)
    {os : List (TypeId × List AVal)} {keep : List Nat} (hk : keep.length = os.length) (hnd : keep.Nodup) (hpl : ∀ o ∈ os, plainVs os.length o.2 = true)
    (hos : ∀ (i : Nat) e vs, os[i]? = some (e, vs) → ∃ ver, hA'.objs.get (keep.getD i 0) = some (ver, .cells false e (mapVs (fun j => keep.getD j 0) vs))) {v0 : AVal} {cv : Value} (hv0 : plainV os.length v0 = true) (hv : VR P GA' (mapV (fun j => keep.getD j 0) v0) cv) :
    ∃ G'', Rel P N w0 G'' (layH h.next os h) w' ∧ Ext G h w G'' (layH h.next os h) w' ∧ VR P G'' (mapV (h.next + ·) v0) cv := by
  have hfr : ∀ b, b < w.heap.size → w'.heap[b]? = w.heap[b]? := fun b hb => E2.frame b hb fun id x gi hx hf _ => by rw [hro id x hx] at hf; cases hf
  have hnew : ∀ (i : Nat) e vs, os[i]? = some (e, vs) → ∃ ver gi ob, hA'.objs.get (keep.getD i 0) = some (ver, .cells false e (mapVs (fun j => keep.getD j 0) vs)) ∧ GA' (keep.getD i 0) = some gi ∧ w'.heap[gi.blk]? = some ob ∧ OR P GA' gi (.cells false e (mapVs (fun j => keep.getD j 0) vs)) ob ∧ w.heap.size ≤ gi.blk := by
    intro i e vs hi
    obtain ⟨ver, h1⟩ := hos i e vs hi
    obtain ⟨gi, h2, ob, h3, h4⟩ := R2.obj _ _ _ h1
    refine ⟨ver, gi, ob, h1, h2, h3, h4, ?_⟩
    rcases E2.owned _ _ gi h1 rfl h2 with h5 | ⟨id0, x0, _, h5, h6, _⟩
    · exact h5
    · rw [hro id0 x0 h5] at h6; cases h6
  let G'' : GM := fun i => if h.next ≤ i ∧ i < h.next + os.length then GA' (keep.getD (i - h.next) 0) else G i
  have hG1 : ∀ i, i < os.length → G'' (h.next + i) = GA' (keep.getD i 0) := fun i hi => by
    show (if _ then _ else _) = _
    rw [if_pos (by omega), show h.next + i - h.next = i by omega]
  have hG2 : ∀ i, i < h.next → G'' i = G i := fun i hi => by
    show (if _ then _ else _) = _
    rw [if_neg (by omega)]
  have hle : GLe G G'' := fun i gi hi => by
    rcases Nat.lt_or_ge i h.next with hl | hl
    · rw [hG2 i hl]; exact hi
    · rw [R1.fresh i hl] at hi; cases hi
  have hren : ∀ i, i < os.length → ∀ gi, GA' (keep.getD i 0) = some gi → G'' (h.next + i) = some gi := fun i hi gi hg => by rw [hG1 i hi]; exact hg
  have hcase : ∀ id x, (layH h.next os h).objs.get id = some x → (id < h.next ∧ h.objs.get id = some x) ∨ ∃ i e vs, id = h.next + i ∧ i < os.length ∧ os[i]? = some (e, vs) ∧ x = (h.next + i, .cells false e (mapVs (h.next + ·) vs)) := by
    intro id x hx
    by_cases hr : h.next ≤ id ∧ id < h.next + os.length
    · obtain ⟨i, rfl⟩ : ∃ i, id = h.next + i := ⟨id - h.next, by omega⟩
      have hi : i < os.length := by omega
      have := layH_new h.next os h i os[i].1 os[i].2 (List.getElem?_eq_getElem hi)
      rw [this] at hx
      simp only [Option.some.injEq] at hx
      exact .inr ⟨i, os[i].1, os[i].2, rfl, hi, List.getElem?_eq_getElem hi, hx.symm⟩
    · rw [layH_old _ _ _ _ (by omega)] at hx
      rcases Nat.lt_or_ge id h.next with hl | hl
      · exact .inl ⟨hl, hx⟩
      · obtain ⟨gi, hgi, _⟩ := R1.obj id x.1 x.2 hx
        rw [R1.fresh id hl] at hgi; cases hgi
  have hblk : ∀ id x gi, h.objs.get id = some x → G id = some gi → gi.blk < w.heap.size := fun id x gi hx hg => by
    obtain ⟨gi', h1, ob, h2, _⟩ := R1.obj id x.1 x.2 hx
    rw [hg] at h1; cases h1
    exact lt_of_heap h2
  have hown : ∀ (id : Nat) (x : Nat × AObj) gi, (layH h.next os h).objs.get id = some x → x.2.ro = false → G'' id = some gi → w.heap.size ≤ gi.blk ∨ ∃ id0 x0 gi0, h.objs.get id0 = some x0 ∧ x0.2.ro = false ∧ G id0 = some gi0 ∧ gi0.blk = gi.blk := by
    intro id x gi hx hf hg
    rcases hcase id x hx with ⟨hl, h1⟩ | ⟨i, e, vs, rfl, hi, h1, rfl⟩
    · rw [hG2 id hl] at hg
      exact .inr ⟨id, x, gi, h1, hf, hg, rfl⟩
    · obtain ⟨ver, gi', ob, k1, k2, k3, k4, k5⟩ := hnew i e vs h1
      rw [hG1 i hi, k2] at hg; cases hg
      exact .inl k5
  refine ⟨G'', ⟨?_, ?_, ?_, ?_, ?_, ?_, ?_, R2.below, R2.size, ?_⟩, ⟨hle, ?_, ?_, ?_, hown, E2.size⟩, VR.ren hren hv0 hv⟩
  · intro id ver o hx
    rcases hcase id _ hx with ⟨hl, h1⟩ | ⟨i, e, vs, rfl, hi, h1, h2⟩
    · obtain ⟨gi, k1, ob, k2, k3⟩ := R1.obj id ver o h1
      exact ⟨gi, hle _ _ k1, ob, by rw [hfr _ (lt_of_heap k2)]; exact k2, k3.mono hle⟩
    · simp only [Prod.mk.injEq] at h2
      obtain ⟨rfl, rfl⟩ := h2
      obtain ⟨ver, gi', ob, k1, k2, k3, k4, k5⟩ := hnew i e vs h1
      refine ⟨gi', hren i hi _ k2, ob, k3, ?_⟩
      obtain ⟨c, t, fr, q1, q2, q3, q4, q5, q6⟩ := k4
      rw [mapVs_length] at q5 q6
      refine ⟨c, t, fr, q1, q2, q3, q4, by rw [mapVs_length]; exact q5, ?_⟩
      rw [mapVs_length]
      exact VsR.ren hren (hpl (e, vs) (List.mem_of_getElem? h1)) q6
  · intro id id' x x' gi gi' hx hx' hf hg hg' hb
    rcases hcase id _ hx with ⟨hl, h1⟩ | ⟨i, e, vs, rfl, hi, h1, rfl⟩
    · rw [hG2 id hl] at hg
      have hlt := hblk id x gi h1 hg
      rcases hcase id' _ hx' with ⟨hl', h1'⟩ | ⟨i', e', vs', rfl, hi', h1', rfl⟩
      · rw [hG2 id' hl'] at hg'
        exact R1.inj id id' x x' gi gi' h1 h1' hf hg hg' hb
      · obtain ⟨ver, gi2, ob, k1, k2, k3, k4, k5⟩ := hnew i' e' vs' h1'
        rw [hG1 i' hi', k2] at hg'; cases hg'
        omega
    · obtain ⟨ver, gi1, ob, k1, k2, k3, k4, k5⟩ := hnew i e vs h1
      rw [hG1 i hi, k2] at hg; cases hg
      rcases hcase id' _ hx' with ⟨hl', h1'⟩ | ⟨i', e', vs', rfl, hi', h1', rfl⟩
      · rw [hG2 id' hl'] at hg'
        have hlt := hblk id' x' gi' h1' hg'
        omega
      · obtain ⟨ver', gi2, ob', k1', k2', k3', k4', k5'⟩ := hnew i' e' vs' h1'
        rw [hG1 i' hi', k2'] at hg'; cases hg'
        have he := R2.inj _ _ _ _ gi gi' k1 k1' rfl k2 k2' hb
        have e1 : keep.getD i 0 = keep[i]'(by omega) := by simp [List.getD, List.getElem?_eq_getElem (show i < keep.length by omega)]
        have e2 : keep.getD i' 0 = keep[i']'(by omega) := by simp [List.getD, List.getElem?_eq_getElem (show i' < keep.length by omega)]
        rw [e1, e2] at he
        have := (List.getElem_inj hnd).1 he
        rw [this]
  · intro id ver o gi hx hg hf
    rcases hcase id _ hx with ⟨hl, h1⟩ | ⟨i, e, vs, rfl, hi, h1, h2⟩
    · rw [hG2 id hl] at hg
      exact R1.own id ver o gi h1 hg hf
    · obtain ⟨ver', gi1, ob, k1, k2, k3, k4, k5⟩ := hnew i e vs h1
      rw [hG1 i hi, k2] at hg; cases hg
      exact R2.own _ _ _ _ k1 k2 rfl
  · intro id hid
    rw [layH_next] at hid
    show (if _ then _ else _) = _
    rw [if_neg (by omega)]
    exact R1.fresh id (by omega)
  · intro id ver o hx
    rw [layH_next]
    rcases hcase id _ hx with ⟨hl, h1⟩ | ⟨i, e, vs, rfl, hi, h1, h2⟩
    · have := R1.vers id ver o h1; omega
    · simp only [Prod.mk.injEq] at h2; omega
  · intro g hg
    have := R1.low
    rw [hG2 g (by omega)]; exact R1.glob g hg
  · rw [layH_next]; have := R1.low; omega
  · intro id ver o gi hx hg hr
    rcases hcase id _ hx with ⟨hl, h1⟩ | ⟨i, e, vs, rfl, hi, h1, h2⟩
    · rw [hG2 id hl] at hg
      exact R1.rolow id ver o gi h1 hg hr
    · simp only [Prod.mk.injEq] at h2
      rw [h2.2] at hr; cases hr
  · rw [layH_next]; omega
  · intro id ver o hx
    rcases hcase id _ hx with ⟨hl, h1⟩ | ⟨i, e, vs, rfl, hi, h1, h2⟩
    · refine .inr ⟨h1, fun gi hg => hfr _ (hblk id _ gi h1 hg)⟩
    · simp only [Prod.mk.injEq] at h2; exact .inl (by omega)
  · intro b hb _
    exact hfr b hb
end
end Go.Ab
end
section
/-
  A call whose arguments are known, run once: it is taken at that word wherever it is made.
-/
namespace Go.Ab
open Go.RowKit (Below)

def eqO : Option (Nat × Nat) → Option (Nat × Nat) → Bool
  | none, none => true
  | some p, some q => Nat.beq p.1 q.1 && Nat.beq p.2 q.2
  | _, _ => false
theorem eqO_sound : ∀ {a b : Option (Nat × Nat)}, eqO a b = true → a = b
  | none, none, _ => rfl
  | some (p1, p2), some (q1, q2), h => by
    simp only [eqO, Bool.and_eq_true] at h
    rw [Nat.eq_of_beq_eq_true h.1, Nat.eq_of_beq_eq_true h.2]
  | none, some _, h => by cases h
  | some _, none, h => by cases h
mutual
def eqV : AVal → AVal → Bool
  | .bool a, .bool b => a == b
  | .int k a, .int k' b => decide (k = k') && a == b
  | .str s, .str t => decide (s = t)
  | .ptr x, .ptr y => eqO x y
  | .slice x n, .slice y m => eqO x y && Nat.beq n m
  | .slice0, .slice0 => true
  | .sliceE, .sliceE => true
  | .agg l, .agg m => eqVs l m
  | .tuple l, .tuple m => eqVs l m
  | _, _ => false
def eqVs : List AVal → List AVal → Bool
  | [], [] => true
  | x :: r, y :: s => eqV x y && eqVs r s
  | _, _ => false
end
mutual
theorem eqV_sound : ∀ {a b : AVal}, eqV a b = true → a = b := by
  intro a b h
  cases a with
  | bool x => cases b <;> simp [eqV] at h; rw [h]
  | int k x => cases b <;> simp [eqV] at h; rw [h.1, h.2]
  | str x => cases b <;> simp [eqV] at h; rw [h]
  | ptr x => cases b <;> simp only [eqV, Bool.false_eq_true] at h; rw [eqO_sound h]
  | slice x n => cases b <;> simp only [eqV, Bool.false_eq_true, Bool.and_eq_true] at h; rw [eqO_sound h.1, Nat.eq_of_beq_eq_true h.2]
  | slice0 => cases b <;> first | rfl | cases h
  | sliceE => cases b <;> first | rfl | cases h
  | agg l => cases b <;> simp only [eqV, Bool.false_eq_true] at h; rw [eqVs_sound h]
  | tuple l => cases b <;> simp only [eqV, Bool.false_eq_true] at h; rw [eqVs_sound h]
  | map x => cases b <;> simp [eqV] at h
  | func f l m => cases b <;> simp [eqV] at h
  | yield l => cases b <;> simp [eqV] at h
  | nilFunc => cases b <;> simp [eqV] at h
  | iface t x => cases b <;> simp [eqV] at h
  | nilIface => cases b <;> simp [eqV] at h
theorem eqVs_sound : ∀ {a b : List AVal}, eqVs a b = true → a = b := by
  intro a b h
  cases a with
  | nil => cases b with
    | nil => rfl
    | cons _ _ => simp [eqVs] at h
  | cons x r => cases b with
    | nil => simp [eqVs] at h
    | cons y s =>
      simp only [eqVs, Bool.and_eq_true] at h
      rw [eqV_sound h.1, eqVs_sound h.2]
end

def D.all {α : Type} (p : α → Bool) : D α → Bool
  | .ret a => p a
  | .fail => false
  | .ask n k => Nat.blt 0 n && (List.range n).all fun i => (k i).all p
theorem D.all_sat {α : Type} {p : α → Bool} : ∀ {d : D α}, d.all p = true → d.sat fun a => p a = true
  | .ret _, h => h
  | .fail, h => by cases h
  | .ask n k, h => by
    simp only [D.all, Bool.and_eq_true, List.all_eq_true, List.mem_range] at h
    exact ⟨Nat.blt_eq.mp h.1, fun i hi => D.all_sat (h.2 i hi)⟩

def isAt (keep : List Nat) (v0 : AVal) (os : List (TypeId × List AVal)) (r : AVal × AHeap) : Bool :=
  eqV r.1 (mapV (fun j => keep.getD j 0) v0) && (List.range os.length).all fun i => match os[i]?, r.2.objs.get (keep.getD i 0) with
    | some (e, vs), some (_, .cells false e' vs') => Nat.beq e e' && eqVs vs' (mapVs (fun j => keep.getD j 0) vs)
    | _, _ => false
theorem isAt_sound {keep : List Nat} {v0 : AVal} {os : List (TypeId × List AVal)} {r : AVal × AHeap} (h : isAt keep v0 os r = true) :
    r.1 = mapV (fun j => keep.getD j 0) v0 ∧ ∀ (i : Nat) e vs, os[i]? = some (e, vs) → ∃ ver, r.2.objs.get (keep.getD i 0) = some (ver, .cells false e (mapVs (fun j => keep.getD j 0) vs)) := by
  simp only [isAt, Bool.and_eq_true, List.all_eq_true, List.mem_range] at h
  refine ⟨eqV_sound h.1, fun i e vs hi => ?_⟩
  have := h.2 i (List.getElem?_eq_some_iff.1 hi).1
  rw [hi] at this
  split at this
  · rename_i e1 vs1 ver e' vs' h1 h2
    simp only [Option.some.injEq, Prod.mk.injEq] at h1
    obtain ⟨rfl, rfl⟩ := h1
    simp only [Bool.and_eq_true] at this
    obtain ⟨h4, h3⟩ := this
    exact ⟨ver, by rw [h2, Nat.eq_of_beq_eq_true h4, eqVs_sound h3]⟩
  · cases this

mutual
theorem mapV_plain {f : Nat → Nat} : ∀ {x : AVal}, plainV 0 x = true → mapV f x = x
  | .bool _, _ => rfl
  | .int _ _, _ => rfl
  | .str _, _ => rfl
  | .ptr none, _ => rfl
  | .ptr (some p), h => by simp [plainV, Nat.blt] at h
  | .slice none _, _ => rfl
  | .slice (some p) _, h => by simp [plainV, Nat.blt] at h
  | .slice0, _ => rfl
  | .sliceE, _ => rfl
  | .map none, _ => rfl
  | .map (some _), h => by cases h
  | .func _ _ _, h => by cases h
  | .yield _, h => by cases h
  | .nilFunc, _ => rfl
  | .iface t v, h => congrArg (AVal.iface t) (mapV_plain (x := v) h)
  | .nilIface, _ => rfl
  | .agg _, h => by simp only [mapV]; rw [mapVs_plain h]
  | .tuple _, h => by simp only [mapV]; rw [mapVs_plain h]
theorem mapVs_plain {f : Nat → Nat} : ∀ {x : List AVal}, plainVs 0 x = true → mapVs f x = x
  | [], _ => rfl
  | _ :: _, h => by
    simp only [plainVs, Bool.and_eq_true] at h
    simp only [mapVs]
    rw [mapV_plain h.1, mapVs_plain h.2]
end

section
variable {P : Program} {fns : FuncId → Option AFunc} {summ : FuncId → List AVal → AHeap → Option (D (AVal × AHeap))} {N : Nat} {w0 : World}

def tblH (t nx : Nat) (tab : List AVal) : AHeap := { objs := (T.leaf : T (Nat × AObj)).set t (some (0, .cells true 0 tab)), next := nx }
theorem tblH_get {t nx : Nat} {tab : List AVal} {id : Nat} {x : Nat × AObj} (h : (tblH t nx tab).objs.get id = some x) : id = t ∧ x = (0, .cells true 0 tab) := by
  simp only [tblH, T.get_set, T.get_leaf] at h
  split at h
  · rename_i e; simp only [Option.some.injEq] at h; exact ⟨e, h.symm⟩
  · cases h
def TblOK (P : Program) (N : Nat) (w0 : World) (t nx : Nat) (tab : List AVal) : Prop :=
  t < P.globals.size ∧ P.globals.size ≤ nx ∧ P.globals.size ≤ N ∧ 0 < nx ∧ ∃ c e fr, w0.heap[t]? = some (.cells c e fr) ∧ tab.length ≤ c.size ∧ VsR P (fun _ => none) tab (c.toList.take tab.length)

theorem rel_tbl {G : GM} {h : AHeap} {w : World} {t nx : Nat} {tab : List AVal} (R : Rel P N w0 G h w) (T : TblOK P N w0 t nx tab) : ∃ GA, Rel P N w0 GA (tblH t nx tab) w := by
  obtain ⟨ht, hn, hN, hp, c, e, fr, hc, hl, hv⟩ := T
  have hw : w.heap[t]? = some (.cells c e fr) := by rw [R.below.block t (by omega)]; exact hc
  refine ⟨fun i => if i = t then some ⟨t, c.size, 0, 0⟩ else if i < P.globals.size then some ⟨i, 0, 0, 0⟩ else none, ?_, ?_, ?_, ?_, ?_, ?_, hn, R.below, R.size, ?_⟩
  · intro id ver o hx
    obtain ⟨rfl, h1⟩ := tblH_get hx
    simp only [Prod.mk.injEq] at h1
    obtain ⟨rfl, rfl⟩ := h1
    exact ⟨_, if_pos rfl, _, hw, c, e, fr, rfl, (fun hh => by cases hh), by simp, rfl, hl, by rw [List.drop_zero]; exact hv.mono (fun _ _ hh => by cases hh)⟩
  · intro id id' x x' gi gi' hx _ hf
    obtain ⟨_, rfl⟩ := tblH_get hx
    cases hf
  · intro id ver o gi hx _ hf
    obtain ⟨_, h1⟩ := tblH_get hx
    simp only [Prod.mk.injEq] at h1
    rw [h1.2] at hf; cases hf
  · intro id hid
    have : nx ≤ id := hid
    show (if _ then _ else _) = _
    rw [if_neg (by omega), if_neg (by omega)]
  · intro id ver o hx
    obtain ⟨_, h1⟩ := tblH_get hx
    simp only [Prod.mk.injEq] at h1
    show ver < nx
    omega
  · intro g hg
    by_cases hgt : g = t
    · exact ⟨_, if_pos hgt, by rw [hgt], rfl⟩
    · exact ⟨⟨g, 0, 0, 0⟩, by simp [hgt, hg], rfl, rfl⟩
  · intro id ver o gi hx hg _
    obtain ⟨rfl, _⟩ := tblH_get hx
    simp only [if_true, Option.some.injEq] at hg
    subst hg
    show id < N
    omega

theorem summ_run {n : Nat} {f : FuncId} {args : List AVal} {t nx : Nat} {tab : List AVal} {keep : List Nat} {v0 : AVal} {os : List (TypeId × List AVal)} (hm : P.follows .mixedOrders = true) (hF : FnsOK P fns) (hM : SummOK P N w0 summ) (hT : TblOK P N w0 t nx tab)
    (hpa : plainVs 0 args = true) (hk : keep.length = os.length) (hnd : keep.Nodup) (hpl : ∀ o ∈ os, plainVs os.length o.2 = true) (hv0 : plainV os.length v0 = true)
    (he : ((run fns summ n).call f args (tblH t nx tab)).all (isAt keep v0 os) = true) {G : GM} {h : AHeap} {w : World} {argsV : Array Value} {Q : AVal × AHeap → Prop} (R : Rel P N w0 G h w) (hv : VsR P G args argsV.toList) (hq : Q (mapV (h.next + ·) v0, layH h.next os h)) :
    CallsIn (FR none) 0 P f argsV w (PostC P N w0 G h w Q) := by
  obtain ⟨GA, RA⟩ := rel_tbl R hT
  have hvA : VsR P GA args argsV.toList := by
    have := VsR.ren (G := G) (G' := GA) (f := id) (g := id) (k := 0) (fun i hi => absurd hi (Nat.not_lt_zero i)) hpa (by rw [mapVs_plain hpa]; exact hv)
    rwa [mapVs_plain hpa] at this
  refine ((run_sound hF hM (fun _ hS => draw_sound hm hS) n).call f args _ GA w argsV _ RA hvA (D.all_sat he)).mono fun e w' hp => ?_
  obtain ⟨v, h', G', cv, rfl, h1, h2, h3, h4⟩ := hp
  obtain ⟨h5, h6⟩ := isAt_sound h1
  simp only at h5 h6
  subst h5
  obtain ⟨G'', k1, k2, k3⟩ := R.beside h2 h3 (fun id x hx => by obtain ⟨_, rfl⟩ := tblH_get hx; rfl) hk hnd hpl h6 hv0 h4
  exact ⟨_, _, G'', cv, rfl, hq, k1, k2, k3⟩
end
end Go.Ab
end
section
/-
  Functions of Go's library that are taken at their word: what the kit's contracts say of them, said of the small language.
-/
namespace Go.Ab
open Go.RowKit (Below)
open Go.Shelf Go.Proofs

section
variable {P : Program} {ρ : Ren} {N : Nat} {w0 : World}

theorem post_same {f : FuncId} {G : GM} {h : AHeap} {w : World} {argsV : Array Value} {v : AVal} {cv : Value} {Q : AVal × AHeap → Prop} (hR : Rel P N w0 G h w) (hv : VR P G v cv) (hq : Q (v, h)) (hc : Calls P f argsV w fun e w' => e = .returned cv ∧ w' = w) :
    CallsIn (FR none) 0 P f argsV w (PostC P N w0 G h w Q) :=
  callsIn_wide.2 (hc.mono fun e w' hp => ⟨v, h, G, cv, hp.1, hq, by rw [hp.2]; exact hR, by rw [hp.2]; exact Ext.refl _ _ _, hv⟩)

def numsOf (l : List UInt8) : List Nat := l.map UInt8.toNat
theorem numsOf_inj : ∀ {a b : List UInt8}, numsOf a = numsOf b → a = b
  | [], [], _ => rfl
  | [], _ :: _, h => by simp [numsOf] at h
  | _ :: _, [], h => by simp [numsOf] at h
  | x :: a, y :: b, h => by
    simp only [numsOf, List.map_cons, List.cons.injEq] at h
    rw [UInt8.toNat_inj.1 h.1, numsOf_inj h.2]

def prefN : List Nat → List Nat → Bool
  | [], _ => true
  | _ :: _, [] => false
  | a :: x, b :: y => match Nat.beq a b with | true => prefN x y | false => false
def inN : List Nat → List Nat → Bool
  | [], t => prefN t []
  | a :: s, t => match prefN t (a :: s) with | true => true | false => inN s t
theorem pref_nums : ∀ (a b : List UInt8), prefN (numsOf a) (numsOf b) = a.isPrefixOf b
  | [], _ => rfl
  | _ :: _, [] => rfl
  | x :: a, y :: b => by
    simp only [numsOf, List.map_cons, prefN, List.isPrefixOf]
    cases hxy : Nat.beq x.toNat y.toNat with
    | true =>
      have : x = y := UInt8.toNat_inj.1 (Nat.eq_of_beq_eq_true hxy)
      rw [this]
      simp only [beq_self_eq_true, Bool.true_and]
      exact pref_nums a b
    | false =>
      have : (x == y) = false := by
        rw [Bool.eq_false_iff]
        intro h
        have := eq_of_beq h
        rw [this, Nat.beq_refl] at hxy; cases hxy
      rw [this]; rfl
theorem in_nums : ∀ (s t : List UInt8), inN (numsOf s) (numsOf t) = Lib.contains s t
  | [], t => by
    simp only [numsOf, List.map_nil, inN, Lib.contains, Lib.index]
    cases t <;> rfl
  | a :: s, t => by
    have ih := in_nums s t
    have hp := pref_nums t (a :: s)
    simp only [Lib.contains, Lib.index] at ih ⊢
    simp only [numsOf, List.map_cons, inN] at hp ih ⊢
    rw [hp]
    rcases Bool.eq_false_or_eq_true (t.isPrefixOf (a :: s)) with h | h
    · simp [h]
    · simp only [h, Bool.false_eq_true, if_false]
      rw [ih]
      have := Lib.index_ge s t
      by_cases hm : Lib.index s t = -1
      · simp [hm]
      · have h2 : (Lib.index s t == -1) = false := by simpa using hm
        rw [h2]
        simp only [Bool.false_eq_true, if_false, decide_eq_decide]
        omega

theorem str_of {G : GM} {s : List Nat} {v : Value} (h : VR P G (.str s) v) : ∃ b : ByteArray, v = .string b ∧ numsOf b.data.toList = s := h
theorem args1 {G : GM} {a : AVal} {argsV : Array Value} (h : VsR P G [a] argsV.toList) : ∃ x, argsV = #[x] ∧ VR P G a x := by
  obtain ⟨y, ys, h1, h2, h3⟩ := h
  have h3 : ys = [] := h3
  subst h3
  exact ⟨y, by cases argsV; simp_all, h2⟩
theorem args2 {G : GM} {a b : AVal} {argsV : Array Value} (h : VsR P G [a, b] argsV.toList) : ∃ x y, argsV = #[x, y] ∧ VR P G a x ∧ VR P G b y := by
  obtain ⟨x, xs, h1, h2, y, ys, h4, h5, h6⟩ := h
  have h6 : ys = [] := h6
  subst h6; subst h4
  exact ⟨x, y, by cases argsV; simp_all, h2, h5⟩

theorem s_contains (L : Lays.n144 P ρ) (hc : ∃ m, w0.cell? ⟨ρ.g 1, 0, none⟩ = some (.int .i64 m)) (hg : ρ.g 1 < N) {s t : List Nat} {h : AHeap} (hs : s.length < 4294967281) {G : GM} {argsV : Array Value} {w : World} {Q : AVal × AHeap → Prop} (hR : Rel P N w0 G h w) (hv : VsR P G [.str s, .str t] argsV.toList)
    (hq : Q (.bool (inN s t), h)) : CallsIn (FR none) 0 P (ρ.f 144) argsV w (PostC P N w0 G h w Q) := by
  obtain ⟨x, y, rfl, h1, h2⟩ := args2 hv
  obtain ⟨b1, rfl, rfl⟩ := str_of h1
  obtain ⟨b2, rfl, rfl⟩ := str_of h2
  obtain ⟨m, hm⟩ := hc
  have hm' : w.cell? ⟨ρ.g 1, 0, none⟩ = some (.int .i64 m) := by
    simp only [World.cell?] at hm ⊢
    rw [hR.below.block _ hg]; exact hm
  have hs' : b1.size < 4294967281 := by
    have : (numsOf b1.data.toList).length = b1.size := by simp only [numsOf, List.length_map]; rfl
    omega
  exact post_same hR (v := .bool (inN _ _)) rfl hq ((Any.strings_Contains L b1 b2 m w hs' hm').mono fun e w' hp => ⟨by rw [hp.1, in_nums], hp.2⟩)

theorem s_check_used (L : Lays.n240 P ρ) (X : Builder.X72 P ρ) {h : AHeap} {b ver : Nat} {ro : Bool} {e : TypeId} {r : List AVal} (hb : h.objs.get b = some (ver, .cells false e (.ptr (some (b, 0)) :: r))) {G : GM} {argsV : Array Value} {w : World} {Q : AVal × AHeap → Prop} (hR : Rel P N w0 G h w) (hv : VsR P G [.ptr (some (b, 0))] argsV.toList)
    (hq : Q (.tuple [], h)) : CallsIn (FR none) 0 P (ρ.f 240) argsV w (PostC P N w0 G h w Q) := by
  obtain ⟨x, rfl, gi, hg, rfl⟩ := args1 hv
  obtain ⟨gi', h1, ob, h2, c, t, fr, rfl, hf, hfit, _, hl, hvs⟩ := hR.obj b _ _ hb
  have hg' : G b = some gi := hg
  rw [hg'] at h1; cases h1
  obtain ⟨hsz, hoff, ht, hfr⟩ := hf rfl
  rw [hoff, List.drop_zero] at hvs
  obtain ⟨y, ys, e1, ⟨gi2, k1, rfl⟩, _⟩ := hvs
  have k1 : G b = some gi2 := k1
  rw [hg'] at k1; cases k1
  have hc0 : c[0]? = some (.pointer (some ⟨gi.blk, 0, none⟩)) := by
    have := congrArg (fun l => l[0]?) e1
    simp only [List.getElem?_cons_zero] at this
    rw [List.getElem?_take, if_pos (by simp)] at this
    simpa [hoff] using this
  have hcell : w.cell? ⟨gi.blk, 0, none⟩ = some (.pointer (some ⟨gi.blk, 0, none⟩)) := by simp [World.cell?, h2, hc0]
  simp only [hoff, Nat.add_zero]
  exact post_same hR (v := .tuple []) ⟨#[], rfl, rfl⟩ hq (Any.Builder_copyCheck_used L X gi.blk w hcell)

theorem lies_self {T : TypeId} (hc : P.cellsOf T = 2) {c : Nat} (h : 1 ≤ c) : liesAt P P.depth T c 0 T 1 = true := by
  have hd : P.depth = (2 * (P.types.size + Made.depth) + 1) + 1 := rfl
  have hs : sameLayout P P.depth T T = true := by
    rw [hd, sameLayout]; simp
  rw [hd] at hs ⊢
  rw [liesAt]
  have : rowAt P (sameLayout P P.depth · T) P.depth T c 0 1 = true := by
    rw [hd] at *
    rw [rowAt]
    simp [hc, hs, h]
  rw [this]; rfl

set_option maxHeartbeats 1000000 in
set_option maxRecDepth 100000 in
theorem copyCheck_fresh (L : Lays.n240 P ρ) (X : Builder.X72 P ρ) (b m : Nat) (hm : 2 ≤ m) (w : World) (h0 : w.cell? ⟨b, 0, none⟩ = some (.pointer none)) (hsh : w.shape? b = some ((ρ.t 72), m)) (hfz : w.frozen? ⟨b, 0, none⟩ = false) :
    Calls P (ρ.f 240) #[.pointer (some ⟨b, 0, none⟩)] w fun e w' => e = .returned (.tuple #[]) ∧ w' = w.setCell ⟨b, 0, none⟩ (.pointer (some ⟨b, 0, none⟩)) := by
  obtain ⟨j, hj, hjs⟩ := Option.map_eq_some_iff.1 X.sizeBuilder
  have hc2 : P.cellsOf (ρ.t 72) = 2 := by simp [Program.cellsOf, hj, hjs]
  have hlies : liesAt P P.depth (ρ.t 72) (m / P.cellsOf (ρ.t 72)) 0 (ρ.t 72) 1 = true := lies_self hc2 (by rw [hc2]; omega)
  have mixed := L.mixed
  have t72 := L.t72; have a72 := L.a72; have z72 := L.z72; have v72 := L.v72; have u72 := run_underlying L.t72
  have t70 := L.t70; have a70 := L.a70; have z70 := L.z70; have v70 := L.v70; have u70 := run_underlying L.t70
  have t9 := L.t9; have a9 := L.a9; have z9 := L.z9; have v9 := L.v9; have u9 := run_underlying L.t9
  have t4 := L.t4; have a4 := L.a4; have z4 := L.z4; have v4 := L.v4; have u4 := run_underlying L.t4
  have t164 := L.t164; have a164 := L.a164; have z164 := L.z164; have v164 := L.v164; have u164 := run_underlying L.t164
  go_enter L.f240, Body.n240_ntmps ρ
  go_wp2
  rw [Lib.run_to_unsafe w ⟨b, 0, none⟩ L.t70 L.t164 hj (by rw [hjs]; decide) hsh (show 0 < m by omega)]
  simp only [Result.andThen]
  rw [Oper.upon_value]
  go_wp2
  rw [run_callFunc_extern L.f276 (by kernel_rfl) (by kernel_rfl) (by kernel_rfl) (e := Extern.AbiNoEscape.same) (by kernel_rfl)]
  rw [Lib.run_noEscape]
  simp only [Result.andThen]
  rw [Oper.upon_value]
  go_wp2
  rw [Lib.run_from_unsafe w ⟨b, 0, none⟩ L.t164 L.t70 hj hsh hlies]
  simp only [Result.andThen]
  rw [Oper.upon_value]
  go_wp2
  go_end0
  exact ⟨rfl, rfl⟩

theorem s_check_fresh (L : Lays.n240 P ρ) (X : Builder.X72 P ρ) {h : AHeap} {b ver : Nat} {s : AVal} (hs : one s = true) (hb : h.objs.get b = some (ver, .cells false (ρ.t 72) [.ptr none, s])) {G : GM} {argsV : Array Value} {w : World} {Q : AVal × AHeap → Prop} (hR : Rel P N w0 G h w) (hv : VsR P G [.ptr (some (b, 0))] argsV.toList)
    (hq : Q (.tuple [], putObjA h b (.cells false (ρ.t 72) [.ptr (some (b, 0)), s]))) : CallsIn (FR none) 0 P (ρ.f 240) argsV w (PostC P N w0 G h w Q) := by
  obtain ⟨x, rfl, gi, hg, rfl⟩ := args1 hv
  obtain ⟨gi', h1, ob, h2, c, t, fr, rfl, hf, hfit, hel, hl, hvs⟩ := hR.obj b _ _ hb
  have hg' : G b = some gi := hg
  rw [hg'] at h1; cases h1
  obtain ⟨hsz, hoff, ht, hfr⟩ := hf rfl
  subst ht; subst hfr
  rw [hoff, List.drop_zero] at hvs
  have hc2 : 2 ≤ c.size := by rw [hsz]; simpa using hl
  obtain ⟨y, ys, e1, hy, z, zs, e2, hz, e3⟩ := hvs
  have e3 : zs = [] := e3
  subst e3; subst e2
  have hy : y = .pointer none := hy
  subst hy
  have hg0 : ∀ i : Nat, i < 2 → c[i]? = ([.pointer none, z] : List Value)[i]? := fun i hi => by
    have := congrArg (fun l => l[i]?) e1
    simp only [List.getElem?_take] at this
    rw [if_pos (by simpa using hi)] at this
    simpa using this
  have hcell : w.cell? ⟨gi.blk, 0, none⟩ = some (.pointer none) := by simp [World.cell?, h2, hg0 0 (by decide)]
  have hsh : w.shape? gi.blk = some (ρ.t 72, c.size) := by simp [World.shape?, h2]
  have hfz : w.frozen? ⟨gi.blk, 0, none⟩ = false := frozen_of_cells h2
  have hN : N ≤ gi.blk := hR.own b _ _ gi hb hg' rfl
  simp only [hoff, Nat.add_zero]
  refine callsIn_wide.2 ((copyCheck_fresh L X gi.blk c.size hc2 w hcell hsh hfz).mono fun e w' hp => ?_)
  obtain ⟨rfl, rfl⟩ := hp
  have hset : (w.setCell ⟨gi.blk, 0, none⟩ (.pointer (some ⟨gi.blk, 0, none⟩))).heap[gi.blk]? = some (.cells (c.setIfInBounds 0 (.pointer (some ⟨gi.blk, 0, none⟩))) (ρ.t 72) (0, 0)) := by
    show (w.heap.modify gi.blk _)[gi.blk]? = _
    rw [Array.getElem?_modify]; simp [h2]
  have hoth : ∀ k, k ≠ gi.blk → (w.setCell ⟨gi.blk, 0, none⟩ (.pointer (some ⟨gi.blk, 0, none⟩))).heap[k]? = w.heap[k]? := fun k hk => by
    show (w.heap.modify gi.blk _)[k]? = _
    rw [Array.getElem?_modify]; simp [Ne.symm hk]
  have hput := hR.put (w' := w.setCell ⟨gi.blk, 0, none⟩ (.pointer (some ⟨gi.blk, 0, none⟩))) (o' := .cells false (ρ.t 72) [.ptr (some (b, 0)), s]) (ob' := .cells (c.setIfInBounds 0 (.pointer (some ⟨gi.blk, 0, none⟩))) (ρ.t 72) (0, 0)) hb rfl rfl hg' hset hoth
    ⟨rfl, rfl, rfl, by simp [World.setCell], fun k hk => hoth k (by omega)⟩
    ⟨_, _, (0, 0), rfl, fun _ => ⟨by simp [hsz], hoff, rfl, rfl⟩, by simpa using hfit, hel, by simpa using hl, by
      rw [hoff, List.drop_zero]
      have : (c.setIfInBounds 0 (.pointer (some ⟨gi.blk, 0, none⟩))).toList.take 2 = [.pointer (some ⟨gi.blk, 0, none⟩), z] := by
        rw [Array.toList_setIfInBounds]
        have e1' : c.toList.take 2 = [.pointer none, z] := e1
        match hl : c.toList, e1' with
        | x :: y :: r, e => simp at e ⊢; exact e.2
      show VsR P G _ (List.take 2 _)
      rw [this]
      exact ⟨_, _, rfl, ⟨gi, hg', by simp [hoff]⟩, z, [], rfl, hz, rfl⟩⟩
  exact ⟨.tuple [], _, G, .tuple #[], rfl, hq, hput.1, hput.2, ⟨#[], rfl, rfl⟩⟩

theorem Rel.aside {G : GM} {h : AHeap} {w w' : World} (hR : Rel P N w0 G h w) (hb : Below N w w') (hk : ∀ id x gi, h.objs.get id = some x → G id = some gi → w'.heap[gi.blk]? = w.heap[gi.blk]?) : Rel P N w0 G h w' :=
  ⟨fun id ver o hx => by
      obtain ⟨gi, h1, ob, h2, h3⟩ := hR.obj id ver o hx
      exact ⟨gi, h1, ob, by rw [hk id _ gi hx h1]; exact h2, h3⟩,
    hR.inj, hR.own, hR.fresh, hR.vers, hR.glob, hR.low, hR.below.trans hb, Nat.le_trans hR.size hb.size, hR.rolow⟩
theorem Rel.grown {G : GM} {h : AHeap} {w w' : World} (hR : Rel P N w0 G h w) (hb : Below w.heap.size w w') : Rel P N w0 G h w' ∧ Ext G h w G h w' := by
  have hlt : ∀ id x gi, h.objs.get id = some x → G id = some gi → gi.blk < w.heap.size := fun id x gi hx hg => by
    obtain ⟨gi', h1, ob, h2, _⟩ := hR.obj id x.1 x.2 hx
    rw [hg] at h1; cases h1
    exact lt_of_heap h2
  refine ⟨hR.aside ⟨hb.os, hb.tape, hb.output, hb.size, fun k hk => hb.block k (Nat.lt_of_lt_of_le hk hR.size)⟩ fun id x gi hx hg => hb.block _ (hlt id x gi hx hg), ?_⟩
  exact ⟨GLe.refl G, Nat.le_refl _, fun i v o e => .inr ⟨e, fun gi hg => hb.block _ (hlt i _ gi e hg)⟩, fun k hk _ => hb.block k hk, fun i x g e hr hgi => .inr ⟨i, x, g, e, hr, hgi, rfl⟩, hb.size⟩

set_option maxHeartbeats 2000000 in
set_option maxRecDepth 100000 in
theorem builder_string (L : Lays.n169 P ρ) (X : Builder.Extra P ρ) (b g cap : Nat) (cur : Array Value) (fz : Nat × Nat) (l : List UInt8) (w : World) (h0 : l ≠ []) (hcap : l.length ≤ cap) (hc : w.cell? ⟨b, 1, none⟩ = some (.slice (some ⟨g, 0, none⟩) l.length cap)) (hg : w.heap[g]? = some (.cells cur (ρ.t 5) fz)) (hcur : l.length ≤ cur.size) (hmax : l.length ≤ 9223372036854775807)
    (hcells : ∀ (j : Nat) x, l[j]? = some x → w.cell? ⟨g, j, none⟩ = some (.int .u8 x.toNat)) :
    Calls P (ρ.f 169) #[.pointer (some ⟨b, 0, none⟩)] w fun e w' => e = .returned (.string ⟨l.toArray⟩) ∧ w' = w.drew.freeze ⟨g, 0, none⟩ l.length := by
  have hl0 : l.length ≠ 0 := by simpa using h0
  have c1 : w.drew.cell? ⟨b, 1, none⟩ = some (.slice (some ⟨g, 0, none⟩) l.length cap) := hc
  have hSD : (Builtin.unsafeSliceData_ #[(ρ.t 37)] (ρ.t 127) #[.slice (some ⟨g, 0, none⟩) l.length cap]).run P w.drew = .ok (.pointer (some ⟨g, 0, none⟩)) w.drew :=
    Lib.run_unsafeSliceData_row _ _ _ _ _ _ (by omega)
  have hUS : (Builtin.unsafeString_ #[(ρ.t 127), (ρ.t 3)] (ρ.t 9) #[.pointer (some ⟨g, 0, none⟩), .int .i64 l.length]).run P w.drew = .ok (.string ⟨l.toArray⟩) (w.drew.freeze ⟨g, 0, none⟩ l.length) := by
    refine Lib.run_unsafeString_row w.drew (ρ.t 127) (ρ.t 3) (ρ.t 9) (ρ.t 5) L.t127 X.cellsByte g cur.size (by have hg' : w.drew.heap[g]? = some (.cells cur (ρ.t 5) fz) := hg; simp [World.shape?, hg']) l h0 hcur hmax ?_
    intro j x hx
    rw [addr_add, Nat.zero_add]
    exact hcells j x hx
  have mixed := L.mixed
  have t72 := L.t72; have a72 := L.a72; have z72 := L.z72; have v72 := L.v72; have u72 := run_underlying L.t72
  have t70 := L.t70; have a70 := L.a70; have z70 := L.z70; have v70 := L.v70; have u70 := run_underlying L.t70
  have t37 := L.t37; have a37 := L.a37; have z37 := L.z37; have v37 := L.v37; have u37 := run_underlying L.t37
  have t127 := L.t127; have a127 := L.a127; have z127 := L.z127; have v127 := L.v127; have u127 := run_underlying L.t127
  have t3 := L.t3; have a3 := L.a3; have z3 := L.z3; have v3 := L.v3; have u3 := run_underlying L.t3
  have t9 := L.t9; have a9 := L.a9; have z9 := L.z9; have v9 := L.v9; have u9 := run_underlying L.t9
  have t5 := X.t5; have a5 := X.a5; have z5 := X.z5; have v5 := X.v5; have u5 := run_underlying X.t5
  go_enter L.f169, Body.n169_ntmps ρ
  go_wp2
  go_region_o
  all_goals (go_wp2; go_ret; exact ⟨rfl, rfl⟩)

theorem s_string (L : Lays.n169 P ρ) (X : Builder.Extra P ρ) {h : AHeap} {b c ver ver' : Nat} {e : TypeId} {x0 : AVal} {r vs : List AVal} {l : List UInt8} (hl : l ≠ []) (hb : h.objs.get b = some (ver, .cells false e (x0 :: .slice (some (c, 0)) l.length :: r))) (hc : h.objs.get c = some (ver', .cells false (ρ.t 5) vs))
    (hvs : vs.take l.length = l.map fun x => .int .u8 (x.toNat : Nat)) (hmax : l.length ≤ 1000000) {G : GM} {argsV : Array Value} {w : World} {Q : AVal × AHeap → Prop} (hR : Rel P N w0 G h w) (hv : VsR P G [.ptr (some (b, 0))] argsV.toList)
    (hq : Q (.str (numsOf l), dropA h c)) : CallsIn (FR none) 0 P (ρ.f 169) argsV w (PostC P N w0 G h w Q) := by
  obtain ⟨x, rfl, gi, hg, rfl⟩ := args1 hv
  obtain ⟨gi', h1, ob, h2, cb, tb, fr, rfl, hf, hfit, hel, hlb, hvb⟩ := hR.obj b _ _ hb
  have hg' : G b = some gi := hg
  rw [hg'] at h1; cases h1
  obtain ⟨hsz, hoff, ht, hfr⟩ := hf rfl
  rw [hoff, List.drop_zero] at hvb
  obtain ⟨y, ys, e1, hy, z, zs, e2, ⟨gc, cap, k1, rfl, k2, k3⟩, e3⟩ := hvb
  have k1 : G c = some gc := k1
  subst e2
  obtain ⟨gi2, q1, ob2, q2, cc, tc, frc, rfl, qf, qfit, qel, qlb, qvb⟩ := hR.obj c _ _ hc
  rw [k1] at q1; cases q1
  obtain ⟨qsz, qoff, qt, qfr⟩ := qf rfl
  subst qt; subst qfr
  rw [qoff, List.drop_zero] at qvb
  have hll : l.length ≤ vs.length := by
    have := congrArg List.length hvs
    rw [List.length_take, List.length_map] at this; omega
  have hcell1 : w.cell? ⟨gi.blk, 1, none⟩ = some (.slice (some ⟨gc.blk, 0, none⟩) l.length cap) := by
    have := congrArg (fun q => q[1]?) e1
    simp only [List.getElem?_take, List.getElem?_cons_succ, List.getElem?_cons_zero] at this
    rw [if_pos (by simp)] at this
    have : cb[1]? = some (.slice (some ⟨gc.blk, 0, none⟩) l.length cap) := by simpa [qoff] using this
    simp [World.cell?, h2, this]
  have hcells : ∀ (j : Nat) u, l[j]? = some u → w.cell? ⟨gc.blk, j, none⟩ = some (.int .u8 u.toNat) := fun j u hj => by
    have hlt : j < l.length := (List.getElem?_eq_some_iff.1 hj).1
    have hvj : vs[j]? = some (.int .u8 (u.toNat : Nat)) := by
      have := congrArg (fun q => q[j]?) hvs
      simp only [List.getElem?_take, if_pos hlt, List.getElem?_map, hj, Option.map_some] at this
      exact this
    obtain ⟨cv, r1, r2⟩ := qvb.get hvj
    have r2 : cv = .int .u8 (u.toNat : Nat) := r2
    subst r2
    rw [List.getElem?_take] at r1
    split at r1
    · have r1' : cc[j]? = some (.int .u8 (u.toNat : Nat)) := by simpa using r1
      simp [World.cell?, q2, r1']
    · cases r1
  have hcsz : l.length ≤ cc.size := by omega
  simp only [hoff, Nat.add_zero]
  refine callsIn_wide.2 ((builder_string L X gi.blk gc.blk cap cc (0, 0) l w hl k2 hcell1 q2 hcsz (by omega) hcells).mono fun e' w' hp => ?_)
  obtain ⟨rfl, rfl⟩ := hp
  have hN : N ≤ gc.blk := hR.own c _ _ gc hc k1 rfl
  have hoth : ∀ k, k ≠ gc.blk → (w.drew.freeze ⟨gc.blk, 0, none⟩ l.length).heap[k]? = w.heap[k]? := fun k hk => by
    unfold World.freeze
    split
    · rfl
    · show (w.heap.modify gc.blk _)[k]? = _
      rw [Array.getElem?_modify]; simp [Ne.symm hk]
  have hsize : (w.drew.freeze ⟨gc.blk, 0, none⟩ l.length).heap.size = w.heap.size := by
    unfold World.freeze
    split
    · rfl
    · simp
  obtain ⟨hD, hE⟩ := hR.drop c
  have hne : ∀ id x gi', (dropA h c).objs.get id = some x → G id = some gi' → gi'.blk ≠ gc.blk := by
    intro id x gi' hx hgi hh
    have hx' : id ≠ c ∧ h.objs.get id = some x := by
      simp only [dropA, T.get_set] at hx
      by_cases hi : id = c
      · rw [if_pos hi] at hx; cases hx
      · rw [if_neg hi] at hx; exact ⟨hi, hx⟩
    exact hx'.1 (hR.inj c id _ x gc gi' hc hx'.2 rfl k1 hgi hh.symm).symm
  have hB : Below N w (w.drew.freeze ⟨gc.blk, 0, none⟩ l.length) := Lib.below_freeze (Below.drew (Below.refl N w)) (p := ⟨gc.blk, 0, none⟩) hN _
  refine ⟨.str (numsOf l), dropA h c, G, .string ⟨l.toArray⟩, rfl, hq, hD.aside hB fun id x gi' hx hgi => hoth _ (hne id x gi' hx hgi), ?_, ⟨⟨l.toArray⟩, rfl, by simp [numsOf]⟩⟩
  refine ⟨hE.gle, hE.nle, fun id ver o hx => ?_, fun k hk hno => hoth k fun hkk => hno c _ gc hc rfl k1 hkk.symm, hE.owned, by rw [hsize]; exact Nat.le_refl _⟩
  rcases hE.same id ver o hx with h3 | ⟨h3, _⟩
  · exact .inl h3
  · exact .inr ⟨h3, fun gi' hgi => hoth _ (hne id _ gi' hx hgi)⟩

theorem s_itoa (L : LaysM.n171 P ρ) (n : Int) (hn0 : -9223372036854775808 ≤ n) (hn1 : n ≤ 9223372036854775807) (htab : ∀ w, Below N w0 w → Lib.TabIs P w "internal/strconv.uint64pow10" .u64 Lib.pow10Tab) {h : AHeap} {G : GM} {argsV : Array Value} {w : World} {Q : AVal × AHeap → Prop} (hR : Rel P N w0 G h w) (hv : VsR P G [.int .i64 n] argsV.toList)
    (hq : Q (.str (numsOf (Lib.itoa n)), h)) : CallsIn (FR none) 0 P (ρ.f 171) argsV w (PostC P N w0 G h w Q) := by
  obtain ⟨x, rfl, h1⟩ := args1 hv
  have h1 : x = .int .i64 n := h1
  subst h1
  refine callsIn_wide.2 ((Any.strconv_Itoa L n hn0 hn1 w (htab w hR.below)).mono fun e' w' hp => ?_)
  obtain ⟨rfl, k, os, rfl⟩ := hp
  obtain ⟨h2, h3⟩ := hR.grown (w' := Go.Sort.grow (w.drewN k) os) ⟨rfl, rfl, rfl, by simp [Go.Sort.grow], fun i hi => by
    show (w.heap ++ os)[i]? = _
    rw [Array.getElem?_append_left hi]⟩
  exact ⟨_, h, G, _, rfl, hq, h2, h3, ⟨⟨(Lib.itoa n).toArray⟩, rfl, by simp [numsOf]⟩⟩
end
end Go.Ab
end
section
/-
  What the document's texts are read as.
-/
namespace Go.Proofs
open Go Go.Ab Go.Ab.S
def fnsP (P : Program) : FuncId → Option AFunc := fun f => (P.funcs[f]?).bind (cFn P)
theorem fnsP_ok (P : Program) : FnsOK P (fnsP P) := fun _ _ h => Option.bind_eq_some_iff.1 h
def summ0 : FuncId → List AVal → AHeap → Option (D (AVal × AHeap)) := fun f args h =>
  match Nat.beq f 82 with
  | true => (match args with
    | [.str s, .str t] => (match Nat.ble s.length 2000 with | true => some (.ret (.bool (inN s t), h)) | false => none)
    | _ => none)
  | false => none
def tabA : List AVal := (List.range 256).map fun i => .int .u8 (if i == 32 || (9 ≤ i && i ≤ 13) then 1 else 0)
def vR (n : Nat) : AVal := .tuple [.agg [.slice (some (0, 0)) n, .int .i64 0], .int .i64 0]
def keepF : List Nat := [670, 641, 651]
def osF : List (TypeId × List AVal) := [(60, [(.int .i64 2), (.str [45, 62]), (.slice (some (1, 0)) 2), (.slice none 0), (.bool false), (.int .i64 2), (.str [42]), (.slice (some (2, 0)) 2), (.slice none 0), (.bool false), (.int .i64 1), (.str []), (.slice none 0), (.slice none 0), (.bool false), (.int .i64 1), (.str []), (.slice none 0), (.slice none 0), (.bool false)]), (3, [(.int .i64 1), (.int .i64 2)]), (3, [(.int .i64 2), (.int .i64 3)])]
def keepS : List Nat := [670, 641, 651]
def osS : List (TypeId × List AVal) := [(60, [(.int .i64 2), (.str [45, 62]), (.slice (some (1, 0)) 2), (.slice none 0), (.bool false), (.int .i64 2), (.str [42]), (.slice (some (2, 0)) 2), (.slice none 0), (.bool false), (.int .i64 1), (.str []), (.slice none 0), (.slice none 0), (.bool false), (.int .i64 1), (.str []), (.slice none 0), (.slice none 0), (.bool false)]), (3, [(.int .i64 1), (.int .i64 3)]), (3, [(.int .i64 2), (.int .i64 3)])]
def keepN : List Nat := [510, 491]
def osN : List (TypeId × List AVal) := [(60, [(.int .i64 2), (.str [45, 62]), (.slice (some (1, 0)) 2), (.slice none 0), (.bool false), (.int .i64 2), (.str [98, 111, 111, 108]), (.slice none 0), (.slice none 0), (.bool false), (.int .i64 2), (.str [98, 111, 111, 108]), (.slice none 0), (.slice none 0), (.bool false)]), (3, [(.int .i64 1), (.int .i64 2)])]
end Go.Proofs
end
section
/-
  One of the law's texts, read.
-/
namespace Go.Proofs
open Go Go.Ab Go.Ab.S
theorem readF : ((run (fnsP Tryz.prog) summ0 4000).call 25 [.str tF] (tblH 1 200 tabA)).all (isAt keepF (vR 4) osF) = true := by kernel_rfl
end Go.Proofs
end
section
/-
  One of the law's texts, read.
-/
namespace Go.Proofs
open Go Go.Ab Go.Ab.S
theorem readS : ((run (fnsP Tryz.prog) summ0 4000).call 25 [.str tS] (tblH 1 200 tabA)).all (isAt keepS (vR 4) osS) = true := by kernel_rfl
end Go.Proofs
end
section
/-
  One of the law's texts, read.
-/
namespace Go.Proofs
open Go Go.Ab Go.Ab.S
theorem readN : ((run (fnsP Tryz.prog) summ0 4000).call 25 [.str tN] (tblH 1 200 tabA)).all (isAt keepN (vR 3) osN) = true := by kernel_rfl
end Go.Proofs
end
section
/-
  Sorting of a row of texts.
-/
namespace Go.Ab
open Go Go.Proofs Go.Shelf Go.Sort Go.RowKit
theorem less_u : ∀ x y : List UInt8, lessL (numsOf x) (numsOf y) = decide (x < y)
  | _, [] => by simp [numsOf, lessL]
  | [], _ :: _ => by simp [numsOf, lessL]
  | a :: x, b :: y => by
    have ih := less_u x y
    simp only [numsOf, List.map_cons, lessL] at ih ⊢
    rw [ih]
    have h1 : Nat.blt a.toNat b.toNat = decide (a < b) := by
      rw [Bool.eq_iff_iff, Nat.blt_eq, decide_eq_true_eq]; exact Iff.rfl
    have h2 : Nat.beq a.toNat b.toNat = decide (a = b) := by
      rw [Bool.eq_iff_iff, Nat.beq_eq, decide_eq_true_eq]; exact UInt8.toNat_inj
    rw [h1, h2]
    by_cases hab : a < b
    · simp [hab, List.cons_lt_cons_iff]
    · by_cases he : a = b
      · simp [he, List.cons_lt_cons_iff]
      · simp [hab, he, List.cons_lt_cons_iff]
theorem le_u (x y : List UInt8) : decide (x ≤ y) = !lessL (numsOf y) (numsOf x) := by
  rw [less_u, Bool.eq_iff_iff]
  simp
theorem sort_u (ss : List (List UInt8)) : (ss.mergeSort fun x y => decide (x ≤ y)).map numsOf = (ss.map numsOf).mergeSort fun x y => !lessL y x :=
  List.map_mergeSort fun a _ b _ => le_u a b
theorem bytes_of : ∀ l : List Nat, (∀ x ∈ l, x < 256) → ∃ b : List UInt8, numsOf b = l
  | [], _ => ⟨[], rfl⟩
  | x :: l, h => by
    obtain ⟨b, hb⟩ := bytes_of l fun y hy => h y (by simp [hy])
    exact ⟨UInt8.ofNat x :: b, by simp only [numsOf, List.map_cons] at hb ⊢; rw [hb, UInt8.toNat_ofNat', Nat.mod_eq_of_lt (h x (by simp))]⟩
theorem texts_of : ∀ l : List (List Nat), (∀ s ∈ l, ∀ c ∈ s, c < 256) → ∃ b : List (List UInt8), b.map numsOf = l
  | [], _ => ⟨[], rfl⟩
  | x :: l, h => by
    obtain ⟨b, hb⟩ := texts_of l fun y hy => h y (by simp [hy])
    obtain ⟨c, hc⟩ := bytes_of x (h x (by simp))
    exact ⟨c :: b, by rw [List.map_cons, hb, hc]⟩
section
variable {P : Program} {ρ : Ren} {N : Nat} {w0 : World}
theorem s_sort_none (L : Lays.n190 P ρ) {h : AHeap} {G : GM} {argsV : Array Value} {w : World} {Q : AVal × AHeap → Prop} {v : AVal} (hv0 : v = .slice none 0 ∨ v = .slice0) (hR : Rel P N w0 G h w) (hv : VsR P G [v] argsV.toList)
    (hq : Q (.tuple [], h)) : CallsIn (FR none) 0 P (ρ.f 190) argsV w (PostC P N w0 G h w Q) := by
  obtain ⟨x, rfl, h1⟩ := args1 hv
  obtain ⟨p, cap, rfl⟩ : ∃ p cap, x = .slice p 0 cap := by
    rcases hv0 with rfl | rfl
    · exact ⟨none, 0, (show (0 : Nat) = 0 ∧ x = .slice none 0 0 from h1).2⟩
    · obtain ⟨a, h1⟩ := (show ∃ a : Addr, x = .slice (some a) 0 0 from h1)
      exact ⟨some a, 0, h1⟩
  exact post_same hR (v := .tuple []) ⟨#[], rfl, rfl⟩ hq (Any.slices_Sort_string_none L p cap w)
theorem s_sort (L : Lays.n190 P ρ) {h : AHeap} {b ver : Nat} {vs : List AVal} {l : List (List Nat)} (hl : ∀ s ∈ l, ∀ c ∈ s, c < 256) (hn : l.length ≤ 2147483648) (hb : h.objs.get b = some (ver, .cells false (ρ.t 9) vs)) (hvl : vs.take l.length = l.map AVal.str)
    {G : GM} {argsV : Array Value} {w : World} {Q : AVal × AHeap → Prop} (hR : Rel P N w0 G h w) (hv : VsR P G [.slice (some (b, 0)) l.length] argsV.toList)
    (hq : Q (.tuple [], putObjA h b (.cells false (ρ.t 9) (((l.mergeSort fun x y => !lessL y x).map AVal.str) ++ vs.drop l.length)))) : CallsIn (FR none) 0 P (ρ.f 190) argsV w (PostC P N w0 G h w Q) := by
  obtain ⟨x, rfl, gi, cap, hg, rfl, hcap, hcap2⟩ := args1 hv
  obtain ⟨gi', h1, ob, h2, c, t, fr, rfl, hf, hfit, hel, hlb, hvb⟩ := hR.obj b _ _ hb
  have hg' : G b = some gi := hg
  rw [hg'] at h1; cases h1
  obtain ⟨hsz, hoff, ht, hfr⟩ := hf rfl
  subst ht; subst hfr
  rw [hoff, List.drop_zero] at hvb
  obtain ⟨ss, rfl⟩ := texts_of l hl
  have hll : ss.length ≤ vs.length := by
    have := congrArg List.length hvl
    simp only [List.length_take, List.length_map] at this; omega
  have htake : c.toList.take ss.length = ss.map encStr := by
    apply List.ext_getElem?
    intro j
    by_cases hj : j < ss.length
    · have hvj : vs[j]? = some (.str (numsOf ss[j])) := by
        have := congrArg (fun q => q[j]?) hvl
        simp only [List.getElem?_take, List.length_map, if_pos hj, List.getElem?_map, List.getElem?_eq_getElem hj, Option.map_some] at this
        exact this
      obtain ⟨cv, r1, r2⟩ := hvb.get hvj
      obtain ⟨ba, rfl, r3⟩ := (show ∃ b : ByteArray, cv = .string b ∧ b.data.toList.map UInt8.toNat = numsOf ss[j] from r2)
      rw [List.getElem?_take, if_pos (by omega)] at r1
      rw [List.getElem?_take_of_lt hj, r1, List.getElem?_map, List.getElem?_eq_getElem hj, Option.map_some]
      have : ba.data.toList = ss[j] := numsOf_inj r3
      show some (Value.string ba) = some (Value.string ⟨ss[j].toArray⟩)
      rw [← this]
    · rw [List.getElem?_take_eq_none (by omega), List.getElem?_eq_none (by simp; omega)]
  have hN : N ≤ gi.blk := hR.own b _ _ gi hb hg' rfl
  have hlt : gi.blk < w.heap.size := (Array.getElem?_eq_some_iff.1 h2).1
  simp only [hoff, Nat.add_zero, List.length_map]
  refine callsIn_wide.2 ((Any.slices_Sort_string L gi.blk 0 cap ss w (holds_of_block h2 htake) hlt (by rw [List.length_map] at hn; omega)).mono fun e' w' hp => ?_)
  obtain ⟨rfl, n, os, rfl⟩ := hp
  generalize hts : (ss.mergeSort fun x y => decide (x ≤ y)) = ts
  have htl : ts.length = ss.length := by rw [← hts, List.length_mergeSort]
  have hset : (putRow encStr (Sort.ahead w n) gi.blk 0 ts.toArray).heap[gi.blk]? = some (.cells (putCells encStr 0 ts.toArray c) (ρ.t 9) (0, 0)) := by
    simp [putRow, mapBlock, Sort.ahead, Array.getElem?_modify, h2, onCells]
  have hoth : ∀ k, k ≠ gi.blk → (putRow encStr (Sort.ahead w n) gi.blk 0 ts.toArray).heap[k]? = w.heap[k]? := fun k hk => by
    simp [putRow, mapBlock, Sort.ahead, Array.getElem?_modify, Ne.symm hk]
  have hput := hR.put (w' := putRow encStr (Sort.ahead w n) gi.blk 0 ts.toArray) (o' := .cells false (ρ.t 9) ((((ss.map numsOf).mergeSort fun x y => !lessL y x).map AVal.str) ++ vs.drop (ss.map numsOf).length)) hb rfl rfl hg' hset hoth
    ⟨rfl, rfl, rfl, by simp [putRow, mapBlock, Sort.ahead], fun k hk => hoth k (by omega)⟩
    ⟨_, _, (0, 0), rfl, fun _ => ⟨by simp [putCells, hsz], hoff, rfl, rfl⟩, by simpa [putCells] using hfit, hel, by simp only [List.length_append, List.length_map, List.length_mergeSort, List.length_drop]; omega, by
      rw [hoff, List.drop_zero, ← sort_u, hts]
      have hlen : ((ts.map numsOf).map AVal.str ++ vs.drop (ss.map numsOf).length).length = vs.length := by simp only [List.length_append, List.length_map, List.length_drop]; omega
      rw [hlen]
      have : (putCells encStr 0 ts.toArray c).toList.take vs.length = ts.map encStr ++ (c.toList.take vs.length).drop (ss.map numsOf).length := by
        have hcl : vs.length ≤ c.size := by omega
        apply List.ext_getElem?
        intro j
        simp only [List.getElem?_take, List.getElem?_append, List.length_map, List.getElem?_drop, htl]
        by_cases h1 : j < ss.length
        · rw [if_pos h1, if_pos (by omega)]
          simp [putCells, show j < c.size by omega, show j < ts.length by omega]
        · rw [if_neg h1, show ss.length + (j - ss.length) = j by omega]
          by_cases h2 : j < vs.length
          · rw [if_pos h2, if_pos h2]
            simp [putCells, show j < c.size by omega, show ¬ j < ts.length by omega]
          · rw [if_neg h2, if_neg h2]
      rw [this, List.map_map]
      exact VsR.append (VsR.map_mk (P := P) (G := G) (fun x => AVal.str (numsOf x)) encStr (fun a => ⟨⟨a.toArray⟩, rfl, by simp [numsOf]⟩) ts) (hvb.drop _)⟩
  obtain ⟨h2', h3'⟩ := hput.1.grown (w' := grow (putRow encStr (Sort.ahead w n) gi.blk 0 ts.toArray) os) ⟨rfl, rfl, rfl, by simp [grow], fun i hi => by
    show (_ ++ os)[i]? = _
    rw [Array.getElem?_append_left hi]⟩
  exact ⟨.tuple [], _, G, .tuple #[], rfl, hq, h2', hput.2.trans h3', ⟨#[], rfl, rfl⟩⟩
end
end Go.Ab
end
