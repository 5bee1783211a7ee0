import Derived.Test.YtpmndmiohaaokaaGreatDoorP00
import Derived.Below
import Derived.RangeFuncLeaves
import Derived.RecoverIn
import Derived.OrdersIn
import Derived.WalkKit
import Derived.Lib.Strings
import Derived.Laws.StructEq
/-
  Part 1 of the proof.
-/
set_option linter.all false
section
namespace Go.Ab
open Go.RowKit (Below)

structure GI where
 blk : Nat
 size : Nat
 elem : TypeId
 off : Nat

abbrev GM := Nat -> Option GI
def GLe (G G' : GM) : Prop := ∀ i g, G i = some g -> G' i = some g
theorem GLe.refl (G : GM) : GLe G G := fun _ _ h => h
theorem GLe.trans {G G' G'' : GM} (h : GLe G G') (k : GLe G' G'') : GLe G G'' := fun i g e => k i g (h i g e)

section
variable (P : Program)

mutual
def VR (G : GM) : AVal -> Value -> Prop
 | .bool b, v => v = .bool b
 | .int k n, v => v = .int k n
 | .str s, v => ∃ b : ByteArray, v = .string b /\ b.data.toList.map UInt8.toNat = s
 | .ptr none, v => v = .pointer none
 | .ptr (some p), v => ∃ g, G p.1 = some g /\ v = .pointer (some ⟨g.blk, g.off + p.2, none⟩)
 | .slice none n, v => n = 0 /\ v = .slice none 0 0
 | .slice (some p) n, v => ∃ g c, G p.1 = some g /\ v = .slice (some ⟨g.blk, g.off + p.2, none⟩) n c /\ n <= c /\ p.2 + c * P.cellsOf g.elem <= g.size
 | .slice0, v => ∃ a : Addr, v = .slice (some a) 0 0
 | .sliceE, v => ∃ (a : Addr) (c : Nat), v = .slice (some a) 0 c
 | .map none, v => v = .map none
 | .map (some r), v => ∃ g, G r = some g /\ v = .map (some g.blk)
 | .func f l m, v => ∃ L M : Array Value, v = .func (.func f) L M /\ VsR G l L.toList /\ VsR G m M.toList
 | .yield l, v => ∃ g, G l = some g /\ v = .func (.yield g.blk) #[] #[]
 | .nilFunc, v => v = .nilFunc
 | .iface t x, v => ∃ y, v = .iface t y /\ VR G x y
 | .nilIface, v => v = .nilIface
 | .agg l, v => ∃ L : Array Value, v = .agg L /\ VsR G l L.toList
 | .tuple l, v => ∃ L : Array Value, v = .tuple L /\ VsR G l L.toList
def VsR (G : GM) : List AVal -> List Value -> Prop
 | [], vs => vs = []
 | x :: xs, vs => ∃ y ys, vs = y :: ys /\ VR G x y /\ VsR G xs ys
end
end

section
variable {P : Program} {G G' : GM}

mutual
theorem VR.mono (h : GLe G G') : ∀ {x : AVal} {v : Value}, VR P G x v -> VR P G' x v
 | .bool _, _, e => e
 | .int _ _, _, e => e
 | .str _, _, e => e
 | .ptr none, _, e => e
 | .ptr (some _), _, ⟨g, e, k⟩ => ⟨g, h _ _ e, k⟩
 | .slice none _, _, e => e
 | .slice (some _) _, _, ⟨g, c, e, k⟩ => ⟨g, c, h _ _ e, k⟩
 | .slice0, _, e => e
 | .sliceE, _, e => e
 | .map none, _, e => e
 | .map (some _), _, ⟨g, e, k⟩ => ⟨g, h _ _ e, k⟩
 | .func _ _ _, _, ⟨L, M, e, a, b⟩ => ⟨L, M, e, VsR.mono h a, VsR.mono h b⟩
 | .yield _, _, ⟨g, e, k⟩ => ⟨g, h _ _ e, k⟩
 | .nilFunc, _, e => e
 | .iface _ _, _, ⟨y, e, a⟩ => ⟨y, e, VR.mono h a⟩
 | .nilIface, _, e => e
 | .agg _, _, ⟨L, e, a⟩ => ⟨L, e, VsR.mono h a⟩
 | .tuple _, _, ⟨L, e, a⟩ => ⟨L, e, VsR.mono h a⟩
theorem VsR.mono (h : GLe G G') : ∀ {xs : List AVal} {vs : List Value}, VsR P G xs vs -> VsR P G' xs vs
 | [], _, e => e
 | _ :: _, _, ⟨y, ys, e, a, b⟩ => ⟨y, ys, e, VR.mono h a, VsR.mono h b⟩
end

theorem VsR.length : ∀ {xs : List AVal} {vs : List Value}, VsR P G xs vs -> vs.length = xs.length
 | [], _, e => by subst e; rfl
 | _ :: _, _, ⟨y, ys, e, _, b⟩ => by subst e; simp [VsR.length b]

theorem VsR.get : ∀ {xs : List AVal} {vs : List Value}, VsR P G xs vs -> ∀ {i : Nat} {x : AVal}, xs[i]? = some x -> ∃ v, vs[i]? = some v /\ VR P G x v
 | [], _, _, i, x, h => by simp at h
 | _ :: _, _, ⟨y, ys, e, a, b⟩, 0, x, h => by subst e; simp at h; subst h; exact ⟨y, by simp, a⟩
 | _ :: _, _, ⟨y, ys, e, a, b⟩, i + 1, x, h => by
  subst e; simp at h
  obtain ⟨v, h1, h2⟩ := VsR.get b h
  exact ⟨v, by simpa using h1, h2⟩

theorem VsR.append : ∀ {xs : List AVal} {vs : List Value}, VsR P G xs vs -> ∀ {ys : List AVal} {us : List Value}, VsR P G ys us -> VsR P G (xs ++ ys) (vs ++ us)
 | [], _, e, _, _, k => by subst e; exact k
 | _ :: _, _, ⟨y, ys, e, a, b⟩, _, _, k => by subst e; exact ⟨y, _, by simp, a, VsR.append b k⟩
theorem VsR.take : ∀ {xs : List AVal} {vs : List Value} (n : Nat), VsR P G xs vs -> VsR P G (xs.take n) (vs.take n)
 | [], _, n, e => by subst e; simp [VsR]
 | x :: xs, _, 0, h => by simp [VsR]
 | x :: xs, _, n + 1, ⟨y, ys, e, a, b⟩ => by subst e; exact ⟨y, ys.take n, by simp, a, VsR.take n b⟩
theorem VsR.drop : ∀ {xs : List AVal} {vs : List Value} (n : Nat), VsR P G xs vs -> VsR P G (xs.drop n) (vs.drop n)
 | [], _, n, e => by subst e; simp [VsR]
 | x :: xs, _, 0, h => by simpa using h
 | x :: xs, _, n + 1, ⟨y, ys, e, a, b⟩ => by subst e; simpa using VsR.drop n b
theorem VsR.one {x : AVal} {v : Value} (h : VR P G x v) : VsR P G [x] [v] := ⟨v, [], rfl, h, rfl⟩
theorem VsR.nil : VsR P G [] [] := rfl
theorem VsR.map_mk {α : Type} (f : α -> AVal) (g : α -> Value) (h : ∀ a, VR P G (f a) (g a)) : ∀ (l : List α), VsR P G (l.map f) (l.map g)
 | [] => rfl
 | a :: l => ⟨g a, l.map g, rfl, h a, VsR.map_mk f g h l⟩
theorem VsR.rep : ∀ {xs : List AVal} {vs : List Value} (n : Nat), VsR P G xs vs -> VsR P G (rep xs n) (rep vs n)
 | _, _, 0, _ => rfl
 | _, _, n + 1, h => VsR.append h (VsR.rep n h)

theorem VR.cells {x : AVal} {v : Value} (h : VR P G x v) : VsR P G (zAi x) v.cells.toList := by
 cases x with
 | agg l => obtain ⟨L, rfl, a⟩ := h; exact a
 | tuple l => obtain ⟨L, rfl, a⟩ := h; exact VsR.one ⟨L, rfl, a⟩
 | bool b => cases h; exact VsR.one rfl
 | int k n => cases h; exact VsR.one rfl
 | str s => obtain ⟨b, rfl, e⟩ := h; exact VsR.one ⟨b, rfl, e⟩
 | ptr a =>
  cases a with
  | none => cases h; exact VsR.one rfl
  | some p => obtain ⟨g, e, rfl⟩ := h; exact VsR.one ⟨g, e, rfl⟩
 | slice a n =>
  cases a with
  | none => obtain ⟨e, rfl⟩ := h; exact VsR.one ⟨e, rfl⟩
  | some p => obtain ⟨g, c, e, rfl, k⟩ := h; exact VsR.one ⟨g, c, e, rfl, k⟩
 | slice0 => obtain ⟨a, rfl⟩ := h; exact VsR.one ⟨a, rfl⟩
 | sliceE => obtain ⟨a, c, rfl⟩ := h; exact VsR.one ⟨a, c, rfl⟩
 | map r =>
  cases r with
  | none => cases h; exact VsR.one rfl
  | some r => obtain ⟨g, e, rfl⟩ := h; exact VsR.one ⟨g, e, rfl⟩
 | func f l m => obtain ⟨L, M, rfl, a, b⟩ := h; exact VsR.one ⟨L, M, rfl, a, b⟩
 | yield l => obtain ⟨g, e, rfl⟩ := h; exact VsR.one ⟨g, e, rfl⟩
 | nilFunc => cases h; exact VsR.one rfl
 | iface t x => obtain ⟨y, rfl, a⟩ := h; exact VsR.one ⟨y, rfl, a⟩
 | nilIface => cases h; exact VsR.one rfl

theorem VR.oneCell {x : AVal} {v : Value} (h : VR P G x v) (ho : one x = true) : v.oneCell' = true := by
 cases x with
 | agg l => cases ho
 | tuple l => cases ho
 | bool b => cases h; rfl
 | int k n => cases h; rfl
 | str s => obtain ⟨b, rfl, e⟩ := h; rfl
 | ptr a =>
  cases a with
  | none => cases h; rfl
  | some p => obtain ⟨g, e, rfl⟩ := h; rfl
 | slice a n =>
  cases a with
  | none => obtain ⟨e, rfl⟩ := h; rfl
  | some p => obtain ⟨g, c, e, rfl, k⟩ := h; rfl
 | slice0 => obtain ⟨a, rfl⟩ := h; rfl
 | sliceE => obtain ⟨a, c, rfl⟩ := h; rfl
 | map r =>
  cases r with
  | none => cases h; rfl
  | some r => obtain ⟨g, e, rfl⟩ := h; rfl
 | func f l m => obtain ⟨L, M, rfl, a, b⟩ := h; rfl
 | yield l => obtain ⟨g, e, rfl⟩ := h; rfl
 | nilFunc => cases h; rfl
 | iface t x => obtain ⟨y, rfl, a⟩ := h; rfl
 | nilIface => cases h; rfl

theorem zJC : ∀ (f : Nat) {v : Value} {x : AVal}, ofVF f v = some x -> VR P G x v
 | 0, _, _, h => by cases h
 | f + 1, v, x, h => by
  have go : ∀ {vs : List Value} {xs : List AVal}, mapO (ofVF f) vs = some xs -> VsR P G xs vs := by
   intro vs
   induction vs with
   | nil => intro xs h; simp only [mapO, oI] at h; subst h; rfl
   | cons v vs ih =>
    intro xs h
    obtain ⟨y, zs, h1, h2, rfl⟩ := zBX h
    exact ⟨v, vs, rfl, zJC f h1, ih h2⟩
  unfold ofVF at h
  split at h
  case h_9 cs =>
   split at h
   ·rename_i l hl; simp only [oI] at h; subst h; exact ⟨cs, rfl, go hl⟩
   ·cases h
  case h_10 cs =>
   split at h
   ·rename_i l hl; simp only [oI] at h; subst h; exact ⟨cs, rfl, go hl⟩
   ·cases h
  case h_3 s => simp only [oI] at h; subst h; exact ⟨s, rfl, rfl⟩
  case h_5 => simp only [oI] at h; subst h; exact ⟨rfl, rfl⟩
  all_goals first
   | cases h; done
   | (simp only [oI] at h; subst h; rfl)

theorem zHy {v : Value} {x : AVal} (h : ofV v = some x) : VR P G x v := zJC 3 h
end
end Go.Ab
end
section
namespace Go.Ab
open Go.RowKit (Below)

section
variable (P : Program) (N : Nat) (w0 : World)

def pendC : Option AExit -> Option Code -> Prop
 | none, c => c = none
 | some .ret, c => c = some .ret
 | some (.exit id), c => c = some (.exit id)
 | some .normal, _ => False

def TR (G : GM) (t : T AVal) (tmps : Array Value) : Prop := ∀ i x, t.get i = some x -> ∃ v, tmps[i]? = some v /\ VR P G x v

def ER (G : GM) : List (AVal × AVal × Nat) -> List MapEntry -> Prop
 | [], es => es = []
 | (k, v, b) :: r, es => ∃ e es', es = e :: es' /\ VR P G k e.key /\ VR P G v e.val /\ e.born = b /\ ER G r es'

def OR (G : GM) (gi : GI) : AObj -> Obj -> Prop
 | .cells ro e vs, o => ∃ c t fr, o = .cells c t fr /\ (ro = false -> c.size = gi.size /\ gi.off = 0 /\ t = e /\ fr = (0, 0)) /\ gi.off + gi.size <= c.size /\ gi.elem = e /\ vs.length <= gi.size /\ VsR P G vs ((c.toList.drop gi.off).take vs.length)
 | .map es clock, o => ∃ E, o = .map E clock /\ ER P G es E.toList
 | .loop st pd t ps as bd df, o => ∃ (l : Loop) (M : Nat) (g : GI), o = .loop l /\ l.state = st /\ pendC pd l.pending /\ TR P G t l.tmps /\ M <= l.tmps.size /\ l.params.toList = ps /\ zCK P M l.assign = some as /\ zCK P M l.body = some bd ∧
   (∀ p ∈ ps, p < M) /\ G df = some g /\ l.defers = g.blk
 | .dfr shut, o => o = .deferred (if shut then none else some [])
 | .iter m since seen last, o => ∃ g, G m = some g /\ o = .mapIter (some g.blk) since seen.toArray last /\ gi.off = 0
 | .iter0, o => o = .mapIter none 0 #[] 0 /\ gi.off = 0

structure Rel (G : GM) (h : AHeap) (w : World) : Prop where
 obj : ∀ id ver o, h.objs.get id = some (ver, o) -> ∃ gi, G id = some gi /\ ∃ ob, w.heap[gi.blk]? = some ob /\ OR P G gi o ob
 inj : ∀ id id' x x' gi gi', h.objs.get id = some x -> h.objs.get id' = some x' -> x.2.ro = false -> G id = some gi -> G id' = some gi' -> gi.blk = gi'.blk -> id = id'
 own : ∀ id ver o gi, h.objs.get id = some (ver, o) -> G id = some gi -> o.ro = false -> N <= gi.blk
 fresh : ∀ id, h.next <= id -> G id = none
 vers : ∀ id ver o, h.objs.get id = some (ver, o) -> ver < h.next
 glob : ∀ g, g < P.globals.size -> ∃ gi, G g = some gi /\ gi.blk = g /\ gi.off = 0
 low : P.globals.size <= h.next
 below : Below N w0 w
 size : N <= w.heap.size
 rolow : ∀ id ver o gi, h.objs.get id = some (ver, o) -> G id = some gi -> o.ro = true -> gi.blk < N

structure Ext (G : GM) (h : AHeap) (w : World) (G' : GM) (h' : AHeap) (w' : World) : Prop where
 gle : GLe G G'
 nle : h.next <= h'.next
 same : ∀ id ver o, h'.objs.get id = some (ver, o) -> h.next <= ver \/ (h.objs.get id = some (ver, o) /\ ∀ gi, G id = some gi -> w'.heap[gi.blk]? = w.heap[gi.blk]?)
 frame : ∀ b, b < w.heap.size -> (∀ id x gi, h.objs.get id = some x -> x.2.ro = false -> G id = some gi -> gi.blk ≠ b) -> w'.heap[b]? = w.heap[b]?
 owned : ∀ id x gi', h'.objs.get id = some x -> x.2.ro = false -> G' id = some gi' -> w.heap.size <= gi'.blk \/ ∃ id0 x0 gi0, h.objs.get id0 = some x0 /\ x0.2.ro = false /\ G id0 = some gi0 /\ gi0.blk = gi'.blk
 size : w.heap.size <= w'.heap.size
end

section
variable {P : Program} {N : Nat} {w0 : World} {G G' G'' : GM} {h h' h'' : AHeap} {w w' w'' : World}

theorem TR.mono {t : T AVal} {tmps : Array Value} (hg : GLe G G') (ht : TR P G t tmps) : TR P G' t tmps :=
 fun i x hx => let ⟨v, a, b⟩ := ht i x hx; ⟨v, a, b.mono hg⟩
theorem ER.mono (hg : GLe G G') : ∀ {es : List (AVal × AVal × Nat)} {E : List MapEntry}, ER P G es E -> ER P G' es E
 | [], _, e => e
 | (_, _, _) :: _, _, ⟨e, es', a, b, c, d, r⟩ => ⟨e, es', a, b.mono hg, c.mono hg, d, r.mono hg⟩
theorem OR.mono (hg : GLe G G') {gi : GI} {o : AObj} {ob : Obj} (ho : OR P G gi o ob) : OR P G' gi o ob := by
 cases o with
 | cells ro e vs => obtain ⟨c, t, fr, a, b, d, k, l, m⟩ := ho; exact ⟨c, t, fr, a, b, d, k, l, m.mono hg⟩
 | map es clock => obtain ⟨E, a, b⟩ := ho; exact ⟨E, a, b.mono hg⟩
 | loop st pd t ps as bd df =>
  obtain ⟨l, M, g, a, b, c, d, e, f, k, m, n, p, q⟩ := ho
  exact ⟨l, M, g, a, b, c, d.mono hg, e, f, k, m, n, hg _ _ p, q⟩
 | dfr shut => exact ho
 | iter m since seen last => obtain ⟨g, a, b⟩ := ho; exact ⟨g, hg _ _ a, b⟩
 | iter0 => exact ho

theorem Ext.refl (G : GM) (h : AHeap) (w : World) : Ext G h w G h w :=
 ⟨GLe.refl G, Nat.le_refl _, fun _ _ _ e => .inr ⟨e, fun _ _ => rfl⟩, fun _ _ _ => rfl, fun id x gi a b c => .inr ⟨id, x, gi, a, b, c, rfl⟩, Nat.le_refl _⟩

theorem Ext.trans (a : Ext G h w G' h' w') (b : Ext G' h' w' G'' h'' w'') : Ext G h w G'' h'' w'' where
 gle := a.gle.trans b.gle
 nle := Nat.le_trans a.nle b.nle
 same := fun id ver o e => by
  rcases b.same id ver o e with h1 | ⟨h1, h2⟩
  ·exact .inl (Nat.le_trans a.nle h1)
  ·rcases a.same id ver o h1 with h3 | ⟨h3, h4⟩
   ·exact .inl h3
   ·exact .inr ⟨h3, fun gi hg => (h2 gi (a.gle _ _ hg)).trans (h4 gi hg)⟩
 frame := fun k hk hno => by
  refine (b.frame k (Nat.lt_of_lt_of_le hk a.size) fun id x gi hx hro hg he => ?_).trans (a.frame k hk hno)
  rcases a.owned id x gi hx hro hg with h1 | ⟨id0, x0, gi0, h2, h3, h4, h5⟩
  ·omega
  ·exact hno id0 x0 gi0 h2 h3 h4 (h5.trans he)
 owned := fun id x gi hx hro hg => by
  rcases b.owned id x gi hx hro hg with h1 | ⟨id0, x0, gi0, h2, h3, h4, h5⟩
  ·exact .inl (Nat.le_trans a.size h1)
  ·rcases a.owned id0 x0 gi0 h2 h3 h4 with h6 | ⟨id1, x1, gi1, h7, h8, h9, h10⟩
   ·exact .inl (h5 ▸ h6)
   ·exact .inr ⟨id1, x1, gi1, h7, h8, h9, h10.trans h5⟩
 size := Nat.le_trans a.size b.size

theorem Rel.drew (hR : Rel P N w0 G h w) : Rel P N w0 G h w.drew :=
 ⟨hR.obj, hR.inj, hR.own, hR.fresh, hR.vers, hR.glob, hR.low, hR.below.drew, hR.size, hR.rolow⟩
theorem Ext.drew (e : Ext G h w G' h' w') : Ext G h w G' h' w'.drew := ⟨e.gle, e.nle, e.same, e.frame, e.owned, e.size⟩

def addG (G : GM) (id : Nat) (gi : GI) : GM := fun i => if i = id then some gi else G i
theorem zEW {id : Nat} {gi : GI} (hn : G id = none) : GLe G (addG G id gi) := fun i g e => by
 unfold addG
 by_cases hi : i = id
 ·subst hi; rw [hn] at e; cases e
 ·rw [if_neg hi]; exact e
theorem zAe {id : Nat} {gi : GI} : addG G id gi id = some gi := by simp [addG]
theorem zBO {id i : Nat} {gi : GI} (hi : i ≠ id) : addG G id gi i = G i := by simp [addG, hi]

theorem zCp (w : World) (o : Obj) : (w.alloc o).heap[w.heap.size]? = some o := by show (w.heap.push o)[w.heap.size]? = some o; simp
theorem zBo {o : Obj} {i : Nat} (hi : i < w.heap.size) : (w.alloc o).heap[i]? = w.heap[i]? := Below.heap_alloc w o i hi

theorem zAs {i : Nat} {o : Obj} (e : w.heap[i]? = some o) : i < w.heap.size := by
 rcases Nat.lt_or_ge i w.heap.size with h | h
 ·exact h
 ·simp [Array.getElem?_eq_none h] at e

theorem Rel.alloc (hR : Rel P N w0 G h w) {o : AObj} {ob : Obj} {gi : GI} (hb : gi.blk = w.heap.size) (hro0 : o.ro = false) (ho : OR P (addG G h.next gi) gi o ob) :
  Rel P N w0 (addG G h.next gi) (newA h o) (w.alloc ob) /\ Ext G h w (addG G h.next gi) (newA h o) (w.alloc ob) := by
 have hle : GLe G (addG G h.next gi) := zEW (hR.fresh _ (Nat.le_refl _))
 have hget : ∀ id, (newA h o).objs.get id = if id = h.next then some (h.next, o) else h.objs.get id := fun id => T.get_set _ _ _ _
 have hlt : ∀ id x g, h.objs.get id = some x -> G id = some g -> g.blk < w.heap.size := fun id x g hx hg => by
  obtain ⟨gi', h1, ob', h2, _⟩ := hR.obj id x.1 x.2 hx
  rw [hg] at h1; cases h1
  exact zAs h2
 constructor
 ·constructor
  ·intro id ver o' e
   rw [hget] at e
   by_cases hi : id = h.next
   ·rw [if_pos hi] at e
    cases e
    subst hi
    exact ⟨gi, zAe, ob, by rw [hb]; exact zCp _ _, ho⟩
   ·rw [if_neg hi] at e
    obtain ⟨gi', h1, ob', h2, h3⟩ := hR.obj id ver o' e
    exact ⟨gi', hle _ _ h1, ob', by rw [zBo (zAs h2)]; exact h2, h3.mono hle⟩
  ·intro id id' x x' g g' e e' hro hg hg' hbb
   rw [hget] at e e'
   by_cases hi : id = h.next
   ·by_cases hi' : id' = h.next
    ·rw [hi, hi']
    ·rw [if_neg hi'] at e'
     rw [zBO hi'] at hg'
     rw [hi, zAe] at hg
     cases hg
     have := hlt id' x' g' e' hg'
     omega
   ·rw [if_neg hi] at e
    rw [zBO hi] at hg
    by_cases hi' : id' = h.next
    ·rw [hi', zAe] at hg'
     cases hg'
     have := hlt id x g e hg
     omega
    ·rw [if_neg hi'] at e'
     rw [zBO hi'] at hg'
     exact hR.inj id id' x x' g g' e e' hro hg hg' hbb
  ·intro id ver o' g e hg hro
   rw [hget] at e
   by_cases hi : id = h.next
   ·rw [hi, zAe] at hg
    cases hg
    rw [hb]; exact hR.size
   ·rw [if_neg hi] at e
    rw [zBO hi] at hg
    exact hR.own id ver o' g e hg hro
  ·intro id hid
   have hid' : h.next + 1 <= id := hid
   rw [zBO (by omega)]
   exact hR.fresh id (by omega)
  ·intro id ver o' e
   rw [hget] at e
   show ver < h.next + 1
   by_cases hi : id = h.next
   ·rw [if_pos hi] at e; cases e; omega
   ·rw [if_neg hi] at e
    have := hR.vers id ver o' e
    omega
  ·intro g hg
   obtain ⟨gi', h1, h2⟩ := hR.glob g hg
   exact ⟨gi', hle _ _ h1, h2⟩
  ·show _ <= h.next + 1
   have := hR.low
   omega
  ·exact hR.below.alloc hR.size _
  ·simp only [World.size_alloc]; have := hR.size; omega
  ·intro id ver o' g e hg hro
   rw [hget] at e
   by_cases hi : id = h.next
   ·rw [if_pos hi] at e; cases e; rw [hro0] at hro; cases hro
   ·rw [if_neg hi] at e
    rw [zBO hi] at hg
    exact hR.rolow id ver o' g e hg hro
 ·constructor
  ·exact hle
  ·show h.next <= h.next + 1; omega
  ·intro id ver o' e
   rw [hget] at e
   by_cases hi : id = h.next
   ·rw [if_pos hi] at e; cases e; exact .inl (Nat.le_refl _)
   ·rw [if_neg hi] at e
    exact .inr ⟨e, fun g hg => zBo (hlt id _ g e hg)⟩
  ·intro b hb' _
   exact zBo hb'
  ·intro id x g e hro hg
   rw [hget] at e
   by_cases hi : id = h.next
   ·rw [hi, zAe] at hg; cases hg; exact .inl (by omega)
   ·rw [if_neg hi] at e
    rw [zBO hi] at hg
    exact .inr ⟨id, x, g, e, hro, hg, rfl⟩
  ·simp

theorem Rel.put (hR : Rel P N w0 G h w) {id ver : Nat} {o o' : AObj} {ob' : Obj} {gi : GI} (he : h.objs.get id = some (ver, o)) (hro : o.ro = false) (hro' : o'.ro = false) (hg : G id = some gi)
  (hw1 : w'.heap[gi.blk]? = some ob') (hw2 : ∀ b, b ≠ gi.blk -> w'.heap[b]? = w.heap[b]?) (hw3 : Below N w w') (ho : OR P G gi o' ob') :
  Rel P N w0 G (zAd h id o') w' /\ Ext G h w G (zAd h id o') w' := by
 have hget : ∀ i, (zAd h id o').objs.get i = if i = id then some (h.next, o') else h.objs.get i := fun i => T.get_set _ _ _ _
 have hother : ∀ i x g, i ≠ id -> h.objs.get i = some x -> G i = some g -> g.blk ≠ gi.blk := fun i x g hne hx hgi hb =>
  hne (hR.inj id i _ x gi g he hx hro hg hgi hb.symm).symm
 constructor
 ·constructor
  ·intro i v o2 e
   rw [hget] at e
   by_cases hi : i = id
   ·rw [if_pos hi] at e; cases e; subst hi
    exact ⟨gi, hg, ob', hw1, ho⟩
   ·rw [if_neg hi] at e
    obtain ⟨g, h1, ob2, h2, h3⟩ := hR.obj i v o2 e
    exact ⟨g, h1, ob2, by rw [hw2 _ (hother i _ g hi e h1)]; exact h2, h3⟩
  ·intro i j x y g g' e e' hr hgi hgj hb
   rw [hget] at e e'
   have conv : ∀ k z, (if k = id then some (h.next, o') else h.objs.get k) = some z -> ∃ z', h.objs.get k = some z' /\ (z.2.ro = false -> z'.2.ro = false) := fun k z ek => by
    by_cases hk : k = id
    ·subst hk; exact ⟨_, he, fun _ => hro⟩
    ·rw [if_neg hk] at ek; exact ⟨z, ek, fun h => h⟩
   obtain ⟨x', h1, h2⟩ := conv i x e
   obtain ⟨y', h3, _⟩ := conv j y e'
   exact hR.inj i j x' y' g g' h1 h3 (h2 hr) hgi hgj hb
  ·intro i v o2 g e hgi hr
   rw [hget] at e
   by_cases hi : i = id
   ·subst hi; exact hR.own i ver o g he hgi hro
   ·rw [if_neg hi] at e; exact hR.own i v o2 g e hgi hr
  ·intro i hi
   have : h.next + 1 <= i := hi
   exact hR.fresh i (by omega)
  ·intro i v o2 e
   rw [hget] at e
   show v < h.next + 1
   by_cases hi : i = id
   ·rw [if_pos hi] at e; cases e; omega
   ·rw [if_neg hi] at e; have := hR.vers i v o2 e; omega
  ·exact hR.glob
  ·show _ <= h.next + 1; have := hR.low; omega
  ·exact hR.below.trans hw3
  ·exact Nat.le_trans hR.size hw3.size
  ·intro i v o2 g e hgi hr
   rw [hget] at e
   by_cases hi : i = id
   ·rw [if_pos hi] at e; cases e; rw [hro'] at hr; cases hr
   ·rw [if_neg hi] at e; exact hR.rolow i v o2 g e hgi hr
 ·constructor
  ·exact GLe.refl G
  ·show h.next <= h.next + 1; omega
  ·intro i v o2 e
   rw [hget] at e
   by_cases hi : i = id
   ·rw [if_pos hi] at e; cases e; exact .inl (Nat.le_refl _)
   ·rw [if_neg hi] at e
    exact .inr ⟨e, fun g hgi => hw2 _ (hother i _ g hi e hgi)⟩
  ·intro b _ hno
   exact hw2 b fun hb => hno id _ gi he hro hg hb.symm
  ·intro i x g e hr hgi
   rw [hget] at e
   by_cases hi : i = id
   ·subst hi; exact .inr ⟨i, _, gi, he, hro, hg, by rw [hgi] at hg; cases hg; rfl⟩
   ·rw [if_neg hi] at e; exact .inr ⟨i, x, g, e, hr, hgi, rfl⟩
  ·exact hw3.size

theorem Rel.drop (hR : Rel P N w0 G h w) (id : Nat) : Rel P N w0 G (zDN h id) w /\ Ext G h w G (zDN h id) w := by
 have hget : ∀ i x, (zDN h id).objs.get i = some x -> h.objs.get i = some x := fun i x e => by
  have e' : (h.objs.set id none).get i = some x := e
  rw [T.get_set] at e'
  by_cases hi : i = id
  ·rw [if_pos hi] at e'; cases e'
  ·rw [if_neg hi] at e'; exact e'
 exact ⟨⟨fun i v o e => hR.obj i v o (hget _ _ e), fun i j x y g g' e e' => hR.inj i j x y g g' (hget _ _ e) (hget _ _ e'), fun i v o g e => hR.own i v o g (hget _ _ e), hR.fresh, fun i v o e => hR.vers i v o (hget _ _ e), hR.glob, hR.low, hR.below, hR.size, fun i v o g e => hR.rolow i v o g (hget _ _ e)⟩,
  ⟨GLe.refl G, Nat.le_refl _, fun i v o e => .inr ⟨hget _ _ e, fun _ _ => rfl⟩, fun _ _ _ => rfl, fun i x g e hr hgi => .inr ⟨i, x, g, hget _ _ e, hr, hgi, rfl⟩, Nat.le_refl _⟩⟩
end
end Go.Ab
end
section
namespace Go.Ab
open Go.RowKit (Below)

section
variable (P : Program)

def DR (G : GM) : List ADef -> List Deferred -> Prop
 | [], ds => ds = []
 | .collected r :: l, ds => ∃ g d ds', ds = d :: ds' /\ G r = some g /\ d.target = .collected g.blk /\ DR G l ds'
 | .fn f args :: l, ds => ∃ d ds' cap, ds = d :: ds' /\ d.target = .fn (.func f) cap /\ VsR P G args (d.args ++ cap).toList /\ DR G l ds'

structure ActR (G : GM) (M : Nat) (a : AAct) (ag : Act) : Prop where
 tmps : TR P G a.tmps ag.tmps
 size : M <= ag.tmps.size
 defers : DR P G a.defers ag.defers

def Look (G : GM) (id : Option Nat) (w w' : World) : Prop := ∀ b, id = some b -> ∀ gi, G b = some gi -> w'.heap[gi.blk]? = w.heap[gi.blk]?
end

section
variable {P : Program} {N : Nat} {w0 : World} {G G' : GM} {h : AHeap} {w : World} {a : AAct} {ag : Act} {M : Nat}

theorem DR.mono (hg : GLe G G') : ∀ {l : List ADef} {ds : List Deferred}, DR P G l ds -> DR P G' l ds
 | [], _, e => e
 | .collected _ :: _, _, ⟨g, d, ds', x, y, z, r⟩ => ⟨g, d, ds', x, hg _ _ y, z, r.mono hg⟩
 | .fn _ _ :: _, _, ⟨d, ds', cap, x, y, z, r⟩ => ⟨d, ds', cap, x, y, z.mono hg, r.mono hg⟩
theorem ActR.mono (hg : GLe G G') (ha : ActR P G M a ag) : ActR P G' M a ag := ⟨ha.tmps.mono hg, ha.size, ha.defers.mono hg⟩

theorem zBT (hl : ∀ g, g < P.globals.size -> ∃ gi, G g = some gi /\ gi.blk = g /\ gi.off = 0) (ha : ActR P G M a ag) {x : Operand} {x' : AOpd} {v : AVal} (hc : cOpd P x = some x') (he : ev a x' = some v) : VR P G v (ag.eval x) := by
 cases x with
 | tmp t =>
  simp only [cOpd, oI] at hc; subst hc
  obtain ⟨cv, h1, h2⟩ := ha.tmps t v he
  show VR P G v (ag.tmps.getD t undef)
  rw [Array.getD_eq_getD_getElem?, h1]; exact h2
 | const c =>
  simp only [cOpd] at hc
  split at hc
  ·rename_i y hy
   simp only [oI] at hc; subst hc
   simp only [ev, oI] at he; subst he
   exact zHy hy
  ·cases hc
 | global g =>
  simp only [cOpd] at hc
  split at hc
  ·rename_i hlt
   simp only [oI] at hc; subst hc
   simp only [ev, oI] at he; subst he
   obtain ⟨gi, h1, h2, h3⟩ := hl g hlt
   exact ⟨gi, h1, by rw [h2, h3]; rfl⟩
  ·cases hc
 | func f =>
  simp only [cOpd, oI] at hc; subst hc
  simp only [ev, oI] at he; subst he
  exact ⟨#[], #[], rfl, rfl, rfl⟩

theorem zGV (hl : ∀ g, g < P.globals.size -> ∃ gi, G g = some gi /\ gi.blk = g /\ gi.off = 0) (ha : ActR P G M a ag) : ∀ {xs : List Operand} {ys : List AOpd} {vs : List AVal}, mapO (cOpd P) xs = some ys -> mapO (ev a) ys = some vs -> VsR P G vs (xs.map ag.eval)
 | [], ys, vs, hc, he => by
  simp only [mapO, oI] at hc; subst hc
  simp only [mapO, oI] at he; subst he
  rfl
 | x :: xs, ys, vs, hc, he => by
  obtain ⟨y, zs, h1, h2, rfl⟩ := zBX hc
  obtain ⟨v, us, h3, h4, rfl⟩ := zBX he
  exact ⟨_, _, rfl, zBT hl ha h1 h3, zGV hl ha h2 h4⟩

theorem zGP (hl : ∀ g, g < P.globals.size -> ∃ gi, G g = some gi /\ gi.blk = g /\ gi.off = 0) (ha : ActR P G M a ag) {xs : Array Operand} {ys : List AOpd} {vs : List AVal} (hc : zNP P xs = some ys) (he : evs a ys = some vs) : VsR P G vs (xs.map ag.eval).toList := by
 rw [Array.toList_map]
 exact zGV hl ha hc he

theorem zDI {t : TypeId} {n : Nat} (e : zFh P t = some n) : ∃ i, P.info? t = some i /\ i.size = n := by
 unfold zFh at e
 split at e
 ·rename_i i hi; simp only [oI] at e; exact ⟨i, hi, e⟩
 ·cases e
theorem zAt {t : TypeId} {n : Nat} (e : zFh P t = some n) (w : World) : (sizeOf t).run P w = .ok n w := by
 obtain ⟨i, h1, h2⟩ := zDI e
 simp [sizeOf, typeInfo, h1, h2]
theorem zGJ {t : TypeId} {n : Nat} (e : zFh P t = some n) : P.cellsOf t = n := by
 obtain ⟨i, h1, h2⟩ := zDI e
 simp [Program.cellsOf, h1, h2]

theorem zGI {t : TypeId} {s : Option Nat} (e : cHow P t = some s) (w : World) :
  (s = none /\ (isAgg t).run P w = .ok false w) \/ ∃ n, s = some n /\ (isAgg t).run P w = .ok true w /\ (sizeOf t).run P w = .ok n w := by
 unfold cHow at e
 split at e
 ·rename_i f i h1 h2
  simp only [oI] at e
  exact .inr ⟨i.size, e.symm, by simp [isAgg, run_underlying h1], by simp [sizeOf, typeInfo, h2]⟩
 ·rename_i n el i h1 h2
  simp only [oI] at e
  exact .inr ⟨i.size, e.symm, by simp [isAgg, run_underlying h1], by simp [sizeOf, typeInfo, h2]⟩
 ·rename_i d i hs ha2 h1 h2
  simp only [oI] at e
  refine .inl ⟨e.symm, ?_⟩
  simp only [isAgg, Sem.run_bind, run_underlying h1, Result.andThen_ok]
  cases d <;> first | rfl | (exact absurd rfl (ha2 _ _ _ h1)) | (exact absurd rfl (hs _ _ h1))
 ·cases e

theorem zIB {t : TypeId} {s : Option Nat} {cs : List AVal} {L : Array Value} {off : Nat} {v : AVal} (e : cHow P t = some s) (hv : VsR P G cs L.toList) (hp : zBC s cs off = some v) :
  ∃ cv, VR P G v cv /\ ∀ w, (part t L off).run P w = .ok cv w := by
 cases s with
 | none =>
  simp only [zBC] at hp
  obtain ⟨cv, h1, h2⟩ := hv.get hp
  refine ⟨cv, h2, fun w => ?_⟩
  rcases zGI e w with ⟨_, h3⟩ | ⟨n, h4, _⟩
  ·have h1' : L[off]? = some cv := by simpa using h1
   simp [part, h3, h1']
  ·cases h4
 | some n =>
  simp only [zBC] at hp
  split at hp
  ·simp only [oI] at hp; subst hp
   refine ⟨.agg (L.extract off (off + n)), ⟨_, rfl, ?_⟩, fun w => ?_⟩
   ·rw [Array.toList_extract, List.extract_eq_take_drop]
    simpa using (hv.drop off).take n
   ·rcases zGI e w with ⟨h3, _⟩ | ⟨m, h4, h5, h6⟩
    ·cases h3
    ·cases h4
     simp [part, h5, h6]
  ·cases hp

theorem zDD {b : Nat} {c : Array Value} {e : TypeId} {fr : Nat × Nat} (hb : w.heap[b]? = some (.cells c e fr)) (j : Nat) : w.cell? ⟨b, j, none⟩ = c[j]? := by
 simp [World.cell?, hb]

theorem zDC (b o n : Nat) : (⟨b, o, none⟩ : Addr).add n = ⟨b, o + n, none⟩ := by
 unfold Addr.add; split
 ·rename_i h; subst h; rfl
 ·rfl

theorem zGc {t : TypeId} {s : Option Nat} {vs : List AVal} {b o f : Nat} {c : Array Value} {e : TypeId} {fr : Nat × Nat} {v : AVal} (ht : cHow P t = some s)
  (hv : VsR P G vs ((c.toList.drop f).take vs.length)) (hp : zBC s vs o = some v) :
  ∃ cv, VR P G v cv /\ ∀ w, w.heap[b]? = some (.cells c e fr) -> (loadVar t ⟨b, f + o, none⟩).run P w = .ok cv w := by
 cases s with
 | none =>
  simp only [zBC] at hp
  obtain ⟨cv, h1, h2⟩ := hv.get hp
  refine ⟨cv, h2, fun w hb => ?_⟩
  have h1' : c[f + o]? = some cv := by
   rw [List.getElem?_take] at h1
   split at h1
   ·rw [List.getElem?_drop] at h1; simpa using h1
   ·cases h1
  rcases zGI ht w with ⟨_, h3⟩ | ⟨n, h4, _⟩
  ·simp [loadVar, h3, zDD hb, h1']
  ·cases h4
 | some n =>
  simp only [zBC] at hp
  split at hp
  ·rename_i hle
   simp only [oI] at hp; subst hp
   have hlen : vs.length <= c.size - f := by
    have := hv.length
    simp at this
    omega
   refine ⟨.agg ((c.toList.drop (f + o)).take n).toArray, ⟨_, rfl, ?_⟩, fun w hb => ?_⟩
   ·have := (hv.drop o).take n
    rw [List.drop_take, List.take_take, Nat.min_eq_left (by omega), List.drop_drop] at this
    simpa using this
   ·rcases zGI ht w with ⟨h3, _⟩ | ⟨m, h4, h5, h6⟩
    ·cases h3
    ·cases h4
     have hl := run_loadCells_list (P := P) (w := w) ⟨b, f + o, none⟩ ((c.toList.drop (f + o)).take n) (by
      intro j v' hj
      rw [zDC, zDD hb]
      rw [List.getElem?_take] at hj
      split at hj
      ·rw [List.getElem?_drop] at hj; simpa using hj
      ·cases hj)
     have hn : ((c.toList.drop (f + o)).take n).length = n := by simp; omega
     rw [hn] at hl
     simp [loadVar, h5, h6, hl]
  ·cases hp
end
end Go.Ab
end
section
namespace Go.Ab
open Go.RowKit (Below)

section
variable {P : Program} {N : Nat} {w0 : World} {G G' : GM} {h : AHeap} {w : World} {a : AAct} {ag : Act} {M : Nat}

def Yi (P : Program) (G : GM) (id : Option Nat) (w : World) (v : AVal) (s : Sem Value) : Prop :=
 ∃ cv, VR P G v cv /\ ∀ w', Look G id w w' -> s.run P w' = .ok cv w'

theorem Yi.pure {id : Option Nat} {v : AVal} {cv : Value} (h : VR P G v cv) : Yi P G id w v (Pure.pure cv) := ⟨cv, h, fun _ _ => rfl⟩
theorem zEi : ∀ {x y : List UInt8}, x.map UInt8.toNat = y.map UInt8.toNat -> x = y
 | [], [], _ => rfl
 | [], _ :: _, h => by simp at h
 | _ :: _, [], h => by simp at h
 | a :: x, b :: y, h => by
  simp only [List.map_cons, List.cons.injEq] at h
  rw [UInt8.toNat_inj.1 h.1, zEi h.2]
theorem beq_ne {a b : Nat} (h : a ≠ b) : Nat.beq a b = false := by
 cases hb : Nat.beq a b with
 | false => rfl
 | true => exact absurd (Nat.eq_of_beq_eq_true hb) h
theorem zNd : ∀ (x y : List Nat), eqL x y = (x == y)
 | [], [] => rfl
 | [], _ :: _ => rfl
 | _ :: _, [] => rfl
 | a :: x, b :: y => by
  simp only [eqL]
  by_cases hab : a = b
  ·subst hab; simp [zNd x y]
  ·rw [beq_ne hab]
   have : (a == b) = false := by simpa using hab
   simp [this]
theorem zMI : ∀ (x y : List UInt8), zBB (x.map UInt8.toNat) (y.map UInt8.toNat) = Op.bytesLess x y
 | _, [] => by cases ‹List UInt8› <;> rfl
 | [], _ :: _ => rfl
 | a :: x, b :: y => by
  simp only [List.map_cons, zBB, Op.bytesLess]
  by_cases h1 : a < b
  ·have : Nat.blt a.toNat b.toNat = true := by
    rw [Nat.blt_eq]; exact UInt8.lt_iff_toNat_lt.1 h1
   rw [this]; simp [h1]
  ·have : Nat.blt a.toNat b.toNat = false := by
    cases hb : Nat.blt a.toNat b.toNat with
    | false => rfl
    | true =>
     rw [Nat.blt_eq] at hb
     exact absurd (UInt8.lt_iff_toNat_lt.2 hb) h1
   rw [this]
   by_cases h2 : a = b
   ·subst h2; simp [h1, zMI x y]
   ·rw [beq_ne (fun e => h2 (UInt8.toNat_inj.1 e))]
    simp [h1, h2]

theorem zKZ {op : BinOp} {k : IntKind} {x y : Int} {v : AVal} {t : TypeId} (e : zEG op k x y = some v) :
  ∃ cv, VR P G v cv /\ ∀ w, (binOp op t (.int k x) (.int k y)).run P w = .ok cv w := by
 cases op <;> simp only [zEG] at e
 case quo =>
  split at e
  ·cases e
  ·rename_i hy; simp only [oI] at e; subst e
   exact ⟨_, rfl, fun w => by simp [binOp, Op.intDiv, hy]⟩
 case rem =>
  split at e
  ·cases e
  ·rename_i hy; simp only [oI] at e; subst e
   exact ⟨_, rfl, fun w => by simp [binOp, Op.intDiv, hy]⟩
 all_goals first
  | cases e; done
  | (simp only [oI] at e; subst e; exact ⟨_, rfl, fun w => by simp [binOp, Op.intArith, Op.intCmp]⟩)

theorem zKw {op : BinOp} {x y : ByteArray} {v : AVal} {t : TypeId} (e : zFO op (x.data.toList.map UInt8.toNat) (y.data.toList.map UInt8.toNat) = some v) :
  ∃ cv, VR P G v cv /\ ∀ w, (binOp op t (.string x) (.string y)).run P w = .ok cv w := by
 have he : eqL (x.data.toList.map UInt8.toNat) (y.data.toList.map UInt8.toNat) = (x.toList == y.toList) := by
  rw [zNd, ByteArray.toList_eq, ByteArray.toList_eq]
  by_cases hxy : x.data.toList = y.data.toList
  ·simp [hxy]
  ·have h1 : (x.data.toList == y.data.toList) = false := by simpa using hxy
   rw [h1]
   have h2 : ¬ x.data.toList.map UInt8.toNat = y.data.toList.map UInt8.toNat := fun h => hxy (zEi h)
   simpa using h2
 have hl : zBB (x.data.toList.map UInt8.toNat) (y.data.toList.map UInt8.toNat) = Op.bytesLess x.toList y.toList := by
  rw [zMI, ByteArray.toList_eq, ByteArray.toList_eq]
 cases op <;> simp only [zFO] at e
 case add =>
  split at e
  ·rename_i hlt
   simp only [oI] at e; subst e
   simp only [List.length_map, Array.length_toList] at hlt
   refine ⟨.string (x ++ y), ⟨_, rfl, by simp⟩, fun w => ?_⟩
   have h1 : x.data.size = x.size := rfl
   have h2 : y.data.size = y.size := rfl
   have : ¬ ((x.size + y.size : Nat) : Int) > IntKind.i64.max := by
    have : IntKind.i64.max = 9223372036854775807 := by decide
    rw [this]; omega
   simp only [binOp, Op.stringOp, this, if_false, Sem.run_pure]
  ·cases e
 all_goals first
  | cases e; done
  | (simp only [oI] at e; subst e; exact ⟨_, rfl, fun w => by simp [binOp, Op.stringOp, he, hl]⟩)

theorem zJA {op : BinOp} {u v r : AVal} {U V : Value} {t : TypeId} (e : numA op u v = some r) (hu : VR P G u U) (hv : VR P G v V) :
  ∃ cv, VR P G r cv /\ ∀ w, (binOp op t U V).run P w = .ok cv w := by
 unfold numA at e
 split at e
 ·rename_i k x k' y
  cases hu; cases hv
  cases op
  case shr =>
   simp only at e
   split at e
   ·rename_i hy
    simp only [oI] at e; subst e
    exact ⟨_, rfl, fun w => by simp [binOp, Op.shift, Int.not_lt.2 hy]⟩
   ·cases e
  case shl =>
   simp only at e
   split at e
   ·rename_i hy
    simp only [oI] at e; subst e
    exact ⟨_, rfl, fun w => by simp [binOp, Op.shift, Int.not_lt.2 hy]⟩
   ·cases e
  all_goals
   simp only at e
   split at e
   ·rename_i hk; subst hk; exact zKZ e
   ·cases e
 ·obtain ⟨x, rfl, rfl⟩ := hu
  obtain ⟨y, rfl, rfl⟩ := hv
  exact zKw e
 ·cases e

theorem zKX {op : BinOp} {u v r : AVal} {U V : Value} {t : TypeId} {x y : Operand} (e : numA op u v = some r) (hu : VR P G u U) (hv : VR P G v V) (w : World) :
  (eqGuard op t x y U V).run P w = .ok () w := by
 unfold numA at e
 split at e
 ·cases hu; cases hv; cases op <;> rfl
 ·obtain ⟨x, rfl, rfl⟩ := hu
  obtain ⟨y, rfl, rfl⟩ := hv
  cases op <;> rfl
 ·cases e
end
end Go.Ab
end
section
namespace Go.Ab
open Go.RowKit (Below)

section
variable {P : Program} {N : Nat} {w0 : World} {G G' : GM} {h : AHeap} {w : World} {a : AAct} {ag : Act} {M : Nat}

theorem zFP {t : TypeId} {n : Nat} (e : zLB P t = some n) :
  P.stoodInHeld t = false /\ P.eqGuardType P.depth t = false /\ P.underlying t = some (.struct (P.fieldsOf t)) /\ (P.fieldsOf t).size = n /\ (∀ i, P.info? t = some i -> i.size = n) /\ (∃ i, P.info? t = some i) ∧
  ∀ (j : Nat) (f : Field), (P.fieldsOf t).toList[j]? = some f -> f.name ≠ "_" /\ (∃ k, P.underlying f.type = some (.int k)) /\ f.offset = j := by
 unfold zLB at e
 split at e
 ·rename_i fs hu
  have hf : P.fieldsOf t = fs := by simp [Program.fieldsOf, hu]
  split at e
  ·rename_i hc
   simp only [oI] at e
   simp only [intsOk, Bool.and_eq_true, Bool.not_eq_true'] at hc
   obtain ⟨h1, h2, h3, h4, h5⟩ := hc
   rw [List.all_eq_true] at h3 h4
   rw [hf]
   refine ⟨h1, h2, hu, e, ?_, ?_, ?_⟩
   ·intro i hi
    rw [hi] at h5
    have := Nat.eq_of_beq_eq_true h5
    omega
   ·cases hi : P.info? t with
    | none => rw [hi] at h5; cases h5
    | some i => exact ⟨i, rfl⟩
   ·intro j f hj
    have hm := h3 f (List.mem_of_getElem? hj)
    rw [Bool.and_eq_true] at hm
    refine ⟨by simpa using hm.1, ?_, ?_⟩
    ·have := hm.2
     split at this
     ·rename_i k hk; exact ⟨k, hk⟩
     ·cases this
    ·have := h4 (f, j) (by
      have hj' : fs.toList.zipIdx[j]? = some (f, j) := by rw [List.getElem?_zipIdx, hj]; simp
      exact List.mem_of_getElem? hj')
     exact Nat.eq_of_beq_eq_true this
  ·cases e
 ·cases e

theorem zFA : ∀ {xs ys : List AVal} {b : Bool} {X Y : List Value}, zCG xs ys = some b -> VsR P G xs X -> VsR P G ys Y →
  ∃ l : List (IntKind × Int × Int), X = l.map (fun p => .int p.1 p.2.1) /\ Y = l.map (fun p => .int p.1 p.2.2) /\ b = l.all (fun p => p.2.1 == p.2.2)
 | [], [], b, X, Y, e, hX, hY => by
  simp only [zCG, oI] at e
  cases hX; cases hY
  exact ⟨[], rfl, rfl, e.symm⟩
 | [], _ :: _, b, X, Y, e, hX, hY => by simp [zCG] at e
 | x :: xs, [], b, X, Y, e, hX, hY => by cases x <;> simp [zCG] at e
 | x :: xs, y :: ys, b, X, Y, e, hX, hY => by
  obtain ⟨u, us, rfl, hu, hus⟩ := hX
  obtain ⟨v, vs, rfl, hv, hvs⟩ := hY
  cases x with
  | int k m =>
   cases y with
   | int k' m' =>
    simp only [zCG] at e
    split at e
    ·rename_i hk; subst hk
     cases hu; cases hv
     split at e
     ·rename_i hm
      obtain ⟨l, rfl, rfl, rfl⟩ := zFA e hus hvs
      exact ⟨(k, m, m') :: l, rfl, rfl, by simp [hm]⟩
     ·rename_i hm
      split at e
      ·rename_i b' hb'
       simp only [oI] at e; subst e
       obtain ⟨l, rfl, rfl, _⟩ := zFA hb' hus hvs
       exact ⟨(k, m, m') :: l, rfl, rfl, by simp [hm]⟩
      ·cases e
    ·cases e
   | _ => simp [zCG] at e
  | _ => simp [zCG] at e

theorem zER (d : Nat) (l : List (IntKind × Int × Int)) (X Y : Array Value) (hX : X.toList = l.map (fun p => .int p.1 p.2.1)) (hY : Y.toList = l.map (fun p => .int p.1 p.2.2)) :
  ∀ (fs : List Field) (i : Nat), (∀ (j : Nat) (f : Field), fs[j]? = some f -> f.name ≠ "_" /\ (∃ k, P.underlying f.type = some (.int k)) /\ f.offset = i + j) -> i + fs.length = l.length -> ∀ w,
  (Op.eqFields (d + 1) X Y fs).run P w = .ok ((l.drop i).all (fun p => p.2.1 == p.2.2)) w
 | [], i, _, hl, w => by
  have : l.drop i = [] := List.drop_eq_nil_of_le (by simp at hl; omega)
  simp [Op.eqFields, this]
 | f :: fs, i, hf, hl, w => by
  obtain ⟨h1, ⟨k, h2⟩, h3⟩ := hf 0 f rfl
  have hlt : i < l.length := by simp at hl; omega
  obtain ⟨p, hp⟩ : ∃ p, l[i]? = some p := ⟨l[i], List.getElem?_eq_getElem hlt⟩
  have hx : X[i]? = some (.int p.1 p.2.1) := by rw [<- Array.getElem?_toList, hX, List.getElem?_map, hp]; rfl
  have hy : Y[i]? = some (.int p.1 p.2.2) := by rw [<- Array.getElem?_toList, hY, List.getElem?_map, hp]; rfl
  have hagg : ∀ w, (isAgg f.type).run P w = .ok false w := fun w => by simp [isAgg, run_underlying h2]
  have h3' : f.offset = i := by simpa using h3
  have hdrop : l.drop i = p :: l.drop (i + 1) := by
   rw [List.drop_eq_getElem_cons hlt]
   rw [List.getElem?_eq_getElem hlt] at hp
   cases hp; rfl
  have ih := zER d l X Y hX hY fs (i + 1) (fun j f' hj => by
   have := hf (j + 1) f' (by simpa using hj)
   refine ⟨this.1, this.2.1, ?_⟩
   rw [this.2.2]; omega) (by simp at hl; omega)
  simp only [Op.eqFields, h1, ne_eq, not_false_eq_true, if_true, Sem.run_bind, part, hagg, Result.andThen_ok, h3', Bool.false_eq_true, if_false, hx, hy, Sem.run_pure,
   run_equalIn_int _ _ _ _ _ _ _ h2, Sem.run_ite, ih, hdrop, List.all_cons]
  cases p.2.1 == p.2.2 <;> simp

theorem zEt {t : TypeId} {n : Nat} (e : zLB P t = some n) {xs ys : List AVal} {X Y : Array Value} {b : Bool} (hx : VsR P G xs X.toList) (hy : VsR P G ys Y.toList) (hn : xs.length = n) (hb : zCG xs ys = some b) (d : Nat) (w : World) :
  (Op.equalIn (d + 2) t (.agg X) (.agg Y)).run P w = .ok b w := by
 obtain ⟨h1, _, h3, h4, _, _, h7⟩ := zFP e
 obtain ⟨l, hX, hY, rfl⟩ := zFA hb hx hy
 rw [run_equalIn_struct w (d + 1) t X Y h3 h1]
 have hlen : l.length = n := by
  have := hx.length
  rw [hX] at this
  simp at this
  omega
 have := zER (P := P) d l X Y hX hY (P.fieldsOf t).toList 0 (fun j f hj => by
  have := h7 j f hj
  exact ⟨this.1, this.2.1, by omega⟩) (by simp; omega) w
 simpa using this

set_option maxHeartbeats 2000000 in
theorem eqA_in {t : TypeId} {lit : Bool} {k : EqK} {u v : AVal} {U V : Value} {b : Bool} (hk : cEq P t lit = some k) (e : eqA k u v = some b) (hu : VR P G u U) (hv : VR P G v V) (d : Nat) (w : World) :
  (Op.equalIn (d + 2) t U V).run P w = .ok b w := by
 unfold cEq at hk
 split at hk
 all_goals first | (simp only [oI] at hk; subst hk) | skip
 ·rename_i ht
  cases u <;> cases v <;> simp only [eqA] at e <;> first | cases e; done | skip
  cases hu; cases hv
  simp only [oI] at e; subst e
  simp [Op.equalIn, run_underlying ht]
 ·rename_i el ht
  split at hk
  ·rename_i ie hie
   simp only [oI] at hk; subst hk
   cases u <;> first | (simp [eqA] at e; done) | skip
   rename_i x
   cases v <;> first | (cases x <;> simp [eqA] at e; done) | skip
   rename_i y
   cases x with
   | none =>
    cases hu
    cases y with
    | none => cases hv; simp [eqA] at e; subst e; simp [Op.equalIn, run_underlying ht]
    | some q => obtain ⟨g, _, rfl⟩ := hv; simp [eqA] at e; subst e; simp [Op.equalIn, run_underlying ht]
   | some p =>
    obtain ⟨g, hg, rfl⟩ := hu
    cases y with
    | none => cases hv; simp [eqA] at e; subst e; simp [Op.equalIn, run_underlying ht]
    | some q =>
     obtain ⟨g', hg', rfl⟩ := hv
     simp only [eqA] at e
     split at e
     ·rename_i hpq
      simp only [oI] at e; subst e
      have h1 : p.1 = q.1 := hpq.1
      have h2 : p.2 = q.2 := hpq.2
      rw [<- h1, hg] at hg'; cases hg'
      have hsz : (sizeOf el).run P w = .ok ie.size w := by simp [sizeOf, typeInfo, hie]
      rw [<- h2]
      simp only [Op.equalIn, Sem.run_bind, run_underlying ht, Result.andThen_ok, hsz]
      by_cases h0 : ie.size = 0
      ·simp [h0]
      ·simp [h0, sameAddr]
     ·cases e
  ·cases hk
 ·rename_i ms ht
  cases u <;> first | (simp [eqA] at e; done) | skip
  ·rename_i t' x'
   cases v <;> first | (simp [eqA] at e; done) | skip
   obtain ⟨y, rfl, _⟩ := hu
   cases hv
   simp [eqA] at e; subst e; simp [Op.equalIn, run_underlying ht]
  ·cases v <;> first | (simp [eqA] at e; done) | skip
   ·obtain ⟨y, rfl, _⟩ := hv
    cases hu
    simp [eqA] at e; subst e; simp [Op.equalIn, run_underlying ht]
   ·cases hu; cases hv
    simp [eqA] at e; obtain ⟨_, rfl⟩ := e; simp [Op.equalIn, run_underlying ht]
 ·rename_i el ht
  by_cases hsp : (u = .slice0 \/ u = .sliceE) \/ (v = .slice0 \/ v = .sliceE)
  ·rcases hsp with (rfl | rfl) | (rfl | rfl)
   ·obtain ⟨a1, rfl⟩ := hu
    cases v <;> first | (simp [eqA] at e; done) | skip
    rename_i y m
    cases y with
    | none => obtain ⟨rfl, rfl⟩ := hv; simp [eqA] at e; subst e; simp [Op.equalIn, run_underlying ht]
    | some q => simp [eqA] at e
   ·obtain ⟨a1, c1, rfl⟩ := hu
    cases v <;> first | (simp [eqA] at e; done) | skip
    rename_i y m
    cases y with
    | none => obtain ⟨rfl, rfl⟩ := hv; simp [eqA] at e; subst e; simp [Op.equalIn, run_underlying ht]
    | some q => simp [eqA] at e
   ·obtain ⟨a1, rfl⟩ := hv
    cases u <;> first | (simp [eqA] at e; done) | skip
    rename_i y m
    cases y with
    | none => obtain ⟨rfl, rfl⟩ := hu; simp [eqA] at e; subst e; simp [Op.equalIn, run_underlying ht]
    | some q => simp [eqA] at e
   ·obtain ⟨a1, c1, rfl⟩ := hv
    cases u <;> first | (simp [eqA] at e; done) | skip
    rename_i y m
    cases y with
    | none => obtain ⟨rfl, rfl⟩ := hu; simp [eqA] at e; subst e; simp [Op.equalIn, run_underlying ht]
    | some q => simp [eqA] at e
  have hn1 : u ≠ .slice0 := fun hh => hsp (.inl (.inl hh))
  have hn2 : u ≠ .sliceE := fun hh => hsp (.inl (.inr hh))
  have hn3 : v ≠ .slice0 := fun hh => hsp (.inr (.inl hh))
  have hn4 : v ≠ .sliceE := fun hh => hsp (.inr (.inr hh))
  clear hsp
  cases u <;> first | exact absurd rfl hn1 | exact absurd rfl hn2 | (simp [eqA] at e; done) | skip
  rename_i x n
  cases v <;> first | exact absurd rfl hn3 | exact absurd rfl hn4 | (cases x <;> simp [eqA] at e; done) | skip
  rename_i y m
  cases x with
  | none =>
   obtain ⟨rfl, rfl⟩ := hu
   cases y with
   | none => obtain ⟨rfl, rfl⟩ := hv; simp [eqA] at e; subst e; simp [Op.equalIn, run_underlying ht]
   | some q => obtain ⟨g, c, _, rfl, _⟩ := hv; simp [eqA] at e; subst e; simp [Op.equalIn, run_underlying ht]
  | some p =>
   obtain ⟨g, c, _, rfl, _⟩ := hu
   cases y with
   | none => obtain ⟨rfl, rfl⟩ := hv; simp [eqA] at e; subst e; simp [Op.equalIn, run_underlying ht]
   | some q => simp [eqA] at e
 ·rename_i kk el ht
  cases u <;> first | (simp [eqA] at e; done) | skip
  rename_i x
  cases v <;> first | (cases x <;> simp [eqA] at e; done) | skip
  rename_i y
  cases x with
  | none =>
   cases hu
   cases y with
   | none => cases hv; simp [eqA] at e; subst e; simp [Op.equalIn, run_underlying ht]
   | some q => obtain ⟨g, _, rfl⟩ := hv; simp [eqA] at e; subst e; simp [Op.equalIn, run_underlying ht]
  | some p =>
   obtain ⟨g, _, rfl⟩ := hu
   cases y with
   | none => cases hv; simp [eqA] at e; subst e; simp [Op.equalIn, run_underlying ht]
   | some q => simp [eqA] at e
 ·rename_i ps rs vd ht
  cases u <;> first | (simp [eqA] at e; done) | skip
  ·cases v <;> first | (simp [eqA] at e; done) | skip
   obtain ⟨L, K, rfl, _, _⟩ := hu
   cases hv
   simp [eqA] at e; subst e; simp [Op.equalIn, run_underlying ht]
  ·cases v <;> first | (simp [eqA] at e; done) | skip
   ·obtain ⟨L, K, rfl, _, _⟩ := hv
    cases hu
    simp [eqA] at e; subst e; simp [Op.equalIn, run_underlying ht]
   ·cases hu; cases hv
    simp [eqA] at e; subst e; simp [Op.equalIn, run_underlying ht]
 ·split at hk
  ·rename_i n hn
   simp only [oI] at hk; subst hk
   cases u <;> first | (simp [eqA] at e; done) | skip
   rename_i xs
   cases v <;> first | (simp [eqA] at e; done) | skip
   rename_i ys
   obtain ⟨X, rfl, hX⟩ := hu
   obtain ⟨Y, rfl, hY⟩ := hv
   simp only [eqA] at e
   split at e
   ·rename_i hl
    exact zEt hn hX hY hl.1 e d w
   ·cases e
  ·cases hk

theorem zNb {t : TypeId} {lit : Bool} {k : EqK} {u v : AVal} {U V : Value} {b : Bool} (hk : cEq P t lit = some k) (e : eqA k u v = some b) (hu : VR P G u U) (hv : VR P G v V) (w : World) :
  (Op.equal t U V).run P w = .ok b w := eqA_in hk e hu hv 9998 w
end
end Go.Ab
end
section
namespace Go.Ab
open Go.RowKit (Below)

section
variable {P : Program} {N : Nat} {w0 : World} {G G' : GM} {h : AHeap} {w : World} {a : AAct} {ag : Act} {M : Nat}

def vtag : Value -> Nat
 | .bool _ => 0 | .int _ _ => 1 | .string _ => 2 | .pointer _ => 3 | .slice _ _ _ => 4 | .map _ => 5 | .func _ _ _ => 6 | .nilFunc => 7
 | .iface _ _ => 8 | .nilIface => 9 | .agg _ => 10 | .tuple _ => 11 | _ => 12
def atag : AVal -> Nat
 | .bool _ => 0 | .int _ _ => 1 | .str _ => 2 | .ptr _ => 3 | .slice _ _ | .slice0 | .sliceE => 4 | .map _ => 5 | .func _ _ _ | .yield _ => 6 | .nilFunc => 7
 | .iface _ _ => 8 | .nilIface => 9 | .agg _ => 10 | .tuple _ => 11
theorem VR.tag {u : AVal} {U : Value} (hu : VR P G u U) : vtag U = atag u := by
 cases u with
 | agg l => obtain ⟨L, rfl, a⟩ := hu; rfl
 | tuple l => obtain ⟨L, rfl, a⟩ := hu; rfl
 | bool b => cases hu; rfl
 | int k n => cases hu; rfl
 | str s => obtain ⟨b, rfl, e⟩ := hu; rfl
 | ptr a =>
  cases a with
  | none => cases hu; rfl
  | some p => obtain ⟨g, e, rfl⟩ := hu; rfl
 | slice a n =>
  cases a with
  | none => obtain ⟨e, rfl⟩ := hu; rfl
  | some p => obtain ⟨g, c, e, rfl, k⟩ := hu; rfl
 | slice0 => obtain ⟨a, rfl⟩ := hu; rfl
 | sliceE => obtain ⟨a, c, rfl⟩ := hu; rfl
 | map r =>
  cases r with
  | none => cases hu; rfl
  | some r => obtain ⟨g, e, rfl⟩ := hu; rfl
 | func f l m => obtain ⟨L, M, rfl, a, b⟩ := hu; rfl
 | yield l => obtain ⟨g, e, rfl⟩ := hu; rfl
 | nilFunc => cases hu; rfl
 | iface t x => obtain ⟨y, rfl, a⟩ := hu; rfl
 | nilIface => cases hu; rfl

theorem VR.of_nilIface {u : AVal} (hu : VR P G u .nilIface) : u = .nilIface := by
 have := hu.tag
 cases u <;> first | rfl | (simp [vtag, atag] at this)
theorem VR.of_agg {u : AVal} {X : Array Value} (hu : VR P G u (.agg X)) : ∃ xs, u = .agg xs /\ VsR P G xs X.toList := by
 have := hu.tag
 cases u <;> first | (simp [vtag, atag] at this; done) | skip
 obtain ⟨L, h1, h2⟩ := hu
 cases h1
 exact ⟨_, rfl, h2⟩

theorem zLq {t : TypeId} {lit : Bool} {k : EqK} (hk : cEq P t lit = some k) : (∀ l, k = .iface l -> l = lit) /\ (∀ n, k = .agg n -> zLB P t = some n) := by
 unfold cEq at hk
 split at hk
 all_goals first
  | (simp only [oI] at hk; subst hk; exact ⟨fun l e => by cases e; try rfl, fun n e => by cases e⟩)
  | skip
 ·split at hk
  ·simp only [oI] at hk; subst hk
   exact ⟨(fun l e => by cases e), (fun n e => by cases e)⟩
  ·cases hk
 ·split at hk
  ·rename_i n hn
   simp only [oI] at hk; subst hk
   exact ⟨fun l e => (by cases e), fun m e => (by cases e; exact hn)⟩
  ·cases hk

theorem zJv {c : Prop} [Decidable c] {X : Sem Unit} {w : World} (hX : X.run P w = .ok () w) : (if c then pure () else X : Sem Unit).run P w = .ok () w := by
 split
 ·rfl
 ·exact hX

theorem zNa {t : TypeId} {k : EqK} {x y : Operand} {u v : AVal} {U V : Value} {b : Bool} (hk : cEq P t (isC x || isC y) = some k) (e : eqA k u v = some b) (hu : VR P G u U) (hv : VR P G v V) (op : BinOp) (w : World) :
  (eqGuard op t x y U V).run P w = .ok () w := by
 unfold eqGuard
 refine zJv ?_
 ·split
  ·
   have h1 := hu.of_nilIface
   have h2 := hv.of_nilIface
   subst h1; subst h2
   have hl : (isC x || isC y) = true := by
    cases k <;> simp [eqA] at e
    rename_i l
    rw [<- (zLq hk).1 _ rfl]; exact e.1
   clear hk
   cases x <;> cases y <;> first | rfl | (simp [isC] at hl)
  ·
   obtain ⟨xs, rfl, _⟩ := hu.of_agg
   obtain ⟨ys, rfl, _⟩ := hv.of_agg
   cases k <;> simp [eqA] at e
   rename_i n
   have := (zFP ((zLq hk).2 _ rfl)).2.1
   simp [this]
  ·rfl

theorem zKF {t : TypeId} {k : EqK} {u v : AVal} {U V : Value} {b : Bool} {lit : Bool} (hk : cEq P t lit = some k) (e : eqA k u v = some b) (hu : VR P G u U) (hv : VR P G v V) (w : World) :
  (binOp .eql t U V).run P w = .ok (.bool b) w /\ (binOp .neq t U V).run P w = .ok (.bool (!b)) w := by
 have hr := zNb hk e hu hv w
 have t1 := hu.tag
 have t2 := hv.tag
 have ht : atag u ≠ 1 /\ atag u ≠ 2 /\ atag u ≠ 12 := by
  cases k <;> cases u <;> first | (refine ⟨?_, ?_, ?_⟩ <;> simp [atag]; done) | (simp [eqA] at e)
 cases U <;> simp only [vtag] at t1 <;> first
  | (exfalso; omega)
  | (constructor <;> simp [binOp, hr])
end
end Go.Ab
end
section
namespace Go.Ab
open Go.RowKit (Below)

section
variable {P : Program} {N : Nat} {w0 : World} {G G' : GM} {h : AHeap} {w : World} {a : AAct} {ag : Act} {M : Nat}

theorem zCh {v : AVal} {V : Value} {n : Nat} (e : zCU v = some n) (hv : VR P G v V) : ∃ k, V = .int k (n : Int) := by
 cases v with
 | int k m =>
  simp only [zCU] at e
  split at e
  ·rename_i hm; simp only [oI] at e; subst e
   cases hv; exact ⟨k, by rw [Int.toNat_of_nonneg hm]⟩
  ·cases e
 | _ => simp [zCU] at e

theorem zDZ (hl : ∀ g, g < P.globals.size -> ∃ gi, G g = some gi /\ gi.blk = g /\ gi.off = 0) (ha : ActR P G M a ag) {x : Option Operand} {x' : Option AOpd} {d most n : Nat} (hc : cOpt P x = some x') (e : zBj a x' d most = some n) :
  (x = none /\ n = d) \/ ∃ y, x = some y /\ n <= most /\ ∃ k, ag.eval y = .int k (n : Int) := by
 cases x with
 | none =>
  simp only [cOpt, oI] at hc; subst hc
  simp only [zBj, oI] at e
  exact .inl ⟨rfl, e.symm⟩
 | some y =>
  simp only [cOpt] at hc
  split at hc
  ·rename_i y' hy
   simp only [oI] at hc; subst hc
   simp only [zBj] at e
   split at e
   ·rename_i k m hv
    split at e
    ·rename_i hm
     simp only [oI] at e; subst e
     have := zBT hl ha hy hv
     refine .inr ⟨y, rfl, hm.2, k, ?_⟩
     rw [this, Int.toNat_of_nonneg hm.1]
    ·cases e
   ·cases e
  ·cases hc

theorem zBe {k : IntKind} {n y : Nat} (hn : n <= y) (code : BoundsCode) (w : World) : (Instr.sliceBound (.int k (n : Int)) y code).run P w = .ok n w := by
 have : (0 : Int) <= n /\ (n : Int) <= y := by omega
 simp [Instr.sliceBound, asIntOf, this]

theorem zAx (hl : ∀ g, g < P.globals.size -> ∃ gi, G g = some gi /\ gi.blk = g /\ gi.off = 0) (ha : ActR P G M a ag) {lo hi : Option Operand} {lo' hi' : Option AOpd} {len cap l t : Nat} (h1 : cOpt P lo = some lo') (h2 : cOpt P hi = some hi')
  (e2 : zBj a hi' len len = some t) (e1 : zBj a lo' 0 t = some l) (hlc : len <= cap) (b : Bool) (w : World) :
  l <= t /\ t <= len /\ (Instr.sliceBounds b len cap (lo.map ag.eval) (hi.map ag.eval) none).run P w = .ok (l, t, cap) w := by
 have ht : t <= len := by
  rcases zDZ hl ha h2 e2 with ⟨_, rfl⟩ | ⟨y, _, hle, _⟩
  ·exact Nat.le_refl _
  ·exact hle
 have hl' : l <= t := by
  rcases zDZ hl ha h1 e1 with ⟨_, rfl⟩ | ⟨y, _, hle, _⟩
  ·exact Nat.zero_le _
  ·exact hle
 refine ⟨hl', ht, ?_⟩
 rcases zDZ hl ha h2 e2 with ⟨rfl, rfl⟩ | ⟨y, rfl, _, k, hy⟩ <;> rcases zDZ hl ha h1 e1 with ⟨rfl, rfl⟩ | ⟨z, rfl, _, k', hz⟩
 ·simp [Instr.sliceBounds]
 ·simp [Instr.sliceBounds, hz, zBe hl']
 ·simp [Instr.sliceBounds, hy, zBe (Nat.le_trans ht hlc)]
 ·simp [Instr.sliceBounds, hy, hz, zBe (Nat.le_trans ht hlc), zBe hl']

theorem zHj : ∀ (cs : List Value) (off j : Nat) (L : Array Value), off + j + cs.length <= L.size →
  ((cs.zipIdx j).foldl (fun (L : Array Value) p => L.setIfInBounds (off + p.2) p.1) L).toList = L.toList.take (off + j) ++ cs ++ L.toList.drop (off + j + cs.length)
 | [], off, j, L, _ => by simp
 | c :: cs, off, j, L, hle => by
  simp only [List.zipIdx_cons, List.foldl_cons]
  simp only [zlC] at hle
  rw [zHj cs off (j + 1) _ (by simp; omega)]
  have hlt : off + j < L.toList.length := by simp; omega
  simp only [Array.toList_setIfInBounds]
  have e1 : (L.toList.set (off + j) c).take (off + (j + 1)) = L.toList.take (off + j) ++ [c] := by
   rw [show off + (j + 1) = off + j + 1 from rfl, List.take_add_one, List.take_set_of_le (Nat.le_refl _), List.getElem?_set_self hlt]
   rfl
  have e2 : (L.toList.set (off + j) c).drop (off + (j + 1) + cs.length) = L.toList.drop (off + j + (c :: cs).length) := by
   rw [List.drop_set_of_lt (by omega)]
   congr 1
   simp; omega
  rw [e1, e2]
  simp

theorem zFz (hl : ∀ g, g < P.globals.size -> ∃ gi, G g = some gi /\ gi.blk = g /\ gi.off = 0) (ha : ActR P G M a ag) {t : TypeId} {place : Nat -> Option (Nat × Nat)} (hp : ∀ i f, zKJ P t i = some f -> place i = some f) :
  ∀ {ps : List (Nat × Operand)} {ps' : List (Nat × Nat × AOpd)} {cells cs : List AVal} {L : Array Value},
  mapO (fun p => match zKJ P t p.1, cOpd P p.2 with | some f, some x => some (f.1, f.2, x) | _, _ => none) ps = some ps' -> zCw a cells ps' = some cs -> VsR P G cells L.toList →
  ∃ L' : Array Value, Instr.fill place L (ps.map fun p => (p.1, ag.eval p.2)) = some L' /\ VsR P G cs L'.toList
 | [], ps', cells, cs, L, hm, hf, hv => by
  simp only [mapO, oI] at hm; subst hm
  simp only [zCw, oI] at hf; subst hf
  exact ⟨L, rfl, hv⟩
 | p :: ps, ps', cells, cs, L, hm, hf, hv => by
  obtain ⟨y, zs, h1, h2, rfl⟩ := zBX hm
  split at h1
  ·rename_i f x hpl hx
   simp only [oI] at h1; subst h1
   simp only [zCw] at hf
   split at hf
   ·cases hf
   ·rename_i v hv1
    split at hf
    ·rename_i hlen
     have hval := zBT hl ha hx hv1
     have hc := hval.cells
     have hcl : (ag.eval p.2).cells.size = f.2 := by have := hc.length; simp at this; omega
     have hLl : L.size = cells.length := by have := hv.length; simpa using this
     have hplace := hp p.1 f hpl
     have hstep : VsR P G (cells.take f.1 ++ zAi v ++ cells.drop (f.1 + f.2)) ((ag.eval p.2).cells.zipIdx.foldl (fun cs (q : Value × Nat) => cs.setIfInBounds (f.1 + q.2) q.1) L).toList := by
      rw [<- Array.foldl_toList, Array.toList_zipIdx, zHj _ _ _ _ (by simp; omega)]
      have e1 : (ag.eval p.2).cells.toList.length = f.2 := by simpa using hcl
      rw [e1]
      simpa using ((hv.take f.1).append hc).append (hv.drop (f.1 + f.2))
     obtain ⟨L', h3, h4⟩ := zFz hl ha hp h2 hf hstep
     refine ⟨L', ?_, h4⟩
     simp only [List.map_cons, Instr.fill, hplace]
     rw [if_neg (by simp; omega)]
     exact h3
    ·cases hf
  ·cases h1
end
end Go.Ab
end
