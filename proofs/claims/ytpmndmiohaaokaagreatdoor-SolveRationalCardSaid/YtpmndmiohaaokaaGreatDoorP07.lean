import Derived.Test.YtpmndmiohaaokaaGreatDoorP06
/-
  Part 7 of the proof.
-/
set_option linter.all false
section
namespace Go.Ab

theorem zBE (a : AAct) (d t : Nat) (v : AVal) : ev (putA a (some d) v) (.tmp t) = if t = d then some v else ev a (.tmp t) := by simp only [ev, putA, T.get_set]
theorem zBS (a : AAct) (v : AVal) (x : AOpd) : ev (putA a none v) x = ev a x := rfl
theorem zBV (a : AAct) (v : AVal) : ev a (.val v) = some v := rfl
theorem zDi (a : AAct) (g : Nat) : ev a (.glob g) = some (.ptr (some (g, 0))) := rfl
theorem zCA (t : T AVal) (ds : List ADef) (i k : Nat) (v : AVal) : ev { tmps := t.set k (some v), defers := ds } (.tmp i) = if i = k then some v else ev { tmps := t, defers := ds } (.tmp i) := by simp only [ev, T.get_set]
theorem zCd (a : AAct) (d t : Nat) (v : AVal) : (putA a (some d) v).tmps.get t = if t = d then some v else a.tmps.get t := by simp only [putA, T.get_set]
theorem zDX (a : AAct) (t : Nat) : a.tmps.get t = ev a (.tmp t) := rfl
theorem zCI (a : AAct) (v : AVal) : (putA a none v).tmps = a.tmps := rfl
theorem zAc (a : AAct) (d : Option Nat) (v : AVal) : (putA a d v).defers = a.defers := by cases d <;> rfl

theorem zBK (h : AHeap) (o : AObj) : (newA h o).next = h.next + 1 := rfl
theorem zCC (h : AHeap) (id : Nat) (o : AObj) : (zAd h id o).next = h.next + 1 := rfl
theorem zCN (h : AHeap) (id : Nat) : (zDN h id).next = h.next := rfl
theorem zHv (h : AHeap) (o : AObj) (b : Nat) : (newA h o).objs.get b = if b = h.next then some (h.next, o) else h.objs.get b := by simp only [newA, T.get_set]
theorem zJn (h : AHeap) (id : Nat) (o : AObj) (b : Nat) : (zAd h id o).objs.get b = if b = id then some (h.next, o) else h.objs.get b := by simp only [zAd, T.get_set]
theorem zHP (h : AHeap) (id : Nat) (b : Nat) : (zDN h id).objs.get b = if b = id then none else h.objs.get b := by simp only [zDN, T.get_set]
theorem zAV (h : AHeap) (o : AObj) : (newA h o).objs.get h.next = some (h.next, o) := by rw [zHv, if_pos rfl]
theorem zBl (h : AHeap) (o : AObj) {b : Nat} (hb : b ≠ h.next) : (newA h o).objs.get b = h.objs.get b := by rw [zHv, if_neg hb]
theorem zAh (h : AHeap) (id : Nat) (o : AObj) : (zAd h id o).objs.get id = some (h.next, o) := by rw [zJn, if_pos rfl]
theorem zBN (h : AHeap) (id : Nat) (o : AObj) {b : Nat} (hb : b ≠ id) : (zAd h id o).objs.get b = h.objs.get b := by rw [zJn, if_neg hb]
theorem zBR (h : AHeap) (id : Nat) {b : Nat} (hb : b ≠ id) : (zDN h id).objs.get b = h.objs.get b := by rw [zHP, if_neg hb]

def WF (h : AHeap) : Prop := ∀ b, h.next <= b -> h.objs.get b = none
structure Grow (h h' : AHeap) : Prop where
 wf : WF h'
 next : h.next <= h'.next
 keep : ∀ b p, h.objs.get b = some p -> h'.objs.get b = some p

theorem WF.lt {h : AHeap} (w : WF h) {b : Nat} {p : Nat × AObj} (hb : h.objs.get b = some p) : b < h.next := by
 rcases Nat.lt_or_ge b h.next with k | k
 ·exact k
 ·rw [w b k] at hb; cases hb
theorem Grow.refl {h : AHeap} (w : WF h) : Grow h h := ⟨w, Nat.le_refl _, fun _ _ k => k⟩
theorem Grow.trans {h h' h'' : AHeap} (a : Grow h h') (b : Grow h' h'') : Grow h h'' := ⟨b.wf, Nat.le_trans a.next b.next, fun x p k => b.keep x p (a.keep x p k)⟩
theorem Grow.new {h0 h : AHeap} (a : Grow h0 h) (o : AObj) : Grow h0 (newA h o) := by
 refine ⟨fun b hb => ?_, Nat.le_succ_of_le a.next, fun b p k => ?_⟩
 ·rw [zHv, if_neg (by rw [zBK] at hb; omega)]; exact a.wf b (by rw [zBK] at hb; omega)
 ·have := a.wf.lt (a.keep b p k)
  rw [zHv, if_neg (by omega)]; exact a.keep b p k
theorem Grow.put {h0 h : AHeap} (a : Grow h0 h) (w0 : WF h0) {id : Nat} (o : AObj) (hi : h0.next <= id) (hl : id < h.next) : Grow h0 (zAd h id o) := by
 refine ⟨fun b hb => ?_, Nat.le_succ_of_le a.next, fun b p k => ?_⟩
 ·rw [zJn, if_neg (by rw [zCC] at hb; omega)]; exact a.wf b (by rw [zCC] at hb; omega)
 ·have := w0.lt k
  rw [zJn, if_neg (by omega)]; exact a.keep b p k
theorem Grow.drop {h0 h : AHeap} (a : Grow h0 h) (w0 : WF h0) {id : Nat} (hi : h0.next <= id) : Grow h0 (zDN h id) := by
 refine ⟨fun b hb => ?_, a.next, fun b p k => ?_⟩
 ·rw [zHP]; split
  ·rfl
  ·exact a.wf b hb
 ·have := w0.lt k
  rw [zHP, if_neg (by omega)]; exact a.keep b p k

def lenO : AVal -> Option Nat
 | .slice _ n => some n
 | .slice0 => some 0
 | .sliceE => some 0
 | _ => none
def slA (v : AVal) (sz i : Nat) : Option (Nat × Nat) :=
 match v with
 | .slice (some (b, o)) n => if i < n then some (b, o + i * sz) else none
 | _ => none
def SlAt (h : AHeap) (sz : Nat) (v : AVal) (xs : List (List AVal)) : Prop :=
 lenO v = some xs.length /\ ∀ i x, xs[i]? = some x -> x.length = sz /\ ∃ b o ver ro e vs, slA v sz i = some (b, o) /\ h.objs.get b = some (ver, .cells ro e vs) /\ (vs.drop o).take sz = x

theorem SlAt.mono {h h' : AHeap} (g : Grow h h') {sz : Nat} {v : AVal} {xs : List (List AVal)} (k : SlAt h sz v xs) : SlAt h' sz v xs :=
 ⟨k.1, fun i x hx => by obtain ⟨h1, b, o, ver, ro, e, vs, h2, h3, h4⟩ := k.2 i x hx; exact ⟨h1, b, o, ver, ro, e, vs, h2, g.keep _ _ h3, h4⟩⟩

theorem zHz {vs : List AVal} {o : Nat} {x : AVal} (h : (vs.drop o).take 1 = [x]) : vs[o]? = some x := by
 have := congrArg (fun l => l[0]?) h
 simpa using this
section
variable (a : AAct) (h : AHeap)
theorem zFo (x : AOpd) : qA a h (.mov x) = (match ev a x with | some v => some (v, none) | none => none) := rfl
theorem zDs (c x y : AOpd) : qA a h (.pick c x y) = (match ev a c with
  | some (.bool true) => (match ev a x with | some v => some (v, none) | none => none)
  | some (.bool false) => (match ev a y with | some v => some (v, none) | none => none)
  | _ => none) := rfl
theorem zBh (z : List AVal) (ps : List (Nat × Nat × AOpd)) : qA a h (.build z ps) = (match zCw a z ps with | some cs => some (.agg cs, none) | none => none) := rfl
theorem zBc (x : AOpd) : qA a h (.nilCheck x) = (match ev a x with | some (.ptr (some p)) => some (.ptr (some p), none) | _ => none) := rfl
theorem zFr (op : BinOp) (x y : AOpd) : qA a h (.num op x y) = (match ev a x, ev a y with
  | some u, some v => (match numA op u v with | some r => some (r, none) | none => none)
  | _, _ => none) := rfl
theorem zDc (neg : Bool) (k : EqK) (x y : AOpd) : qA a h (.eql neg k x y) = (match ev a x, ev a y with
  | some u, some v => (match eqA k u v with | some b => some (.bool (xor neg b), none) | none => none)
  | _, _ => none) := rfl
theorem zFq (x : AOpd) : qA a h (.not x) = (match ev a x with | some (.bool b) => some (.bool (!b), none) | _ => none) := rfl
theorem zFp (x : AOpd) : qA a h (.neg x) = (match ev a x with | some (.int k n) => some (.int k (k.wrap (0 - n)), none) | _ => none) := rfl
theorem zDm (k : IntKind) (x : AOpd) : qA a h (.conv k x) = (match ev a x with | some (.int _ n) => some (.int k (k.wrap n), none) | _ => none) := rfl
theorem zDt (x : AOpd) : qA a h (.same x) = (match ev a x with | some (.str s) => some (.str s, none) | _ => none) := rfl
theorem zCr (t : TypeId) (x : AOpd) : qA a h (.iface t x) = (match ev a x with | some v => some (.iface t v, none) | none => none) := rfl
theorem zDn (f : FuncId) (l m : List AOpd) : qA a h (.func f l m) = (match evs a l, evs a m with
  | some l, some m => some (.func f l m, none)
  | _, _ => none) := rfl
theorem zCq (off : Nat) (size : Option Nat) (x : AOpd) : qA a h (.field off size x) = (match ev a x with
  | some (.agg cs) => (match zBC size cs off with | some v => some (v, none) | none => none)
  | _ => none) := rfl
theorem zCQ (off : Nat) (x : AOpd) : qA a h (.fieldA off x) = (match ev a x with
  | some (.ptr (some (b, o))) => some (.ptr (some (b, o + off)), none)
  | _ => none) := rfl
theorem zCR (size : Nat) (x i : AOpd) : qA a h (.indexA size x i) = (match ev a x, ev a i with
  | some v, some w => (match zCU w with
   | some i => (match slA v size i with | some p => some (.ptr (some p), none) | none => none)
   | none => none)
  | _, _ => none) := by
 simp only [qA]
 cases ev a x with
 | none => rfl
 | some v =>
  cases ev a i with
  | none => cases v with
   | slice p n => cases p <;> rfl
   | _ => rfl
  | some w =>
   cases hw : zCU w with
   | none => cases v with
    | slice p n => cases p <;> simp [hw]
    | _ => simp only [hw]
   | some j => cases v with
    | slice p n =>
     cases p with
     | none => simp only [hw, slA]
     | some p =>
      obtain ⟨b, o⟩ := p
      simp only [hw, slA]
      by_cases hj : j < n
      ·simp only [if_pos hj]
      ·simp only [if_neg hj]
    | _ => simp only [hw, slA]
theorem zBI (n size : Nat) (x i : AOpd) : qA a h (.indexR n size x i) = (match ev a x, ev a i with
  | some (.ptr (some (b, o))), some v => (match zCU v with
   | some i => if i < n then some (.ptr (some (b, o + i * size)), none) else none
   | none => none)
  | _, _ => none) := rfl
theorem zCS (x i : AOpd) : qA a h (.indexS x i) = (match ev a x, ev a i with
  | some (.str s), some v => (match zCU v with
   | some i => (match s[i]? with | some c => some (.int .u8 (Int.ofNat c), none) | none => none)
   | none => none)
  | _, _ => none) := rfl
theorem zCH (n size : Nat) (ag : Bool) (x i : AOpd) : qA a h (.indexV n size ag x i) = (match ev a x, ev a i with
  | some (.agg cs), some v => (match zCU v with
   | some i => if i < n then (match zBC (if ag then some size else none) cs (i * size) with | some v => some (v, none) | none => none) else none
   | none => none)
  | _, _ => none) := rfl
theorem zBs (x : AOpd) (i : Nat) : qA a h (.extract x i) = (match ev a x with
  | some (.tuple vs) => (match vs[i]? with | some v => some (v, none) | none => none)
  | _ => none) := rfl
theorem zDp (x : AOpd) : qA a h (.lenS x) = (match ev a x with | some (.str s) => some (.int .i64 (Int.ofNat s.length), none) | _ => none) := rfl
theorem zDq (x : AOpd) : qA a h (.lenV x) = (match ev a x with
  | some v => (match lenO v with | some n => some (.int .i64 (Int.ofNat n), none) | none => none)
  | none => none) := by
 simp only [qA]
 cases ev a x with
 | none => rfl
 | some v => cases v <;> rfl
theorem zDo (x : AOpd) : qA a h (.lenM x) = (match ev a x with
  | some (.map none) => some (.int .i64 0, none)
  | some (.map (some r)) => (match h.objs.get r with
   | some (_, .map es _) => some (.int .i64 (Int.ofNat es.length), some r)
   | _ => none)
  | _ => none) := rfl
theorem zFm (x y : AOpd) : qA a h (.max x y) = (match ev a x, ev a y with
  | some (.int k x), some (.int _ y) => some (.int k (if y > x then y else x), none)
  | _, _ => none) := rfl
theorem zFn (x y : AOpd) : qA a h (.min x y) = (match ev a x, ev a y with
  | some (.int k x), some (.int _ y) => some (.int k (if y < x then y else x), none)
  | _, _ => none) := rfl
theorem zDr (size : Option Nat) (x : AOpd) : qA a h (.load size x) = (match ev a x with
  | some (.ptr (some (b, o))) => (match h.objs.get b with
   | some (_, .cells _ _ vs) => (match zBC size vs o with | some v => some (v, some b) | none => none)
   | _ => none)
  | _ => none) := rfl
theorem zBv (z : AVal) (ok : Bool) (m x : AOpd) : qA a h (.lookup .str z ok m x) = (match ev a m, ev a x with
      | some m, some x => zCz h .str z ok m x
      | _, _ => none) := rfl
theorem zBu (z : AVal) (ok : Bool) (m x : AOpd) : qA a h (.lookup .int z ok m x) = (match ev a m, ev a x with
      | some m, some x => zCz h .int z ok m x
      | _, _ => none) := rfl
theorem zBt (n : Nat) (z : AVal) (ok : Bool) (m x : AOpd) : qA a h (.lookup (.agg n) z ok m x) = (match ev a m, ev a x with
      | some m, some x => zCz h (.agg n) z ok m x
      | _, _ => none) := rfl
theorem zCT (elem : TypeId) (size : Nat) (x : AOpd) (lo hi : Option AOpd) (h : AHeap) : qA a h (.slice elem size x lo hi) = (match ev a x with
  | some (.slice none n) => (match zBj a hi n n with
   | some h => (match zBj a lo 0 h with | some _ => some (.slice none 0, none) | none => none)
   | none => none)
  | some (.slice (some (b, o)) n) => (match zBj a hi n n with
   | some t => (match zBj a lo 0 t with
    | some 0 => some (.slice (some (b, o)) t, none)
    | some l => if l < n then (match h.objs.get b with
      | some (_, .cells _ e _) => if e = elem then some (.slice (some (b, o + l * size)) (t - l), none) else none
      | _ => none)
     else some (.sliceE, none)
    | none => none)
   | none => none)
  | _ => none) := rfl
theorem zBw (x : AOpd) : qA a h (.slice00 x) = (match ev a x with
  | some (.slice none _) => some (.slice none 0, none)
  | some (.slice (some _) _) => some (.slice0, none)
  | some .slice0 => some (.slice0, none)
  | _ => none) := rfl
end

def intC (k : Int) : List AVal := [.int .i64 k]
def strC (s : List Nat) : List AVal := [.str s]
def IntsAt (h : AHeap) (v : AVal) (l : List Int) : Prop := SlAt h 1 v (l.map intC)
def StrsAt (h : AHeap) (v : AVal) (l : List (List Nat)) : Prop := SlAt h 1 v (l.map strC)
structure Node where
 kind : Int
 name : List Nat
 args : List Int
 labels : List (List Nat)
 isOpen : Bool
 deriving DecidableEq
structure Graph where
 nodes : List Node
 root : Int
 deriving DecidableEq
def NodeAt (h : AHeap) (c : List AVal) (n : Node) : Prop := ∃ av lv, c = [.int .i64 n.kind, .str n.name, av, lv, .bool n.isOpen] /\ IntsAt h av n.args /\ StrsAt h lv n.labels
def NodesAt (h : AHeap) (v : AVal) (l : List Node) : Prop := ∃ cs : List (List AVal), SlAt h 5 v cs /\ cs.length = l.length /\ ∀ (i : Nat) (n : Node) (c : List AVal), l[i]? = some n -> cs[i]? = some c -> NodeAt h c n
def GraphAt (h : AHeap) (v : AVal) (g : Graph) : Prop := ∃ nv, v = .agg [nv, .int .i64 g.root] /\ NodesAt h nv g.nodes

section
variable {h h' : AHeap} (g : Grow h h')
include g
theorem IntsAt.mono {v : AVal} {l : List Int} (k : IntsAt h v l) : IntsAt h' v l := SlAt.mono g k
theorem StrsAt.mono {v : AVal} {l : List (List Nat)} (k : StrsAt h v l) : StrsAt h' v l := SlAt.mono g k
theorem NodeAt.mono {c : List AVal} {n : Node} (k : NodeAt h c n) : NodeAt h' c n := by obtain ⟨av, lv, h1, h2, h3⟩ := k; exact ⟨av, lv, h1, h2.mono g, h3.mono g⟩
theorem NodesAt.mono {v : AVal} {l : List Node} (k : NodesAt h v l) : NodesAt h' v l := by
 obtain ⟨cs, h1, h2, h3⟩ := k; exact ⟨cs, h1.mono g, h2, fun i n c a b => (h3 i n c a b).mono g⟩
theorem GraphAt.mono {v : AVal} {x : Graph} (k : GraphAt h v x) : GraphAt h' v x := by obtain ⟨nv, h1, h2⟩ := k; exact ⟨nv, h1, h2.mono g⟩
end
theorem IntsAt.len {h : AHeap} {v : AVal} {l : List Int} (k : IntsAt h v l) : lenO v = some l.length := by have := k.1; rwa [List.length_map] at this
theorem StrsAt.len {h : AHeap} {v : AVal} {l : List (List Nat)} (k : StrsAt h v l) : lenO v = some l.length := by have := k.1; rwa [List.length_map] at this
theorem NodesAt.len {h : AHeap} {v : AVal} {l : List Node} (k : NodesAt h v l) : lenO v = some l.length := by obtain ⟨cs, h1, h2, _⟩ := k; rw [<- h2]; exact h1.1

theorem IntsAt.at {h : AHeap} {v : AVal} {l : List Int} (k : IntsAt h v l) {i : Nat} {c : Int} (hc : l[i]? = some c) :
  ∃ b o ver ro e vs, slA v 1 i = some (b, o) /\ h.objs.get b = some (ver, .cells ro e vs) /\ vs[o]? = some (.int .i64 c) := by
 obtain ⟨_, b, o, ver, ro, e, vs, h1, h2, h3⟩ := k.2 i (intC c) (by rw [List.getElem?_map, hc]; rfl)
 exact ⟨b, o, ver, ro, e, vs, h1, h2, zHz h3⟩
theorem StrsAt.at {h : AHeap} {v : AVal} {l : List (List Nat)} (k : StrsAt h v l) {i : Nat} {c : List Nat} (hc : l[i]? = some c) :
  ∃ b o ver ro e vs, slA v 1 i = some (b, o) /\ h.objs.get b = some (ver, .cells ro e vs) /\ vs[o]? = some (.str c) := by
 obtain ⟨_, b, o, ver, ro, e, vs, h1, h2, h3⟩ := k.2 i (strC c) (by rw [List.getElem?_map, hc]; rfl)
 exact ⟨b, o, ver, ro, e, vs, h1, h2, zHz h3⟩
theorem NodesAt.at {h : AHeap} {v : AVal} {l : List Node} (k : NodesAt h v l) {i : Nat} {n : Node} (hc : l[i]? = some n) :
  ∃ b o ver ro e vs av lv, slA v 5 i = some (b, o) /\ h.objs.get b = some (ver, .cells ro e vs) /\ o + 5 <= vs.length /\ (vs.drop o).take 5 = [.int .i64 n.kind, .str n.name, av, lv, .bool n.isOpen] ∧
   vs[o]? = some (.int .i64 n.kind) /\ vs[o + 1]? = some (.str n.name) /\ vs[o + 2]? = some av /\ vs[o + 3]? = some lv /\ vs[o + 4]? = some (.bool n.isOpen) /\ IntsAt h av n.args /\ StrsAt h lv n.labels := by
 obtain ⟨cs, h1, h2, h3⟩ := k
 have hi : i < cs.length := by rw [h2]; exact (List.getElem?_eq_some_iff.1 hc).1
 have hcs : cs[i]? = some cs[i] := List.getElem?_eq_getElem hi
 obtain ⟨av, lv, h4, h5, h6⟩ := h3 i n _ hc hcs
 obtain ⟨k4, b, o, ver, ro, e, vs, k1, k2, k3⟩ := h1.2 i _ hcs
 rw [h4] at k3
 have hl : o + 5 <= vs.length := by have := congrArg List.length k3; simp at this; omega
 have hg : ∀ j : Nat, j < 5 -> vs[o + j]? = ([.int .i64 n.kind, .str n.name, av, lv, .bool n.isOpen] : List AVal)[j]? := fun j hj => by
  rw [<- k3, List.getElem?_take, if_pos hj, List.getElem?_drop]
 exact ⟨b, o, ver, ro, e, vs, av, lv, k1, k2, hl, k3, hg 0 (by decide), hg 1 (by decide), hg 2 (by decide), hg 3 (by decide), hg 4 (by decide), h5, h6⟩

theorem zAq {n : Int} (h0 : -(2 ^ 62) <= n) (h1 : n < 2 ^ 62) : IntKind.i64.wrap n = n := by
 have hs : IntKind.i64.signed = true := rfl
 have hb : IntKind.i64.bits = 64 := rfl
 unfold IntKind.wrap
 simp only [hs, hb]
 have e63 : (2 : Int) ^ (64 - 1) = 9223372036854775808 := by decide
 have e64 : (2 : Int) ^ 64 = 18446744073709551616 := by decide
 rw [e63, e64]
 have h0' : -4611686018427387904 <= n := h0
 have h1' : n < 4611686018427387904 := h1
 rcases Int.lt_or_le n 0 with hn | hn
 ·have : n % 18446744073709551616 = n + 18446744073709551616 := by omega
  rw [this]
  have : (decide (n + 18446744073709551616 >= 9223372036854775808)) = true := by rw [decide_eq_true_eq]; omega
  simp only [this, Bool.and_self, if_true]
  omega
 ·have : n % 18446744073709551616 = n := by omega
  rw [this]
  have : (decide (n >= 9223372036854775808)) = false := by rw [decide_eq_false_iff_not]; omega
  simp only [this, Bool.and_false, Bool.false_eq_true, if_false]

section
variable {fns : FnsT} {summ : SumT} {ro : Option Nat}

theorem zAz {k c i n d : Nat} {inner : ACode} {N : Nat} (hN : N < 2 ^ 62) {Q : AExit -> AAct -> AHeap -> Prop} (I : Nat -> AAct -> AHeap -> Prop)
  (stab : ∀ j a h t v, (t = c \/ t = d \/ t = i) -> I j a h -> I j (putA a (some t) v) h) (hx : n ≠ c /\ n ≠ d /\ n ≠ i /\ c ≠ i /\ d ≠ i)
  (hb : ∀ j a h, j < N -> I j a h -> ev a (.tmp i) = some (.int .i64 (j : Nat)) -> ev a (.tmp n) = some (.int .i64 (N : Nat)) -> Cd fns summ ro inner a h (nxt (fun a h => I (j + 1) a h /\ ev a (.tmp i) = some (.int .i64 (j : Nat)) /\ ev a (.tmp n) = some (.int .i64 (N : Nat))) (blk k Q)))
  (he : ∀ a h, I N a h -> Q .normal a h) {a : AAct} {h : AHeap} (hi : I 0 a h) (h1 : ev a (.tmp i) = some (.int .i64 0)) (h2 : ev a (.tmp n) = some (.int .i64 (N : Nat))) :
  Cd fns summ ro (.block k (.loop (.seq (.ops [⟨some c, none, .q (.num .lss (.tmp i) (.tmp n))⟩]) (.seq (.cond (.tmp c) .skip (.exit k)) (.seq inner
   (.ops [⟨some d, none, .q (.num .add (.tmp i) (.val (.int .i64 1)))⟩, ⟨some i, none, .q (.mov (.tmp d))⟩])))))) a h Q := by
 obtain ⟨n1, n2, n3, n4, n5⟩ := hx
 refine zBy ?_
 refine zDM (fun m a h => ∃ j : Nat, m + j = N /\ I j a h /\ ev a (.tmp i) = some (.int .i64 (j : Nat)) /\ ev a (.tmp n) = some (.int .i64 (N : Nat))) ?_ (n := N) ⟨0, rfl, hi, h1, h2⟩
 rintro m a h ⟨j, hm, hI, hi, hn⟩
 refine zAE (zAD (st_q (v := .bool (decide ((j : Int) < (N : Int)))) (b := none) ?_ (zAC ?_)))
 ·simp only [qA, hi, hn]; rfl
 refine zAE (zJO (b := decide ((j : Int) < (N : Int))) (by simp only [zBE, if_true]) (fun hlt => zAT ?_) (fun hge => zCF ?_))
 ·have hlt : (j : Int) < (N : Int) := of_decide_eq_true hlt
  have hlt' : j < N := by omega
  refine zAE ((hb j _ h hlt' (stab _ _ _ _ _ (.inl rfl) hI) (by rw [zBE, if_neg (Ne.symm n4)]; exact hi) (by rw [zBE, if_neg n1]; exact hn)).mono fun e a1 h1 hq => ?_)
  cases e with
  | normal =>
   obtain ⟨hI1, hi1, hn1⟩ := hq
   have hw : IntKind.i64.wrap ((j : Int) + 1) = ((j + 1 : Nat) : Int) := by rw [zAq (by omega) (by omega)]; omega
   refine zAD (st_q (v := .int .i64 ((j + 1 : Nat) : Int)) (b := none) ?_ (st_q (v := .int .i64 ((j + 1 : Nat) : Int)) (b := none) ?_ (zAC ?_)))
   ·rw [<- hw]; simp only [qA, hi1, zBV]; rfl
   ·simp only [qA, zBE, if_true]
   ·exact ⟨m - 1, by omega, j + 1, by omega, stab _ _ _ _ _ (.inr (.inr rfl)) (stab _ _ _ _ _ (.inr (.inl rfl)) hI1), by rw [zBE, if_pos rfl], by rw [zBE, if_neg n3, zBE, if_neg n2]; exact hn1⟩
  | ret => exact hq
  | exit id => exact hq
 ·have hge : ¬ ((j : Int) < (N : Int)) := of_decide_eq_false hge
  have : j = N := by omega
  subst this
  show blk k Q (.exit k) _ _
  simp only [blk, if_true]
  exact he _ _ (stab _ _ _ _ _ (.inl rfl) hI)

theorem zBW {d : Option Tmp} {t : Tmp} {w : Bool} {op : QOp} {l : List Step} {a : AAct} {h : AHeap} {K : AAct -> AHeap -> Prop} {v : AVal} {b : Option Nat} (hg : ev a (.tmp t) = some (.bool w)) (hv : qA a h op = some (v, b)) (k : St fns summ ro l (putA a d v) h K) :
  St fns summ ro (⟨d, some (t, w), .q op⟩ :: l) a h K := st_qg hg (fun _ => ⟨v, b, hv, k⟩) (fun hc => by rcases hc with hc | hc <;> (cases w <;> cases hc)) (.inl rfl)
theorem zDV {d : Option Tmp} {t : Tmp} {w : Bool} {op : QOp} {l : List Step} {a : AAct} {h : AHeap} {K : AAct -> AHeap -> Prop} (hg : ev a (.tmp t) = some (.bool (!w))) (k : St fns summ ro l (putA a d (.tuple [])) h K) :
  St fns summ ro (⟨d, some (t, w), .q op⟩ :: l) a h K := st_qg hg (fun hc => by cases w <;> cases hc) (fun _ => k) (.inr (.inl rfl))
theorem st_qU {d : Option Tmp} {t : Tmp} {w : Bool} {op : QOp} {l : List Step} {a : AAct} {h : AHeap} {K : AAct -> AHeap -> Prop} (hg : ev a (.tmp t) = some (.tuple [])) (k : St fns summ ro l (putA a d (.tuple [])) h K) :
  St fns summ ro (⟨d, some (t, w), .q op⟩ :: l) a h K := st_qg hg (fun hc => by cases hc) (fun _ => k) (.inr (.inr rfl))
theorem st_eT {d : Option Tmp} {t : Tmp} {w : Bool} {op : EOp} {l : List Step} {a : AAct} {h : AHeap} {K : AAct -> AHeap -> Prop} (hg : ev a (.tmp t) = some (.bool w)) (k : Ex fns summ ro a h d op fun a h => St fns summ ro l a h K) :
  St fns summ ro (⟨d, some (t, w), .e op⟩ :: l) a h K := st_eg hg (fun _ => k) (fun hc => by rcases hc with hc | hc <;> (cases w <;> cases hc)) (.inl rfl)
theorem zFN {d : Option Tmp} {t : Tmp} {w : Bool} {op : EOp} {l : List Step} {a : AAct} {h : AHeap} {K : AAct -> AHeap -> Prop} (hg : ev a (.tmp t) = some (.bool (!w))) (k : St fns summ ro l (putA a d (.tuple [])) h K) :
  St fns summ ro (⟨d, some (t, w), .e op⟩ :: l) a h K := st_eg hg (fun hc => by cases w <;> cases hc) (fun _ => k) (.inr (.inl rfl))
theorem zAb {d : Option Tmp} {f : FuncId} {xs : List AOpd} {l : List Step} {a : AAct} {h : AHeap} {K : AAct -> AHeap -> Prop} {vs : List AVal} (hv : evs a xs = some vs) (k : Cl fns summ f vs h fun v h => St fns summ ro l (putA a d v) h K) :
  St fns summ ro (⟨d, none, .e (.call (.val (.func f [] [])) xs)⟩ :: l) a h K := st_e (zFy rfl hv (zGm (by simpa using k)))
theorem zBi {d : Option Tmp} {t : Tmp} {w : Bool} {f : FuncId} {xs : List AOpd} {l : List Step} {a : AAct} {h : AHeap} {K : AAct -> AHeap -> Prop} {vs : List AVal} (hg : ev a (.tmp t) = some (.bool w)) (hv : evs a xs = some vs) (k : Cl fns summ f vs h fun v h => St fns summ ro l (putA a d v) h K) :
  St fns summ ro (⟨d, some (t, w), .e (.call (.val (.func f [] [])) xs)⟩ :: l) a h K := st_eT hg (zFy rfl hv (zGm (by simpa using k)))
theorem st_t {d : Option Tmp} {op : EOp} {l : List Step} {a : AAct} {h : AHeap} {K : AAct -> AHeap -> Prop} (h1 : ∀ f xs, op ≠ .call f xs) (h2 : ∀ f xs, op ≠ .defer f xs) {v : AVal} {h' : AHeap} (ht : zBU a h op = .ret (v, h')) (k : St fns summ ro l (putA a d v) h' K) :
  St fns summ ro (⟨d, none, .e op⟩ :: l) a h K := st_e (ex_turn h1 h2 ht k)

theorem zAA {K : AAct -> AHeap -> Prop} {Q : AExit -> AAct -> AHeap -> Prop} {a : AAct} {h : AHeap} (k : K a h) : nxt K Q .normal a h := k
theorem zAa {K : AAct -> AHeap -> Prop} {Q : AExit -> AAct -> AHeap -> Prop} {a : AAct} {h : AHeap} (k : Q .ret a h) : nxt K Q .ret a h := k
theorem zBg {K : AAct -> AHeap -> Prop} {Q : AExit -> AAct -> AHeap -> Prop} {a : AAct} {h : AHeap} {i : Nat} (k : Q (.exit i) a h) : nxt K Q (.exit i) a h := k
theorem zAQ {Q : AExit -> AAct -> AHeap -> Prop} {a : AAct} {h : AHeap} {i : Nat} (k : Q .normal a h) : blk i Q .normal a h := k
theorem zBP {Q : AExit -> AAct -> AHeap -> Prop} {a : AAct} {h : AHeap} {i : Nat} (k : Q .ret a h) : blk i Q .ret a h := k
theorem zBf {Q : AExit -> AAct -> AHeap -> Prop} {a : AAct} {h : AHeap} {i : Nat} (k : Q .normal a h) : blk i Q (.exit i) a h := by simp only [blk, if_true]; exact k
theorem zNK {Q : AExit -> AAct -> AHeap -> Prop} {a : AAct} {h : AHeap} {i j : Nat} (k : Q (.exit j) a h) (hn : Nat.beq j i = false) : blk i Q (.exit j) a h := by
 have : j ≠ i := fun e => by rw [e, Nat.beq_refl] at hn; cases hn
 simp only [blk, if_neg this]; exact k
theorem cd_cut {x y : ACode} {a : AAct} {h : AHeap} {Q : AExit -> AAct -> AHeap -> Prop} (I : AAct -> AHeap -> Prop) (k1 : Cd fns summ ro x a h (nxt I Q)) (k2 : ∀ a h, I a h -> Cd fns summ ro y a h Q) : Cd fns summ ro (.seq x y) a h Q :=
 zAE (k1.mono fun e a1 h1 hq => by cases e with
  | normal => exact k2 a1 h1 hq
  | ret => exact hq
  | exit i => exact hq)
theorem zAP {id : Nat} {x y : ACode} {a : AAct} {h : AHeap} {Q : AExit -> AAct -> AHeap -> Prop} (k : Cd fns summ ro (.seq x y) a h (blk id Q)) : Cd fns summ ro (.block id (.seq x y)) a h Q := zBy k
theorem zKO {id : Nat} {l : List Step} {a : AAct} {h : AHeap} {Q : AExit -> AAct -> AHeap -> Prop} (k : St fns summ ro l a h (blk id Q .normal)) : Cd fns summ ro (.block id (.ops l)) a h Q := zBy (zAD k)

theorem zDu {x y : List Nat} (h : x.length + y.length < 1000000000000) : zFO .add x y = some (.str (x ++ y)) := by simp only [zFO, if_pos h]
theorem zDv (x y : List Nat) : zFO .eql x y = some (.bool (eqL x y)) := rfl
theorem zEA (x y : List Nat) : zFO .neq x y = some (.bool (!eqL x y)) := rfl
theorem zDz (x y : List Nat) : zFO .lss x y = some (.bool (zBB x y)) := rfl
theorem zDy (x y : List Nat) : zFO .leq x y = some (.bool (zBB x y || eqL x y)) := rfl
theorem zDx (x y : List Nat) : zFO .gtr x y = some (.bool (!(zBB x y || eqL x y))) := rfl
theorem zDw (x y : List Nat) : zFO .geq x y = some (.bool (!zBB x y)) := rfl

theorem zJJ {d : Option Tmp} {kk : KeyK} {m x v : AOpd} {l : List Step} {a : AAct} {h : AHeap} {K : AAct -> AHeap -> Prop} {r ver clock : Nat} {k val : AVal} {es : List (AVal × AVal × Nat)} (hm : ev a m = some (.map (some r))) (hx : ev a x = some k) (hv : ev a v = some val)
  (hn : kk ≠ .ptr) (hk : zEh kk k = true) (hg : h.objs.get r = some (ver, .map es clock)) (hf : zBm kk k es 0 = some none) (kont : St fns summ ro l (putA a d (.tuple [])) (zAd h r (.map (es ++ [(k, val, clock)]) (clock + 1))) K) : St fns summ ro (⟨d, none, .e (.update kk m x v)⟩ :: l) a h K := by
 refine st_t (by intro _ _ hh; cases hh) (by intro _ _ hh; cases hh) (v := .tuple []) (h' := zAd h r (.map (es ++ [(k, val, clock)]) (clock + 1))) ?_ kont
 have : zIu h kk (.map (some r)) k = true := by cases kk <;> first | rfl | exact absurd rfl hn
 simp only [zBU, hm, hx, hv, this, zKC, hk, hg, hf]
def gd (p : Bool) (v : AVal) : AVal := match p with | true => v | false => .tuple []
def gdB (w : Bool) : AVal -> Option Bool
 | .bool c => some (c == w)
 | .tuple [] => some false
 | _ => none
theorem zCo (w c : Bool) : gdB w (.bool c) = some (c == w) := rfl
theorem zFk (w q c : Bool) : gdB w (gd q (.bool c)) = some (q && (c == w)) := by cases q <;> rfl
theorem zDj (v : AVal) : gd true v = v := rfl
theorem beqT (b : Bool) : (b == true) = b := by cases b <;> rfl
theorem beqF (b : Bool) : (b == false) = !b := by cases b <;> rfl
theorem gdB_spec {w p : Bool} {gv : AVal} (hp : gdB w gv = some p) : (p = true -> gv = .bool w) /\ (p = false -> gv = .bool (!w) \/ gv = .tuple []) /\ (gv = .bool w \/ gv = .bool (!w) \/ gv = .tuple []) := by
 unfold gdB at hp
 split at hp
 ·rename_i c
  simp only [oI] at hp
  subst hp
  cases c <;> cases w <;> simp
 ·simp only [oI] at hp; subst hp; simp
 ·cases hp
theorem zGE {d : Option Tmp} {t : Tmp} {w p : Bool} {op : QOp} {l : List Step} {a : AAct} {h : AHeap} {K : AAct -> AHeap -> Prop} {gv v : AVal} {b : Option Nat} (hg : ev a (.tmp t) = some gv) (hp : gdB w gv = some p) (hv : p = true -> qA a h op = some (v, b)) (k : St fns summ ro l (putA a d (gd p v)) h K) :
  St fns summ ro (⟨d, some (t, w), .q op⟩ :: l) a h K := by
 obtain ⟨h1, h2, h3⟩ := gdB_spec hp
 refine st_qg hg (fun hc => ?_) (fun hc => ?_) h3
 ·cases p with
  | true => exact ⟨v, b, hv rfl, k⟩
  | false => rcases h2 rfl with h4 | h4 <;> (rw [h4] at hc; cases w <;> cases hc)
 ·cases p with
  | true => have := h1 rfl; subst this; rcases hc with hc | hc <;> (cases w <;> cases hc)
  | false => exact k
theorem zMK {a : AAct} {h : AHeap} {c x : AOpd} {b v : Bool} (hc : ev a c = some (.bool b)) (hx : b = true -> ev a x = some (.bool v)) : qA a h (.pick c x (.val (.bool false))) = some (.bool (b && v), none) := by
 cases b with
 | true => simp only [qA, hc, hx rfl, Bool.true_and]
 | false => simp only [qA, hc, zBV, Bool.false_and]
theorem pick_or {a : AAct} {h : AHeap} {c y : AOpd} {b v : Bool} (hc : ev a c = some (.bool b)) (hy : b = false -> ev a y = some (.bool v)) : qA a h (.pick c (.val (.bool true)) y) = some (.bool (b || v), none) := by
 cases b with
 | true => simp only [qA, hc, zBV, Bool.true_or]
 | false => simp only [qA, hc, hy rfl, Bool.false_or]

theorem zNR {f : AOpd} {ps : List Tmp} {assign body : ACode} {a : AAct} {h : AHeap} {Q : AExit -> AAct -> AHeap -> Prop} {g : FuncId} {first captured : List AVal} (hf : ev a f = some (.func g first captured))
  (k : Cl fns summ g (first ++ [.yield (h.next + 1)] ++ captured) (newA (newA h (.dfr false)) (.loop .ready none a.tmps ps assign body h.next)) fun _ h3 =>
   ∃ ver st pd t ps' as' bd' df', h3.objs.get (h.next + 1) = some (ver, .loop st pd t ps' as' bd' df') /\ st ≠ .busy ∧
    (match pd with
    | none => Q .normal { a with defers := .collected h.next :: a.defers } (zAd h3 (h.next + 1) (.loop .exhausted none t ps' as' bd' df'))
    | some .normal => False
    | some e => Q e { a with defers := .collected h.next :: a.defers } (zAd h3 (h.next + 1) (.loop .exhausted (some e) t ps' as' bd' df')))) :
  Cd fns summ none (.rangeF f ps assign body) a h Q := by
 unfold Cd CodeW
 simp only [zCe, hf]
 refine Ev.bind (fun n m hnm => (zES fns summ hnm).1 _ _ _) (Ev.mono k fun p hp => ?_)
 obtain ⟨ver, st, pd, t, ps', as', bd', df', h1, h2, h3⟩ := hp
 simp only [zBK, h1]
 cases st with
 | busy => exact absurd rfl h2
 | ready | done | exhausted =>
  cases pd with
  | none => exact zAm h3
  | some e => cases e with
   | normal => exact h3.elim
   | ret => exact zAm h3
   | exit id => exact zAm h3
theorem cv_yield {l ver df : Nat} {args : List AVal} {h : AHeap} {pd : Option AExit} {tmps t : T AVal} {ps : List Tmp} {as bd : ACode} {K : AVal -> AHeap -> Prop} (hl : h.objs.get l = some (ver, .loop .ready pd tmps ps as bd df)) (ht : zBb tmps ps args = some t)
  (k : Cd fns summ (some l) as { tmps := t, defers := [] } h (nxt (fun a1 h1 => ∃ ver pd tm ps as bd1 df, h1.objs.get l = some (ver, .loop .ready pd tm ps as bd1 df) ∧
   Cd fns summ (some l) bd a1 (zAd h1 l (.loop .busy pd tm ps as bd1 df)) (fun e _ h3 => ∃ ver st pd tm ps as bd df, h3.objs.get l = some (ver, .loop st pd tm ps as bd df) ∧
    (match e with
    | .normal => K (.bool true) (zAd h3 l (.loop .ready none tm ps as bd df))
    | e => K (.bool false) (zAd h3 l (.loop .done (some e) tm ps as bd df))))) (fun _ _ _ => False))) : Cv fns summ (.yield l) args h K := by
 unfold Cv CallVW
 simp only [zHA, zII, hl, ht]
 refine zGN ?_
 refine Ev.bind (fun n m hnm => (zES fns summ (by omega)).2 _ _ _ _) (Ev.mono k fun p hp => ?_)
 obtain ⟨e, a1, h1⟩ := p
 cases e with
 | ret => exact hp.elim
 | exit id => exact hp.elim
 | normal =>
  obtain ⟨ver, pd, tm, ps, as, bd1, df, h2, h3⟩ := hp
  simp only [h2]
  show Ev _ _
  refine Ev.bind (d := fun n => (run fns summ (n + 1)).code (some l) bd a1 (zAd h1 l (.loop .busy pd tm ps as bd1 df))) (fun n m hnm => (zES fns summ (by omega)).2 _ _ _ _) (Ev.mono h3 fun q hq => ?_)
  obtain ⟨ver, st, pd, tm, ps, as, bd, df, h4, h5⟩ := hq
  simp only [h4]
  obtain ⟨e, a3, h6⟩ := q
  cases e with
  | normal => exact zAm h5
  | ret => exact zAm h5
  | exit id => exact zAm h5
end
end Go.Ab
end
section
namespace Go.Ab
section
variable {fns : FnsT} {summ : SumT} {ro : Option Nat}
 {d : Option Tmp} {t : Tmp} {w p q c1 c2 : Bool} {gv v : AVal} {op : QOp} {eo : EOp} {x y z : AOpd} {xs : List AOpd} {l : List Step} {X Y : ACode} {a : AAct} {h h' : AHeap} {K : AAct -> AHeap -> Prop} {Q : AExit -> AAct -> AHeap -> Prop} {b : Option Nat}
 {rq : Option (AVal × Option Nat)} {re : Option AVal} {rb : Option Bool} {rs : Option (List AVal)} {rd : D (AVal × AHeap)}
theorem q1 (hv : qA a h op = rq := by (simp (disch := omega) only [zFo, zDs, zBh, zBc, zFr, zDc, zFq, zFp, zDm, zDt, zCr, zDn, zCq, zCQ, zCR, zBI, zCS, zCH, zBs, zDp, zDq, zDo, zFm, zFn, zDr, zBv, zBu, zBt, zCT, zBw, Int.natCast_nonneg, Int.toNat_natCast, zBE, zCA, zBS, zBV, zDi, zCd, zDX, zCI, Nat.reduceEqDiff, if_true, if_false, ite_true, ite_false, reduceIte, evs, mapO, numA, zEG, zDu, zDv, zEA, zDz, zDy, zDx, zDw, eqA, zBC, zAi, zCw, zCU, Nat.zero_add, Nat.add_zero, Nat.reduceAdd, Nat.reduceMul, Nat.reduceSub, Nat.reduceLeDiff, Nat.mul_one, Nat.one_mul, Nat.zero_mul, zBK, zCC, zCN, zAV, zAh, zBl, zBN, zBR, Nat.left_eq_add, Nat.add_eq_left, Nat.add_left_cancel_iff, Nat.one_ne_zero,  zBj, zlC, zlN, zlY, zlZ, List.getElem?_cons_zero, List.getElem?_cons_succ, zCo, zFk, zDj, beqT, beqF, Bool.not_true, Bool.not_false, Bool.true_and, Bool.and_true, Bool.false_and, Bool.and_false, Bool.and_self, Bool.true_or, Bool.or_true, Bool.false_or, Bool.or_false, decide_true, decide_false, Option.isNone_none, Option.isNone_some, Bool.false_xor, *] <;> rfl)) : qA a h op = rq := hv
theorem e1 (hv : ev a x = re := by (simp (disch := omega) only [zFo, zDs, zBh, zBc, zFr, zDc, zFq, zFp, zDm, zDt, zCr, zDn, zCq, zCQ, zCR, zBI, zCS, zCH, zBs, zDp, zDq, zDo, zFm, zFn, zDr, zBv, zBu, zBt, zCT, zBw, Int.natCast_nonneg, Int.toNat_natCast, zBE, zCA, zBS, zBV, zDi, zCd, zDX, zCI, Nat.reduceEqDiff, if_true, if_false, ite_true, ite_false, reduceIte, evs, mapO, numA, zEG, zDu, zDv, zEA, zDz, zDy, zDx, zDw, eqA, zBC, zAi, zCw, zCU, Nat.zero_add, Nat.add_zero, Nat.reduceAdd, Nat.reduceMul, Nat.reduceSub, Nat.reduceLeDiff, Nat.mul_one, Nat.one_mul, Nat.zero_mul, zBK, zCC, zCN, zAV, zAh, zBl, zBN, zBR, Nat.left_eq_add, Nat.add_eq_left, Nat.add_left_cancel_iff, Nat.one_ne_zero,  zBj, zlC, zlN, zlY, zlZ, List.getElem?_cons_zero, List.getElem?_cons_succ, zCo, zFk, zDj, beqT, beqF, Bool.not_true, Bool.not_false, Bool.true_and, Bool.and_true, Bool.false_and, Bool.and_false, Bool.and_self, Bool.true_or, Bool.or_true, Bool.false_or, Bool.or_false, decide_true, decide_false, Option.isNone_none, Option.isNone_some, Bool.false_xor, *] <;> rfl)) : ev a x = re := hv
theorem g1 (hv : gdB w gv = rb := by (simp (disch := omega) only [zFo, zDs, zBh, zBc, zFr, zDc, zFq, zFp, zDm, zDt, zCr, zDn, zCq, zCQ, zCR, zBI, zCS, zCH, zBs, zDp, zDq, zDo, zFm, zFn, zDr, zBv, zBu, zBt, zCT, zBw, Int.natCast_nonneg, Int.toNat_natCast, zBE, zCA, zBS, zBV, zDi, zCd, zDX, zCI, Nat.reduceEqDiff, if_true, if_false, ite_true, ite_false, reduceIte, evs, mapO, numA, zEG, zDu, zDv, zEA, zDz, zDy, zDx, zDw, eqA, zBC, zAi, zCw, zCU, Nat.zero_add, Nat.add_zero, Nat.reduceAdd, Nat.reduceMul, Nat.reduceSub, Nat.reduceLeDiff, Nat.mul_one, Nat.one_mul, Nat.zero_mul, zBK, zCC, zCN, zAV, zAh, zBl, zBN, zBR, Nat.left_eq_add, Nat.add_eq_left, Nat.add_left_cancel_iff, Nat.one_ne_zero,  zBj, zlC, zlN, zlY, zlZ, List.getElem?_cons_zero, List.getElem?_cons_succ, zCo, zFk, zDj, beqT, beqF, Bool.not_true, Bool.not_false, Bool.true_and, Bool.and_true, Bool.false_and, Bool.and_false, Bool.and_self, Bool.true_or, Bool.or_true, Bool.false_or, Bool.or_false, decide_true, decide_false, Option.isNone_none, Option.isNone_some, Bool.false_xor, *] <;> rfl)) : gdB w gv = rb := hv
theorem q2 (hv : p = c1 -> qA a h op = rq := by intro hb_; (try simp only [Bool.and_eq_true, Bool.not_eq_true', Bool.not_eq_eq_eq_not, Bool.not_true, Bool.not_false, Bool.or_eq_false_iff] at hb_); (simp (disch := omega) only [zFo, zDs, zBh, zBc, zFr, zDc, zFq, zFp, zDm, zDt, zCr, zDn, zCq, zCQ, zCR, zBI, zCS, zCH, zBs, zDp, zDq, zDo, zFm, zFn, zDr, zBv, zBu, zBt, zCT, zBw, Int.natCast_nonneg, Int.toNat_natCast, zBE, zCA, zBS, zBV, zDi, zCd, zDX, zCI, Nat.reduceEqDiff, if_true, if_false, ite_true, ite_false, reduceIte, evs, mapO, numA, zEG, zDu, zDv, zEA, zDz, zDy, zDx, zDw, eqA, zBC, zAi, zCw, zCU, Nat.zero_add, Nat.add_zero, Nat.reduceAdd, Nat.reduceMul, Nat.reduceSub, Nat.reduceLeDiff, Nat.mul_one, Nat.one_mul, Nat.zero_mul, zBK, zCC, zCN, zAV, zAh, zBl, zBN, zBR, Nat.left_eq_add, Nat.add_eq_left, Nat.add_left_cancel_iff, Nat.one_ne_zero,  zBj, zlC, zlN, zlY, zlZ, List.getElem?_cons_zero, List.getElem?_cons_succ, zCo, zFk, zDj, beqT, beqF, Bool.not_true, Bool.not_false, Bool.true_and, Bool.and_true, Bool.false_and, Bool.and_false, Bool.and_self, Bool.true_or, Bool.or_true, Bool.false_or, Bool.or_false, decide_true, decide_false, Option.isNone_none, Option.isNone_some, Bool.false_xor, *] <;> rfl)) : p = c1 -> qA a h op = rq := hv
theorem e2 (hv : p = c1 -> ev a x = re := by intro hb_; (try simp only [Bool.and_eq_true, Bool.not_eq_true', Bool.not_eq_eq_eq_not, Bool.not_true, Bool.not_false, Bool.or_eq_false_iff] at hb_); (simp (disch := omega) only [zFo, zDs, zBh, zBc, zFr, zDc, zFq, zFp, zDm, zDt, zCr, zDn, zCq, zCQ, zCR, zBI, zCS, zCH, zBs, zDp, zDq, zDo, zFm, zFn, zDr, zBv, zBu, zBt, zCT, zBw, Int.natCast_nonneg, Int.toNat_natCast, zBE, zCA, zBS, zBV, zDi, zCd, zDX, zCI, Nat.reduceEqDiff, if_true, if_false, ite_true, ite_false, reduceIte, evs, mapO, numA, zEG, zDu, zDv, zEA, zDz, zDy, zDx, zDw, eqA, zBC, zAi, zCw, zCU, Nat.zero_add, Nat.add_zero, Nat.reduceAdd, Nat.reduceMul, Nat.reduceSub, Nat.reduceLeDiff, Nat.mul_one, Nat.one_mul, Nat.zero_mul, zBK, zCC, zCN, zAV, zAh, zBl, zBN, zBR, Nat.left_eq_add, Nat.add_eq_left, Nat.add_left_cancel_iff, Nat.one_ne_zero,  zBj, zlC, zlN, zlY, zlZ, List.getElem?_cons_zero, List.getElem?_cons_succ, zCo, zFk, zDj, beqT, beqF, Bool.not_true, Bool.not_false, Bool.true_and, Bool.and_true, Bool.false_and, Bool.and_false, Bool.and_self, Bool.true_or, Bool.or_true, Bool.false_or, Bool.or_false, decide_true, decide_false, Option.isNone_none, Option.isNone_some, Bool.false_xor, *] <;> rfl)) : p = c1 -> ev a x = re := hv
theorem e3 (hv : p = c1 -> q = c2 -> ev a x = re := by intro hb_ hc_; (try simp only [Bool.and_eq_true, Bool.not_eq_true', Bool.not_eq_eq_eq_not, Bool.not_true, Bool.not_false, Bool.or_eq_false_iff] at hb_); (try simp only [Bool.and_eq_true, Bool.not_eq_true', Bool.not_eq_eq_eq_not, Bool.not_true, Bool.not_false, Bool.or_eq_false_iff] at hc_); (simp (disch := omega) only [zFo, zDs, zBh, zBc, zFr, zDc, zFq, zFp, zDm, zDt, zCr, zDn, zCq, zCQ, zCR, zBI, zCS, zCH, zBs, zDp, zDq, zDo, zFm, zFn, zDr, zBv, zBu, zBt, zCT, zBw, Int.natCast_nonneg, Int.toNat_natCast, zBE, zCA, zBS, zBV, zDi, zCd, zDX, zCI, Nat.reduceEqDiff, if_true, if_false, ite_true, ite_false, reduceIte, evs, mapO, numA, zEG, zDu, zDv, zEA, zDz, zDy, zDx, zDw, eqA, zBC, zAi, zCw, zCU, Nat.zero_add, Nat.add_zero, Nat.reduceAdd, Nat.reduceMul, Nat.reduceSub, Nat.reduceLeDiff, Nat.mul_one, Nat.one_mul, Nat.zero_mul, zBK, zCC, zCN, zAV, zAh, zBl, zBN, zBR, Nat.left_eq_add, Nat.add_eq_left, Nat.add_left_cancel_iff, Nat.one_ne_zero,  zBj, zlC, zlN, zlY, zlZ, List.getElem?_cons_zero, List.getElem?_cons_succ, zCo, zFk, zDj, beqT, beqF, Bool.not_true, Bool.not_false, Bool.true_and, Bool.and_true, Bool.false_and, Bool.and_false, Bool.and_self, Bool.true_or, Bool.or_true, Bool.false_or, Bool.or_false, decide_true, decide_false, Option.isNone_none, Option.isNone_some, Bool.false_xor, *] <;> rfl)) : p = c1 -> q = c2 -> ev a x = re := hv
theorem s1 (hv : evs a xs = rs := by (simp (disch := omega) only [zFo, zDs, zBh, zBc, zFr, zDc, zFq, zFp, zDm, zDt, zCr, zDn, zCq, zCQ, zCR, zBI, zCS, zCH, zBs, zDp, zDq, zDo, zFm, zFn, zDr, zBv, zBu, zBt, zCT, zBw, Int.natCast_nonneg, Int.toNat_natCast, zBE, zCA, zBS, zBV, zDi, zCd, zDX, zCI, Nat.reduceEqDiff, if_true, if_false, ite_true, ite_false, reduceIte, evs, mapO, numA, zEG, zDu, zDv, zEA, zDz, zDy, zDx, zDw, eqA, zBC, zAi, zCw, zCU, Nat.zero_add, Nat.add_zero, Nat.reduceAdd, Nat.reduceMul, Nat.reduceSub, Nat.reduceLeDiff, Nat.mul_one, Nat.one_mul, Nat.zero_mul, zBK, zCC, zCN, zAV, zAh, zBl, zBN, zBR, Nat.left_eq_add, Nat.add_eq_left, Nat.add_left_cancel_iff, Nat.one_ne_zero,  zBj, zlC, zlN, zlY, zlZ, List.getElem?_cons_zero, List.getElem?_cons_succ, zCo, zFk, zDj, beqT, beqF, Bool.not_true, Bool.not_false, Bool.true_and, Bool.and_true, Bool.false_and, Bool.and_false, Bool.and_self, Bool.true_or, Bool.or_true, Bool.false_or, Bool.or_false, decide_true, decide_false, Option.isNone_none, Option.isNone_some, Bool.false_xor, *] <;> rfl)) : evs a xs = rs := hv
theorem t1 (hv : zBU a h eo = rd := by (simp (disch := omega) only [zFo, zDs, zBh, zBc, zFr, zDc, zFq, zFp, zDm, zDt, zCr, zDn, zCq, zCQ, zCR, zBI, zCS, zCH, zBs, zDp, zDq, zDo, zFm, zFn, zDr, zBv, zBu, zBt, zCT, zBw, Int.natCast_nonneg, Int.toNat_natCast, zBE, zCA, zBS, zBV, zDi, zCd, zDX, zCI, Nat.reduceEqDiff, if_true, if_false, ite_true, ite_false, reduceIte, evs, mapO, numA, zEG, zDu, zDv, zEA, zDz, zDy, zDx, zDw, eqA, zBC, zAi, zCw, zCU, zBU, zDW, zlT, zlD, List.all_cons, List.all_nil, one, Bool.and_self, Bool.and_true, Bool.true_and, and_self, and_true, true_and, rowA, rep, zlA, zlE, List.singleton_append, zlK, Nat.reduceAdd, Nat.reduceMul, Nat.reduceLeDiff, Nat.zero_add, Nat.le_refl,  Nat.zero_add, Nat.add_zero, Nat.reduceAdd, Nat.reduceMul, Nat.reduceSub, Nat.reduceLeDiff, Nat.mul_one, Nat.one_mul, Nat.zero_mul, zBK, zCC, zCN, zAV, zAh, zBl, zBN, zBR, Nat.left_eq_add, Nat.add_eq_left, Nat.add_left_cancel_iff, Nat.one_ne_zero,  zBj, zlC, zlN, zlY, zlZ, List.getElem?_cons_zero, List.getElem?_cons_succ, zCo, zFk, zDj, beqT, beqF, Bool.not_true, Bool.not_false, Bool.true_and, Bool.and_true, Bool.false_and, Bool.and_false, Bool.and_self, Bool.true_or, Bool.or_true, Bool.false_or, Bool.or_false, decide_true, decide_false, Option.isNone_none, Option.isNone_some, Bool.false_xor, *] <;> rfl)) : zBU a h eo = rd := hv
theorem n1 (hv : a.defers = [] := by first | (simp (disch := omega) only [zAc, *]; done) | (simp (disch := omega) only [zAc]; done) | assumption | rfl) : a.defers = [] := hv
theorem r1 {rr : List ARes} (hv : zCD a h rr = re := by (simp (disch := omega) only [zCD, zGB, zFo, zDs, zBh, zBc, zFr, zDc, zFq, zFp, zDm, zDt, zCr, zDn, zCq, zCQ, zCR, zBI, zCS, zCH, zBs, zDp, zDq, zDo, zFm, zFn, zDr, zBv, zBu, zBt, zCT, zBw, Int.natCast_nonneg, Int.toNat_natCast, zBE, zCA, zBS, zBV, zDi, zCd, zDX, zCI, Nat.reduceEqDiff, if_true, if_false, ite_true, ite_false, reduceIte, evs, mapO, numA, zEG, zDu, zDv, zEA, zDz, zDy, zDx, zDw, eqA, zBC, zAi, zCw, zCU, Nat.zero_add, Nat.add_zero, Nat.reduceAdd, Nat.reduceMul, Nat.reduceSub, Nat.reduceLeDiff, Nat.mul_one, Nat.one_mul, Nat.zero_mul, zBK, zCC, zCN, zAV, zAh, zBl, zBN, zBR, Nat.left_eq_add, Nat.add_eq_left, Nat.add_left_cancel_iff, Nat.one_ne_zero,  zBj, zlC, zlN, zlY, zlZ, List.getElem?_cons_zero, List.getElem?_cons_succ, zCo, zFk, zDj, beqT, beqF, Bool.not_true, Bool.not_false, Bool.true_and, Bool.and_true, Bool.false_and, Bool.and_false, Bool.and_self, Bool.true_or, Bool.or_true, Bool.false_or, Bool.or_false, decide_true, decide_false, Option.isNone_none, Option.isNone_some, Bool.false_xor, *] <;> rfl)) : zCD a h rr = re := hv
theorem zIO (hc : ev a x = some (.bool c1)) (hx : c1 = true -> ev a y = some (.bool c2)) (k : St fns summ ro l (putA a d (.bool (c1 && c2))) h K) : St fns summ ro (⟨d, none, .q (.pick x y (.val (.bool false)))⟩ :: l) a h K := st_q (zMK hc hx) k
theorem st_pO (hc : ev a x = some (.bool c1)) (hx : c1 = false -> ev a y = some (.bool c2)) (k : St fns summ ro l (putA a d (.bool (c1 || c2))) h K) : St fns summ ro (⟨d, none, .q (.pick x (.val (.bool true)) y)⟩ :: l) a h K := st_q (pick_or hc hx) k
theorem st_sA (hg : ev a (.tmp t) = some gv) (hp : gdB w gv = some p) (hc : p = true -> ev a x = some (.bool c1)) (hx : p = true -> c1 = true -> ev a y = some (.bool c2)) (k : St fns summ ro l (putA a d (gd p (.bool (c1 && c2)))) h K) : St fns summ ro (⟨d, some (t, w), .q (.pick x y (.val (.bool false)))⟩ :: l) a h K := zGE hg hp (fun e => zMK (hc e) (hx e)) k
theorem tE (h1 : ∀ f xs, eo ≠ .call f xs := by (intro _ _ hh; cases hh)) (h2 : ∀ f xs, eo ≠ .defer f xs := by (intro _ _ hh; cases hh)) : (∀ f xs, eo ≠ .call f xs) /\ (∀ f xs, eo ≠ .defer f xs) := ⟨h1, h2⟩
theorem st_T (hn : (∀ f xs, eo ≠ .call f xs) /\ (∀ f xs, eo ≠ .defer f xs)) (ht : zBU a h eo = .ret (v, h')) (k : St fns summ ro l (putA a d v) h' K) : St fns summ ro (⟨d, none, .e eo⟩ :: l) a h K := st_t hn.1 hn.2 ht k
theorem ex_callF {f : FuncId} {vs : List AVal} {K : AAct -> AHeap -> Prop} (hv : evs a xs = some vs) (k : Cl fns summ f vs h fun v h => K (putA a d v) h) : Ex fns summ ro a h d (.call (.val (.func f [] [])) xs) K := zFy rfl hv (zGm (by simpa using k))
theorem cc {rl : List AVal} (hv : zAi v = rl := by (simp only [zAi] <;> rfl)) : zAi v = rl := hv
theorem og1 {bb : Nat} {rm : Option (Nat × AObj)} (hv : h.objs.get bb = rm := by (simp (disch := omega) only [zFo, zDs, zBh, zBc, zFr, zDc, zFq, zFp, zDm, zDt, zCr, zDn, zCq, zCQ, zCR, zBI, zCS, zCH, zBs, zDp, zDq, zDo, zFm, zFn, zDr, zBv, zBu, zBt, zCT, zBw, Int.natCast_nonneg, Int.toNat_natCast, zBE, zCA, zBS, zBV, zDi, zCd, zDX, zCI, Nat.reduceEqDiff, if_true, if_false, ite_true, ite_false, reduceIte, evs, mapO, numA, zEG, zDu, zDv, zEA, zDz, zDy, zDx, zDw, eqA, zBC, zAi, zCw, zCU, Nat.zero_add, Nat.add_zero, Nat.reduceAdd, Nat.reduceMul, Nat.reduceSub, Nat.reduceLeDiff, Nat.mul_one, Nat.one_mul, Nat.zero_mul, zBK, zCC, zCN, zAV, zAh, zBl, zBN, zBR, Nat.left_eq_add, Nat.add_eq_left, Nat.add_left_cancel_iff, Nat.one_ne_zero,  zBj, zlC, zlN, zlY, zlZ, List.getElem?_cons_zero, List.getElem?_cons_succ, zCo, zFk, zDj, beqT, beqF, Bool.not_true, Bool.not_false, Bool.true_and, Bool.and_true, Bool.false_and, Bool.and_false, Bool.and_self, Bool.true_or, Bool.or_true, Bool.false_or, Bool.or_false, decide_true, decide_false, Option.isNone_none, Option.isNone_some, Bool.false_xor, *] <;> rfl)) : h.objs.get bb = rm := hv
end
end Go.Ab
end
section
namespace Go.Ab
section
variable {fns : FnsT} {summ : SumT} {ro : Option Nat}
 {d : Option Tmp} {e : TypeId} {x y z : AOpd} {l : List Step} {a : AAct} {h : AHeap} {K : AAct -> AHeap -> Prop} {v : AVal} {cs vs : List AVal} {b o n ver : Nat}

structure But (b : Nat) (h h' : AHeap) : Prop where
 next : h.next <= h'.next
 keep : ∀ c, c ≠ b -> ∀ p, h.objs.get c = some p -> h'.objs.get c = some p
 grow : ∀ h0, WF h0 -> Grow h0 h -> h0.next <= b -> Grow h0 h'
 wf : WF h -> WF h'

theorem But.trans {h h' h'' : AHeap} (p : But b h h') (q : But b h' h'') : But b h h'' :=
 ⟨Nat.le_trans p.next q.next, fun c hc x k => q.keep c hc x (p.keep c hc x k), fun h0 w g k => q.grow h0 w (p.grow h0 w g k) k, fun w => q.wf (p.wf w)⟩

theorem zEY (w : WF h) {p : Nat × AObj} (hb : h.objs.get b = some p) (ob : AObj) : But b h (zAd h b ob) :=
 ⟨Nat.le_succ _, fun c hc x k => by rw [zBN _ _ _ hc]; exact k, fun h0 w0 g k => g.put w0 ob k (w.lt hb), fun _ c hc => by
  have := w.lt hb
  rw [zCC] at hc
  rw [zBN _ _ _ (by omega)]; exact w c (by omega)⟩

theorem zBL {cs : List AVal} (hx : ev a x = some v) (hcs : zAi v = cs) (w : WF h) (k : ∀ b h', h.next <= b -> Grow h h' -> h'.objs.get b = some (b, .cells false e cs) -> St fns summ ro l (putA a d (.ptr (some (b, 0)))) h' K) :
  St fns summ ro (⟨d, none, .e (.box e x)⟩ :: l) a h K := by
 refine st_t (by intro _ _ hh; cases hh) (by intro _ _ hh; cases hh) (v := .ptr (some (h.next, 0))) (h' := newA h (.cells false e cs)) ?_ (k _ _ (Nat.le_refl _) ((Grow.refl w).new _) (zAV _ _))
 simp only [zBU, hx, hcs]
theorem zAY (w : WF h) (k : ∀ b h', h.next <= b -> Grow h h' -> h'.objs.get b = some (b, .cells false e cs) -> St fns summ ro l (putA a d (.ptr (some (b, 0)))) h' K) :
  St fns summ ro (⟨d, none, .e (.alloc e cs)⟩ :: l) a h K :=
 st_t (by intro _ _ hh; cases hh) (by intro _ _ hh; cases hh) (v := .ptr (some (h.next, 0))) (h' := newA h (.cells false e cs)) rfl (k _ _ (Nat.le_refl _) ((Grow.refl w).new _) (zAV _ _))
theorem zFf {hint : Option AOpd} (hh : hint = none \/ ∃ x kd n, hint = some x /\ ev a x = some (.int kd n)) (w : WF h) (k : ∀ b h', h.next <= b -> Grow h h' -> h'.objs.get b = some (b, .map [] 0) -> St fns summ ro l (putA a d (.map (some b))) h' K) :
  St fns summ ro (⟨d, none, .e (.mkmap hint)⟩ :: l) a h K := by
 refine st_t (by intro _ _ hh; cases hh) (by intro _ _ hh; cases hh) (v := .map (some h.next)) (h' := newA h (.map [] 0)) ?_ (k _ _ (Nat.le_refl _) ((Grow.refl w).new _) (zAV _ _))
 rcases hh with rfl | ⟨x, kd, n, rfl, hx⟩
 ·rfl
 ·simp only [zBU, hx]
theorem zAG {cs : List AVal} (hx : ev a x = some (.ptr (some (b, o)))) (hv : ev a y = some v) (hcs : zAi v = cs) (hn : cs.length = n) (w : WF h) (hb : h.objs.get b = some (ver, .cells false e vs)) (hf : o + cs.length <= vs.length) (ho : cs.all one = true)
  (k : ∀ ver' h', But b h h' -> h'.objs.get b = some (ver', .cells false e (vs.take o ++ cs ++ vs.drop (o + cs.length))) -> St fns summ ro l (putA a d (.tuple [])) h' K) :
  St fns summ ro (⟨d, none, .e (.store n x y)⟩ :: l) a h K := by
 refine st_t (by intro _ _ hh; cases hh) (by intro _ _ hh; cases hh) (v := .tuple []) (h' := zAd h b (.cells false e (vs.take o ++ cs ++ vs.drop (o + cs.length)))) ?_ (k _ _ (zEY w hb _) (zAh _ _ _))
 simp only [zBU, hx, hv, hcs, hn, if_true, zDW, hb, if_pos (show o + n <= vs.length /\ cs.all one = true from ⟨hn ▸ hf, ho⟩)]
theorem zIP {kk : KeyK} {m : AOpd} {r clock : Nat} {kv val : AVal} {es : List (AVal × AVal × Nat)} (hm : ev a m = some (.map (some r))) (hx : ev a x = some kv) (hv : ev a y = some val)
  (hn : kk ≠ .ptr) (hk : zEh kk kv = true) (w : WF h) (hg : h.objs.get r = some (ver, .map es clock)) (hf : zBm kk kv es 0 = some none)
  (k : ∀ ver' h', But r h h' -> h'.objs.get r = some (ver', .map (es ++ [(kv, val, clock)]) (clock + 1)) -> St fns summ ro l (putA a d (.tuple [])) h' K) : St fns summ ro (⟨d, none, .e (.update kk m x y)⟩ :: l) a h K :=
 zJJ hm hx hv hn hk hg hf (k _ _ (zEY w hg _) (zAh _ _ _))
def Built (h : AHeap) (base : Nat) (e : TypeId) (sz : Nat) (v : AVal) (n : Nat) (cells : List AVal) : Prop :=
 (v = .slice none 0 /\ n = 0 /\ cells = []) \/ (v = .slice0 /\ n = 0 /\ cells = []) ∨
  ∃ b vs ver, base <= b /\ v = .slice (some (b, 0)) n /\ h.objs.get b = some (ver, .cells false e vs) /\ n * sz <= vs.length /\ vs.take (n * sz) = cells
theorem Built.len {base sz : Nat} {cells : List AVal} (k : Built h base e sz v n cells) : lenO v = some n := by
 rcases k with ⟨rfl, rfl, _⟩ | ⟨rfl, rfl, _⟩ | ⟨b, vs, ver, _, rfl, _⟩ <;> rfl
theorem Built.size {base sz : Nat} {cells : List AVal} (k : Built h base e sz v n cells) : cells.length = n * sz := by
 rcases k with ⟨_, rfl, rfl⟩ | ⟨_, rfl, rfl⟩ | ⟨b, vs, ver, _, _, _, h1, rfl⟩
 ·simp
 ·simp
 ·rw [List.length_take]; omega
theorem Built.grow {base sz : Nat} {cells : List AVal} {h' : AHeap} (k : Built h base e sz v n cells) (g : Grow h h') : Built h' base e sz v n cells := by
 rcases k with k | k | ⟨b, vs, ver, h0, h1, h2, h3⟩
 ·exact .inl k
 ·exact .inr (.inl k)
 ·exact .inr (.inr ⟨b, vs, ver, h0, h1, g.keep _ _ h2, h3⟩)
theorem Built.sl {base sz : Nat} {cells : List AVal} (k : Built h base e sz v n cells) (hz : 0 < sz) {xs : List (List AVal)} (hx : cells = xs.flatten) (hl : ∀ c ∈ xs, c.length = sz) (hn : xs.length = n) : SlAt h sz v xs := by
 refine ⟨by rw [hn]; exact k.len, fun i c hc => ?_⟩
 obtain ⟨hi, rfl⟩ := List.getElem?_eq_some_iff.1 hc
 have hsz := k.size
 rcases k with ⟨_, rfl, _⟩ | ⟨_, rfl, _⟩ | ⟨b, vs, ver, h0, rfl, h2, h3, h4⟩
 ·omega
 ·omega
 refine ⟨hl _ (List.getElem_mem hi), b, 0 + i * sz, ver, false, e, vs, ?_, h2, ?_⟩
 ·simp only [slA, if_pos (show i < n by omega)]
 ·have hflat : ∀ (ys : List (List AVal)), (∀ c ∈ ys, c.length = sz) -> ∀ (j : Nat) (hj : j < ys.length), (ys.flatten.drop (j * sz)).take sz = ys[j] := by
   intro ys
   induction ys with
   | nil => intro _ j hj; simp at hj
   | cons y ys ih =>
    intro hall j hj
    have hy : y.length = sz := hall y (by simp)
    cases j with
    | zero => simp [<- hy]
    | succ j =>
     have e1 : (j + 1) * sz - y.length = j * sz := by rw [hy, Nat.succ_mul]; omega
     have e2 : y.drop ((j + 1) * sz) = [] := List.drop_eq_nil_of_le (by rw [hy, Nat.succ_mul]; omega)
     rw [List.flatten_cons, List.drop_append, e1, e2, zlA, List.getElem_cons_succ]
     exact ih (fun c hc => hall c (by simp [hc])) j (by simpa using hj)
  have hle : i * sz + sz <= n * sz := by rw [<- Nat.succ_mul]; exact Nat.mul_le_mul_right _ (by omega)
  have := hflat xs hl i hi
  rw [<- this, <- hx, <- h4, List.drop_take, List.take_take, Nat.zero_add, Nat.min_eq_left (by omega)]

theorem zKv {base sz bytes m : Nat} {cells new : List AVal} {xv : AVal} (hs : ev a x = some v) (hx : ev a y = some xv) (B : Built h base e sz v n cells) (hl : lenA xv = some m) (hm : 0 < m) (hc : zFQ h sz m xv = some new) (ho : new.all one = true) (hr : zCv bytes (n + m) = true)
  (hnl : new.length = m * sz) (w : WF h) (hbase : base <= h.next)
  (k : ∀ v' h', Built h' base e sz v' (n + m) (cells ++ new) -> (∀ c j, v' = .slice (some (c, 0)) j -> h.next <= c) -> WF h' -> h.next <= h'.next -> (∀ h0, WF h0 -> Grow h0 h -> h0.next <= base -> Grow h0 h') -> (∀ c p, h.objs.get c = some p -> (∀ n, v ≠ .slice (some (c, 0)) n) -> h'.objs.get c = some p) -> St fns summ ro l (putA a d v') h' K) :
  St fns summ ro (⟨d, none, .e (.append e sz bytes x y)⟩ :: l) a h K := by
 have hm' : m ≠ 0 := by omega
 obtain ⟨m', rfl⟩ : ∃ m', m = m' + 1 := ⟨m - 1, by omega⟩
 have go : ∀ {v' : AVal} {h' : AHeap}, zEy h e sz bytes v xv = some (v', h') -> St fns summ ro l (putA a d v') h' K -> St fns summ ro (⟨d, none, .e (.append e sz bytes x y)⟩ :: l) a h K := by
  intro v' h' he kk
  refine st_t (by intro _ _ hh; cases hh) (by intro _ _ hh; cases hh) (v := v') (h' := h') ?_ kk
  simp only [zBU, hs, hx, he]
 have fresh : ∀ (h1 : AHeap) (w1 : WF h1) (hn : h1.next = h.next) (_ : ∀ h0, WF h0 -> Grow h0 h -> h0.next <= base -> Grow h0 h1) (k1 : ∀ c p, h.objs.get c = some p -> (∀ n, v ≠ .slice (some (c, 0)) n) -> h1.objs.get c = some p) (all : cells ++ new = cells ++ new),
   St fns summ ro l (putA a d (.slice (some (h.next, 0)) (n + (m' + 1)))) (newA h1 (.cells false e (cells ++ new))) K := by
  intro h1 w1 hn g1 k1 _
  refine k _ _ (.inr (.inr ⟨h.next, cells ++ new, h1.next, hbase, rfl, by rw [<- hn]; exact zAV _ _, ?_, ?_⟩)) (fun c j hc => by simp only [AVal.slice.injEq, oI, Prod.mk.injEq] at hc; omega) ((Grow.refl w1).new _).wf (by rw [zBK]; omega) (fun h0 w0 g hb => (g1 h0 w0 g hb).new _) (fun c p hp hc => ((Grow.refl w1).new _).keep _ _ (k1 c p hp hc))
  ·rw [List.length_append, B.size, hnl, <- Nat.add_mul]; exact Nat.le_refl _
  ·exact List.take_of_length_le (by rw [List.length_append, B.size, hnl, <- Nat.add_mul]; exact Nat.le_refl _)
 rcases B with ⟨rfl, rfl, rfl⟩ | ⟨rfl, rfl, rfl⟩ | ⟨b, vs, ver, h0, rfl, h2, h3, h4⟩
 ·rw [Nat.zero_add] at hr
  refine go ?_ (fresh h w rfl (fun _ _ g _ => g) (fun _ _ p _ => p) rfl)
  simp only [zEy, hl, hc, ho, hr, if_true, Nat.zero_add, zlA]
 ·rw [Nat.zero_add] at hr
  refine go ?_ (fresh h w rfl (fun _ _ g _ => g) (fun _ _ p _ => p) rfl)
  simp only [zEy, hl, hc, ho, hr, if_true, Nat.zero_add, zlA]
 ·have hb := w.lt h2
  refine go (h' := newA (zDN h b) (.cells false e (cells ++ new))) ?_ (fresh (zDN h b) (fun c hc => ?_) rfl (fun h0' w0 g hbb => g.drop w0 (Nat.le_trans hbb h0)) (fun c p hp hc => ?_) rfl)
  ·have hcond : True /\ n * sz <= vs.length /\ zCv bytes (n + (m' + 1)) = true := ⟨trivial, h3, hr⟩
   simp only [zEy, hl, hc, ho, h2]
   rw [if_pos hcond, h4]
  ·rw [zHP]; split
   ·rfl
   ·exact w c hc
  ·rw [zBR]
   ·exact hp
   ·rintro rfl; exact hc n rfl
end
end Go.Ab
end
