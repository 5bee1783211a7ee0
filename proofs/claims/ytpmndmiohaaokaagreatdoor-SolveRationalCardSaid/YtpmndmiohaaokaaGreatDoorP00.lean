import GoSem.Core.Program
import GoSem.Machine.Return
/-
  Part 0 of the proof.
-/
set_option linter.all false
section
namespace Go.Ab

inductive T (α : Type) : Type where
 | leaf : T α
 | node (l : T α) (v : Option α) (r : T α) : T α

namespace T
variable {α : Type}
def get : T α -> Nat -> Option α
 | .leaf, _ => none
 | .node l v r, k =>
  match k with
  | 0 => v
  | k + 1 => match k % 2 with
   | 0 => l.get (k / 2)
   | _ => r.get (k / 2)

def setF : Nat -> T α -> Nat -> Option α -> T α
 | 0, t, _, _ => t
 | f + 1, .leaf, k, x =>
  match k with
  | 0 => .node .leaf x .leaf
  | k + 1 => match k % 2 with
   | 0 => .node (setF f .leaf (k / 2) x) none .leaf
   | _ => .node .leaf none (setF f .leaf (k / 2) x)
 | f + 1, .node l v r, k, x =>
  match k with
  | 0 => .node l x r
  | k + 1 => match k % 2 with
   | 0 => .node (setF f l (k / 2) x) v r
   | _ => .node l v (setF f r (k / 2) x)

def set (t : T α) (k : Nat) (x : Option α) : T α := setF (k + 1) t k x
end T

inductive D (α : Type) : Type where
 | ret (a : α)
 | fail
 | ask (n : Nat) (k : Nat -> D α)

def D.bind {α β : Type} : D α -> (α -> D β) -> D β
 | .ret a, f => f a
 | .fail, _ => .fail
 | .ask n k, f => .ask n fun i => (k i).bind f

def D.sat {α : Type} : D α -> (α -> Prop) -> Prop
 | .ret a, Q => Q a
 | .fail, _ => False
 | .ask n k, Q => 0 < n /\ ∀ i, i < n -> (k i).sat Q

inductive AVal : Type where
 | bool (b : Bool)
 | int (k : IntKind) (n : Int)
 | str (s : List Nat)
 | ptr (a : Option (Nat × Nat))
 | slice (a : Option (Nat × Nat)) (len : Nat)
 | slice0
 | sliceE
 | map (r : Option Nat)
 | func (f : FuncId) (first captured : List AVal)
 | yield (l : Nat)
 | nilFunc
 | iface (t : TypeId) (v : AVal)
 | nilIface
 | agg (cs : List AVal)
 | tuple (vs : List AVal)

inductive AExit : Type where
 | normal | ret | exit (id : Nat)

inductive ADef : Type where
 | collected (r : Nat)
 | fn (f : FuncId) (args : List AVal)

structure AAct : Type where
 tmps : T AVal
 defers : List ADef

inductive AOpd : Type where
 | tmp (t : Nat)
 | val (v : AVal)
 | glob (g : Nat)

inductive KeyK : Type where
 | str | int | ptr
 | agg (n : Nat)

inductive EqK : Type where
 | bool | ptr | iface (lit : Bool) | slice | map | func | agg (n : Nat)

inductive QOp : Type where
 | trap
 | mov (x : AOpd)
 | pick (c x y : AOpd)
 | build (zero : List AVal) (parts : List (Nat × Nat × AOpd))
 | nilCheck (x : AOpd)
 | num (op : BinOp) (x y : AOpd)
 | eql (neg : Bool) (k : EqK) (x y : AOpd)
 | not (x : AOpd)
 | neg (x : AOpd)
 | conv (k : IntKind) (x : AOpd)
 | same (x : AOpd)
 | iface (t : TypeId) (x : AOpd)
 | func (f : FuncId) (first captured : List AOpd)
 | field (off : Nat) (size : Option Nat) (x : AOpd)
 | fieldA (off : Nat) (x : AOpd)
 | indexA (size : Nat) (x i : AOpd)
 | indexR (n size : Nat) (x i : AOpd)
 | indexS (x i : AOpd)
 | indexV (n size : Nat) (agg : Bool) (x i : AOpd)
 | sliceS (x : AOpd) (lo hi : Option AOpd)
 | slice (elem : TypeId) (size : Nat) (x : AOpd) (lo hi : Option AOpd)
 | slice00 (x : AOpd)
 | extract (x : AOpd) (i : Nat)
 | lenS (x : AOpd)
 | lenV (x : AOpd)
 | lenM (x : AOpd)
 | max (x y : AOpd)
 | min (x y : AOpd)
 | load (size : Option Nat) (x : AOpd)
 | lookup (k : KeyK) (zero : AVal) (ok : Bool) (m x : AOpd)

inductive EOp : Type where
 | alloc (elem : TypeId) (cells : List AVal)
 | box (elem : TypeId) (x : AOpd)
 | bslice (elem : TypeId) (size n : Nat) (zero : List AVal) (parts : List (Nat × AOpd))
 | bslice0
 | mkmap (hint : Option AOpd)
 | mkslice (elem : TypeId) (size bytes : Nat) (zero : List AVal) (l c : AOpd)
 | store (n : Nat) (x v : AOpd)
 | update (k : KeyK) (m x v : AOpd)
 | lookup (k : KeyK) (zero : AVal) (ok : Bool) (m x : AOpd)
 | append (elem : TypeId) (size bytes : Nat) (s x : AOpd)
 | call (f : AOpd) (args : List AOpd)
 | defer (f : AOpd) (args : List AOpd)
 | range (x : AOpd)
 | next (x : AOpd)
 | entry (x : AOpd)

inductive AOp : Type where
 | q (op : QOp)
 | e (op : EOp)

structure Step : Type where
 dst : Option Tmp
 guard : Option (Tmp × Bool)
 op : AOp

structure DStep : Type where
 i : Nat
 pred : Nat
 st : Step

inductive ACode : Type where
 | skip
 | ops (l : List Step)
 | draw (l : List DStep)
 | seq (x y : ACode)
 | cond (c : AOpd) (x y : ACode)
 | block (id : Nat) (c : ACode)
 | loop (c : ACode)
 | exit (id : Nat)
 | ret
 | rangeF (f : AOpd) (ps : List Tmp) (assign body : ACode)

inductive ARes : Type where
 | tmp (t : Tmp)
 | cell (t : Tmp) (size : Option Nat)

structure AFunc : Type where
 n : Nat
 body : ACode
 results : List ARes
 /-- it is one that is deferred, and begins with 'recover' -/
 recovers : Option (Option Tmp) := none

inductive AObj : Type where
 | cells (ro : Bool) (elem : TypeId) (vs : List AVal)
 | map (es : List (AVal × AVal × Nat)) (clock : Nat)
 | loop (st : LoopState) (pending : Option AExit) (tmps : T AVal) (params : List Tmp) (assign body : ACode) (defers : Nat)
 | dfr (shut : Bool)
 | iter (m : Nat) (since : Nat) (seen : List Nat) (last : Nat)
 | iter0

structure AHeap : Type where
 objs : T (Nat × AObj)
 next : Nat

def AObj.ro : AObj -> Bool
 | .cells ro _ _ => ro
 | _ => false

def mapO {α β : Type} (f : α -> Option β) : List α -> Option (List β)
 | [] => some []
 | x :: xs => match f x with
  | some y => (match mapO f xs with | some ys => some (y :: ys) | none => none)
  | none => none

def zAi : AVal -> List AVal
 | .agg cs => cs
 | v => [v]
def one : AVal -> Bool
 | .agg _ | .tuple _ => false
 | _ => true

def ev (a : AAct) : AOpd -> Option AVal
 | .tmp t => a.tmps.get t
 | .val v => some v
 | .glob g => some (.ptr (some (g, 0)))
def evs (a : AAct) (xs : List AOpd) : Option (List AVal) := mapO (ev a) xs

def zBC (size : Option Nat) (cs : List AVal) (off : Nat) : Option AVal :=
 match size with
 | some n => if off + n <= cs.length then some (.agg ((cs.drop off).take n)) else none
 | none => cs[off]?

def zCw (a : AAct) (cells : List AVal) : List (Nat × Nat × AOpd) -> Option (List AVal)
 | [] => some cells
 | (off, size, x) :: rest =>
  match ev a x with
  | none => none
  | some v => let cs := zAi v
   if cs.length = size /\ off + size <= cells.length then zCw a (cells.take off ++ cs ++ cells.drop (off + size)) rest else none

def zBB : List Nat -> List Nat -> Bool
 | _, [] => false
 | [], _ :: _ => true
 | a :: x, b :: y => match Nat.blt a b with | true => true | false => (match Nat.beq a b with | true => zBB x y | false => false)
def eqL : List Nat -> List Nat -> Bool
 | [], [] => true
 | a :: x, b :: y => match Nat.beq a b with | true => eqL x y | false => false
 | _, _ => false

def zEG (op : BinOp) (k : IntKind) (x y : Int) : Option AVal :=
 match op with
 | .add => some (.int k (k.wrap (x + y)))
 | .sub => some (.int k (k.wrap (x - y)))
 | .mul => some (.int k (k.wrap (x * y)))
 | .eql => some (.bool (x == y))
 | .neq => some (.bool (x != y))
 | .lss => some (.bool (decide (x < y)))
 | .leq => some (.bool (decide (x <= y)))
 | .gtr => some (.bool (decide (x > y)))
 | .geq => some (.bool (decide (x >= y)))
 | .quo => if y = 0 then none else some (.int k (k.wrap (x.tdiv y)))
 | .rem => if y = 0 then none else some (.int k (x.tmod y))
 | _ => none

def zFO (op : BinOp) (x y : List Nat) : Option AVal :=
 match op with
 | .add => if x.length + y.length < 1000000000000 then some (.str (x ++ y)) else none
 | .eql => some (.bool (eqL x y))
 | .neq => some (.bool (!eqL x y))
 | .lss => some (.bool (zBB x y))
 | .leq => some (.bool (zBB x y || eqL x y))
 | .gtr => some (.bool (!(zBB x y || eqL x y)))
 | .geq => some (.bool (!zBB x y))
 | _ => none

def numA (op : BinOp) (x y : AVal) : Option AVal :=
 match x, y with
 | .int k a, .int k' b => (match op with
  | .shr => if 0 <= b then some (.int k (a.fdiv (2 ^ min b.toNat k.bits))) else none
  | .shl => if 0 <= b then some (.int k (k.wrap (a * 2 ^ min b.toNat k.bits))) else none
  | _ => if k = k' then zEG op k a b else none)
 | .str a, .str b => zFO op a b
 | _, _ => none

def zCG : List AVal -> List AVal -> Option Bool
 | [], [] => some true
 | .int k a :: x, .int k' b :: y => if k = k' then (match a == b with | true => zCG x y | false => (match zCG x y with | some _ => some false | none => none)) else none
 | _, _ => none

def eqA (k : EqK) (x y : AVal) : Option Bool :=
 match k, x, y with
 | .bool, .bool a, .bool b => some (a == b)
 | .ptr, .ptr none, .ptr b => some b.isNone
 | .ptr, .ptr (some _), .ptr none => some false
 | .ptr, .ptr (some (b, o)), .ptr (some (b', o')) => if b = b' /\ o = o' then some true else none
 | .iface lit, .nilIface, .nilIface => if lit then some true else none
 | .iface _, .nilIface, .iface _ _ => some false
 | .iface _, .iface _ _, .nilIface => some false
 | .slice, .slice none _, .slice b _ => some b.isNone
 | .slice, .slice (some _) _, .slice none _ => some false
 | .slice, .slice0, .slice none _ => some false
 | .slice, .slice none _, .slice0 => some false
 | .slice, .sliceE, .slice none _ => some false
 | .slice, .slice none _, .sliceE => some false
 | .map, .map none, .map b => some b.isNone
 | .map, .map (some _), .map none => some false
 | .func, .nilFunc, .nilFunc => some true
 | .func, .nilFunc, .func _ _ _ => some false
 | .func, .func _ _ _, .nilFunc => some false
 | .agg n, .agg xs, .agg ys => if xs.length = n /\ ys.length = n then zCG xs ys else none
 | _, _, _ => none

def keyA (k : KeyK) (x y : AVal) : Option Bool :=
 match k, x, y with
 | .str, .str a, .str b => some (eqL a b)
 | .int, .int k a, .int k' b => if k = k' then some (a == b) else none
 | .ptr, .ptr (some (b, o)), .ptr (some (b', o')) => some (Nat.beq b b' && Nat.beq o o')
 | .agg n, .agg xs, .agg ys => if xs.length = n /\ ys.length = n then zCG xs ys else none
 | _, _, _ => none
def zEh (k : KeyK) (x : AVal) : Bool :=
 match k, x with
 | .str, .str _ => true
 | .int, .int _ _ => true
 | .ptr, .ptr (some _) => true
 | .agg n, .agg xs => Nat.beq xs.length n && xs.all fun | .int _ _ => true | _ => false
 | _, _ => false

def zBm (k : KeyK) (x : AVal) : List (AVal × AVal × Nat) -> Nat -> Option (Option (Nat × AVal))
 | [], _ => some none
 | (y, v, _) :: es, i => match keyA k x y with
  | some true => some (some (i, v))
  | some false => zBm k x es (i + 1)
  | none => none

def zBj (a : AAct) (x : Option AOpd) (d most : Nat) : Option Nat :=
 match x with
 | none => some d
 | some o => match ev a o with
  | some (.int _ n) => if 0 <= n /\ n.toNat <= most then some n.toNat else none
  | _ => none

def zCU : AVal -> Option Nat
 | .int _ n => if 0 <= n then some n.toNat else none
 | _ => none

def zCz (h : AHeap) (k : KeyK) (zero : AVal) (ok : Bool) (m x : AVal) : Option (AVal × Option Nat) :=
 match zEh k x with
 | false => none
 | true => (match m with
  | .map none => some (if ok then .tuple [zero, .bool false] else zero, none)
  | .map (some r) => (match h.objs.get r with
   | some (_, .map es _) => (match zBm k x es 0 with
    | some (some (_, v)) => some (if ok then .tuple [v, .bool true] else v, some r)
    | some none => some (if ok then .tuple [zero, .bool false] else zero, some r)
    | none => none)
   | _ => none)
  | _ => none)

def qA (a : AAct) (h : AHeap) : QOp -> Option (AVal × Option Nat)
 | .trap => none
 | .mov x => (match ev a x with | some v => some (v, none) | none => none)
 | .pick c x y => (match ev a c with
  | some (.bool true) => (match ev a x with | some v => some (v, none) | none => none)
  | some (.bool false) => (match ev a y with | some v => some (v, none) | none => none)
  | _ => none)
 | .build zero parts => (match zCw a zero parts with | some cs => some (.agg cs, none) | none => none)
 | .nilCheck x => (match ev a x with
  | some (.ptr (some p)) => some (.ptr (some p), none)
  | _ => none)
 | .num op x y => (match ev a x, ev a y with
  | some u, some v => (match numA op u v with | some r => some (r, none) | none => none)
  | _, _ => none)
 | .eql neg k x y => (match ev a x, ev a y with
  | some u, some v => (match eqA k u v with | some b => some (.bool (xor neg b), none) | none => none)
  | _, _ => none)
 | .not x => (match ev a x with | some (.bool b) => some (.bool (!b), none) | _ => none)
 | .neg x => (match ev a x with | some (.int k n) => some (.int k (k.wrap (0 - n)), none) | _ => none)
 | .conv k x => (match ev a x with | some (.int _ n) => some (.int k (k.wrap n), none) | _ => none)
 | .same x => (match ev a x with | some (.str s) => some (.str s, none) | _ => none)
 | .iface t x => (match ev a x with | some v => some (.iface t v, none) | none => none)
 | .func f first captured => (match evs a first, evs a captured with
  | some l, some m => some (.func f l m, none)
  | _, _ => none)
 | .field off size x => (match ev a x with
  | some (.agg cs) => (match zBC size cs off with | some v => some (v, none) | none => none)
  | _ => none)
 | .fieldA off x => (match ev a x with
  | some (.ptr (some (b, o))) => some (.ptr (some (b, o + off)), none)
  | _ => none)
 | .indexA size x i => (match ev a x, ev a i with
  | some (.slice (some (b, o)) n), some v => (match zCU v with
   | some i => if i < n then some (.ptr (some (b, o + i * size)), none) else none
   | none => none)
  | _, _ => none)
 | .indexR n size x i => (match ev a x, ev a i with
  | some (.ptr (some (b, o))), some v => (match zCU v with
   | some i => if i < n then some (.ptr (some (b, o + i * size)), none) else none
   | none => none)
  | _, _ => none)
 | .indexS x i => (match ev a x, ev a i with
  | some (.str s), some v => (match zCU v with
   | some i => (match s[i]? with | some c => some (.int .u8 (Int.ofNat c), none) | none => none)
   | none => none)
  | _, _ => none)
 | .indexV n size agg x i => (match ev a x, ev a i with
  | some (.agg cs), some v => (match zCU v with
   | some i => if i < n then (match zBC (if agg then some size else none) cs (i * size) with | some v => some (v, none) | none => none) else none
   | none => none)
  | _, _ => none)
 | .sliceS x lo hi => (match ev a x with
  | some (.str s) => (match zBj a hi s.length s.length with
   | some h => (match zBj a lo 0 h with | some l => some (.str ((s.take h).drop l), none) | none => none)
   | none => none)
  | _ => none)
 | .slice elem size x lo hi => (match ev a x with
  | some (.slice none n) => (match zBj a hi n n with
   | some h => (match zBj a lo 0 h with | some _ => some (.slice none 0, none) | none => none)
   | none => none)
  | some (.slice (some (b, o)) n) => (match zBj a hi n n with
   | some t => (match zBj a lo 0 t with
    | some 0 => some (.slice (some (b, o)) t, none)
    | some l => if l < n then (match h.objs.get b with
      | some (_, .cells _ e _) => if e = elem then some (.slice (some (b, o + l * size)) (t - l), none) else none
      | _ => none)
     else some (.sliceE, none)
    | none => none)
   | none => none)
  | _ => none)
 | .slice00 x => (match ev a x with
  | some (.slice none _) => some (.slice none 0, none)
  | some (.slice (some _) _) => some (.slice0, none)
  | some .slice0 => some (.slice0, none)
  | _ => none)
 | .extract x i => (match ev a x with
  | some (.tuple vs) => (match vs[i]? with | some v => some (v, none) | none => none)
  | _ => none)
 | .lenS x => (match ev a x with | some (.str s) => some (.int .i64 (Int.ofNat s.length), none) | _ => none)
 | .lenV x => (match ev a x with
  | some (.slice _ n) => some (.int .i64 (Int.ofNat n), none)
  | some .slice0 => some (.int .i64 0, none)
  | some .sliceE => some (.int .i64 0, none)
  | _ => none)
 | .lenM x => (match ev a x with
  | some (.map none) => some (.int .i64 0, none)
  | some (.map (some r)) => (match h.objs.get r with
   | some (_, .map es _) => some (.int .i64 (Int.ofNat es.length), some r)
   | _ => none)
  | _ => none)
 | .max x y => (match ev a x, ev a y with
  | some (.int k x), some (.int _ y) => some (.int k (if y > x then y else x), none)
  | _, _ => none)
 | .min x y => (match ev a x, ev a y with
  | some (.int k x), some (.int _ y) => some (.int k (if y < x then y else x), none)
  | _, _ => none)
 | .load size x => (match ev a x with
  | some (.ptr (some (b, o))) => (match h.objs.get b with
   | some (_, .cells _ _ vs) => (match zBC size vs o with | some v => some (v, some b) | none => none)
   | _ => none)
  | _ => none)
 | .lookup k zero ok m x => (match k with
  | .ptr => none
  | k => (match ev a m, ev a x with
   | some m, some x => zCz h k zero ok m x
   | _, _ => none))

def newA (h : AHeap) (o : AObj) : AHeap := { objs := h.objs.set h.next (some (h.next, o)), next := h.next + 1 }
def zAd (h : AHeap) (id : Nat) (o : AObj) : AHeap := { objs := h.objs.set id (some (h.next, o)), next := h.next + 1 }
def zDN (h : AHeap) (id : Nat) : AHeap := { h with objs := h.objs.set id none }

def putA (a : AAct) (dst : Option Tmp) (v : AVal) : AAct :=
 match dst with
 | none => a
 | some d => { a with tmps := a.tmps.set d (some v) }

def zDW (h : AHeap) (b o : Nat) (cs : List AVal) : Option AHeap :=
 match h.objs.get b with
 | some (_, .cells false e vs) =>
  if o + cs.length <= vs.length /\ cs.all one = true then some (zAd h b (.cells false e (vs.take o ++ cs ++ vs.drop (o + cs.length)))) else none
 | _ => none

def setVal (es : List (AVal × AVal × Nat)) (i : Nat) (v : AVal) : List (AVal × AVal × Nat) :=
 match es, i with
 | [], _ => []
 | (k, _, b) :: r, 0 => (k, v, b) :: r
 | e :: r, i + 1 => e :: setVal r i v

def zKC (h : AHeap) (k : KeyK) (m x v : AVal) : Option AHeap :=
 match zEh k x with
 | false => none
 | true => (match m with
  | .map (some r) => (match h.objs.get r with
   | some (_, .map es clock) => (match zBm k x es 0 with
    | some (some (i, _)) => some (zAd h r (.map (setVal es i v) clock))
    | some none => some (zAd h r (.map (es ++ [(x, v, clock)]) (clock + 1)))
    | none => none)
   | _ => none)
  | _ => none)

def lenA : AVal -> Option Nat
 | .slice _ n => some n
 | .slice0 => some 0
 | .sliceE => some 0
 | .str s => some s.length
 | _ => none
def zFQ (h : AHeap) (size n : Nat) : AVal -> Option (List AVal)
 | .slice (some (b, o)) _ => (match h.objs.get b with
  | some (_, .cells _ _ vs) => if o + n * size <= vs.length then some ((vs.drop o).take (n * size)) else none
  | _ => none)
 | .str s => if size = 1 then some ((s.take n).map fun c => .int .u8 (Int.ofNat c)) else none
 | _ => none

def zCv (bytes need : Nat) : Bool := Nat.ble 1 bytes && Nat.ble ((2 * need + 2000) * bytes) (2 ^ 46)

def zEy (h : AHeap) (elem : TypeId) (size bytes : Nat) (s x : AVal) : Option (AVal × AHeap) :=
 match lenA x with
 | none => none
 | some 0 => (match s with
  | .slice base n => some (.slice base n, h)
  | .slice0 => some (.slice0, h)
  | _ => none)
 | some m => (match zFQ h size m x with
  | none => none
  | some new => (match new.all one with
   | false => none
   | true => (match s with
    | .slice none _ => if zCv bytes m then some (.slice (some (h.next, 0)) m, newA h (.cells false elem new)) else none
    | .slice0 => if zCv bytes m then some (.slice (some (h.next, 0)) m, newA h (.cells false elem new)) else none
    | .slice (some (b, 0)) n => (match h.objs.get b with
     | some (_, .cells false e vs) =>
      if e = elem /\ n * size <= vs.length /\ zCv bytes (n + m) = true then
       some (.slice (some (h.next, 0)) (n + m), newA (zDN h b) (.cells false elem (vs.take (n * size) ++ new)))
      else none
     | _ => none)
    | _ => none)))

def rep {α : Type} (xs : List α) : Nat -> List α
 | 0 => []
 | n + 1 => xs ++ rep xs n

def rowA (a : AAct) (size : Nat) (cells : List AVal) : List (Nat × AOpd) -> Option (List AVal)
 | [] => some cells
 | (i, x) :: rest =>
  match ev a x with
  | none => none
  | some v => let cs := zAi v
   if cs.length = size /\ i * size + size <= cells.length then rowA a size (cells.take (i * size) ++ cs ++ cells.drop (i * size + size)) rest else none

def liveP (h : AHeap) : AVal -> Bool
 | .ptr (some (b, _)) => (match h.objs.get b with | some (_, .cells false _ _) => true | _ => false)
 | _ => false
def zIu (h : AHeap) (k : KeyK) (m x : AVal) : Bool :=
 match k with
 | .ptr => (match m with
  | .map (some r) => (match h.objs.get r with
   | some (_, .map es _) => liveP h x && es.all fun e => liveP h e.1
   | _ => true)
  | _ => true)
 | _ => true

def zBU (a : AAct) (h : AHeap) : EOp -> D (AVal × AHeap)
 | .alloc e cells => .ret (.ptr (some (h.next, 0)), newA h (.cells false e cells))
 | .box e x => (match ev a x with
  | some v => .ret (.ptr (some (h.next, 0)), newA h (.cells false e (zAi v)))
  | none => .fail)
 | .bslice e size n zero parts => (match rowA a size (rep zero n) parts with
  | some cs => .ret (.slice (some (h.next, 0)) n, newA h (.cells false e cs))
  | none => .fail)
 | .bslice0 => .ret (.slice0, h)
 | .mkmap none => .ret (.map (some h.next), newA h (.map [] 0))
 | .mkmap (some x) => (match ev a x with
  | some (.int _ _) => .ret (.map (some h.next), newA h (.map [] 0))
  | _ => .fail)
 | .mkslice e _ bytes zero l c => (match ev a l, ev a c with
  | some l, some c => (match zCU l, zCU c with
   | some l, some c => if l <= c /\ c <= 2 ^ 40 /\ zCv bytes c = true then .ret (.slice (some (h.next, 0)) l, newA h (.cells false e (rep zero c))) else .fail
   | _, _ => .fail)
  | _, _ => .fail)
 | .store n x v => (match ev a x, ev a v with
  | some (.ptr (some (b, o))), some v => if (zAi v).length = n then (match zDW h b o (zAi v) with | some h => .ret (.tuple [], h) | none => .fail) else .fail
  | _, _ => .fail)
 | .update k m x v => (match ev a m, ev a x, ev a v with
  | some m, some x, some v => (match zIu h k m x with
   | true => (match zKC h k m x v with | some h => .ret (.tuple [], h) | none => .fail)
   | false => .fail)
  | _, _, _ => .fail)
 | .lookup k zero ok m x => (match ev a m, ev a x with
  | some m, some x => (match zIu h k m x with
   | true => (match zCz h k zero ok m x with | some (v, _) => .ret (v, h) | none => .fail)
   | false => .fail)
  | _, _ => .fail)
 | .append e size bytes s x => (match ev a s, ev a x with
  | some s, some x => (match zEy h e size bytes s x with | some r => .ret r | none => .fail)
  | _, _ => .fail)
 | .range x => (match ev a x with
  | some (.map (some r)) => (match h.objs.get r with
   | some (_, .map _ clock) => .ret (.ptr (some (h.next, 0)), newA h (.iter r clock [] clock))
   | _ => .fail)
  | some (.map none) => .ret (.ptr (some (h.next, 0)), newA h .iter0)
  | _ => .fail)
 | .next x => (match ev a x with
  | some (.ptr (some (b, 0))) => (match h.objs.get b with
   | some (_, .iter r since seen last) => (match h.objs.get r with
    | some (_, .map es clock) =>
     -- nobody may turn the map while it is gone through
     if clock = since /\ last = since /\ es.all (fun e => Nat.blt e.2.2 since) = true then
      let left := es.filter fun e => !seen.contains e.2.2
      (match left with
      | [] => .ret (.tuple [.bool false], h)
      | _ => .ask left.length fun i => (match left[i]? with
       | some (k, v, born) => .ret (.tuple [.bool true, k, v], zAd h b (.iter r since (seen ++ [born]) last))
       | none => .fail))
     else .fail
    | _ => .fail)
   | some (_, .iter0) => .ret (.tuple [.bool false], h)
   | _ => .fail)
  | _ => .fail)
 | .entry x => (match ev a x with
  | some (.ptr (some (b, 0))) => (match h.objs.get b with
   | some (_, .iter r _ seen last) => (match h.objs.get r, seen.getLast? with
    | some (_, .map es clock), some stamp =>
     if clock = last then (match es.find? (fun e => Nat.beq e.2.2 stamp) with
      | some (k, v, _) => .ret (.tuple [k, v], h)
      | none => .fail)
     else .fail
    | _, _ => .fail)
   | _ => .fail)
  | _ => .fail)
 | _ => .fail

structure Self where
 call : FuncId -> List AVal -> AHeap -> D (AVal × AHeap)
 code : Option Nat -> ACode -> AAct -> AHeap -> D (AExit × AAct × AHeap)

def zBb (t : T AVal) : List Tmp -> List AVal -> Option (T AVal)
 | [], [] => some t
 | p :: ps, v :: vs => zBb (t.set p (some v)) ps vs
 | _, _ => none

def zII (S : Self) (l : Nat) (args : List AVal) (h : AHeap) : D (AVal × AHeap) :=
 match h.objs.get l with
 | some (_, .loop .ready _ tmps params assign body _) =>
  (match zBb tmps params args with
  | some t => (S.code (some l) assign { tmps := t, defers := [] } h).bind fun p1 =>
   (match p1.1, p1.2.2.objs.get l with
   | .normal, some (_, .loop .ready pd tm ps as bd df) =>
    (S.code (some l) body p1.2.1 (zAd p1.2.2 l (.loop .busy pd tm ps as bd df))).bind fun p3 =>
     (match p3.2.2.objs.get l with
     | some (_, .loop _ _ tm ps as bd df) => (match p3.1 with
      | .normal => .ret (.bool true, zAd p3.2.2 l (.loop .ready none tm ps as bd df))
      | e => .ret (.bool false, zAd p3.2.2 l (.loop .done (some e) tm ps as bd df)))
     | _ => .fail)
   | _, _ => .fail)
  | none => .fail)
 | _ => .fail

def zHA (S : Self) (f : AVal) (args : List AVal) (h : AHeap) : D (AVal × AHeap) :=
 match f with
 | .func g first captured => S.call g (first ++ args ++ captured) h
 | .yield l => zII S l args h
 | _ => .fail

def eA (S : Self) (ro : Option Nat) (a : AAct) (h : AHeap) (dst : Option Tmp) (op : EOp) : D (AAct × AHeap) :=
 match op with
 | .call f xs => (match ev a f, evs a xs with
  | some f, some xs => (zHA S f xs h).bind fun p => .ret (putA a dst p.1, p.2)
  | _, _ => .fail)
 | .defer f xs => (match ro, ev a f, evs a xs with
  | none, some (.func g first captured), some xs => .ret (putA { a with defers := .fn g (first ++ xs ++ captured) :: a.defers } dst (.tuple []), h)
  | _, _, _ => .fail)
 | op => (zBU a h op).bind fun p => .ret (putA a dst p.1, p.2)

def zDY (a : AAct) : Option (Tmp × Bool) -> Option Bool
 | none => some true
 | some (t, b) => (match a.tmps.get t with
  | some (.bool c) => some (c == b)
  | some (.tuple []) => some false
  | _ => none)

def zFi (S : Self) (ro : Option Nat) (a : AAct) (h : AHeap) (s : Step) : D (AAct × AHeap) :=
 match zDY a s.guard with
 | some true => (match s.op with
  | .q op => (match qA a h op with
   | some (v, _) => .ret (putA a s.dst v, h)
   | none => .fail)
  | .e op => eA S ro a h s.dst op)
 | some false => .ret (putA a s.dst (.tuple []), h)
 | none => .fail

def zGf (S : Self) (ro : Option Nat) : List Step -> AAct -> AHeap -> D (AAct × AHeap)
 | [], a, h => .ret (a, h)
 | s :: r, a, h => (zFi S ro a h s).bind fun p => zGf S ro r p.1 p.2

structure Held where
 i : Nat
 id : Nat
 ver : Nat

def zAf (h : AHeap) (m : Nat) : List Held -> Bool
 | [] => true
 | k :: r => (m.testBit k.i || (match h.objs.get k.id with | some (v, _) => Nat.beq v k.ver | none => false)) && zAf h m r

def zGM (m : Nat) : List Held -> List Held
 | [] => []
 | k :: r => match m.testBit k.i with | true => zGM m r | false => k :: zGM m r

def zCf (S : Self) (ro : Option Nat) : List DStep -> List Held -> AAct -> AHeap -> D (AAct × AHeap)
 | [], _, a, h => .ret (a, h)
 | s :: r, hs, a, h =>
  match zDY a s.st.guard with
  | some true => (match s.st.op with
   | .q op => (match qA a h op with
    | some (v, none) => zCf S ro r hs (putA a s.st.dst v) h
    | some (v, some id) => (match h.objs.get id with
     | some (ver, _) => zCf S ro r ({ i := s.i, id, ver } :: hs) (putA a s.st.dst v) h
     | none => .fail)
    | none => .fail)
   | .e op => (eA S ro a h s.st.dst op).bind fun p => (match zAf p.2 s.pred hs with
    | true => zCf S ro r (zGM s.pred hs) p.1 p.2
    | false => .fail))
  | some false => zCf S ro r hs (putA a s.st.dst (.tuple [])) h
  | none => .fail

def zCe (S : Self) (ro : Option Nat) : ACode -> AAct -> AHeap -> D (AExit × AAct × AHeap)
 | .skip, a, h => .ret (.normal, a, h)
 | .ops l, a, h => (zGf S ro l a h).bind fun p => .ret (.normal, p.1, p.2)
 | .draw l, a, h => (zCf S ro l [] a h).bind fun p => .ret (.normal, p.1, p.2)
 | .seq x y, a, h => (zCe S ro x a h).bind fun p => (match p.1 with
  | .normal => zCe S ro y p.2.1 p.2.2
  | _ => .ret p)
 | .cond c x y, a, h => (match ev a c with
  | some (.bool true) => zCe S ro x a h
  | some (.bool false) => zCe S ro y a h
  | _ => .fail)
 | .block id c, a, h => (zCe S ro c a h).bind fun p => (match p.1 with
  | .exit id' => (match Nat.beq id' id with | true => .ret (.normal, p.2) | false => .ret p)
  | _ => .ret p)
 | .loop c, a, h => (zCe S ro c a h).bind fun p => (match p.1 with
  | .normal => S.code ro (.loop c) p.2.1 p.2.2
  | _ => .ret p)
 | .exit id, a, h => .ret (.exit id, a, h)
 | .ret, a, h => .ret (.ret, a, h)
 | .rangeF f ps assign body, a, h => (match ro, ev a f with
  | none, some (.func g first captured) =>
   let h1 := newA h (.dfr false)
   let l := h1.next
   let h2 := newA h1 (.loop .ready none a.tmps ps assign body h.next)
   (S.call g (first ++ [.yield l] ++ captured) h2).bind fun p =>
    (match p.2.objs.get l with
    | some (_, .loop st pd t ps' as' bd' df') => (match st with
     | .busy => .fail
     | _ =>
      let h4 := zAd p.2 l (.loop .exhausted pd t ps' as' bd' df')
      let a4 : AAct := { a with defers := .collected h.next :: a.defers }
      (match pd with
      | none => .ret (.normal, a4, h4)
      | some .normal => .fail
      | some e => .ret (e, a4, h4)))
    | _ => .fail)
  | _, _ => .fail)

section
variable (fns : FuncId -> Option AFunc) (summ : FuncId -> List AVal -> AHeap -> Option (D (AVal × AHeap)))

def zMf (S : Self) (f : FuncId) (args : List AVal) (h : AHeap) : D AHeap :=
 match fns f with
 | some fn => (match fn.recovers, fn.results, zBb .leaf (List.range args.length) args with
  | some dst, [], some t => (S.code none fn.body (putA { tmps := t, defers := [] } dst .nilIface) h).bind fun p =>
   (match p.1, p.2.1.defers with
   | .exit _, _ => .fail
   | _, [] => .ret p.2.2
   | _, _ => .fail)
  | _, _, _ => .fail)
 | none => .fail

def zEK (S : Self) : List ADef -> AHeap -> D AHeap
 | [], h => .ret h
 | .collected r :: ds, h => (match h.objs.get r with
  | some (_, .dfr false) => zEK S ds (zAd h r (.dfr true))
  | _ => .fail)
 | .fn f args :: ds, h => (zMf fns S f args h).bind fun h => zEK S ds h

def zGB (a : AAct) (h : AHeap) : ARes -> Option AVal
 | .tmp t => a.tmps.get t
 | .cell x size => (match a.tmps.get x with
  | some (.ptr (some (b, o))) => (match h.objs.get b with
   | some (_, .cells _ _ vs) => zBC size vs o
   | _ => none)
  | _ => none)

def zCD (a : AAct) (h : AHeap) (rs : List ARes) : Option AVal :=
 match mapO (zGB a h) rs with
 | some [v] => some v
 | some vs => some (.tuple vs)
 | none => none

def zIZ (S : Self) (f : FuncId) (args : List AVal) (h : AHeap) : D (AVal × AHeap) :=
 match summ f args h with
 | some d => d
 | none => (match fns f with
  | some fn => (match fn.recovers, zBb .leaf (List.range args.length) args with
   | none, some t => (S.code none fn.body { tmps := t, defers := [] } h).bind fun p =>
    (match p.1 with
    | .exit _ => .fail
    | _ => (zEK fns S p.2.1.defers p.2.2).bind fun h => (match zCD p.2.1 h fn.results with
     | some v => .ret (v, h)
     | none => .fail))
   | _, _ => .fail)
  | none => .fail)

def run : Nat -> Self
 | 0 => { call := fun _ _ _ => .fail, code := fun _ _ _ _ => .fail }
 | n + 1 => { call := zIZ fns summ (run n), code := zCe (run n) }
end
abbrev FnsT := FuncId -> Option AFunc
abbrev SumT := FuncId -> List AVal -> AHeap -> Option (D (AVal × AHeap))
theorem oI {α : Type _} (a b : α) : (some a = some b) = (a = b) := Option.some.injEq a b
theorem zlC {α : Type _} (a : α) (l : List α) : (a :: l).length = l.length + 1 := rfl
theorem zlN {α : Type _} : ([] : List α).length = 0 := rfl
theorem zlA {α : Type _} (l : List α) : [] ++ l = l := rfl
theorem zlE {α : Type _} (l : List α) : l ++ [] = l := List.append_nil l
theorem zlD {α : Type _} (a : α) (l : List α) (n : Nat) : (a :: l).drop (n + 1) = l.drop n := rfl
theorem zlK {α : Type _} (a : α) (l r : List α) : (a :: l) ++ r = a :: (l ++ r) := rfl
theorem zlT {α : Type _} (a : α) (l : List α) (n : Nat) : (a :: l).take (n + 1) = a :: l.take n := rfl
theorem zlZ {α : Type _} (l : List α) : l.drop 0 = l := rfl
theorem zlY {α : Type _} (l : List α) : l.take 0 = [] := rfl
theorem zlX {α : Type _} (n : Nat) : ([] : List α).drop n = [] := by simp
end Go.Ab
end
section
namespace Go.Ab
namespace T
variable {α : Type}
theorem get_leaf (j : Nat) : (leaf : T α).get j = none := by cases j <;> rfl

theorem zCM (l r : T α) (v : Option α) (k : Nat) : (node l v r).get (k + 1) = if k % 2 = 0 then l.get (k / 2) else r.get (k / 2) := by
 simp only [get]
 split
 ·rename_i h; simp [h]
 ·rename_i h; rw [if_neg h]

theorem get_setF (f : Nat) : ∀ (t : T α) (k : Nat) (x : Option α) (j : Nat), k < f -> (setF f t k x).get j = if j = k then x else t.get j := by
  induction f with
  | zero => intro t k x j h; omega
  | succ f ih =>
    intro t k x j h
    cases k with
    | zero =>
      cases t with
      | leaf =>
        cases j with
        | zero => simp [setF, get]
        | succ j => simp only [setF, zCM, get_leaf]; split <;> simp
      | node l v r =>
        cases j with
        | zero => simp [setF, get]
        | succ j => simp only [setF, zCM]; simp
    | succ k =>
      have hk : k / 2 < f := by omega
      rcases Nat.mod_two_eq_zero_or_one k with hm | hm
      · cases t with
        | leaf =>
          simp only [setF, hm]
          cases j with
          | zero => simp [get]
          | succ j =>
            simp only [zCM, get_leaf, ih _ _ _ _ hk]
            by_cases hj : j % 2 = 0
            · have e : (j / 2 = k / 2) ↔ (j + 1 = k + 1) := by omega
              simp only [hj, if_true, e]
            · have e : ¬ (j + 1 = k + 1) := by intro e; apply hj; have : j = k := by omega
                                               rw [this]; exact hm
              simp only [hj, if_false, e]
        | node l v r =>
          simp only [setF, hm]
          cases j with
          | zero => simp [get]
          | succ j =>
            simp only [zCM, ih _ _ _ _ hk]
            by_cases hj : j % 2 = 0
            · have e : (j / 2 = k / 2) ↔ (j + 1 = k + 1) := by omega
              simp only [hj, if_true, e]
            · have e : ¬ (j + 1 = k + 1) := by intro e; apply hj; have : j = k := by omega
                                               rw [this]; exact hm
              simp only [hj, if_false, e]
      · cases t with
        | leaf =>
          simp only [setF, hm]
          cases j with
          | zero => simp [get]
          | succ j =>
            simp only [zCM, get_leaf, ih _ _ _ _ hk]
            by_cases hj : j % 2 = 0
            · have e : ¬ (j + 1 = k + 1) := by intro e; have : j = k := by omega
                                               rw [this] at hj; omega
              simp only [hj, if_true, e, if_false]
            · have e : (j / 2 = k / 2) ↔ (j + 1 = k + 1) := by omega
              simp only [hj, if_false, e]
        | node l v r =>
          simp only [setF, hm]
          cases j with
          | zero => simp [get]
          | succ j =>
            simp only [zCM, ih _ _ _ _ hk]
            by_cases hj : j % 2 = 0
            · have e : ¬ (j + 1 = k + 1) := by intro e; have : j = k := by omega
                                               rw [this] at hj; omega
              simp only [hj, if_true, e, if_false]
            · have e : (j / 2 = k / 2) ↔ (j + 1 = k + 1) := by omega
              simp only [hj, if_false, e]

theorem get_set (t : T α) (k : Nat) (x : Option α) (j : Nat) : (t.set k x).get j = if j = k then x else t.get j :=
 get_setF _ _ _ _ _ (by omega)
theorem get_set_ne (t : T α) {k j : Nat} (x : Option α) (h : j ≠ k) : (t.set k x).get j = t.get j := by rw [get_set, if_neg h]
end T

namespace D
variable {α β γ : Type}
theorem sat_bind (d : D α) (f : α -> D β) (Q : β -> Prop) : (d.bind f).sat Q ↔ d.sat fun a => (f a).sat Q := by
 induction d with
 | ret a => rfl
 | fail => rfl
 | ask n k ih =>
  simp only [bind, sat]
  exact ⟨fun h => ⟨h.1, fun i hi => (ih i).1 (h.2 i hi)⟩, fun h => ⟨h.1, fun i hi => (ih i).2 (h.2 i hi)⟩⟩
theorem sat_mono {d : D α} {Q Q' : α -> Prop} (h : d.sat Q) (hq : ∀ a, Q a -> Q' a) : d.sat Q' := by
 induction d with
 | ret a => exact hq _ h
 | fail => exact h
 | ask n k ih => exact ⟨h.1, fun i hi => ih i (h.2 i hi)⟩
theorem sat_ex {d : D α} {Q : α -> Prop} (h : d.sat Q) : ∃ a, Q a := by
 induction d with
 | ret a => exact ⟨a, h⟩
 | fail => exact h.elim
 | ask n k ih => exact ih 0 (h.2 0 h.1)
@[simp] theorem sat_ret (a : α) (Q : α -> Prop) : (D.ret a).sat Q ↔ Q a := Iff.rfl
@[simp] theorem sat_fail (Q : α -> Prop) : (D.fail : D α).sat Q ↔ False := Iff.rfl
@[simp] theorem bind_ret (a : α) (f : α -> D β) : (D.ret a).bind f = f a := rfl
@[simp] theorem bind_fail (f : α -> D β) : (D.fail : D α).bind f = .fail := rfl
end D

theorem zBX {α β : Type} {f : α -> Option β} {x : α} {xs : List α} {ys : List β} (h : mapO f (x :: xs) = some ys) :
  ∃ y zs, f x = some y /\ mapO f xs = some zs /\ ys = y :: zs := by
 simp only [mapO] at h
 split at h
 ·rename_i y hy
  split at h
  ·rename_i zs hz
   simp only [oI] at h
   exact ⟨y, zs, hy, hz, h.symm⟩
  ·cases h
 ·cases h
end Go.Ab
end
section
namespace Go.Ab
section
variable (P : Program)

def ofVF : Nat -> Value -> Option AVal
 | 0, _ => none
 | f + 1, v => match v with
  | .bool b => some (.bool b)
  | .int k n => some (.int k n)
  | .string s => some (.str (s.data.toList.map UInt8.toNat))
  | .pointer none => some (.ptr none)
  | .slice none 0 0 => some (.slice none 0)
  | .map none => some (.map none)
  | .nilFunc => some .nilFunc
  | .nilIface => some .nilIface
  | .agg cs => (match mapO (ofVF f) cs.toList with | some l => some (.agg l) | none => none)
  | .tuple cs => (match mapO (ofVF f) cs.toList with | some l => some (.tuple l) | none => none)
  | _ => none
def ofV (v : Value) : Option AVal := ofVF 3 v

def cOpd : Operand -> Option AOpd
 | .tmp t => some (.tmp t)
 | .const v => (match ofV v with | some x => some (.val x) | none => none)
 | .global g => if g < P.globals.size then some (.glob g) else none
 | .func f => some (.val (.func f [] []))
def zNP (xs : Array Operand) : Option (List AOpd) := mapO (cOpd P) xs.toList
def cOpt : Option Operand -> Option (Option AOpd)
 | none => some none
 | some x => (match cOpd P x with | some y => some (some y) | none => none)

def zFh (t : TypeId) : Option Nat := match P.info? t with | some i => some i.size | none => none
def cHow (t : TypeId) : Option (Option Nat) := match P.underlying t, P.info? t with
 | some (.struct _), some i => some (some i.size)
 | some (.array _ _), some i => some (some i.size)
 | some _, some _ => some none
 | _, _ => none
def zGi (t : TypeId) : Option AVal := match P.info? t with
 | some i => (match i.zero with | some z => ofV z | none => none)
 | none => none

def zLr (t : TypeId) (i : Nat) : Option Field := match P.underlying t with
 | some (.struct fields) => fields.toList[i]?
 | _ => none

def zKJ (t : TypeId) (i : Nat) : Option (Nat × Nat) := match P.underlying t with
 | some (.struct fields) => (match fields.toList[i]? with
  | some f => (match zFh P f.type with | some n => some (f.offset, n) | none => none)
  | none => none)
 | some (.array _ e) => (match zFh P e with | some n => some (i * n, n) | none => none)
 | _ => none
def cParts (t : TypeId) (ps : Array (Nat × Operand)) : Option (List (Nat × Nat × AOpd)) :=
 mapO (fun p => match zKJ P t p.1, cOpd P p.2 with
  | some f, some x => some (f.1, f.2, x)
  | _, _ => none) ps.toList
def cRow (ps : Array (Nat × Operand)) : Option (List (Nat × AOpd)) :=
 mapO (fun p => match cOpd P p.2 with | some x => some (p.1, x) | none => none) ps.toList

def isC : Operand -> Bool
 | .const _ => true
 | _ => false

def intsOk (t : TypeId) (fs : Array Field) : Bool :=
 !P.stoodInHeld t && (!P.eqGuardType P.depth t &&
 (fs.toList.all (fun f => f.name != "_" && (match P.underlying f.type with | some (.int _) => true | _ => false)) &&
 (fs.toList.zipIdx.all (fun p => Nat.beq p.1.offset p.2) &&
 (match P.info? t with | some i => Nat.beq i.size fs.size | none => false))))
def isZ : Operand -> Bool
 | .const (.int _ n) => n == 0
 | _ => false
def zLow : Option Operand -> Bool
 | none => true
 | some l => isZ l
def zLB (t : TypeId) : Option Nat :=
 match P.underlying t with
 | some (.struct fs) => (match intsOk P t fs with | true => some fs.size | false => none)
 | _ => none

def cKey (t : TypeId) : Option KeyK := match P.underlying t with
 | some .string => some .str
 | some (.int _) => some .int
 | some (.pointer e) => (match P.info? e with | some i => (match i.size with | 0 => none | _ => some .ptr) | none => none)
 | _ => (match zLB P t with | some n => some (.agg n) | none => none)

def cEq (t : TypeId) (lit : Bool) : Option EqK := match P.underlying t with
 | some .bool => some .bool
 | some (.pointer e) => (match P.info? e with | some _ => some .ptr | none => none)
 | some (.interface _) => some (.iface lit)
 | some (.slice _) => some .slice
 | some (.map _ _) => some .map
 | some (.func _ _ _) => some .func
 | _ => (match zLB P t with | some n => some (.agg n) | none => none)

def cMap (t : TypeId) : Option (KeyK × AVal) := match P.underlying t with
 | some (.map k e) => (match cKey P k, zGi P e with | some k, some z => some (k, z) | _, _ => none)
 | _ => none
def zNO (t : TypeId) : Option TypeId := match P.underlying t with
 | some (.slice e) => some e
 | _ => none

def cBin (op : BinOp) (t : TypeId) (x y : Operand) : Option QOp :=
 match cOpd P x, cOpd P y, P.underlying t with
 | some u, some v, some (.int _) => some (.num op u v)
 | some u, some v, some .string => some (.num op u v)
 | some u, some v, _ => (match op with
  | .eql => (match cEq P t (isC x || isC y) with | some k => some (.eql false k u v) | none => none)
  | .neq => (match cEq P t (isC x || isC y) with | some k => some (.eql true k u v) | none => none)
  | _ => none)
 | _, _, _ => none

def cLen (x : Operand) (t : TypeId) : Option QOp :=
 match cOpd P x, P.underlying t with
 | some x, some .string => some (.lenS x)
 | some x, some (.slice _) => some (.lenV x)
 | some x, some (.map _ _) => some (.lenM x)
 | _, _ => none

def cQ (o : Op) : Option QOp :=
 match o with
 | .move x => (match cOpd P x with | some x => some (.mov x) | none => none)
 | .assign x => (match cOpd P x with | some x => some (.mov x) | none => none)
 | .pick c x y => (match cOpd P c, cOpd P x, cOpd P y with | some c, some x, some y => some (.pick c x y) | _, _, _ => none)
 | .build t ps => (match P.underlying t, zGi P t, cParts P t ps with
  | some (.struct fs), some (.agg z), some ps => (match fs.toList.all fun f => (P.info? f.type).isSome with
   | true => some (.build z ps)
   | false => none)
  | some (.array _ e), some (.agg z), some ps => (match P.info? e with | some _ => some (.build z ps) | none => none)
  | _, _, _ => none)
 | .nilCheck x => (match cOpd P x with | some x => some (.nilCheck x) | none => none)
 | .binOp op t x y _ => cBin P op t x y
 | .unOp op _ x => (match op, cOpd P x with
  | .not, some x => some (.not x)
  | .neg, some x => some (.neg x)
  | _, _ => none)
 | .convert src dst x => (match P.underlying src, P.underlying dst, cOpd P x with
  | some _, some (.int k), some x => some (.conv k x)
  | some .string, some .string, some x => some (.same x)
  | _, _, _ => none)
 | .makeInterface t x => (match P.underlying t, cOpd P x with
  | some (.interface _), _ => none
  | some _, some x => some (.iface t x)
  | _, _ => none)
 | .makeFunc (.func f) first captured => (match zNP P first, zNP P captured with
  | some l, some m => some (.func f l m)
  | _, _ => none)
 | .field t x i => (match zLr P t i, cOpd P x with
  | some f, some x => (match cHow P f.type with | some s => some (.field f.offset s x) | none => none)
  | _, _ => none)
 | .fieldAddr t x i => (match zLr P t i, cOpd P x with
  | some f, some x => (match zFh P f.type with
   | some (_ + 1) => some (.fieldA f.offset x)
   | _ => none)
  | _, _ => none)
 | .indexAddr t x i => (match P.underlying t, cOpd P x, cOpd P i with
  | some (.slice e), some x, some i => (match zFh P e with | some s => some (.indexA s x i) | none => none)
  | some (.array n e), some x, some i => (match zFh P e with | some s => some (.indexR n s x i) | none => none)
  | _, _, _ => none)
 | .index t x i => (match P.underlying t, cOpd P x, cOpd P i with
  | some .string, some x, some i => some (.indexS x i)
  | some (.array n e), some x, some i => (match cHow P e, zFh P e with
   | some h, some s => some (.indexV n s h.isSome x i)
   | _, _ => none)
  | _, _, _ => none)
 | .slice t x lo hi none => (match P.underlying t, cOpd P x, cOpt P lo, cOpt P hi with
  | some .string, some x, some lo, some hi => some (.sliceS x lo hi)
  | some (.slice e), some x, some lo, some hi => (match zFh P e with | some s => some (.slice e s x lo hi) | none => none)
  | _, _, _, _ => none)
 | .slice t x lo (some hi) (some mx) => (match isZ hi && isZ mx && zLow lo, P.underlying t, cOpd P x with
  | true, some (.slice e), some x => (match zFh P e with | some _ => some (.slice00 x) | none => none)
  | _, _, _ => none)
 | .extract x i => (match cOpd P x with | some x => some (.extract x i) | none => none)
 | .load t x => (match cHow P t, cOpd P x with | some s, some x => some (.load s x) | _, _ => none)
 | .lookup t m k ok => (match cMap P t, cOpd P m, cOpd P k with
  | some (.ptr, _), _, _ => none
  | some (kk, z), some m, some k => some (.lookup kk z ok m k)
  | _, _, _ => none)
 | .call c => (match c.callee, c.args.toList, c.argTypes.toList with
  | .builtin .len, [x], [t] => cLen P x t
  | .builtin .max, [x, y], _ => (match cOpd P x, cOpd P y with | some x, some y => some (.max x y) | _, _ => none)
  | .builtin .min, [x, y], _ => (match cOpd P x, cOpd P y with | some x, some y => some (.min x y) | _, _ => none)
  | _, _, _ => none)
 | _ => none

def zMs : Option TypeDesc -> Bool
 | some (.slice _) => true
 | some .string => true
 | _ => false

def cE (o : Op) : Option EOp :=
 match o with
 | .alloc e => (match zGi P e with | some z => some (.alloc e (zAi z)) | none => none)
 | .box e x => (match cOpd P x with | some x => some (.box e x) | none => none)
 | .buildSlice t n ps => (match zNO P t with
  | none => none
  | some e => (match zFh P e with
   | none => none
   | some s => (match n * s, ps.toList with
    | 0, [] => if n = 0 then some .bslice0 else none
    | 0, _ => none
    | _, _ => (match zGi P e, cRow P ps with
     | some z, some ps => if n * s <= 2 ^ 20 /\ (zAi z).length = s then some (.bslice e s n (zAi z) ps) else none
     | _, _ => none))))
 | .makeMap t r => (match P.underlying t, cOpt P r with | some (.map _ _), some r => some (.mkmap r) | _, _ => none)
 | .makeSlice t l c => (match zNO P t, cOpd P l, cOpd P c with
  | some e, some l, some c => (match P.info? e, zGi P e with
   | some i, some z => if (zAi z).length = i.size then some (.mkslice e i.size i.bytes (zAi z) l c) else none
   | _, _ => none)
  | _, _, _ => none)
 | .store t x v => (match zFh P t, cOpd P x, cOpd P v with | some n, some x, some v => some (.store n x v) | _, _, _ => none)
 | .mapUpdate t m k v => (match cMap P t, cOpd P m, cOpd P k, cOpd P v with | some (kk, _), some m, some k, some v => some (.update kk m k v) | _, _, _, _ => none)
 | .insert t m k v => (match cMap P t, cOpd P m, cOpd P k, cOpd P v with | some (kk, _), some m, some k, some v => some (.update kk m k v) | _, _, _, _ => none)
 | .lookup t m k ok => (match cMap P t, cOpd P m, cOpd P k with
  | some (.ptr, z), some m, some k => some (.lookup .ptr z ok m k)
  | _, _, _ => none)
 | .range t x => (match P.underlying t, cOpd P x with | some (.map _ _), some x => some (.range x) | _, _ => none)
 | .next x false => (match cOpd P x with | some x => some (.next x) | none => none)
 | .entry x => (match cOpd P x with | some x => some (.entry x) | none => none)
 | .defer c => (match c.callee with
  | .value f => (match cOpd P f, zNP P c.args with | some f, some xs => some (.defer f xs) | _, _ => none)
  | _ => none)
 | .call c => (match c.callee with
  | .builtin .append => (match c.args.toList, c.argTypes.toList with
   | [s, x], [st, xt] => (match zNO P st, zMs (P.underlying xt), cOpd P s, cOpd P x with
    | some e, true, some s, some x => (match P.info? e with
     | some i => (match i.size, i.zero with
      | 0, _ => none
      | _, some z => if z.cells.size = i.size then some (.append e i.size i.bytes s x) else none
      | _, none => none)
     | none => none)
    | _, _, _, _ => none)
   | _, _ => none)
  | .value f => (match cOpd P f, zNP P c.args with | some f, some xs => some (.call f xs) | _, _ => none)
  | _ => none)
 | _ => none

def cOp (o : Op) : AOp :=
 match cQ P o with
 | some q => .q q
 | none => (match cE P o with | some e => .e e | none => .q .trap)

def zIh (ops : List Oper) : Option (Nat × Bool) -> Option (Option (Tmp × Bool))
 | none => some none
 | some (j, b) => (match ops[j]? with
  | some o => (match o.dst with | some t => some (some (t, b)) | none => none)
  | none => none)

def cDst (N : Nat) : Option Tmp -> Option (Option Tmp)
 | none => some none
 | some t => if t < N then some (some t) else none

def zIY (N : Nat) (ops : List Oper) (o : Oper) : Option Step :=
 match cDst N o.dst, zIh ops o.guard with
 | some d, some g => some { dst := d, guard := g, op := cOp P o.op }
 | _, _ => none

def isE (s : Step) : Bool := match s.op with | .e _ => true | _ => false
def isAl (s : Step) : Bool := match s.op, s.guard with
 | .e (.alloc _ _), none | .e (.box _ _), none | .e (.bslice _ _ _ _ _), none | .e .bslice0, none | .e (.mkmap none), none => true
 | _, _ => false

def zHJ (o : Oper) : Nat := o.after.toList.foldl (fun s e => match Region.binds .any e with | true => s ||| 2 ^ e.on | false => s) 0
def subM (a b : Nat) : Bool := Nat.beq (a &&& b) a

def zIl (N : Nat) (ops : List Oper) : List Oper -> Nat -> Option (List DStep)
 | [], _ => some []
 | o :: r, i => (match zIY P N ops o, zIl N ops r (i + 1) with
  | some s, some l => some ({ i, pred := zHJ o, st := s } :: l)
  | _, _ => none)

def zIq (l : List DStep) : Nat :=
 l.foldl (fun m s => match isAl s.st && Nat.beq (s.pred &&& m) 0 with | true => m ||| 2 ^ s.i | false => m) 0

def zGA (ops : List Oper) (o : Oper) : List Tmp :=
  (o.op.operands.toList.filterMap fun | .tmp t => some t | _ => none) ++
  (match o.guard with
   | some (g, _) => (match ops[g]? with | some og => og.dst.toList | none => [])
   | none => [])
def zLj (ops : List Oper) (x y : Oper) : Bool :=
 (match x.dst with | some d => !(zGA ops y).contains d && y.dst != some d | none => true) &&
 (match y.dst with | some d => !(zGA ops x).contains d | none => true)
def zNl (ops : List Oper) (fl : Nat) : Bool :=
 (ops.zipIdx.all fun (o, i) => Nat.blt (zHJ o) (2 ^ i) && (!fl.testBit i || Nat.beq (zHJ o &&& fl) 0)) &&
 (ops.zipIdx.all fun (o, i) => ops.zipIdx.all fun (p, j) => (j >= i || (zHJ o).testBit j || zLj ops p o))

def nextQ (L : Nat) : List DStep -> Option DStep
 | [] => none
 | s :: r => match !isE s.st && !L.testBit s.i && subM s.pred L with
  | true => some s
  | false => nextQ L r
def zLl (l : List DStep) : Nat := l.foldl (fun m s => m ||| 2 ^ s.i) 0
def upF (fl L : Nat) (l : List DStep) : Nat := zLl (l.filter fun s => fl.testBit s.i && subM s.pred L)
def front (fl L : Nat) (l : List DStep) : List DStep :=
 let up := upF fl L l
 l.filter fun s => !fl.testBit s.i && !L.testBit s.i && subM s.pred (L ||| up)
def due (fl L m : Nat) (l : List DStep) : List DStep :=
 l.filter fun s => fl.testBit s.i && m.testBit s.i && !L.testBit s.i

def planF (l : List DStep) (fl : Nat) : Nat -> Nat -> Option (List DStep)
 | 0, _ => none
 | f + 1, L =>
  match nextQ L l with
  | some s => (match planF l fl f (L ||| 2 ^ s.i) with | some r => some (s :: r) | none => none)
  | none => (match front fl L l with
   | [] => let d := due fl L fl l
    if Nat.beq (L ||| fl) (zLl l) && d.all (fun s => subM s.pred L) then some d else none
   | s :: r => (match due fl L s.pred l with
    | [] => if r.isEmpty && isE s.st then (match planF l fl f (L ||| 2 ^ s.i) with | some p => some (s :: p) | none => none) else none
    | d => if d.all (fun k => subM k.pred L && r.all fun q => q.pred.testBit k.i) then
      (match planF l fl f (L ||| zLl d) with | some p => some (d ++ p) | none => none)
     else none))

def chkP (l : List DStep) (fl : Nat) : Nat -> List Nat -> Bool
 | L, [] => l.all fun t => L.testBit t.i
 | L, i :: r => (match l[i]? with
  | some s => !L.testBit i && (subM s.pred L && ((match fl.testBit i, isE s.st with
    | true, _ => l.all fun t => fl.testBit t.i || (L.testBit t.i || (!subM t.pred (L ||| upF fl L l) || t.pred.testBit i))
    | false, true => l.all fun t => fl.testBit t.i || (L.testBit t.i || (Nat.beq t.i i || !subM t.pred (L ||| upF fl L l)))
    | false, false => true) && chkP l fl (L ||| 2 ^ i) r))
  | none => false)
def zKQ (ops : List Oper) : Bool := ops.zipIdx.all fun p => ops.zipIdx.all fun q => p.2 == q.2 || (match p.1.dst, q.1.dst with | some d, some e => d != e | _, _ => true)
def noSel (ops : List Oper) : Bool := ops.all fun o => match o.op with | .select _ _ => false | _ => true

def zLP (p : Nat) : List Nat -> Nat -> Nat -> Nat
 | [], _, acc => acc
 | c :: r, j, acc => zLP p r (j + 1) (match p.testBit j with | true => acc ||| c | false => acc)
def zFj : List DStep -> List Nat -> List DStep
 | [], _ => []
 | s :: r, ms => { s with pred := zLP s.pred ms 0 s.pred } :: zFj r (ms ++ [zLP s.pred ms 0 s.pred])
def cDraw (N : Nat) (ops : List Oper) : Option (List DStep) :=
 match zIl P N ops ops 0 with
 | some l => let fl := zIq l
  (match zNl ops fl && (zKQ ops && noSel ops) with
  | true => (match planF l fl (l.length + 1) 0 with
   | some p => (match chkP l fl 0 (p.map (·.i)) with
    | true => mapO (fun i => (zFj l [])[i]?) (p.map (·.i))
    | false => none)
   | none => none)
  | false => none)
 | none => none

def zCK (N : Nat) : Code -> Option ACode
 | .skip => some .skip
 | .label _ => some .skip
 | .region _ ops false => (match mapO (zIY P N ops.toList) ops.toList with | some l => some (.ops l) | none => none)
 | .region _ ops true => (match cDraw P N ops.toList with | some l => some (.draw l) | none => some (.ops [{ dst := none, guard := none, op := .q .trap }]))
 | .seq x y => (match zCK N x, zCK N y with | some x, some y => some (.seq x y) | _, _ => none)
 | .cond c x y => (match cOpd P c, zCK N x, zCK N y with | some c, some x, some y => some (.cond c x y) | _, _, _ => none)
 | .block id c => (match zCK N c with | some c => some (.block id c) | none => none)
 | .loop c => (match zCK N c with | some c => some (.loop c) | none => none)
 | .exit id => some (.exit id)
 | .ret => some .ret
 | .rangeFunc f ps assign body => (match cOpd P f, zCK N assign, zCK N body with
  | some f, some x, some y => if ps.toList.all (fun p => Nat.blt p N) then some (.rangeF f ps.toList x y) else none
  | _, _, _ => none)
 | .refuse _ => some (.ops [{ dst := none, guard := none, op := .q .trap }])
 | .scope _ | .goto _ => none

def cRes : ResultVar -> Option ARes
 | .tmp t => some (.tmp t)
 | .cell x t => (match cHow P t with | some s => some (.cell x s) | none => none)

def cRec (c : Code) : Option (Option Tmp × Code) :=
 match c with
 | .seq (.region _ ops false) c => (match ops.toList with
  | [o] => (match o.op, o.guard with
   | .call { callee := .builtin .recover, args, .. }, none => (match args.toList with | [] => some (o.dst, c) | _ => none)
   | _, _ => none)
  | _ => none)
 | _ => none

def cFn (fn : Func) : Option AFunc :=
 match fn.body with
 | none => none
 | some c => if fn.name == "runtime.NumGoroutine" then none else (match mapO (cRes P) fn.results.toList with
  | none => none
  | some rs => (match cRec c with
   | some (d, c) => (match cDst fn.ntmps d, zCK P fn.ntmps c with
    | some d, some c => some { n := fn.ntmps, body := c, results := rs, recovers := some d }
    | _, _ => none)
   | none => (match zCK P fn.ntmps c with
    | some c => some { n := fn.ntmps, body := c, results := rs }
    | none => none)))
end
end Go.Ab
end
