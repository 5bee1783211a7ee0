import GoSem.Core.Program
import GoSem.Machine.Return
/-
  Part 0 of the proof.
-/
set_option linter.all false
section
/-
  A small language, and what its programs do on abstract memory: whatever Go leaves open has been settled in it, but for the order in which a map is gone through. Definitions alone.
-/
namespace Go.Ab

/-! ### Trees keyed by numbers -/
inductive T (α : Type) : Type where
  | leaf : T α
  | node (l : T α) (v : Option α) (r : T α) : T α

namespace T
variable {α : Type}
def get : T α → Nat → Option α
  | .leaf, _ => none
  | .node l v r, k =>
    match k with
    | 0 => v
    | k + 1 => match k % 2 with
      | 0 => l.get (k / 2)
      | _ => r.get (k / 2)

def setF : Nat → T α → Nat → Option α → T α
  | 0, t, _, _ => t
  | f + 1, .leaf, k, x =>
    match k with
    | 0 => .node .leaf x .leaf
    | k + 1 => match k % 2 with
      | 0 => .node (setF f .leaf (k / 2) x) none .leaf
      | _ => .node .leaf none (setF f .leaf (k / 2) x)
  | f + 1, .node l v r, k, x =>
    match k with
    | 0 => .node l x r
    | k + 1 => match k % 2 with
      | 0 => .node (setF f l (k / 2) x) v r
      | _ => .node l v (setF f r (k / 2) x)

def set (t : T α) (k : Nat) (x : Option α) : T α := setF (k + 1) t k x
end T

/-! ### What a run comes to: an answer, no answer, or a choice that is not ours -/
inductive D (α : Type) : Type where
  | ret (a : α)
  | fail
  | ask (n : Nat) (k : Nat → D α)

def D.bind {α β : Type} : D α → (α → D β) → D β
  | .ret a, f => f a
  | .fail, _ => .fail
  | .ask n k, f => .ask n fun i => (k i).bind f

def D.ofO {α : Type} : Option α → D α
  | some a => .ret a
  | none => .fail

/-- Every answer that it may come to meets Q, and it comes to one. -/
def D.sat {α : Type} : D α → (α → Prop) → Prop
  | .ret a, Q => Q a
  | .fail, _ => False
  | .ask n k, Q => 0 < n ∧ ∀ i, i < n → (k i).sat Q

/-! ### Values and memory -/
inductive AVal : Type where
  | bool (b : Bool)
  | int (k : IntKind) (n : Int)
  | str (s : List Nat)
  | ptr (a : Option (Nat × Nat))
  | slice (a : Option (Nat × Nat)) (len : Nat)
  | slice0
  | sliceE
  | map (r : Option Nat)
  | func (f : FuncId) (first captured : List AVal)
  | yield (l : Nat)
  | nilFunc
  | iface (t : TypeId) (v : AVal)
  | nilIface
  | agg (cs : List AVal)
  | tuple (vs : List AVal)

inductive AExit : Type where
  | normal | ret | exit (id : Nat)

inductive ADef : Type where
  | collected (r : Nat)
  | fn (f : FuncId) (args : List AVal)

structure AAct : Type where
  tmps : T AVal
  defers : List ADef

/-! ### The language -/
inductive AOpd : Type where
  | tmp (t : Nat)
  | val (v : AVal)
  | glob (g : Nat)

/-- How keys are held against each other. -/
inductive KeyK : Type where
  | str | int | ptr
  | agg (n : Nat)

/-- How two values are held against each other. -/
inductive EqK : Type where
  | bool | ptr | iface (lit : Bool) | slice | map | func | agg (n : Nat)

/-- Operations that turn nothing. -/
inductive QOp : Type where
  | trap
  | mov (x : AOpd)
  | pick (c x y : AOpd)
  | build (zero : List AVal) (parts : List (Nat × Nat × AOpd))
  | nilCheck (x : AOpd)
  | num (op : BinOp) (x y : AOpd)
  | eql (neg : Bool) (k : EqK) (x y : AOpd)
  | not (x : AOpd)
  | neg (x : AOpd)
  | conv (k : IntKind) (x : AOpd)
  | same (x : AOpd)
  | iface (t : TypeId) (x : AOpd)
  | func (f : FuncId) (first captured : List AOpd)
  | field (off : Nat) (size : Option Nat) (x : AOpd)
  | fieldA (off : Nat) (x : AOpd)
  | indexA (size : Nat) (x i : AOpd)
  | indexR (n size : Nat) (x i : AOpd)
  | indexS (x i : AOpd)
  | indexV (n size : Nat) (agg : Bool) (x i : AOpd)
  | sliceS (x : AOpd) (lo hi : Option AOpd)
  | slice (elem : TypeId) (size : Nat) (x : AOpd) (lo hi : Option AOpd)
  | slice00 (x : AOpd)
  | extract (x : AOpd) (i : Nat)
  | lenS (x : AOpd)
  | lenV (x : AOpd)
  | lenM (x : AOpd)
  | max (x y : AOpd)
  | min (x y : AOpd)
  | load (size : Option Nat) (x : AOpd)
  | lookup (k : KeyK) (zero : AVal) (ok : Bool) (m x : AOpd)

/-- Operations that make or turn memory, or call. -/
inductive EOp : Type where
  | alloc (elem : TypeId) (cells : List AVal)
  | box (elem : TypeId) (x : AOpd)
  | bslice (elem : TypeId) (size n : Nat) (zero : List AVal) (parts : List (Nat × AOpd))
  | bslice0
  | mkmap (hint : Option AOpd)
  | mkslice (elem : TypeId) (size bytes : Nat) (zero : List AVal) (l c : AOpd)
  | store (n : Nat) (x v : AOpd)
  | update (k : KeyK) (m x v : AOpd)
  | lookup (k : KeyK) (zero : AVal) (ok : Bool) (m x : AOpd)
  | append (elem : TypeId) (size bytes : Nat) (s x : AOpd)
  | call (f : AOpd) (args : List AOpd)
  | defer (f : AOpd) (args : List AOpd)
  | range (x : AOpd)
  | next (x : AOpd)
  | entry (x : AOpd)

inductive AOp : Type where
  | q (op : QOp)
  | e (op : EOp)

structure Step : Type where
  dst : Option Tmp
  guard : Option (Tmp × Bool)
  op : AOp

/-- A step of a region whose order is drawn: its number, and those that it waits for, as bits. -/
structure DStep : Type where
  i : Nat
  pred : Nat
  st : Step

inductive ACode : Type where
  | skip
  | ops (l : List Step)
  | draw (l : List DStep)
  | seq (x y : ACode)
  | cond (c : AOpd) (x y : ACode)
  | block (id : Nat) (c : ACode)
  | loop (c : ACode)
  | exit (id : Nat)
  | ret
  | rangeF (f : AOpd) (ps : List Tmp) (assign body : ACode)

inductive ARes : Type where
  | tmp (t : Tmp)
  | cell (t : Tmp) (size : Option Nat)

structure AFunc : Type where
  n : Nat
  body : ACode
  results : List ARes
  /-- it is one that is deferred, and begins with 'recover' -/
  recovers : Option (Option Tmp) := none

inductive AObj : Type where
  | cells (ro : Bool) (elem : TypeId) (vs : List AVal)
  | map (es : List (AVal × AVal × Nat)) (clock : Nat)
  | loop (st : LoopState) (pending : Option AExit) (tmps : T AVal) (params : List Tmp) (assign body : ACode) (defers : Nat)
  | dfr (shut : Bool)
  | iter (m : Nat) (since : Nat) (seen : List Nat) (last : Nat)

structure AHeap : Type where
  objs : T (Nat × AObj)
  next : Nat

def AObj.ro : AObj → Bool
  | .cells ro _ _ => ro
  | _ => false

/-! ### Small things -/
def mapO {α β : Type} (f : α → Option β) : List α → Option (List β)
  | [] => some []
  | x :: xs => match f x with
    | some y => (match mapO f xs with | some ys => some (y :: ys) | none => none)
    | none => none

def cellsA : AVal → List AVal
  | .agg cs => cs
  | v => [v]
def one : AVal → Bool
  | .agg _ | .tuple _ => false
  | _ => true

def ev (a : AAct) : AOpd → Option AVal
  | .tmp t => a.tmps.get t
  | .val v => some v
  | .glob g => some (.ptr (some (g, 0)))
def evs (a : AAct) (xs : List AOpd) : Option (List AVal) := mapO (ev a) xs

def partA (size : Option Nat) (cs : List AVal) (off : Nat) : Option AVal :=
  match size with
  | some n => if off + n ≤ cs.length then some (.agg ((cs.drop off).take n)) else none
  | none => cs[off]?

/-- Parts laid into cells. -/
def fillA (a : AAct) (cells : List AVal) : List (Nat × Nat × AOpd) → Option (List AVal)
  | [] => some cells
  | (off, size, x) :: rest =>
    match ev a x with
    | none => none
    | some v => let cs := cellsA v
      if cs.length = size ∧ off + size ≤ cells.length then fillA a (cells.take off ++ cs ++ cells.drop (off + size)) rest else none

def lessL : List Nat → List Nat → Bool
  | _, [] => false
  | [], _ :: _ => true
  | a :: x, b :: y => match Nat.blt a b with | true => true | false => (match Nat.beq a b with | true => lessL x y | false => false)
def eqL : List Nat → List Nat → Bool
  | [], [] => true
  | a :: x, b :: y => match Nat.beq a b with | true => eqL x y | false => false
  | _, _ => false

def intOpA (op : BinOp) (k : IntKind) (x y : Int) : Option AVal :=
  match op with
  | .add => some (.int k (k.wrap (x + y)))
  | .sub => some (.int k (k.wrap (x - y)))
  | .mul => some (.int k (k.wrap (x * y)))
  | .eql => some (.bool (x == y))
  | .neq => some (.bool (x != y))
  | .lss => some (.bool (decide (x < y)))
  | .leq => some (.bool (decide (x ≤ y)))
  | .gtr => some (.bool (decide (x > y)))
  | .geq => some (.bool (decide (x ≥ y)))
  | .quo => if y = 0 then none else some (.int k (k.wrap (x.tdiv y)))
  | .rem => if y = 0 then none else some (.int k (x.tmod y))
  | _ => none

def strOpA (op : BinOp) (x y : List Nat) : Option AVal :=
  match op with
  | .add => if x.length + y.length < 1000000000000 then some (.str (x ++ y)) else none
  | .eql => some (.bool (eqL x y))
  | .neq => some (.bool (!eqL x y))
  | .lss => some (.bool (lessL x y))
  | .leq => some (.bool (lessL x y || eqL x y))
  | .gtr => some (.bool (!(lessL x y || eqL x y)))
  | .geq => some (.bool (!lessL x y))
  | _ => none

def numA (op : BinOp) (x y : AVal) : Option AVal :=
  match x, y with
  | .int k a, .int k' b => (match op with
    | .shr => if 0 ≤ b then some (.int k (a.fdiv (2 ^ min b.toNat k.bits))) else none
    | .shl => if 0 ≤ b then some (.int k (k.wrap (a * 2 ^ min b.toNat k.bits))) else none
    | _ => if k = k' then intOpA op k a b else none)
  | .str a, .str b => strOpA op a b
  | _, _ => none

/-- Cells of numbers, one by one. -/
def eqCells : List AVal → List AVal → Option Bool
  | [], [] => some true
  | .int k a :: x, .int k' b :: y => if k = k' then (match a == b with | true => eqCells x y | false => (match eqCells x y with | some _ => some false | none => none)) else none
  | _, _ => none

def eqA (k : EqK) (x y : AVal) : Option Bool :=
  match k, x, y with
  | .bool, .bool a, .bool b => some (a == b)
  | .ptr, .ptr none, .ptr b => some b.isNone
  | .ptr, .ptr (some _), .ptr none => some false
  | .ptr, .ptr (some (b, o)), .ptr (some (b', o')) => if b = b' ∧ o = o' then some true else none
  | .iface lit, .nilIface, .nilIface => if lit then some true else none
  | .iface _, .nilIface, .iface _ _ => some false
  | .iface _, .iface _ _, .nilIface => some false
  | .slice, .slice none _, .slice b _ => some b.isNone
  | .slice, .slice (some _) _, .slice none _ => some false
  | .slice, .slice0, .slice none _ => some false
  | .slice, .slice none _, .slice0 => some false
  | .slice, .sliceE, .slice none _ => some false
  | .slice, .slice none _, .sliceE => some false
  | .map, .map none, .map b => some b.isNone
  | .map, .map (some _), .map none => some false
  | .func, .nilFunc, .nilFunc => some true
  | .func, .nilFunc, .func _ _ _ => some false
  | .func, .func _ _ _, .nilFunc => some false
  | .agg n, .agg xs, .agg ys => if xs.length = n ∧ ys.length = n then eqCells xs ys else none
  | _, _, _ => none

def keyA (k : KeyK) (x y : AVal) : Option Bool :=
  match k, x, y with
  | .str, .str a, .str b => some (eqL a b)
  | .int, .int k a, .int k' b => if k = k' then some (a == b) else none
  | .ptr, .ptr (some (b, o)), .ptr (some (b', o')) => some (Nat.beq b b' && Nat.beq o o')
  | .agg n, .agg xs, .agg ys => if xs.length = n ∧ ys.length = n then eqCells xs ys else none
  | _, _, _ => none
/-- May it be a key? -/
def isKey (k : KeyK) (x : AVal) : Bool :=
  match k, x with
  | .str, .str _ => true
  | .int, .int _ _ => true
  | .ptr, .ptr (some _) => true
  | .agg n, .agg xs => Nat.beq xs.length n && xs.all fun | .int _ _ => true | _ => false
  | _, _ => false

def findA (k : KeyK) (x : AVal) : List (AVal × AVal × Nat) → Nat → Option (Option (Nat × AVal))
  | [], _ => some none
  | (y, v, _) :: es, i => match keyA k x y with
    | some true => some (some (i, v))
    | some false => findA k x es (i + 1)
    | none => none

/-- A bound of a slice expression. -/
def boundA (a : AAct) (x : Option AOpd) (d most : Nat) : Option Nat :=
  match x with
  | none => some d
  | some o => match ev a o with
    | some (.int _ n) => if 0 ≤ n ∧ n.toNat ≤ most then some n.toNat else none
    | _ => none

def asNat : AVal → Option Nat
  | .int _ n => if 0 ≤ n then some n.toNat else none
  | _ => none

def lookA (h : AHeap) (k : KeyK) (zero : AVal) (ok : Bool) (m x : AVal) : Option (AVal × Option Nat) :=
  match isKey k x with
  | false => none
  | true => (match m with
    | .map none => some (if ok then .tuple [zero, .bool false] else zero, none)
    | .map (some r) => (match h.objs.get r with
      | some (_, .map es _) => (match findA k x es 0 with
        | some (some (_, v)) => some (if ok then .tuple [v, .bool true] else v, some r)
        | some none => some (if ok then .tuple [zero, .bool false] else zero, some r)
        | none => none)
      | _ => none)
    | _ => none)

/-- What a quiet operation yields, and the block that it looked at. -/
def qA (a : AAct) (h : AHeap) : QOp → Option (AVal × Option Nat)
  | .trap => none
  | .mov x => (match ev a x with | some v => some (v, none) | none => none)
  | .pick c x y => (match ev a c with
    | some (.bool true) => (match ev a x with | some v => some (v, none) | none => none)
    | some (.bool false) => (match ev a y with | some v => some (v, none) | none => none)
    | _ => none)
  | .build zero parts => (match fillA a zero parts with | some cs => some (.agg cs, none) | none => none)
  | .nilCheck x => (match ev a x with
    | some (.ptr (some p)) => some (.ptr (some p), none)
    | _ => none)
  | .num op x y => (match ev a x, ev a y with
    | some u, some v => (match numA op u v with | some r => some (r, none) | none => none)
    | _, _ => none)
  | .eql neg k x y => (match ev a x, ev a y with
    | some u, some v => (match eqA k u v with | some b => some (.bool (xor neg b), none) | none => none)
    | _, _ => none)
  | .not x => (match ev a x with | some (.bool b) => some (.bool (!b), none) | _ => none)
  | .neg x => (match ev a x with | some (.int k n) => some (.int k (k.wrap (0 - n)), none) | _ => none)
  | .conv k x => (match ev a x with | some (.int _ n) => some (.int k (k.wrap n), none) | _ => none)
  | .same x => (match ev a x with | some (.str s) => some (.str s, none) | _ => none)
  | .iface t x => (match ev a x with | some v => some (.iface t v, none) | none => none)
  | .func f first captured => (match evs a first, evs a captured with
    | some l, some m => some (.func f l m, none)
    | _, _ => none)
  | .field off size x => (match ev a x with
    | some (.agg cs) => (match partA size cs off with | some v => some (v, none) | none => none)
    | _ => none)
  | .fieldA off x => (match ev a x with
    | some (.ptr (some (b, o))) => some (.ptr (some (b, o + off)), none)
    | _ => none)
  | .indexA size x i => (match ev a x, ev a i with
    | some (.slice (some (b, o)) n), some v => (match asNat v with
      | some i => if i < n then some (.ptr (some (b, o + i * size)), none) else none
      | none => none)
    | _, _ => none)
  | .indexR n size x i => (match ev a x, ev a i with
    | some (.ptr (some (b, o))), some v => (match asNat v with
      | some i => if i < n then some (.ptr (some (b, o + i * size)), none) else none
      | none => none)
    | _, _ => none)
  | .indexS x i => (match ev a x, ev a i with
    | some (.str s), some v => (match asNat v with
      | some i => (match s[i]? with | some c => some (.int .u8 (Int.ofNat c), none) | none => none)
      | none => none)
    | _, _ => none)
  | .indexV n size agg x i => (match ev a x, ev a i with
    | some (.agg cs), some v => (match asNat v with
      | some i => if i < n then (match partA (if agg then some size else none) cs (i * size) with | some v => some (v, none) | none => none) else none
      | none => none)
    | _, _ => none)
  | .sliceS x lo hi => (match ev a x with
    | some (.str s) => (match boundA a hi s.length s.length with
      | some h => (match boundA a lo 0 h with | some l => some (.str ((s.take h).drop l), none) | none => none)
      | none => none)
    | _ => none)
  | .slice elem size x lo hi => (match ev a x with
    | some (.slice none n) => (match boundA a hi n n with
      | some h => (match boundA a lo 0 h with | some _ => some (.slice none 0, none) | none => none)
      | none => none)
    | some (.slice (some (b, o)) n) => (match boundA a hi n n with
      | some t => (match boundA a lo 0 t with
        | some 0 => some (.slice (some (b, o)) t, none)
        | some l => if l < n then (match h.objs.get b with
            | some (_, .cells _ e _) => if e = elem then some (.slice (some (b, o + l * size)) (t - l), none) else none
            | _ => none)
          else some (.sliceE, none)
        | none => none)
      | none => none)
    | _ => none)
  | .slice00 x => (match ev a x with
    | some (.slice none _) => some (.slice none 0, none)
    | some (.slice (some _) _) => some (.slice0, none)
    | some .slice0 => some (.slice0, none)
    | _ => none)
  | .extract x i => (match ev a x with
    | some (.tuple vs) => (match vs[i]? with | some v => some (v, none) | none => none)
    | _ => none)
  | .lenS x => (match ev a x with | some (.str s) => some (.int .i64 (Int.ofNat s.length), none) | _ => none)
  | .lenV x => (match ev a x with
    | some (.slice _ n) => some (.int .i64 (Int.ofNat n), none)
    | some .slice0 => some (.int .i64 0, none)
    | some .sliceE => some (.int .i64 0, none)
    | _ => none)
  | .lenM x => (match ev a x with
    | some (.map none) => some (.int .i64 0, none)
    | some (.map (some r)) => (match h.objs.get r with
      | some (_, .map es _) => some (.int .i64 (Int.ofNat es.length), some r)
      | _ => none)
    | _ => none)
  | .max x y => (match ev a x, ev a y with
    | some (.int k x), some (.int _ y) => some (.int k (if y > x then y else x), none)
    | _, _ => none)
  | .min x y => (match ev a x, ev a y with
    | some (.int k x), some (.int _ y) => some (.int k (if y < x then y else x), none)
    | _, _ => none)
  | .load size x => (match ev a x with
    | some (.ptr (some (b, o))) => (match h.objs.get b with
      | some (_, .cells _ _ vs) => (match partA size vs o with | some v => some (v, some b) | none => none)
      | _ => none)
    | _ => none)
  | .lookup k zero ok m x => (match k with
    | .ptr => none
    | k => (match ev a m, ev a x with
      | some m, some x => lookA h k zero ok m x
      | _, _ => none))

/-! ### Operations that turn memory -/
def newA (h : AHeap) (o : AObj) : AHeap := { objs := h.objs.set h.next (some (h.next, o)), next := h.next + 1 }
def putObjA (h : AHeap) (id : Nat) (o : AObj) : AHeap := { objs := h.objs.set id (some (h.next, o)), next := h.next + 1 }
def dropA (h : AHeap) (id : Nat) : AHeap := { h with objs := h.objs.set id none }

def putA (a : AAct) (dst : Option Tmp) (v : AVal) : AAct :=
  match dst with
  | none => a
  | some d => { a with tmps := a.tmps.set d (some v) }

def storeCellsA (h : AHeap) (b o : Nat) (cs : List AVal) : Option AHeap :=
  match h.objs.get b with
  | some (_, .cells false e vs) =>
    if o + cs.length ≤ vs.length ∧ cs.all one = true then some (putObjA h b (.cells false e (vs.take o ++ cs ++ vs.drop (o + cs.length)))) else none
  | _ => none

def setVal (es : List (AVal × AVal × Nat)) (i : Nat) (v : AVal) : List (AVal × AVal × Nat) :=
  match es, i with
  | [], _ => []
  | (k, _, b) :: r, 0 => (k, v, b) :: r
  | e :: r, i + 1 => e :: setVal r i v

def updateA (h : AHeap) (k : KeyK) (m x v : AVal) : Option AHeap :=
  match isKey k x with
  | false => none
  | true => (match m with
    | .map (some r) => (match h.objs.get r with
      | some (_, .map es clock) => (match findA k x es 0 with
        | some (some (i, _)) => some (putObjA h r (.map (setVal es i v) clock))
        | some none => some (putObjA h r (.map (es ++ [(x, v, clock)]) (clock + 1)))
        | none => none)
      | _ => none)
    | _ => none)

def lenA : AVal → Option Nat
  | .slice _ n => some n
  | .slice0 => some 0
  | .sliceE => some 0
  | .str s => some s.length
  | _ => none
/-- The first n elements. -/
def cellsOfA (h : AHeap) (size n : Nat) : AVal → Option (List AVal)
  | .slice (some (b, o)) _ => (match h.objs.get b with
    | some (_, .cells _ _ vs) => if o + n * size ≤ vs.length then some ((vs.drop o).take (n * size)) else none
    | _ => none)
  | .str s => if size = 1 then some ((s.take n).map fun c => .int .u8 (Int.ofNat c)) else none
  | _ => none

def roomA (bytes need : Nat) : Bool := Nat.ble 1 bytes && Nat.ble ((2 * need + 2000) * bytes) (2 ^ 46)
/-- Room for a row that begins with nothing. -/
def room0A (bytes need : Nat) : Bool := Nat.ble 1 bytes && Nat.ble (need * bytes) (2 ^ 47)

def appendA (h : AHeap) (elem : TypeId) (size bytes : Nat) (s x : AVal) : Option (AVal × AHeap) :=
  match lenA x with
  | none => none
  | some 0 => (match s with
    | .slice base n => some (.slice base n, h)
    | .slice0 => some (.slice0, h)
    | _ => none)
  | some m => (match cellsOfA h size m x with
    | none => none
    | some new => (match new.all one with
      | false => none
      | true => (match s with
        | .slice none _ => if room0A bytes m then some (.slice (some (h.next, 0)) m, newA h (.cells false elem new)) else none
        | .slice0 => if room0A bytes m then some (.slice (some (h.next, 0)) m, newA h (.cells false elem new)) else none
        | .slice (some (b, 0)) n => (match h.objs.get b with
          | some (_, .cells false e vs) =>
            if e = elem ∧ n * size ≤ vs.length ∧ roomA bytes (n + m) = true then
              some (.slice (some (h.next, 0)) (n + m), newA (dropA h b) (.cells false elem (vs.take (n * size) ++ new)))
            else none
          | _ => none)
        | _ => none)))

def rep {α : Type} (xs : List α) : Nat → List α
  | 0 => []
  | n + 1 => xs ++ rep xs n

/-- Parts laid into a row. -/
def rowA (a : AAct) (size : Nat) (cells : List AVal) : List (Nat × AOpd) → Option (List AVal)
  | [] => some cells
  | (i, x) :: rest =>
    match ev a x with
    | none => none
    | some v => let cs := cellsA v
      if cs.length = size ∧ i * size + size ≤ cells.length then rowA a size (cells.take (i * size) ++ cs ++ cells.drop (i * size + size)) rest else none

/-- It is an address of a block that is told of, and may be turned. -/
def liveP (h : AHeap) : AVal → Bool
  | .ptr (some (b, _)) => (match h.objs.get b with | some (_, .cells false _ _) => true | _ => false)
  | _ => false
/-- Addresses as keys: each is one of a block that is told of. -/
def keysOk (h : AHeap) (k : KeyK) (m x : AVal) : Bool :=
  match k with
  | .ptr => (match m with
    | .map (some r) => (match h.objs.get r with
      | some (_, .map es _) => liveP h x && es.all fun e => liveP h e.1
      | _ => true)
    | _ => true)
  | _ => true

/-- An operation that makes or turns memory, and calls nothing. -/
def turnA (a : AAct) (h : AHeap) : EOp → D (AVal × AHeap)
  | .alloc e cells => .ret (.ptr (some (h.next, 0)), newA h (.cells false e cells))
  | .box e x => (match ev a x with
    | some v => .ret (.ptr (some (h.next, 0)), newA h (.cells false e (cellsA v)))
    | none => .fail)
  | .bslice e size n zero parts => (match rowA a size (rep zero n) parts with
    | some cs => .ret (.slice (some (h.next, 0)) n, newA h (.cells false e cs))
    | none => .fail)
  | .bslice0 => .ret (.slice0, h)
  | .mkmap none => .ret (.map (some h.next), newA h (.map [] 0))
  | .mkmap (some x) => (match ev a x with
    | some (.int _ _) => .ret (.map (some h.next), newA h (.map [] 0))
    | _ => .fail)
  | .mkslice e _ bytes zero l c => (match ev a l, ev a c with
    | some l, some c => (match asNat l, asNat c with
      | some l, some c => if l ≤ c ∧ c ≤ 2 ^ 40 ∧ roomA bytes c = true then .ret (.slice (some (h.next, 0)) l, newA h (.cells false e (rep zero c))) else .fail
      | _, _ => .fail)
    | _, _ => .fail)
  | .store n x v => (match ev a x, ev a v with
    | some (.ptr (some (b, o))), some v => if (cellsA v).length = n then (match storeCellsA h b o (cellsA v) with | some h => .ret (.tuple [], h) | none => .fail) else .fail
    | _, _ => .fail)
  | .update k m x v => (match ev a m, ev a x, ev a v with
    | some m, some x, some v => (match keysOk h k m x with
      | true => (match updateA h k m x v with | some h => .ret (.tuple [], h) | none => .fail)
      | false => .fail)
    | _, _, _ => .fail)
  | .lookup k zero ok m x => (match ev a m, ev a x with
    | some m, some x => (match keysOk h k m x with
      | true => (match lookA h k zero ok m x with | some (v, _) => .ret (v, h) | none => .fail)
      | false => .fail)
    | _, _ => .fail)
  | .append e size bytes s x => (match ev a s, ev a x with
    | some s, some x => (match appendA h e size bytes s x with | some r => .ret r | none => .fail)
    | _, _ => .fail)
  | .range x => (match ev a x with
    | some (.map (some r)) => (match h.objs.get r with
      | some (_, .map _ clock) => .ret (.ptr (some (h.next, 0)), newA h (.iter r clock [] clock))
      | _ => .fail)
    | _ => .fail)
  | .next x => (match ev a x with
    | some (.ptr (some (b, 0))) => (match h.objs.get b with
      | some (_, .iter r since seen last) => (match h.objs.get r with
        | some (_, .map es clock) =>
          -- nobody may turn the map while it is gone through
          if clock = since ∧ last = since ∧ es.all (fun e => Nat.blt e.2.2 since) = true then
            let left := es.filter fun e => !seen.contains e.2.2
            (match left with
            | [] => .ret (.tuple [.bool false], h)
            | _ => .ask left.length fun i => (match left[i]? with
              | some (k, v, born) => .ret (.tuple [.bool true, k, v], putObjA h b (.iter r since (seen ++ [born]) last))
              | none => .fail))
          else .fail
        | _ => .fail)
      | _ => .fail)
    | _ => .fail)
  | .entry x => (match ev a x with
    | some (.ptr (some (b, 0))) => (match h.objs.get b with
      | some (_, .iter r _ seen last) => (match h.objs.get r, seen.getLast? with
        | some (_, .map es clock), some stamp =>
          if clock = last then (match es.find? (fun e => Nat.beq e.2.2 stamp) with
            | some (k, v, _) => .ret (.tuple [k, v], h)
            | none => .fail)
          else .fail
        | _, _ => .fail)
      | _ => .fail)
    | _ => .fail)
  | _ => .fail

/-! ### What the machine does, given itself at less fuel -/
structure Self where
  call : FuncId → List AVal → AHeap → D (AVal × AHeap)
  code : Option Nat → ACode → AAct → AHeap → D (AExit × AAct × AHeap)

def setParams (t : T AVal) : List Tmp → List AVal → Option (T AVal)
  | [], [] => some t
  | p :: ps, v :: vs => setParams (t.set p (some v)) ps vs
  | _, _ => none

/-- One round: 'yield' of the loop l. -/
def roundA (S : Self) (l : Nat) (args : List AVal) (h : AHeap) : D (AVal × AHeap) :=
  match h.objs.get l with
  | some (_, .loop .ready _ tmps params assign body _) =>
    (match setParams tmps params args with
    | some t => (S.code (some l) assign { tmps := t, defers := [] } h).bind fun p1 =>
      (match p1.1, p1.2.2.objs.get l with
      | .normal, some (_, .loop .ready pd tm ps as bd df) =>
        (S.code (some l) body p1.2.1 (putObjA p1.2.2 l (.loop .busy pd tm ps as bd df))).bind fun p3 =>
          (match p3.2.2.objs.get l with
          | some (_, .loop _ _ tm ps as bd df) => (match p3.1 with
            | .normal => .ret (.bool true, putObjA p3.2.2 l (.loop .ready none tm ps as bd df))
            | e => .ret (.bool false, putObjA p3.2.2 l (.loop .done (some e) tm ps as bd df)))
          | _ => .fail)
      | _, _ => .fail)
    | none => .fail)
  | _ => .fail

/-- A call by a function value. -/
def callVA (S : Self) (f : AVal) (args : List AVal) (h : AHeap) : D (AVal × AHeap) :=
  match f with
  | .func g first captured => S.call g (first ++ args ++ captured) h
  | .yield l => roundA S l args h
  | _ => .fail

def eA (S : Self) (ro : Option Nat) (a : AAct) (h : AHeap) (dst : Option Tmp) (op : EOp) : D (AAct × AHeap) :=
  match op with
  | .call f xs => (match ev a f, evs a xs with
    | some f, some xs => (callVA S f xs h).bind fun p => .ret (putA a dst p.1, p.2)
    | _, _ => .fail)
  | .defer f xs => (match ro, ev a f, evs a xs with
    | none, some (.func g first captured), some xs => .ret (putA { a with defers := .fn g (first ++ xs ++ captured) :: a.defers } dst (.tuple []), h)
    | _, _, _ => .fail)
  | op => (turnA a h op).bind fun p => .ret (putA a dst p.1, p.2)

/-- Is it wanted? -/
def wantA (a : AAct) : Option (Tmp × Bool) → Option Bool
  | none => some true
  | some (t, b) => (match a.tmps.get t with
    | some (.bool c) => some (c == b)
    | some (.tuple []) => some false
    | _ => none)

def stepA (S : Self) (ro : Option Nat) (a : AAct) (h : AHeap) (s : Step) : D (AAct × AHeap) :=
  match wantA a s.guard with
  | some true => (match s.op with
    | .q op => (match qA a h op with
      | some (v, _) => .ret (putA a s.dst v, h)
      | none => .fail)
    | .e op => eA S ro a h s.dst op)
  | some false => .ret (putA a s.dst (.tuple []), h)
  | none => .fail

def stepsA (S : Self) (ro : Option Nat) : List Step → AAct → AHeap → D (AAct × AHeap)
  | [], a, h => .ret (a, h)
  | s :: r, a, h => (stepA S ro a h s).bind fun p => stepsA S ro r p.1 p.2

structure Held where
  i : Nat
  id : Nat
  ver : Nat

def heldOk (h : AHeap) (m : Nat) : List Held → Bool
  | [] => true
  | k :: r => (m.testBit k.i || (match h.objs.get k.id with | some (v, _) => Nat.beq v k.ver | none => false)) && heldOk h m r

/-- A region whose order is drawn, in the order that stands for all. -/
def drawA (S : Self) (ro : Option Nat) : List DStep → List Held → AAct → AHeap → D (AAct × AHeap)
  | [], _, a, h => .ret (a, h)
  | s :: r, hs, a, h =>
    match wantA a s.st.guard with
    | some true => (match s.st.op with
      | .q op => (match qA a h op with
        | some (v, none) => drawA S ro r hs (putA a s.st.dst v) h
        | some (v, some id) => (match h.objs.get id with
          | some (ver, _) => drawA S ro r ({ i := s.i, id, ver } :: hs) (putA a s.st.dst v) h
          | none => .fail)
        | none => .fail)
      | .e op => (eA S ro a h s.st.dst op).bind fun p => (match heldOk p.2 s.pred hs with
        | true => drawA S ro r hs p.1 p.2
        | false => .fail))
    | some false => drawA S ro r hs (putA a s.st.dst (.tuple [])) h
    | none => .fail

/-! ### Code -/
def codeA (S : Self) (ro : Option Nat) : ACode → AAct → AHeap → D (AExit × AAct × AHeap)
  | .skip, a, h => .ret (.normal, a, h)
  | .ops l, a, h => (stepsA S ro l a h).bind fun p => .ret (.normal, p.1, p.2)
  | .draw l, a, h => (drawA S ro l [] a h).bind fun p => .ret (.normal, p.1, p.2)
  | .seq x y, a, h => (codeA S ro x a h).bind fun p => (match p.1 with
    | .normal => codeA S ro y p.2.1 p.2.2
    | _ => .ret p)
  | .cond c x y, a, h => (match ev a c with
    | some (.bool true) => codeA S ro x a h
    | some (.bool false) => codeA S ro y a h
    | _ => .fail)
  | .block id c, a, h => (codeA S ro c a h).bind fun p => (match p.1 with
    | .exit id' => (match Nat.beq id' id with | true => .ret (.normal, p.2) | false => .ret p)
    | _ => .ret p)
  | .loop c, a, h => (codeA S ro c a h).bind fun p => (match p.1 with
    | .normal => S.code ro (.loop c) p.2.1 p.2.2
    | _ => .ret p)
  | .exit id, a, h => .ret (.exit id, a, h)
  | .ret, a, h => .ret (.ret, a, h)
  | .rangeF f ps assign body, a, h => (match ro, ev a f with
    | none, some (.func g first captured) =>
      let h1 := newA h (.dfr false)
      let l := h1.next
      let h2 := newA h1 (.loop .ready none a.tmps ps assign body h.next)
      (S.call g (first ++ [.yield l] ++ captured) h2).bind fun p =>
        (match p.2.objs.get l with
        | some (_, .loop st pd t ps' as' bd' df') => (match st with
          | .busy => .fail
          | _ =>
            let h4 := putObjA p.2 l (.loop .exhausted pd t ps' as' bd' df')
            let a4 : AAct := { a with defers := .collected h.next :: a.defers }
            (match pd with
            | none => .ret (.normal, a4, h4)
            | some .normal => .fail
            | some e => .ret (e, a4, h4)))
        | _ => .fail)
    | _, _ => .fail)

section
variable (fns : FuncId → Option AFunc) (summ : FuncId → List AVal → AHeap → Option (D (AVal × AHeap)))

/-- A deferred function, on the way out of one that returns: the first thing that it does is 'recover', which yields nil. -/
def defdA (S : Self) (f : FuncId) (args : List AVal) (h : AHeap) : D AHeap :=
  match fns f with
  | some fn => (match fn.recovers, fn.results, setParams .leaf (List.range args.length) args with
    | some dst, [], some t => (S.code none fn.body (putA { tmps := t, defers := [] } dst .nilIface) h).bind fun p =>
      (match p.1, p.2.1.defers with
      | .exit _, _ => .fail
      | _, [] => .ret p.2.2
      | _, _ => .fail)
    | _, _, _ => .fail)
  | none => .fail

def leaveA (S : Self) : List ADef → AHeap → D AHeap
  | [], h => .ret h
  | .collected r :: ds, h => (match h.objs.get r with
    | some (_, .dfr false) => leaveA S ds (putObjA h r (.dfr true))
    | _ => .fail)
  | .fn f args :: ds, h => (defdA fns S f args h).bind fun h => leaveA S ds h

def resultA (a : AAct) (h : AHeap) : ARes → Option AVal
  | .tmp t => a.tmps.get t
  | .cell x size => (match a.tmps.get x with
    | some (.ptr (some (b, o))) => (match h.objs.get b with
      | some (_, .cells _ _ vs) => partA size vs o
      | _ => none)
    | _ => none)

def resultsA (a : AAct) (h : AHeap) (rs : List ARes) : Option AVal :=
  match mapO (resultA a h) rs with
  | some [v] => some v
  | some vs => some (.tuple vs)
  | none => none

def callA (S : Self) (f : FuncId) (args : List AVal) (h : AHeap) : D (AVal × AHeap) :=
  match summ f args h with
  | some d => d
  | none => (match fns f with
    | some fn => (match fn.recovers, setParams .leaf (List.range args.length) args with
      | none, some t => (S.code none fn.body { tmps := t, defers := [] } h).bind fun p =>
        (match p.1 with
        | .exit _ => .fail
        | _ => (leaveA fns S p.2.1.defers p.2.2).bind fun h => (match resultsA p.2.1 h fn.results with
          | some v => .ret (v, h)
          | none => .fail))
      | _, _ => .fail)
    | none => .fail)

/-- The machine. -/
def run : Nat → Self
  | 0 => { call := fun _ _ _ => .fail, code := fun _ _ _ _ => .fail }
  | n + 1 => { call := callA fns summ (run n), code := codeA (run n) }
end
end Go.Ab
end
section
/-
  Laws of the small language's own data: trees, answers.
-/
namespace Go.Ab
namespace T
variable {α : Type}
theorem get_leaf (j : Nat) : (leaf : T α).get j = none := by cases j <;> rfl

theorem get_node_succ (l r : T α) (v : Option α) (k : Nat) : (node l v r).get (k + 1) = if k % 2 = 0 then l.get (k / 2) else r.get (k / 2) := by
  simp only [get]
  split
  · rename_i h; simp [h]
  · rename_i h; rw [if_neg h]

theorem get_setF (f : Nat) : ∀ (t : T α) (k : Nat) (x : Option α) (j : Nat), k < f → (setF f t k x).get j = if j = k then x else t.get j := by
  induction f with
  | zero => intro t k x j h; omega
  | succ f ih =>
    intro t k x j h
    cases k with
    | zero =>
      cases t with
      | leaf =>
        cases j with
        | zero => simp [setF, get]
        | succ j => simp only [setF, get_node_succ, get_leaf]; split <;> simp
      | node l v r =>
        cases j with
        | zero => simp [setF, get]
        | succ j => simp only [setF, get_node_succ]; simp
    | succ k =>
      have hk : k / 2 < f := by omega
      rcases Nat.mod_two_eq_zero_or_one k with hm | hm
      · cases t with
        | leaf =>
          simp only [setF, hm]
          cases j with
          | zero => simp [get]
          | succ j =>
            simp only [get_node_succ, get_leaf, ih _ _ _ _ hk]
            by_cases hj : j % 2 = 0
            · have e : (j / 2 = k / 2) ↔ (j + 1 = k + 1) := by omega
              simp only [hj, if_true, e]
            · have e : ¬ (j + 1 = k + 1) := by intro e; apply hj; have : j = k := by omega
                                               rw [this]; exact hm
              simp only [hj, if_false, e]
        | node l v r =>
          simp only [setF, hm]
          cases j with
          | zero => simp [get]
          | succ j =>
            simp only [get_node_succ, ih _ _ _ _ hk]
            by_cases hj : j % 2 = 0
            · have e : (j / 2 = k / 2) ↔ (j + 1 = k + 1) := by omega
              simp only [hj, if_true, e]
            · have e : ¬ (j + 1 = k + 1) := by intro e; apply hj; have : j = k := by omega
                                               rw [this]; exact hm
              simp only [hj, if_false, e]
      · cases t with
        | leaf =>
          simp only [setF, hm]
          cases j with
          | zero => simp [get]
          | succ j =>
            simp only [get_node_succ, get_leaf, ih _ _ _ _ hk]
            by_cases hj : j % 2 = 0
            · have e : ¬ (j + 1 = k + 1) := by intro e; have : j = k := by omega
                                               rw [this] at hj; omega
              simp only [hj, if_true, e, if_false]
            · have e : (j / 2 = k / 2) ↔ (j + 1 = k + 1) := by omega
              simp only [hj, if_false, e]
        | node l v r =>
          simp only [setF, hm]
          cases j with
          | zero => simp [get]
          | succ j =>
            simp only [get_node_succ, ih _ _ _ _ hk]
            by_cases hj : j % 2 = 0
            · have e : ¬ (j + 1 = k + 1) := by intro e; have : j = k := by omega
                                               rw [this] at hj; omega
              simp only [hj, if_true, e, if_false]
            · have e : (j / 2 = k / 2) ↔ (j + 1 = k + 1) := by omega
              simp only [hj, if_false, e]

theorem get_set (t : T α) (k : Nat) (x : Option α) (j : Nat) : (t.set k x).get j = if j = k then x else t.get j :=
  get_setF _ _ _ _ _ (by omega)
theorem get_set_same (t : T α) (k : Nat) (x : Option α) : (t.set k x).get k = x := by rw [get_set, if_pos rfl]
theorem get_set_ne (t : T α) {k j : Nat} (x : Option α) (h : j ≠ k) : (t.set k x).get j = t.get j := by rw [get_set, if_neg h]
end T

namespace D
variable {α β γ : Type}
theorem sat_bind (d : D α) (f : α → D β) (Q : β → Prop) : (d.bind f).sat Q ↔ d.sat fun a => (f a).sat Q := by
  induction d with
  | ret a => rfl
  | fail => rfl
  | ask n k ih =>
    simp only [bind, sat]
    exact ⟨fun h => ⟨h.1, fun i hi => (ih i).1 (h.2 i hi)⟩, fun h => ⟨h.1, fun i hi => (ih i).2 (h.2 i hi)⟩⟩
theorem sat_mono {d : D α} {Q Q' : α → Prop} (h : d.sat Q) (hq : ∀ a, Q a → Q' a) : d.sat Q' := by
  induction d with
  | ret a => exact hq _ h
  | fail => exact h
  | ask n k ih => exact ⟨h.1, fun i hi => ih i (h.2 i hi)⟩
theorem sat_ex {d : D α} {Q : α → Prop} (h : d.sat Q) : ∃ a, Q a := by
  induction d with
  | ret a => exact ⟨a, h⟩
  | fail => exact h.elim
  | ask n k ih => exact ih 0 (h.2 0 h.1)
theorem bind_assoc (d : D α) (f : α → D β) (g : β → D γ) : (d.bind f).bind g = d.bind fun a => (f a).bind g := by
  induction d with
  | ret a => rfl
  | fail => rfl
  | ask n k ih => simp only [bind]; congr 1; funext i; exact ih i
@[simp] theorem sat_ret (a : α) (Q : α → Prop) : (D.ret a).sat Q ↔ Q a := Iff.rfl
@[simp] theorem sat_fail (Q : α → Prop) : (D.fail : D α).sat Q ↔ False := Iff.rfl
@[simp] theorem bind_ret (a : α) (f : α → D β) : (D.ret a).bind f = f a := rfl
@[simp] theorem bind_fail (f : α → D β) : (D.fail : D α).bind f = .fail := rfl
end D

theorem mapO_nil {α β : Type} (f : α → Option β) : mapO f [] = some [] := rfl
theorem mapO_cons {α β : Type} {f : α → Option β} {x : α} {xs : List α} {ys : List β} (h : mapO f (x :: xs) = some ys) :
    ∃ y zs, f x = some y ∧ mapO f xs = some zs ∧ ys = y :: zs := by
  simp only [mapO] at h
  split at h
  · rename_i y hy
    split at h
    · rename_i zs hz
      simp only [Option.some.injEq] at h
      exact ⟨y, zs, hy, hz, h.symm⟩
    · cases h
  · cases h
theorem mapO_length {α β : Type} {f : α → Option β} : ∀ {xs : List α} {ys : List β}, mapO f xs = some ys → ys.length = xs.length
  | [], ys, h => by simp only [mapO, Option.some.injEq] at h; subst h; rfl
  | x :: xs, ys, h => by
    obtain ⟨y, zs, _, h2, rfl⟩ := mapO_cons h
    simp [mapO_length h2]
end Go.Ab
end
