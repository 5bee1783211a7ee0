import Derived.Test.YtapnoohglfhgeaaGreatDoorP00
import Derived.Below
import Derived.RangeFuncLeaves
import Derived.RecoverIn
import Derived.OrdersIn
import Derived.WalkKit
import Derived.Lib.Strings
/-
  Part 1 of the proof.
-/
set_option linter.all false
section
/-
  From the program's functions to the small language. Definitions alone.
-/
namespace Go.Ab
section
variable (P : Program)

def ofVF : Nat → Value → Option AVal
  | 0, _ => none
  | f + 1, v => match v with
    | .bool b => some (.bool b)
    | .int k n => some (.int k n)
    | .string s => some (.str (s.data.toList.map UInt8.toNat))
    | .pointer none => some (.ptr none)
    | .slice none 0 0 => some (.slice none 0)
    | .map none => some (.map none)
    | .nilFunc => some .nilFunc
    | .nilIface => some .nilIface
    | .agg cs => (match mapO (ofVF f) cs.toList with | some l => some (.agg l) | none => none)
    | .tuple cs => (match mapO (ofVF f) cs.toList with | some l => some (.tuple l) | none => none)
    | _ => none
def ofV (v : Value) : Option AVal := ofVF 3 v

def cOpd : Operand → Option AOpd
  | .tmp t => some (.tmp t)
  | .const v => (match ofV v with | some x => some (.val x) | none => none)
  | .global g => if g < P.globals.size then some (.glob g) else none
  | .func f => some (.val (.func f [] []))
def cOpds (xs : Array Operand) : Option (List AOpd) := mapO (cOpd P) xs.toList
def cOpt : Option Operand → Option (Option AOpd)
  | none => some none
  | some x => (match cOpd P x with | some y => some (some y) | none => none)

def cSize (t : TypeId) : Option Nat := match P.info? t with | some i => some i.size | none => none
/-- How a variable of the type is read: so many cells as one value, or its one cell. -/
def cHow (t : TypeId) : Option (Option Nat) := match P.underlying t, P.info? t with
  | some (.struct _), some i => some (some i.size)
  | some (.array _ _), some i => some (some i.size)
  | some _, some _ => some none
  | _, _ => none
def cZero (t : TypeId) : Option AVal := match P.info? t with
  | some i => (match i.zero with | some z => ofV z | none => none)
  | none => none

def cField (t : TypeId) (i : Nat) : Option Field := match P.underlying t with
  | some (.struct fields) => fields.toList[i]?
  | _ => none

/-- Where a part lies, and its size. -/
def cPlace (t : TypeId) (i : Nat) : Option (Nat × Nat) := match P.underlying t with
  | some (.struct fields) => (match fields.toList[i]? with
    | some f => (match cSize P f.type with | some n => some (f.offset, n) | none => none)
    | none => none)
  | some (.array _ e) => (match cSize P e with | some n => some (i * n, n) | none => none)
  | _ => none
def cParts (t : TypeId) (ps : Array (Nat × Operand)) : Option (List (Nat × Nat × AOpd)) :=
  mapO (fun p => match cPlace P t p.1, cOpd P p.2 with
    | some f, some x => some (f.1, f.2, x)
    | _, _ => none) ps.toList
def cRow (ps : Array (Nat × Operand)) : Option (List (Nat × AOpd)) :=
  mapO (fun p => match cOpd P p.2 with | some x => some (p.1, x) | none => none) ps.toList

def isC : Operand → Bool
  | .const _ => true
  | _ => false

def intsOk (t : TypeId) (fs : Array Field) : Bool :=
  !P.stoodInHeld t && (!P.eqGuardType P.depth t &&
  (fs.toList.all (fun f => f.name != "_" && (match P.underlying f.type with | some (.int _) => true | _ => false)) &&
  (fs.toList.zipIdx.all (fun p => Nat.beq p.1.offset p.2) &&
  (match P.info? t with | some i => Nat.beq i.size fs.size | none => false))))
/-- The literal 0. -/
def isZ : Operand → Bool
  | .const (.int _ n) => n == 0
  | _ => false
def zLow : Option Operand → Bool
  | none => true
  | some l => isZ l
/-- A struct of plain integers: how many. -/
def cInts (t : TypeId) : Option Nat :=
  match P.underlying t with
  | some (.struct fs) => (match intsOk P t fs with | true => some fs.size | false => none)
  | _ => none

def cKey (t : TypeId) : Option KeyK := match P.underlying t with
  | some .string => some .str
  | some (.int _) => some .int
  | some (.pointer e) => (match P.info? e with | some i => (match i.size with | 0 => none | _ => some .ptr) | none => none)
  | _ => (match cInts P t with | some n => some (.agg n) | none => none)

def cEq (t : TypeId) (lit : Bool) : Option EqK := match P.underlying t with
  | some .bool => some .bool
  | some (.pointer e) => (match P.info? e with | some _ => some .ptr | none => none)
  | some (.interface _) => some (.iface lit)
  | some (.slice _) => some .slice
  | some (.map _ _) => some .map
  | some (.func _ _ _) => some .func
  | _ => (match cInts P t with | some n => some (.agg n) | none => none)

def cMap (t : TypeId) : Option (KeyK × AVal) := match P.underlying t with
  | some (.map k e) => (match cKey P k, cZero P e with | some k, some z => some (k, z) | _, _ => none)
  | _ => none
def cElem (t : TypeId) : Option TypeId := match P.underlying t with
  | some (.slice e) => some e
  | _ => none

def cBin (op : BinOp) (t : TypeId) (x y : Operand) : Option QOp :=
  match cOpd P x, cOpd P y, P.underlying t with
  | some u, some v, some (.int _) => some (.num op u v)
  | some u, some v, some .string => some (.num op u v)
  | some u, some v, _ => (match op with
    | .eql => (match cEq P t (isC x || isC y) with | some k => some (.eql false k u v) | none => none)
    | .neq => (match cEq P t (isC x || isC y) with | some k => some (.eql true k u v) | none => none)
    | _ => none)
  | _, _, _ => none

def cLen (x : Operand) (t : TypeId) : Option QOp :=
  match cOpd P x, P.underlying t with
  | some x, some .string => some (.lenS x)
  | some x, some (.slice _) => some (.lenV x)
  | some x, some (.map _ _) => some (.lenM x)
  | _, _ => none

def cQ (o : Op) : Option QOp :=
  match o with
  | .move x => (match cOpd P x with | some x => some (.mov x) | none => none)
  | .assign x => (match cOpd P x with | some x => some (.mov x) | none => none)
  | .pick c x y => (match cOpd P c, cOpd P x, cOpd P y with | some c, some x, some y => some (.pick c x y) | _, _, _ => none)
  | .build t ps => (match P.underlying t, cZero P t, cParts P t ps with
    | some (.struct fs), some (.agg z), some ps => (match fs.toList.all fun f => (P.info? f.type).isSome with
      | true => some (.build z ps)
      | false => none)
    | some (.array _ e), some (.agg z), some ps => (match P.info? e with | some _ => some (.build z ps) | none => none)
    | _, _, _ => none)
  | .nilCheck x => (match cOpd P x with | some x => some (.nilCheck x) | none => none)
  | .binOp op t x y _ => cBin P op t x y
  | .unOp op _ x => (match op, cOpd P x with
    | .not, some x => some (.not x)
    | .neg, some x => some (.neg x)
    | _, _ => none)
  | .convert src dst x => (match P.underlying src, P.underlying dst, cOpd P x with
    | some _, some (.int k), some x => some (.conv k x)
    | some .string, some .string, some x => some (.same x)
    | _, _, _ => none)
  | .makeInterface t x => (match P.underlying t, cOpd P x with
    | some (.interface _), _ => none
    | some _, some x => some (.iface t x)
    | _, _ => none)
  | .makeFunc (.func f) first captured => (match cOpds P first, cOpds P captured with
    | some l, some m => some (.func f l m)
    | _, _ => none)
  | .field t x i => (match cField P t i, cOpd P x with
    | some f, some x => (match cHow P f.type with | some s => some (.field f.offset s x) | none => none)
    | _, _ => none)
  | .fieldAddr t x i => (match cField P t i, cOpd P x with
    | some f, some x => (match cSize P f.type with
      | some (_ + 1) => some (.fieldA f.offset x)
      | _ => none)
    | _, _ => none)
  | .indexAddr t x i => (match P.underlying t, cOpd P x, cOpd P i with
    | some (.slice e), some x, some i => (match cSize P e with | some s => some (.indexA s x i) | none => none)
    | some (.array n e), some x, some i => (match cSize P e with | some s => some (.indexR n s x i) | none => none)
    | _, _, _ => none)
  | .index t x i => (match P.underlying t, cOpd P x, cOpd P i with
    | some .string, some x, some i => some (.indexS x i)
    | some (.array n e), some x, some i => (match cHow P e, cSize P e with
      | some h, some s => some (.indexV n s h.isSome x i)
      | _, _ => none)
    | _, _, _ => none)
  | .slice t x lo hi none => (match P.underlying t, cOpd P x, cOpt P lo, cOpt P hi with
    | some .string, some x, some lo, some hi => some (.sliceS x lo hi)
    | some (.slice e), some x, some lo, some hi => (match cSize P e with | some s => some (.slice e s x lo hi) | none => none)
    | _, _, _, _ => none)
  | .slice t x lo (some hi) (some mx) => (match isZ hi && isZ mx && zLow lo, P.underlying t, cOpd P x with
    | true, some (.slice e), some x => (match cSize P e with | some _ => some (.slice00 x) | none => none)
    | _, _, _ => none)
  | .extract x i => (match cOpd P x with | some x => some (.extract x i) | none => none)
  | .load t x => (match cHow P t, cOpd P x with | some s, some x => some (.load s x) | _, _ => none)
  | .lookup t m k ok => (match cMap P t, cOpd P m, cOpd P k with
    | some (.ptr, _), _, _ => none
    | some (kk, z), some m, some k => some (.lookup kk z ok m k)
    | _, _, _ => none)
  | .call c => (match c.callee, c.args.toList, c.argTypes.toList with
    | .builtin .len, [x], [t] => cLen P x t
    | .builtin .max, [x, y], _ => (match cOpd P x, cOpd P y with | some x, some y => some (.max x y) | _, _ => none)
    | .builtin .min, [x, y], _ => (match cOpd P x, cOpd P y with | some x, some y => some (.min x y) | _, _ => none)
    | _, _, _ => none)
  | _ => none

/-- It may be what is appended. -/
def okApp : Option TypeDesc → Bool
  | some (.slice _) => true
  | some .string => true
  | _ => false

def cE (o : Op) : Option EOp :=
  match o with
  | .alloc e => (match cZero P e with | some z => some (.alloc e (cellsA z)) | none => none)
  | .box e x => (match cOpd P x with | some x => some (.box e x) | none => none)
  | .buildSlice t n ps => (match cElem P t with
    | none => none
    | some e => (match cSize P e with
      | none => none
      | some s => (match n * s, ps.toList with
        | 0, [] => if n = 0 then some .bslice0 else none
        | 0, _ => none
        | _, _ => (match cZero P e, cRow P ps with
          | some z, some ps => if n * s ≤ 2 ^ 20 ∧ (cellsA z).length = s then some (.bslice e s n (cellsA z) ps) else none
          | _, _ => none))))
  | .makeMap t r => (match P.underlying t, cOpt P r with | some (.map _ _), some r => some (.mkmap r) | _, _ => none)
  | .makeSlice t l c => (match cElem P t, cOpd P l, cOpd P c with
    | some e, some l, some c => (match P.info? e, cZero P e with
      | some i, some z => if (cellsA z).length = i.size then some (.mkslice e i.size i.bytes (cellsA z) l c) else none
      | _, _ => none)
    | _, _, _ => none)
  | .store t x v => (match cSize P t, cOpd P x, cOpd P v with | some n, some x, some v => some (.store n x v) | _, _, _ => none)
  | .mapUpdate t m k v => (match cMap P t, cOpd P m, cOpd P k, cOpd P v with | some (kk, _), some m, some k, some v => some (.update kk m k v) | _, _, _, _ => none)
  | .insert t m k v => (match cMap P t, cOpd P m, cOpd P k, cOpd P v with | some (kk, _), some m, some k, some v => some (.update kk m k v) | _, _, _, _ => none)
  | .lookup t m k ok => (match cMap P t, cOpd P m, cOpd P k with
    | some (.ptr, z), some m, some k => some (.lookup .ptr z ok m k)
    | _, _, _ => none)
  | .range t x => (match P.underlying t, cOpd P x with | some (.map _ _), some x => some (.range x) | _, _ => none)
  | .next x false => (match cOpd P x with | some x => some (.next x) | none => none)
  | .entry x => (match cOpd P x with | some x => some (.entry x) | none => none)
  | .defer c => (match c.callee with
    | .value f => (match cOpd P f, cOpds P c.args with | some f, some xs => some (.defer f xs) | _, _ => none)
    | _ => none)
  | .call c => (match c.callee with
    | .builtin .append => (match c.args.toList, c.argTypes.toList with
      | [s, x], [st, xt] => (match cElem P st, okApp (P.underlying xt), cOpd P s, cOpd P x with
        | some e, true, some s, some x => (match P.info? e with
          | some i => (match i.size, i.zero with
            | 0, _ => none
            | _, some z => if z.cells.size = i.size then some (.append e i.size i.bytes s x) else none
            | _, none => none)
          | none => none)
        | _, _, _, _ => none)
      | _, _ => none)
    | .value f => (match cOpd P f, cOpds P c.args with | some f, some xs => some (.call f xs) | _, _ => none)
    | _ => none)
  | _ => none

/-- What the language does not hold becomes a step that comes to nothing. -/
def cOp (o : Op) : AOp :=
  match cQ P o with
  | some q => .q q
  | none => (match cE P o with | some e => .e e | none => .q .trap)

/-- The slot of the operation that decides whether it is wanted. -/
def cGuard (ops : List Oper) : Option (Nat × Bool) → Option (Option (Tmp × Bool))
  | none => some none
  | some (j, b) => (match ops[j]? with
    | some o => (match o.dst with | some t => some (some (t, b)) | none => none)
    | none => none)

def cDst (N : Nat) : Option Tmp → Option (Option Tmp)
  | none => some none
  | some t => if t < N then some (some t) else none

def cStep (N : Nat) (ops : List Oper) (o : Oper) : Option Step :=
  match cDst N o.dst, cGuard ops o.guard with
  | some d, some g => some { dst := d, guard := g, op := cOp P o.op }
  | _, _ => none

/-! ### Regions whose order is drawn -/
def isE (s : Step) : Bool := match s.op with | .e _ => true | _ => false
def isAl (s : Step) : Bool := match s.op, s.guard with
  | .e (.alloc _ _), none | .e (.box _ _), none | .e (.bslice _ _ _ _ _), none | .e .bslice0, none | .e (.mkmap none), none => true
  | _, _ => false

def predM (o : Oper) : Nat := o.after.toList.foldl (fun s e => match Region.binds .any e with | true => s ||| 2 ^ e.on | false => s) 0
def subM (a b : Nat) : Bool := Nat.beq (a &&& b) a

def dsteps (N : Nat) (ops : List Oper) : List Oper → Nat → Option (List DStep)
  | [], _ => some []
  | o :: r, i => (match cStep P N ops o, dsteps N ops r (i + 1) with
    | some s, some l => some ({ i, pred := predM o, st := s } :: l)
    | _, _ => none)

/-- Those that make memory, and wait for none that does: they may come up early. -/
def floats (l : List DStep) : Nat :=
  l.foldl (fun m s => match isAl s.st && Nat.beq (s.pred &&& m) 0 with | true => m ||| 2 ^ s.i | false => m) 0

def lookL (ops : List Oper) (o : Oper) : List Tmp :=
  (o.op.operands.toList.filterMap fun | .tmp t => some t | _ => none) ++
  (match o.guard with
   | some (g, _) => (match ops[g]? with | some og => og.dst.toList | none => [])
   | none => [])
def apartL (ops : List Oper) (x y : Oper) : Bool :=
  (match x.dst with | some d => !(lookL ops y).contains d && y.dst != some d | none => true) &&
  (match y.dst with | some d => !(lookL ops x).contains d | none => true)
/-- Two of which the later is not told to wait for the earlier touch no temporary of one another's; who waits, waits for earlier ones; a floating one for none that floats. -/
def fitOps (ops : List Oper) (fl : Nat) : Bool :=
  (ops.zipIdx.all fun (o, i) => Nat.blt (predM o) (2 ^ i) && (!fl.testBit i || Nat.beq (predM o &&& fl) 0)) &&
  (ops.zipIdx.all fun (o, i) => ops.zipIdx.all fun (p, j) => (j ≥ i || (predM o).testBit j || apartL ops p o))

/-- The next quiet one that is at hand. -/
def nextQ (L : Nat) : List DStep → Option DStep
  | [] => none
  | s :: r => match !isE s.st && !L.testBit s.i && subM s.pred L with
    | true => some s
    | false => nextQ L r
def bitsOf (l : List DStep) : Nat := l.foldl (fun m s => m ||| 2 ^ s.i) 0
/-- The floating ones that may have come up. -/
def upF (fl L : Nat) (l : List DStep) : Nat := bitsOf (l.filter fun s => fl.testBit s.i && subM s.pred L)
/-- Those that may come up next, the floating ones aside. -/
def front (fl L : Nat) (l : List DStep) : List DStep :=
  let up := upF fl L l
  l.filter fun s => !fl.testBit s.i && !L.testBit s.i && subM s.pred (L ||| up)
/-- The floating ones of m that have not come up. -/
def due (fl L m : Nat) (l : List DStep) : List DStep :=
  l.filter fun s => fl.testBit s.i && m.testBit s.i && !L.testBit s.i

def planF (l : List DStep) (fl : Nat) : Nat → Nat → Option (List DStep)
  | 0, _ => none
  | f + 1, L =>
    match nextQ L l with
    | some s => (match planF l fl f (L ||| 2 ^ s.i) with | some r => some (s :: r) | none => none)
    | none => (match front fl L l with
      | [] => let d := due fl L fl l
        if Nat.beq (L ||| fl) (bitsOf l) && d.all (fun s => subM s.pred L) then some d else none
      | s :: r => (match due fl L s.pred l with
        | [] => if r.isEmpty && isE s.st then (match planF l fl f (L ||| 2 ^ s.i) with | some p => some (s :: p) | none => none) else none
        | d => if d.all (fun k => subM k.pred L && r.all fun q => q.pred.testBit k.i) then
            (match planF l fl f (L ||| bitsOf d) with | some p => some (d ++ p) | none => none)
          else none))

/-- The plan, looked at step by step. -/
def chkP (l : List DStep) (fl : Nat) : Nat → List Nat → Bool
  | L, [] => l.all fun t => L.testBit t.i
  | L, i :: r => (match l[i]? with
    | some s => !L.testBit i && (subM s.pred L && ((match fl.testBit i, isE s.st with
        | true, _ => l.all fun t => fl.testBit t.i || (L.testBit t.i || (!subM t.pred (L ||| upF fl L l) || t.pred.testBit i))
        | false, true => l.all fun t => fl.testBit t.i || (L.testBit t.i || (Nat.beq t.i i || !subM t.pred (L ||| upF fl L l)))
        | false, false => true) && chkP l fl (L ||| 2 ^ i) r))
    | none => false)
/-- No two write the same. -/
def distinctD (ops : List Oper) : Bool := ops.zipIdx.all fun p => ops.zipIdx.all fun q => p.2 == q.2 || (match p.1.dst, q.1.dst with | some d, some e => d != e | _, _ => true)
def noSel (ops : List Oper) : Bool := ops.all fun o => match o.op with | .select _ _ => false | _ => true

def cDraw (N : Nat) (ops : List Oper) : Option (List DStep) :=
  match dsteps P N ops ops 0 with
  | some l => let fl := floats l
    (match fitOps ops fl && (distinctD ops && noSel ops) with
    | true => (match planF l fl (l.length + 1) 0 with
      | some p => (match chkP l fl 0 (p.map (·.i)) with
        | true => mapO (fun i => l[i]?) (p.map (·.i))
        | false => none)
      | none => none)
    | false => none)
  | none => none

/-! ### Code, functions -/
def cCode (N : Nat) : Code → Option ACode
  | .skip => some .skip
  | .label _ => some .skip
  | .region _ ops false => (match mapO (cStep P N ops.toList) ops.toList with | some l => some (.ops l) | none => none)
  | .region _ ops true => (match cDraw P N ops.toList with | some l => some (.draw l) | none => some (.ops [{ dst := none, guard := none, op := .q .trap }]))
  | .seq x y => (match cCode N x, cCode N y with | some x, some y => some (.seq x y) | _, _ => none)
  | .cond c x y => (match cOpd P c, cCode N x, cCode N y with | some c, some x, some y => some (.cond c x y) | _, _, _ => none)
  | .block id c => (match cCode N c with | some c => some (.block id c) | none => none)
  | .loop c => (match cCode N c with | some c => some (.loop c) | none => none)
  | .exit id => some (.exit id)
  | .ret => some .ret
  | .rangeFunc f ps assign body => (match cOpd P f, cCode N assign, cCode N body with
    | some f, some x, some y => if ps.toList.all (fun p => Nat.blt p N) then some (.rangeF f ps.toList x y) else none
    | _, _, _ => none)
  | .refuse _ => some (.ops [{ dst := none, guard := none, op := .q .trap }])
  | .scope _ | .goto _ => none

def cRes : ResultVar → Option ARes
  | .tmp t => some (.tmp t)
  | .cell x t => (match cHow P t with | some s => some (.cell x s) | none => none)

/-- The body of a function that begins with 'recover'. -/
def cRec (c : Code) : Option (Option Tmp × Code) :=
  match c with
  | .seq (.region _ ops false) c => (match ops.toList with
    | [o] => (match o.op, o.guard with
      | .call { callee := .builtin .recover, args, .. }, none => (match args.toList with | [] => some (o.dst, c) | _ => none)
      | _, _ => none)
    | _ => none)
  | _ => none

def cFn (fn : Func) : Option AFunc :=
  match fn.body with
  | none => none
  | some c => if fn.name == "runtime.NumGoroutine" then none else (match mapO (cRes P) fn.results.toList with
    | none => none
    | some rs => (match cRec c with
      | some (d, c) => (match cDst fn.ntmps d, cCode P fn.ntmps c with
        | some d, some c => some { n := fn.ntmps, body := c, results := rs, recovers := some d }
        | _, _ => none)
      | none => (match cCode P fn.ntmps c with
        | some c => some { n := fn.ntmps, body := c, results := rs }
        | none => none)))
end
end Go.Ab
end
section
/-
  What it means that abstract memory stands for the machine's.
-/
namespace Go.Ab
open Go.RowKit (Below)

/-- Where an abstract block lies. -/
structure GI where
  blk : Nat
  size : Nat
  elem : TypeId
  off : Nat

abbrev GM := Nat → Option GI
def GLe (G G' : GM) : Prop := ∀ i g, G i = some g → G' i = some g
theorem GLe.refl (G : GM) : GLe G G := fun _ _ h => h
theorem GLe.trans {G G' G'' : GM} (h : GLe G G') (k : GLe G' G'') : GLe G G'' := fun i g e => k i g (h i g e)

section
variable (P : Program)

mutual
def VR (G : GM) : AVal → Value → Prop
  | .bool b, v => v = .bool b
  | .int k n, v => v = .int k n
  | .str s, v => ∃ b : ByteArray, v = .string b ∧ b.data.toList.map UInt8.toNat = s
  | .ptr none, v => v = .pointer none
  | .ptr (some p), v => ∃ g, G p.1 = some g ∧ v = .pointer (some ⟨g.blk, g.off + p.2, none⟩)
  | .slice none n, v => n = 0 ∧ v = .slice none 0 0
  | .slice (some p) n, v => ∃ g c, G p.1 = some g ∧ v = .slice (some ⟨g.blk, g.off + p.2, none⟩) n c ∧ n ≤ c ∧ p.2 + c * P.cellsOf g.elem ≤ g.size
  | .slice0, v => ∃ a : Addr, v = .slice (some a) 0 0
  | .sliceE, v => ∃ (a : Addr) (c : Nat), v = .slice (some a) 0 c
  | .map none, v => v = .map none
  | .map (some r), v => ∃ g, G r = some g ∧ v = .map (some g.blk)
  | .func f l m, v => ∃ L M : Array Value, v = .func (.func f) L M ∧ VsR G l L.toList ∧ VsR G m M.toList
  | .yield l, v => ∃ g, G l = some g ∧ v = .func (.yield g.blk) #[] #[]
  | .nilFunc, v => v = .nilFunc
  | .iface t x, v => ∃ y, v = .iface t y ∧ VR G x y
  | .nilIface, v => v = .nilIface
  | .agg l, v => ∃ L : Array Value, v = .agg L ∧ VsR G l L.toList
  | .tuple l, v => ∃ L : Array Value, v = .tuple L ∧ VsR G l L.toList
def VsR (G : GM) : List AVal → List Value → Prop
  | [], vs => vs = []
  | x :: xs, vs => ∃ y ys, vs = y :: ys ∧ VR G x y ∧ VsR G xs ys
end
end

section
variable {P : Program} {G G' : GM}

mutual
theorem VR.mono (h : GLe G G') : ∀ {x : AVal} {v : Value}, VR P G x v → VR P G' x v
  | .bool _, _, e => e
  | .int _ _, _, e => e
  | .str _, _, e => e
  | .ptr none, _, e => e
  | .ptr (some _), _, ⟨g, e, k⟩ => ⟨g, h _ _ e, k⟩
  | .slice none _, _, e => e
  | .slice (some _) _, _, ⟨g, c, e, k⟩ => ⟨g, c, h _ _ e, k⟩
  | .slice0, _, e => e
  | .sliceE, _, e => e
  | .map none, _, e => e
  | .map (some _), _, ⟨g, e, k⟩ => ⟨g, h _ _ e, k⟩
  | .func _ _ _, _, ⟨L, M, e, a, b⟩ => ⟨L, M, e, VsR.mono h a, VsR.mono h b⟩
  | .yield _, _, ⟨g, e, k⟩ => ⟨g, h _ _ e, k⟩
  | .nilFunc, _, e => e
  | .iface _ _, _, ⟨y, e, a⟩ => ⟨y, e, VR.mono h a⟩
  | .nilIface, _, e => e
  | .agg _, _, ⟨L, e, a⟩ => ⟨L, e, VsR.mono h a⟩
  | .tuple _, _, ⟨L, e, a⟩ => ⟨L, e, VsR.mono h a⟩
theorem VsR.mono (h : GLe G G') : ∀ {xs : List AVal} {vs : List Value}, VsR P G xs vs → VsR P G' xs vs
  | [], _, e => e
  | _ :: _, _, ⟨y, ys, e, a, b⟩ => ⟨y, ys, e, VR.mono h a, VsR.mono h b⟩
end

theorem VsR.length : ∀ {xs : List AVal} {vs : List Value}, VsR P G xs vs → vs.length = xs.length
  | [], _, e => by subst e; rfl
  | _ :: _, _, ⟨y, ys, e, _, b⟩ => by subst e; simp [VsR.length b]

theorem VsR.get : ∀ {xs : List AVal} {vs : List Value}, VsR P G xs vs → ∀ {i : Nat} {x : AVal}, xs[i]? = some x → ∃ v, vs[i]? = some v ∧ VR P G x v
  | [], _, _, i, x, h => by simp at h
  | _ :: _, _, ⟨y, ys, e, a, b⟩, 0, x, h => by subst e; simp at h; subst h; exact ⟨y, by simp, a⟩
  | _ :: _, _, ⟨y, ys, e, a, b⟩, i + 1, x, h => by
    subst e; simp at h
    obtain ⟨v, h1, h2⟩ := VsR.get b h
    exact ⟨v, by simpa using h1, h2⟩

theorem VsR.append : ∀ {xs : List AVal} {vs : List Value}, VsR P G xs vs → ∀ {ys : List AVal} {us : List Value}, VsR P G ys us → VsR P G (xs ++ ys) (vs ++ us)
  | [], _, e, _, _, k => by subst e; exact k
  | _ :: _, _, ⟨y, ys, e, a, b⟩, _, _, k => by subst e; exact ⟨y, _, by simp, a, VsR.append b k⟩
theorem VsR.take : ∀ {xs : List AVal} {vs : List Value} (n : Nat), VsR P G xs vs → VsR P G (xs.take n) (vs.take n)
  | [], _, n, e => by subst e; simp [VsR]
  | x :: xs, _, 0, h => by simp [VsR]
  | x :: xs, _, n + 1, ⟨y, ys, e, a, b⟩ => by subst e; exact ⟨y, ys.take n, by simp, a, VsR.take n b⟩
theorem VsR.drop : ∀ {xs : List AVal} {vs : List Value} (n : Nat), VsR P G xs vs → VsR P G (xs.drop n) (vs.drop n)
  | [], _, n, e => by subst e; simp [VsR]
  | x :: xs, _, 0, h => by simpa using h
  | x :: xs, _, n + 1, ⟨y, ys, e, a, b⟩ => by subst e; simpa using VsR.drop n b
theorem VsR.one {x : AVal} {v : Value} (h : VR P G x v) : VsR P G [x] [v] := ⟨v, [], rfl, h, rfl⟩
theorem VsR.nil : VsR P G [] [] := rfl
theorem VsR.map_mk {α : Type} (f : α → AVal) (g : α → Value) (h : ∀ a, VR P G (f a) (g a)) : ∀ (l : List α), VsR P G (l.map f) (l.map g)
  | [] => rfl
  | a :: l => ⟨g a, l.map g, rfl, h a, VsR.map_mk f g h l⟩
theorem VsR.rep : ∀ {xs : List AVal} {vs : List Value} (n : Nat), VsR P G xs vs → VsR P G (rep xs n) (rep vs n)
  | _, _, 0, _ => rfl
  | _, _, n + 1, h => VsR.append h (VsR.rep n h)

/-- The cells of a value. -/
theorem VR.cells {x : AVal} {v : Value} (h : VR P G x v) : VsR P G (cellsA x) v.cells.toList := by
  cases x with
  | agg l => obtain ⟨L, rfl, a⟩ := h; exact a
  | tuple l => obtain ⟨L, rfl, a⟩ := h; exact VsR.one ⟨L, rfl, a⟩
  | bool b => cases h; exact VsR.one rfl
  | int k n => cases h; exact VsR.one rfl
  | str s => obtain ⟨b, rfl, e⟩ := h; exact VsR.one ⟨b, rfl, e⟩
  | ptr a =>
    cases a with
    | none => cases h; exact VsR.one rfl
    | some p => obtain ⟨g, e, rfl⟩ := h; exact VsR.one ⟨g, e, rfl⟩
  | slice a n =>
    cases a with
    | none => obtain ⟨e, rfl⟩ := h; exact VsR.one ⟨e, rfl⟩
    | some p => obtain ⟨g, c, e, rfl, k⟩ := h; exact VsR.one ⟨g, c, e, rfl, k⟩
  | slice0 => obtain ⟨a, rfl⟩ := h; exact VsR.one ⟨a, rfl⟩
  | sliceE => obtain ⟨a, c, rfl⟩ := h; exact VsR.one ⟨a, c, rfl⟩
  | map r =>
    cases r with
    | none => cases h; exact VsR.one rfl
    | some r => obtain ⟨g, e, rfl⟩ := h; exact VsR.one ⟨g, e, rfl⟩
  | func f l m => obtain ⟨L, M, rfl, a, b⟩ := h; exact VsR.one ⟨L, M, rfl, a, b⟩
  | yield l => obtain ⟨g, e, rfl⟩ := h; exact VsR.one ⟨g, e, rfl⟩
  | nilFunc => cases h; exact VsR.one rfl
  | iface t x => obtain ⟨y, rfl, a⟩ := h; exact VsR.one ⟨y, rfl, a⟩
  | nilIface => cases h; exact VsR.one rfl

/-- What is one cell. -/
theorem VR.oneCell {x : AVal} {v : Value} (h : VR P G x v) (ho : one x = true) : v.oneCell' = true := by
  cases x with
  | agg l => cases ho
  | tuple l => cases ho
  | bool b => cases h; rfl
  | int k n => cases h; rfl
  | str s => obtain ⟨b, rfl, e⟩ := h; rfl
  | ptr a =>
    cases a with
    | none => cases h; rfl
    | some p => obtain ⟨g, e, rfl⟩ := h; rfl
  | slice a n =>
    cases a with
    | none => obtain ⟨e, rfl⟩ := h; rfl
    | some p => obtain ⟨g, c, e, rfl, k⟩ := h; rfl
  | slice0 => obtain ⟨a, rfl⟩ := h; rfl
  | sliceE => obtain ⟨a, c, rfl⟩ := h; rfl
  | map r =>
    cases r with
    | none => cases h; rfl
    | some r => obtain ⟨g, e, rfl⟩ := h; rfl
  | func f l m => obtain ⟨L, M, rfl, a, b⟩ := h; rfl
  | yield l => obtain ⟨g, e, rfl⟩ := h; rfl
  | nilFunc => cases h; rfl
  | iface t x => obtain ⟨y, rfl, a⟩ := h; rfl
  | nilIface => cases h; rfl

/-! ### Constants -/
theorem ofVF_sound : ∀ (f : Nat) {v : Value} {x : AVal}, ofVF f v = some x → VR P G x v
  | 0, _, _, h => by cases h
  | f + 1, v, x, h => by
    have go : ∀ {vs : List Value} {xs : List AVal}, mapO (ofVF f) vs = some xs → VsR P G xs vs := by
      intro vs
      induction vs with
      | nil => intro xs h; simp only [mapO, Option.some.injEq] at h; subst h; rfl
      | cons v vs ih =>
        intro xs h
        obtain ⟨y, zs, h1, h2, rfl⟩ := mapO_cons h
        exact ⟨v, vs, rfl, ofVF_sound f h1, ih h2⟩
    unfold ofVF at h
    split at h
    case h_9 cs =>
      split at h
      · rename_i l hl; simp only [Option.some.injEq] at h; subst h; exact ⟨cs, rfl, go hl⟩
      · cases h
    case h_10 cs =>
      split at h
      · rename_i l hl; simp only [Option.some.injEq] at h; subst h; exact ⟨cs, rfl, go hl⟩
      · cases h
    case h_3 s => simp only [Option.some.injEq] at h; subst h; exact ⟨s, rfl, rfl⟩
    case h_5 => simp only [Option.some.injEq] at h; subst h; exact ⟨rfl, rfl⟩
    all_goals first
      | cases h; done
      | (simp only [Option.some.injEq] at h; subst h; rfl)

theorem ofV_sound {v : Value} {x : AVal} (h : ofV v = some x) : VR P G x v := ofVF_sound 3 h
end
end Go.Ab
end
section
/-
  Abstract memory against the machine's: what is kept by each way of turning it.
-/
namespace Go.Ab
open Go.RowKit (Below)

section
variable (P : Program) (N : Nat) (w0 : World)

def pendC : Option AExit → Option Code → Prop
  | none, c => c = none
  | some .ret, c => c = some .ret
  | some (.exit id), c => c = some (.exit id)
  | some .normal, _ => False

/-- A row of temporaries. -/
def TR (G : GM) (t : T AVal) (tmps : Array Value) : Prop := ∀ i x, t.get i = some x → ∃ v, tmps[i]? = some v ∧ VR P G x v

/-- Entries of a map. -/
def ER (G : GM) : List (AVal × AVal × Nat) → List MapEntry → Prop
  | [], es => es = []
  | (k, v, b) :: r, es => ∃ e es', es = e :: es' ∧ VR P G k e.key ∧ VR P G v e.val ∧ e.born = b ∧ ER G r es'

def OR (G : GM) (gi : GI) : AObj → Obj → Prop
  | .cells ro e vs, o => ∃ c t fr, o = .cells c t fr ∧ (ro = false → c.size = gi.size ∧ gi.off = 0 ∧ t = e ∧ fr = (0, 0)) ∧ gi.off + gi.size ≤ c.size ∧ gi.elem = e ∧ vs.length ≤ gi.size ∧ VsR P G vs ((c.toList.drop gi.off).take vs.length)
  | .map es clock, o => ∃ E, o = .map E clock ∧ ER P G es E.toList
  | .loop st pd t ps as bd df, o => ∃ (l : Loop) (M : Nat) (g : GI), o = .loop l ∧ l.state = st ∧ pendC pd l.pending ∧ TR P G t l.tmps ∧ M ≤ l.tmps.size ∧ l.params.toList = ps ∧ cCode P M l.assign = some as ∧ cCode P M l.body = some bd ∧
      (∀ p ∈ ps, p < M) ∧ G df = some g ∧ l.defers = g.blk
  | .dfr shut, o => o = .deferred (if shut then none else some [])
  | .iter m since seen last, o => ∃ g, G m = some g ∧ o = .mapIter (some g.blk) since seen.toArray last ∧ gi.off = 0

structure Rel (G : GM) (h : AHeap) (w : World) : Prop where
  obj : ∀ id ver o, h.objs.get id = some (ver, o) → ∃ gi, G id = some gi ∧ ∃ ob, w.heap[gi.blk]? = some ob ∧ OR P G gi o ob
  inj : ∀ id id' x x' gi gi', h.objs.get id = some x → h.objs.get id' = some x' → x.2.ro = false → G id = some gi → G id' = some gi' → gi.blk = gi'.blk → id = id'
  own : ∀ id ver o gi, h.objs.get id = some (ver, o) → G id = some gi → o.ro = false → N ≤ gi.blk
  fresh : ∀ id, h.next ≤ id → G id = none
  vers : ∀ id ver o, h.objs.get id = some (ver, o) → ver < h.next
  glob : ∀ g, g < P.globals.size → ∃ gi, G g = some gi ∧ gi.blk = g ∧ gi.off = 0
  low : P.globals.size ≤ h.next
  below : Below N w0 w
  size : N ≤ w.heap.size
  rolow : ∀ id ver o gi, h.objs.get id = some (ver, o) → G id = some gi → o.ro = true → gi.blk < N

/-- What a stretch of a run does to memory. -/
structure Ext (G : GM) (h : AHeap) (w : World) (G' : GM) (h' : AHeap) (w' : World) : Prop where
  gle : GLe G G'
  nle : h.next ≤ h'.next
  same : ∀ id ver o, h'.objs.get id = some (ver, o) → h.next ≤ ver ∨ (h.objs.get id = some (ver, o) ∧ ∀ gi, G id = some gi → w'.heap[gi.blk]? = w.heap[gi.blk]?)
  frame : ∀ b, b < w.heap.size → (∀ id x gi, h.objs.get id = some x → x.2.ro = false → G id = some gi → gi.blk ≠ b) → w'.heap[b]? = w.heap[b]?
  owned : ∀ id x gi', h'.objs.get id = some x → x.2.ro = false → G' id = some gi' → w.heap.size ≤ gi'.blk ∨ ∃ id0 x0 gi0, h.objs.get id0 = some x0 ∧ x0.2.ro = false ∧ G id0 = some gi0 ∧ gi0.blk = gi'.blk
  size : w.heap.size ≤ w'.heap.size
end

section
variable {P : Program} {N : Nat} {w0 : World} {G G' G'' : GM} {h h' h'' : AHeap} {w w' w'' : World}

theorem TR.mono {t : T AVal} {tmps : Array Value} (hg : GLe G G') (ht : TR P G t tmps) : TR P G' t tmps :=
  fun i x hx => let ⟨v, a, b⟩ := ht i x hx; ⟨v, a, b.mono hg⟩
theorem ER.mono (hg : GLe G G') : ∀ {es : List (AVal × AVal × Nat)} {E : List MapEntry}, ER P G es E → ER P G' es E
  | [], _, e => e
  | (_, _, _) :: _, _, ⟨e, es', a, b, c, d, r⟩ => ⟨e, es', a, b.mono hg, c.mono hg, d, r.mono hg⟩
theorem OR.mono (hg : GLe G G') {gi : GI} {o : AObj} {ob : Obj} (ho : OR P G gi o ob) : OR P G' gi o ob := by
  cases o with
  | cells ro e vs => obtain ⟨c, t, fr, a, b, d, k, l, m⟩ := ho; exact ⟨c, t, fr, a, b, d, k, l, m.mono hg⟩
  | map es clock => obtain ⟨E, a, b⟩ := ho; exact ⟨E, a, b.mono hg⟩
  | loop st pd t ps as bd df =>
    obtain ⟨l, M, g, a, b, c, d, e, f, k, m, n, p, q⟩ := ho
    exact ⟨l, M, g, a, b, c, d.mono hg, e, f, k, m, n, hg _ _ p, q⟩
  | dfr shut => exact ho
  | iter m since seen last => obtain ⟨g, a, b⟩ := ho; exact ⟨g, hg _ _ a, b⟩

theorem Ext.refl (G : GM) (h : AHeap) (w : World) : Ext G h w G h w :=
  ⟨GLe.refl G, Nat.le_refl _, fun _ _ _ e => .inr ⟨e, fun _ _ => rfl⟩, fun _ _ _ => rfl, fun id x gi a b c => .inr ⟨id, x, gi, a, b, c, rfl⟩, Nat.le_refl _⟩

theorem Ext.trans (a : Ext G h w G' h' w') (b : Ext G' h' w' G'' h'' w'') : Ext G h w G'' h'' w'' where
  gle := a.gle.trans b.gle
  nle := Nat.le_trans a.nle b.nle
  same := fun id ver o e => by
    rcases b.same id ver o e with h1 | ⟨h1, h2⟩
    · exact .inl (Nat.le_trans a.nle h1)
    · rcases a.same id ver o h1 with h3 | ⟨h3, h4⟩
      · exact .inl h3
      · exact .inr ⟨h3, fun gi hg => (h2 gi (a.gle _ _ hg)).trans (h4 gi hg)⟩
  frame := fun k hk hno => by
    refine (b.frame k (Nat.lt_of_lt_of_le hk a.size) fun id x gi hx hro hg he => ?_).trans (a.frame k hk hno)
    rcases a.owned id x gi hx hro hg with h1 | ⟨id0, x0, gi0, h2, h3, h4, h5⟩
    · omega
    · exact hno id0 x0 gi0 h2 h3 h4 (h5.trans he)
  owned := fun id x gi hx hro hg => by
    rcases b.owned id x gi hx hro hg with h1 | ⟨id0, x0, gi0, h2, h3, h4, h5⟩
    · exact .inl (Nat.le_trans a.size h1)
    · rcases a.owned id0 x0 gi0 h2 h3 h4 with h6 | ⟨id1, x1, gi1, h7, h8, h9, h10⟩
      · exact .inl (h5 ▸ h6)
      · exact .inr ⟨id1, x1, gi1, h7, h8, h9, h10.trans h5⟩
  size := Nat.le_trans a.size b.size

theorem Rel.drew (hR : Rel P N w0 G h w) : Rel P N w0 G h w.drew :=
  ⟨hR.obj, hR.inj, hR.own, hR.fresh, hR.vers, hR.glob, hR.low, hR.below.drew, hR.size, hR.rolow⟩
theorem Ext.drew (e : Ext G h w G' h' w') : Ext G h w G' h' w'.drew := ⟨e.gle, e.nle, e.same, e.frame, e.owned, e.size⟩

/-- A new block: its address is given the next number. -/
def addG (G : GM) (id : Nat) (gi : GI) : GM := fun i => if i = id then some gi else G i
theorem addG_le {id : Nat} {gi : GI} (hn : G id = none) : GLe G (addG G id gi) := fun i g e => by
  unfold addG
  by_cases hi : i = id
  · subst hi; rw [hn] at e; cases e
  · rw [if_neg hi]; exact e
theorem addG_same {id : Nat} {gi : GI} : addG G id gi id = some gi := by simp [addG]
theorem addG_ne {id i : Nat} {gi : GI} (hi : i ≠ id) : addG G id gi i = G i := by simp [addG, hi]

/-- What a block of the machine's own says of a place in it. -/
theorem heap_alloc_new (w : World) (o : Obj) : (w.alloc o).heap[w.heap.size]? = some o := by show (w.heap.push o)[w.heap.size]? = some o; simp
theorem heap_alloc_lt {o : Obj} {i : Nat} (hi : i < w.heap.size) : (w.alloc o).heap[i]? = w.heap[i]? := Below.heap_alloc w o i hi

theorem lt_of_heap {i : Nat} {o : Obj} (e : w.heap[i]? = some o) : i < w.heap.size := by
  rcases Nat.lt_or_ge i w.heap.size with h | h
  · exact h
  · simp [Array.getElem?_eq_none h] at e

/-- A new block that is told of. -/
theorem Rel.alloc (hR : Rel P N w0 G h w) {o : AObj} {ob : Obj} {gi : GI} (hb : gi.blk = w.heap.size) (hro0 : o.ro = false) (ho : OR P (addG G h.next gi) gi o ob) :
    Rel P N w0 (addG G h.next gi) (newA h o) (w.alloc ob) ∧ Ext G h w (addG G h.next gi) (newA h o) (w.alloc ob) := by
  have hle : GLe G (addG G h.next gi) := addG_le (hR.fresh _ (Nat.le_refl _))
  have hget : ∀ id, (newA h o).objs.get id = if id = h.next then some (h.next, o) else h.objs.get id := fun id => T.get_set _ _ _ _
  have hlt : ∀ id x g, h.objs.get id = some x → G id = some g → g.blk < w.heap.size := fun id x g hx hg => by
    obtain ⟨gi', h1, ob', h2, _⟩ := hR.obj id x.1 x.2 hx
    rw [hg] at h1; cases h1
    exact lt_of_heap h2
  constructor
  · constructor
    · intro id ver o' e
      rw [hget] at e
      by_cases hi : id = h.next
      · rw [if_pos hi] at e
        cases e
        subst hi
        exact ⟨gi, addG_same, ob, by rw [hb]; exact heap_alloc_new _ _, ho⟩
      · rw [if_neg hi] at e
        obtain ⟨gi', h1, ob', h2, h3⟩ := hR.obj id ver o' e
        exact ⟨gi', hle _ _ h1, ob', by rw [heap_alloc_lt (lt_of_heap h2)]; exact h2, h3.mono hle⟩
    · intro id id' x x' g g' e e' hro hg hg' hbb
      rw [hget] at e e'
      by_cases hi : id = h.next
      · by_cases hi' : id' = h.next
        · rw [hi, hi']
        · rw [if_neg hi'] at e'
          rw [addG_ne hi'] at hg'
          rw [hi, addG_same] at hg
          cases hg
          have := hlt id' x' g' e' hg'
          omega
      · rw [if_neg hi] at e
        rw [addG_ne hi] at hg
        by_cases hi' : id' = h.next
        · rw [hi', addG_same] at hg'
          cases hg'
          have := hlt id x g e hg
          omega
        · rw [if_neg hi'] at e'
          rw [addG_ne hi'] at hg'
          exact hR.inj id id' x x' g g' e e' hro hg hg' hbb
    · intro id ver o' g e hg hro
      rw [hget] at e
      by_cases hi : id = h.next
      · rw [hi, addG_same] at hg
        cases hg
        rw [hb]; exact hR.size
      · rw [if_neg hi] at e
        rw [addG_ne hi] at hg
        exact hR.own id ver o' g e hg hro
    · intro id hid
      have hid' : h.next + 1 ≤ id := hid
      rw [addG_ne (by omega)]
      exact hR.fresh id (by omega)
    · intro id ver o' e
      rw [hget] at e
      show ver < h.next + 1
      by_cases hi : id = h.next
      · rw [if_pos hi] at e; cases e; omega
      · rw [if_neg hi] at e
        have := hR.vers id ver o' e
        omega
    · intro g hg
      obtain ⟨gi', h1, h2⟩ := hR.glob g hg
      exact ⟨gi', hle _ _ h1, h2⟩
    · show _ ≤ h.next + 1
      have := hR.low
      omega
    · exact hR.below.alloc hR.size _
    · simp only [World.size_alloc]; have := hR.size; omega
    · intro id ver o' g e hg hro
      rw [hget] at e
      by_cases hi : id = h.next
      · rw [if_pos hi] at e; cases e; rw [hro0] at hro; cases hro
      · rw [if_neg hi] at e
        rw [addG_ne hi] at hg
        exact hR.rolow id ver o' g e hg hro
  · constructor
    · exact hle
    · show h.next ≤ h.next + 1; omega
    · intro id ver o' e
      rw [hget] at e
      by_cases hi : id = h.next
      · rw [if_pos hi] at e; cases e; exact .inl (Nat.le_refl _)
      · rw [if_neg hi] at e
        exact .inr ⟨e, fun g hg => heap_alloc_lt (hlt id _ g e hg)⟩
    · intro b hb' _
      exact heap_alloc_lt hb'
    · intro id x g e hro hg
      rw [hget] at e
      by_cases hi : id = h.next
      · rw [hi, addG_same] at hg; cases hg; exact .inl (by omega)
      · rw [if_neg hi] at e
        rw [addG_ne hi] at hg
        exact .inr ⟨id, x, g, e, hro, hg, rfl⟩
    · simp

/-- A block that is told of is turned. 'ob'' stands in it now. -/
theorem Rel.put (hR : Rel P N w0 G h w) {id ver : Nat} {o o' : AObj} {ob' : Obj} {gi : GI} (he : h.objs.get id = some (ver, o)) (hro : o.ro = false) (hro' : o'.ro = false) (hg : G id = some gi)
    (hw1 : w'.heap[gi.blk]? = some ob') (hw2 : ∀ b, b ≠ gi.blk → w'.heap[b]? = w.heap[b]?) (hw3 : Below N w w') (ho : OR P G gi o' ob') :
    Rel P N w0 G (putObjA h id o') w' ∧ Ext G h w G (putObjA h id o') w' := by
  have hget : ∀ i, (putObjA h id o').objs.get i = if i = id then some (h.next, o') else h.objs.get i := fun i => T.get_set _ _ _ _
  have hother : ∀ i x g, i ≠ id → h.objs.get i = some x → G i = some g → g.blk ≠ gi.blk := fun i x g hne hx hgi hb =>
    hne (hR.inj id i _ x gi g he hx hro hg hgi hb.symm).symm
  constructor
  · constructor
    · intro i v o2 e
      rw [hget] at e
      by_cases hi : i = id
      · rw [if_pos hi] at e; cases e; subst hi
        exact ⟨gi, hg, ob', hw1, ho⟩
      · rw [if_neg hi] at e
        obtain ⟨g, h1, ob2, h2, h3⟩ := hR.obj i v o2 e
        exact ⟨g, h1, ob2, by rw [hw2 _ (hother i _ g hi e h1)]; exact h2, h3⟩
    · intro i j x y g g' e e' hr hgi hgj hb
      rw [hget] at e e'
      have conv : ∀ k z, (if k = id then some (h.next, o') else h.objs.get k) = some z → ∃ z', h.objs.get k = some z' ∧ (z.2.ro = false → z'.2.ro = false) := fun k z ek => by
        by_cases hk : k = id
        · subst hk; exact ⟨_, he, fun _ => hro⟩
        · rw [if_neg hk] at ek; exact ⟨z, ek, fun h => h⟩
      obtain ⟨x', h1, h2⟩ := conv i x e
      obtain ⟨y', h3, _⟩ := conv j y e'
      exact hR.inj i j x' y' g g' h1 h3 (h2 hr) hgi hgj hb
    · intro i v o2 g e hgi hr
      rw [hget] at e
      by_cases hi : i = id
      · subst hi; exact hR.own i ver o g he hgi hro
      · rw [if_neg hi] at e; exact hR.own i v o2 g e hgi hr
    · intro i hi
      have : h.next + 1 ≤ i := hi
      exact hR.fresh i (by omega)
    · intro i v o2 e
      rw [hget] at e
      show v < h.next + 1
      by_cases hi : i = id
      · rw [if_pos hi] at e; cases e; omega
      · rw [if_neg hi] at e; have := hR.vers i v o2 e; omega
    · exact hR.glob
    · show _ ≤ h.next + 1; have := hR.low; omega
    · exact hR.below.trans hw3
    · exact Nat.le_trans hR.size hw3.size
    · intro i v o2 g e hgi hr
      rw [hget] at e
      by_cases hi : i = id
      · rw [if_pos hi] at e; cases e; rw [hro'] at hr; cases hr
      · rw [if_neg hi] at e; exact hR.rolow i v o2 g e hgi hr
  · constructor
    · exact GLe.refl G
    · show h.next ≤ h.next + 1; omega
    · intro i v o2 e
      rw [hget] at e
      by_cases hi : i = id
      · rw [if_pos hi] at e; cases e; exact .inl (Nat.le_refl _)
      · rw [if_neg hi] at e
        exact .inr ⟨e, fun g hgi => hw2 _ (hother i _ g hi e hgi)⟩
    · intro b _ hno
      exact hw2 b fun hb => hno id _ gi he hro hg hb.symm
    · intro i x g e hr hgi
      rw [hget] at e
      by_cases hi : i = id
      · subst hi; exact .inr ⟨i, _, gi, he, hro, hg, by rw [hgi] at hg; cases hg; rfl⟩
      · rw [if_neg hi] at e; exact .inr ⟨i, x, g, e, hr, hgi, rfl⟩
    · exact hw3.size

/-- A block is no longer told of. -/
theorem Rel.drop (hR : Rel P N w0 G h w) (id : Nat) : Rel P N w0 G (dropA h id) w ∧ Ext G h w G (dropA h id) w := by
  have hget : ∀ i x, (dropA h id).objs.get i = some x → h.objs.get i = some x := fun i x e => by
    have e' : (h.objs.set id none).get i = some x := e
    rw [T.get_set] at e'
    by_cases hi : i = id
    · rw [if_pos hi] at e'; cases e'
    · rw [if_neg hi] at e'; exact e'
  exact ⟨⟨fun i v o e => hR.obj i v o (hget _ _ e), fun i j x y g g' e e' => hR.inj i j x y g g' (hget _ _ e) (hget _ _ e'), fun i v o g e => hR.own i v o g (hget _ _ e), hR.fresh, fun i v o e => hR.vers i v o (hget _ _ e), hR.glob, hR.low, hR.below, hR.size, fun i v o g e => hR.rolow i v o g (hget _ _ e)⟩,
    ⟨GLe.refl G, Nat.le_refl _, fun i v o e => .inr ⟨hget _ _ e, fun _ _ => rfl⟩, fun _ _ _ => rfl, fun i x g e hr hgi => .inr ⟨i, x, g, hget _ _ e, hr, hgi, rfl⟩, Nat.le_refl _⟩⟩
end
end Go.Ab
end
section
/-
  The quiet operations: what they yield in the small language stands for what the machine yields.
-/
namespace Go.Ab
open Go.RowKit (Below)

section
variable (P : Program)

def DR (G : GM) : List ADef → List Deferred → Prop
  | [], ds => ds = []
  | .collected r :: l, ds => ∃ g d ds', ds = d :: ds' ∧ G r = some g ∧ d.target = .collected g.blk ∧ DR G l ds'
  | .fn f args :: l, ds => ∃ d ds' cap, ds = d :: ds' ∧ d.target = .fn (.func f) cap ∧ VsR P G args (d.args ++ cap).toList ∧ DR G l ds'

structure ActR (G : GM) (M : Nat) (a : AAct) (ag : Act) : Prop where
  tmps : TR P G a.tmps ag.tmps
  size : M ≤ ag.tmps.size
  defers : DR P G a.defers ag.defers

/-- The block that was looked at is as it was. -/
def Look (G : GM) (id : Option Nat) (w w' : World) : Prop := ∀ b, id = some b → ∀ gi, G b = some gi → w'.heap[gi.blk]? = w.heap[gi.blk]?
end

section
variable {P : Program} {N : Nat} {w0 : World} {G G' : GM} {h : AHeap} {w : World} {a : AAct} {ag : Act} {M : Nat}

theorem DR.mono (hg : GLe G G') : ∀ {l : List ADef} {ds : List Deferred}, DR P G l ds → DR P G' l ds
  | [], _, e => e
  | .collected _ :: _, _, ⟨g, d, ds', x, y, z, r⟩ => ⟨g, d, ds', x, hg _ _ y, z, r.mono hg⟩
  | .fn _ _ :: _, _, ⟨d, ds', cap, x, y, z, r⟩ => ⟨d, ds', cap, x, y, z.mono hg, r.mono hg⟩
theorem ActR.mono (hg : GLe G G') (ha : ActR P G M a ag) : ActR P G' M a ag := ⟨ha.tmps.mono hg, ha.size, ha.defers.mono hg⟩

theorem ev_sound (hl : ∀ g, g < P.globals.size → ∃ gi, G g = some gi ∧ gi.blk = g ∧ gi.off = 0) (ha : ActR P G M a ag) {x : Operand} {x' : AOpd} {v : AVal} (hc : cOpd P x = some x') (he : ev a x' = some v) : VR P G v (ag.eval x) := by
  cases x with
  | tmp t =>
    simp only [cOpd, Option.some.injEq] at hc; subst hc
    obtain ⟨cv, h1, h2⟩ := ha.tmps t v he
    show VR P G v (ag.tmps.getD t undef)
    rw [Array.getD_eq_getD_getElem?, h1]; exact h2
  | const c =>
    simp only [cOpd] at hc
    split at hc
    · rename_i y hy
      simp only [Option.some.injEq] at hc; subst hc
      simp only [ev, Option.some.injEq] at he; subst he
      exact ofV_sound hy
    · cases hc
  | global g =>
    simp only [cOpd] at hc
    split at hc
    · rename_i hlt
      simp only [Option.some.injEq] at hc; subst hc
      simp only [ev, Option.some.injEq] at he; subst he
      obtain ⟨gi, h1, h2, h3⟩ := hl g hlt
      exact ⟨gi, h1, by rw [h2, h3]; rfl⟩
    · cases hc
  | func f =>
    simp only [cOpd, Option.some.injEq] at hc; subst hc
    simp only [ev, Option.some.injEq] at he; subst he
    exact ⟨#[], #[], rfl, rfl, rfl⟩

theorem mapO_ev_sound (hl : ∀ g, g < P.globals.size → ∃ gi, G g = some gi ∧ gi.blk = g ∧ gi.off = 0) (ha : ActR P G M a ag) : ∀ {xs : List Operand} {ys : List AOpd} {vs : List AVal}, mapO (cOpd P) xs = some ys → mapO (ev a) ys = some vs → VsR P G vs (xs.map ag.eval)
  | [], ys, vs, hc, he => by
    simp only [mapO, Option.some.injEq] at hc; subst hc
    simp only [mapO, Option.some.injEq] at he; subst he
    rfl
  | x :: xs, ys, vs, hc, he => by
    obtain ⟨y, zs, h1, h2, rfl⟩ := mapO_cons hc
    obtain ⟨v, us, h3, h4, rfl⟩ := mapO_cons he
    exact ⟨_, _, rfl, ev_sound hl ha h1 h3, mapO_ev_sound hl ha h2 h4⟩

theorem evs_sound (hl : ∀ g, g < P.globals.size → ∃ gi, G g = some gi ∧ gi.blk = g ∧ gi.off = 0) (ha : ActR P G M a ag) {xs : Array Operand} {ys : List AOpd} {vs : List AVal} (hc : cOpds P xs = some ys) (he : evs a ys = some vs) : VsR P G vs (xs.map ag.eval).toList := by
  rw [Array.toList_map]
  exact mapO_ev_sound hl ha hc he

/-! ### Types -/
theorem cSize_some {t : TypeId} {n : Nat} (e : cSize P t = some n) : ∃ i, P.info? t = some i ∧ i.size = n := by
  unfold cSize at e
  split at e
  · rename_i i hi; simp only [Option.some.injEq] at e; exact ⟨i, hi, e⟩
  · cases e
theorem run_sizeOf_c {t : TypeId} {n : Nat} (e : cSize P t = some n) (w : World) : (sizeOf t).run P w = .ok n w := by
  obtain ⟨i, h1, h2⟩ := cSize_some e
  simp [sizeOf, typeInfo, h1, h2]
theorem cellsOf_c {t : TypeId} {n : Nat} (e : cSize P t = some n) : P.cellsOf t = n := by
  obtain ⟨i, h1, h2⟩ := cSize_some e
  simp [Program.cellsOf, h1, h2]

theorem cHow_run {t : TypeId} {s : Option Nat} (e : cHow P t = some s) (w : World) :
    (s = none ∧ (isAgg t).run P w = .ok false w) ∨ ∃ n, s = some n ∧ (isAgg t).run P w = .ok true w ∧ (sizeOf t).run P w = .ok n w := by
  unfold cHow at e
  split at e
  · rename_i f i h1 h2
    simp only [Option.some.injEq] at e
    exact .inr ⟨i.size, e.symm, by simp [isAgg, run_underlying h1], by simp [sizeOf, typeInfo, h2]⟩
  · rename_i n el i h1 h2
    simp only [Option.some.injEq] at e
    exact .inr ⟨i.size, e.symm, by simp [isAgg, run_underlying h1], by simp [sizeOf, typeInfo, h2]⟩
  · rename_i d i hs ha2 h1 h2
    simp only [Option.some.injEq] at e
    refine .inl ⟨e.symm, ?_⟩
    simp only [isAgg, Sem.run_bind, run_underlying h1, Result.andThen_ok]
    cases d <;> first | rfl | (exact absurd rfl (ha2 _ _ _ h1)) | (exact absurd rfl (hs _ _ h1))
  · cases e

theorem partA_sound {t : TypeId} {s : Option Nat} {cs : List AVal} {L : Array Value} {off : Nat} {v : AVal} (e : cHow P t = some s) (hv : VsR P G cs L.toList) (hp : partA s cs off = some v) :
    ∃ cv, VR P G v cv ∧ ∀ w, (part t L off).run P w = .ok cv w := by
  cases s with
  | none =>
    simp only [partA] at hp
    obtain ⟨cv, h1, h2⟩ := hv.get hp
    refine ⟨cv, h2, fun w => ?_⟩
    rcases cHow_run e w with ⟨_, h3⟩ | ⟨n, h4, _⟩
    · have h1' : L[off]? = some cv := by simpa using h1
      simp [part, h3, h1']
    · cases h4
  | some n =>
    simp only [partA] at hp
    split at hp
    · simp only [Option.some.injEq] at hp; subst hp
      refine ⟨.agg (L.extract off (off + n)), ⟨_, rfl, ?_⟩, fun w => ?_⟩
      · rw [Array.toList_extract, List.extract_eq_take_drop]
        simpa using (hv.drop off).take n
      · rcases cHow_run e w with ⟨h3, _⟩ | ⟨m, h4, h5, h6⟩
        · cases h3
        · cases h4
          simp [part, h5, h6]
    · cases hp

theorem cell_of_block {b : Nat} {c : Array Value} {e : TypeId} {fr : Nat × Nat} (hb : w.heap[b]? = some (.cells c e fr)) (j : Nat) : w.cell? ⟨b, j, none⟩ = c[j]? := by
  simp [World.cell?, hb]

theorem addr_add (b o n : Nat) : (⟨b, o, none⟩ : Addr).add n = ⟨b, o + n, none⟩ := by
  unfold Addr.add; split
  · rename_i h; subst h; rfl
  · rfl

/-- A variable of so many cells is read. -/
theorem run_loadVar_c {t : TypeId} {s : Option Nat} {vs : List AVal} {b o f : Nat} {c : Array Value} {e : TypeId} {fr : Nat × Nat} {v : AVal} (ht : cHow P t = some s)
    (hv : VsR P G vs ((c.toList.drop f).take vs.length)) (hp : partA s vs o = some v) :
    ∃ cv, VR P G v cv ∧ ∀ w, w.heap[b]? = some (.cells c e fr) → (loadVar t ⟨b, f + o, none⟩).run P w = .ok cv w := by
  cases s with
  | none =>
    simp only [partA] at hp
    obtain ⟨cv, h1, h2⟩ := hv.get hp
    refine ⟨cv, h2, fun w hb => ?_⟩
    have h1' : c[f + o]? = some cv := by
      rw [List.getElem?_take] at h1
      split at h1
      · rw [List.getElem?_drop] at h1; simpa using h1
      · cases h1
    rcases cHow_run ht w with ⟨_, h3⟩ | ⟨n, h4, _⟩
    · simp [loadVar, h3, cell_of_block hb, h1']
    · cases h4
  | some n =>
    simp only [partA] at hp
    split at hp
    · rename_i hle
      simp only [Option.some.injEq] at hp; subst hp
      have hlen : vs.length ≤ c.size - f := by
        have := hv.length
        simp at this
        omega
      refine ⟨.agg ((c.toList.drop (f + o)).take n).toArray, ⟨_, rfl, ?_⟩, fun w hb => ?_⟩
      · have := (hv.drop o).take n
        rw [List.drop_take, List.take_take, Nat.min_eq_left (by omega), List.drop_drop] at this
        simpa using this
      · rcases cHow_run ht w with ⟨h3, _⟩ | ⟨m, h4, h5, h6⟩
        · cases h3
        · cases h4
          have hl := run_loadCells_list (P := P) (w := w) ⟨b, f + o, none⟩ ((c.toList.drop (f + o)).take n) (by
            intro j v' hj
            rw [addr_add, cell_of_block hb]
            rw [List.getElem?_take] at hj
            split at hj
            · rw [List.getElem?_drop] at hj; simpa using hj
            · cases hj)
          have hn : ((c.toList.drop (f + o)).take n).length = n := by simp; omega
          rw [hn] at hl
          simp [loadVar, h5, h6, hl]
    · cases hp
end
end Go.Ab
end
section
/-
  Quiet operations, one by one.
-/
namespace Go.Ab
open Go.RowKit (Below)

section
variable {P : Program} {N : Nat} {w0 : World} {G G' : GM} {h : AHeap} {w : World} {a : AAct} {ag : Act} {M : Nat}

/-- A value that is yielded. -/
def Yi (P : Program) (G : GM) (id : Option Nat) (w : World) (v : AVal) (s : Sem Value) : Prop :=
  ∃ cv, VR P G v cv ∧ ∀ w', Look G id w w' → s.run P w' = .ok cv w'

theorem Yi.pure {id : Option Nat} {v : AVal} {cv : Value} (h : VR P G v cv) : Yi P G id w v (Pure.pure cv) := ⟨cv, h, fun _ _ => rfl⟩
theorem Yi.of_run {id : Option Nat} {v : AVal} {cv : Value} {s : Sem Value} (h : VR P G v cv) (hr : ∀ w', s.run P w' = .ok cv w') : Yi P G id w v s := ⟨cv, h, fun w' _ => hr w'⟩
theorem Yi.exec {id : Option Nat} {v : AVal} {s : Sem Value} (h : Yi P G id w v s) :
    ∃ cv, VR P G v cv ∧ ∀ w', Look G id w w' → ((do Pure.pure (Next.value (← s))) : Sem Next).run P w' = .ok (.value cv) w' := by
  obtain ⟨cv, h1, h2⟩ := h
  exact ⟨cv, h1, fun w' hl => by simp [h2 w' hl]⟩

/-! ### Numbers and strings -/
theorem map_toNat_inj : ∀ {x y : List UInt8}, x.map UInt8.toNat = y.map UInt8.toNat → x = y
  | [], [], _ => rfl
  | [], _ :: _, h => by simp at h
  | _ :: _, [], h => by simp at h
  | a :: x, b :: y, h => by
    simp only [List.map_cons, List.cons.injEq] at h
    rw [UInt8.toNat_inj.1 h.1, map_toNat_inj h.2]
theorem beq_ne {a b : Nat} (h : a ≠ b) : Nat.beq a b = false := by
  cases hb : Nat.beq a b with
  | false => rfl
  | true => exact absurd (Nat.eq_of_beq_eq_true hb) h
theorem eqL_eq : ∀ (x y : List Nat), eqL x y = (x == y)
  | [], [] => rfl
  | [], _ :: _ => rfl
  | _ :: _, [] => rfl
  | a :: x, b :: y => by
    simp only [eqL]
    by_cases hab : a = b
    · subst hab; simp [eqL_eq x y]
    · rw [beq_ne hab]
      have : (a == b) = false := by simpa using hab
      simp [this]
theorem lessL_eq : ∀ (x y : List UInt8), lessL (x.map UInt8.toNat) (y.map UInt8.toNat) = Op.bytesLess x y
  | _, [] => by cases ‹List UInt8› <;> rfl
  | [], _ :: _ => rfl
  | a :: x, b :: y => by
    simp only [List.map_cons, lessL, Op.bytesLess]
    by_cases h1 : a < b
    · have : Nat.blt a.toNat b.toNat = true := by
        rw [Nat.blt_eq]; exact UInt8.lt_iff_toNat_lt.1 h1
      rw [this]; simp [h1]
    · have : Nat.blt a.toNat b.toNat = false := by
        cases hb : Nat.blt a.toNat b.toNat with
        | false => rfl
        | true =>
          rw [Nat.blt_eq] at hb
          exact absurd (UInt8.lt_iff_toNat_lt.2 hb) h1
      rw [this]
      by_cases h2 : a = b
      · subst h2; simp [h1, lessL_eq x y]
      · rw [beq_ne (fun e => h2 (UInt8.toNat_inj.1 e))]
        simp [h1, h2]

theorem intOpA_sound {op : BinOp} {k : IntKind} {x y : Int} {v : AVal} {t : TypeId} (e : intOpA op k x y = some v) :
    ∃ cv, VR P G v cv ∧ ∀ w, (binOp op t (.int k x) (.int k y)).run P w = .ok cv w := by
  cases op <;> simp only [intOpA] at e
  case quo =>
    split at e
    · cases e
    · rename_i hy; simp only [Option.some.injEq] at e; subst e
      exact ⟨_, rfl, fun w => by simp [binOp, Op.intDiv, hy]⟩
  case rem =>
    split at e
    · cases e
    · rename_i hy; simp only [Option.some.injEq] at e; subst e
      exact ⟨_, rfl, fun w => by simp [binOp, Op.intDiv, hy]⟩
  all_goals first
    | cases e; done
    | (simp only [Option.some.injEq] at e; subst e; exact ⟨_, rfl, fun w => by simp [binOp, Op.intArith, Op.intCmp]⟩)

theorem strOpA_sound {op : BinOp} {x y : ByteArray} {v : AVal} {t : TypeId} (e : strOpA op (x.data.toList.map UInt8.toNat) (y.data.toList.map UInt8.toNat) = some v) :
    ∃ cv, VR P G v cv ∧ ∀ w, (binOp op t (.string x) (.string y)).run P w = .ok cv w := by
  have he : eqL (x.data.toList.map UInt8.toNat) (y.data.toList.map UInt8.toNat) = (x.toList == y.toList) := by
    rw [eqL_eq, ByteArray.toList_eq, ByteArray.toList_eq]
    by_cases hxy : x.data.toList = y.data.toList
    · simp [hxy]
    · have h1 : (x.data.toList == y.data.toList) = false := by simpa using hxy
      rw [h1]
      have h2 : ¬ x.data.toList.map UInt8.toNat = y.data.toList.map UInt8.toNat := fun h => hxy (map_toNat_inj h)
      simpa using h2
  have hl : lessL (x.data.toList.map UInt8.toNat) (y.data.toList.map UInt8.toNat) = Op.bytesLess x.toList y.toList := by
    rw [lessL_eq, ByteArray.toList_eq, ByteArray.toList_eq]
  cases op <;> simp only [strOpA] at e
  case add =>
    split at e
    · rename_i hlt
      simp only [Option.some.injEq] at e; subst e
      simp only [List.length_map, Array.length_toList] at hlt
      refine ⟨.string (x ++ y), ⟨_, rfl, by simp⟩, fun w => ?_⟩
      have h1 : x.data.size = x.size := rfl
      have h2 : y.data.size = y.size := rfl
      have : ¬ ((x.size + y.size : Nat) : Int) > IntKind.i64.max := by
        have : IntKind.i64.max = 9223372036854775807 := by decide
        rw [this]; omega
      simp only [binOp, Op.stringOp, this, if_false, Sem.run_pure]
    · cases e
  all_goals first
    | cases e; done
    | (simp only [Option.some.injEq] at e; subst e; exact ⟨_, rfl, fun w => by simp [binOp, Op.stringOp, he, hl]⟩)

theorem numA_sound {op : BinOp} {u v r : AVal} {U V : Value} {t : TypeId} (e : numA op u v = some r) (hu : VR P G u U) (hv : VR P G v V) :
    ∃ cv, VR P G r cv ∧ ∀ w, (binOp op t U V).run P w = .ok cv w := by
  unfold numA at e
  split at e
  · rename_i k x k' y
    cases hu; cases hv
    cases op
    case shr =>
      simp only at e
      split at e
      · rename_i hy
        simp only [Option.some.injEq] at e; subst e
        exact ⟨_, rfl, fun w => by simp [binOp, Op.shift, Int.not_lt.2 hy]⟩
      · cases e
    case shl =>
      simp only at e
      split at e
      · rename_i hy
        simp only [Option.some.injEq] at e; subst e
        exact ⟨_, rfl, fun w => by simp [binOp, Op.shift, Int.not_lt.2 hy]⟩
      · cases e
    all_goals
      simp only at e
      split at e
      · rename_i hk; subst hk; exact intOpA_sound e
      · cases e
  · obtain ⟨x, rfl, rfl⟩ := hu
    obtain ⟨y, rfl, rfl⟩ := hv
    exact strOpA_sound e
  · cases e

theorem guard_num {op : BinOp} {u v r : AVal} {U V : Value} {t : TypeId} {x y : Operand} (e : numA op u v = some r) (hu : VR P G u U) (hv : VR P G v V) (w : World) :
    (eqGuard op t x y U V).run P w = .ok () w := by
  unfold numA at e
  split at e
  · cases hu; cases hv; cases op <;> rfl
  · obtain ⟨x, rfl, rfl⟩ := hu
    obtain ⟨y, rfl, rfl⟩ := hv
    cases op <;> rfl
  · cases e
end
end Go.Ab
end
