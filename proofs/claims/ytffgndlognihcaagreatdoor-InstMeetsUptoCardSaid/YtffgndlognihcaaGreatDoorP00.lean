import GoSem.Core.Program
import GoSem.Machine.Return
import Derived.Below
import Derived.RangeFuncLeaves
import Derived.RecoverIn
import Derived.OrdersIn
/-
  Part 0 of the proof.
-/
set_option linter.all false
section
namespace Go.Ab

inductive T (α:Type):Type where
 |leaf:T α
 |node (l:T α) (v:Option α) (r:T α):T α

namespace T
variable{α:Type}
def get:T α->Nat->Option α
 | .leaf,_=>none
 | .node l v r,k=>
  match k with
  |0=>v
  |k+1=>match k % 2 with
   |0=>l.get (k / 2)
   |_=>r.get (k / 2)

def setF:Nat->T α->Nat->Option α->T α
 |0,t,_,_=>t
 |f+1,.leaf,k,x=>
  match k with
  |0=>.node .leaf x .leaf
  |k+1=>match k % 2 with
   |0=>.node (setF f .leaf (k / 2) x) none .leaf
   |_=>.node .leaf none (setF f .leaf (k / 2) x)
 |f+1,.node l v r,k,x=>
  match k with
  |0=>.node l x r
  |k+1=>match k % 2 with
   |0=>.node (setF f l (k / 2) x) v r
   |_=>.node l v (setF f r (k / 2) x)

def set(t:T α)(k:Nat)(x:Option α):T α:=setF (k+1) t k x
end T

inductive D (α:Type):Type where
 |ret (a:α)
 |fail
 |ask (n:Nat) (k:Nat->D α)

def D.bind{α β:Type}:D α->(α->D β)->D β
 | .ret a,f=>f a
 | .fail,_=>.fail
 | .ask n k,f=>.ask n fun i=>(k i).bind f

def D.sat{α:Type}:D α->(α->Prop)->Prop
 | .ret a,Q=>Q a
 | .fail,_=>False
 | .ask n k,Q=>0<n/\∀i,i<n->(k i).sat Q

inductive AVal:Type where
 |bool (b:Bool)
 |int (k:IntKind) (n:Int)
 |str (s:List Nat)
 |ptr (a:Option (Nat×Nat))
 |slice (a:Option (Nat×Nat)) (len:Nat)
 |slice0
 |sliceE
 |map (r:Option Nat)
 |func (f:FuncId) (first captured:List AVal)
 |yield (l:Nat)
 |nilFunc
 |iface (t:TypeId) (v:AVal)
 |nilIface
 |agg (cs:List AVal)
 |tuple (vs:List AVal)

inductive AExit:Type where
 |normal|ret|exit (id:Nat)

inductive ADef:Type where
 |collected (r:Nat)
 |fn (f:FuncId) (args:List AVal)

structure AAct:Type where
 tmps:T AVal
 defers:List ADef

inductive AOpd:Type where
 |tmp (t:Nat)
 |val (v:AVal)
 |glob (g:Nat)

inductive KeyK:Type where
 |str|int|ptr
 |agg (n:Nat)

inductive EqK:Type where
 |bool|ptr|iface (lit:Bool)|slice|map|func|agg (n:Nat)

inductive QOp:Type where
 |trap
 |mov (x:AOpd)
 |pick (c x y:AOpd)
 |build (zero:List AVal) (parts:List (Nat×Nat×AOpd))
 |nilCheck (x:AOpd)
 |num (op:BinOp) (x y:AOpd)
 |eql (neg:Bool) (k:EqK) (x y:AOpd)
 |not (x:AOpd)
 |neg (x:AOpd)
 |conv (k:IntKind) (x:AOpd)
 |same (x:AOpd)
 |iface (t:TypeId) (x:AOpd)
 |func (f:FuncId) (first captured:List AOpd)
 |field (off:Nat) (size:Option Nat) (x:AOpd)
 |fieldA (off:Nat) (x:AOpd)
 |indexA (size:Nat) (x i:AOpd)
 |indexR (n size:Nat) (x i:AOpd)
 |indexS (x i:AOpd)
 |indexV (n size:Nat) (agg:Bool) (x i:AOpd)
 |sliceS (x:AOpd) (lo hi:Option AOpd)
 |slice (elem:TypeId) (size:Nat) (x:AOpd) (lo hi:Option AOpd)
 |slice00 (x:AOpd)
 |extract (x:AOpd) (i:Nat)
 |lenS (x:AOpd)
 |lenV (x:AOpd)
 |lenM (x:AOpd)
 |max (x y:AOpd)
 |min (x y:AOpd)
 |load (size:Option Nat) (x:AOpd)
 |lookup (k:KeyK) (zero:AVal) (ok:Bool) (m x:AOpd)

inductive EOp:Type where
 |alloc (elem:TypeId) (cells:List AVal)
 |box (elem:TypeId) (x:AOpd)
 |bslice (elem:TypeId) (size n:Nat) (zero:List AVal) (parts:List (Nat×AOpd))
 |bslice0
 |mkmap (hint:Option AOpd)
 |mkslice (elem:TypeId) (size bytes:Nat) (zero:List AVal) (l c:AOpd)
 |store (n:Nat) (x v:AOpd)
 |update (k:KeyK) (m x v:AOpd)
 |lookup (k:KeyK) (zero:AVal) (ok:Bool) (m x:AOpd)
 |append (elem:TypeId) (size bytes:Nat) (s x:AOpd)
 |call (f:AOpd) (args:List AOpd)
 |defer (f:AOpd) (args:List AOpd)
 |range (x:AOpd)
 |next (x:AOpd)
 |entry (x:AOpd)

inductive AOp:Type where
 |q (op:QOp)
 |e (op:EOp)

structure Step:Type where
 dst:Option Tmp
 guard:Option (Tmp×Bool)
 op:AOp

structure DStep:Type where
 i:Nat
 pred:Nat
 st:Step

inductive ACode:Type where
 |skip
 |ops (l:List Step)
 |draw (l:List DStep)
 |seq (x y:ACode)
 |cond (c:AOpd) (x y:ACode)
 |block (id:Nat) (c:ACode)
 |loop (c:ACode)
 |exit (id:Nat)
 |ret
 |rangeF (f:AOpd) (ps:List Tmp) (assign body:ACode)

inductive ARes:Type where
 |tmp (t:Tmp)
 |cell (t:Tmp) (size:Option Nat)

structure AFunc:Type where
 n:Nat
 body:ACode
 results:List ARes
 /-- it is one that is deferred, and begins with 'recover' -/
 recovers:Option (Option Tmp):=none

inductive AObj:Type where
 |cells (ro:Bool) (elem:TypeId) (vs:List AVal)
 |map (es:List (AVal×AVal×Nat)) (clock:Nat)
 |loop (st:LoopState) (pending:Option AExit) (tmps:T AVal) (params:List Tmp) (assign body:ACode) (defers:Nat)
 |dfr (shut:Bool)
 |iter (m:Nat) (since:Nat) (seen:List Nat) (last:Nat)
 |iter0

structure AHeap:Type where
 objs:T (Nat×AObj)
 next:Nat

def AObj.ro:AObj->Bool
 | .cells ro _ _=>ro
 |_=>false

def mapO{α β:Type}(f:α->Option β):List α->Option (List β)
 |[]=>some []
 |x::xs=>match f x with
  |some y=>(match mapO f xs with |some ys=>some (y::ys)|none=>none)
  |none=>none

def zAX:AVal->List AVal
 | .agg cs=>cs
 |v=>[v]
def one:AVal->Bool
 | .agg _| .tuple _=>false
 |_=>true

def ev(a:AAct):AOpd->Option AVal
 | .tmp t=>a.tmps.get t
 | .val v=>some v
 | .glob g=>some (.ptr (some (g,0)))
def evs(a:AAct)(xs:List AOpd):Option (List AVal):=mapO (ev a) xs

def zAl(size:Option Nat)(cs:List AVal)(off:Nat):Option AVal:=
 match size with
 |some n=>if off+n<=cs.length then some (.agg ((cs.drop off).take n)) else none
 |none=>cs[off]?

def zCX(a:AAct)(cells:List AVal):List (Nat×Nat×AOpd)->Option (List AVal)
 |[]=>some cells
 |(off,size,x)::rest=>
  match ev a x with
  |none=>none
  |some v=>let cs:=zAX v
   if cs.length=size/\off+size<=cells.length then zCX a (cells.take off++cs++cells.drop (off+size)) rest else none

def zAs:List Nat->List Nat->Bool
 |_,[]=>false
 |[],_::_=>true
 |a::x,b::y=>match Nat.blt a b with |true=>true|false=>(match Nat.beq a b with |true=>zAs x y|false=>false)
def eqL:List Nat->List Nat->Bool
 |[],[]=>true
 |a::x,b::y=>match Nat.beq a b with |true=>eqL x y|false=>false
 |_,_=>false

def zDz(op:BinOp)(k:IntKind)(x y:Int):Option AVal:=
 match op with
 | .add=>some (.int k (k.wrap (x+y)))
 | .sub=>some (.int k (k.wrap (x - y)))
 | .mul=>some (.int k (k.wrap (x*y)))
 | .eql=>some (.bool (x==y))
 | .neq=>some (.bool (x != y))
 | .lss=>some (.bool (decide (x<y)))
 | .leq=>some (.bool (decide (x<=y)))
 | .gtr=>some (.bool (decide (x>y)))
 | .geq=>some (.bool (decide (x>=y)))
 | .quo=>if y=0 then none else some (.int k (k.wrap (x.tdiv y)))
 | .rem=>if y=0 then none else some (.int k (x.tmod y))
 |_=>none

def zEd(op:BinOp)(x y:List Nat):Option AVal:=
 match op with
 | .add=>if x.length+y.length<1000000000000 then some (.str (x++y)) else none
 | .eql=>some (.bool (eqL x y))
 | .neq=>some (.bool (!eqL x y))
 | .lss=>some (.bool (zAs x y))
 | .leq=>some (.bool (zAs x y||eqL x y))
 | .gtr=>some (.bool (!(zAs x y||eqL x y)))
 | .geq=>some (.bool (!zAs x y))
 |_=>none

def numA(op:BinOp)(x y:AVal):Option AVal:=
 match x,y with
 | .int k a,.int k' b=>(match op with
  | .shr=>if 0<=b then some (.int k (a.fdiv (2 ^ min b.toNat k.bits))) else none
  | .shl=>if 0<=b then some (.int k (k.wrap (a*2 ^ min b.toNat k.bits))) else none
  |_=>if k=k' then zDz op k a b else none)
 | .str a,.str b=>zEd op a b
 |_,_=>none

def zBx:List AVal->List AVal->Option Bool
 |[],[]=>some true
 | .int k a::x,.int k' b::y=>if k=k' then (match a==b with |true=>zBx x y|false=>(match zBx x y with |some _=>some false|none=>none)) else none
 |_,_=>none

def eqA(k:EqK)(x y:AVal):Option Bool:=
 match k,x,y with
 | .bool,.bool a,.bool b=>some (a==b)
 | .ptr,.ptr none,.ptr b=>some b.isNone
 | .ptr,.ptr (some _),.ptr none=>some false
 | .ptr,.ptr (some (b,o)),.ptr (some (b',o'))=>if b=b'/\o=o' then some true else none
 | .iface lit,.nilIface,.nilIface=>if lit then some true else none
 | .iface _,.nilIface,.iface _ _=>some false
 | .iface _,.iface _ _,.nilIface=>some false
 | .slice,.slice none _,.slice b _=>some b.isNone
 | .slice,.slice (some _) _,.slice none _=>some false
 | .slice,.slice0,.slice none _=>some false
 | .slice,.slice none _,.slice0=>some false
 | .slice,.sliceE,.slice none _=>some false
 | .slice,.slice none _,.sliceE=>some false
 | .map,.map none,.map b=>some b.isNone
 | .map,.map (some _),.map none=>some false
 | .func,.nilFunc,.nilFunc=>some true
 | .func,.nilFunc,.func _ _ _=>some false
 | .func,.func _ _ _,.nilFunc=>some false
 | .agg n,.agg xs,.agg ys=>if xs.length=n/\ys.length=n then zBx xs ys else none
 |_,_,_=>none

def keyA(k:KeyK)(x y:AVal):Option Bool:=
 match k,x,y with
 | .str,.str a,.str b=>some (eqL a b)
 | .int,.int k a,.int k' b=>if k=k' then some (a==b) else none
 | .ptr,.ptr (some (b,o)),.ptr (some (b',o'))=>some (Nat.beq b b'&&Nat.beq o o')
 | .agg n,.agg xs,.agg ys=>if xs.length=n/\ys.length=n then zBx xs ys else none
 |_,_,_=>none
def zEA(k:KeyK)(x:AVal):Bool:=
 match k,x with
 | .str,.str _=>true
 | .int,.int _ _=>true
 | .ptr,.ptr (some _)=>true
 | .agg n,.agg xs=>Nat.beq xs.length n&&xs.all fun| .int _ _=>true|_=>false
 |_,_=>false

def zBa(k:KeyK)(x:AVal):List (AVal×AVal×Nat)->Nat->Option (Option (Nat×AVal))
 |[],_=>some none
 |(y,v,_)::es,i=>match keyA k x y with
  |some true=>some (some (i,v))
  |some false=>zBa k x es (i+1)
  |none=>none

def zBI(a:AAct)(x:Option AOpd)(d most:Nat):Option Nat:=
 match x with
 |none=>some d
 |some o=>match ev a o with
  |some (.int _ n)=>if 0<=n/\n.toNat<=most then some n.toNat else none
  |_=>none

def zCA:AVal->Option Nat
 | .int _ n=>if 0<=n then some n.toNat else none
 |_=>none

def zCl(h:AHeap)(k:KeyK)(zero:AVal)(ok:Bool)(m x:AVal):Option (AVal×Option Nat):=
 match zEA k x with
 |false=>none
 |true=>(match m with
  | .map none=>some (if ok then .tuple [zero,.bool false] else zero,none)
  | .map (some r)=>(match h.objs.get r with
   |some (_,.map es _)=>(match zBa k x es 0 with
    |some (some (_,v))=>some (if ok then .tuple [v,.bool true] else v,some r)
    |some none=>some (if ok then .tuple [zero,.bool false] else zero,some r)
    |none=>none)
   |_=>none)
  |_=>none)

def qA(a:AAct)(h:AHeap):QOp->Option (AVal×Option Nat)
 | .trap=>none
 | .mov x=>(match ev a x with |some v=>some (v,none)|none=>none)
 | .pick c x y=>(match ev a c with
  |some (.bool true)=>(match ev a x with |some v=>some (v,none)|none=>none)
  |some (.bool false)=>(match ev a y with |some v=>some (v,none)|none=>none)
  |_=>none)
 | .build zero parts=>(match zCX a zero parts with |some cs=>some (.agg cs,none)|none=>none)
 | .nilCheck x=>(match ev a x with
  |some (.ptr (some p))=>some (.ptr (some p),none)
  |_=>none)
 | .num op x y=>(match ev a x,ev a y with
  |some u,some v=>(match numA op u v with |some r=>some (r,none)|none=>none)
  |_,_=>none)
 | .eql neg k x y=>(match ev a x,ev a y with
  |some u,some v=>(match eqA k u v with |some b=>some (.bool (xor neg b),none)|none=>none)
  |_,_=>none)
 | .not x=>(match ev a x with |some (.bool b)=>some (.bool (!b),none)|_=>none)
 | .neg x=>(match ev a x with |some (.int k n)=>some (.int k (k.wrap (0 - n)),none)|_=>none)
 | .conv k x=>(match ev a x with |some (.int _ n)=>some (.int k (k.wrap n),none)|_=>none)
 | .same x=>(match ev a x with |some (.str s)=>some (.str s,none)|_=>none)
 | .iface t x=>(match ev a x with |some v=>some (.iface t v,none)|none=>none)
 | .func f first captured=>(match evs a first,evs a captured with
  |some l,some m=>some (.func f l m,none)
  |_,_=>none)
 | .field off size x=>(match ev a x with
  |some (.agg cs)=>(match zAl size cs off with |some v=>some (v,none)|none=>none)
  |_=>none)
 | .fieldA off x=>(match ev a x with
  |some (.ptr (some (b,o)))=>some (.ptr (some (b,o+off)),none)
  |_=>none)
 | .indexA size x i=>(match ev a x,ev a i with
  |some (.slice (some (b,o)) n),some v=>(match zCA v with
   |some i=>if i<n then some (.ptr (some (b,o+i*size)),none) else none
   |none=>none)
  |_,_=>none)
 | .indexR n size x i=>(match ev a x,ev a i with
  |some (.ptr (some (b,o))),some v=>(match zCA v with
   |some i=>if i<n then some (.ptr (some (b,o+i*size)),none) else none
   |none=>none)
  |_,_=>none)
 | .indexS x i=>(match ev a x,ev a i with
  |some (.str s),some v=>(match zCA v with
   |some i=>(match s[i]? with |some c=>some (.int .u8 (Int.ofNat c),none)|none=>none)
   |none=>none)
  |_,_=>none)
 | .indexV n size agg x i=>(match ev a x,ev a i with
  |some (.agg cs),some v=>(match zCA v with
   |some i=>if i<n then (match zAl (if agg then some size else none) cs (i*size) with |some v=>some (v,none)|none=>none) else none
   |none=>none)
  |_,_=>none)
 | .sliceS x lo hi=>(match ev a x with
  |some (.str s)=>(match zBI a hi s.length s.length with
   |some h=>(match zBI a lo 0 h with |some l=>some (.str ((s.take h).drop l),none)|none=>none)
   |none=>none)
  |_=>none)
 | .slice elem size x lo hi=>(match ev a x with
  |some (.slice none n)=>(match zBI a hi n n with
   |some h=>(match zBI a lo 0 h with |some _=>some (.slice none 0,none)|none=>none)
   |none=>none)
  |some (.slice (some (b,o)) n)=>(match zBI a hi n n with
   |some t=>(match zBI a lo 0 t with
    |some 0=>some (.slice (some (b,o)) t,none)
    |some l=>if l<n then (match h.objs.get b with
      |some (_,.cells _ e _)=>if e=elem then some (.slice (some (b,o+l*size)) (t - l),none) else none
      |_=>none)
     else some (.sliceE,none)
    |none=>none)
   |none=>none)
  |some .slice0=>(match zBI a hi 0 0 with
   |some t=>(match zBI a lo 0 t with |some _=>some (.slice0,none)|none=>none)
   |none=>none)
  |_=>none)
 | .slice00 x=>(match ev a x with
  |some (.slice none _)=>some (.slice none 0,none)
  |some (.slice (some _) _)=>some (.slice0,none)
  |some .slice0=>some (.slice0,none)
  |_=>none)
 | .extract x i=>(match ev a x with
  |some (.tuple vs)=>(match vs[i]? with |some v=>some (v,none)|none=>none)
  |_=>none)
 | .lenS x=>(match ev a x with |some (.str s)=>some (.int .i64 (Int.ofNat s.length),none)|_=>none)
 | .lenV x=>(match ev a x with
  |some (.slice _ n)=>some (.int .i64 (Int.ofNat n),none)
  |some .slice0=>some (.int .i64 0,none)
  |some .sliceE=>some (.int .i64 0,none)
  |_=>none)
 | .lenM x=>(match ev a x with
  |some (.map none)=>some (.int .i64 0,none)
  |some (.map (some r))=>(match h.objs.get r with
   |some (_,.map es _)=>some (.int .i64 (Int.ofNat es.length),some r)
   |_=>none)
  |_=>none)
 | .max x y=>(match ev a x,ev a y with
  |some (.int k x),some (.int _ y)=>some (.int k (if y>x then y else x),none)
  |_,_=>none)
 | .min x y=>(match ev a x,ev a y with
  |some (.int k x),some (.int _ y)=>some (.int k (if y<x then y else x),none)
  |_,_=>none)
 | .load size x=>(match ev a x with
  |some (.ptr (some (b,o)))=>(match h.objs.get b with
   |some (_,.cells _ _ vs)=>(match zAl size vs o with |some v=>some (v,some b)|none=>none)
   |_=>none)
  |_=>none)
 | .lookup k zero ok m x=>(match k with
  | .ptr=>none
  |k=>(match ev a m,ev a x with
   |some m,some x=>zCl h k zero ok m x
   |_,_=>none))

def newA(h:AHeap)(o:AObj):AHeap:={objs:=h.objs.set h.next (some (h.next,o)),next:=h.next+1}
def zAT(h:AHeap)(id:Nat)(o:AObj):AHeap:={objs:=h.objs.set id (some (h.next,o)),next:=h.next+1}
def zCz(h:AHeap)(id:Nat):AHeap:={h with objs:=h.objs.set id none}

def putA(a:AAct)(dst:Option Tmp)(v:AVal):AAct:=
 match dst with
 |none=>a
 |some d=>{a with tmps:=a.tmps.set d (some v)}

def zDQ(h:AHeap)(b o:Nat)(cs:List AVal):Option AHeap:=
 match h.objs.get b with
 |some (_,.cells false e vs)=>
  if o+cs.length<=vs.length/\cs.all one=true then some (zAT h b (.cells false e (vs.take o++cs++vs.drop (o+cs.length)))) else none
 |_=>none

def setVal(es:List (AVal×AVal×Nat))(i:Nat)(v:AVal):List (AVal×AVal×Nat):=
 match es,i with
 |[],_=>[]
 |(k,_,b)::r,0=>(k,v,b)::r
 |e::r,i+1=>e::setVal r i v

def zJt(h:AHeap)(k:KeyK)(m x v:AVal):Option AHeap:=
 match zEA k x with
 |false=>none
 |true=>(match m with
  | .map (some r)=>(match h.objs.get r with
   |some (_,.map es clock)=>(match zBa k x es 0 with
    |some (some (i,_))=>some (zAT h r (.map (setVal es i v) clock))
    |some none=>some (zAT h r (.map (es++[(x,v,clock)]) (clock+1)))
    |none=>none)
   |_=>none)
  |_=>none)

def lenA:AVal->Option Nat
 | .slice _ n=>some n
 | .slice0=>some 0
 | .sliceE=>some 0
 | .str s=>some s.length
 |_=>none
def zER(h:AHeap)(size n:Nat):AVal->Option (List AVal)
 | .slice (some (b,o)) _=>(match h.objs.get b with
  |some (_,.cells _ _ vs)=>if o+n*size<=vs.length then some ((vs.drop o).take (n*size)) else none
  |_=>none)
 | .str s=>if size=1 then some ((s.take n).map fun c=>.int .u8 (Int.ofNat c)) else none
 |_=>none

def zCU(bytes need:Nat):Bool:=Nat.ble 1 bytes&&Nat.ble ((2*need+2000)*bytes) (2 ^ 46)

def zEh(h:AHeap)(elem:TypeId)(size bytes:Nat)(s x:AVal):Option (AVal×AHeap):=
 match lenA x with
 |none=>none
 |some 0=>(match s with
  | .slice base n=>some (.slice base n,h)
  | .slice0=>some (.slice0,h)
  |_=>none)
 |some m=>(match zER h size m x with
  |none=>none
  |some new=>(match new.all one with
   |false=>none
   |true=>(match s with
    | .slice none _=>if zCU bytes m then some (.slice (some (h.next,0)) m,newA h (.cells false elem new)) else none
    | .slice0=>if zCU bytes m then some (.slice (some (h.next,0)) m,newA h (.cells false elem new)) else none
    | .slice (some (b,0)) n=>(match h.objs.get b with
     |some (_,.cells false e vs)=>
      if e=elem/\n*size<=vs.length/\zCU bytes (n+m)=true then
       some (.slice (some (h.next,0)) (n+m),newA (zCz h b) (.cells false elem (vs.take (n*size)++new)))
      else none
     |_=>none)
    |_=>none)))

def rep{α:Type}(xs:List α):Nat->List α
 |0=>[]
 |n+1=>xs++rep xs n

def rowA(a:AAct)(size:Nat)(cells:List AVal):List (Nat×AOpd)->Option (List AVal)
 |[]=>some cells
 |(i,x)::rest=>
  match ev a x with
  |none=>none
  |some v=>let cs:=zAX v
   if cs.length=size/\i*size+size<=cells.length then rowA a size (cells.take (i*size)++cs++cells.drop (i*size+size)) rest else none

def liveP(h:AHeap):AVal->Bool
 | .ptr (some (b,_))=>(match h.objs.get b with |some (_,.cells false _ _)=>true|_=>false)
 |_=>false
def zIh(h:AHeap)(k:KeyK)(m x:AVal):Bool:=
 match k with
 | .ptr=>(match m with
  | .map (some r)=>(match h.objs.get r with
   |some (_,.map es _)=>liveP h x&&es.all fun e=>liveP h e.1
   |_=>true)
  |_=>true)
 |_=>true

def zBO(a:AAct)(h:AHeap):EOp->D (AVal×AHeap)
 | .alloc e cells=>.ret (.ptr (some (h.next,0)),newA h (.cells false e cells))
 | .box e x=>(match ev a x with
  |some v=>.ret (.ptr (some (h.next,0)),newA h (.cells false e (zAX v)))
  |none=>.fail)
 | .bslice e size n zero parts=>(match rowA a size (rep zero n) parts with
  |some cs=>.ret (.slice (some (h.next,0)) n,newA h (.cells false e cs))
  |none=>.fail)
 | .bslice0=>.ret (.slice0,h)
 | .mkmap none=>.ret (.map (some h.next),newA h (.map [] 0))
 | .mkmap (some x)=>(match ev a x with
  |some (.int _ _)=>.ret (.map (some h.next),newA h (.map [] 0))
  |_=>.fail)
 | .mkslice e _ bytes zero l c=>(match ev a l,ev a c with
  |some l,some c=>(match zCA l,zCA c with
   |some l,some c=>if l<=c/\c<=2 ^ 40/\zCU bytes c=true then .ret (.slice (some (h.next,0)) l,newA h (.cells false e (rep zero c))) else .fail
   |_,_=>.fail)
  |_,_=>.fail)
 | .store n x v=>(match ev a x,ev a v with
  |some (.ptr (some (b,o))),some v=>if (zAX v).length=n then (match zDQ h b o (zAX v) with |some h=>.ret (.tuple [],h)|none=>.fail) else .fail
  |_,_=>.fail)
 | .update k m x v=>(match ev a m,ev a x,ev a v with
  |some m,some x,some v=>(match zIh h k m x with
   |true=>(match zJt h k m x v with |some h=>.ret (.tuple [],h)|none=>.fail)
   |false=>.fail)
  |_,_,_=>.fail)
 | .lookup k zero ok m x=>(match ev a m,ev a x with
  |some m,some x=>(match zIh h k m x with
   |true=>(match zCl h k zero ok m x with |some (v,_)=>.ret (v,h)|none=>.fail)
   |false=>.fail)
  |_,_=>.fail)
 | .append e size bytes s x=>(match ev a s,ev a x with
  |some s,some x=>(match zEh h e size bytes s x with |some r=>.ret r|none=>.fail)
  |_,_=>.fail)
 | .range x=>(match ev a x with
  |some (.map (some r))=>(match h.objs.get r with
   |some (_,.map _ clock)=>.ret (.ptr (some (h.next,0)),newA h (.iter r clock [] clock))
   |_=>.fail)
  |some (.map none)=>.ret (.ptr (some (h.next,0)),newA h .iter0)
  |_=>.fail)
 | .next x=>(match ev a x with
  |some (.ptr (some (b,0)))=>(match h.objs.get b with
   |some (_,.iter r since seen last)=>(match h.objs.get r with
    |some (_,.map es clock)=>
     if clock=since/\last=since/\es.all (fun e=>Nat.blt e.2.2 since)=true then
      let left:=es.filter fun e=> !seen.contains e.2.2
      (match left with
      |[]=>.ret (.tuple [.bool false],h)
      |_=>.ask left.length fun i=>(match left[i]? with
       |some (k,v,born)=>.ret (.tuple [.bool true,k,v],zAT h b (.iter r since (seen++[born]) last))
       |none=>.fail))
     else .fail
    |_=>.fail)
   |some (_,.iter0)=>.ret (.tuple [.bool false],h)
   |_=>.fail)
  |_=>.fail)
 | .entry x=>(match ev a x with
  |some (.ptr (some (b,0)))=>(match h.objs.get b with
   |some (_,.iter r _ seen last)=>(match h.objs.get r,seen.getLast? with
    |some (_,.map es clock),some stamp=>
     if clock=last then (match es.find? (fun e=>Nat.beq e.2.2 stamp) with
      |some (k,v,_)=>.ret (.tuple [k,v],h)
      |none=>.fail)
     else .fail
    |_,_=>.fail)
   |_=>.fail)
  |_=>.fail)
 |_=>.fail

structure Self where
 call:FuncId->List AVal->AHeap->D (AVal×AHeap)
 code:Option Nat->ACode->AAct->AHeap->D (AExit×AAct×AHeap)

def zBW(t:T AVal):List Tmp->List AVal->Option (T AVal)
 |[],[]=>some t
 |p::ps,v::vs=>zBW (t.set p (some v)) ps vs
 |_,_=>none

def zIA(S:Self)(l:Nat)(args:List AVal)(h:AHeap):D (AVal×AHeap):=
 match h.objs.get l with
 |some (_,.loop .ready _ tmps params assign body _)=>
  (match zBW tmps params args with
  |some t=>(S.code (some l) assign {tmps:=t,defers:=[]} h).bind fun p1=>
   (match p1.1,p1.2.2.objs.get l with
   | .normal,some (_,.loop .ready pd tm ps as bd df)=>
    (S.code (some l) body p1.2.1 (zAT p1.2.2 l (.loop .busy pd tm ps as bd df))).bind fun p3=>
     (match p3.2.2.objs.get l with
     |some (_,.loop _ _ tm ps as bd df)=>(match p3.1 with
      | .normal=>.ret (.bool true,zAT p3.2.2 l (.loop .ready none tm ps as bd df))
      |e=>.ret (.bool false,zAT p3.2.2 l (.loop .done (some e) tm ps as bd df)))
     |_=>.fail)
   |_,_=>.fail)
  |none=>.fail)
 |_=>.fail

def zGp(S:Self)(f:AVal)(args:List AVal)(h:AHeap):D (AVal×AHeap):=
 match f with
 | .func g first captured=>S.call g (first++args++captured) h
 | .yield l=>zIA S l args h
 |_=>.fail

def eA(S:Self)(ro:Option Nat)(a:AAct)(h:AHeap)(dst:Option Tmp)(op:EOp):D (AAct×AHeap):=
 match op with
 | .call f xs=>(match ev a f,evs a xs with
  |some f,some xs=>(zGp S f xs h).bind fun p=>.ret (putA a dst p.1,p.2)
  |_,_=>.fail)
 | .defer f xs=>(match ro,ev a f,evs a xs with
  |none,some (.func g first captured),some xs=>.ret (putA {a with defers:=.fn g (first++xs++captured)::a.defers} dst (.tuple []),h)
  |_,_,_=>.fail)
 |op=>(zBO a h op).bind fun p=>.ret (putA a dst p.1,p.2)

def zDS(a:AAct):Option (Tmp×Bool)->Option Bool
 |none=>some true
 |some (t,b)=>(match a.tmps.get t with
  |some (.bool c)=>some (c==b)
  |some (.tuple [])=>some false
  |_=>none)

def zFQ(S:Self)(ro:Option Nat)(a:AAct)(h:AHeap)(s:Step):D (AAct×AHeap):=
 match zDS a s.guard with
 |some true=>(match s.op with
  | .q op=>(match qA a h op with
   |some (v,_)=>.ret (putA a s.dst v,h)
   |none=>.fail)
  | .e op=>eA S ro a h s.dst op)
 |some false=>.ret (putA a s.dst (.tuple []),h)
 |none=>.fail

def zGQ(S:Self)(ro:Option Nat):List Step->AAct->AHeap->D (AAct×AHeap)
 |[],a,h=>.ret (a,h)
 |s::r,a,h=>(zFQ S ro a h s).bind fun p=>zGQ S ro r p.1 p.2

structure Held where
 i:Nat
 id:Nat
 ver:Nat

def zAM(h:AHeap)(m:Nat):List Held->Bool
 |[]=>true
 |k::r=>(m.testBit k.i||(match h.objs.get k.id with |some (v,_)=>Nat.beq v k.ver|none=>false))&&zAM h m r

def zEj(m:Nat):List Held->List Held
 |[]=>[]
 |k::r=>match m.testBit k.i with |true=>zEj m r|false=>k::zEj m r

def zCd(S:Self)(ro:Option Nat):List DStep->List Held->AAct->AHeap->D (AAct×AHeap)
 |[],_,a,h=>.ret (a,h)
 |s::r,hs,a,h=>
  match zDS a s.st.guard with
  |some true=>(match s.st.op with
   | .q op=>(match qA a h op with
    |some (v,none)=>zCd S ro r hs (putA a s.st.dst v) h
    |some (v,some id)=>(match h.objs.get id with
     |some (ver,_)=>zCd S ro r ({i:=s.i,id,ver}::hs) (putA a s.st.dst v) h
     |none=>.fail)
    |none=>.fail)
   | .e op=>(eA S ro a h s.st.dst op).bind fun p=>(match zAM p.2 s.pred hs with
    |true=>zCd S ro r (zEj s.pred hs) p.1 p.2
    |false=>.fail))
  |some false=>zCd S ro r hs (putA a s.st.dst (.tuple [])) h
  |none=>.fail

def zCc(S:Self)(ro:Option Nat):ACode->AAct->AHeap->D (AExit×AAct×AHeap)
 | .skip,a,h=>.ret (.normal,a,h)
 | .ops l,a,h=>(zGQ S ro l a h).bind fun p=>.ret (.normal,p.1,p.2)
 | .draw l,a,h=>(zCd S ro l [] a h).bind fun p=>.ret (.normal,p.1,p.2)
 | .seq x y,a,h=>(zCc S ro x a h).bind fun p=>(match p.1 with
  | .normal=>zCc S ro y p.2.1 p.2.2
  |_=>.ret p)
 | .cond c x y,a,h=>(match ev a c with
  |some (.bool true)=>zCc S ro x a h
  |some (.bool false)=>zCc S ro y a h
  |_=>.fail)
 | .block id c,a,h=>(zCc S ro c a h).bind fun p=>(match p.1 with
  | .exit id'=>(match Nat.beq id' id with |true=>.ret (.normal,p.2)|false=>.ret p)
  |_=>.ret p)
 | .loop c,a,h=>(zCc S ro c a h).bind fun p=>(match p.1 with
  | .normal=>S.code ro (.loop c) p.2.1 p.2.2
  |_=>.ret p)
 | .exit id,a,h=>.ret (.exit id,a,h)
 | .ret,a,h=>.ret (.ret,a,h)
 | .rangeF f ps assign body,a,h=>(match ro,ev a f with
  |none,some (.func g first captured)=>
   let h1:=newA h (.dfr false)
   let l:=h1.next
   let h2:=newA h1 (.loop .ready none a.tmps ps assign body h.next)
   (S.call g (first++[.yield l]++captured) h2).bind fun p=>
    (match p.2.objs.get l with
    |some (_,.loop st pd t ps' as' bd' df')=>(match st with
     | .busy=>.fail
     |_=>
      let h4:=zAT p.2 l (.loop .exhausted pd t ps' as' bd' df')
      let a4:AAct:={a with defers:=.collected h.next::a.defers}
      (match pd with
      |none=>.ret (.normal,a4,h4)
      |some .normal=>.fail
      |some e=>.ret (e,a4,h4)))
    |_=>.fail)
  |_,_=>.fail)

section
variable(fns:FuncId->Option AFunc)(summ:FuncId->List AVal->AHeap->Option (D (AVal×AHeap)))

def zMp(S:Self)(f:FuncId)(args:List AVal)(h:AHeap):D AHeap:=
 match fns f with
 |some fn=>(match fn.recovers,fn.results,zBW .leaf (List.range args.length) args with
  |some dst,[],some t=>(S.code none fn.body (putA {tmps:=t,defers:=[]} dst .nilIface) h).bind fun p=>
   (match p.1,p.2.1.defers with
   | .exit _,_=>.fail
   |_,[]=>.ret p.2.2
   |_,_=>.fail)
  |_,_,_=>.fail)
 |none=>.fail

def zEB(S:Self):List ADef->AHeap->D AHeap
 |[],h=>.ret h
 | .collected r::ds,h=>(match h.objs.get r with
  |some (_,.dfr false)=>zEB S ds (zAT h r (.dfr true))
  |_=>.fail)
 | .fn f args::ds,h=>(zMp fns S f args h).bind fun h=>zEB S ds h

def zEt(a:AAct)(h:AHeap):ARes->Option AVal
 | .tmp t=>a.tmps.get t
 | .cell x size=>(match a.tmps.get x with
  |some (.ptr (some (b,o)))=>(match h.objs.get b with
   |some (_,.cells _ _ vs)=>zAl size vs o
   |_=>none)
  |_=>none)

def zBi(a:AAct)(h:AHeap)(rs:List ARes):Option AVal:=
 match mapO (zEt a h) rs with
 |some [v]=>some v
 |some vs=>some (.tuple vs)
 |none=>none

def zIN(S:Self)(f:FuncId)(args:List AVal)(h:AHeap):D (AVal×AHeap):=
 match summ f args h with
 |some d=>d
 |none=>(match fns f with
  |some fn=>(match fn.recovers,zBW .leaf (List.range args.length) args with
   |none,some t=>(S.code none fn.body {tmps:=t,defers:=[]} h).bind fun p=>
    (match p.1 with
    | .exit _=>.fail
    |_=>(zEB fns S p.2.1.defers p.2.2).bind fun h=>(match zBi p.2.1 h fn.results with
     |some v=>.ret (v,h)
     |none=>.fail))
   |_,_=>.fail)
  |none=>.fail)

def run:Nat->Self
 |0=>{call:=fun _ _ _=>.fail,code:=fun _ _ _ _=>.fail}
 |n+1=>{call:=zIN fns summ (run n),code:=zCc (run n)}
end
abbrev FnsT:=FuncId->Option AFunc
abbrev SumT:=FuncId->List AVal->AHeap->Option (D (AVal×AHeap))
theorem oI{α:Type _}(a b:α):(some a=some b)=(a=b):=Option.some.injEq a b
theorem zlC{α:Type _}(a:α)(l:List α):(a::l).length=l.length+1:=rfl
theorem zlN{α:Type _}:([]:List α).length=0:=rfl
theorem zlA{α:Type _}(l:List α):[]++l=l:=rfl
theorem zlE{α:Type _}(l:List α):l++[]=l:=List.append_nil l
theorem zlD{α:Type _}(a:α)(l:List α)(n:Nat):(a::l).drop (n+1)=l.drop n:=rfl
theorem zlK{α:Type _}(a:α)(l r:List α):(a::l)++r=a::(l++r):=rfl
theorem zlT{α:Type _}(a:α)(l:List α)(n:Nat):(a::l).take (n+1)=a::l.take n:=rfl
theorem zlZ{α:Type _}(l:List α):l.drop 0=l:=rfl
theorem zlY{α:Type _}(l:List α):l.take 0=[]:=rfl
theorem zlX{α:Type _}(n:Nat):([]:List α).drop n=[]:=by simp
end Go.Ab
end
section
namespace Go.Ab
namespace T
variable{α:Type}
theorem get_leaf(j:Nat):(leaf:T α).get j=none:=by cases j<;>rfl

theorem zCE(l r:T α)(v:Option α)(k:Nat):(node l v r).get (k+1)=if k % 2=0 then l.get (k / 2) else r.get (k / 2):=by
 simp only[get]
 split
 ·rename_i h;simp[h]
 ·rename_i h;rw[if_neg h]

theorem get_setF(f:Nat):∀(t:T α) (k:Nat) (x:Option α) (j:Nat),k<f->(setF f t k x).get j=if j=k then x else t.get j:=by
  induction f with
  |zero=>intro t k x j h;omega
  |succ f ih=>
    intro t k x j h
    cases k with
    |zero=>
      cases t with
      |leaf=>
        cases j with
        |zero=>simp[setF,get]
        |succ j=>simp only[setF,zCE,get_leaf];split<;>simp
      |node l v r=>
        cases j with
        |zero=>simp[setF,get]
        |succ j=>simp only[setF,zCE];simp
    |succ k=>
      have hk:k / 2<f:=by omega
      rcases Nat.mod_two_eq_zero_or_one k with hm|hm
      · cases t with
        |leaf=>
          simp only[setF,hm]
          cases j with
          |zero=>simp[get]
          |succ j=>
            simp only[zCE,get_leaf,ih _ _ _ _ hk]
            by_cases hj:j % 2=0
            · have e:(j / 2=k / 2)↔(j+1=k+1):=by omega
              simp only[hj,if_true,e]
            · have e : ¬ (j + 1 = k + 1) := by intro e; apply hj; have : j = k := by omega
                                               rw[this];exact hm
              simp only[hj,if_false,e]
        |node l v r=>
          simp only[setF,hm]
          cases j with
          |zero=>simp[get]
          |succ j=>
            simp only[zCE,ih _ _ _ _ hk]
            by_cases hj:j % 2=0
            · have e:(j / 2=k / 2)↔(j+1=k+1):=by omega
              simp only[hj,if_true,e]
            · have e : ¬ (j + 1 = k + 1) := by intro e; apply hj; have : j = k := by omega
                                               rw[this];exact hm
              simp only[hj,if_false,e]
      · cases t with
        |leaf=>
          simp only[setF,hm]
          cases j with
          |zero=>simp[get]
          |succ j=>
            simp only[zCE,get_leaf,ih _ _ _ _ hk]
            by_cases hj:j % 2=0
            · have e : ¬ (j + 1 = k + 1) := by intro e; have : j = k := by omega
                                               rw[this] at hj;omega
              simp only[hj,if_true,e,if_false]
            · have e:(j / 2=k / 2)↔(j+1=k+1):=by omega
              simp only[hj,if_false,e]
        |node l v r=>
          simp only[setF,hm]
          cases j with
          |zero=>simp[get]
          |succ j=>
            simp only[zCE,ih _ _ _ _ hk]
            by_cases hj:j % 2=0
            · have e : ¬ (j + 1 = k + 1) := by intro e; have : j = k := by omega
                                               rw[this] at hj;omega
              simp only[hj,if_true,e,if_false]
            · have e:(j / 2=k / 2)↔(j+1=k+1):=by omega
              simp only[hj,if_false,e]

theorem get_set(t:T α)(k:Nat)(x:Option α)(j:Nat):(t.set k x).get j=if j=k then x else t.get j:=
 get_setF _ _ _ _ _ (by omega)
theorem get_set_ne(t:T α){k j:Nat}(x:Option α)(h:j≠k):(t.set k x).get j=t.get j:=by rw[get_set,if_neg h]
end T

namespace D
variable{α β γ:Type}
theorem sat_bind(d:D α)(f:α->D β)(Q:β->Prop):(d.bind f).sat Q↔d.sat fun a=>(f a).sat Q:=by
 induction d with
 |ret a=>rfl
 |fail=>rfl
 |ask n k ih=>
  simp only[bind,sat]
  exact⟨fun h=>⟨h.1,fun i hi=>(ih i).1 (h.2 i hi)⟩,fun h=>⟨h.1,fun i hi=>(ih i).2 (h.2 i hi)⟩⟩
theorem sat_mono{d:D α}{Q Q':α->Prop}(h:d.sat Q)(hq:∀a,Q a->Q' a):d.sat Q':=by
 induction d with
 |ret a=>exact hq _ h
 |fail=>exact h
 |ask n k ih=>exact⟨h.1,fun i hi=>ih i (h.2 i hi)⟩
theorem sat_ex{d:D α}{Q:α->Prop}(h:d.sat Q):∃a,Q a:=by
 induction d with
 |ret a=>exact⟨a,h⟩
 |fail=>exact h.elim
 |ask n k ih=>exact ih 0 (h.2 0 h.1)
@[simp] theorem sat_ret(a:α)(Q:α->Prop):(D.ret a).sat Q↔Q a:=Iff.rfl
@[simp] theorem sat_fail(Q:α->Prop):(D.fail:D α).sat Q↔False:=Iff.rfl
@[simp] theorem bind_ret(a:α)(f:α->D β):(D.ret a).bind f=f a:=rfl
@[simp] theorem bind_fail(f:α->D β):(D.fail:D α).bind f=.fail:=rfl
end D

theorem zBT{α β:Type}{f:α->Option β}{x:α}{xs:List α}{ys:List β}(h:mapO f (x::xs)=some ys):
  ∃y zs,f x=some y/\mapO f xs=some zs/\ys=y::zs:=by
 simp only[mapO] at h
 split at h
 ·rename_i y hy
  split at h
  ·rename_i zs hz
   simp only[oI] at h
   exact⟨y,zs,hy,hz,h.symm⟩
  ·cases h
 ·cases h
end Go.Ab
end
section
namespace Go.Ab
section
variable(P:Program)

def ofVF:Nat->Value->Option AVal
 |0,_=>none
 |f+1,v=>match v with
  | .bool b=>some (.bool b)
  | .int k n=>some (.int k n)
  | .string s=>some (.str (s.data.toList.map UInt8.toNat))
  | .pointer none=>some (.ptr none)
  | .slice none 0 0=>some (.slice none 0)
  | .map none=>some (.map none)
  | .nilFunc=>some .nilFunc
  | .nilIface=>some .nilIface
  | .agg cs=>(match mapO (ofVF f) cs.toList with |some l=>some (.agg l)|none=>none)
  | .tuple cs=>(match mapO (ofVF f) cs.toList with |some l=>some (.tuple l)|none=>none)
  |_=>none
def ofV(v:Value):Option AVal:=ofVF 3 v

def cOpd:Operand->Option AOpd
 | .tmp t=>some (.tmp t)
 | .const v=>(match ofV v with |some x=>some (.val x)|none=>none)
 | .global g=>if g<P.globals.size then some (.glob g) else none
 | .func f=>some (.val (.func f [] []))
def zNZ(xs:Array Operand):Option (List AOpd):=mapO (cOpd P) xs.toList
def cOpt:Option Operand->Option (Option AOpd)
 |none=>some none
 |some x=>(match cOpd P x with |some y=>some (some y)|none=>none)

def zFP(t:TypeId):Option Nat:=match P.info? t with |some i=>some i.size|none=>none
def cHow(t:TypeId):Option (Option Nat):=match P.underlying t,P.info? t with
 |some (.struct _),some i=>some (some i.size)
 |some (.array _ _),some i=>some (some i.size)
 |some _,some _=>some none
 |_,_=>none
def zGT(t:TypeId):Option AVal:=match P.info? t with
 |some i=>(match i.zero with |some z=>ofV z|none=>none)
 |none=>none

def zLo(t:TypeId)(i:Nat):Option Field:=match P.underlying t with
 |some (.struct fields)=>fields.toList[i]?
 |_=>none

def zKA(t:TypeId)(i:Nat):Option (Nat×Nat):=match P.underlying t with
 |some (.struct fields)=>(match fields.toList[i]? with
  |some f=>(match zFP P f.type with |some n=>some (f.offset,n)|none=>none)
  |none=>none)
 |some (.array _ e)=>(match zFP P e with |some n=>some (i*n,n)|none=>none)
 |_=>none
def cParts(t:TypeId)(ps:Array (Nat×Operand)):Option (List (Nat×Nat×AOpd)):=
 mapO (fun p=>match zKA P t p.1,cOpd P p.2 with
  |some f,some x=>some (f.1,f.2,x)
  |_,_=>none) ps.toList
def cRow(ps:Array (Nat×Operand)):Option (List (Nat×AOpd)):=
 mapO (fun p=>match cOpd P p.2 with |some x=>some (p.1,x)|none=>none) ps.toList

def isC:Operand->Bool
 | .const _=>true
 |_=>false

def intsOk(t:TypeId)(fs:Array Field):Bool:=
 !P.stoodInHeld t&&(!P.eqGuardType P.depth t&&
 (fs.toList.all (fun f=>f.name != "_" &&(match P.underlying f.type with |some (.int _)=>true|_=>false))&&
 (fs.toList.zipIdx.all (fun p=>Nat.beq p.1.offset p.2)&&
 (match P.info? t with |some i=>Nat.beq i.size fs.size|none=>false))))
def isZ:Operand->Bool
 | .const (.int _ n)=>n==0
 |_=>false
def zLow:Option Operand->Bool
 |none=>true
 |some l=>isZ l
def zKr(t:TypeId):Option Nat:=
 match P.underlying t with
 |some (.struct fs)=>(match intsOk P t fs with |true=>some fs.size|false=>none)
 |_=>none

def cKey(t:TypeId):Option KeyK:=match P.underlying t with
 |some .string=>some .str
 |some (.int _)=>some .int
 |some (.pointer e)=>(match P.info? e with |some i=>(match i.size with |0=>none|_=>some .ptr)|none=>none)
 |_=>(match zKr P t with |some n=>some (.agg n)|none=>none)

def cEq(t:TypeId)(lit:Bool):Option EqK:=match P.underlying t with
 |some .bool=>some .bool
 |some (.pointer e)=>(match P.info? e with |some _=>some .ptr|none=>none)
 |some (.interface _)=>some (.iface lit)
 |some (.slice _)=>some .slice
 |some (.map _ _)=>some .map
 |some (.func _ _ _)=>some .func
 |_=>(match zKr P t with |some n=>some (.agg n)|none=>none)

def cMap(t:TypeId):Option (KeyK×AVal):=match P.underlying t with
 |some (.map k e)=>(match cKey P k,zGT P e with |some k,some z=>some (k,z)|_,_=>none)
 |_=>none
def zNY(t:TypeId):Option TypeId:=match P.underlying t with
 |some (.slice e)=>some e
 |_=>none

def cBin(op:BinOp)(t:TypeId)(x y:Operand):Option QOp:=
 match cOpd P x,cOpd P y,P.underlying t with
 |some u,some v,some (.int _)=>some (.num op u v)
 |some u,some v,some .string=>some (.num op u v)
 |some u,some v,_=>(match op with
  | .eql=>(match cEq P t (isC x||isC y) with |some k=>some (.eql false k u v)|none=>none)
  | .neq=>(match cEq P t (isC x||isC y) with |some k=>some (.eql true k u v)|none=>none)
  |_=>none)
 |_,_,_=>none

def cLen(x:Operand)(t:TypeId):Option QOp:=
 match cOpd P x,P.underlying t with
 |some x,some .string=>some (.lenS x)
 |some x,some (.slice _)=>some (.lenV x)
 |some x,some (.map _ _)=>some (.lenM x)
 |_,_=>none

def cQ(o:Op):Option QOp:=
 match o with
 | .move x=>(match cOpd P x with |some x=>some (.mov x)|none=>none)
 | .assign x=>(match cOpd P x with |some x=>some (.mov x)|none=>none)
 | .pick c x y=>(match cOpd P c,cOpd P x,cOpd P y with |some c,some x,some y=>some (.pick c x y)|_,_,_=>none)
 | .build t ps=>(match P.underlying t,zGT P t,cParts P t ps with
  |some (.struct fs),some (.agg z),some ps=>(match fs.toList.all fun f=>(P.info? f.type).isSome with
   |true=>some (.build z ps)
   |false=>none)
  |some (.array _ e),some (.agg z),some ps=>(match P.info? e with |some _=>some (.build z ps)|none=>none)
  |_,_,_=>none)
 | .nilCheck x=>(match cOpd P x with |some x=>some (.nilCheck x)|none=>none)
 | .binOp op t x y _=>cBin P op t x y
 | .unOp op _ x=>(match op,cOpd P x with
  | .not,some x=>some (.not x)
  | .neg,some x=>some (.neg x)
  |_,_=>none)
 | .convert src dst x=>(match P.underlying src,P.underlying dst,cOpd P x with
  |some _,some (.int k),some x=>some (.conv k x)
  |some .string,some .string,some x=>some (.same x)
  |_,_,_=>none)
 | .makeInterface t x=>(match P.underlying t,cOpd P x with
  |some (.interface _),_=>none
  |some _,some x=>some (.iface t x)
  |_,_=>none)
 | .makeFunc (.func f) first captured=>(match zNZ P first,zNZ P captured with
  |some l,some m=>some (.func f l m)
  |_,_=>none)
 | .field t x i=>(match zLo P t i,cOpd P x with
  |some f,some x=>(match cHow P f.type with |some s=>some (.field f.offset s x)|none=>none)
  |_,_=>none)
 | .fieldAddr t x i=>(match zLo P t i,cOpd P x with
  |some f,some x=>(match zFP P f.type with
   |some (_+1)=>some (.fieldA f.offset x)
   |_=>none)
  |_,_=>none)
 | .indexAddr t x i=>(match P.underlying t,cOpd P x,cOpd P i with
  |some (.slice e),some x,some i=>(match zFP P e with |some s=>some (.indexA s x i)|none=>none)
  |some (.array n e),some x,some i=>(match zFP P e with |some s=>some (.indexR n s x i)|none=>none)
  |_,_,_=>none)
 | .index t x i=>(match P.underlying t,cOpd P x,cOpd P i with
  |some .string,some x,some i=>some (.indexS x i)
  |some (.array n e),some x,some i=>(match cHow P e,zFP P e with
   |some h,some s=>some (.indexV n s h.isSome x i)
   |_,_=>none)
  |_,_,_=>none)
 | .slice t x lo hi none=>(match P.underlying t,cOpd P x,cOpt P lo,cOpt P hi with
  |some .string,some x,some lo,some hi=>some (.sliceS x lo hi)
  |some (.slice e),some x,some lo,some hi=>(match zFP P e with |some s=>some (.slice e s x lo hi)|none=>none)
  |_,_,_,_=>none)
 | .slice t x lo (some hi) (some mx)=>(match isZ hi&&isZ mx&&zLow lo,P.underlying t,cOpd P x with
  |true,some (.slice e),some x=>(match zFP P e with |some _=>some (.slice00 x)|none=>none)
  |_,_,_=>none)
 | .extract x i=>(match cOpd P x with |some x=>some (.extract x i)|none=>none)
 | .load t x=>(match cHow P t,cOpd P x with |some s,some x=>some (.load s x)|_,_=>none)
 | .lookup t m k ok=>(match cMap P t,cOpd P m,cOpd P k with
  |some (.ptr,_),_,_=>none
  |some (kk,z),some m,some k=>some (.lookup kk z ok m k)
  |_,_,_=>none)
 | .call c=>(match c.callee,c.args.toList,c.argTypes.toList with
  | .builtin .len,[x],[t]=>cLen P x t
  | .builtin .max,[x,y],_=>(match cOpd P x,cOpd P y with |some x,some y=>some (.max x y)|_,_=>none)
  | .builtin .min,[x,y],_=>(match cOpd P x,cOpd P y with |some x,some y=>some (.min x y)|_,_=>none)
  |_,_,_=>none)
 |_=>none

def zNE:Option TypeDesc->Bool
 |some (.slice _)=>true
 |some .string=>true
 |_=>false

def cE(o:Op):Option EOp:=
 match o with
 | .alloc e=>(match zGT P e with |some z=>some (.alloc e (zAX z))|none=>none)
 | .box e x=>(match cOpd P x with |some x=>some (.box e x)|none=>none)
 | .buildSlice t n ps=>(match zNY P t with
  |none=>none
  |some e=>(match zFP P e with
   |none=>none
   |some s=>(match n*s,ps.toList with
    |0,[]=>if n=0 then some .bslice0 else none
    |0,_=>none
    |_,_=>(match zGT P e,cRow P ps with
     |some z,some ps=>if n*s<=2 ^ 20/\(zAX z).length=s then some (.bslice e s n (zAX z) ps) else none
     |_,_=>none))))
 | .makeMap t r=>(match P.underlying t,cOpt P r with |some (.map _ _),some r=>some (.mkmap r)|_,_=>none)
 | .makeSlice t l c=>(match zNY P t,cOpd P l,cOpd P c with
  |some e,some l,some c=>(match P.info? e,zGT P e with
   |some i,some z=>if (zAX z).length=i.size then some (.mkslice e i.size i.bytes (zAX z) l c) else none
   |_,_=>none)
  |_,_,_=>none)
 | .store t x v=>(match zFP P t,cOpd P x,cOpd P v with |some n,some x,some v=>some (.store n x v)|_,_,_=>none)
 | .mapUpdate t m k v=>(match cMap P t,cOpd P m,cOpd P k,cOpd P v with |some (kk,_),some m,some k,some v=>some (.update kk m k v)|_,_,_,_=>none)
 | .insert t m k v=>(match cMap P t,cOpd P m,cOpd P k,cOpd P v with |some (kk,_),some m,some k,some v=>some (.update kk m k v)|_,_,_,_=>none)
 | .lookup t m k ok=>(match cMap P t,cOpd P m,cOpd P k with
  |some (.ptr,z),some m,some k=>some (.lookup .ptr z ok m k)
  |_,_,_=>none)
 | .range t x=>(match P.underlying t,cOpd P x with |some (.map _ _),some x=>some (.range x)|_,_=>none)
 | .next x false=>(match cOpd P x with |some x=>some (.next x)|none=>none)
 | .entry x=>(match cOpd P x with |some x=>some (.entry x)|none=>none)
 | .defer c=>(match c.callee with
  | .value f=>(match cOpd P f,zNZ P c.args with |some f,some xs=>some (.defer f xs)|_,_=>none)
  |_=>none)
 | .call c=>(match c.callee with
  | .builtin .append=>(match c.args.toList,c.argTypes.toList with
   |[s,x],[st,xt]=>(match zNY P st,zNE (P.underlying xt),cOpd P s,cOpd P x with
    |some e,true,some s,some x=>(match P.info? e with
     |some i=>(match i.size,i.zero with
      |0,_=>none
      |_,some z=>if z.cells.size=i.size then some (.append e i.size i.bytes s x) else none
      |_,none=>none)
     |none=>none)
    |_,_,_,_=>none)
   |_,_=>none)
  | .value f=>(match cOpd P f,zNZ P c.args with |some f,some xs=>some (.call f xs)|_,_=>none)
  |_=>none)
 |_=>none

def cOp(o:Op):AOp:=
 match cQ P o with
 |some q=>.q q
 |none=>(match cE P o with |some e=>.e e|none=>.q .trap)

def zIU(ops:List Oper):Option (Nat×Bool)->Option (Option (Tmp×Bool))
 |none=>some none
 |some (j,b)=>(match ops[j]? with
  |some o=>(match o.dst with |some t=>some (some (t,b))|none=>none)
  |none=>none)

def cDst(N:Nat):Option Tmp->Option (Option Tmp)
 |none=>some none
 |some t=>if t<N then some (some t) else none

def zIM(N:Nat)(ops:List Oper)(o:Oper):Option Step:=
 match cDst N o.dst,zIU ops o.guard with
 |some d,some g=>some {dst:=d,guard:=g,op:=cOp P o.op}
 |_,_=>none

def isE(s:Step):Bool:=match s.op with | .e _=>true|_=>false
def isAl(s:Step):Bool:=match s.op,s.guard with
 | .e (.alloc _ _),none| .e (.box _ _),none| .e (.bslice _ _ _ _ _),none| .e .bslice0,none| .e (.mkmap none),none=>true
 |_,_=>false

def zGy(o:Oper):Nat:=o.after.toList.foldl (fun s e=>match Region.binds .any e with |true=>s|||2 ^ e.on|false=>s) 0
def subM(a b:Nat):Bool:=Nat.beq (a&&& b) a

def zIY(N:Nat)(ops:List Oper):List Oper->Nat->Option (List DStep)
 |[],_=>some []
 |o::r,i=>(match zIM P N ops o,zIY N ops r (i+1) with
  |some s,some l=>some ({i,pred:=zGy o,st:=s}::l)
  |_,_=>none)

def zId(l:List DStep):Nat:=
 l.foldl (fun m s=>match isAl s.st&&Nat.beq (s.pred&&& m) 0 with |true=>m|||2 ^ s.i|false=>m) 0

def zFj(ops:List Oper)(o:Oper):List Tmp:=
  (o.op.operands.toList.filterMap fun| .tmp t=>some t|_=>none)++
  (match o.guard with
   |some (g,_)=>(match ops[g]? with |some og=>og.dst.toList|none=>[])
   |none=>[])
def zLf(ops:List Oper)(x y:Oper):Bool:=
 (match x.dst with |some d=> !(zFj ops y).contains d&&y.dst != some d|none=>true)&&
 (match y.dst with |some d=> !(zFj ops x).contains d|none=>true)
def zNy(ops:List Oper)(fl:Nat):Bool:=
 (ops.zipIdx.all fun (o,i)=>Nat.blt (zGy o) (2 ^ i)&&(!fl.testBit i||Nat.beq (zGy o&&& fl) 0))&&
 (ops.zipIdx.all fun (o,i)=>ops.zipIdx.all fun (p,j)=>(j>=i||(zGy o).testBit j||zLf ops p o))

def nextQ(L:Nat):List DStep->Option DStep
 |[]=>none
 |s::r=>match !isE s.st&& !L.testBit s.i&&subM s.pred L with
  |true=>some s
  |false=>nextQ L r
def zLh(l:List DStep):Nat:=l.foldl (fun m s=>m|||2 ^ s.i) 0
def upF(fl L:Nat)(l:List DStep):Nat:=zLh (l.filter fun s=>fl.testBit s.i&&subM s.pred L)
def front(fl L:Nat)(l:List DStep):List DStep:=
 let up:=upF fl L l
 l.filter fun s=> !fl.testBit s.i&& !L.testBit s.i&&subM s.pred (L|||up)
def due(fl L m:Nat)(l:List DStep):List DStep:=
 l.filter fun s=>fl.testBit s.i&&m.testBit s.i&& !L.testBit s.i

def planF(l:List DStep)(fl:Nat):Nat->Nat->Option (List DStep)
 |0,_=>none
 |f+1,L=>
  match nextQ L l with
  |some s=>(match planF l fl f (L|||2 ^ s.i) with |some r=>some (s::r)|none=>none)
  |none=>(match front fl L l with
   |[]=>let d:=due fl L fl l
    if Nat.beq (L|||fl) (zLh l)&&d.all (fun s=>subM s.pred L) then some d else none
   |s::r=>(match due fl L s.pred l with
    |[]=>if r.isEmpty&&isE s.st then (match planF l fl f (L|||2 ^ s.i) with |some p=>some (s::p)|none=>none) else none
    |d=>if d.all (fun k=>subM k.pred L&&r.all fun q=>q.pred.testBit k.i) then
      (match planF l fl f (L|||zLh d) with |some p=>some (d++p)|none=>none)
     else none))

def chkP(l:List DStep)(fl:Nat):Nat->List Nat->Bool
 |L,[]=>l.all fun t=>L.testBit t.i
 |L,i::r=>(match l[i]? with
  |some s=> !L.testBit i&&(subM s.pred L&&((match fl.testBit i,isE s.st with
    |true,_=>l.all fun t=>fl.testBit t.i||(L.testBit t.i||(!subM t.pred (L|||upF fl L l)||t.pred.testBit i))
    |false,true=>l.all fun t=>fl.testBit t.i||(L.testBit t.i||(Nat.beq t.i i|| !subM t.pred (L|||upF fl L l)))
    |false,false=>true)&&chkP l fl (L|||2 ^ i) r))
  |none=>false)
def zKH(ops:List Oper):Bool:=ops.zipIdx.all fun p=>ops.zipIdx.all fun q=>p.2==q.2||(match p.1.dst,q.1.dst with |some d,some e=>d != e|_,_=>true)
def noSel(ops:List Oper):Bool:=ops.all fun o=>match o.op with | .select _ _=>false|_=>true

def zLK(p:Nat):List Nat->Nat->Nat->Nat
 |[],_,acc=>acc
 |c::r,j,acc=>zLK p r (j+1) (match p.testBit j with |true=>acc|||c|false=>acc)
def zFR:List DStep->List Nat->List DStep
 |[],_=>[]
 |s::r,ms=>{s with pred:=zLK s.pred ms 0 s.pred}::zFR r (ms++[zLK s.pred ms 0 s.pred])
def cDraw(N:Nat)(ops:List Oper):Option (List DStep):=
 match zIY P N ops ops 0 with
 |some l=>let fl:=zId l
  (match zNy ops fl&&(zKH ops&&noSel ops) with
  |true=>(match planF l fl (l.length+1) 0 with
   |some p=>(match chkP l fl 0 (p.map (·.i)) with
    |true=>mapO (fun i=>(zFR l [])[i]?) (p.map (·.i))
    |false=>none)
   |none=>none)
  |false=>none)
 |none=>none

def zCC(N:Nat):Code->Option ACode
 | .skip=>some .skip
 | .label _=>some .skip
 | .region _ ops false=>(match mapO (zIM P N ops.toList) ops.toList with |some l=>some (.ops l)|none=>none)
 | .region _ ops true=>(match cDraw P N ops.toList with |some l=>some (.draw l)|none=>some (.ops [{dst:=none,guard:=none,op:=.q .trap}]))
 | .seq x y=>(match zCC N x,zCC N y with |some x,some y=>some (.seq x y)|_,_=>none)
 | .cond c x y=>(match cOpd P c,zCC N x,zCC N y with |some c,some x,some y=>some (.cond c x y)|_,_,_=>none)
 | .block id c=>(match zCC N c with |some c=>some (.block id c)|none=>none)
 | .loop c=>(match zCC N c with |some c=>some (.loop c)|none=>none)
 | .exit id=>some (.exit id)
 | .ret=>some .ret
 | .rangeFunc f ps assign body=>(match cOpd P f,zCC N assign,zCC N body with
  |some f,some x,some y=>if ps.toList.all (fun p=>Nat.blt p N) then some (.rangeF f ps.toList x y) else none
  |_,_,_=>none)
 | .refuse _=>some (.ops [{dst:=none,guard:=none,op:=.q .trap}])
 | .scope _| .goto _=>none

def cRes:ResultVar->Option ARes
 | .tmp t=>some (.tmp t)
 | .cell x t=>(match cHow P t with |some s=>some (.cell x s)|none=>none)

def cRec(c:Code):Option (Option Tmp×Code):=
 match c with
 | .seq (.region _ ops false) c=>(match ops.toList with
  |[o]=>(match o.op,o.guard with
   | .call {callee:=.builtin .recover,args,.. },none=>(match args.toList with |[]=>some (o.dst,c)|_=>none)
   |_,_=>none)
  |_=>none)
 |_=>none

def cFn(fn:Func):Option AFunc:=
 match fn.body with
 |none=>none
 |some c=>if fn.name== "runtime.NumGoroutine" then none else (match mapO (cRes P) fn.results.toList with
  |none=>none
  |some rs=>(match cRec c with
   |some (d,c)=>(match cDst fn.ntmps d,zCC P fn.ntmps c with
    |some d,some c=>some {n:=fn.ntmps,body:=c,results:=rs,recovers:=some d}
    |_,_=>none)
   |none=>(match zCC P fn.ntmps c with
    |some c=>some {n:=fn.ntmps,body:=c,results:=rs}
    |none=>none)))
end
end Go.Ab
end
section
namespace Go.Ab
open Go.RowKit (Below)

structure GI where
 blk:Nat
 size:Nat
 elem:TypeId
 off:Nat

abbrev GM:=Nat->Option GI
def GLe(G G':GM):Prop:=∀i g,G i=some g->G' i=some g
theorem GLe.refl(G:GM):GLe G G:=fun _ _ h=>h
theorem GLe.trans{G G' G'':GM}(h:GLe G G')(k:GLe G' G''):GLe G G'':=fun i g e=>k i g (h i g e)

section
variable(P:Program)

mutual
def VR(G:GM):AVal->Value->Prop
 | .bool b,v=>v=.bool b
 | .int k n,v=>v=.int k n
 | .str s,v=>∃b:ByteArray,v=.string b/\b.data.toList.map UInt8.toNat=s
 | .ptr none,v=>v=.pointer none
 | .ptr (some p),v=>∃g,G p.1=some g/\v=.pointer (some ⟨g.blk,g.off+p.2,none⟩)
 | .slice none n,v=>n=0/\v=.slice none 0 0
 | .slice (some p) n,v=>∃g c,G p.1=some g/\v=.slice (some ⟨g.blk,g.off+p.2,none⟩) n c/\n<=c/\p.2+c*P.cellsOf g.elem<=g.size
 | .slice0,v=>∃a:Addr,v=.slice (some a) 0 0
 | .sliceE,v=>∃(a:Addr) (c:Nat),v=.slice (some a) 0 c
 | .map none,v=>v=.map none
 | .map (some r),v=>∃g,G r=some g/\v=.map (some g.blk)
 | .func f l m,v=>∃L M:Array Value,v=.func (.func f) L M/\VsR G l L.toList/\VsR G m M.toList
 | .yield l,v=>∃g,G l=some g/\v=.func (.yield g.blk) #[] #[]
 | .nilFunc,v=>v=.nilFunc
 | .iface t x,v=>∃y,v=.iface t y/\VR G x y
 | .nilIface,v=>v=.nilIface
 | .agg l,v=>∃L:Array Value,v=.agg L/\VsR G l L.toList
 | .tuple l,v=>∃L:Array Value,v=.tuple L/\VsR G l L.toList
def VsR(G:GM):List AVal->List Value->Prop
 |[],vs=>vs=[]
 |x::xs,vs=>∃y ys,vs=y::ys/\VR G x y/\VsR G xs ys
end
end

section
variable{P:Program}{G G':GM}

mutual
theorem VR.mono(h:GLe G G'):∀{x:AVal} {v:Value},VR P G x v->VR P G' x v
 | .bool _,_,e=>e
 | .int _ _,_,e=>e
 | .str _,_,e=>e
 | .ptr none,_,e=>e
 | .ptr (some _),_,⟨g,e,k⟩=>⟨g,h _ _ e,k⟩
 | .slice none _,_,e=>e
 | .slice (some _) _,_,⟨g,c,e,k⟩=>⟨g,c,h _ _ e,k⟩
 | .slice0,_,e=>e
 | .sliceE,_,e=>e
 | .map none,_,e=>e
 | .map (some _),_,⟨g,e,k⟩=>⟨g,h _ _ e,k⟩
 | .func _ _ _,_,⟨L,M,e,a,b⟩=>⟨L,M,e,VsR.mono h a,VsR.mono h b⟩
 | .yield _,_,⟨g,e,k⟩=>⟨g,h _ _ e,k⟩
 | .nilFunc,_,e=>e
 | .iface _ _,_,⟨y,e,a⟩=>⟨y,e,VR.mono h a⟩
 | .nilIface,_,e=>e
 | .agg _,_,⟨L,e,a⟩=>⟨L,e,VsR.mono h a⟩
 | .tuple _,_,⟨L,e,a⟩=>⟨L,e,VsR.mono h a⟩
theorem VsR.mono(h:GLe G G'):∀{xs:List AVal} {vs:List Value},VsR P G xs vs->VsR P G' xs vs
 |[],_,e=>e
 |_::_,_,⟨y,ys,e,a,b⟩=>⟨y,ys,e,VR.mono h a,VsR.mono h b⟩
end

theorem VsR.length:∀{xs:List AVal} {vs:List Value},VsR P G xs vs->vs.length=xs.length
 |[],_,e=>by subst e;rfl
 |_::_,_,⟨y,ys,e,_,b⟩=>by subst e;simp[VsR.length b]

theorem VsR.get:∀{xs:List AVal} {vs:List Value},VsR P G xs vs->∀{i:Nat} {x:AVal},xs[i]?=some x->∃v,vs[i]?=some v/\VR P G x v
 |[],_,_,i,x,h=>by simp at h
 |_::_,_,⟨y,ys,e,a,b⟩,0,x,h=>by subst e;simp at h;subst h;exact⟨y,by simp,a⟩
 |_::_,_,⟨y,ys,e,a,b⟩,i+1,x,h=>by
  subst e;simp at h
  obtain⟨v,h1,h2⟩:=VsR.get b h
  exact⟨v,by simpa using h1,h2⟩

theorem VsR.append:∀{xs:List AVal} {vs:List Value},VsR P G xs vs->∀{ys:List AVal} {us:List Value},VsR P G ys us->VsR P G (xs++ys) (vs++us)
 |[],_,e,_,_,k=>by subst e;exact k
 |_::_,_,⟨y,ys,e,a,b⟩,_,_,k=>by subst e;exact⟨y,_,by simp,a,VsR.append b k⟩
theorem VsR.take:∀{xs:List AVal} {vs:List Value} (n:Nat),VsR P G xs vs->VsR P G (xs.take n) (vs.take n)
 |[],_,n,e=>by subst e;simp[VsR]
 |x::xs,_,0,h=>by simp[VsR]
 |x::xs,_,n+1,⟨y,ys,e,a,b⟩=>by subst e;exact⟨y,ys.take n,by simp,a,VsR.take n b⟩
theorem VsR.drop:∀{xs:List AVal} {vs:List Value} (n:Nat),VsR P G xs vs->VsR P G (xs.drop n) (vs.drop n)
 |[],_,n,e=>by subst e;simp[VsR]
 |x::xs,_,0,h=>by simpa using h
 |x::xs,_,n+1,⟨y,ys,e,a,b⟩=>by subst e;simpa using VsR.drop n b
theorem VsR.one{x:AVal}{v:Value}(h:VR P G x v):VsR P G [x] [v]:=⟨v,[],rfl,h,rfl⟩
theorem VsR.nil:VsR P G [] []:=rfl
theorem VsR.map_mk{α:Type}(f:α->AVal)(g:α->Value)(h:∀a,VR P G (f a) (g a)):∀(l:List α),VsR P G (l.map f) (l.map g)
 |[]=>rfl
 |a::l=>⟨g a,l.map g,rfl,h a,VsR.map_mk f g h l⟩
theorem VsR.rep:∀{xs:List AVal} {vs:List Value} (n:Nat),VsR P G xs vs->VsR P G (rep xs n) (rep vs n)
 |_,_,0,_=>rfl
 |_,_,n+1,h=>VsR.append h (VsR.rep n h)

theorem VR.cells{x:AVal}{v:Value}(h:VR P G x v):VsR P G (zAX x) v.cells.toList:=by
 cases x with
 |agg l=>obtain⟨L,rfl,a⟩:=h;exact a
 |tuple l=>obtain⟨L,rfl,a⟩:=h;exact VsR.one ⟨L,rfl,a⟩
 |bool b=>cases h;exact VsR.one rfl
 |int k n=>cases h;exact VsR.one rfl
 |str s=>obtain⟨b,rfl,e⟩:=h;exact VsR.one ⟨b,rfl,e⟩
 |ptr a=>
  cases a with
  |none=>cases h;exact VsR.one rfl
  |some p=>obtain⟨g,e,rfl⟩:=h;exact VsR.one ⟨g,e,rfl⟩
 |slice a n=>
  cases a with
  |none=>obtain⟨e,rfl⟩:=h;exact VsR.one ⟨e,rfl⟩
  |some p=>obtain⟨g,c,e,rfl,k⟩:=h;exact VsR.one ⟨g,c,e,rfl,k⟩
 |slice0=>obtain⟨a,rfl⟩:=h;exact VsR.one ⟨a,rfl⟩
 |sliceE=>obtain⟨a,c,rfl⟩:=h;exact VsR.one ⟨a,c,rfl⟩
 |map r=>
  cases r with
  |none=>cases h;exact VsR.one rfl
  |some r=>obtain⟨g,e,rfl⟩:=h;exact VsR.one ⟨g,e,rfl⟩
 |func f l m=>obtain⟨L,M,rfl,a,b⟩:=h;exact VsR.one ⟨L,M,rfl,a,b⟩
 |yield l=>obtain⟨g,e,rfl⟩:=h;exact VsR.one ⟨g,e,rfl⟩
 |nilFunc=>cases h;exact VsR.one rfl
 |iface t x=>obtain⟨y,rfl,a⟩:=h;exact VsR.one ⟨y,rfl,a⟩
 |nilIface=>cases h;exact VsR.one rfl

theorem VR.oneCell{x:AVal}{v:Value}(h:VR P G x v)(ho:one x=true):v.oneCell'=true:=by
 cases x with
 |agg l=>cases ho
 |tuple l=>cases ho
 |bool b=>cases h;rfl
 |int k n=>cases h;rfl
 |str s=>obtain⟨b,rfl,e⟩:=h;rfl
 |ptr a=>
  cases a with
  |none=>cases h;rfl
  |some p=>obtain⟨g,e,rfl⟩:=h;rfl
 |slice a n=>
  cases a with
  |none=>obtain⟨e,rfl⟩:=h;rfl
  |some p=>obtain⟨g,c,e,rfl,k⟩:=h;rfl
 |slice0=>obtain⟨a,rfl⟩:=h;rfl
 |sliceE=>obtain⟨a,c,rfl⟩:=h;rfl
 |map r=>
  cases r with
  |none=>cases h;rfl
  |some r=>obtain⟨g,e,rfl⟩:=h;rfl
 |func f l m=>obtain⟨L,M,rfl,a,b⟩:=h;rfl
 |yield l=>obtain⟨g,e,rfl⟩:=h;rfl
 |nilFunc=>cases h;rfl
 |iface t x=>obtain⟨y,rfl,a⟩:=h;rfl
 |nilIface=>cases h;rfl

theorem zIr:∀(f:Nat) {v:Value} {x:AVal},ofVF f v=some x->VR P G x v
 |0,_,_,h=>by cases h
 |f+1,v,x,h=>by
  have go:∀{vs:List Value} {xs:List AVal},mapO (ofVF f) vs=some xs->VsR P G xs vs:=by
   intro vs
   induction vs with
   |nil=>intro xs h;simp only[mapO,oI] at h;subst h;rfl
   |cons v vs ih=>
    intro xs h
    obtain⟨y,zs,h1,h2,rfl⟩:=zBT h
    exact⟨v,vs,rfl,zIr f h1,ih h2⟩
  unfold ofVF at h
  split at h
  case h_9 cs=>
   split at h
   ·rename_i l hl;simp only[oI] at h;subst h;exact⟨cs,rfl,go hl⟩
   ·cases h
  case h_10 cs=>
   split at h
   ·rename_i l hl;simp only[oI] at h;subst h;exact⟨cs,rfl,go hl⟩
   ·cases h
  case h_3 s=>simp only[oI] at h;subst h;exact⟨s,rfl,rfl⟩
  case h_5=>simp only[oI] at h;subst h;exact⟨rfl,rfl⟩
  all_goals first
   |cases h;done
   |(simp only[oI] at h;subst h;rfl)

theorem zHq{v:Value}{x:AVal}(h:ofV v=some x):VR P G x v:=zIr 3 h
end
end Go.Ab
end
