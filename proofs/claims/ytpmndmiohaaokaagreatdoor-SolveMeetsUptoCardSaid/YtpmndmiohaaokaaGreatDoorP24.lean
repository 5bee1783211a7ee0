import Derived.Test.YtpmndmiohaaokaaGreatDoorP05
import Derived.Test.YtpmndmiohaaokaaGreatDoorP06
import Derived.Test.YtpmndmiohaaokaaGreatDoorP15
import Derived.Test.YtpmndmiohaaokaaGreatDoorP17
import Derived.Test.YtpmndmiohaaokaaGreatDoorP19
import Derived.Test.YtpmndmiohaaokaaGreatDoorP22
import Derived.Test.YtpmndmiohaaokaaGreatDoorP23
import Derived.Shelf.Vars
import Derived.Lib.LaidTab
import Derived.Deep.Slices
import Derived.Deep.Strs
/-
  Part 24 of the proof.
-/
set_option linter.all false
section
namespace Go.Proofs
open Go Go.Ab Go.Ab.S
open Go.RowKit (Below)
theorem zLh:∀a b:List Nat,zFb a b=zKt a b
 |[],_=>rfl
 |_::_,[]=>rfl
 |x::a,y::b=>by
  rw[zFb,zKt,zLh a b];cases h:Nat.beq x y with
  |true=>rw[Nat.eq_of_beq_eq_true h];simp
  |false=>
   have:(x==y)=false:=by rw[beq_eq_false_iff_ne];rintro rfl;rw[Nat.beq_refl] at h;cases h
   rw[this];rfl
theorem zTS:∀s t:List Nat,inL s t=inN s t
 |[],t=>by rw[inL,inN,zLh]
 |a::s,t=>by rw[inL,inN,zLh,zTS s t];cases zKt t (a::s)<;>rfl
theorem zJW:∀(f n:Nat),n<10 ^ (f+1)->digF f n=zAi (Lib.decDigits n)
 |0,n,h=>by
  rw[Lib.decDigits,dif_pos (by omega),digF,Nat.mod_eq_of_lt (by omega)];simp only[zAi,List.map_cons,List.map_nil,UInt8.toNat_ofNat'];rw[Nat.mod_eq_of_lt (by omega)]
 |f+1,n,h=>by
  rw[Lib.decDigits,digF];by_cases h10:n<10
  ·rw[dif_pos h10,if_pos h10];simp only[zAi,List.map_cons,List.map_nil,UInt8.toNat_ofNat'];rw[Nat.mod_eq_of_lt (by omega)]
  ·rw[dif_neg h10,if_neg h10,zJW f (n / 10) (by rw[Nat.pow_succ] at h;omega)];simp only[zAi,List.map_append,List.map_cons,List.map_nil,UInt8.toNat_ofNat'];rw[Nat.mod_eq_of_lt (a:=48+n % 10) (by omega)]
theorem zSJ{n:Int}(h0: -9223372036854775808<=n)(h1:n<=9223372036854775807):zAi (Lib.itoa n)=zEx n:=by
 unfold Lib.itoa zEx;by_cases hn:n<0
 ·rw[if_pos hn,if_pos hn,digN,zJW 19 _ (by omega)];rfl
 ·rw[if_neg hn,if_neg hn,digN,zJW 19 _ (by omega)]
def zFr:List AVal->Option (List UInt8)
 |[]=>some []
 | .int .u8 (.ofNat x)::r=>(match Nat.blt x 256,zFr r with |true,some l=>some (UInt8.ofNat x::l)|_,_=>none)
 |_=>none
theorem zGE:∀{vs:List AVal} {l:List UInt8},zFr vs=some l->vs=l.map fun x=>AVal.int .u8 (x.toNat:Nat)
 |[],l,h=>by simp only[zFr,oI] at h;subst h;rfl
 |v::r,l,h=>by
  unfold zFr at h;split at h
  ·rename_i heq;cases heq
  ·rename_i x r' heq;cases heq;split at h
   ·rename_i l' hx hl;simp only[oI] at h;subst h;rw[zGE hl,List.map_cons,UInt8.toNat_ofNat',Nat.mod_eq_of_lt (Nat.blt_eq.mp hx)];rfl
   ·cases h
  ·cases h
theorem zHa:∀(l:List Nat),(∀x∈l,x<256)->∃b,zFr (l.map fun x=>AVal.int .u8 (x:Nat))=some b/\zAi b=l/\b.length=l.length
 |[],_=>⟨[],rfl,rfl,rfl⟩
 |x::l,h=>by
  obtain⟨b,h1,h2,h3⟩:=zHa l fun y hy=>h y (by simp[hy]);have hx:=h x (by simp);refine⟨UInt8.ofNat x::b,?_,?_,by simp[h3]⟩
  ·rw[List.map_cons];show (match Nat.blt x 256,zFr _ with |true,some l=>some (UInt8.ofNat x::l)|_,_=>none)=_;rw[h1,Nat.blt_eq.mpr hx]
  ·simp only[zAi,List.map_cons,UInt8.toNat_ofNat'] at h2 ⊢;rw[h2,Nat.mod_eq_of_lt hx]
structure WOK(W:World):Prop where
 maxLen:∃m,W.cell? ⟨2,0,none⟩=some (.int .i64 m)
 space:TblOK Tryz.prog W.heap.size W 1 200 tabA
 pow:∀w,Below W.heap.size W w->Lib.TabIs Tryz.prog w "internal/strconv.uint64pow10" .u64 Lib.pow10Tab
 globs:Tryz.prog.globals.size<=W.heap.size
 err:W.cell? ⟨0,0,none⟩=some (.iface 157 (.agg #[.pointer (some ⟨12,60,none⟩)]))
theorem mixed:Tryz.prog.follows .mixedOrders=true:=by kernel_rfl
theorem zDc:Tryz.prog.globals.size=12:=by kernel_rfl
theorem zMT:Ab.Enters Tryz.prog 26:=⟨Tryz.f26,_,Tryz.func26,by kernel_rfl,rfl⟩
theorem zKW:Ab.Enters Tryz.prog 140:=⟨Tryz.f140,_,Tryz.func140,by kernel_rfl,rfl⟩
theorem zOJ:Ab.Enters Tryz.prog 186:=⟨Tryz.f186,_,Tryz.func186,by kernel_rfl,rfl⟩
theorem zKX:Ab.Enters Tryz.prog 173:=⟨Tryz.f173,_,Tryz.func173,by kernel_rfl,rfl⟩
theorem zOI:Ab.Enters Tryz.prog 149:=⟨Tryz.f149,_,Tryz.func149,by kernel_rfl,rfl⟩
theorem zJY:Ab.Enters Tryz.prog 56:=⟨Tryz.f56,_,Tryz.func56,by kernel_rfl,rfl⟩
theorem zQD:Ab.Enters Tryz.prog 23:=⟨Tryz.f23,_,Tryz.func23,by kernel_rfl,rfl⟩
section
variable{W:World}(K:WOK W)
include K
theorem zRF:SummOK Tryz.prog W.heap.size W zLK:=by
 intro f args h d hd;unfold zLK at hd;split at hd
 ·rename_i hf;have hf:=Nat.eq_of_beq_eq_true hf;subst hf;split at hd
  ·rename_i s t;split at hd
   ·rename_i hs;have hs:=Nat.le_of_ble_eq_true hs;simp only[oI] at hd;subst hd;refine⟨zKW,fun G argsV w Q R hv hq=>?_⟩;exact zJJ Tryz.lays144 (w0:=W) K.maxLen (by have:=K.globs;rw[zDc] at this;show 2<_;omega) (by omega) R hv hq
   ·cases hd
  ·cases hd
 ·cases hd
end
def rdOf(s:List Nat):Option (Nat×List (TypeId×List AVal)):=
 match eqL s tP with
 |true=>some (3,osP)
 |false=> 
 (match eqL s tQ with
 |true=>some (2,osQ)
 |false=> 
 (match eqL s tI with
 |true=>some (3,osI)
 |false=> 
 (match eqL s tM with
 |true=>some (2,osM)
 |false=> 
 (match eqL s tN with
 |true=>some (2,osN)
 |false=>none))))
def zIW:List AVal->Option (List (List Nat))
 |[]=>some []
 | .str s::r=>(match zIW r with |some l=>some (s::l)|none=>none)
 |_=>none
theorem zHG:∀{vs:List AVal} {l:List (List Nat)},zIW vs=some l->vs=l.map AVal.str
 |[],l,h=>by simp only[zIW,oI] at h;subst h;rfl
 |v::r,l,h=>by
  unfold zIW at h;split at h
  ·rename_i heq;cases heq
  ·rename_i s r' heq;cases heq;split at h
   ·rename_i l' hl;simp only[oI] at h;subst h;rw[zHG hl];rfl
   ·cases h
  ·cases h
theorem zJN:∀l:List (List Nat),zIW (l.map AVal.str)=some l
 |[]=>rfl
 |s::l=>by rw[List.map_cons];show (match zIW (l.map AVal.str) with |some l=>some (s::l)|none=>none)=_;rw[zJN l]
def asF(args:List AVal)(h:AHeap):Option (D (AVal×AHeap)):=match args with
 |[.nilIface,_]=>some (.ret (.bool false,h))
 |[.iface t1 (.ptr (some (bj,o1))),.iface t2 (.ptr (some (bw,o2)))]=>if t1=201/\o1=0/\t2=62/\o2=0 then (match h.objs.get bj,h.objs.get bw with
  |some (_,.cells false e1 [.slice (some (be,o3)) n]),some (_,.cells false e2 [.ptr none])=>if e1=203/\o3=0/\n=2/\e2=57 then (match h.objs.get be with
   |some (_,.cells false e3 vs)=>(match vs.take 2 with
    |[.iface t3 (.ptr (some (_,o4))),.iface t4 (.ptr (some (b2,o5)))]=>if e3=60/\t3=204/\o4=0/\t4=57/\o5=0 then some (.ret (.bool true,zAX h bw (.cells false 57 [.ptr (some (b2,0))]))) else none
    |_=>none)
   |_=>none) else none
  |_,_=>none) else none
 |_=>none
def zEN:FuncId->List AVal->AHeap->Option (D (AVal×AHeap)):=fun f args h=>
 if f=140 then (match args with
  |[.str s,.str t]=>if s.length<=2000 then some (.ret (.bool (inL s t),h)) else none
  |_=>none)
 else if f=186 then (match args with
  |[.int .i64 n]=>if -9223372036854775808<=n/\n<=9223372036854775807 then some (.ret (.str (zEx n),h)) else none
  |_=>none)
 else if f=173 then (match args with
  |[.ptr (some (b,0))]=>(match h.objs.get b with
   |some (_,.cells false e [.ptr none,s])=>if e=258/\Go.Ab.one s=true then some (.ret (.tuple [],zAX h b (.cells false 258 [.ptr (some (b,0)),s]))) else none
   |some (_,.cells false e [.ptr (some (c,0)),_])=>if e=258/\c=b then some (.ret (.tuple [],h)) else none
   |_=>none)
  |_=>none)
 else if f=149 then (match args with
  |[.ptr (some (b,0))]=>(match h.objs.get b with
   |some (_,.cells false _ [_,.slice (some (c,0)) n])=>(match h.objs.get c with
    |some (_,.cells false e vs)=>(match zFr (vs.take n) with
     |some l=>if e=5/\l≠[]/\l.length=n/\n<=1000000 then some (.ret (.str (zAi l),zDF h c)) else none
     |none=>none)
    |_=>none)
   |_=>none)
  |_=>none)
 else if f=23 then (match args with
  |[.str s]=>(match rdOf s with
   |some (n,os)=>some (.ret (mapV (h.next+ ·) (vR n),layH h.next os h))
   |none=>none)
  |_=>none)
 else if f=56 then (match args with
  |[.slice none n]=>if n=0 then some (.ret (.tuple [],h)) else none
  |[.slice0]=>some (.ret (.tuple [],h))
  |[.slice (some (b,0)) n]=>(match h.objs.get b with
   |some (_,.cells false e vs)=>(match zIW (vs.take n) with
    |some l=>if e=9/\l.length=n/\n<=2147483648/\(l.all fun s=>s.all fun c=>decide (c<256))=true then some (.ret (.tuple [],zAX h b (.cells false 9 ((zEM l).map AVal.str++vs.drop n)))) else none
    |none=>none)
   |_=>none)
  |_=>none)
 else if f=26 then asF args h
 else none
section
variable{W:World}(K:WOK W)
include K
theorem zIG{s:List Nat}{keep:List Nat}{n:Nat}{os:List (TypeId×List AVal)}(hk:keep.length=os.length)(hnd:keep.Nodup)(hpl:∀o∈os,zDL os.length o.2=true)(hv0:zGX os.length (vR n)=true)
  (he:((run (fnsP Tryz.prog) zLK 4000).call 23 [.str s] (tblH 1 200 tabA)).all (isAt keep (vR n) os)=true) {h:AHeap} {G:GM} {argsV:Array Value} {w:World} {Q:AVal×AHeap->Prop} (R:Rel Tryz.prog W.heap.size W G h w) (hv:VsR Tryz.prog G [.str s] argsV.toList) (hq:(D.ret (mapV (h.next+ ·) (vR n),layH h.next os h)).sat Q):
  CallsIn (FR none) 0 Tryz.prog 23 argsV w (PostC Tryz.prog W.heap.size W G h w Q):=
 zRH mixed (zSB _) (zRF K) K.space rfl hk hnd hpl hv0 he R hv hq
theorem zRG:SummOK Tryz.prog W.heap.size W zEN:=by
 intro f args h d hd;unfold zEN at hd;split at hd
 ·rename_i hf;subst hf;split at hd
  ·split at hd
   ·simp only[oI] at hd;subst hd;refine⟨zKW,fun G argsV w Q R hv hq=>?_⟩;rw[D.sat_ret,zTS] at hq;exact zJJ Tryz.lays144 (w0:=W) K.maxLen (by have:=K.globs;rw[zDc] at this;show 2<_;omega) (by omega) R hv hq
   ·cases hd
  ·cases hd
 split at hd
 ·rename_i hf;subst hf;split at hd
  ·split at hd
   ·rename_i n hn;simp only[oI] at hd;subst hd;refine⟨zOJ,fun G argsV w Q R hv hq=>?_⟩;rw[D.sat_ret,<-zSJ hn.1 hn.2] at hq;exact zTq Tryz.laysM171 n hn.1 hn.2 K.pow R hv hq
   ·cases hd
  ·cases hd
 split at hd
 ·rename_i hf;subst hf;split at hd
  ·rename_i b;split at hd
   ·rename_i ver e s hb;split at hd
    ·rename_i he;obtain⟨rfl,hs⟩:=he;simp only[oI] at hd;subst hd;exact⟨zKX,fun G argsV w Q R hv hq=>zJz Tryz.lays240 Tryz.Builder_X72_240 hs hb R hv hq⟩
    ·cases hd
   ·rename_i ver e c s hb;split at hd
    ·rename_i he;obtain⟨rfl,rfl⟩:=he;simp only[oI] at hd;subst hd;exact⟨zKX,fun G argsV w Q R hv hq=>zLF (ro:=false) Tryz.lays240 Tryz.Builder_X72_240 hb R hv hq⟩
    ·cases hd
   ·cases hd
  ·cases hd
 split at hd
 ·rename_i hf;subst hf;split at hd
  ·rename_i b;split at hd
   ·rename_i ver e x0 c n hb;split at hd
    ·rename_i ver' e' vs hc;split at hd
     ·rename_i l hl;split at hd
      ·rename_i he;obtain⟨rfl,h1,rfl,h3⟩:=he;simp only[oI] at hd;subst hd;exact⟨zOI,fun G argsV w Q R hv hq=>zQw Tryz.lays169 Tryz.Builder_Extra_169 h1 hb hc (zGE hl) h3 R hv hq⟩
      ·cases hd
     ·cases hd
    ·cases hd
   ·cases hd
  ·cases hd
 split at hd
 ·rename_i hf;subst hf;split at hd
  ·rename_i s;split at hd
   ·rename_i n os hr;simp only[oI] at hd;subst hd;refine⟨zQD,fun G argsV w Q R hv hq=>?_⟩;unfold rdOf at hr;split at hr
    ·rename_i hs;rw[zAx.1 hs] at hv;simp only[oI,Prod.mk.injEq] at hr;obtain⟨rfl,rfl⟩:=hr;exact zIG K rfl (by decide) (by decide) (by decide) readP R hv hq
    split at hr
    ·rename_i hs;rw[zAx.1 hs] at hv;simp only[oI,Prod.mk.injEq] at hr;obtain⟨rfl,rfl⟩:=hr;exact zIG K rfl (by decide) (by decide) (by decide) readQ R hv hq
    split at hr
    ·rename_i hs;rw[zAx.1 hs] at hv;simp only[oI,Prod.mk.injEq] at hr;obtain⟨rfl,rfl⟩:=hr;exact zIG K rfl (by decide) (by decide) (by decide) readI R hv hq
    split at hr
    ·rename_i hs;rw[zAx.1 hs] at hv;simp only[oI,Prod.mk.injEq] at hr;obtain⟨rfl,rfl⟩:=hr;exact zIG K rfl (by decide) (by decide) (by decide) readM R hv hq
    split at hr
    ·rename_i hs;rw[zAx.1 hs] at hv;simp only[oI,Prod.mk.injEq] at hr;obtain⟨rfl,rfl⟩:=hr;exact zIG K rfl (by decide) (by decide) (by decide) readN R hv hq
    ·cases hr
   ·cases hd
  ·cases hd
 split at hd
 ·rename_i hf;subst hf;split at hd
  ·split at hd
   ·rename_i hn;subst hn;simp only[oI] at hd;subst hd;exact⟨zJY,fun G argsV w Q R hv hq=>zIQ Tryz.lays190 (.inl rfl) R hv hq⟩
   ·cases hd
  ·simp only[oI] at hd;subst hd;exact⟨zJY,fun G argsV w Q R hv hq=>zIQ Tryz.lays190 (.inr rfl) R hv hq⟩
  ·rename_i b n;split at hd
   ·rename_i ver e vs hb;split at hd
    ·rename_i l hl;split at hd
     ·rename_i he;obtain⟨rfl,rfl,h3,h4⟩:=he;simp only[oI] at hd;subst hd;refine⟨zJY,fun G argsV w Q R hv hq=>zTr Tryz.lays190 (fun s hs c hc=>?_) h3 hb (zHG hl) R hv hq⟩;exact of_decide_eq_true (List.all_eq_true.1 (List.all_eq_true.1 h4 s hs) c hc)
     ·cases hd
    ·cases hd
   ·cases hd
  ·cases hd
 split at hd
 ·rename_i hf;subst hf;unfold asF at hd;split at hd
  ·simp only[oI] at hd;subst hd;exact⟨zMT,fun G argsV w Q R hv hq=>zQv R hv hq⟩
  ·split at hd
   ·rename_i hc;obtain⟨rfl,rfl,rfl,rfl⟩:=hc;split at hd
    ·rename_i hb1 hb2;split at hd
     ·rename_i hc2;obtain⟨rfl,rfl,rfl,rfl⟩:=hc2;split at hd
      ·rename_i hb3;split at hd
       ·rename_i htk;split at hd
        ·rename_i hc3;obtain⟨rfl,rfl,rfl,rfl,rfl⟩:=hc3;simp only[oI] at hd;subst hd;exact⟨zMT,fun G argsV w Q R hv hq=>s_as hb1 hb3 htk hb2 (by have:=K.globs;rw[zDc] at this;omega) K.err R hv hq⟩
        ·cases hd
       ·cases hd
      ·cases hd
     ·cases hd
    ·cases hd
   ·cases hd
  ·cases hd
 ·cases hd
end
end Go.Proofs
end
section
namespace Go.Proofs
open Go Go.Ab Go.Ab.S
theorem zTQ:Has tab zEN where
 contains:=fun s t h hs=>by unfold zEN;rw[if_pos rfl];simp only[hs,if_true]
 itoa:=fun n h h0 h1=>by unfold zEN;rw[if_neg (by decide),if_pos rfl];simp only[h0,h1,and_self,if_true]
 checkNew:=fun b ver s h hb hs=>by unfold zEN;rw[if_neg (by decide),if_neg (by decide),if_pos rfl];simp only[hb,hs,and_self,if_true]
 checkOld:=fun b ver s h hb=>by unfold zEN;rw[if_neg (by decide),if_neg (by decide),if_pos rfl];simp only[hb,and_self,if_true]
 text:=fun b ver p c ver' vs l h hb hc ht hn hl hs=>by
  obtain⟨bs,h1,h2,h3⟩:=zHa l hl;unfold zEN;rw[if_neg (by decide),if_neg (by decide),if_neg (by decide),if_pos rfl];have hne:bs≠[]:=by rintro rfl;simp at h3;exact hn (by simpa using h3.symm)
  simp only[hb,hc,ht,h1];rw[if_pos ⟨trivial,hne,h3,hs⟩,h2]
 funs:=fun _ _ h=>h
 other:=fun f fn hf a h=>by
  unfold zEN;by_cases h1:f=140
  ·subst h1;cases hf
  by_cases h2:f=186
  ·subst h2;cases hf
  by_cases h3:f=173
  ·subst h3;cases hf
  by_cases h4:f=149
  ·subst h4;cases hf
  by_cases h5:f=23
  ·subst h5;cases hf
  by_cases h6:f=56
  ·subst h6;cases hf
  by_cases h7:f=26
  ·subst h7;cases hf
  rw[if_neg h1,if_neg h2,if_neg h3,if_neg h4,if_neg h5,if_neg h6,if_neg h7]
theorem zEC(n:Nat):∀(os:List (TypeId×List AVal)) {h0 h:AHeap},Grow h0 h->Grow h0 (layH n os h)
 |[],_,_,g=>g
 |(e,vs)::r,_,_,g=>by rw[layH];exact zEC n r (g.new _)
theorem zLq{h:AHeap}{b ver:Nat}{ro:Bool}{e:TypeId}{vs:List AVal}{sz n:Nat}{xs:List (List AVal)}(hb:h.objs.get b=some (ver,.cells ro e vs))(hn:n=xs.length)(hx:∀x∈xs,x.length=sz)(hv:vs=xs.flatten):SlAt h sz (.slice (some (b,0)) n) xs:=by
 subst hn;subst hv;refine⟨rfl,fun i x hi=>?_⟩;have aa:=(zgS.1 hi).1;have ac:=hx x (List.mem_of_getElem? hi);refine⟨ac,b,0+i*sz,ver,ro,e,_,by simp[slA,aa],hb,?_⟩;clear hb;induction xs generalizing i with
 |nil=>simp at hi
 |cons y xs ih=>
  cases i with
  |zero=>
   simp only[zgZ,oI] at hi;subst hi;simp only[Nat.zero_mul,Nat.add_zero,zlZ,List.flatten_cons];rw[List.take_append_of_le_length (by omega),List.take_of_length_le (by omega)]
  |succ i=>
   have hy:=hx y (by simp);have:=ih (fun x ab=>hx x (by simp[ab])) i (by simpa using hi) (by simpa using aa);rw[<-this,List.flatten_cons];have he:0+(i+1)*sz=y.length+(0+i*sz):=by rw[hy,Nat.add_mul];omega
   rw[he,List.drop_append,List.drop_eq_nil_of_le (by omega)];simp
theorem zDX(h:AHeap)(sz:Nat):SlAt h sz (.slice none 0) []:=⟨rfl,fun i x hx=>by simp at hx⟩
theorem zHp{h:AHeap}{b ver:Nat}{ro:Bool}{e:TypeId}{n:Nat}{l:List Int}(hb:h.objs.get b=some (ver,.cells ro e (l.map fun k=>.int .i64 k)))(hn:n=l.length):IntsAt h (.slice (some (b,0)) n) l:=by
 refine zLq hb (by simp[hn]) (fun x hx=>?_) ?_
 ·obtain⟨k,_,rfl⟩:=List.mem_map.1 hx;rfl
 ·clear hb hn;induction l with
  |nil=>rfl
  |cons a l ih=>rw[List.map_cons,List.map_cons,List.flatten_cons,<-ih];rfl
theorem zPU{h:AHeap}{b ver:Nat}{ro:Bool}{e:TypeId}{n:Nat}{l:List (List Nat)}(hb:h.objs.get b=some (ver,.cells ro e (l.map fun k=>.str k)))(hn:n=l.length):StrsAt h (.slice (some (b,0)) n) l:=by
 refine zLq hb (by simp[hn]) (fun x hx=>?_) ?_
 ·obtain⟨k,_,rfl⟩:=List.mem_map.1 hx;rfl
 ·clear hb hn;induction l with
  |nil=>rfl
  |cons a l ih=>rw[List.map_cons,List.map_cons,List.flatten_cons,<-ih];rfl
theorem zRd{h:AHeap}{v:AVal}{c1 c2 c3:List AVal}{n1 n2 n3:Ab.Node}(hs:SlAt h 5 v [c1,c2,c3])(h1:NodeAt h c1 n1)(h2:NodeAt h c2 n2)(h3:NodeAt h c3 n3):NodesAt h v [n1,n2,n3]:=by
 refine⟨_,hs,rfl,fun i n c hn hc=>?_⟩
 match i with
 |0=>cases hn;cases hc;exact h1
 |1=>cases hn;cases hc;exact h2
 |2=>cases hn;cases hc;exact h3
 |i+3=>simp at hn
theorem zOw{h:AHeap}{v:AVal}{c1 c2:List AVal}{n1 n2:Ab.Node}(hs:SlAt h 5 v [c1,c2])(h1:NodeAt h c1 n1)(h2:NodeAt h c2 n2):NodesAt h v [n1,n2]:=by
 refine⟨_,hs,rfl,fun i n c hn hc=>?_⟩
 match i with
 |0=>cases hn;cases hc;exact h1
 |1=>cases hn;cases hc;exact h2
 |i+2=>simp at hn
theorem nilI(h:AHeap):IntsAt h (.slice none 0) []:=zDX h 1
theorem nilS(h:AHeap):StrsAt h (.slice none 0) []:=zDX h 1
theorem zKp(h:AHeap):NodeAt h [.int .i64 2,.str [105,110,116],.slice none 0,.slice none 0,.bool false] nI:=⟨_,_,rfl,nilI h,nilS h⟩
theorem zRc(h:AHeap):NodeAt h [.int .i64 1,.str [],.slice none 0,.slice none 0,.bool false] nV:=⟨_,_,rfl,nilI h,nilS h⟩
theorem zTO{c1 c2 c3:List AVal}(h1:c1.length=5)(h2:c2.length=5)(h3:c3.length=5):∀x∈[c1,c2,c3],x.length=5:=by intro x hx;simp only[List.mem_cons,List.not_mem_nil,or_false] at hx;rcases hx with rfl|rfl|rfl<;>assumption
theorem zRz{c1 c2:List AVal}(h1:c1.length=5)(h2:c2.length=5):∀x∈[c1,c2],x.length=5:=by intro x hx;simp only[List.mem_cons,List.not_mem_nil,or_false] at hx;rcases hx with rfl|rfl<;>assumption
theorem zTk(h:AHeap):GraphAt (layH h.next osP h) (.agg [.slice (some (h.next+0,0)) 3,.int .i64 0]) gP:=
 ⟨_,rfl,zRd (c1:=[.int .i64 2,.str [45,62],.slice (some (h.next+1,0)) 2,.slice none 0,.bool false]) (zLq (zBy h.next osP h 0 36 _ rfl) rfl (zTO rfl rfl rfl) rfl) ⟨_,_,rfl,zHp (l:=[1,2]) (zBy h.next osP h 1 3 _ rfl) rfl,nilS _⟩ (zKp _) (zRc _)⟩
theorem zTh(h:AHeap):GraphAt (layH h.next osI h) (.agg [.slice (some (h.next+0,0)) 3,.int .i64 0]) gI:=
 ⟨_,rfl,zRd (c1:=[.int .i64 2,.str [45,62],.slice (some (h.next+1,0)) 2,.slice none 0,.bool false]) (zLq (zBy h.next osI h 0 36 _ rfl) rfl (zTO rfl rfl rfl) rfl) ⟨_,_,rfl,zHp (l:=[1,2]) (zBy h.next osI h 1 3 _ rfl) rfl,nilS _⟩ (zKp _) (zKp _)⟩
theorem zTl(h:AHeap):GraphAt (layH h.next osQ h) (.agg [.slice (some (h.next+0,0)) 2,.int .i64 0]) gQb:=
 ⟨_,rfl,zOw (c1:=[.int .i64 2,.str [45,62],.slice (some (h.next+1,0)) 2,.slice none 0,.bool false]) (zLq (zBy h.next osQ h 0 36 _ rfl) rfl (zRz rfl rfl) rfl) ⟨_,_,rfl,zHp (l:=[1,1]) (zBy h.next osQ h 1 3 _ rfl) rfl,nilS _⟩ (zRc _)⟩
theorem zTi(h:AHeap):GraphAt (layH h.next osM h) (.agg [.slice (some (h.next+0,0)) 2,.int .i64 0]) gM:=
 ⟨_,rfl,zOw (c1:=[.int .i64 3,.str [],.slice (some (h.next+1,0)) 1,.slice (some (h.next+2,0)) 1,.bool true]) (zLq (zBy h.next osM h 0 36 _ rfl) rfl (zRz rfl rfl) rfl) ⟨_,_,rfl,zHp (l:=[1]) (zBy h.next osM h 1 3 _ rfl) rfl,zPU (l:=[[109]]) (zBy h.next osM h 2 9 _ rfl) rfl⟩ (zKp _)⟩
theorem zTj(h:AHeap):GraphAt (layH h.next osN h) (.agg [.slice (some (h.next+0,0)) 2,.int .i64 0]) gN:=
 ⟨_,rfl,zOw (c1:=[.int .i64 3,.str [],.slice (some (h.next+1,0)) 1,.slice (some (h.next+2,0)) 1,.bool false]) (zLq (zBy h.next osN h 0 36 _ rfl) rfl (zRz rfl rfl) rfl) ⟨_,_,rfl,zHp (l:=[1]) (zBy h.next osN h 1 3 _ rfl) rfl,zPU (l:=[[110]]) (zBy h.next osN h 2 9 _ rfl) rfl⟩ (zKp _)⟩
theorem zEO(s:List Nat)(h:AHeap){n:Nat}{os:List (TypeId×List AVal)}(hr:rdOf s=some (n,os)):zEN 23 [.str s] h=some (.ret (.tuple [.agg [.slice (some (h.next+0,0)) n,.int .i64 0],.int .i64 0],layH h.next os h)):=by unfold zEN;rw[if_neg (by decide),if_neg (by decide),if_neg (by decide),if_neg (by decide),if_pos rfl];dsimp only;rw[hr];rfl
theorem zSG:HasRead zEN:=by
 refine⟨fun s G hm h hw=>?_⟩;simp only[List.mem_cons,Prod.mk.injEq,List.not_mem_nil,or_false] at hm;rcases hm with⟨rfl,rfl⟩|⟨rfl,rfl⟩|⟨rfl,rfl⟩|⟨rfl,rfl⟩|⟨rfl,rfl⟩
 ·exact⟨_,_,zEO _ h rfl,zTk h,zEC _ _ (Grow.refl hw)⟩
 ·exact⟨_,_,zEO _ h rfl,zTl h,zEC _ _ (Grow.refl hw)⟩
 ·exact⟨_,_,zEO _ h rfl,zTh h,zEC _ _ (Grow.refl hw)⟩
 ·exact⟨_,_,zEO _ h rfl,zTi h,zEC _ _ (Grow.refl hw)⟩
 ·exact⟨_,_,zEO _ h rfl,zTj h,zEC _ _ (Grow.refl hw)⟩
theorem zSH:HasSort zEN where
 none:=fun h=>by unfold zEN;rw[if_neg (by decide),if_neg (by decide),if_neg (by decide),if_neg (by decide),if_neg (by decide),if_pos rfl];simp
 zero:=fun h=>by unfold zEN;rw[if_neg (by decide),if_neg (by decide),if_neg (by decide),if_neg (by decide),if_neg (by decide),if_pos rfl]
 some:=fun l hl hn h b ver vs hw hb ab ht=>by
  unfold zEN;rw[if_neg (by decide),if_neg (by decide),if_neg (by decide),if_neg (by decide),if_neg (by decide),if_pos rfl];simp only[hb,ht,zJN];have aa:(2:Nat) ^ 31=2147483648:=by decide
  rw[if_pos ⟨trivial,trivial,by omega,List.all_eq_true.2 fun s hs=>List.all_eq_true.2 fun c hc=>decide_eq_true (hl s hs c hc)⟩]
theorem hasAs:HasAs zEN where
 no:=fun x h=>by unfold zEN;rw[if_neg (by decide),if_neg (by decide),if_neg (by decide),if_neg (by decide),if_neg (by decide),if_neg (by decide),if_pos rfl];rfl
 yes:=fun r h bw vw w hE hb=>by obtain⟨bj,vj,be,ve,vs,b1,b2,rfl,h1,h2,h3⟩:=hE;refine⟨some (b2,0),?_⟩;unfold zEN;rw[if_neg (by decide),if_neg (by decide),if_neg (by decide),if_neg (by decide),if_neg (by decide),if_neg (by decide),if_pos rfl];unfold asF;dsimp only;rw[if_pos ⟨rfl,rfl,rfl,rfl⟩];simp only[h1,hb];rw[if_pos (by simp)];simp only[h2,h3];rw[if_pos (by simp)]
end Go.Proofs
end
section
namespace Go.Ab
open Go.RowKit (Below)

section
variable{H:Type}{enc:TypeId×Value->H}{P:Program}{W:World}{G:GM}{h:AHeap}

theorem zRm{G:GM}{k:Nat}{gi:GI}{i:Nat}(hi:i≠k):(fun j=>if j=k then some gi else G j) i=G i:=by simp[hi]
theorem Rel.addRo(R:Rel P W.heap.size W G h W)(hw:WF h){b off size:Nat}{e:TypeId}{c:Array Value}{t:TypeId}{fr:Nat×Nat}{vs:List AVal}(hb:W.heap[b]?=some (.cells c t fr))(hs:off+size<=c.size)(hl:vs.length<=size)(hv:VsR P G vs ((c.toList.drop off).take vs.length)):
  ∃G',Rel P W.heap.size W G' (newA h (.cells true e vs)) W/\GLe G G'/\Grow h (newA h (.cells true e vs))/\G' h.next=some ⟨b,size,e,off⟩/\(newA h (.cells true e vs)).objs.get h.next=some (h.next,.cells true e vs):=by
 have hbN:b<W.heap.size:=zAy hb
 let G':GM:=fun j=>if j=h.next then some ⟨b,size,e,off⟩ else G j
 have ab:∀i,i≠h.next->G' i=G i:=fun i hi=>zRm hi;have ac:G' h.next=some ⟨b,size,e,off⟩:=if_pos rfl;have hle:GLe G G':=fun i gi hi=>by
  by_cases hk:i=h.next
  ·subst hk;rw[R.fresh _ (Nat.le_refl _)] at hi;cases hi
  ·rw[ab i hk];exact hi
 have aa:∀id x,(newA h (.cells true e vs)).objs.get id=some x->(id≠h.next/\h.objs.get id=some x)\/(id=h.next/\x=(h.next,.cells true e vs)):=by
  intro id x hx;rw[zHy] at hx;split at hx
  ·rename_i hk;simp only[oI] at hx;exact .inr ⟨hk,hx.symm⟩
  ·rename_i hk;exact .inl ⟨hk,hx⟩
 refine⟨G',⟨?_,?_,?_,?_,?_,?_,?_,R.below,R.size,?_⟩,hle,(Grow.refl hw).new _,ac,zAQ _ _⟩
 ·intro id ver o hx;rcases aa id _ hx with⟨hk,h1⟩|⟨rfl,h1⟩
  ·obtain⟨gi,k1,ob,k2,k3⟩:=R.obj id ver o h1;exact⟨gi,by rw[ab id hk];exact k1,ob,k2,k3.mono hle⟩
  ·simp only[Prod.mk.injEq] at h1;obtain⟨rfl,rfl⟩:=h1;exact⟨_,ac,_,hb,c,t,fr,rfl,(fun hh=>by cases hh),hs,rfl,hl,hv.mono hle⟩
 ·intro id id' x x' gi gi' hx hx' hf hg hg' hbb;rcases aa id _ hx with⟨hk,h1⟩|⟨rfl,h1⟩
  ·rw[ab id hk] at hg;rcases aa id' _ hx' with⟨hk',h1'⟩|⟨rfl,h1'⟩
   ·rw[ab id' hk'] at hg';exact R.inj id id' x x' gi gi' h1 h1' hf hg hg' hbb
   ·rw[ac] at hg';cases hg';have:=R.own id x.1 x.2 gi h1 hg hf;have hbb:gi.blk=b:=hbb;omega
  ·rw[h1] at hf;cases hf
 ·intro id ver o gi hx hg hf;rcases aa id _ hx with⟨hk,h1⟩|⟨rfl,h1⟩
  ·rw[ab id hk] at hg;exact R.own id ver o gi h1 hg hf
  ·simp only[Prod.mk.injEq] at h1;rw[h1.2] at hf;cases hf
 ·intro id hid;rw[zBL] at hid;rw[ab id (by omega)];exact R.fresh id (by omega)
 ·intro id ver o hx;rw[zBL];rcases aa id _ hx with⟨_,h1⟩|⟨_,h1⟩
  ·have:=R.vers id ver o h1;omega
  ·simp only[Prod.mk.injEq] at h1;omega
 ·intro g hg;have:=R.low;rw[ab g (by omega)];exact R.glob g hg
 ·rw[zBL];have:=R.low;omega
 ·intro id ver o gi hx hg hr;rcases aa id _ hx with⟨hk,h1⟩|⟨rfl,h1⟩
  ·rw[ab id hk] at hg;exact R.rolow id ver o gi h1 hg hr
  ·rw[ac] at hg;cases hg;exact hbN

theorem zLT{w:World}{a:Addr}{v:Value}(h:w.cell? a=some v):∃c t fr,w.heap[a.block]?=some (.cells c t fr)/\a.spot=none/\c[a.off]?=some v:=by
 simp only[World.cell?] at h;split at h
 ·rename_i c t fr hc;cases hs:a.spot with
  |none=>rw[hs] at h;exact⟨c,t,fr,hc,rfl,by simpa using h⟩
  |some s=>rw[hs] at h;simp at h
 ·cases h
theorem zLN(a:Addr)(n:Nat):(a.add n).block=a.block/\(a.add n).off=a.off+n:=by
 unfold Addr.add;split
 ·rename_i hn;subst hn;exact⟨rfl,rfl⟩
 ·exact⟨rfl,rfl⟩
theorem zIN{w:World}{a:Addr}{m:Nat}(hm:0<m){V:Nat->Value}(h:∀i,i<m->w.cell? (a.add i)=some (V i)):∃c t fr,w.heap[a.block]?=some (.cells c t fr)/\a=⟨a.block,a.off,none⟩/\a.off+m<=c.size/\∀i,i<m->c[a.off+i]?=some (V i):=by
 obtain⟨c,t,fr,hc,hs,_⟩:=zLT (h 0 hm);have hs:a.spot=none:=by
  have:a.add 0=a:=by simp[Addr.add]
  rwa [this] at hs
 rw[(zLN a 0).1] at hc;have aa:∀i,i<m->c[a.off+i]?=some (V i):=fun i hi=>by
  obtain⟨c',t',ac,ab,_,hv⟩:=zLT (h i hi);rw[(zLN a i).1,hc] at ab;cases ab
  rwa [(zLN a i).2] at hv
 refine⟨c,t,fr,hc,by cases a;simp_all,?_,aa⟩;have:=aa (m - 1) (by omega);have:=(Array.getElem?_eq_some_iff.1 this).1;omega
theorem VsR_of{G:GM}:∀{xs:List AVal} {vs:List Value},vs.length=xs.length->(∀(i:Nat) x v,xs[i]?=some x->vs[i]?=some v->VR P G x v)->VsR P G xs vs
 |[],[],_,_=>rfl
 |[],_::_,h,_=>by simp at h
 |_::_,[],h,_=>by simp at h
 |x::xs,v::vs,h,hh=>⟨v,vs,rfl,hh 0 x v rfl rfl,VsR_of (by simpa using h) fun i x v hx hv=>hh (i+1) x v (by simpa using hx) (by simpa using hv)⟩
theorem VsR_row{G:GM}{c:Array Value}{off:Nat}{vs:List AVal}(hs:off+vs.length<=c.size)(hh:∀(i:Nat) x v,vs[i]?=some x->c[off+i]?=some v->VR P G x v):VsR P G vs ((c.toList.drop off).take vs.length):=by refine VsR_of (by simp;omega) fun i x v hx hv=>?_;have hi:=(zgS.1 hx).1;rw[List.getElem?_take,if_pos hi,List.getElem?_drop,Array.getElem?_toList] at hv;exact hh i x v hx hv
structure Meas(μ:DataW H->Nat):Prop where
 agg:∀l,(l.map μ).sum+1<=μ (.agg l)
 slice:∀l r,(l.map μ).sum+1<=μ (.slice l r)
 str:∀s,s.length+1<=μ (.lit (.string s))
 lit:∀x,1<=μ (.lit x)
theorem zHH{f:Nat->Nat}{n:Nat}{l:List Nat}(hl:l.length=n)(h:∀i,i<n->l.getD i 0<=f i):l.sum<=((List.range n).map f).sum:=by
 subst hl;induction l generalizing f with
 |nil=>simp
 |cons a l ih=>
  rw[zlC,List.range_succ_eq_map,List.map_cons,List.sum_cons,List.sum_cons,List.map_map];have h0:=h 0 (by simp);have:=ih (f:=f∘Nat.succ) fun i hi=>by simpa using h (i+1) (by simpa using hi)
  simp only[List.getD_cons_zero] at h0;omega
theorem zMw:∀l:List Nat,(l.map fun _=>1).sum=l.length
 |[]=>rfl
 |_::l=>by simp only[List.map_cons,List.sum_cons,zMw l,zlC];omega
def Laid(P:Program)(W:World)(G:GM)(h:AHeap)(Q:GM->AHeap->Prop):Prop:=∃G' h',Rel P W.heap.size W G' h' W/\GLe G G'/\Grow h h'/\Q G' h'

theorem zQZ{μ:DataW H->Nat}(hμ:Meas μ){t e:TypeId}{fuel:Nat}{v:Value}{x:DataW H×List MemPlace}(ht:P.underlying t=some (.slice e))(he:P.underlying e=some (.int .i64))(hc:P.cellsOf e=1)
  (hx:DataW.trod enc P W 0 (fun _=>true) true fuel t [v]=some x) (R:Rel P W.heap.size W G h W) (hw:WF h):Laid P W G h fun G' h'=>∃av l,VR P G' av v/\IntsAt h' av l/\l.length<=μ x.1:=by
 rcases Go.Deep.open_slice1 ht hc hx with⟨h1,rfl⟩|⟨a,len,ai,cap,n,V,D,Pl,h1,hb,hl,hm,ae,rfl,ab⟩
 ·simp only[List.cons.injEq,and_true] at h1;subst h1;exact⟨G,h,R,GLe.refl G,Grow.refl hw,.slice none 0,[],⟨rfl,rfl⟩,⟨rfl,fun i x hx=>by simp at hx⟩,by simp⟩
 ·simp only[List.cons.injEq,and_true] at h1;subst h1;simp only[if_true] at ae;subst ae;rcases Nat.eq_zero_or_pos cap with h0|h0
  ·subst h0;obtain rfl:len=0:=by omega
   exact⟨G,h,R,GLe.refl G,Grow.refl hw,.slice0,[],⟨a,rfl⟩,⟨rfl,fun i x hx=>by simp at hx⟩,by simp⟩
  obtain⟨c,ty,fr,af,ha,ah,ad⟩:=zIN h0 fun i hi=>(ab i hi).1;have ac:∀i,i<cap->∃k:Int,V i=.int .i64 k:=fun i hi=>by obtain⟨k,h1,_⟩:=DataW.trod_int he (ab i hi).2;exact⟨k,by simpa using h1⟩
  obtain⟨K,hK⟩:=Go.Deep.choose_lt ac;have aa:((List.range len).map fun i=>AVal.int .i64 (K i)).length=len:=by simp
  obtain⟨G',R',g1,g2,g3,g4⟩:=R.addRo hw (e:=e) (off:=a.off) (size:=cap) (vs:=(List.range len).map fun i=>AVal.int .i64 (K i)) af ah (by rw[aa];exact hl) (VsR_row (by rw[aa];omega) fun i x v hx hv=>by
   have hi:=(zgS.1 hx).1;rw[aa] at hi;rw[ad i (by omega),oI] at hv;rw[zgM,List.getElem?_range hi] at hx;simp only[Option.map_some,oI] at hx;rw[<-hx,<-hv,hK i (by omega)];rfl)
  refine⟨G',_,R',g1,g2,.slice (some (h.next,0)) len,(List.range len).map K,⟨_,cap,g3,?_,hl,?_⟩,⟨by simp[lenO],fun i x hx=>?_⟩,?_⟩
  ·rw[ha];rfl
  ·rw[hc];simp
  ·simp only[List.map_map,zgM] at hx;obtain⟨j,hj,rfl⟩:=Option.map_eq_some_iff.1 hx;obtain⟨hij,rfl⟩:=zgS.1 hj;simp only[List.length_range] at hij;simp only[List.getElem_range];refine⟨rfl,h.next,i,h.next,true,e,_,by simp[slA,hij],g4,?_⟩;apply List.ext_getElem?;intro k;cases k with
   |zero=>simp[List.getElem?_take,List.getElem?_drop,hij,intC]
   |succ k=>simp[List.getElem?_take,intC]
  ·refine Nat.le_trans ?_ (Nat.le_trans (Nat.le_succ _) (hμ.slice ((List.range len).map D) _));have h2:((List.range len).map K).length=((List.range len).map fun _=>1).sum:=by rw[zMw];simp
   have h3:=zHH (f:=fun i=>μ (D i)) (n:=len) (l:=(List.range len).map fun _=>1) (by simp) fun i hi=>by obtain⟨k,h1,h2,_⟩:=DataW.trod_int he (ab i (by omega)).2;simp only[Prod.mk.injEq] at h2;simp only[List.getD,zgM,List.getElem?_range hi,Option.map_some,Option.getD_some,h2.1];exact hμ.lit _
   rw[List.map_map];have h4:((List.range len).map (μ∘D)).sum=((List.range len).map fun i=>μ (D i)).sum:=rfl;omega

theorem zQb{μ:DataW H->Nat}(hμ:Meas μ){t e:TypeId}{fuel:Nat}{v:Value}{x:DataW H×List MemPlace}(ht:P.underlying t=some (.slice e))(he:P.underlying e=some .string)(hc:P.cellsOf e=1)
  (hx:DataW.trod enc P W 0 (fun _=>true) true fuel t [v]=some x) (R:Rel P W.heap.size W G h W) (hw:WF h):Laid P W G h fun G' h'=>∃av l,VR P G' av v/\StrsAt h' av l/\(l.map fun s=>s.length+1).sum<=μ x.1:=by
 rcases Go.Deep.open_strs ht he hc hx with⟨h1,rfl⟩|⟨a,len,capx,cap,Sx,h1,hb,hl,hm,hmm,rfl,hx'⟩
 ·simp only[List.cons.injEq,and_true] at h1;subst h1;exact⟨G,h,R,GLe.refl G,Grow.refl hw,.slice none 0,[],⟨rfl,rfl⟩,⟨rfl,fun i x hx=>by simp at hx⟩,by simp⟩
 ·simp only[List.cons.injEq,and_true] at h1;subst h1;simp only[if_true] at hmm;subst hmm;rcases Nat.eq_zero_or_pos cap with h0|h0
  ·subst h0;obtain rfl:len=0:=by omega
   exact⟨G,h,R,GLe.refl G,Grow.refl hw,.slice0,[],⟨a,rfl⟩,⟨rfl,fun i x hx=>by simp at hx⟩,by simp⟩
  obtain⟨c,ty,fr,hc1,ha,hsz,hall⟩:=zIN h0 fun i hi=>(hx' i hi).1
  let K:Nat->List Nat:=fun i=>(Sx i).data.toList.map UInt8.toNat
  have aa:((List.range len).map fun i=>AVal.str (K i)).length=len:=by simp
  obtain⟨G',R',g1,g2,g3,g4⟩:=R.addRo hw (e:=e) (off:=a.off) (size:=cap) (vs:=(List.range len).map fun i=>AVal.str (K i)) hc1 hsz (by rw[aa];exact hl) (VsR_row (by rw[aa];omega) fun i x v hx hv=>by
   have hi:=(zgS.1 hx).1;rw[aa] at hi;rw[hall i (by omega),oI] at hv;rw[zgM,List.getElem?_range hi] at hx;simp only[Option.map_some,oI] at hx;rw[<-hx,<-hv];exact⟨Sx i,rfl,rfl⟩)
  refine⟨G',_,R',g1,g2,.slice (some (h.next,0)) len,(List.range len).map K,⟨_,cap,g3,?_,hl,?_⟩,⟨by simp[lenO],fun i x hx=>?_⟩,?_⟩
  ·rw[ha];rfl
  ·rw[hc];simp
  ·simp only[List.map_map,zgM] at hx;obtain⟨j,hj,rfl⟩:=Option.map_eq_some_iff.1 hx;obtain⟨hij,rfl⟩:=zgS.1 hj;simp only[List.length_range] at hij;simp only[List.getElem_range];refine⟨rfl,h.next,i,h.next,true,e,_,by simp[slA,hij],g4,?_⟩;apply List.ext_getElem?;intro k;cases k with
   |zero=>simp[List.getElem?_take,List.getElem?_drop,hij,strC]
   |succ k=>simp[List.getElem?_take,strC]
  ·refine Nat.le_trans ?_ (Nat.le_trans (Nat.le_succ _) (hμ.slice ((List.range len).map fun i=>DataW.lit (.string (Sx i).data.toList)) _));rw[List.map_map,List.map_map];have h3:=zHH (f:=fun i=>μ (DataW.lit (.string (Sx i).data.toList))) (n:=len) (l:=(List.range len).map ((fun s=>s.length+1)∘K)) (by simp) fun i hi=>by
    simp only[List.getD,zgM,List.getElem?_range hi,Option.map_some,Option.getD_some];have:=hμ.str (Sx i).data.toList;simpa[K] using this
   have h4:((List.range len).map (μ∘fun i=>DataW.lit (.string (Sx i).data.toList))).sum=((List.range len).map fun i=>μ (DataW.lit (.string (Sx i).data.toList))).sum:=rfl;omega

structure GTypes(P:Program)(tG tNs tN tI tS tB tIs tSs:TypeId):Prop where
 int:P.underlying tI=some (.int .i64)
 str:P.underlying tS=some .string
 bool:P.underlying tB=some .bool
 ints:P.underlying tIs=some (.slice tI)
 strs:P.underlying tSs=some (.slice tS)
 nodes:P.underlying tNs=some (.slice tN)
 node:∃f0 f1 f2 f3 f4,P.underlying tN=some (.struct #[f0,f1,f2,f3,f4])/\(f0.type=tI/\f0.offset=0)/\(f1.type=tS/\f1.offset=1)/\(f2.type=tIs/\f2.offset=2)/\(f3.type=tSs/\f3.offset=3)/\(f4.type=tB/\f4.offset=4)
 graph:∃f0 f1,P.underlying tG=some (.struct #[f0,f1])/\(f0.type=tNs/\f0.offset=0)/\(f1.type=tI/\f1.offset=1)
 cI:P.cellsOf tI=1
 cS:P.cellsOf tS=1
 cB:P.cellsOf tB=1
 cIs:P.cellsOf tIs=1
 cSs:P.cellsOf tSs=1
 cNs:P.cellsOf tNs=1
 cN:P.cellsOf tN=5
 cG:P.cellsOf tG=2
def zBk(n:Node):Nat:=1+n.args.length+(n.labels.map fun s=>s.length+1).sum
def zSE(g:Graph):Nat:=(g.nodes.map zBk).sum
theorem five{cs:List Value}(h:cs.length=5){a b c d e:Value}(h0:cs[0]?=some a)(h1:cs[1]?=some b)(h2:cs[2]?=some c)(h3:cs[3]?=some d)(h4:cs[4]?=some e):cs=[a,b,c,d,e]:=by
 match cs,h with
 |[a',b',c',d',e'],_=>simp at h0 h1 h2 h3 h4;subst h0;subst h1;subst h2;subst h3;subst h4;rfl
theorem zEa{cs:List Value}{o:Nat}(h:o<cs.length):(cs.drop o).take 1=[cs[o]]:=by rw[List.drop_eq_getElem_cons h];rfl
theorem zQa{tG tNs tN tI tS tB tIs tSs:TypeId}(T:GTypes P tG tNs tN tI tS tB tIs tSs){μ:DataW H->Nat}(hμ:Meas μ){fuel:Nat}{cs:List Value}{x:DataW H×List MemPlace}(hx:DataW.trod enc P W 0 (fun _=>true) true fuel tN cs=some x)(R:Rel P W.heap.size W G h W)(hw:WF h):
  Laid P W G h fun G' h'=>∃(n:Node) (c:List AVal),VsR P G' c cs/\c.length=5/\NodeAt h' c n/\zBk n<=μ x.1:=by
 obtain⟨f0,f1,f2,f3,f4,hs,⟨t0,o0⟩,⟨t1,o1⟩,⟨t2,o2⟩,⟨t3,o3⟩,⟨t4,o4⟩⟩:=T.node;obtain⟨xs,n,_,rfl,hl,hxs,hf⟩:=DataW.trod_struct hs hx;rw[T.cN] at hl;have k0:=hf 0 f0 rfl;have k1:=hf 1 f1 rfl;have k2:=hf 2 f2 rfl;have k3:=hf 3 f3 rfl;have k4:=hf 4 f4 rfl;rw[t0,o0,T.cI,zEa (by omega)] at k0;rw[t1,o1,T.cS,zEa (by omega)] at k1;rw[t2,o2,T.cIs,zEa (by omega)] at k2;rw[t3,o3,T.cSs,zEa (by omega)] at k3;rw[t4,o4,T.cB,zEa (by omega)] at k4
 match xs,hxs with
 |[y0,y1,y2,y3,y4],_=>
  simp only[zgZ,List.getElem?_cons_succ] at k0 k1 k2 k3 k4;obtain⟨kd,q0,r0,_⟩:=DataW.trod_int T.int k0;obtain⟨nm,q1,r1,_⟩:=DataW.trod_string T.str k1;obtain⟨op,q4,r4⟩:=DataW.trod_bool T.bool k4;simp only[List.cons.injEq,and_true] at q0 q1 q4;obtain⟨G1,h1,R1,g1,w1,av,l,hav,hl1,hs1⟩:=zQZ hμ T.ints T.int T.cI k2 R hw;obtain⟨G2,h2,R2,g2,w2,lv,ls,hlv,hl2,hs2⟩:=zQb hμ T.strs T.str T.cS k3 R1 w1.wf;refine⟨G2,h2,R2,g1.trans g2,w1.trans w2,⟨kd,nm.data.toList.map UInt8.toNat,l,ls,op⟩,[.int .i64 kd,.str (nm.data.toList.map UInt8.toNat),av,lv,.bool op],?_,rfl,⟨av,lv,rfl,hl1.mono w2,hl2⟩,?_⟩
  ·have hcs:=five hl (zgG (by omega)) (zgG (by omega)) (zgG (by omega)) (zgG (by omega)) (zgG (by omega));rw[hcs,q0,q1,q4];exact⟨_,_,rfl,rfl,_,_,rfl,⟨nm,rfl,rfl⟩,_,_,rfl,hav.mono g2,_,_,rfl,hlv,_,_,rfl,rfl,rfl⟩
  ·have:=hμ.agg [y0.1,y1.1,y2.1,y3.1,y4.1];have e0:1<=μ y0.1:=by rw[r0];exact hμ.lit _
   simp only[List.map_cons,List.map_nil,List.sum_cons,List.sum_nil] at this ⊢;simp only[zBk];omega
theorem zOB{w:World}{base:Nat}{a:Addr}{n:Nat}{cs:List Value}(h:w.cells? base a n=some cs):cs.length=n/\∀j,j<n->w.cell? (a.add j)=cs[j]?:=by
 simp only[World.cells?] at h;split at h
 ·exact⟨by simpa using mapM_some_length h,fun j hj=>by simpa using mapM_some_get h j j (by simp[hj])⟩
 ·cases h
theorem zRn(a:Addr)(n m:Nat)(hs:a.spot=none):(a.add n).add m=a.add (n+m):=by
 obtain⟨b,o,s⟩:=a;simp only at hs;subst hs;unfold Addr.add;by_cases hn:n=0
 ·subst hn;simp
 ·by_cases hm:m=0
  ·subst hm;simp
  ·simp[hn,hm,Nat.add_assoc]
theorem zMb{tG tNs tN tI tS tB tIs tSs:TypeId}(T:GTypes P tG tNs tN tI tS tB tIs tSs){μ:DataW H->Nat}(hμ:Meas μ){fuel:Nat}{C:Nat->List Value}{D:Nat->DataW H}{Pl:Nat->List MemPlace}:∀(len:Nat),(∀i,i<len->DataW.trod enc P W 0 (fun _=>true) true fuel tN (C i)=some (D i,Pl i))->Rel P W.heap.size W G h W->WF h →
  Laid P W G h fun G' h'=>∃(ns:List Node) (cs:List (List AVal)),ns.length=len/\cs.length=len/\(∀i c,cs[i]?=some c->c.length=5/\VsR P G' c (C i))/\(∀(i:Nat) n c,ns[i]?=some n->cs[i]?=some c->NodeAt h' c n)/\(ns.map zBk).sum<=((List.range len).map fun i=>μ (D i)).sum
 |0,_,R,hw=>⟨G,h,R,GLe.refl G,Grow.refl hw,[],[],rfl,rfl,fun i c hc=>by simp at hc,fun i n c hn=>by simp at hn,by simp⟩
 |len+1,hx,R,hw=>by
  obtain⟨G1,h1,R1,g1,w1,ns,cs,hn,hc,hv,ha,hs⟩:=zMb T hμ len (fun i hi=>hx i (by omega)) R hw;obtain⟨G2,h2,R2,g2,w2,n,c,hcv,hcl,hna,hsz⟩:=zQa T hμ (hx len (by omega)) R1 w1.wf;refine⟨G2,h2,R2,g1.trans g2,w1.trans w2,ns++[n],cs++[c],by simp[hn],by simp[hc],fun i d hd=>?_,fun i m d hm hd=>?_,?_⟩
  ·rcases Nat.lt_or_ge i len with hi|hi
   ·rw[List.getElem?_append_left (by omega)] at hd;obtain⟨q1,q2⟩:=hv i d hd;exact⟨q1,q2.mono g2⟩
   ·rw[List.getElem?_append_right (by omega),hc] at hd;obtain rfl:i=len:=by
     have:=(zgS.1 hd).1;simp at this;omega
    rw[Nat.sub_self,zgZ,oI] at hd;subst hd;exact⟨hcl,hcv⟩
  ·rcases Nat.lt_or_ge i len with hi|hi
   ·rw[List.getElem?_append_left (by omega)] at hd hm;exact(ha i m d hm hd).mono w2
   ·rw[List.getElem?_append_right (by omega),hc] at hd;rw[List.getElem?_append_right (by omega),hn] at hm;obtain rfl:i=len:=by
     have:=(zgS.1 hd).1;simp at this;omega
    rw[Nat.sub_self,zgZ,oI] at hd hm;subst hd;subst hm;exact hna
  ·rw[List.map_append,List.sum_append,List.range_succ,List.map_append,List.sum_append];simp only[List.map_cons,List.map_nil,List.sum_cons,List.sum_nil];simp only at hsz;omega

theorem zJc{sz:Nat}:∀(ys:List (List AVal)),(∀c∈ys,c.length=sz)->∀(j:Nat) (hj:j<ys.length),(ys.flatten.drop (j*sz)).take sz=ys[j]
 |[],_,j,hj=>by simp at hj
 |y::ys,hall,0,_=>by simp[<-hall y (by simp)]
 |y::ys,hall,j+1,hj=>by
  have hy:y.length=sz:=hall y (by simp);have e1:(j+1)*sz - y.length=j*sz:=by rw[hy,Nat.succ_mul];omega
  have e2:y.drop ((j+1)*sz)=[]:=List.drop_eq_nil_of_le (by rw[hy,Nat.succ_mul];omega);rw[List.flatten_cons,List.drop_append,e1,e2,zlA,List.getElem_cons_succ];exact zJc ys (fun c hc=>hall c (by simp[hc])) j (by simpa using hj)
theorem zJd{sz:Nat}:∀(ys:List (List AVal)),(∀c∈ys,c.length=sz)->ys.flatten.length=ys.length*sz
 |[],_=>by simp
 |y::ys,h=>by rw[List.flatten_cons,zgL,zJd ys fun c hc=>h c (by simp[hc]),h y (by simp),zlC,Nat.succ_mul];omega
theorem zQK{ys:List (List AVal)}(hall:∀c∈ys,c.length=5){k:Nat}{x:AVal}(hk:ys.flatten[k]?=some x):∃c,ys[k / 5]?=some c/\c[k % 5]?=some x:=by
 have aa:=(zgS.1 hk).1;rw[zJd ys hall] at aa;have hj:k / 5<ys.length:=by omega
 refine⟨ys[k / 5],zgG hj,?_⟩;rw[<-zJc ys hall (k / 5) hj,List.getElem?_take,if_pos (by omega),List.getElem?_drop,show k / 5*5+k % 5=k by omega];exact hk
theorem zOn{tG tNs tN tI tS tB tIs tSs:TypeId}(T:GTypes P tG tNs tN tI tS tB tIs tSs){μ:DataW H->Nat}(hμ:Meas μ){fuel:Nat}{v:Value}{x:DataW H×List MemPlace}(hx:DataW.trod enc P W 0 (fun _=>true) true fuel tNs [v]=some x)(R:Rel P W.heap.size W G h W)(hw:WF h):
  Laid P W G h fun G' h'=>∃(nv:AVal) (ns:List Node),VR P G' nv v/\NodesAt h' nv ns/\(ns.map zBk).sum<=μ x.1:=by
 rcases Go.Deep.open_slice T.nodes hx with⟨h1,rfl⟩|⟨a,len,capx,cap,n,D,Pl,h1,hb,hl,hm,hmm,rfl,hx'⟩
 ·simp only[List.cons.injEq,and_true] at h1;subst h1;exact⟨G,h,R,GLe.refl G,Grow.refl hw,.slice none 0,[],⟨rfl,rfl⟩,⟨[],⟨rfl,fun i x hx=>by simp at hx⟩,rfl,fun i n c hn=>by simp at hn⟩,by simp⟩
 ·simp only[List.cons.injEq,and_true] at h1;subst h1;simp only[if_true] at hmm;subst hmm;rcases Nat.eq_zero_or_pos cap with h0|h0
  ·subst h0;obtain rfl:len=0:=by omega
   exact⟨G,h,R,GLe.refl G,Grow.refl hw,.slice0,[],⟨a,rfl⟩,⟨[],⟨rfl,fun i x hx=>by simp at hx⟩,rfl,fun i n c hn=>by simp at hn⟩,by simp⟩
  rw[T.cN] at hx';obtain⟨C,hC⟩:=Go.Deep.choose_lt hx';have hC5:∀i,i<cap->(C i).length=5/\∀j,j<5->W.cell? ((a.add (i*5)).add j)=(C i)[j]?:=fun i hi=>zOB (hC i hi).1;have hspot:a.spot=none:=by obtain⟨q1,q2⟩:=hC5 0 h0;have:=q2 0 (by omega);rw[Nat.zero_mul,show a.add 0=a by simp[Addr.add],show a.add 0=a by simp[Addr.add],zgG (by omega)] at this;obtain⟨_,_,_,_,hs,_⟩:=zLT this;exact hs
  obtain⟨c,ty,fr,hc1,ha,hsz,hall⟩:=zIN (w:=W) (a:=a) (m:=cap*5) (by omega) (V:=fun k=>(C (k / 5)).getD (k % 5) default) fun k hk=>by obtain⟨q1,q2⟩:=hC5 (k / 5) (by omega);have:=q2 (k % 5) (by omega);rw[zRn _ _ _ hspot,show k / 5*5+k % 5=k by omega] at this;rw[this,zgG (by omega),List.getD,zgG (by omega)];rfl
  obtain⟨G1,h1,R1,g1,w1,ns,cs,hn,hc,hv,hna,hs⟩:=zMb T hμ len (fun i hi=>(hC i (by omega)).2) R hw;have aa:∀d∈cs,d.length=5:=fun d hd=>by obtain⟨i,hi,rfl⟩:=List.mem_iff_getElem.1 hd;exact(hv i _ (zgG hi)).1
  have hfl:=zJd cs aa;obtain⟨G',R',g2,w2,g3,g4⟩:=R1.addRo w1.wf (e:=tN) (off:=a.off) (size:=cap*5) (vs:=cs.flatten) hc1 hsz (by rw[hfl,hc];omega) (VsR_row (by rw[hfl,hc];omega) fun k x v hx hv'=>by
   have hk:=(zgS.1 hx).1;rw[hfl,hc] at hk;rw[hall k (by omega),oI] at hv';obtain⟨d,hd1,hd2⟩:=zQK aa hx;obtain⟨_,hd3⟩:=hv _ _ hd1;obtain⟨u,hu1,hu2⟩:=hd3.get hd2;rw[<-hv',List.getD,hu1];exact hu2)
  refine⟨G',_,R',g1.trans g2,w1.trans w2,.slice (some (h1.next,0)) len,ns,⟨_,cap,g3,?_,hl,?_⟩,⟨cs,⟨by simp[lenO,hc],fun i d hd=>?_⟩,by omega,fun i n d hn' hd=>(hna i n d hn' hd).mono w2⟩,?_⟩
  ·rw[ha];rfl
  ·rw[T.cN];simp
  ·have hi:=(zgS.1 hd).1;have hd':=(zgS.1 hd).2;refine⟨aa d (List.mem_of_getElem? hd),h1.next,i*5,h1.next,true,tN,_,by simp[slA];omega,g4,?_⟩;rw[zJc cs aa i hi,hd']
  ·refine Nat.le_trans hs ?_;refine Nat.le_trans ?_ (Nat.le_trans (Nat.le_succ _) (hμ.slice ((List.range len).map D) _));rw[List.map_map];exact Nat.le_refl _
theorem zKi{tG tNs tN tI tS tB tIs tSs:TypeId}(T:GTypes P tG tNs tN tI tS tB tIs tSs){μ:DataW H->Nat}(hμ:Meas μ){cs:Array Value}{d:DataW H}{ps:List MemPlace}(hx:DataW.Trod enc P W 0 (fun _=>true) true tG (.agg cs) d ps)(R:Rel P W.heap.size W G h W)(hw:WF h):
  Laid P W G h fun G' h'=>∃(v:AVal) (g:Graph),VR P G' v (.agg cs)/\GraphAt h' v g/\zSE g<=μ d:=by
 obtain⟨fuel,hx⟩:=hx;obtain⟨f0,f1,hs,⟨t0,o0⟩,⟨t1,o1⟩⟩:=T.graph;obtain⟨xs,n,_,aa,hl,hxs,hf⟩:=DataW.trod_struct hs hx;rw[T.cG] at hl;have hl:cs.toList.length=2:=hl;have k0:=hf 0 f0 rfl;have k1:=hf 1 f1 rfl;have hcs:(Value.agg cs).cells.toList=cs.toList:=rfl;rw[hcs] at k0 k1;rw[t0,o0,T.cNs,zEa (by omega)] at k0;rw[t1,o1,T.cI,zEa (by omega)] at k1
 match xs,hxs with
 |[y0,y1],_=>
  simp only[zgZ,List.getElem?_cons_succ] at k0 k1;obtain⟨rt,q1,r1,_⟩:=DataW.trod_int T.int k1;simp only[List.cons.injEq,and_true] at q1;obtain⟨G1,h1,R1,g1,w1,nv,ns,hv,hN,hsz⟩:=zOn T hμ k0 R hw;refine⟨G1,h1,R1,g1,w1,.agg [nv,.int .i64 rt],⟨ns,rt⟩,⟨cs,rfl,?_⟩,⟨nv,rfl,hN⟩,?_⟩
  ·match hh:cs.toList,hl with
   |[u0,u1],_=>
    simp only[hh,List.getElem_cons_zero,List.getElem_cons_succ] at hv q1;exact⟨_,_,rfl,hv,_,_,rfl,q1,rfl⟩
  ·simp only[Prod.mk.injEq] at aa;rw[aa.1];have:=hμ.agg ([y0,y1].map (·.1));simp only[List.map_cons,List.map_nil,List.sum_cons,List.sum_nil] at this ⊢;simp only[zSE];omega
end
end Go.Ab
end
