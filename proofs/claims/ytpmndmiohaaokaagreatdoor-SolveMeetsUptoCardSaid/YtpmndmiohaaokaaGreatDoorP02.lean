import Derived.Test.YtpmndmiohaaokaaGreatDoorP01
import Derived.Lib.IndexBytes
import Derived.Deep.AppendSrc
import Derived.Laws.CopyRow
import Derived.RangeFuncRecord
/-
  Part 2 of the proof.
-/
set_option linter.all false
section
namespace Go.Ab
open Go.RowKit (Below)

section
variable{P:Program}{N:Nat}{w0:World}{G G':GM}{h:AHeap}{w:World}{a:AAct}{ag:Act}{M:Nat}

theorem VR.of_ptr{p:Nat×Nat}{V:Value}(hv:VR P G (.ptr (some p)) V):∃g,G p.1=some g/\V=.pointer (some ⟨g.blk,g.off+p.2,none⟩):=hv

theorem zTf{x:Operand}{x':AOpd}{c:Call}{t:TypeId}{s:List Nat}(hc:c.callee=.builtin .len)(hx:c.args.toList=[x])(ht:c.argTypes.toList=[t])(hu:P.underlying t=some .string)
  (hv:VR P G (.str s) (ag.eval x)):QY P G w ag (.call c) (.int .i64 (Int.ofNat s.length)) none:=by
 obtain⟨b,hb,rfl⟩:=hv;have aa:c.argTypes= #[t]:=by cases hh:c.argTypes;rw[hh] at ht;simp at ht;rw[ht]
 refine⟨.int .i64 (Int.ofNat b.size),by simp[VR],fun o ho w' _=>?_⟩;rw[zHS hc hx ht o ho,hb,aa];simp[Builtin.len_,run_underlying hu,goInt]

theorem zMo{x:Operand}{c:Call}{t e:TypeId}{n:Nat}{A:Option Addr}{cp:Nat}(hc:c.callee=.builtin .len)(hx:c.args.toList=[x])(ht:c.argTypes.toList=[t])(hu:P.underlying t=some (.slice e))
  (hv:ag.eval x=.slice A n cp):QY P G w ag (.call c) (.int .i64 (Int.ofNat n)) none:=by
 have aa:c.argTypes= #[t]:=by cases hh:c.argTypes;rw[hh] at ht;simp at ht;rw[ht]
 refine⟨.int .i64 (Int.ofNat n),rfl,fun o ho w' _=>?_⟩;rw[zHS hc hx ht o ho,hv,aa];simp[Builtin.len_,run_underlying hu,goInt]

theorem ER.length:∀{es:List (AVal×AVal×Nat)} {E:List MapEntry},ER P G es E->E.length=es.length
 |[],_,e=>by cases e;rfl
 |(_,_,_)::_,_,⟨e,es',rfl,_,_,_,r⟩=>by simp[r.length]

theorem q_len(hR:Rel P N w0 G h w)(ha:ActR P G M a ag){x:Operand}{c:Call}{t:TypeId}{q:QOp}{v:AVal}{id:Option Nat}(hc:c.callee=.builtin .len)(hx:c.args.toList=[x])(ht:c.argTypes.toList=[t])
  (hq:cLen P x t=some q) (e:qA a h q=some (v,id)):QY P G w ag (.call c) v id:=by
 unfold cLen at hq;split at hq
 ·rename_i x' aa hu;simp only[oI] at hq;subst hq;simp only[qA] at e;split at e
  ·rename_i s hs;simp only[oI,Prod.mk.injEq] at e;obtain⟨rfl,rfl⟩:=e;exact zTf (x':=x') hc hx ht hu (zBU hR.glob ha aa hs)
  ·cases e
 ·rename_i el x' aa hu;simp only[oI] at hq;subst hq;simp only[qA] at e;split at e
  ·rename_i p n hs;simp only[oI,Prod.mk.injEq] at e;obtain⟨rfl,rfl⟩:=e;have hv:=zBU hR.glob ha aa hs;cases p with
   |none=>obtain⟨rfl,hv⟩:=hv;exact zMo hc hx ht hu hv
   |some p=>obtain⟨g,c',_,hv,_⟩:=hv;exact zMo hc hx ht hu hv
  ·rename_i hs;simp only[oI,Prod.mk.injEq] at e;obtain⟨rfl,rfl⟩:=e;obtain⟨A,hv⟩:=zBU hR.glob ha aa hs;exact zMo (n:=0) hc hx ht hu hv
  ·rename_i hs;simp only[oI,Prod.mk.injEq] at e;obtain⟨rfl,rfl⟩:=e;obtain⟨A,c',hv⟩:=zBU hR.glob ha aa hs;exact zMo (n:=0) hc hx ht hu hv
  ·cases e
 ·rename_i kt et x' aa hu;simp only[oI] at hq;subst hq;have ht':c.argTypes= #[t]:=by cases hh:c.argTypes;rw[hh] at ht;simp at ht;rw[ht]
  simp only[qA] at e;split at e
  ·rename_i hs;simp only[oI,Prod.mk.injEq] at e;obtain⟨rfl,rfl⟩:=e;have hv:=zBU hR.glob ha aa hs;refine⟨.int .i64 0,rfl,fun o ho w' _=>?_⟩;rw[zHS hc hx ht o ho,hv,ht'];simp[Builtin.len_,run_underlying hu,goInt]
  ·rename_i r hs;split at e
   ·rename_i ver es clock hget;simp only[oI,Prod.mk.injEq] at e;obtain⟨rfl,rfl⟩:=e;obtain⟨g,hg,hv⟩:=zBU hR.glob ha aa hs;obtain⟨gi,hgi,ob,hob,E,rfl,hE⟩:=hR.obj r ver _ hget;rw[hg] at hgi;cases hgi;refine⟨.int .i64 (Int.ofNat es.length),rfl,fun o ho w' hl=>?_⟩;rw[zHS hc hx ht o ho,hv,ht'];have:=zAv (P:=P) (w:=w') (by rw[hl _ rfl _ hg];exact hob) (by intro c e f hh;cases hh);have hlen:=hE.length;simp at hlen;simp[Builtin.len_,run_underlying hu,goInt,this,hlen]
   ·cases e
  ·cases e
 ·cases hq

theorem zHb{t:TypeId}{i:Nat}{f:Field}(e:zML P t i=some f):∃fs,P.underlying t=some (.struct fs)/\fs[i]?=some f:=by
 unfold zML at e;split at e
 ·rename_i fs hu;exact⟨fs,hu,by simpa using e⟩
 ·cases e

set_option maxHeartbeats 1000000 in
theorem zJs(hR:Rel P N w0 G h w)(ha:ActR P G M a ag){op:Op}{q:QOp}{v:AVal}{id:Option Nat}(hq:cQ P op=some q)(e:qA a h q=some (v,id)):QY P G w ag op v id:=by
 have aa:∀{x:Operand} {x':AOpd} {v:AVal},cOpd P x=some x'->ev a x'=some v->VR P G v (ag.eval x):=fun h1 h2=>zBU hR.glob ha h1 h2;cases op with
 |move x=>
  simp only[cQ] at hq;split at hq
  ·rename_i x' hx;simp only[oI] at hq;subst hq;simp only[qA] at e;split at e
   ·rename_i u hu;simp only[oI,Prod.mk.injEq] at e;obtain⟨rfl,rfl⟩:=e;exact⟨_,aa hx hu,fun o ho w' _=>by unfold execOp;rw[ho];rfl⟩
   ·cases e
  ·cases hq
 |assign x=>
  simp only[cQ] at hq;split at hq
  ·rename_i x' hx;simp only[oI] at hq;subst hq;simp only[qA] at e;split at e
   ·rename_i u hu;simp only[oI,Prod.mk.injEq] at e;obtain⟨rfl,rfl⟩:=e;exact⟨_,aa hx hu,fun o ho w' _=>by unfold execOp;rw[ho];rfl⟩
   ·cases e
  ·cases hq
 |pick c x y=>
  simp only[cQ] at hq;split at hq
  ·rename_i c' x' y' hc hx hy;simp only[oI] at hq;subst hq;simp only[qA] at e;split at e
   ·rename_i hb;split at e
    ·rename_i u hu;simp only[oI,Prod.mk.injEq] at e;obtain⟨rfl,rfl⟩:=e;have hb':=aa hc hb;exact⟨_,aa hx hu,fun o ho w' _=>by unfold execOp;rw[ho];simp only[VR] at hb';simp[hb',asBool]⟩
    ·cases e
   ·rename_i hb;split at e
    ·rename_i u hu;simp only[oI,Prod.mk.injEq] at e;obtain⟨rfl,rfl⟩:=e;have hb':=aa hc hb;exact⟨_,aa hy hu,fun o ho w' _=>by unfold execOp;rw[ho];simp only[VR] at hb';simp[hb',asBool]⟩
    ·cases e
   ·cases e
  ·cases hq
 |build t ps=>
  simp only[cQ] at hq;split at hq
  ·rename_i fs z ps' hu hz hps;split at hq
   ·rename_i hall;simp only[oI] at hq;subst hq;simp only[qA] at e;split at e
    ·rename_i cs hcs;simp only[oI,Prod.mk.injEq] at e;obtain⟨rfl,rfl⟩:=e;exact QY.of_yi (zHZ (id:=none) (w:=w) hR.glob ha hz hps hcs (.inl ⟨fs,hu,hall⟩)) fun o ho=>by unfold execOp;rw[ho]
    ·cases e
   ·cases hq
  ·rename_i n el z ps' hu hz hps;split at hq
   ·rename_i i hi;simp only[oI] at hq;subst hq;simp only[qA] at e;split at e
    ·rename_i cs hcs;simp only[oI,Prod.mk.injEq] at e;obtain⟨rfl,rfl⟩:=e;exact QY.of_yi (zHZ (id:=none) (w:=w) hR.glob ha hz hps hcs (.inr ⟨n,el,i,hu,hi⟩)) fun o ho=>by unfold execOp;rw[ho]
    ·cases e
   ·cases hq
  ·cases hq
 |nilCheck x=>
  simp only[cQ] at hq;split at hq
  ·rename_i x' hx;simp only[oI] at hq;subst hq;simp only[qA] at e;split at e
   ·rename_i p hp;simp only[oI,Prod.mk.injEq] at e;obtain⟨rfl,rfl⟩:=e;have hv:=aa hx hp;obtain⟨g,hg,hv'⟩:=hv.of_ptr;exact⟨_,hv,fun o ho w' _=>by unfold execOp;rw[ho];simp[hv']⟩
   ·cases e
  ·cases hq
 |binOp op t x y ty=>
  simp only[cQ,cBin] at hq;split at hq
  ·rename_i u' v' k hx hy hu;simp only[oI] at hq;subst hq;simp only[qA] at e;split at e
   ·rename_i uu vv h1 h2;split at e
    ·rename_i r hr;simp only[oI,Prod.mk.injEq] at e;obtain⟨rfl,rfl⟩:=e;obtain⟨cv,h3,h4⟩:=zJB (G:=G) (t:=t) hr (aa hx h1) (aa hy h2);exact⟨cv,h3,fun o ho w' _=>by
      unfold execOp;rw[ho];simp[zKe (t:=t) (x:=x) (y:=y) hr (aa hx h1) (aa hy h2) w',h4 w']⟩
    ·cases e
   ·cases e
  ·rename_i u' v' hx hy hu;simp only[oI] at hq;subst hq;simp only[qA] at e;split at e
   ·rename_i uu vv h1 h2;split at e
    ·rename_i r hr;simp only[oI,Prod.mk.injEq] at e;obtain⟨rfl,rfl⟩:=e;obtain⟨cv,h3,h4⟩:=zJB (G:=G) (t:=t) hr (aa hx h1) (aa hy h2);exact⟨cv,h3,fun o ho w' _=>by
      unfold execOp;rw[ho];simp[zKe (t:=t) (x:=x) (y:=y) hr (aa hx h1) (aa hy h2) w',h4 w']⟩
    ·cases e
   ·cases e
  ·rename_i u' v' hx hy _ _;cases op<;>simp only at hq<;>first|cases hq;done|skip
   all_goals
    split at hq
    ·rename_i k hk;simp only[oI] at hq;subst hq;simp only[qA] at e;split at e
     ·rename_i uu vv h1 h2;split at e
      ·rename_i b hb;simp only[oI,Prod.mk.injEq] at e;obtain⟨rfl,rfl⟩:=e;exact⟨_,rfl,fun o ho w' _=>by
        unfold execOp;rw[ho];simp[zOK hk hb (aa hx h1) (aa hy h2) _ w',(zKH hk hb (aa hx h1) (aa hy h2) w').1,(zKH hk hb (aa hx h1) (aa hy h2) w').2]⟩
      ·cases e
     ·cases e
    ·cases hq
  ·cases hq
 |unOp op t x=>
  simp only[cQ] at hq;split at hq
  ·rename_i x' hx;simp only[oI] at hq;subst hq;simp only[qA] at e;split at e
   ·rename_i b hb;simp only[oI,Prod.mk.injEq] at e;obtain⟨rfl,rfl⟩:=e;have hv:=aa hx hb;exact⟨_,rfl,fun o ho w' _=>by unfold execOp;rw[ho];simp only[VR] at hv;simp[hv,Op.unary]⟩
   ·cases e
  ·rename_i x' hx;simp only[oI] at hq;subst hq;simp only[qA] at e;split at e
   ·rename_i k n hb;simp only[oI,Prod.mk.injEq] at e;obtain⟨rfl,rfl⟩:=e;have hv:=aa hx hb;exact⟨_,rfl,fun o ho w' _=>by unfold execOp;rw[ho];simp only[VR] at hv;simp[hv,Op.unary,Op.intArith]⟩
   ·cases e
  ·cases hq
 |convert src dst x=>
  simp only[cQ] at hq;split at hq
  ·rename_i d k x' hs hd hx;simp only[oI] at hq;subst hq;simp only[qA] at e;split at e
   ·rename_i k' n hb;simp only[oI,Prod.mk.injEq] at e;obtain⟨rfl,rfl⟩:=e;have hv:=aa hx hb;exact⟨_,rfl,fun o ho w' _=>by unfold execOp;rw[ho];simp only[VR] at hv;simp[hv,convert,run_underlying hs,run_underlying hd,Conv.intToInt]⟩
   ·cases e
  ·rename_i x' hs hd hx;simp only[oI] at hq;subst hq;simp only[qA] at e;split at e
   ·rename_i s hb;simp only[oI,Prod.mk.injEq] at e;obtain⟨rfl,rfl⟩:=e;have hv:=aa hx hb;obtain⟨b,hb',hb2⟩:=hv;exact⟨.string b,⟨b,rfl,hb2⟩,fun o ho w' _=>by unfold execOp;rw[ho];simp[hb',convert,run_underlying hs,run_underlying hd]⟩
   ·cases e
  ·cases hq
 |makeInterface t x=>
  simp only[cQ] at hq;split at hq
  ·cases hq
  ·rename_i d x' hni hu hx;simp only[oI] at hq;subst hq;simp only[qA] at e;split at e
   ·rename_i u hu';simp only[oI,Prod.mk.injEq] at e;obtain⟨rfl,rfl⟩:=e;refine⟨.iface t (ag.eval x),⟨_,rfl,aa hx hu'⟩,fun o ho w' _=>?_⟩;unfold execOp;rw[ho];cases d<;>first|(simp[Instr.makeInterface,run_underlying hu];done)|(exact absurd rfl (hni _))
   ·cases e
  ·cases hq
 |makeFunc fn first captured=>
  cases fn<;>simp only[cQ] at hq<;>first|cases hq;done|skip
  rename_i f;split at hq
  ·rename_i l m hf hc;simp only[oI] at hq;subst hq;simp only[qA] at e;split at e
   ·rename_i L K h1 h2;simp only[oI,Prod.mk.injEq] at e;obtain⟨rfl,rfl⟩:=e;refine⟨.func (.func f) (first.map ag.eval) (captured.map ag.eval),⟨_,_,rfl,zGO hR.glob ha hf h1,zGO hR.glob ha hc h2⟩,fun o ho w' _=>?_⟩;unfold execOp;rw[ho];simp[Instr.makeFunc]
   ·cases e
  ·cases hq
 |field t x i=>
  simp only[cQ] at hq;split at hq
  ·rename_i f x' hf hx;split at hq
   ·rename_i s hs;simp only[oI] at hq;subst hq;simp only[qA] at e;split at e
    ·rename_i cs hcs;split at e
     ·rename_i u hu;simp only[oI,Prod.mk.injEq] at e;obtain⟨rfl,rfl⟩:=e;obtain⟨fs,hfs,hfi⟩:=zHb hf;obtain⟨L,hL,hLs⟩:=aa hx hcs;obtain⟨cv,h1,h2⟩:=zIE hs hLs hu;refine⟨cv,h1,fun o ho w' _=>?_⟩;unfold execOp;rw[ho];simp[Instr.field,run_underlying hfs,hfi,hL,asAgg,h2 w']
     ·cases e
    ·cases e
   ·cases hq
  ·cases hq
 |fieldAddr t x i=>
  simp only[cQ] at hq;split at hq
  ·rename_i f x' hf hx;split at hq
   ·rename_i n hs;simp only[oI] at hq;subst hq;simp only[qA] at e;split at e
    ·rename_i b o hp;simp only[oI,Prod.mk.injEq] at e;obtain⟨rfl,rfl⟩:=e;obtain⟨fs,hfs,hfi⟩:=zHb hf;obtain⟨g,hg,hv⟩:=aa hx hp;refine⟨.pointer (some ⟨g.blk,g.off+(o+f.offset),none⟩),⟨g,hg,rfl⟩,fun o ho w' _=>?_⟩;unfold execOp;rw[ho];simp[Instr.fieldAt,run_underlying hfs,hfi,hv,Instr.sureAddr,fieldPlace,zAt hs,zCt,Nat.add_assoc]
    ·cases e
   ·cases hq
  ·cases hq
 |indexAddr t x i=>
  simp only[cQ] at hq;split at hq
  ·rename_i el x' i' hu hx hi;split at hq
   ·rename_i s hs;simp only[oI] at hq;subst hq;simp only[qA] at e;split at e
    ·rename_i b o n vi h1 h2;split at e
     ·rename_i j hj;split at e
      ·rename_i hlt;simp only[oI,Prod.mk.injEq] at e;obtain⟨rfl,rfl⟩:=e;obtain⟨g,cp,hg,hv,_⟩:=aa hx h1;obtain⟨k,hk⟩:=zCg hj (aa hi h2);refine⟨.pointer (some ⟨g.blk,g.off+(o+j*s),none⟩),⟨g,hg,rfl⟩,fun o ho w' _=>?_⟩;unfold execOp;rw[ho];have:(0:Int)<=j/\(j:Int)<n:=by omega
       simp[Instr.indexAt,run_underlying hu,hv,hk,asIntOf,zAt hs,zCt,hlt,Nat.add_assoc]
      ·cases e
     ·cases e
    ·cases e
   ·cases hq
  ·rename_i n el x' i' hu hx hi;split at hq
   ·rename_i s hs;simp only[oI] at hq;subst hq;simp only[qA] at e;split at e
    ·rename_i b o vi h1 h2;split at e
     ·rename_i j hj;split at e
      ·rename_i hlt;simp only[oI,Prod.mk.injEq] at e;obtain⟨rfl,rfl⟩:=e;obtain⟨g,hg,hv⟩:=aa hx h1;obtain⟨k,hk⟩:=zCg hj (aa hi h2);refine⟨.pointer (some ⟨g.blk,g.off+(o+j*s),none⟩),⟨g,hg,rfl⟩,fun o ho w' _=>?_⟩;unfold execOp;rw[ho];simp[Instr.indexAt,Instr.sureAddr,run_underlying hu,hv,hk,asIntOf,zAt hs,zCt,hlt,Nat.add_assoc]
      ·cases e
     ·cases e
    ·cases e
   ·cases hq
  ·cases hq
 |index t x i=>
  simp only[cQ] at hq;split at hq
  ·rename_i x' i' hu hx hi;simp only[oI] at hq;subst hq;simp only[qA] at e;split at e
   ·rename_i s vi h1 h2;split at e
    ·rename_i j hj;split at e
     ·rename_i c hc;simp only[oI,Prod.mk.injEq] at e;obtain⟨rfl,rfl⟩:=e;obtain⟨b,hb,hb2⟩:=aa hx h1;obtain⟨k,hk⟩:=zCg hj (aa hi h2);rw[<-hb2,zgM] at hc;cases hbj:b.data.toList[j]? with
      |none=>rw[hbj] at hc;cases hc
      |some y=>
       rw[hbj] at hc;simp only[Option.map_some,oI] at hc;have hby:b[j]?=some y:=by
        have hlt:j<b.size:=by
         rcases Nat.lt_or_ge j b.data.toList.length with hh|hh
         ·simpa using hh
         ·rw[List.getElem?_eq_none hh] at hbj;cases hbj
        rw[ByteArray.getElem?_lt' b j hlt];have:=Lib.data_getElem? b j hlt;rw[hbj] at this;exact this.symm
       refine⟨.int .u8 (Int.ofNat c),rfl,fun o ho w' _=>?_⟩;unfold execOp;rw[ho];simp[Instr.index,run_underlying hu,hb,hk,asIntOf,hby,hc]
     ·cases e
    ·cases e
   ·cases e
  ·rename_i n el x' i' hu hx hi;split at hq
   ·rename_i hw s hs1 hs;simp only[oI] at hq;subst hq;simp only[qA] at e;split at e
    ·rename_i cs vi h1 h2;split at e
     ·rename_i j hj;split at e
      ·rename_i hlt;split at e
       ·rename_i u hu';simp only[oI,Prod.mk.injEq] at e;obtain⟨rfl,rfl⟩:=e;obtain⟨L,hL,hLs⟩:=aa hx h1;obtain⟨k,hk⟩:=zCg hj (aa hi h2);have hw':(if hw.isSome=true then some s else none)=hw:=by
         cases hw with
         |none=>rfl
         |some m=>
          rcases zGF (P:=P) hs1 w with⟨hh,_⟩|⟨m',hh,_,hh2⟩
          ·cases hh
          ·cases hh;rw[zAt hs] at hh2;simp at hh2;simp[hh2]
        rw[hw'] at hu';obtain⟨cv,h3,h4⟩:=zIE hs1 hLs hu';refine⟨cv,h3,fun o ho w' _=>?_⟩;unfold execOp;rw[ho];simp[Instr.index,run_underlying hu,hL,hk,asIntOf,zAt hs,hlt,h4 w']
       ·cases e
      ·cases e
     ·cases e
    ·cases e
   ·cases hq
  ·cases hq
 |slice t x lo hi mx=>
  cases mx with
  |none=>
   simp only[cQ] at hq;split at hq
   ·rename_i x' lo' hi' hu hx hlo hhi;simp only[oI] at hq;subst hq;simp only[qA] at e;split at e
    ·rename_i s h1;split at e
     ·rename_i hh hhh;split at e
      ·rename_i l hl;simp only[oI,Prod.mk.injEq] at e;obtain⟨rfl,rfl⟩:=e;obtain⟨b,hb,rfl⟩:=aa hx h1;have hsz:(b.data.toList.map UInt8.toNat).length=b.size:=by simp
       rw[hsz] at hhh;obtain⟨hle,_,_⟩:=zAm (len:=b.size) (cap:=b.size) hR.glob ha hlo hhi hhh hl (Nat.le_refl _) false w;refine⟨.string (b.extract l hh),⟨_,rfl,?_⟩,fun o ho w' _=>?_⟩
       ·rw[Lib.extract_data,List.drop_take,List.map_take,List.map_drop]
       ·obtain⟨_,_,hr⟩:=zAm (len:=b.size) (cap:=b.size) hR.glob ha hlo hhi hhh hl (Nat.le_refl _) false w';unfold execOp;rw[ho];simp[Instr.sliceAt,Instr.slice,run_underlying hu,hb,hr]
      ·cases e
     ·cases e
    ·cases e
   ·rename_i el x' lo' hi' hu hx hlo hhi;split at hq
    ·rename_i s hs;simp only[oI] at hq;subst hq;simp only[qA] at e;split at e
     ·rename_i n h1;split at e
      ·rename_i hh hhh;split at e
       ·rename_i l hl;simp only[oI,Prod.mk.injEq] at e;obtain⟨rfl,rfl⟩:=e;obtain⟨rfl,hv⟩:=aa hx h1;obtain⟨hle,hle2,_⟩:=zAm (len:=0) (cap:=0) hR.glob ha hlo hhi hhh hl (Nat.le_refl _) true w;refine⟨.slice none 0 0,⟨rfl,rfl⟩,fun o ho w' _=>?_⟩;obtain⟨_,_,hr⟩:=zAm (len:=0) (cap:=0) hR.glob ha hlo hhi hhh hl (Nat.le_refl _) true w';unfold execOp;rw[ho];have h2:l=0:=by omega
        have h3:hh=0:=by omega
        subst h2;subst h3;simp[Instr.sliceAt,Instr.slice,run_underlying hu,hv,hr,zAt hs]
       ·cases e
      ·cases e
     ·rename_i b o n h1;split at e
      ·rename_i hh hhh;split at e
       ·rename_i hl;obtain⟨g,cp,hg,hv,hcap,hroom⟩:=aa hx h1;simp only[oI,Prod.mk.injEq] at e;obtain⟨rfl,rfl⟩:=e;obtain⟨hle,hle2,_⟩:=zAm (len:=n) (cap:=cp) hR.glob ha hlo hhi hhh hl hcap true w;refine⟨.slice (some ⟨g.blk,g.off+o,none⟩) hh cp,⟨g,cp,hg,rfl,by omega,hroom⟩,fun o' ho w' _=>?_⟩;obtain⟨_,_,hr⟩:=zAm (len:=n) (cap:=cp) hR.glob ha hlo hhi hhh hl hcap true w';unfold execOp;rw[ho];simp[Instr.sliceAt,Instr.slice,run_underlying hu,hv,hr,zAt hs,zCt]
       ·rename_i l hl0 hl;obtain⟨g,cp,hg,hv,hcap,hroom⟩:=aa hx h1;obtain⟨hle,hle2,_⟩:=zAm (len:=n) (cap:=cp) hR.glob ha hlo hhi hhh hl hcap true w;split at e
        ·rename_i hlt;split at e
         ·rename_i ver ro e' vs hget;split at e
          ·rename_i hel;subst hel;simp only[oI,Prod.mk.injEq] at e;obtain⟨rfl,rfl⟩:=e;obtain⟨gi,hgi,ob,hob,c,tc,fr,rfl,_,_,hge,_⟩:=hR.obj b ver _ hget;rw[hg] at hgi;cases hgi;have hsz:P.cellsOf g.elem=s:=by rw[hge];exact zGG hs
           refine⟨.slice (some ⟨g.blk,g.off+(o+l*s),none⟩) (hh - l) (cp - l),⟨g,cp - l,hg,rfl,by omega,?_⟩,fun o' ho w' _=>?_⟩
           ·show o+l*s+(cp - l)*P.cellsOf g.elem<=g.size;rw[hsz] at hroom ⊢;have:l*s+(cp - l)*s=cp*s:=by rw[<-Nat.add_mul];congr 1;omega
            omega
           ·obtain⟨_,_,hr⟩:=zAm (len:=n) (cap:=cp) hR.glob ha hlo hhi hhh hl hcap true w';unfold execOp;rw[ho];have hne:¬cp=l:=by omega
            simp[Instr.sliceAt,Instr.slice,run_underlying hu,hv,hr,zAt hs,zCt,hne,Nat.add_assoc]
          ·cases e
         ·cases e
        ·simp only[oI,Prod.mk.injEq] at e;obtain⟨rfl,rfl⟩:=e;refine⟨.slice (if cp=l then some ⟨g.blk,g.off+o,none⟩ else (some (⟨g.blk,g.off+o,none⟩:Addr)).map (·.add (l*s))) (hh - l) (cp - l),⟨if cp=l then ⟨g.blk,g.off+o,none⟩ else (⟨g.blk,g.off+o,none⟩:Addr).add (l*s),cp - l,by rw[show hh - l=0 from by omega];by_cases hcl:cp=l<;>simp[hcl]⟩,fun o' ho w' _=>?_⟩;obtain⟨_,_,hr⟩:=zAm (len:=n) (cap:=cp) hR.glob ha hlo hhi hhh hl hcap true w';unfold execOp;rw[ho];simp[Instr.sliceAt,Instr.slice,run_underlying hu,hv,hr,zAt hs]
       ·cases e
      ·cases e
     ·rename_i h1;split at e
      ·rename_i hh hhh;split at e
       ·rename_i l hl;simp only[oI,Prod.mk.injEq] at e;obtain⟨rfl,rfl⟩:=e;obtain⟨ad,hv⟩:=aa hx h1;obtain⟨hle,hle2,_⟩:=zAm (len:=0) (cap:=0) hR.glob ha hlo hhi hhh hl (Nat.le_refl _) true w;refine⟨.slice (some ad) 0 0,⟨ad,rfl⟩,fun o ho w' _=>?_⟩;obtain⟨_,_,hr⟩:=zAm (len:=0) (cap:=0) hR.glob ha hlo hhi hhh hl (Nat.le_refl _) true w';unfold execOp;rw[ho];have h2:l=0:=by omega
        have h3:hh=0:=by omega
        subst h2;subst h3;simp[Instr.sliceAt,Instr.slice,run_underlying hu,hv,hr,zAt hs]
       ·cases e
      ·cases e
     ·cases e
    ·cases hq
   ·cases hq
  |some mx=>
   cases hi with
   |none=>simp[cQ] at hq
   |some hi=>
    simp only[cQ] at hq;split at hq
    ·rename_i el x' hz hu hx;split at hq
     ·rename_i sz hs;simp only[oI] at hq;subst hq;simp only[Bool.and_eq_true] at hz;obtain⟨⟨hz1,hz2⟩,hz3⟩:=hz;have hb:∀y,isZ y=true->∃k,ag.eval y=.int k 0:=fun y hy=>by
       cases y<;>simp only[isZ,Bool.false_eq_true] at hy;rename_i c;cases c<;>simp only[isZ,Bool.false_eq_true] at hy;rename_i k n;have:n=0:=by simpa using hy
       subst this;exact⟨k,rfl⟩
      obtain⟨k1,hk1⟩:=hb _ hz1;obtain⟨k2,hk2⟩:=hb _ hz2;simp only[qA] at e;have key:∀(A:Option Addr) (n c:Nat) (v:AVal),ag.eval x=.slice A n c->VR P G v (.slice A 0 0)->QY P G w ag (.slice t x lo (some hi) (some mx)) v none:=by
       intro A n c v hv hvr;refine⟨.slice A 0 0,hvr,fun o ho w' _=>?_⟩;have hsb:∀y code,(Instr.sliceBound (.int k1 0) y code).run P w'=.ok 0 w':=fun y code=>by have:=zBa (P:=P) (k:=k1) (Nat.zero_le y) code w';simpa using this
       have hsb2:∀y code,(Instr.sliceBound (.int k2 0) y code).run P w'=.ok 0 w':=fun y code=>by have:=zBa (P:=P) (k:=k2) (Nat.zero_le y) code w';simpa using this
       have hbounds:(Instr.sliceBounds true n c (lo.map ag.eval) (some (ag.eval hi)) (some (ag.eval mx))).run P w'=.ok (0,0,0) w':=by
        cases lo with
        |none=>simp[Instr.sliceBounds,hk1,hk2,hsb,hsb2]
        |some l=>
         obtain⟨k3,hk3⟩:=hb _ hz3;have hsb3:∀y code,(Instr.sliceBound (.int k3 0) y code).run P w'=.ok 0 w':=fun y code=>by have:=zBa (P:=P) (k:=k3) (Nat.zero_le y) code w';simpa using this
         simp[Instr.sliceBounds,hk1,hk2,hk3,hsb,hsb2,hsb3]
       unfold execOp;rw[ho];simp[Instr.sliceAt,Instr.slice,run_underlying hu,hv,hbounds,zAt hs]
      split at e
      ·rename_i n h1;simp only[oI,Prod.mk.injEq] at e;obtain⟨rfl,rfl⟩:=e;obtain⟨rfl,hv⟩:=aa hx h1;exact key _ _ _ _ hv ⟨rfl,rfl⟩
      ·rename_i p n h1;simp only[oI,Prod.mk.injEq] at e;obtain⟨rfl,rfl⟩:=e;obtain⟨g,c,_,hv,_⟩:=aa hx h1;exact key _ _ _ _ hv ⟨_,rfl⟩
      ·rename_i h1;simp only[oI,Prod.mk.injEq] at e;obtain⟨rfl,rfl⟩:=e;obtain⟨A,hv⟩:=aa hx h1;exact key _ _ _ _ hv ⟨_,rfl⟩
      ·cases e
     ·cases hq
    ·cases hq
 |extract x i=>
  simp only[cQ] at hq;split at hq
  ·rename_i x' hx;simp only[oI] at hq;subst hq;simp only[qA] at e;split at e
   ·rename_i vs hvs;split at e
    ·rename_i u hu;simp only[oI,Prod.mk.injEq] at e;obtain⟨rfl,rfl⟩:=e;obtain⟨L,hL,hLs⟩:=aa hx hvs;obtain⟨cv,h1,h2⟩:=hLs.get hu;have h1':L[i]?=some cv:=by simpa using h1
     exact⟨cv,h2,fun o ho w' _=>by unfold execOp;rw[ho];simp[hL,Instr.extract,h1']⟩
    ·cases e
   ·cases e
  ·cases hq
 |load t x=>
  simp only[cQ] at hq;split at hq
  ·rename_i s x' hs hx;simp only[oI] at hq;subst hq;simp only[qA] at e;split at e
   ·rename_i b o hp;split at e
    ·rename_i ver ro el vs hget;split at e
     ·rename_i u hu;simp only[oI,Prod.mk.injEq] at e;obtain⟨rfl,rfl⟩:=e;obtain⟨g,hg,hv⟩:=aa hx hp;obtain⟨gi,hgi,ob,hob,c,tc,fr,rfl,_,_,_,_,hvs⟩:=hR.obj b ver _ hget;rw[hg] at hgi;cases hgi;obtain⟨cv,h1,h2⟩:=zGa (b:=g.blk) (o:=o) (e:=tc) (fr:=fr) hs hvs hu;refine⟨cv,h1,fun o' ho w' hl=>?_⟩;have:=h2 w' (by rw[hl _ rfl _ hg];exact hob);unfold execOp;rw[ho];simp[Instr.loadAt,hv,Instr.sureAddr,this]
     ·cases e
    ·cases e
   ·cases e
  ·cases hq
 |lookup t m k ok=>
  simp only[cQ] at hq;split at hq
  ·cases hq
  ·rename_i kk z m' k' hne hm hm' hk';simp only[oI] at hq;subst hq;have e':∃mv kv,ev a m'=some mv/\ev a k'=some kv/\zCq h kk z ok mv kv=some (v,id):=by
    cases kk with
    |ptr=>exact absurd rfl hne
    |_=>
     simp only[qA] at e;split at e
     ·exact⟨_,_,by assumption,by assumption,e⟩
     ·cases e
   obtain⟨mv,kv,h1,h2,e'⟩:=e';obtain⟨cv,h3,h4⟩:=zHv (P:=P) hR hm e' (aa hm' h1) (aa hk' h2) (fun _=>True) (fun hh=>absurd hh hne);refine⟨cv,h3,fun o ho w' hl=>?_⟩;unfold execOp;rw[ho];simp[h4 w' hl trivial]
  ·cases hq
 |call c=>
  simp only[cQ] at hq;split at hq
  ·rename_i x t hc hx ht;exact q_len hR ha hc hx ht hq e
  ·rename_i x y hc hx;split at hq
   ·rename_i x' y' hx' hy';simp only[oI] at hq;subst hq;simp only[qA] at e;split at e
    ·rename_i k u k' u' h1 h2;simp only[oI,Prod.mk.injEq] at e;obtain⟨rfl,rfl⟩:=e;have h3:=aa hx' h1;have h4:=aa hy' h2;simp only[VR] at h3 h4;refine⟨_,rfl,fun o ho w' _=>?_⟩;rw[zQf hc hx o ho,h3,h4];simp[run_max_int2]
    ·cases e
   ·cases hq
  ·rename_i x y hc hx;split at hq
   ·rename_i x' y' hx' hy';simp only[oI] at hq;subst hq;simp only[qA] at e;split at e
    ·rename_i k u k' u' h1 h2;simp only[oI,Prod.mk.injEq] at e;obtain⟨rfl,rfl⟩:=e;have h3:=aa hx' h1;have h4:=aa hy' h2;simp only[VR] at h3 h4;refine⟨_,rfl,fun o ho w' _=>?_⟩;rw[zQh hc hx o ho,h3,h4];simp[run_min_int2]
    ·cases e
   ·cases hq
  ·cases hq
 |_=>simp[cQ] at hq
end
end Go.Ab
end
section
namespace Go.Ab
open Go.RowKit (Below)

section
variable{P:Program}{N:Nat}{w0:World}{G G':GM}{h h':AHeap}{w w':World}{a:AAct}{ag:Act}{M:Nat}

def EY(P:Program)(N:Nat)(w0:World)(G:GM)(h:AHeap)(w:World)(ag:Act)(op:Op)(Q:AVal×AHeap->Prop):Prop:=
 ∃v h' G' w' cv nx,Q (v,h')/\Rel P N w0 G' h' w'/\Ext G h w G' h' w'/\VR P G' v cv/\(nx=.value cv\/(nx=.skip/\cv=undef))/\∀o:Oper,o.op=op->(execOp ag.eval o).run P w=.ok nx w'

theorem EY.val{op:Op}{Q:AVal×AHeap->Prop}{v:AVal}{cv:Value}{s:Sem Value}(hq:Q (v,h'))(hr:Rel P N w0 G' h' w')(he:Ext G h w G' h' w')(hv:VR P G' v cv)(hs:s.run P w=.ok cv w')
  (hop:∀o:Oper,o.op=op->execOp ag.eval o=(do pure (Next.value (<-s)))):EY P N w0 G h w ag op Q:=
 ⟨v,h',G',w',cv,.value cv,hq,hr,he,hv,.inl rfl,fun o ho=>by rw[hop o ho];simp[hs]⟩
theorem EY.unit{op:Op}{Q:AVal×AHeap->Prop}{s:Sem Unit}(hq:Q (.tuple [],h'))(hr:Rel P N w0 G' h' w')(he:Ext G h w G' h' w')(hs:s.run P w=.ok () w')
  (hop:∀o:Oper,o.op=op->execOp ag.eval o=(do s;pure .skip)):EY P N w0 G h w ag op Q:=
 ⟨.tuple [],h',G',w',undef,.skip,hq,hr,he,⟨#[],rfl,rfl⟩,.inr ⟨rfl,rfl⟩,fun o ho=>by rw[hop o ho];simp[hs]⟩

theorem zFo(hR:Rel P N w0 G h w){vs:List AVal}{c:Array Value}(e:TypeId)(hv:VsR P G vs (c.toList.take vs.length))(hl:vs.length<=c.size):
  Rel P N w0 (addG G h.next ⟨w.heap.size,c.size,e,0⟩) (newA h (.cells false e vs)) (w.alloc (.cells c e))/\Ext G h w (addG G h.next ⟨w.heap.size,c.size,e,0⟩) (newA h (.cells false e vs)) (w.alloc (.cells c e)):=
 hR.alloc rfl rfl ⟨c,e,(0,0),rfl,fun _=>⟨rfl,rfl,rfl,rfl⟩,by simp,rfl,hl,by rw[zlZ];exact hv.mono (zEP (hR.fresh _ (Nat.le_refl _)))⟩

theorem zJI(e:TypeId)(c:Array Value):(newRow e c).run P w=.ok ⟨w.heap.size,0,none⟩ (w.alloc (.cells c e)):=rfl

theorem VsR.whole{vs:List AVal}{c:Array Value}(hv:VsR P G vs c.toList):VsR P G vs (c.toList.take vs.length)/\vs.length=c.size:=by
 have:=hv.length;have e:c.toList.take vs.length=c.toList:=by rw[<-this];exact List.take_length
 rw[e];exact⟨hv,by simpa using this.symm⟩

theorem zTL(hR:Rel P N w0 G h w){op:Op}{Q:AVal×AHeap->Prop}{s:Sem Value}{e:TypeId}{vs:List AVal}{c:Array Value}(hv:VsR P G vs c.toList)
  (hq:Q (.ptr (some (h.next,0)),newA h (.cells false e vs))) (hs:s.run P w=.ok (.pointer (some ⟨w.heap.size,0,none⟩)) (w.alloc (.cells c e)))
  (hop:∀o:Oper,o.op=op->execOp ag.eval o=(do pure (Next.value (<-s)))):EY P N w0 G h w ag op Q:=by
 obtain⟨h1,h2⟩:=hv.whole;obtain⟨h3,h4⟩:=zFo hR e h1 (Nat.le_of_eq h2);exact EY.val hq h3 h4 ⟨_,zAY,rfl⟩ hs hop

theorem zTK(hR:Rel P N w0 G h w){op:Op}{Q:AVal×AHeap->Prop}{s:Sem Value}{e:TypeId}{vs:List AVal}{c:Array Value}{n m:Nat}(hv:VsR P G vs (c.toList.take vs.length))(hl:vs.length<=c.size)(hnm:n<=m)(hm:m*P.cellsOf e<=c.size)
  (hq:Q (.slice (some (h.next,0)) n,newA h (.cells false e vs))) (hs:s.run P w=.ok (.slice (some ⟨w.heap.size,0,none⟩) n m) (w.alloc (.cells c e)))
  (hop:∀o:Oper,o.op=op->execOp ag.eval o=(do pure (Next.value (<-s)))):EY P N w0 G h w ag op Q:=by
 obtain⟨h3,h4⟩:=zFo hR e hv hl;exact EY.val hq h3 h4 ⟨_,m,zAY,rfl,hnm,by simpa using hm⟩ hs hop

theorem zFG(g k:Nat)(cs:Array Value)(hk:k≠g):(w.setRow g cs).heap[k]?=w.heap[k]?:=by show (w.heap.modify g _)[k]?=_;rw[Array.getElem?_modify];simp[Ne.symm hk]
theorem zHF(g:Nat)(cs:Array Value)(hN:N<=g):Below N w (w.setRow g cs):=
 ⟨rfl,rfl,rfl,by simp[World.setRow],fun k hk=>zFG g k cs (by omega)⟩
theorem zDS(g:Nat)(o:Obj)(hN:N<=g):Below N w (w.putObj g o):=
 ⟨rfl,rfl,rfl,by simp,fun k hk=>World.putObj_heap_other (by omega)⟩

theorem VsR.lay{vs:List AVal}{cur:List Value}{cs:List AVal}{news:List Value}{o:Nat}(hv:VsR P G vs (cur.take vs.length))(hl:vs.length<=cur.length)(hc:VsR P G cs news)(ho:o+cs.length<=vs.length):
  VsR P G (vs.take o++cs++vs.drop (o+cs.length)) ((cur.take o++news++cur.drop (o+cs.length)).take (vs.take o++cs++vs.drop (o+cs.length)).length):=by
 have hn:=hc.length;have h1:(vs.take o++cs++vs.drop (o+cs.length)).length=vs.length:=by simp;omega
 rw[h1];have h2:(cur.take o++news++cur.drop (o+cs.length)).take vs.length=(cur.take vs.length).take o++news++(cur.take vs.length).drop (o+cs.length):=by
  apply List.ext_getElem?;intro i;simp only[List.getElem?_append,List.getElem?_take,List.getElem?_drop,zgL,List.length_take]
  grind
 rw[h2];exact((hv.take o).append hc).append (hv.drop _)

theorem VsR.oneCells:∀{xs:List AVal} {vs:List Value},VsR P G xs vs->xs.all Ab.one=true->∀v∈vs,v.oneCell'=true
 |[],_,e,_,v,hv=>by subst e;cases hv
 |x::xs,_,⟨y,ys,e,a,b⟩,h1,v,hv=>by
  subst e;simp only[List.all_cons,Bool.and_eq_true] at h1;rcases List.mem_cons.1 hv with rfl|hv
  ·exact a.oneCell h1.1
  ·exact b.oneCells h1.2 v hv

theorem zLu(hR:Rel P N w0 G h w){t:TypeId}{v:AVal}{X V:Value}{b o n:Nat}(hn:zFa P t=some n)(hx:VR P G (.ptr (some (b,o))) X)(hv:VR P G v V)(hl:(zAb v).length=n)(e:zDN h b o (zAb v)=some h'):
  ∃w',Rel P N w0 G h' w'/\Ext G h w G h' w'/\(Instr.storeAt t X V).run P w=.ok () w':=by
 obtain⟨g,hg,rfl⟩:=hx;unfold zDN at e;split at e
 ·rename_i ver el vs ac;split at e
  ·rename_i hc;simp only[oI] at e;subst e;obtain⟨gi,al,ob,an,c,ad,fr,rfl,aw,aA,au,am,ar⟩:=hR.obj b ver _ ac;have ai:G b=some g:=hg;rw[ai] at al;cases al;obtain⟨az,aa,aj,ak⟩:=aw rfl;subst aj;subst ak;rw[aa,Nat.zero_add];rw[aa,zlZ] at ar;rw[<-az] at am;have hN:N<=g.blk:=hR.own b ver _ g ac ai rfl;have ah:=hv.cells;have ab:=ah.length;have ao:=ah.oneCells hc.2;have af:=run_storeCells_at (P:=P) g.blk o ad V.cells.toList 0 c w an (by omega) ao;simp only[Nat.add_zero,ab,List.append_assoc] at af;refine⟨w.setRow g.blk (c.toList.take o++V.cells.toList++c.toList.drop (o+(zAb v).length)).toArray,?_,?_,?_⟩;rotate_left 2
   ·have aq:V.cells.size=n:=by rw[<-hl,<-ab];simp
    simp[Instr.storeAt,Instr.sureAddr,storeVar,zAt hn,aq];exact af
   all_goals
    have ae:=hR.put (w':=w.setRow g.blk (c.toList.take o++V.cells.toList++c.toList.drop (o+(zAb v).length)).toArray) (o':=.cells false ad (vs.take o++zAb v++vs.drop (o+(zAb v).length)))
     (ob':=.cells (c.toList.take o++V.cells.toList++c.toList.drop (o+(zAb v).length)).toArray ad (0,0)) ac rfl rfl ai
     (setRow_heap w g.blk c _ ad (0,0) an) (fun k hk=>zFG g.blk k _ hk) (zHF g.blk _ hN)
     ⟨_,_,(0,0),rfl,fun _=>⟨by simp;simp at ab;omega,aa,rfl,rfl⟩,by simp;simp at ab;omega,au,by simp;simp at ab;omega,by
      rw[aa,zlZ];have:=VsR.lay (cur:=c.toList) ar (by simpa using am) ah hc.1;simpa using this⟩
   ·exact ae.1
   ·exact ae.2
  ·cases e
 ·cases e
end
end Go.Ab
end
section
namespace Go.Ab
open Go.RowKit (Below)

section
variable{P:Program}{N:Nat}{w0:World}{G G':GM}{h h':AHeap}{w w':World}{a:AAct}{ag:Act}{M:Nat}

theorem zIo:∀{xs ys:List AVal},zCD xs ys=some true->xs=ys
 |[],[],_=>rfl
 |[],_::_,e=>by simp[zCD] at e
 |x::xs,[],e=>by cases x<;>simp[zCD] at e
 |x::xs,y::ys,e=>by
  cases x<;>cases y<;>simp only[zCD] at e<;>first|cases e;done|skip
  split at e
  ·rename_i hk;subst hk;split at e
   ·rename_i hab;rw[zIo e];have:=eq_of_beq hab;rw[this]
   ·split at e<;>cases e
  ·cases e

theorem zMV:∀{x y:List Nat},eqL x y=true->x=y
 |[],[],_=>rfl
 |[],_::_,e=>by simp[eqL] at e
 |_::_,[],e=>by simp[eqL] at e
 |a::x,b::y,e=>by
  simp only[eqL] at e;split at e
  ·rename_i hab;rw[zMV e,Nat.eq_of_beq_eq_true hab]
  ·cases e

theorem zSL{k:KeyK}{x y:AVal}(e:keyA k x y=some true):x=y:=by
 unfold keyA at e;split at e
 ·simp only[oI] at e;rw[zMV e]
 ·split at e
  ·rename_i hk;subst hk;simp only[oI] at e;rw[eq_of_beq e]
  ·cases e
 ·simp only[oI,Bool.and_eq_true] at e;rw[Nat.eq_of_beq_eq_true e.1,Nat.eq_of_beq_eq_true e.2]
 ·split at e
  ·rw[zIo e]
  ·cases e
 ·cases e

theorem zIq{k:KeyK}{x v:AVal}:∀{es:List (AVal×AVal×Nat)} {i j:Nat},zBe k x es i=some (some (j,v))->i<=j/\∃b,es[j - i]?=some (x,v,b)
 |[],i,j,e=>by simp[zBe] at e
 |(y,u,b)::es,i,j,e=>by
  simp only[zBe] at e;split at e
  ·rename_i hk;simp only[oI,Prod.mk.injEq] at e;obtain⟨rfl,rfl⟩:=e;exact⟨Nat.le_refl _,b,by rw[zSL hk];simp⟩
  ·obtain⟨h1,b',h2⟩:=zIq e;refine⟨by omega,b',?_⟩;rw[show j - i=(j - (i+1))+1 from by omega];simpa using h2
  ·cases e

theorem ER.setVal{k v:AVal}{K V:Value}{b:Nat}(hk:VR P G k K)(hv:VR P G v V){u:AVal}:∀{es:List (AVal×AVal×Nat)} {E:List MapEntry} {i:Nat},ER P G es E->es[i]?=some (k,u,b) →
  ER P G (setVal es i v) (E.modify i fun e=>{e with key:=K,val:=V})
 |[],E,i,_,e=>by simp at e
 |(k',v',b')::es,E,0,⟨e,es',h1,h2,h3,h4,h5⟩,hi=>by
  subst h1;simp only[zgZ,oI,Prod.mk.injEq] at hi;obtain⟨rfl,rfl,rfl⟩:=hi;exact⟨{e with key:=K,val:=V},es',by simp,hk,hv,h4,h5⟩
 |(k',v',b')::es,E,i+1,⟨e,es',h1,h2,h3,h4,h5⟩,hi=>by subst h1;exact⟨e,_,by simp,h2,h3,h4,ER.setVal hk hv h5 (by simpa using hi)⟩

theorem ER.push{k v:AVal}{K V:Value}{b:Nat}(hk:VR P G k K)(hv:VR P G v V):∀{es:List (AVal×AVal×Nat)} {E:List MapEntry},ER P G es E->ER P G (es++[(k,v,b)]) (E++[{key:=K,val:=V,born:=b}])
 |[],_,h=>by subst h;exact⟨_,[],rfl,hk,hv,rfl,rfl⟩
 |(_,_,_)::_,_,⟨e,es',h1,h2,h3,h4,h5⟩=>by subst h1;exact⟨e,_,by simp,h2,h3,h4,ER.push hk hv h5⟩

theorem ER.filter{f:Nat->Bool}:∀{es:List (AVal×AVal×Nat)} {E:List MapEntry},ER P G es E->ER P G (es.filter fun e=>f e.2.2) (E.filter fun e=>f e.born)
 |[],_,h=>by subst h;rfl
 |(_,_,_)::_,_,⟨e,es',h1,h2,h3,h4,h5⟩=>by
  subst h1;subst h4;simp only[List.filter_cons];split
  ·exact⟨e,_,rfl,h2,h3,rfl,ER.filter h5⟩
  ·exact ER.filter h5

theorem ER.get:∀{es:List (AVal×AVal×Nat)} {E:List MapEntry},ER P G es E->∀{i:Nat} {k v:AVal} {b:Nat},es[i]?=some (k,v,b)->∃e,E[i]?=some e/\VR P G k e.key/\VR P G v e.val/\e.born=b
 |[],_,_,i,k,v,b,hi=>by simp at hi
 |(_,_,_)::_,_,⟨e,es',h1,h2,h3,h4,h5⟩,0,k,v,b,hi=>by
  subst h1;simp only[zgZ,oI,Prod.mk.injEq] at hi;obtain⟨rfl,rfl,rfl⟩:=hi;exact⟨e,by simp,h2,h3,h4⟩
 |(_,_,_)::_,_,⟨e,es',h1,h2,h3,h4,h5⟩,i+1,k,v,b,hi=>by subst h1;obtain⟨e',h6,h7⟩:=ER.get h5 (by simpa using hi);exact⟨e',by simpa using h6,h7⟩

theorem ER.all{f:Nat->Bool}:∀{es:List (AVal×AVal×Nat)} {E:List MapEntry},ER P G es E->(E.all fun e=>f e.born)=es.all fun e=>f e.2.2
 |[],_,h=>by subst h;rfl
 |(_,_,_)::_,_,⟨e,es',h1,h2,h3,h4,h5⟩=>by subst h1;subst h4;simp[ER.all h5]
theorem ER.find{f:Nat->Bool}{k v:AVal}{b:Nat}:∀{es:List (AVal×AVal×Nat)} {E:List MapEntry},ER P G es E->es.find? (fun e=>f e.2.2)=some (k,v,b)->∃e,E.find? (fun e=>f e.born)=some e/\VR P G k e.key/\VR P G v e.val
 |[],_,h,e=>by cases e
 |(_,_,_)::_,_,⟨e,es',h1,h2,h3,h4,h5⟩,hf=>by
  subst h1;subst h4;simp only[List.find?_cons] at hf ⊢;split at hf
  ·rename_i hh;simp only[oI,Prod.mk.injEq] at hf;obtain⟨rfl,rfl,rfl⟩:=hf;exact⟨e,by simp[hh],h2,h3⟩
  ·rename_i hh;obtain⟨e',h6,h7⟩:=ER.find h5 hf;exact⟨e',by simp[hh,h6],h7⟩

theorem Ext.drewR{w'':World}(hw:w''=w\/w''=w.drew)(hR:Rel P N w0 G h w):Rel P N w0 G h w''/\Ext G h w G h w'':=by
 rcases hw with rfl|rfl
 ·exact⟨hR,Ext.refl _ _ _⟩
 ·exact⟨hR.drew,(Ext.refl _ _ _).drew⟩

theorem zHL(old new:Value)(w:World):∃K w1,(w1=w\/w1=w.drew)/\(K=old\/K=new)/\(Instr.keyThatStays old new).run P w=.ok K w1:=by
 unfold Instr.keyThatStays;split
 ·exact⟨new,w,.inl rfl,.inr rfl,rfl⟩
 ·refine⟨if _=0 then new else old,w.drew,.inr rfl,?_,rfl⟩;split
  ·exact .inr rfl
  ·exact .inl rfl

theorem zIy{x:AVal}(e:zQe h x=true):∃b o v el vs,x=.ptr (some (b,o))/\h.objs.get b=some (v,.cells false el vs):=by
 unfold zQe at e;split at e
 ·rename_i b o;split at e
  ·rename_i v el vs hg;exact⟨b,o,v,el,vs,rfl,hg⟩
  ·cases e
 ·cases e

theorem zBc{b o:Nat}{c:Array Value}{e:TypeId}(hb:w.heap[b]?=some (.cells c e (0,0))):w.frozen? ⟨b,o,none⟩=false:=by simp[World.frozen?,hb]

theorem zIx(hR:Rel P N w0 G h w){k:KeyK}{m x:AVal}(e:zIw h k m x=true):k=.ptr->∀r ver es c,m=.map (some r)->h.objs.get r=some (ver,.map es c)->∀w',w'=w->PtrOK P G es x w':=by
 rintro rfl r ver es c rfl hg w' rfl;simp only[zIw,hg,Bool.and_eq_true,List.all_eq_true] at e;obtain⟨hx,hes⟩:=e;obtain⟨bx,ox,vx,elx,vsx,rfl,hgx⟩:=zIy hx;rintro y b Y X ⟨en,hen,rfl⟩ hk hX hY el i t hu hi hsz;obtain⟨aa,oy,vy,ely,vsy,hy,hgy⟩:=zIy (hes en hen);rw[hy] at hk hY;obtain⟨gx,hgx',rfl⟩:=hX;obtain⟨gy,hgy',rfl⟩:=hY;simp only[keyA,oI] at hk;subst hk;obtain⟨gi,h1,ob,h2,cx,tx,frx,rfl,hfx,_⟩:=hR.obj bx _ _ hgx;have ac:G bx=some gx:=hgx';rw[ac] at h1;cases h1;obtain⟨gi,h1,ob,h3,cy,ty,fry,rfl,hfy,_⟩:=hR.obj aa _ _ hgy;have ab:G aa=some gy:=hgy';rw[ab] at h1;cases h1;obtain⟨_,offx,rfl,rfl⟩:=hfx rfl;obtain⟨_,offy,rfl,rfl⟩:=hfy rfl;simp only[offx,offy,Nat.zero_add];have hs:(sizeOf el).run P w'=.ok i.size w':=by simp[sizeOf,typeInfo,hi]
 have hinj:gx.blk=gy.blk↔bx=aa:=by
  constructor
  ·intro hh;exact hR.inj bx aa _ _ gx gy hgx hgy rfl hgx' hgy' hh
  ·rintro rfl;rw[ac] at ab;cases ab;rfl
 have key:∀d,(Op.equalIn (d+1) t (.pointer (some ⟨gx.blk,ox,none⟩)) (.pointer (some ⟨gy.blk,oy,none⟩))).run P w'=(sameAddr ⟨gx.blk,ox,none⟩ ⟨gy.blk,oy,none⟩).run P w':=fun d=>by simp only[Op.equalIn,Sem.run_bind,run_underlying hu,Result.andThen_ok,hs,if_pos hsz,ne_eq,hsz,not_false_eq_true,if_true]
 refine(key 9999).trans ?_;by_cases hbb:bx=aa
 ·have:=hinj.2 hbb;have hr:Nat.beq bx aa=true:=by rw[hbb];exact Nat.beq_refl _
  simp only[sameAddr,this,beq_self_eq_true,if_true,hr,Bool.true_and];by_cases ho:ox=oy
  ·subst ho;simp
  ·have h4:Nat.beq ox oy=false:=by rw[Bool.eq_false_iff];intro hh;exact ho (Nat.eq_of_beq_eq_true hh)
   simp[ho,h4]
 ·have hne:¬gx.blk=gy.blk:=fun hh=>hbb (hinj.1 hh);have hr:Nat.beq bx aa=false:=by rw[Bool.eq_false_iff];intro hh;exact hbb (Nat.eq_of_beq_eq_true hh)
  have hv1:w'.heap[gx.blk]?=some (.cells cx tx (0,0)):=h2;have hv2:w'.heap[gy.blk]?=some (.cells cy ty (0,0)):=h3;have f1:=zBc (w:=w') (b:=gx.blk) (o:=ox) h2;have f2:=zBc (w:=w') (b:=gy.blk) (o:=oy) h3;have f3:=zBc (w:=w') (b:=gx.blk) (o:=cx.size) h2;have f4:=zBc (w:=w') (b:=gy.blk) (o:=cy.size) h3;simp[sameAddr,hne,hr,f1,f2,noView,viewAt,mayBeOne,stringish,World.shape?,h2,h3,f3,f4]
end
end Go.Ab
end
section
namespace Go.Ab
open Go.RowKit (Below)

section
variable{P:Program}{N:Nat}{w0:World}{G G':GM}{h h':AHeap}{w w':World}{a:AAct}{ag:Act}{M:Nat}

theorem zHI(hR:Rel P N w0 G h w){t:TypeId}{k:KeyK}{z m x v:AVal}{Mv X V:Value}(hm:cMap P t=some (k,z))(hk:zIw h k m x=true)(e:zKE h k m x v=some h')
  (hMv:VR P G m Mv) (hX:VR P G x X) (hV:VR P G v V):∃w',Rel P N w0 G h' w'/\Ext G h w G h' w'/\(Instr.mapUpdate t Mv X V).run P w=.ok () w':=by
 obtain⟨kt,et,hu,hck,hz⟩:=zKM hm;unfold zKE at e;split at e
 ·cases e
 ·rename_i hi;have af:∀b w',(Instr.checkKey b 10000 kt X).run P w'=.ok () w':=fun b w'=>zHE hck hX hi b w';split at e
  ·rename_i r;obtain⟨g,hg,rfl⟩:=hMv;split at e
   ·rename_i ver es aa ab;obtain⟨gi,hgi,ob,ae,E,rfl,hE⟩:=hR.obj r ver _ ab;rw[hg] at hgi;cases hgi;have hN:N<=g.blk:=hR.own r ver _ g ab hg rfl;have al:∀c e f,Obj.map E aa≠.cells c e f:=by intro c e f hh;cases hh
    have hgo:∀w',w'.heap[g.blk]?=w.heap[g.blk]?->(getObj g.blk).run P w'=.ok (.map E aa) w':=fun w' hw'=>zAv (by rw[hw'];exact ae) al;have ac:∀{q},zBe k x es 0=some q->∃R,Found P G E.toList 0 q R/\(Instr.findKey kt X E.toList).run P w=.ok R w:=fun {q} hf=>by obtain⟨R,h1,h2⟩:=zCw hck hX (· =w) (fun hp=>zIx hR hk hp r ver es aa rfl ab) hf hE;exact⟨R,h1,h2 w rfl⟩
    split at e
    ·rename_i i v' hf;simp only[oI] at e;subst e;obtain⟨R,⟨en,rfl,_,_,h5⟩,h6⟩:=ac hf;obtain⟨_,b,h8⟩:=zIq hf;simp only[Nat.sub_zero] at h5 h8;obtain⟨en',h9,h10,_,h12⟩:=ER.get hE h8;rw[h5] at h9;cases h9;have hEi:E[i]?=some en:=by simpa using h5
     obtain⟨K,w1,hw1,hK,hrun⟩:=zHL (P:=P) (((E[i]?).map (·.key)).getD X) X w;have hKr:VR P G x K:=by
      rcases hK with rfl|rfl
      ·rw[hEi];exact h10
      ·exact hX
     obtain⟨hR1,he1⟩:=Ext.drewR hw1 hR;have ah:w1.heap[g.blk]?=some (.map E aa):=by rcases hw1 with rfl|rfl<;>exact ae
     have ak:ER P G (setVal es i v) (E.modify i fun e=>{e with key:=K,val:=V}).toList:=by rw[Array.toList_modify];exact ER.setVal hKr hV hE h8
     have ad:=zCx (P:=P) (.map (E.modify i fun e=>{e with key:=K,val:=V}) aa) ah al;obtain⟨ai,aj⟩:=hR1.put (w':=w1.putObj g.blk (.map (E.modify i fun e=>{e with key:=K,val:=V}) aa)) (o':=.map (setVal es i v) aa) ab rfl rfl hg
      (World.putObj_heap_same (zAy ah)) (fun k hk=>World.putObj_heap_other hk) (zDS _ _ hN) ⟨_,rfl,ak⟩
     refine⟨_,ai,he1.trans aj,?_⟩;simp only[Instr.mapUpdate,Sem.run_bind,run_underlying hu,Result.andThen_ok,hgo w rfl,af,h6,hrun];exact ad
    ·rename_i hf;simp only[oI] at e;subst e;obtain⟨R,h1,h6⟩:=ac hf;cases h1;have ak:ER P G (es++[(x,v,aa)]) (E.push {key:=X,val:=V,born:=aa}).toList:=by
      rw[Array.toList_push];exact ER.push hX hV hE
     have ad:=zCx (P:=P) (.map (E.push {key:=X,val:=V,born:=aa}) (aa+1)) ae al;obtain⟨ai,aj⟩:=hR.put (w':=w.putObj g.blk (.map (E.push {key:=X,val:=V,born:=aa}) (aa+1))) (o':=.map (es++[(x,v,aa)]) (aa+1)) ab rfl rfl hg
      (World.putObj_heap_same (zAy ae)) (fun k hk=>World.putObj_heap_other hk) (zDS _ _ hN) ⟨_,rfl,ak⟩
     refine⟨_,ai,aj,?_⟩;simp only[Instr.mapUpdate,Sem.run_bind,run_underlying hu,Result.andThen_ok,hgo w rfl,af,h6];exact ad
    ·cases e
   ·cases e
  ·cases e

theorem zLl(hR:Rel P N w0 G h w){t k e:TypeId}{r ver:Nat}{es:List (AVal×AVal×Nat)}{clock:Nat}{X:Value}(hu:P.underlying t=some (.map k e))(hX:VR P G (.map (some r)) X)(hget:h.objs.get r=some (ver,.map es clock)):
  ∃G' w' cv,Rel P N w0 G' (newA h (.iter r clock [] clock)) w'/\Ext G h w G' (newA h (.iter r clock [] clock)) w'/\VR P G' (.ptr (some (h.next,0))) cv/\(Instr.range t X).run P w=.ok cv w':=by
 obtain⟨g,hg,rfl⟩:=hX;obtain⟨gi,aa,ob,ad,E,rfl,hE⟩:=hR.obj r ver _ hget;rw[hg] at aa;cases aa;have ac:∀c e f,Obj.map E clock≠.cells c e f:=by intro c e f hh;cases hh
 have ab:GLe G (addG G h.next ⟨w.heap.size,0,0,0⟩):=zEP (hR.fresh _ (Nat.le_refl _));obtain⟨h1,h2⟩:=hR.alloc (o:=.iter r clock [] clock) (ob:=.mapIter (some g.blk) clock #[] clock) (gi:=⟨w.heap.size,0,0,0⟩) rfl rfl ⟨g,ab _ _ hg,rfl,rfl⟩;refine⟨_,_,.pointer (some ⟨w.heap.size,0,none⟩),h1,h2,⟨_,zAY,rfl⟩,?_⟩;simp only[Instr.range,Sem.run_bind,run_underlying hu,Result.andThen_ok,zAv ad ac];simp

theorem zKz(hR:Rel P N w0 G h w){t k e:TypeId}{X:Value}(hu:P.underlying t=some (.map k e))(hX:VR P G (.map none) X):
  ∃G' w' cv,Rel P N w0 G' (newA h .iter0) w'/\Ext G h w G' (newA h .iter0) w'/\VR P G' (.ptr (some (h.next,0))) cv/\(Instr.range t X).run P w=.ok cv w':=by
 have hX:X=.map none:=hX;subst hX;obtain⟨h1,h2⟩:=hR.alloc (o:=.iter0) (ob:=.mapIter none 0 #[] 0) (gi:=⟨w.heap.size,0,0,0⟩) rfl rfl ⟨rfl,rfl⟩;refine⟨_,_,.pointer (some ⟨w.heap.size,0,none⟩),h1,h2,⟨_,zAY,rfl⟩,?_⟩;simp only[Instr.range,Sem.run_bind,run_underlying hu,Result.andThen_ok];simp
theorem zLe(hR:Rel P N w0 G h w){b ver:Nat}{X:Value}{t:TypeId}(hX:VR P G (.ptr (some (b,0))) X)(hget:h.objs.get b=some (ver,.iter0)):∃cv,VR P G (.tuple [.bool false]) cv/\(Instr.next X false t).run P w=.ok cv w:=by
 obtain⟨g,hg,rfl⟩:=hX;obtain⟨gi,aa,ob,ae,rfl,ac⟩:=hR.obj b ver _ hget;have ad:G b=some g:=hg;rw[ad] at aa;cases aa;have ab:∀c e f,Obj.mapIter none 0 #[] 0≠.cells c e f:=by intro c e f hh;cases hh
 rw[ac,Nat.zero_add];refine⟨.tuple #[.bool false],⟨_,rfl,_,_,rfl,rfl,rfl⟩,?_⟩;simp only[Instr.next,Sem.run_bind,Result.andThen_ok,zAv ae ab];simp
theorem zNV(hR:Rel P N w0 G h w){b ver r ver' since last:Nat}{seen:List Nat}{es:List (AVal×AVal×Nat)}{clock:Nat}{X:Value}{t:TypeId}{Q:AVal×AHeap->Prop}(hX:VR P G (.ptr (some (b,0))) X)
  (hget:h.objs.get b=some (ver,.iter r since seen last)) (hget':h.objs.get r=some (ver',.map es clock)) (hc:clock=since) (hl:last=since) (hall:es.all (fun e=>Nat.blt e.2.2 since)=true)
  (hs:D.sat (match es.filter fun e=> !seen.contains e.2.2 with
   |[]=>.ret (.tuple [.bool false],h)
   |_=>.ask (es.filter fun e=> !seen.contains e.2.2).length fun i=>(match (es.filter fun e=> !seen.contains e.2.2)[i]? with
    |some (k,v,born)=>.ret (.tuple [.bool true,k,v],zAX h b (.iter r since (seen++[born]) last))
    |none=>.fail)) Q):
  ∃v h' w' cv,Q (v,h')/\Rel P N w0 G h' w'/\Ext G h w G h' w'/\VR P G v cv/\(Instr.next X false t).run P w=.ok cv w':=by
 subst hc;subst hl;obtain⟨g,hg,rfl⟩:=hX;obtain⟨gi,ab,ob,aq,gm,hgm,rfl,am⟩:=hR.obj b ver _ hget;have an:G b=some g:=hg;rw[an] at ab;cases ab;rw[am,Nat.zero_add];obtain⟨gi,ab,ob',ak,E,rfl,hE⟩:=hR.obj r ver' _ hget';rw[hgm] at ab;cases ab;have hN:N<=g.blk:=hR.own b ver _ g hget an rfl;have hno:∀c e f,Obj.map E last≠.cells c e f:=by intro c e f hh;cases hh
 have ae:∀c e f,Obj.mapIter (some gm.blk) last seen.toArray last≠.cells c e f:=by intro c e f hh;cases hh
 have ao:∀e∈E.toList,e.born<last:=by have:=ER.all (f:=fun b=>Nat.blt b last) hE;rw[hall,List.all_eq_true] at this;intro e he;exact Nat.blt_eq.mp (this e he)
 have aj:(!seen.toArray.isEmpty&& !E.isEmpty&&E.all fun x=>decide (x.born>=last))=false:=by
  rcases Nat.eq_zero_or_pos E.size with hz|hpos
  ·simp[Array.size_eq_zero_iff.1 hz]
  ·have:(E.all fun x=>decide (x.born>=last))=false:=by
    rw[Bool.eq_false_iff];intro hh;rw[Array.all_eq_true] at hh;have:=hh 0 hpos;have h2:=ao E[0] (by simp);simp at this;omega
   rw[this];simp
 have aa:=ER.filter (f:=fun b=> !seen.contains b) hE;have hL:(E.filter fun e=> !seen.toArray.contains e.born).toList=E.toList.filter fun e=> !seen.contains e.born:=by rw[Array.toList_filter];congr 1;funext e;simp
 have af:(E.filter fun e=> !seen.toArray.contains e.born).filter (fun e=>e.born<last)=E.filter fun e=> !seen.toArray.contains e.born:=by apply Array.ext';rw[Array.toList_filter,hL,List.filter_eq_self];intro e he;simpa using ao e ((List.mem_filter.1 he).1)
 have ad:(E.filter fun e=> !seen.toArray.contains e.born).filter (fun e=>e.born>=last)= #[]:=by apply Array.ext';rw[Array.toList_filter,hL];show _=[];rw[List.filter_eq_nil_iff];intro e he;have:=ao e ((List.mem_filter.1 he).1);simp;omega
 generalize hF:(es.filter fun e=> !seen.contains e.2.2)=F at hs aa;have ac:=ER.length aa;have hpre:∀(f:Array MapEntry->Sem Value),True:=fun _=>trivial;cases F with
 |nil=>
  have hEl:(E.filter fun e=> !seen.toArray.contains e.born)= #[]:=by
   apply Array.ext';rw[hL];cases ai:(E.toList.filter fun e=> !seen.contains e.born) with
   |nil=>rfl
   |cons _ _=>rw[ai] at ac;simp at ac
  refine⟨_,h,w,.tuple #[.bool false],hs,hR,Ext.refl _ _ _,⟨_,rfl,_,_,rfl,rfl,rfl⟩,?_⟩;simp only[Instr.next,Sem.run_bind,Result.andThen_ok,zAv aq ae,zAv ak hno,aj,af,ad,hEl];simp[Question.forced]
 |cons e0 F0=>
  have hs':∀i,i<(e0::F0).length->D.sat (match (e0::F0)[i]? with
    |some (k,v,born)=>(.ret (.tuple [.bool true,k,v],zAX h b (.iter r last (seen++[born]) last)):D (AVal×AHeap))
    |none=>.fail) Q:=hs.2
  generalize hA:(E.filter fun e=> !seen.toArray.contains e.born)=A at hL af ad;have ah:A.size=(e0::F0).length:=by rw[<-ac,<-hL];simp
  have hne:A.isEmpty=false:=by
   rw[Bool.eq_false_iff];intro hh;have:A.size=0:=by simpa using hh
   rw[this] at ah;simp at ah
  obtain⟨i,w1,hi,hw1,hch⟩:∃i w1,i<A.size/\(w1=w\/w1=w.drew)/\(choose (.mapNext A.size)).run P w=.ok i w1:=by
   rw[run_choose_drew];split
   ·exact⟨0,w,by rw[ah];simp,.inl rfl,rfl⟩
   ·exact⟨_,w.drew,Nat.mod_lt _ (by rw[ah];simp),.inr rfl,rfl⟩
  have hAi:∃k v born e,(e0::F0)[i]?=some (k,v,born)/\A[i]?=some e/\VR P G k e.key/\VR P G v e.val/\e.born=born:=by
   have hi':i<(e0::F0).length:=by omega
   obtain⟨k,v,born,hx⟩:∃k v born,(e0::F0)[i]=(k,v,born):=⟨_,_,_,rfl⟩;have h1:(e0::F0)[i]?=some (k,v,born):=by rw[zgG hi',hx]
   obtain⟨e,h2,h3,h4,h5⟩:=ER.get aa h1;exact⟨k,v,born,e,h1,by rw[<-Array.getElem?_toList,hL];exact h2,h3,h4,h5⟩
  obtain⟨k,v,born,e,h1,h2,h3,h4,h5⟩:=hAi;have hq:=hs' i (by omega);rw[h1] at hq;obtain⟨hR1,he1⟩:=Ext.drewR hw1 hR;have al:w1.heap[g.blk]?=some (.mapIter (some gm.blk) last seen.toArray last):=by rcases hw1 with rfl|rfl<;>exact aq
  have hset:=zCx (P:=P) (.mapIter (some gm.blk) last (seen.toArray.push e.born) last) al ae;obtain⟨h13,h14⟩:=hR1.put (w':=w1.putObj g.blk (.mapIter (some gm.blk) last (seen.toArray.push e.born) last)) (o':=.iter r last (seen++[born]) last) hget rfl rfl an
   (World.putObj_heap_same (zAy al)) (fun k hk=>World.putObj_heap_other hk) (zDS _ _ hN) ⟨gm,hgm,by rw[h5];simp,am⟩
  refine⟨_,_,_,.tuple #[.bool true,e.key,e.val],hq,h13,he1.trans h14,⟨_,rfl,_,_,rfl,rfl,_,_,rfl,h3,_,_,rfl,h4,rfl⟩,?_⟩;have hAi':A[i]=e:=by rw[Array.getElem?_eq_getElem hi] at h2;exact Option.some.inj h2
  simp only[Instr.next,Sem.run_bind,Result.andThen_ok,zAv aq ae,zAv ak hno,aj,hA,af,ad,hne];simp only[Bool.false_eq_true,if_false,Sem.run_pure,Result.andThen_ok,Array.append_empty,Array.empty_append,Array.size_map,hch,Sem.run_bind];simp only[Array.getElem?_map,h2,Option.map_some];rw[Sem.run_bind,hset];rfl

theorem zLX(hR:Rel P N w0 G h w){b ver r ver' since last:Nat}{seen:List Nat}{es:List (AVal×AVal×Nat)}{clock stamp:Nat}{X:Value}{k v:AVal}{bb:Nat}(hX:VR P G (.ptr (some (b,0))) X)
  (hget:h.objs.get b=some (ver,.iter r since seen last)) (hget':h.objs.get r=some (ver',.map es clock)) (hst:seen.getLast?=some stamp) (hc:clock=last) (hf:es.find? (fun e=>Nat.beq e.2.2 stamp)=some (k,v,bb)):
  ∃cv,VR P G (.tuple [k,v]) cv/\(Instr.entry X).run P w=.ok cv w:=by
 subst hc;obtain⟨g,hg,rfl⟩:=hX;obtain⟨gi,aa,ob,ak,gm,ai,rfl,ad⟩:=hR.obj b ver _ hget;have ah:G b=some g:=hg;rw[ah] at aa;cases aa;rw[ad,Nat.zero_add];obtain⟨gi,aa,ob',ac,E,rfl,hE⟩:=hR.obj r ver' _ hget';rw[ai] at aa;cases aa;have aj:∀c e f,Obj.map E clock≠.cells c e f:=by intro c e f hh;cases hh
 have ab:∀c e f,Obj.mapIter (some gm.blk) since seen.toArray clock≠.cells c e f:=by intro c e f hh;cases hh
 obtain⟨e,h1,h2,h3⟩:=ER.find (f:=fun b=>Nat.beq b stamp) hE hf;have ae:E.find? (fun x=>x.born==stamp)=some e:=by
  rw[<-Array.find?_toList];have af:(fun x:MapEntry=>x.born==stamp)=fun x=>Nat.beq x.born stamp:=funext fun x=>by rw[Bool.eq_iff_iff];simp[Nat.beq_eq]
  rw[af];exact h1
 have hb:seen.toArray.back?=some stamp:=by simpa using hst
 refine⟨.tuple #[e.key,e.val],⟨_,rfl,_,_,rfl,h2,_,_,rfl,h3,rfl⟩,?_⟩;simp only[Instr.entry,Sem.run_bind,Result.andThen_ok,zAv ak ab,zAv ac aj,hb];simp[ae]
end
end Go.Ab
end
