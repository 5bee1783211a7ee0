import Derived.Test.YtpmndmiohaaokaaGreatDoorP09
/-
  Part 10 of the proof.
-/
set_option linter.all false
set_option maxHeartbeats 8000000
section
namespace Go.Ab.S
open Go.Ab
theorem zAN{g:Graph}(h:zAB g=0):0<=g.root/\g.root<g.nodes.length/\g.nodes.length<=1048576/\∀n∈g.nodes,mayF n g.nodes.length=true:=by
 unfold zAB at h;by_cases h1:(Int.ofNat g.nodes.length:Int)>1048576
 ·rw[if_pos h1] at h;cases h
 rw[if_neg h1] at h;by_cases h2:g.root<0
 ·rw[if_pos h2] at h;cases h
 rw[if_neg h2] at h;by_cases h3:g.root>=Int.ofNat g.nodes.length
 ·rw[if_pos h3] at h;cases h
 rw[if_neg h3] at h;by_cases h4:g.nodes.any (fun n=> !mayF n g.nodes.length)=true
 ·rw[if_pos h4] at h;cases h
 simp only[Int.ofNat_eq_natCast] at h1 h3;refine⟨by omega,by omega,by omega,fun n hn=>?_⟩;have h5:¬∃x,x∈g.nodes/\(!mayF x g.nodes.length)=true:=by simpa using h4
 cases hm:mayF n g.nodes.length
 ·exact absurd ⟨n,hn,by rw[hm];rfl⟩ h5
 ·rfl
theorem zAh{n:Node}{size:Int}(h:mayF n size=true):∀a∈n.args,0<=a/\a<size:=by
 intro a ha;unfold mayF at h;by_cases h1:n.args.any (fun a=>decide (a<0)||decide (a>=size))=true
 ·rw[if_pos h1] at h;cases h
 have h2:¬∃x,x∈n.args/\(x<0\/size<=x):=by simpa using h1
 rcases Int.lt_or_le a 0 with h3|h3
 ·exact absurd ⟨a,ha,.inl h3⟩ h2
 rcases Int.lt_or_le a size with h4|h4
 ·exact⟨h3,h4⟩
 ·exact absurd ⟨a,ha,.inr h4⟩ h2
def Ok(N:Nat)(l:List Int):Prop:=∀a∈l,0<=a/\a<(N:Int)
structure GSm(g:Graph):Prop extends GraphSm g where
 total:g.nodes.length+zAU [] g.nodes 0<=2 ^ 30
 labs:∀n∈g.nodes,n.labels.length<=2 ^ 30
theorem zBb{h:AHeap}{base:Nat}{e:TypeId}{v:AVal}{l:List Int}(B:Built h base e 1 v l.length (l.map (AVal.int .i64))):IntsAt h v l:=
 B.sl (by decide) (xs:=l.map intC) (by
  have:(l.map intC).flatten=l.map (AVal.int .i64):=by
   clear B;induction l with
   |nil=>rfl
   |cons a r ih=>simp only[List.map_cons,List.flatten_cons,ih];rfl
  rw[this]) (by intro c hc;obtain⟨a,_,rfl⟩:=List.mem_map.1 hc;rfl) (by simp)
theorem zAE{h:AHeap}{base:Nat}{e:TypeId}{sz n:Nat}{v:AVal}{cells:List AVal}(B:Built h base e sz v n cells){c:Nat}{p:Nat×AObj}(hc:h.objs.get c=some p)(hp:∀vs,p.2≠.cells false e vs):∀k,v≠.slice (some (c,0)) k:=by
 rintro k rfl;rcases B with⟨h1,_⟩|⟨h1,_⟩|⟨b,vs,ver,_,h1,h2,_⟩
 ·cases h1
 ·cases h1
 ·simp only[AVal.slice.injEq,oI,Prod.mk.injEq] at h1;obtain⟨⟨rfl,_⟩,_⟩:=h1;rw[h2] at hc;simp only[oI] at hc;exact hp vs (by rw[<-hc])
theorem zBG{h h':AHeap}{base:Nat}{e:TypeId}{sz n:Nat}{v:AVal}{cells:List AVal}(B:Built h base e sz v n cells)(hk:∀c p,h.objs.get c=some p->(∃vs,p.2=.cells false e vs)->(∃k,v=.slice (some (c,0)) k)->h'.objs.get c=some p):Built h' base e sz v n cells:=by
 rcases B with B|B|⟨b,vs,ver,h0,h1,h2,h3⟩
 ·exact .inl B
 ·exact .inr (.inl B)
 ·exact .inr (.inr ⟨b,vs,ver,h0,h1,hk _ _ h2 ⟨vs,rfl⟩ ⟨n,h1⟩,h3⟩)
theorem zAG{h h':AHeap}{base:Nat}{e:TypeId}{sz n c:Nat}{v:AVal}{cells:List AVal}{p:Nat×AObj}(B:Built h base e sz v n cells)(hb:But c h h')(hc:h.objs.get c=some p)(hp:∀vs,p.2≠.cells false e vs):Built h' base e sz v n cells:=
 zBG B fun c' p' h1 ⟨vs,h2⟩ _=>hb.keep c' (by rintro rfl;rw[hc] at h1;simp only[oI] at h1;exact hp vs (h1 ▸ h2)) _ h1

structure RInv(h0:AHeap)(b1 bm b4 N:Nat)(nv:AVal)(root:Int)(vo:AVal)(ds:List Nat)(st outM out:List Int)(hp:AHeap):Prop where
 grow:Grow h0 hp
 o1:∃ver,hp.objs.get b1=some (ver,.cells false 24 [nv,.int .i64 root])
 om:∃ver,hp.objs.get bm=some (ver,.cells false 4 (metC N outM))
 o4:∃ver vw,hp.objs.get b4=some (ver,.cells false 28 [vw])/\Built hp h0.next 3 1 vw st.length (st.reverse.map (AVal.int .i64))/\∀c n k,vw=.slice (some (c,0)) n->vo≠.slice (some (c,0)) k
 oo:Built hp h0.next 3 1 vo out.length (out.map (AVal.int .i64))
 ds:ds.Nodup/\∀r∈ds,h0.next<=r/\∃ver,hp.objs.get r=some (ver,.dfr false)
 low:h0.next<=bm/\h0.next<=b4/\b4<hp.next/\bm<hp.next
theorem RInv.other{h0:AHeap}{b1 bm b4 N:Nat}{nv:AVal}{root:Int}{vo:AVal}{ds:List Nat}{st outM out:List Int}{hp hq:AHeap}(I:RInv h0 b1 bm b4 N nv root vo ds st outM out hp)(g:Grow hp hq):RInv h0 b1 bm b4 N nv root vo ds st outM out hq:=by
 obtain⟨v1,k1⟩:=I.o1;obtain⟨vm,km⟩:=I.om;obtain⟨v4,vw,k4,kB,kn⟩:=I.o4;exact⟨I.grow.trans g,⟨v1,g.keep _ _ k1⟩,⟨vm,g.keep _ _ km⟩,⟨v4,vw,g.keep _ _ k4,kB.grow g,kn⟩,I.oo.grow g,⟨I.ds.1,fun r hr=>by
  obtain⟨a,ver,b⟩:=I.ds.2 r hr;exact⟨a,ver,g.keep _ _ b⟩⟩,⟨I.low.1,I.low.2.1,Nat.lt_of_lt_of_le I.low.2.2.1 g.next,Nat.lt_of_lt_of_le I.low.2.2.2 g.next⟩⟩
theorem zAO{v:AVal}{n:Nat}(h:lenO v=some n):zAb v=[v]:=by cases v<;>first|rfl|cases h
theorem RInv_but{h0:AHeap}{b1 bm b4 N c:Nat}{nv:AVal}{root:Int}{vo:AVal}{ds:List Nat}{st outM out:List Int}{hp hq:AHeap}{p:Nat×AObj}(I:RInv h0 b1 bm b4 N nv root vo ds st outM out hp)(w0:WF h0)(b:But c hp hq)(hc:hp.objs.get c=some p)(h1:∀r e vs,p.2≠.cells r e vs)(h2:∀s,p.2≠.dfr s)(hb:h0.next<=c):RInv h0 b1 bm b4 N nv root vo ds st outM out hq:=by
 obtain⟨vr1,k1⟩:=I.o1;obtain⟨vrm,km⟩:=I.om;obtain⟨vr4,vw,k4,kB,kn⟩:=I.o4;have ne:∀{d q},hp.objs.get d=some q->(∃r e vs,q.2=.cells r e vs)->d≠c:=by rintro d q hd ⟨r,e,vs,hh⟩ rfl;rw[hc] at hd;simp only[oI] at hd;exact h1 r e vs (hd ▸ hh)
 refine⟨b.grow h0 w0 I.grow hb,⟨_,b.keep _ (ne k1 ⟨_,_,_,rfl⟩) _ k1⟩,⟨_,b.keep _ (ne km ⟨_,_,_,rfl⟩) _ km⟩,⟨_,_,b.keep _ (ne k4 ⟨_,_,_,rfl⟩) _ k4,zAG kB b hc (fun vs hh=>h1 _ _ _ hh),kn⟩,zAG I.oo b hc (fun vs hh=>h1 _ _ _ hh),⟨I.ds.1,fun r hr=>?_⟩,I.low.1,I.low.2.1,Nat.lt_of_lt_of_le I.low.2.2.1 b.next,Nat.lt_of_lt_of_le I.low.2.2.2 b.next⟩;obtain⟨q1,ver,q2⟩:=I.ds.2 r hr;exact⟨q1,ver,b.keep r (by rintro rfl;rw[hc] at q2;simp only[oI] at q2;exact h2 false (by rw[q2])) _ q2⟩
section
variable{fns:FnsT}{summ:SumT}
theorem zJL{ro:Option Nat}{d:Option Tmp}{e:TypeId}{sz b o n m:Nat}{kd:IntKind}{x y:AOpd}{l:List Step}{a:AAct}{h:AHeap}{K:AAct->AHeap->Prop}(hx:ev a x=some (.slice (some (b,o)) n))(hy:ev a y=some (.int kd (m:Nat)))(hm:m<=n)(k:St fns summ ro l (putA a d (.slice (some (b,o)) m)) h K):
  St fns summ ro (⟨d,none,.q (.slice e sz x none (some y))⟩::l) a h K:=by
 refine st_q (v:=.slice (some (b,o)) m) (b:=none) ?_ k;simp only[zBJ,hx,zBB,hy,Int.toNat_natCast];rw[if_pos (show (0:Int)<=(m:Nat)/\m<=n from⟨by omega,hm⟩)]
theorem zTB{ro:Option Nat}{c:ACode}{a:AAct}{h:AHeap}{Q:AExit->AAct->AHeap->Prop}(I:AAct->Prop)(ha:I a)(k:∀a,I a->Cd fns summ ro c a h Q):Cd fns summ ro c a h Q:=k a ha
theorem zQH{rs:List ARes}{K:AVal->AHeap->Prop}{a:AAct}{h:AHeap}{ds:List ADef}(hd:a.defers=ds)(k:Lv fns summ ds h fun h=>∃v,zCA a h rs=some v/\K v h):fin fns summ rs K .ret a h:=by show Lv fns summ a.defers h _;rw[hd];exact k
theorem nD{a:AAct}{ds:List ADef}(hv:a.defers=ds:=by first|(simp only[zDy, *];done)|(simp only[zDy];assumption)):a.defers=ds:=hv
end
section
variable{fns:FnsT}{summ:SumT}
variable(H:Has fns summ)
include H
theorem Reach_ok(g:Graph)(hg:GSm g)(v:AVal)(h:AHeap)(hw:WF h)(hv:GraphAt h v g):Cl fns summ 61 [v] h fun r h'=>Built h' h.next 3 1 r (zAI g).length ((zAI g).map (AVal.int .i64))/\Grow h h':=by
 obtain⟨nv,rfl,hN⟩:=hv;have hlen:=hN.len;refine H.go (fn:=F_Reach) rfl (by decide) rfl rfl ?_;unfold F_Reach;dsimp only[qQ,qE,qN,tm,mt,lo,fa,jk,jl,js,ji,je,jc,jo,jR,jS,jC];refine zAu (zAz ?_);refine zAr e1 cc hw ?_;rintro b1 h1 hb1 g1 o1;have hpart:zAk (some 2) [nv,.int .i64 g.root] 0=some (.agg [nv,.int .i64 g.root]):=rfl;repeat refine zR ?_
 refine zAL s1 ((Check_ok H g hg.toGraphSm _ h1 g1.wf ⟨nv,rfl,hN.mono g1⟩).mono ?_);rintro _ h2 ⟨rfl,g2⟩;replace o1:=g2.keep _ _ o1;have g02:=g1.trans g2;cases hck:(zAB g != 0)
 ·obtain⟨ra,rb,rN,rm⟩:=zAN (show zAB g=0 by simpa using hck);have hroom:∀k,k<=2 ^ 30+1->zCd 8 k=true:=fun k hk=>by
   have e30:(2:Nat) ^ 30=1073741824:=by decide
   have e46:(2:Nat) ^ 46=70368744177664:=by decide
   simp only[zCd,Bool.and_eq_true];exact⟨rfl,Nat.ble_eq.mpr (by omega)⟩
  have hroom1:zCd 1 g.nodes.length=true:=by
   have e46:(2:Nat) ^ 46=70368744177664:=by decide
   simp only[zCd,Bool.and_eq_true];exact⟨rfl,Nat.ble_eq.mpr (by omega)⟩
  have h30:(1048576:Nat)<=2 ^ 30:=by decide
  repeat refine zR ?_
  refine zGw e1 e1 (by omega) hroom1 g2.wf ?_;rintro bm h3 hbm g3 om;have l1:=g2.wf.lt o1;replace o1:=g3.keep _ _ o1;rw[zMg] at om;repeat refine zR ?_
  refine zAT e1 cc rfl rfl g3.wf ?_;rintro bs h4 hbs g4 os;have lm:=g3.wf.lt om;refine zAM g4.wf ?_;rintro b4 h5 hb4 g5 o4;have ls:=g4.wf.lt os;refine zAC e1 e1 cc rfl g5.wf o4 (by simp) rfl ?_;rintro v4 h6 p6 o4';simp only[lL,Nat.reduceAdd] at o4';have gA:Grow h4 h6:=p6.grow h4 g4.wf g5 hb4;have g06:Grow h h6:=((g02.trans g3).trans g4).trans gA;have hI:RInv h b1 bm b4 g.nodes.length nv g.root (.slice none 0) [] [g.root] [] [] h6:=by have n2:=g02.next;have n3:=g3.next;have n4:=g4.next;have n6:=gA.next;refine⟨g06,⟨_,gA.keep _ _ (g4.keep _ _ o1)⟩,⟨_,gA.keep _ _ (g4.keep _ _ om)⟩,⟨_,_,o4',.inr (.inr ⟨bs,_,_,by omega,rfl,gA.keep _ _ os,by simp,rfl⟩),fun c n k _ hh=>by cases hh⟩,.inl ⟨rfl,rfl,rfl⟩,⟨List.nodup_nil,fun r hr=>by cases hr⟩,by omega,by omega,g06.wf.lt o4',by omega⟩
  clear om os o4 o4' gA g3 g4 g5 p6 lm ls l1 hbm hbs hb4 o1 g2 g02 g1 hb1;repeat refine zR ?_
  refine zBT ?_;refine zCS (fun m a hp=>∃st out vo ds,m=st.length+zAU out g.nodes 0/\out.length+m<=1+zAU [] g.nodes 0/\zBK g.nodes (1+zAU [] g.nodes 0) [g.root] []=zBK g.nodes m st out/\Ok g.nodes.length st/\RInv h b1 bm b4 g.nodes.length nv g.root vo ds st out out hp/\a.defers=ds.map ADef.collected∧
   ev a (.tmp 1)=some (.ptr (some (b1,0)))/\ev a (.tmp 3)=some (.slice (some (bm,0)) g.nodes.length)/\ev a (.tmp 4)=some (.ptr (some (b4,0)))/\ev a (.tmp 5)=some vo) ?_ (n:=1+zAU [] g.nodes 0)
   ⟨[g.root],[],_,[],by simp,by simp,rfl,by intro a ha;simp at ha;subst ha;exact⟨ra,rb⟩,hI,n1,e1,e1,e1,e1⟩
  clear hI g06;rintro m a hp ⟨st,out,vo,ds,hm,hmo,hre,hok,I,hd,h1',h3',h4',h5'⟩;obtain⟨ver4,vw,k4,kB,kn⟩:=I.o4;have hlw:=kB.len;cases st with
  |nil=>
   have hz:decide (Int.ofNat 0>0)=false:=rfl;have hout:out=zAI g:=by have:zAI g=zBK g.nodes (1+zAU [] g.nodes 0) [g.root] []:=if_pos (show zAB g=0 by simpa using hck);rw[this,hre];cases m<;>rfl
   repeat refine zR ?_
   refine zQH (ds:=ds.map ADef.collected) (by exact nD) (zRb (base:=h.next) ds I.grow.wf I.ds.1 I.ds.2 fun h' w' hl hs hg'=>⟨vo,r1,?_,hg' h hw I.grow (Nat.le_refl _)⟩);rw[<-hout];refine zBG I.oo fun c p hc hp _=>?_;rw[hs c (fun hcd=>?_)]
   ·exact hc
   ·obtain⟨_,ver,hd⟩:=I.ds.2 c hcd;obtain⟨vs,hp⟩:=hp;rw[hd] at hc;simp only[oI] at hc;rw[<-hc] at hp;cases hp
  |cons x st=>
   obtain⟨x0,x1⟩:=hok x (by simp);obtain⟨k,rfl⟩:∃k:Nat,x=(k:Int):=⟨x.toNat,by omega⟩;have hkN:k<g.nodes.length:=by omega
   have hok':Ok g.nodes.length st:=fun b hb=>hok b (by simp[hb]);have ht:=hg.total;have e30:(2:Nat) ^ 30=1073741824:=by decide
   simp only[zlC] at hlw hm kB;have hz:decide (Int.ofNat (st.length+1)>0)=true:=by simp
   rcases kB with⟨_,hh,_⟩|⟨_,hh,_⟩|⟨bw,vsw,verw,hbw,rfl,hgw,hlenw,htw⟩
   ·cases hh
   ·cases hh
   rw[Nat.mul_one] at hlenw htw;have hw1:IntKind.i64.wrap (Int.ofNat (st.length+1) - 1)=(st.length:Int):=by simp only[Int.ofNat_eq_natCast];rw[zAa (by omega) (by omega)];omega
   have hix:slA (.slice (some (bw,0)) (st.length+1)) 1 st.length=some (bw,st.length):=by simp[slA]
   have hvo:vsw[st.length]?=some (.int .i64 (k:Nat)):=by have:=congrArg (fun l=>l[st.length]?) htw;simp only[List.getElem?_take,if_pos (Nat.lt_succ_self _)] at this;rw[this];simp
   repeat refine zR ?_
   refine zJL e1 e1 (by omega) ?_;refine zAC e1 e1 cc rfl I.grow.wf k4 (by simp) rfl ?_;rintro v4' hq p4 o4';simp only[lL,Nat.reduceAdd] at o4';obtain⟨vr1,k1⟩:=I.o1;obtain⟨vrm,km⟩:=I.om;have ac:RInv h b1 bm b4 g.nodes.length nv g.root vo ds st out out hq:=by
    have nb1:b1≠b4:=by rintro rfl;rw[k4] at k1;cases k1
    have nbm:bm≠b4:=by rintro rfl;rw[k4] at km;cases km
    have nbw:bw≠b4:=by rintro rfl;rw[k4] at hgw;cases hgw
    refine⟨p4.grow h hw I.grow I.low.2.1,⟨_,p4.keep _ nb1 _ k1⟩,⟨_,p4.keep _ nbm _ km⟩,⟨_,_,o4',.inr (.inr ⟨bw,vsw,_,hbw,rfl,p4.keep _ nbw _ hgw,by omega,?_⟩),fun c n k hc=>?_⟩,zAG I.oo p4 k4 (fun vs hh=>by cases hh),⟨I.ds.1,fun r hr=>?_⟩,I.low.1,I.low.2.1,Nat.lt_of_lt_of_le I.low.2.2.1 p4.next,Nat.lt_of_lt_of_le I.low.2.2.2 p4.next⟩
    ·have:=congrArg (List.take st.length) htw;rw[List.take_take,Nat.min_eq_left (by omega)] at this;rw[Nat.mul_one,this];simp[List.take_left']
    ·simp only[AVal.slice.injEq] at hc;obtain⟨hc,rfl⟩:=hc;exact kn c _ k (by rw[hc])
    ·obtain⟨q1,ver,q2⟩:=I.ds.2 r hr;exact⟨q1,ver,p4.keep r (by rintro rfl;rw[k4] at q2;cases q2) _ q2⟩
   obtain⟨vrm',km'⟩:=ac.om;have hixm:slA (.slice (some (bm,0)) g.nodes.length) 1 k=some (bm,k):=by simp[slA,hkN]
   have hmk:(metC g.nodes.length out)[k]?=some (.bool (out.contains (k:Int))):=zFS hkN;clear hw1 hix hvo hlw hz hlenw htw hgw k4 k1 km I p4 kn;obtain⟨m',rfl⟩:∃m',m=m'+1:=⟨m - 1,by omega⟩;have hck2:g.nodes[k]?=some g.nodes[k]:=zgG hkN;have hargsN:zHY g.nodes (k:Int)=g.nodes[k].args:=by simp only[zHY,Int.toNat_natCast,hck2]
   cases hcon:out.contains (k:Int)
   ·have hput:=(zGS out k g.nodes 0).2 (Nat.zero_le _) hcon g.nodes[k] (by simpa using hck2);have hre':zBK g.nodes (1+zAU [] g.nodes 0) [g.root] []=zBK g.nodes m' (g.nodes[k].args++st) (out++[(k:Int)]):=by
     rw[hre,zBK,hcon,hargsN];rfl
    rw[hcon] at hmk;clear hre;have hmkl:(metC g.nodes.length out).length=g.nodes.length:=by simp[metC]
    repeat refine zR ?_
    refine zAC e1 e1 cc rfl ac.grow.wf km' (by simp only[hmkl,zlC,zlN];omega) rfl ?_;rintro v5 h5 p5 o5;simp only[zlC,zlN,Nat.zero_add] at o5;rw[zMh hkN] at o5;have hI5:RInv h b1 bm b4 g.nodes.length nv g.root vo ds st (out++[(k:Int)]) out h5:=by
     obtain⟨vr1,k1⟩:=ac.o1;obtain⟨vr4,vw,k4,kB,kn⟩:=ac.o4;have nb1:b1≠bm:=by rintro rfl;rw[km'] at k1;cases k1
     have nb4:b4≠bm:=by rintro rfl;rw[km'] at k4;cases k4
     refine⟨p5.grow h hw ac.grow ac.low.1,⟨_,p5.keep _ nb1 _ k1⟩,⟨_,o5⟩,⟨_,_,p5.keep _ nb4 _ k4,zAG kB p5 km' (fun vs hh=>by cases hh),kn⟩,zAG ac.oo p5 km' (fun vs hh=>by cases hh),⟨ac.ds.1,fun r hr=>?_⟩,ac.low.1,ac.low.2.1,Nat.lt_of_lt_of_le ac.low.2.2.1 p5.next,Nat.lt_of_lt_of_le ac.low.2.2.2 p5.next⟩;obtain⟨q1,ver,q2⟩:=ac.ds.2 r hr;exact⟨q1,ver,p5.keep r (by rintro rfl;rw[km'] at q2;cases q2) _ q2⟩
    clear o5 p5 km' hmk ac;repeat refine zR ?_
    refine zAT e1 cc rfl rfl hI5.grow.wf ?_;rintro bx h6 hbx g6 ox;have aa:=hI5.other g6;refine zAZ e1 e1 aa.oo ox rfl rfl (hroom _ (by omega)) aa.grow.wf aa.grow.next ?_;rintro vo' h7 B7 f7 w7 n7 gr7 kp7;have hI7:RInv h b1 bm b4 g.nodes.length nv g.root vo' ds st (out++[(k:Int)]) (out++[(k:Int)]) h7:=by
     obtain⟨vr1,k1⟩:=aa.o1;obtain⟨vrm,km⟩:=aa.om;obtain⟨vr4,vw,k4,kB,kn⟩:=aa.o4;refine⟨gr7 h hw aa.grow (Nat.le_refl _),⟨_,kp7 _ _ k1 (zAE aa.oo k1 fun vs hh=>by cases hh)⟩,⟨_,kp7 _ _ km (zAE aa.oo km fun vs hh=>by cases hh)⟩,⟨_,_,kp7 _ _ k4 (zAE aa.oo k4 fun vs hh=>by cases hh),zBG kB (fun c p hc _ ⟨j,hj⟩=>kp7 _ _ hc (fun n=>kn c j n hj)),fun c n j hc hh=>?_⟩,by simpa using B7,⟨aa.ds.1,fun r hr=>?_⟩,aa.low.1,aa.low.2.1,Nat.lt_of_lt_of_le aa.low.2.2.1 n7,Nat.lt_of_lt_of_le aa.low.2.2.2 n7⟩
     ·have:=f7 c j hh;rcases kB with⟨q,_⟩|⟨q,_⟩|⟨b',vs',ver',_,q,q2,_⟩
      ·rw[q] at hc;cases hc
      ·rw[q] at hc;cases hc
      ·rw[q] at hc;simp only[AVal.slice.injEq,oI,Prod.mk.injEq] at hc;obtain⟨⟨rfl,_⟩,_⟩:=hc;have:=aa.grow.wf.lt q2;omega
     ·obtain⟨q1,ver,q2⟩:=aa.ds.2 r hr;exact⟨q1,ver,kp7 _ _ q2 (zAE aa.oo q2 fun vs hh=>by cases hh)⟩
    clear B7 f7 w7 n7 gr7 kp7 aa hI5 ox g6;obtain⟨vr1,k1⟩:=hI7.o1;obtain⟨bn,on,vern,ron,en,vsn,av,lv,hixn,hgn',_,_,_,_,hav,_,_,ha,_⟩:=hN.at hck2;have hgn:=hI7.grow.keep _ _ hgn';clear hgn';repeat refine zR ?_
    refine zAL s1 ((Backward_ok H av h7 hI7.grow.wf (zAD ha.len)).mono ?_);rintro _ h8 ⟨bb,verb,rfl,hbb,ob,g8⟩;have hI8:=hI7.other g8;have hb4bb:b4<bb:=Nat.lt_of_lt_of_le hI7.low.2.2.1 hbb;clear hgn k1 hixn hav hI7 g8;repeat refine zR ?_
    refine zTB (fun A=>A.defers=ds.map ADef.collected/\ev A (.tmp 1)=some (.ptr (some (b1,0)))/\ev A (.tmp 3)=some (.slice (some (bm,0)) g.nodes.length)/\ev A (.tmp 4)=some (.ptr (some (b4,0)))/\ev A (.tmp 5)=some vo'/\ev A (.tmp 50)=some (.func 115 [] [.ptr (some (bb,0))]))
     ⟨by exact nD,e1,e1,e1,e1,e1⟩ ?_
    clear hd h1' h3' h4' h5';rintro A ⟨hd,h1',h3',h4',h5',h50⟩;refine zBT ?_;refine zOA h50 ?_;have hla:g.nodes[k].args.length<2 ^ 60:=(hg.all _ (List.getElem_mem hkN)).args;have hlt:g.nodes[k].args.length<=zAU [] g.nodes 0:=by have h1:=zJj out g.nodes 0;omega
    refine(Backward1_ok H g.nodes[k].args hla av (.yield (h8.next+1)) bb (fun kk hq=>RInv h b1 bm b4 g.nodes.length nv g.root vo' ds (g.nodes[k].args.drop (g.nodes[k].args.length - kk)++st) (out++[(k:Int)]) (out++[(k:Int)]) hq/\(∃ver,hq.objs.get bb=some (ver,.cells false 28 [av]))∧
     (∃ver,hq.objs.get (h8.next+1)=some (ver,.loop .ready none A.tmps [51,52] (.ops [⟨some 8,none,.q (.mov (.tmp 52))⟩]) (.block 3 (.ops [⟨some 53,none,.q (.load none (.tmp 4))⟩,⟨some 54,none,.q (.mov (.tmp 8))⟩,⟨some 55,none,.e (.bslice 3 1 1 [.int .i64 0] [(0,.tmp 54)])⟩,⟨some 56,none,.e (.append 3 1 8 (.tmp 53) (.tmp 55))⟩,⟨none,none,.e (.store 1 (.tmp 4) (.tmp 56))⟩])) h8.next))∧
     (∃ver,hq.objs.get h8.next=some (ver,.dfr false))) ?_ ?_ _ ?_).mono ?_
    ·rintro kk hq ⟨I,⟨ver,o⟩,_⟩;exact⟨ver,_,_,o,ha.mono I.grow⟩
    ·rintro kk hq ⟨I,⟨vbb,obb⟩,⟨vl,ol⟩,⟨vd,od⟩⟩ hkk;have hT4:ev {tmps:=A.tmps,defers:=[]} (.tmp 4)=some (.ptr (some (b4,0))):=h4';refine zPz ol rfl ?_;clear hd h1' h3' h4' h5' h50;repeat refine zR ?_
     refine⟨_,_,_,_,_,_,_,ol,?_⟩;have pL:=zER I.grow.wf ol (.loop .busy none A.tmps [51,52] (.ops [⟨some 8,none,.q (.mov (.tmp 52))⟩]) (.block 3 (.ops [⟨some 53,none,.q (.load none (.tmp 4))⟩,⟨some 54,none,.q (.mov (.tmp 8))⟩,⟨some 55,none,.e (.bslice 3 1 1 [.int .i64 0] [(0,.tmp 54)])⟩,⟨some 56,none,.e (.append 3 1 8 (.tmp 53) (.tmp 55))⟩,⟨none,none,.e (.store 1 (.tmp 4) (.tmp 56))⟩])) h8.next);have oL:=zAc hq (h8.next+1) (.loop .busy none A.tmps [51,52] (.ops [⟨some 8,none,.q (.mov (.tmp 52))⟩]) (.block 3 (.ops [⟨some 53,none,.q (.load none (.tmp 4))⟩,⟨some 54,none,.q (.mov (.tmp 8))⟩,⟨some 55,none,.e (.bslice 3 1 1 [.int .i64 0] [(0,.tmp 54)])⟩,⟨some 56,none,.e (.append 3 1 8 (.tmp 53) (.tmp 55))⟩,⟨none,none,.e (.store 1 (.tmp 4) (.tmp 56))⟩])) h8.next);have n8:=hI8.grow.next;have I9:=RInv_but I hw pL ol (fun r e vs hh=>by cases hh) (fun s hh=>by cases hh) (by omega);have obb9:=pL.keep bb (by rintro rfl;rw[ol] at obb;cases obb) _ obb;have od9:=pL.keep h8.next (by omega) _ od;generalize zAX hq (h8.next+1) _=h9 at oL I9 obb9 od9 ⊢;clear pL I obb od ol;obtain⟨ver4,vw,k4,kB,kn⟩:=I9.o4;repeat refine zR ?_
     have hkl:(g.nodes[k].args.drop (g.nodes[k].args.length - kk)++st).length=kk+st.length:=by simp;omega
     have hle2:=zJj out g.nodes 0;refine zAT e1 cc rfl rfl I9.grow.wf ?_;rintro bz h10 hbz g10 oz;have ab:=I9.other g10;have k4':=g10.keep _ _ k4;have kB':=kB.grow g10;refine zAZ e1 e1 kB' oz rfl rfl (hroom _ (by omega)) ab.grow.wf ab.grow.next ?_;rintro vw' h11 B11 f11 w11 n11 gr11 ae;have ad:=ae _ _ k4' (zAE kB' k4' fun vs hh=>by cases hh);have hone:=zAD B11.len;refine zAC e1 e1 (zAO B11.len) rfl w11 ad (by simp) (by simp only[List.all_cons,List.all_nil,hone,Bool.and_true]) ?_;rintro v12 h12 p12 o12;simp only[lL,Nat.reduceAdd] at o12;have hdrop:g.nodes[k].args.drop (g.nodes[k].args.length - (kk+1))=g.nodes[k].args[g.nodes[k].args.length - 1 - kk]'(by omega)::g.nodes[k].args.drop (g.nodes[k].args.length - kk):=by rw[show g.nodes[k].args.length - (kk+1)=g.nodes[k].args.length - 1 - kk by omega,List.drop_eq_getElem_cons (by omega),show g.nodes[k].args.length - 1 - kk+1=g.nodes[k].args.length - kk by omega]
     have I12:RInv h b1 bm b4 g.nodes.length nv g.root vo' ds (g.nodes[k].args.drop (g.nodes[k].args.length - (kk+1))++st) (out++[(k:Int)]) (out++[(k:Int)]) h12:=by
      obtain⟨vr1,k1⟩:=ab.o1;obtain⟨vrm,km⟩:=ab.om;have q1:=ae _ _ k1 (zAE kB' k1 fun vs hh=>by cases hh);have qm:=ae _ _ km (zAE kB' km fun vs hh=>by cases hh);have n1:b1≠b4:=by rintro rfl;rw[ad] at q1;cases q1
      have nm:bm≠b4:=by rintro rfl;rw[ad] at qm;cases qm
      have hB:Built h11 h.next 3 1 vw' ((g.nodes[k].args.drop (g.nodes[k].args.length - (kk+1))++st).length) ((g.nodes[k].args.drop (g.nodes[k].args.length - (kk+1))++st).reverse.map (AVal.int .i64)):=by rw[hdrop];simpa using B11
      refine⟨p12.grow h hw (gr11 h hw ab.grow (Nat.le_refl _)) ab.low.2.1,⟨_,p12.keep _ n1 _ q1⟩,⟨_,p12.keep _ nm _ qm⟩,⟨_,_,o12,zAG hB p12 ad (fun vs hh=>by cases hh),fun c n j hc hh=>?_⟩,?_,⟨ab.ds.1,fun r hr=>?_⟩,ab.low.1,ab.low.2.1,Nat.lt_of_lt_of_le (Nat.lt_of_lt_of_le ab.low.2.2.1 n11) p12.next,Nat.lt_of_lt_of_le (Nat.lt_of_lt_of_le ab.low.2.2.2 n11) p12.next⟩
      ·have h1:=f11 c n hc;rcases ab.oo with⟨q,_⟩|⟨q,_⟩|⟨b',vs',ver',_,q,q2,_⟩
       ·rw[q] at hh;cases hh
       ·rw[q] at hh;cases hh
       ·rw[q] at hh;simp only[AVal.slice.injEq,oI,Prod.mk.injEq] at hh;obtain⟨⟨rfl,_⟩,_⟩:=hh;have:=ab.grow.wf.lt q2;omega
      ·have hoo:Built h11 h.next 3 1 vo' (out++[(k:Int)]).length ((out++[(k:Int)]).map (AVal.int .i64)):=zBG ab.oo fun c p hc _ ⟨j,hj⟩=>ae _ _ hc fun n hh=>kn c n j hh hj;exact zAG hoo p12 ad fun vs hh=>by cases hh
      ·obtain⟨q1,ver,q2⟩:=ab.ds.2 r hr;have q3:=ae _ _ q2 (zAE kB' q2 fun vs hh=>by cases hh);exact⟨q1,ver,p12.keep r (by rintro rfl;rw[ad] at q3;cases q3) _ q3⟩
     have oL10:=g10.keep _ _ oL;have oL11:=ae _ _ oL10 (zAE kB' oL10 fun vs hh=>by cases hh);have oL12:=p12.keep _ (by rintro e;rw[e,ad] at oL11;cases oL11) _ oL11;have ob10:=g10.keep _ _ obb9;have hav1:=zAD ha.len;have ob11:=ae _ _ ob10 (zAE kB' ob10 fun vs hh=>by cases hh);have ob12:=p12.keep bb (by omega) _ ob11;have od10:=g10.keep _ _ od9;have od11:=ae _ _ od10 (zAE kB' od10 fun vs hh=>by cases hh);have od12:=p12.keep _ (by rintro e;rw[e,ad] at od11;cases od11) _ od11;repeat refine zR ?_
     have pE:=zER I12.grow.wf oL12 (.loop .ready none A.tmps [51,52] (.ops [⟨some 8,none,.q (.mov (.tmp 52))⟩]) (.block 3 (.ops [⟨some 53,none,.q (.load none (.tmp 4))⟩,⟨some 54,none,.q (.mov (.tmp 8))⟩,⟨some 55,none,.e (.bslice 3 1 1 [.int .i64 0] [(0,.tmp 54)])⟩,⟨some 56,none,.e (.append 3 1 8 (.tmp 53) (.tmp 55))⟩,⟨none,none,.e (.store 1 (.tmp 4) (.tmp 56))⟩])) h8.next);exact⟨_,_,_,_,_,_,_,_,oL12,rfl,RInv_but I12 hw pE oL12 (fun r e vs hh=>by cases hh) (fun s hh=>by cases hh) (by omega),⟨_,pE.keep bb (by rintro rfl;rw[oL12] at ob12;cases ob12) _ ob12⟩,⟨_,zAc _ _ _⟩,⟨_,pE.keep h8.next (by omega) _ od12⟩⟩
    ·have wf9:=(Grow.refl hI8.grow.wf).new (.dfr false);have g9:=wf9.new (.loop .ready none A.tmps [51,52] (.ops [⟨some 8,none,.q (.mov (.tmp 52))⟩]) (.block 3 (.ops [⟨some 53,none,.q (.load none (.tmp 4))⟩,⟨some 54,none,.q (.mov (.tmp 8))⟩,⟨some 55,none,.e (.bslice 3 1 1 [.int .i64 0] [(0,.tmp 54)])⟩,⟨some 56,none,.e (.append 3 1 8 (.tmp 53) (.tmp 55))⟩,⟨none,none,.e (.store 1 (.tmp 4) (.tmp 56))⟩])) h8.next);have od:(newA (newA h8 (.dfr false)) (.loop .ready none A.tmps [51,52] (.ops [⟨some 8,none,.q (.mov (.tmp 52))⟩]) (.block 3 (.ops [⟨some 53,none,.q (.load none (.tmp 4))⟩,⟨some 54,none,.q (.mov (.tmp 8))⟩,⟨some 55,none,.e (.bslice 3 1 1 [.int .i64 0] [(0,.tmp 54)])⟩,⟨some 56,none,.e (.append 3 1 8 (.tmp 53) (.tmp 55))⟩,⟨none,none,.e (.store 1 (.tmp 4) (.tmp 56))⟩])) h8.next)).objs.get h8.next=some (h8.next,.dfr false):=by
      rw[zBd _ _ (by rw[zBL];omega)];exact zAQ _ _
     exact⟨by simpa using hI8.other g9,⟨_,g9.keep _ _ ob⟩,⟨_,zAQ _ _⟩,⟨_,od⟩⟩
    ·rintro _ h13 ⟨I,_,⟨vl,ol⟩,⟨vd,od⟩⟩;refine⟨_,_,_,_,_,_,_,_,ol,(by intro hh;cases hh),?_⟩;have pL:=zER I.grow.wf ol (.loop .exhausted none A.tmps [51,52] (.ops [⟨some 8,none,.q (.mov (.tmp 52))⟩]) (.block 3 (.ops [⟨some 53,none,.q (.load none (.tmp 4))⟩,⟨some 54,none,.q (.mov (.tmp 8))⟩,⟨some 55,none,.e (.bslice 3 1 1 [.int .i64 0] [(0,.tmp 54)])⟩,⟨some 56,none,.e (.append 3 1 8 (.tmp 53) (.tmp 55))⟩,⟨none,none,.e (.store 1 (.tmp 4) (.tmp 56))⟩])) h8.next);have n8:=hI8.grow.next;have I14:=RInv_but I hw pL ol (fun r e vs hh=>by cases hh) (fun s hh=>by cases hh) (by omega);have od14:=pL.keep h8.next (by omega) _ od;rw[Nat.sub_self,zlZ] at I14;refine zFI ?_;refine zFI ?_;refine zAd ?_;have hnd:h8.next∉ds:=fun hm=>by
      obtain⟨_,ver,hd⟩:=hI8.ds.2 _ hm;have:=hI8.grow.wf.lt hd;omega
     have I15:RInv h b1 bm b4 g.nodes.length nv g.root vo' (h8.next::ds) (g.nodes[k].args++st) (out++[(k:Int)]) (out++[(k:Int)]) (zAX h13 (h8.next+1) (.loop .exhausted none A.tmps [51,52] (.ops [⟨some 8,none,.q (.mov (.tmp 52))⟩]) (.block 3 (.ops [⟨some 53,none,.q (.load none (.tmp 4))⟩,⟨some 54,none,.q (.mov (.tmp 8))⟩,⟨some 55,none,.e (.bslice 3 1 1 [.int .i64 0] [(0,.tmp 54)])⟩,⟨some 56,none,.e (.append 3 1 8 (.tmp 53) (.tmp 55))⟩,⟨none,none,.e (.store 1 (.tmp 4) (.tmp 56))⟩])) h8.next)):=
      {I14 with ds:=⟨List.nodup_cons.2 ⟨hnd,I14.ds.1⟩,fun r hr=>by
        rcases List.mem_cons.1 hr with rfl|hr
        ·exact⟨n8,_,od14⟩
        ·exact I14.ds.2 r hr⟩}
     have hoka:Ok g.nodes.length (g.nodes[k].args++st):=fun b hb=>by
      rcases List.mem_append.1 hb with hb|hb
      ·exact zAh (rm _ (List.getElem_mem hkN)) b hb
      ·exact hok' b hb
     refine⟨m',Nat.lt_succ_self _,_,_,_,_,?_,?_,hre',hoka,I15,?_,h1',h3',h4',h5'⟩
     ·simp only[zgL];omega
     ·simp only[zgL,zlC,zlN];omega
     ·show ADef.collected h8.next::A.defers=_;rw[hd];rfl
   ·have hre':zBK g.nodes (1+zAU [] g.nodes 0) [g.root] []=zBK g.nodes m' st out:=by
     rw[hre,zBK,hcon];rfl
    rw[hcon] at hmk;clear hre;repeat refine zR ?_
    exact⟨m',Nat.lt_succ_self _,st,out,vo,ds,by omega,by omega,hre',hok',ac,by exact nD,e1,e1,e1,e1⟩
 ·repeat refine zG ?_
  exact⟨.inl ⟨rfl,by simp[zAI,show ¬zAB g=0 by simpa using hck],by simp[zAI,show ¬zAB g=0 by simpa using hck]⟩,g02⟩
end
end Go.Ab.S
end
section
namespace Go.Ab.S
open Go.Ab
theorem zGA{v:AVal}{n:Nat}(h:lenO v=some n):v=.slice none n\/(∃b o,v=.slice (some (b,o)) n)\/(v=.slice0/\n=0)\/(v=.sliceE/\n=0):=by
 cases v with
 |slice p k=>
  simp only[lenO,oI] at h;subst h;cases p with
  |none=>exact .inl rfl
  |some p=>exact .inr (.inl ⟨p.1,p.2,rfl⟩)
 |slice0=>simp only[lenO,oI] at h;exact .inr (.inr (.inl ⟨rfl,h.symm⟩))
 |sliceE=>simp only[lenO,oI] at h;exact .inr (.inr (.inr ⟨rfl,h.symm⟩))
 |_=>cases h
theorem zLL{vs:List AVal}{sz:Nat}:∀(xs:List (List AVal)) (o:Nat),(∀i x,xs[i]?=some x->x.length=sz/\(vs.drop (o+i*sz)).take sz=x)->(vs.drop o).take (xs.length*sz)=xs.flatten
 |[],o,_=>by simp
 |x::r,o,h=>by
  have h0:=(h 0 x rfl).2;rw[Nat.zero_mul,Nat.add_zero] at h0;have ih:=zLL r (o+sz) fun i y hy=>by have:=h (i+1) y (by simpa using hy);rw[Nat.succ_mul] at this;rw[show o+sz+i*sz=o+(i*sz+sz) by omega];exact this
  rw[zlC,Nat.succ_mul,Nat.add_comm,List.take_add,h0,List.drop_drop,ih,List.flatten_cons]
theorem SlAt_cells{h:AHeap}{sz b o n:Nat}{xs:List (List AVal)}(k:SlAt h sz (.slice (some (b,o)) n) xs)(hn:0<n)(hz:0<sz):n=xs.length/\∃ver ro e vs,h.objs.get b=some (ver,.cells ro e vs)/\o+n*sz<=vs.length/\(vs.drop o).take (n*sz)=xs.flatten/\xs.flatten.length=n*sz:=by
 have hl:n=xs.length:=by have:=k.1;simp only[lenO,oI] at this;exact this
 subst hl;refine⟨rfl,?_⟩;have ac:∀i,i<xs.length->slA (.slice (some (b,o)) xs.length) sz i=some (b,o+i*sz):=fun i hi=>by simp[slA,hi]
 obtain⟨_,b0,o0,ver,ro,e,vs,h1,h2,h3⟩:=k.2 0 _ (zgG hn);rw[ac 0 hn] at h1;simp only[oI,Prod.mk.injEq] at h1;obtain⟨rfl,_⟩:=h1;have ab:∀i x,xs[i]?=some x->x.length=sz/\(vs.drop (o+i*sz)).take sz=x:=fun i x hx=>by obtain⟨q1,b1,o1,ver1,ro1,e1,vs1,q2,q3,q4⟩:=k.2 i x hx;rw[ac i (zgS.1 hx).1] at q2;simp only[oI,Prod.mk.injEq] at q2;obtain⟨rfl,rfl⟩:=q2;rw[h2] at q3;simp only[oI,Prod.mk.injEq,AObj.cells.injEq] at q3;obtain⟨_,_,_,rfl⟩:=q3;exact⟨q1,q4⟩
 have hf:=zLL xs o ab;have aa:=ab (xs.length - 1) _ (zgG (by omega));have hle:o+(xs.length - 1)*sz+sz<=vs.length:=by have:=congrArg List.length aa.2;rw[aa.1,List.length_take,List.length_drop] at this;omega
 have hm:(xs.length - 1)*sz+sz=xs.length*sz:=by rw[<-Nat.succ_mul];congr 1;omega
 refine⟨ver,ro,e,vs,h2,by omega,hf,?_⟩;rw[<-hf,List.length_take,List.length_drop];omega
section
variable{fns:FnsT}{summ:SumT}
variable(H:Has fns summ)
theorem zEt{e:TypeId}{bytes sz:Nat}{ro:Option Nat}{d:Option Tmp}{x y:AOpd}{l:List Step}{a:AAct}{h:AHeap}{K:AAct->AHeap->Prop}{v:AVal}{xs:List (List AVal)}(hx:ev a x=some .slice0)(hy:ev a y=some v)(hv:SlAt h sz v xs)(hz:0<sz)(hnn:v≠.slice none xs.length\/xs≠[])(ho:xs.flatten.all one=true)(hr:zCd bytes xs.length=true)(w:WF h)
  (k:∀r h',Built h' h.next e sz r xs.length xs.flatten->Grow h h'->St fns summ ro l (putA a d r) h' K):St fns summ ro (⟨d,none,.e (.append e sz bytes x y)⟩::l) a h K:=by
 rcases Nat.eq_zero_or_pos xs.length with h0|h0
 ·have ab:xs=[]:=List.length_eq_zero_iff.1 h0;subst ab;have aa:lenA v=some 0:=by
   have:=hv.1;cases v<;>first|exact this|cases this
  refine st_t (by intro _ _ hh;cases hh) (by intro _ _ hh;cases hh) (v:=.slice0) (h':=h) ?_ (k _ _ (.inr (.inl ⟨rfl,rfl,rfl⟩)) (Grow.refl w));simp only[zBP,hx,hy,zDY,aa]
 ·rcases zGA hv.1 with rfl|⟨b,o,rfl⟩|⟨_,hh⟩|⟨_,hh⟩
  ·obtain⟨_,b,o,ver,ro,e,vs,h1,_⟩:=hv.2 0 _ (zgG h0);cases h1
  ·obtain⟨_,ver,rb,eb,vs,h2,h3,h4,h5⟩:=SlAt_cells hv h0 hz;refine zIS (base:=h.next) (n:=0) (cells:=[]) hx hy (.inr (.inl ⟨rfl,rfl,rfl⟩)) (m:=xs.length) rfl h0 (new:=xs.flatten) ?_ ho (by rw[Nat.zero_add];exact hr) h5 w (Nat.le_refl _) ?_
   ·simp only[zEW,h2,if_pos h3,h4]
   ·intro v' h' B _ w' n' g _;rw[Nat.zero_add,zlA] at B;exact k v' h' B (g h w (Grow.refl w) (Nat.le_refl _))
  ·omega
  ·omega
include H
theorem zBN{b k:Nat}(hb:1<=b/\b<=128)(hk:k<=2 ^ 31):zCd b k=true:=by
 have aa:(2:Nat) ^ 31=2147483648:=by decide
 have ab:(2:Nat) ^ 46=70368744177664:=by decide
 simp only[zCd,Bool.and_eq_true];refine⟨Nat.ble_eq.mpr hb.1,Nat.ble_eq.mpr ?_⟩
 calc (2*k+2000)*b<=(2*k+2000)*128:=Nat.mul_le_mul_left _ hb.2
  _<=2 ^ 46:=by omega
omit H
theorem zFQ(l:List Int):(l.map intC).flatten=l.map (AVal.int .i64):=by
 induction l with
 |nil=>rfl
 |cons a r ih=>simp only[List.map_cons,List.flatten_cons,ih];rfl
theorem zCy(l:List (List Nat)):(l.map strC).flatten=l.map AVal.str:=by
 induction l with
 |nil=>rfl
 |cons a r ih=>simp only[List.map_cons,List.flatten_cons,ih];rfl
include H
theorem CloneInt_ok(l:List Int)(hl:l.length<=2 ^ 31)(v:AVal)(h:AHeap)(hw:WF h)(hv:IntsAt h v l):Cl fns summ 37 [v] h fun r h'=>Built h' h.next 3 1 r l.length (l.map (AVal.int .i64))/\Grow h h':=by
 refine H.go (fn:=F_CloneInt) rfl (by decide) rfl rfl ?_;unfold F_CloneInt;dsimp only[qQ,qE,tm,mt,jR,jS,jC];by_cases aa:v=.slice none (l.map intC).length
 ·have ac:l=[]:=by
   cases l with
   |nil=>rfl
   |cons a r=>
    obtain⟨_,b,o,ver,ro,e,vs,h1,_⟩:=hv.2 0 (intC a) rfl;rw[aa] at h1;cases h1
  subst ac;subst aa;repeat refine zG ?_
  exact⟨.inl ⟨rfl,rfl,rfl⟩,Grow.refl hw⟩
 ·have heq:eqA .slice v (.slice none 0)=some false:=by
   rcases zGA hv.1 with h1|⟨b,o,rfl⟩|⟨rfl,_⟩|⟨rfl,_⟩
   ·exact absurd h1 aa
   ·rfl
   ·rfl
   ·rfl
  have ab:=zBN H (b:=8) (by decide) hl;repeat refine zR ?_
  refine st_q (v:=.bool false) (b:=none) (by simp only[zDT,zAl,zBw,zAw,Nat.reduceEqDiff,if_true,if_false,heq];rfl) ?_;repeat refine zR ?_
  refine st_T (by exact tE) (by exact t1) ?_;repeat refine zR ?_
  refine zEt e1 e1 hv (by decide) (.inl aa) (by rw[zFQ];simp[one]) (by simpa using ab) hw ?_;intro r h' B g;rw[zFQ,List.length_map] at B;repeat refine zG ?_
  exact⟨B,g⟩
theorem CloneStr_ok(l:List (List Nat))(hl:l.length<=2 ^ 31)(v:AVal)(h:AHeap)(hw:WF h)(hv:StrsAt h v l):Cl fns summ 62 [v] h fun r h'=>Built h' h.next 9 1 r l.length (l.map AVal.str)/\Grow h h':=by
 refine H.go (fn:=F_CloneStr) rfl (by decide) rfl rfl ?_;unfold F_CloneStr;dsimp only[qQ,qE,tm,mt,jR,jS,jC];by_cases aa:v=.slice none (l.map strC).length
 ·have ac:l=[]:=by
   cases l with
   |nil=>rfl
   |cons a r=>
    obtain⟨_,b,o,ver,ro,e,vs,h1,_⟩:=hv.2 0 (strC a) rfl;rw[aa] at h1;cases h1
  subst ac;subst aa;repeat refine zG ?_
  exact⟨.inl ⟨rfl,rfl,rfl⟩,Grow.refl hw⟩
 ·have heq:eqA .slice v (.slice none 0)=some false:=by
   rcases zGA hv.1 with h1|⟨b,o,rfl⟩|⟨rfl,_⟩|⟨rfl,_⟩
   ·exact absurd h1 aa
   ·rfl
   ·rfl
   ·rfl
  have ab:=zBN H (b:=16) (by decide) hl;repeat refine zR ?_
  refine st_q (v:=.bool false) (b:=none) (by simp only[zDT,zAl,zBw,zAw,Nat.reduceEqDiff,if_true,if_false,heq];rfl) ?_;repeat refine zR ?_
  refine st_T (by exact tE) (by exact t1) ?_;repeat refine zR ?_
  refine zEt e1 e1 hv (by decide) (.inl aa) (by rw[zCy];simp[one]) (by simpa using ab) hw ?_;intro r h' B g;rw[zCy,List.length_map] at B;repeat refine zG ?_
  exact⟨B,g⟩
end
end Go.Ab.S
end
section
namespace Go.Ab.S
open Go.Ab
theorem zIF{ns:List Node}{N:Nat}(hN:∀a:Int,0<=a->a<N->Ok N (zHY ns a)):∀(m:Nat) (st out:List Int),Ok N st->Ok N out->out.Nodup->Ok N (zBK ns m st out)/\(zBK ns m st out).Nodup
 |0,_,_,_,h2,h3=>⟨h2,h3⟩
 |_+1,[],_,_,h2,h3=>⟨h2,h3⟩
 |m+1,a::st,out,h1,h2,h3=>by
  have hst:Ok N st:=fun b hb=>h1 b (by simp[hb]);have ha:=h1 a (by simp);rw[zBK];split
  ·exact zIF hN m st out hst h2 h3
  ·rename_i hc;refine zIF hN m _ _ (fun b hb=>?_) (fun b hb=>?_) ?_
   ·rcases List.mem_append.1 hb with hb|hb
    ·exact hN a ha.1 ha.2 b hb
    ·exact hst b hb
   ·rcases List.mem_append.1 hb with hb|hb
    ·exact h2 b hb
    ·simp only[List.mem_singleton] at hb;subst hb;exact ha
   ·rw[List.nodup_append];refine⟨h3,by simp,fun b hb c aa=>?_⟩;simp only[List.mem_singleton] at aa;rintro rfl;subst aa;exact hc (by simpa using hb)
theorem zCR(g:Graph):Ok g.nodes.length (zAI g)/\(zAI g).Nodup:=by
 unfold zAI;split
 ·rename_i hc;obtain⟨h0,h1,_,hm⟩:=zAN hc;refine zIF (fun a a0 a1=>?_) _ _ _ (fun b hb=>?_) (fun b hb=>(by cases hb)) List.nodup_nil
  ·have hk:a.toNat<g.nodes.length:=by omega
   simp only[zHY,zgG hk];exact zAh (hm _ (List.getElem_mem hk))
  ·simp only[List.mem_singleton] at hb;subst hb;exact⟨h0,h1⟩
 ·exact⟨fun b hb=>(by cases hb),List.nodup_nil⟩
theorem zGr{ns:List Node}:∀(m:Nat) (st out:List Int),(zBK ns m st out).length<=out.length+m
 |0,_,out=>Nat.le_refl _
 |_+1,[],out=>Nat.le_add_right _ _
 |m+1,a::st,out=>by
  rw[zBK];split
  ·have:=zGr (ns:=ns) m st out;omega
  ·have:=zGr (ns:=ns) m (zHY ns a++st) (out++[a]);simp only[zgL,zlC,zlN] at this;omega
theorem zJF{g:Graph}(hg:GSm g):(zAI g).length<=2 ^ 30+1:=by
 have:=hg.total;unfold zAI;split
 ·have h:=zGr (ns:=g.nodes) (1+zAU [] g.nodes 0) [g.root] [];simp only[zlN] at h;omega
 ·simp
def zBV(l:List Int)(a:Int):Nat:=if l.contains a then l.idxOf a else 0
def zAj:Node:=⟨0,[],[],[],false⟩
def zAA(g:Graph)(i:Int):Node:=g.nodes.getD i.toNat zAj
def zCz(l:List Int)(n:Node):Node:={n with args:=n.args.map fun a=>(zBV l a:Int)}
def zBS(g:Graph):Graph:=⟨(zAI g).map fun i=>zCz (zAI g) (zAA g i),0⟩
def toEs:Nat->List Int->List (AVal×AVal×Nat)
 |_,[]=>[]
 |i,a::r=>(.int .i64 a,.int .i64 (i:Nat),i)::toEs (i+1) r
theorem zMy:∀(l:List Int) (i:Nat) (a:Int),toEs i (l++[a])=toEs i l++[(.int .i64 a,.int .i64 ((i+l.length:Nat):Int),i+l.length)]
 |[],i,a=>rfl
 |b::l,i,a=>by simp only[zlK,toEs,zMy l (i+1) a,zlC,show i+1+l.length=i+(l.length+1) by omega]
theorem zIZ(a:Int):∀(l:List Int) (i j:Nat),zBe .int (.int .i64 a) (toEs i l) j=some (if l.contains a then some (j+l.idxOf a,.int .i64 ((i+l.idxOf a:Nat):Int)) else none)
 |[],_,_=>rfl
 |b::l,i,j=>by
  simp only[toEs,zBe,keyA,if_true];by_cases h:a=b
  ·subst h;simp
  ·have h1:(a==b)=false:=by simpa using h
   have h2:(b==a)=false:=by simpa using Ne.symm h
   have ih:=zIZ a l (i+1) (j+1);rw[h1];simp only[ih,List.contains_cons,h1,Bool.false_or,List.idxOf_cons,h2,cond_false];split
   ·congr 2
    ·exact Prod.ext (by simp;omega) (by simp;omega)
   ·rfl
theorem zSP{h:AHeap}{r ver c:Nat}{l:List Int}(hg:h.objs.get r=some (ver,.map (toEs 0 l) c))(a:Int):zCq h .int (.int .i64 0) false (.map (some r)) (.int .i64 a)=some (.int .i64 (zBV l a:Nat),some r):=by have:=zIZ a l 0 0;simp only[zCq,zEd,hg,this,zBV];cases hc:l.contains a<;>simp
end Go.Ab.S
end
section
namespace Go.Ab.S
open Go.Ab
theorem zAW{h:AHeap}{b b' sz n:Nat}{e:TypeId}{v:AVal}{cells:List AVal}(k:Built h b e sz v n cells)(hb:b'<=b):Built h b' e sz v n cells:=by
 rcases k with k|k|⟨c,vs,ver,h0,h1⟩
 ·exact .inl k
 ·exact .inr (.inl k)
 ·exact .inr (.inr ⟨c,vs,ver,Nat.le_trans hb h0,h1⟩)
theorem zDA{h:AHeap}{base:Nat}{e:TypeId}{v:AVal}{l:List (List Nat)}(B:Built h base e 1 v l.length (l.map AVal.str)):StrsAt h v l:=
 B.sl (by decide) (xs:=l.map strC) (by rw[zCy]) (by intro c hc;obtain⟨a,_,rfl⟩:=List.mem_map.1 hc;rfl) (by simp)
def OwnN(h:AHeap)(base:Nat)(c:List AVal)(n:Node):Prop:=∃av lv,c=[.int .i64 n.kind,.str n.name,av,lv,.bool n.isOpen]/\Built h base 3 1 av n.args.length (n.args.map (AVal.int .i64))/\Built h base 9 1 lv n.labels.length (n.labels.map AVal.str)
theorem OwnN_at{h:AHeap}{base:Nat}{c:List AVal}{n:Node}(k:OwnN h base c n):NodeAt h c n:=by obtain⟨av,lv,h1,h2,h3⟩:=k;exact⟨av,lv,h1,zBb h2,zDA h3⟩
theorem OwnN_stay{h h':AHeap}{base:Nat}{c:List AVal}{n:Node}(k:OwnN h base c n)(hk:∀b p,h.objs.get b=some p->((∃vs,p.2=.cells false 3 vs)\/∃vs,p.2=.cells false 9 vs)->h'.objs.get b=some p):OwnN h' base c n:=by obtain⟨av,lv,h1,h2,h3⟩:=k;exact⟨av,lv,h1,zBG h2 fun b p hb hp _=>hk b p hb (.inl hp),zBG h3 fun b p hb hp _=>hk b p hb (.inr hp)⟩
theorem zDH:∀(ns:List Node) (i:Nat) (n:Node),n∈ns->n.args.length<=zAU [] ns i
 |[],_,_,h=>by cases h
 |m::r,i,n,h=>by
  simp only[zAU];rcases List.mem_cons.1 h with rfl|h
  ·simp
  ·have:=zDH r (i+1) n h;omega
theorem zKA{vs:List AVal}{i n:Nat}{x:AVal}(hi:i<n)(hv:n<=vs.length):(vs.take i++[x]++vs.drop (i+1)).take n=(vs.take n).set i x:=by rw[<-List.take_set,List.set_eq_take_append_cons_drop,if_pos (by omega),List.append_assoc];rfl
def Lst(l args:List Int)(i:Nat):List Int:=(args.take i).map (fun a=>(zBV l a:Int))++args.drop i
theorem Lst_get{l args:List Int}{i:Nat}(h:i<args.length):(Lst l args i)[i]?=some args[i]:=by rw[Lst,List.getElem?_append_right (by simp;omega)];simp[Nat.min_eq_left (Nat.le_of_lt h),h]
theorem Lst_set{l args:List Int}{i:Nat}(h:i<args.length):(Lst l args i).set i (zBV l args[i]:Int)=Lst l args (i+1):=by
 have hl:((args.take i).map (fun a=>(zBV l a:Int))).length=i:=by simp;omega
 rw[Lst,List.set_append_right _ _ (by omega),hl,Nat.sub_self,List.drop_eq_getElem_cons h,List.set_cons_zero,Lst,List.take_succ_eq_append_getElem h,List.map_append,List.append_assoc];rfl
theorem zAR{h h':AHeap}{base:Nat}{e:TypeId}{sz n:Nat}{v:AVal}{cells:List AVal}(B:Built h base e sz v n cells)(hk:∀c p,base<=c->h.objs.get c=some p->(∃vs,p.2=.cells false e vs)->h'.objs.get c=some p):Built h' base e sz v n cells:=by
 rcases B with B|B|⟨b,vs,ver,h0,h1,h2,h3⟩
 ·exact .inl B
 ·exact .inr (.inl B)
 ·exact .inr (.inr ⟨b,vs,ver,h0,h1,hk _ _ h0 h2 ⟨vs,rfl⟩,h3⟩)
def OwnG(h:AHeap)(base:Nat)(v:AVal)(g:Graph):Prop:=∃(nv:AVal) (cs:List (List AVal)),v=.agg [nv,.int .i64 g.root]/\Built h base 36 5 nv g.nodes.length cs.flatten/\cs.length=g.nodes.length/\∀(i:Nat) c n,cs[i]?=some c->g.nodes[i]?=some n->OwnN h base c n
theorem OwnG.graph{h:AHeap}{base:Nat}{v:AVal}{g:Graph}(k:OwnG h base v g):GraphAt h v g:=by obtain⟨nv,cs,rfl,kB,kl,kn⟩:=k;refine⟨nv,rfl,cs,kB.sl (by decide) rfl (fun c hc=>?_) kl,kl,fun i n c hn hc=>OwnN_at (kn i c n hc hn)⟩;obtain⟨i,hi,rfl⟩:=List.mem_iff_getElem.1 hc;obtain⟨_,_,aa,_⟩:=kn i _ _ (zgG hi) (zgG (by omega));rw[aa];rfl
theorem OwnG.stay{h h':AHeap}{base:Nat}{v:AVal}{g:Graph}(k:OwnG h base v g)(hk:∀c p,base<=c->h.objs.get c=some p->((∃vs,p.2=.cells false 36 vs)\/(∃vs,p.2=.cells false 3 vs)\/∃vs,p.2=.cells false 9 vs)->h'.objs.get c=some p):OwnG h' base v g:=by obtain⟨nv,cs,rfl,kB,kl,kn⟩:=k;refine⟨nv,cs,rfl,zAR kB fun c p hc hp ht=>hk c p hc hp (.inl ht),kl,fun i c n hc hn=>?_⟩;obtain⟨av,lv,q1,q2,q3⟩:=kn i c n hc hn;exact⟨av,lv,q1,zAR q2 fun c p hc hp ht=>hk c p hc hp (.inr (.inl ht)),zAR q3 fun c p hc hp ht=>hk c p hc hp (.inr (.inr ht))⟩
theorem OwnG.grow{h h':AHeap}{base:Nat}{v:AVal}{g:Graph}(k:OwnG h base v g)(gr:Grow h h'):OwnG h' base v g:=k.stay fun _ _ _ hp _=>gr.keep _ _ hp
theorem OwnG.base{h:AHeap}{base base':Nat}{v:AVal}{g:Graph}(k:OwnG h base v g)(hb:base'<=base):OwnG h base' v g:=by obtain⟨nv,cs,rfl,kB,kl,kn⟩:=k;refine⟨nv,cs,rfl,zAW kB hb,kl,fun i c n hc hn=>?_⟩;obtain⟨av,lv,q1,q2,q3⟩:=kn i c n hc hn;exact⟨av,lv,q1,zAW q2 hb,zAW q3 hb⟩
structure TInv(h0:AHeap)(b1 b2 bm:Nat)(nv:AVal)(root:Int)(l:List Int)(ns:List Node)(hp:AHeap):Prop where
 grow:Grow h0 hp
 o1:∃ver,hp.objs.get b1=some (ver,.cells false 24 [nv,.int .i64 root])
 om:∃ver,hp.objs.get bm=some (ver,.map (toEs 0 l) l.length)
 o2:∃(ver:Nat) (vo:AVal) (cs:List (List AVal)),hp.objs.get b2=some (ver,.cells false 24 [vo,.int .i64 0])/\Built hp h0.next 36 5 vo ns.length cs.flatten/\cs.length=ns.length/\∀(i:Nat) c n,cs[i]?=some c->ns[i]?=some n->OwnN hp h0.next c n
 low:h0.next<=b1/\b1<b2/\b2<hp.next
theorem TInv.other{h0:AHeap}{b1 b2 bm:Nat}{nv:AVal}{root:Int}{l:List Int}{ns:List Node}{hp hq:AHeap}(I:TInv h0 b1 b2 bm nv root l ns hp)(g:Grow hp hq):TInv h0 b1 b2 bm nv root l ns hq:=by obtain⟨v1,k1⟩:=I.o1;obtain⟨vm,km⟩:=I.om;obtain⟨v2,vo,cs,k2,kB,kl,kn⟩:=I.o2;exact⟨I.grow.trans g,⟨v1,g.keep _ _ k1⟩,⟨vm,g.keep _ _ km⟩,⟨v2,vo,cs,g.keep _ _ k2,kB.grow g,kl,fun i c n hc hn=>OwnN_stay (kn i c n hc hn) fun b p hb _=>g.keep _ _ hb⟩,I.low.1,I.low.2.1,Nat.lt_of_lt_of_le I.low.2.2 g.next⟩
section
variable{fns:FnsT}{summ:SumT}
theorem zRt{ro:Option Nat}{c:ACode}{a:AAct}{h:AHeap}{Q:AExit->AAct->AHeap->Prop}(I:AAct->AHeap->Prop)(k1:Cd fns summ ro c a h (nxt I fun _ _ _=>False))(k2:∀a h,I a h->Q .normal a h):Cd fns summ ro c a h Q:=
 k1.mono fun e a1 h1 hq=>by cases e with
  |normal=>exact k2 a1 h1 hq
  |ret=>exact hq.elim
  |exit i=>exact hq.elim
variable(H:Has fns summ)
include H
theorem Trim_ok(g:Graph)(hg:GSm g)(v:AVal)(h:AHeap)(hw:WF h)(hv:GraphAt h v g):Cl fns summ 38 [v] h fun r h'=>OwnG h' h.next r (zBS g)/\Grow h h':=by
 obtain⟨nv,rfl,hN⟩:=hv;obtain⟨hOk,hNd⟩:=zCR g;have hlen:=hN.len;refine H.go (fn:=F_Trim) rfl (by decide) rfl rfl ?_;unfold F_Trim;dsimp only[qQ,qE,qN,tm,mt,lo,fa,jv,jl,js,ji,je,jc,jo,jG,jN,jR,jS,jL];refine zAu (zAz ?_);refine zAr e1 cc hw ?_;rintro b1 h1 hb1 g1 o1;refine zAM g1.wf ?_;rintro b2 h2 hb2 g2 o2;have l1:=g1.wf.lt o1;replace o1:=g2.keep _ _ o1;have g02:=g1.trans g2;have hpart:zAk (some 2) [nv,.int .i64 g.root] 0=some (.agg [nv,.int .i64 g.root]):=rfl;repeat refine zR ?_
 refine zAL s1 ((Reach_ok H g hg _ h2 g2.wf ⟨nv,rfl,hN.mono g02⟩).mono ?_);rintro rv h3 ⟨hR,g3⟩;replace o1:=g3.keep _ _ o1;replace o2:=g3.keep _ _ o2;have g03:=g02.trans g3;have hrl:=hR.len;repeat refine zR ?_
 refine zFY (.inr ⟨_,_,_,rfl,e1⟩) g3.wf ?_;rintro bm h4 hbm g4 om;have l2:=g3.wf.lt o2;replace o1:=g4.keep _ _ o1;replace o2:=g4.keep _ _ o2;have hR4:=zBb (hR.grow g4);have hR4B:=zAW (hR.grow g4) (b':=h.next) g02.next;have g04:=g03.trans g4;have hlr:(zAI g).length<2 ^ 60:=by
  have:=zJF hg;have e30:(2:Nat) ^ 30=1073741824:=by decide
  omega
 repeat refine zR ?_
 refine zAp (N:=(zAI g).length) (fun j a hp=>(∃ver,hp.objs.get bm=some (ver,.map (toEs 0 ((zAI g).take j)) j))/\(hp=h4\/But bm h4 hp)/\a.defers=[]/\ev a (.tmp 1)=some (.ptr (some (b1,0)))/\ev a (.tmp 2)=some (.ptr (some (b2,0)))/\ev a (.tmp 3)=some rv/\ev a (.tmp 4)=some (.map (some bm))/\ev a (.tmp 17)=some rv) ?_ ?_ ⟨⟨_,om⟩,.inl rfl,n1,e1,e1,e1,e1,e1⟩
 ·rintro j a hp hj ⟨⟨ver,o⟩,hb,hd,ah,ac,e3',aj,e17⟩ hi hn;have hc:(zAI g)[j]?=some (zAI g)[j]:=zgG hj;have aa:∀c p,h4.objs.get c=some p->c≠bm->hp.objs.get c=some p:=fun c p h1 h2=>by
   rcases hb with rfl|hb
   ·exact h1
   ·exact hb.keep c h2 _ h1
  have hwp:WF hp:=by
   rcases hb with rfl|hb
   ·exact g4.wf
   ·exact hb.wf g4.wf
  obtain⟨bb,ob,verb,rb,eb,vsb,hix,ae,hvo⟩:=hR4.at hc;have hget:=aa _ _ ae (by rintro rfl;rw[om] at ae;cases ae);have hnin:((zAI g).take j).contains (zAI g)[j]=false:=by rw[Bool.eq_false_iff];intro hh;simp only[List.contains_eq_mem,decide_eq_true_eq] at hh;obtain⟨i,hi',he⟩:=List.mem_iff_getElem.1 hh;rw[List.getElem_take] at he;have hij:=(List.getElem_inj hNd).1 he;simp only[List.length_take] at hi';omega
  have hf:zBe .int (.int .i64 (zAI g)[j]) (toEs 0 ((zAI g).take j)) 0=some none:=by rw[zIZ,hnin];rfl
  clear ae aa;repeat refine zR ?_
  refine zIT e1 e1 e1 (by intro hh;cases hh) rfl hwp o hf ?_;rintro ver' h5 p5 o5;have ht:toEs 0 ((zAI g).take j)++[(.int .i64 (zAI g)[j],.int .i64 (j:Nat),j)]=toEs 0 ((zAI g).take (j+1)):=by rw[List.take_succ_eq_append_getElem hj,zMy,Nat.zero_add,List.length_take,Nat.min_eq_left (Nat.le_of_lt hj)]
  rw[ht] at o5;have hb5:But bm h4 h5:=by
   rcases hb with rfl|hb
   ·exact p5
   ·exact hb.trans p5
  repeat refine zR ?_
  exact⟨⟨⟨_,o5⟩,.inr hb5,n1,e1,e1,e1,e1,e1⟩,e1,e1⟩
 ·rintro a h5 ⟨⟨ver5,om5⟩,hb,hd,ah,ac,e3',aj,_⟩;rw[List.take_length] at om5;have aa:∀c p,h4.objs.get c=some p->c≠bm->h5.objs.get c=some p:=fun c p h1 h2=>by
   rcases hb with rfl|hb
   ·exact h1
   ·exact hb.keep c h2 _ h1
  have g05:Grow h h5:=by
   rcases hb with rfl|hb
   ·exact g04
   ·exact hb.grow h hw g04 (by have:=g03.next;omega)
  have n4:h4.next<=h5.next:=by
   rcases hb with rfl|hb
   ·exact Nat.le_refl _
   ·exact hb.next
  have hR5:Built h5 h.next 3 1 rv (zAI g).length ((zAI g).map (AVal.int .i64)):=zBG hR4B fun c p hc ⟨vs,hp⟩ _=>aa c p hc (by
   rintro rfl;rw[om] at hc;simp only[oI] at hc;rw[<-hc] at hp;cases hp)
  have I0:TInv h b1 b2 bm nv g.root (zAI g) [] h5:=
   ⟨g05,⟨_,aa _ _ o1 (by rintro rfl;rw[om] at o1;cases o1)⟩,⟨_,om5⟩,⟨_,_,[],aa _ _ o2 (by rintro rfl;rw[om] at o2;cases o2),.inl ⟨rfl,rfl,rfl⟩,rfl,fun i c n hc=>by simp at hc⟩,hb1,by omega,by have:=g4.next;omega⟩
  clear o1 o2 om om5 aa hR hR4 hR4B g1 g2 g3 g4 g02 g03 g04 hb n4;have hsub:∀(p q:Nat×AObj) (hp:AHeap),True:=fun _ _ _=>trivial;clear hsub;repeat refine zR ?_
  refine zAp (N:=(zAI g).length) (fun j a hp=>TInv h b1 b2 bm nv g.root (zAI g) (((zAI g).take j).map fun i=>zCz (zAI g) (zAA g i)) hp/\Built hp h.next 3 1 rv (zAI g).length ((zAI g).map (AVal.int .i64))/\a.defers=[]/\ev a (.tmp 1)=some (.ptr (some (b1,0)))/\ev a (.tmp 2)=some (.ptr (some (b2,0)))/\ev a (.tmp 4)=some (.map (some bm))/\ev a (.tmp 28)=some rv) ?_ ?_ ⟨I0,hR5,n1,e1,e1,e1,e1⟩
  ·clear I0 hR5 hd ah ac e3' aj;rintro j a hp hj ⟨I,hRj,hd,ah,ac,aj,e28⟩ hi hn;obtain⟨k0,k1⟩:=hOk _ (List.getElem_mem hj);obtain⟨k,hk⟩:∃k:Nat,(zAI g)[j]=(k:Int):=⟨_,(Int.toNat_of_nonneg k0).symm⟩;have hkN:k<g.nodes.length:=by rw[hk] at k1;omega
   have hnd:zAA g (zAI g)[j]=g.nodes[k]:=by rw[hk];simp[zAA,zgG hkN]
   have hc:(zAI g)[j]?=some (k:Int):=by rw[zgG hj,hk]
   have hmem:=List.getElem_mem hkN;have hlab:=hg.labs _ hmem;have harg:g.nodes[k].args.length<=2 ^ 30:=by have h1:=zDH g.nodes 0 _ hmem;have h2:=hg.total;omega
   have e30:(2:Nat) ^ 30=1073741824:=by decide
   have e31:(2:Nat) ^ 31=2147483648:=by decide
   obtain⟨bb,ob,verb,rb,eb,vsb,hix,hget,hvo⟩:=(zBb hRj).at hc;obtain⟨bn,on,vern,ron,en,vsn,av,lv,hixn,hgn,hvl,hv5,_,_,_,_,_,ha,hl⟩:=(hN.mono I.grow).at (zgG hkN);have hpart5:zAk (some 5) vsn on=some (zBf g.nodes[k] av lv):=by rw[zAk,if_pos hvl,hv5];rfl
   obtain⟨ver1,o1⟩:=I.o1;clear hk hnd;have hnd:zAA g (zAI g)[j]=g.nodes[k]:=by
    have:(zAI g)[j]=(k:Int):=by rw[zgG hj] at hc;exact Option.some.inj hc
    rw[this];simp[zAA,zgG hkN]
   have hnd':=hnd;clear hnd;repeat refine zR ?_
   refine zAM I.grow.wf ?_;rintro b9 h6 hb9 g6 o9;refine zAC e1 e1 (cs:=[.int .i64 g.nodes[k].kind,.str g.nodes[k].name,av,lv,.bool g.nodes[k].isOpen]) rfl rfl g6.wf o9 (by simp) (zBo ha.len hl.len) ?_;rintro v7 h7 p7 o7;simp only[lL,Nat.reduceAdd] at o7;have g7:Grow hp h7:=p7.grow hp I.grow.wf g6 hb9;clear o9 p7 g6 hix hget hvo hixn hgn hpart5 hv5 o1;repeat refine zR ?_
   refine zAL s1 ((CloneStr_ok H g.nodes[k].labels (by omega) lv h7 g7.wf (hl.mono g7)).mono ?_);rintro cs1 h8 ⟨B8,g8⟩;replace o7:=g8.keep _ _ o7;have gg8:=g7.trans g8;repeat refine zR ?_
   refine zAC e1 e1 (zAO B8.len) rfl g8.wf o7 (by simp) (by simp only[List.all_cons,List.all_nil,zAD B8.len,Bool.and_true]) ?_;rintro v9 h9 p9 o9;simp only[lL,Nat.reduceAdd] at o9;have g9:Grow hp h9:=p9.grow hp I.grow.wf gg8 hb9;have B9:=zAG B8 p9 o7 (fun vs hh=>by cases hh);have nx8:=gg8.next;have nx9:=g9.next;have nx7:=g7.next;clear B8 g8 p9 o7 gg8 g7;repeat refine zR ?_
   refine zAL s1 ((CloneInt_ok H g.nodes[k].args (by omega) av h9 g9.wf (ha.mono g9)).mono ?_);rintro ab h10 ⟨B10,g10⟩;replace o9:=g10.keep _ _ o9;have gg10:=g9.trans g10;replace B9:=B9.grow g10;repeat refine zR ?_
   refine zAC e1 e1 (zAO B10.len) rfl g10.wf o9 (by simp) (by simp only[List.all_cons,List.all_nil,zAD B10.len,Bool.and_true]) ?_;rintro v11 ak p11 o11;simp only[lL,Nat.reduceAdd] at o11;have g11:Grow hp ak:=p11.grow hp I.grow.wf gg10 hb9;have B11:Built ak hp.next 9 1 cs1 g.nodes[k].labels.length (g.nodes[k].labels.map AVal.str):=zAW (zAG B9 p11 o9 (fun vs hh=>by cases hh)) nx7;have am:Built ak hp.next 3 1 ab g.nodes[k].args.length (g.nodes[k].args.map (AVal.int .i64)):=zAW (zAG B10 p11 o9 (fun vs hh=>by cases hh)) nx9;have hci:=am.len;clear B9 B10 g10 p11 o9 gg10 g9;repeat refine zR ?_
   have hlo:Lst (zAI g) g.nodes[k].args 0=g.nodes[k].args:=by simp[Lst]
   have hle:Lst (zAI g) g.nodes[k].args g.nodes[k].args.length=(zCz (zAI g) g.nodes[k]).args:=by simp[Lst,zCz]
   refine zRt (fun a' hq=>(∀c p,ak.objs.get c=some p->(∀n,ab≠.slice (some (c,0)) n)->hq.objs.get c=some p)/\Grow hp hq/\ak.next<=hq.next/\Built hq hp.next 3 1 ab g.nodes[k].args.length ((Lst (zAI g) g.nodes[k].args g.nodes[k].args.length).map (AVal.int .i64))∧
    a'.defers=[]/\ev a' (.tmp 1)=some (.ptr (some (b1,0)))/\ev a' (.tmp 2)=some (.ptr (some (b2,0)))/\ev a' (.tmp 4)=some (.map (some bm))/\ev a' (.tmp 28)=some rv/\ev a' (.tmp 9)=some (.ptr (some (b9,0)))/\ev a' (.tmp 30)=some (.int .i64 (j:Nat))/\ev a' (.tmp 29)=some (.int .i64 ((zAI g).length:Nat))) ?_ ?_
   ·refine zAp (N:=g.nodes[k].args.length) (fun i a' hq=>(∀c p,ak.objs.get c=some p->(∀n,ab≠.slice (some (c,0)) n)->hq.objs.get c=some p)/\Grow hp hq/\ak.next<=hq.next/\Built hq hp.next 3 1 ab g.nodes[k].args.length ((Lst (zAI g) g.nodes[k].args i).map (AVal.int .i64))/\a'.defers=[]/\ev a' (.tmp 1)=some (.ptr (some (b1,0)))/\ev a' (.tmp 2)=some (.ptr (some (b2,0)))/\ev a' (.tmp 4)=some (.map (some bm))/\ev a' (.tmp 28)=some rv/\ev a' (.tmp 9)=some (.ptr (some (b9,0)))/\ev a' (.tmp 30)=some (.int .i64 (j:Nat))/\ev a' (.tmp 29)=some (.int .i64 ((zAI g).length:Nat))/\ev a' (.tmp 48)=some ab) ?_ ?_ ⟨fun c p hc _=>hc,g11,Nat.le_refl _,by rw[hlo];exact am,n1,e1,e1,e1,e1,e1,e1,e1,e1⟩
    ·obtain⟨verm,om⟩:=(I.other g11).om;clear hd ah ac aj e28 hi hn;rintro i a' hq ao ⟨aa,gq,nq,hB,hd,ah,ac,aj,e28,e9,e30',e29,e48⟩ hi hn;rcases hB with⟨_,hh,_⟩|⟨_,hh,_⟩|⟨ba,vsa,vera,hba,hcq,hga,hla,hta⟩
     ·omega
     ·omega
     rw[Nat.mul_one] at hla hta;have ai:slA ab 1 i=some (ba,i):=by rw[hcq];simp[slA,ao]
     have hva:vsa[i]?=some (.int .i64 g.nodes[k].args[i]):=by have:=congrArg (fun l=>l[i]?) hta;simp only[List.getElem?_take,if_pos ao,zgM,Lst_get ao,Option.map_some] at this;exact this
     have o9q:=aa _ _ o11 (zAE am o11 fun vs hh=>by cases hh);have hlk:=zSP (aa _ _ om (zAE am om fun vs hh=>by cases hh)) g.nodes[k].args[i];clear hcq;repeat refine zR ?_
     refine zAC e1 e1 cc rfl gq.wf hga (by simp;omega) rfl ?_;rintro vz hz pz oz;simp only[zlC,zlN,Nat.zero_add] at oz;have hcq:ab=.slice (some (ba,0)) g.nodes[k].args.length:=by
      rcases zGA hci with h1|⟨b,o,h1⟩|⟨_,hh⟩|⟨_,hh⟩
      ·rw[h1] at ai;cases ai
      ·rw[h1] at ai;simp only[slA,if_pos ao,oI,Prod.mk.injEq] at ai;obtain⟨rfl,h2⟩:=ai;rw[h1,show o=0 by omega]
      ·omega
      ·omega
     repeat refine zR ?_
     refine⟨⟨fun c p hc hne=>pz.keep c (by rintro rfl;exact hne _ hcq) _ (aa c p hc hne),pz.grow hp I.grow.wf gq hba,Nat.le_trans nq pz.next,.inr (.inr ⟨ba,_,_,hba,hcq,oz,by simp;omega,?_⟩),n1,e1,e1,e1,e1,e1,e1,e1,e1⟩,e1,e1⟩;rw[Nat.mul_one,zKA ao hla,hta,<-Lst_set ao,List.map_set]
    ·rintro a' hq ⟨m1,m2,m3,m4,m5,m6,m7,m8,m9,m10,m11,m12,_⟩;exact⟨m1,m2,m3,m4,m5,m6,m7,m8,m9,m10,m11,m12⟩
   ·clear hd ah ac aj e28 hi hn;rintro a' hq ⟨aa,gq,nq,hB,hd,ah,ac,aj,e28,e9,e30',e29⟩;rw[hle] at hB;have Iq:=I.other gq;have o9q:=aa _ _ o11 (zAE am o11 fun vs hh=>by cases hh);have B9q:Built hq hp.next 9 1 cs1 g.nodes[k].labels.length (g.nodes[k].labels.map AVal.str):=zBG B11 fun c p hc hcp _=>aa c p hc (zAE am hc fun vs hh=>by
     obtain⟨al,hcp⟩:=hcp;rw[hcp] at hh;cases hh)
    obtain⟨ver2,vo,cs,o2,kB,kl,kn⟩:=Iq.o2;have nl:(((zAI g).take j).map fun i=>zCz (zAI g) (zAA g i)).length=j:=by simp;omega
    rw[nl] at kB kl;have hrf:=zJF hg;repeat refine zR ?_
    refine zAT e1 (cs:=[.int .i64 g.nodes[k].kind,.str g.nodes[k].name,ab,cs1,.bool g.nodes[k].isOpen]) rfl rfl rfl gq.wf ?_;rintro bx h12 hbx ad ox;have kB':=kB.grow ad;refine zAZ e1 e1 kB' ox rfl (zBo hci B11.len) (zBN H (by decide) (by omega)) ad.wf (by have:=I.grow.next;have:=gq.next;have:=ad.next;omega) ?_;rintro vo' h13 B13 f13 w13 n13 gr13 kp13;have o2':=kp13 _ _ (ad.keep _ _ o2) (zAE kB' (ad.keep _ _ o2) fun vs hh=>by cases hh);have g13:Grow h h13:=gr13 h hw (Iq.grow.trans ad) (Nat.le_refl _);repeat refine zR ?_
    refine zAC e1 e1 (zAO B13.len) rfl w13 o2' (by simp) (by simp only[List.all_cons,List.all_nil,zAD B13.len,Bool.and_true]) ?_;rintro v14 h14 p14 o14;simp only[lL,Nat.reduceAdd] at o14;have af:∀c p,hq.objs.get c=some p->(∀vs,p.2≠.cells false 36 vs)->c≠b2->h14.objs.get c=some p:=fun c p hc hp hne=>p14.keep c hne _ (kp13 _ _ (ad.keep _ _ hc) (zAE kB' (ad.keep _ _ hc) hp));obtain⟨vr1,k1'⟩:=Iq.o1;obtain⟨vrm,km'⟩:=Iq.om;have n14:=p14.next;have n12:=ad.next;have hns:((zAI g).take (j+1)).map (fun i=>zCz (zAI g) (zAA g i))=((zAI g).take j).map (fun i=>zCz (zAI g) (zAA g i))++[zCz (zAI g) g.nodes[k]]:=by rw[List.take_succ_eq_append_getElem hj,List.map_append];simp only[List.map_cons,List.map_nil,hnd']
    have hown:∀{c:List AVal} {n:Node},OwnN hq h.next c n->OwnN h14 h.next c n:=fun kk=>OwnN_stay kk fun b p hb hp=>af b p hb (fun vs hh=>by rcases hp with⟨al,hp⟩|⟨al,hp⟩<;>(rw[hp] at hh;cases hh)) (by
     rintro rfl;rw[o2] at hb;simp only[oI] at hb;rcases hp with⟨al,hp⟩|⟨al,hp⟩<;>(rw[<-hb] at hp;cases hp))
    have I14:TInv h b1 b2 bm nv g.root (zAI g) (((zAI g).take (j+1)).map fun i=>zCz (zAI g) (zAA g i)) h14:=by
     refine⟨p14.grow h hw g13 (by have:=I.low;omega),⟨_,af _ _ k1' (fun vs hh=>by cases hh) (by have:=I.low;omega)⟩,⟨_,af _ _ km' (fun vs hh=>by cases hh) (by rintro rfl;rw[o2] at km';cases km')⟩,⟨_,vo',cs++[[.int .i64 g.nodes[k].kind,.str g.nodes[k].name,ab,cs1,.bool g.nodes[k].isOpen]],o14,?_,?_,?_⟩,I.low.1,I.low.2.1,by have:=I.low;have:=gq.next;omega⟩
     ·have:(((zAI g).take (j+1)).map fun i=>zCz (zAI g) (zAA g i)).length=j+1:=by simp;omega
      rw[this,List.flatten_append];exact zAG (by simpa using B13) p14 o2' (fun vs hh=>by cases hh)
     ·simp[kl];omega
     ·intro i c n an aq;rw[hns] at aq;rcases Nat.lt_or_ge i j with hij|hij
      ·rw[List.getElem?_append_left (by omega)] at an;rw[List.getElem?_append_left (by omega)] at aq;exact hown (kn i c n an aq)
      ·rw[List.getElem?_append_right (by omega),kl] at an;rw[List.getElem?_append_right (by omega),nl] at aq;obtain rfl:i=j:=by
        have:=(zgS.1 an).1;simp only[zlC,zlN] at this;omega
       rw[Nat.sub_self,zgZ,oI] at an aq;subst an;subst aq;refine hown ⟨ab,cs1,rfl,?_,zAW B9q (by have:=I.grow.next;omega)⟩;have hl2:(zCz (zAI g) g.nodes[k]).args.length=g.nodes[k].args.length:=by simp[zCz]
       rw[hl2];exact zAW hB (by have:=I.grow.next;omega)
    have hR14:Built h14 h.next 3 1 rv (zAI g).length ((zAI g).map (AVal.int .i64)):=zBG (hRj.grow gq) fun c p hc' ⟨vs,hp'⟩ _=>af c p hc' (fun al hh=>by rw[hp'] at hh;cases hh) (by
     rintro rfl;rw[o2] at hc';simp only[oI] at hc';rw[<-hc'] at hp';cases hp')
    repeat refine zR ?_
    exact⟨⟨I14,hR14,n1,e1,e1,e1,e1⟩,e1,e1⟩
  ·rintro a hp ⟨I,_,hd,ah,ac,_,_⟩;rw[List.take_length] at I;obtain⟨ver2,vo,cs,o2,kB,kl,kn⟩:=I.o2;repeat refine zR ?_
   have hone:=zAD kB.len;refine zAC e1 e1 (cs:=[vo,.int .i64 0]) rfl rfl I.grow.wf o2 (by simp) (by simp only[List.all_cons,List.all_nil,hone,Bool.true_and,Bool.and_true];rfl) ?_;rintro v9 h9 p9 o9;simp only[lL,Nat.reduceAdd] at o9;repeat refine zR ?_
   have hl2:=I.low;refine zOU (v:=.agg [vo,.int .i64 0]) n1 ?_ ⟨?_,p9.grow h hw I.grow (by omega)⟩
   ·have hp2:zAk (some 2) [vo,.int .i64 0] 0=some (.agg [vo,.int .i64 0]):=rfl;simp only[zCA,mapO,zFy,zCa,zDO,zCF,zAl,zAo,Nat.reduceEqDiff,if_false,ac,o9,hp2]
   ·have hB9:=zAG kB p9 o2 (fun vs hh=>by cases hh);have hlen0:(zBS g).nodes.length=((zAI g).map fun i=>zCz (zAI g) (zAA g i)).length:=rfl;exact⟨vo,cs,rfl,hB9,by rw[hlen0];exact kl,fun i c n hc hn=>OwnN_stay (kn i c n hc hn) fun b p hb hp=>p9.keep b (by
     rintro rfl;rw[o2] at hb;simp only[oI] at hb;rcases hp with⟨al,hp⟩|⟨al,hp⟩<;>(rw[<-hb] at hp;cases hp)) _ hb⟩
end
end Go.Ab.S
end
