import Derived.Test.YtpmndmiohaaokaaGreatDoorP11
import Derived.Test.YtpmndmiohaaokaaGreatDoorP13
import Derived.Test.YtpmndmiohaaokaaGreatDoorP14
/-
  Part 15 of the proof.
-/
set_option linter.all false
set_option maxHeartbeats 8000000
section
namespace Go.Ab.S
open Go Go.Ab
structure Sol(g:Graph)(ps:List Pr)(h0:AHeap)(b bo br bh:Nat)(on rk:List Int)(rt:Int->Int)(has:Int->Clz)(ws:List Pr)(K:Nat)(wv:AVal)(hc:List (List AVal))(hp:AHeap):Prop where
 sx:SX (fun _=>False) h0 b g.nodes.length on rk rt has ws bo br bh wv hc hp
 uf:UF g.nodes.length on rk rt K
 inv:UInv g ps rt has ws
 few:K+zDU g.nodes.length rt<=g.nodes.length
theorem Sol.find{g:Graph}{ps:List Pr}{h0:AHeap}{b bo br bh:Nat}{on rk:List Int}{rt:Int->Int}{has:Int->Clz}{ws:List Pr}{K:Nat}{wv:AVal}{hc:List (List AVal)}{hp hq:AHeap}(S:Sol g ps h0 b bo br bh on rk rt has ws K wv hc hp)(w0:WF h0)(q:But bo hp hq){on':List Int}(ho:RowI hq bo g.nodes.length on')(u:UF g.nodes.length on' rk rt K):Sol g ps h0 b bo br bh on' rk rt has ws K wv hc hq:=
 ⟨S.sx.onto w0 q ho,u,S.inv,S.few⟩
theorem SX.ky{h0:AHeap}{b N:Nat}{on rk:List Int}{rt:Int->Int}{has:Int->Clz}{ws:List Pr}{bo br bh:Nat}{wv:AVal}{hc:List (List AVal)}{hp hq:AHeap}{x:Nat}(S:SX (fun _=>False) h0 b N on rk rt has ws bo br bh wv hc hp){my:AVal}(kq:Kq b my hp hq){cx:List AVal}(hx:x<N)(kx:rt (x:Int)=x)(hcx:hc[x]?=some cx)(hmy:cx[3]?=some my):Ky hp hq:=by
 intro c ver ro e vs he aa;obtain⟨v,s⟩:=S.s;refine kq c _ (by rintro rfl;rw[s] at aa;cases aa;exact absurd he (by decide)) ?_ aa fun ro vs hh=>by cases hh;exact absurd he (by decide)
 intro hh;obtain⟨d,h1,h2⟩:=S.cls x hx kx (fun h=>h);rw[hcx] at h1;cases h1;obtain⟨av,mv,rfl,_,h3,h4⟩:=h2;have ab:mv=my:=by simpa[clzC] using hmy
 by_cases hk:(has x).kind=3
 ·obtain⟨r,v,hr,_,ac⟩:=h4 hk;rw[ab,hh] at hr;cases hr;rw[aa] at ac;cases ac
 ·rw[<-ab,h3 hk] at hh;cases hh
section
variable{fns:FnsT}{summ:SumT}{ro:Option Nat}
theorem zLs{d:Option Tmp}{e:TypeId}{z:AVal}{u v:AVal}{x y:AOpd}{l:List Step}{a:AAct}{h:AHeap}{K:AAct->AHeap->Prop}(hx:ev a x=some u)(hy:ev a y=some v)(hu:zAb u=[u])(hv:zAb v=[v])(w:WF h)
  (k:∀b h',h.next<=b->Grow h h'->h'.objs.get b=some (b,.cells false e [u,v])->St fns summ ro l (putA a d (.slice (some (b,0)) 2)) h' K):St fns summ ro (⟨d,none,.e (.bslice e 1 2 [z] [(0,x),(1,y)])⟩::l) a h K:=by
 refine st_t (by intro _ _ hh;cases hh) (by intro _ _ hh;cases hh) (v:=.slice (some (h.next,0)) 2) (h':=newA h (.cells false e [u,v])) ?_ (k _ _ (Nat.le_refl _) ((Grow.refl w).new _) (zAQ _ _));simp[zBP,rep,rowA,hx,hy,hu,hv]
end
section
variable{fns:FnsT}{summ:SumT}
variable(H:Has fns summ)
include H
theorem zSK(g:Graph)(ps:List Pr)(hg:zAB g=0){h0 h:AHeap}(w0:WF h0){b bo br bh:Nat}{on rk:List Int}{rt:Int->Int}{has:Int->Clz}{ws:List Pr}{K:Nat}{wv:AVal}{hc:List (List AVal)}{p:Pr}
  (S:SX (fun _=>False) h0 b g.nodes.length on rk rt has ws bo br bh wv hc h) (u:UF g.nodes.length on rk rt K) (I:UInv g ps rt has (p::ws)) (few:K+zDU g.nodes.length rt<=g.nodes.length) (hw:ws.length+zAU [] g.nodes 0<=2 ^ 30):
  Cl fns summ 55 [.ptr (some (b,0)),.int .i64 p.1,.int .i64 p.2] h fun r h'=>Grow h0 h'/\Ky h h'/\((r=.nilIface/\∃on' rk' rt' has' ws' K' wv' hc',Sol g ps h0 b bo br bh on' rk' rt' has' ws' K' wv' hc' h'/\((rt'=rt/\ws'=ws)\/(zDU g.nodes.length rt'<zDU g.nodes.length rt/\ws'.length<=ws.length+zAU [] g.nodes 0)))\/(ErrAt h' r/\¬Consi g ps)):=by
 obtain⟨hpa,hpb⟩:=(I.waits p (by simp)).inG hg;obtain⟨ia,hia⟩:∃i:Nat,p.1=i:=⟨p.1.toNat,by have:=hpa.1;omega⟩;obtain⟨ib,hib⟩:∃i:Nat,p.2=i:=⟨p.2.toNat,by have:=hpb.1;omega⟩;have hiaN:ia<g.nodes.length:=by have:=hpa.2;omega
 have hibN:ib<g.nodes.length:=by have:=hpb.2;omega
 rw[hia,hib];have rga:=I.rng _ hpa;have rgb:=I.rng _ hpb;rw[hia] at rga;rw[hib] at rgb;obtain⟨x0,hx0⟩:∃i:Nat,rt (ia:Int)=i:=⟨(rt (ia:Int)).toNat,by have:=rga.1.1;omega⟩;obtain⟨y0,hy0⟩:∃i:Nat,rt (ib:Int)=i:=⟨(rt (ib:Int)).toNat,by have:=rgb.1.1;omega⟩;have ak:x0<g.nodes.length:=by have:=rga.1.2;rw[hx0] at this;omega
 have al:y0<g.nodes.length:=by have:=rgb.1.2;rw[hy0] at this;omega
 have kx0:rt (x0:Int)=x0:=by rw[<-hx0];exact rga.2
 have ky0:rt (y0:Int)=y0:=by rw[<-hy0];exact rgb.2
 have I':=Hid.mk I;have few':=Hid.mk few;have aj:Hid (rt p.1=x0/\rt p.2=y0):=⟨by rw[hia,hx0],by rw[hib,hy0]⟩;obtain⟨hbo,hbr,hbh,hobh,hrbh⟩:=S.bne;obtain⟨ver,os⟩:=S.s;have af:=zGk H u hiaN hbo h S.grow.wf os S.on;rw[hx0] at af;replace af:=Hid.mk af;clear hia hib hpa hpb rga rgb hx0 I few;refine H.go (fn:=F_sjoin) rfl (by decide) rfl rfl ?_;unfold F_sjoin;dsimp only[qQ,qE,tm,mt,lo,fa,jn,jk,jl,js,ji,jc,jd,jf,jx,jo,jt,jR,jS,jC];clear os;repeat refine zR ?_
 refine zAL s1 (af.out.mono ?_);rintro _ h1 ⟨rfl,B1,on1,ho1,u1⟩;have S1:=S.onto w0 B1 ho1;have ky1:Hid (Ky h h1):=⟨by obtain⟨_,_,o,_⟩:=S.on;exact Ky.but B1 o (by decide)⟩;obtain⟨ver1,os1⟩:=S1.s;have aa:=zGk H u1 hibN hbo h1 S1.grow.wf os1 S1.on;rw[hy0] at aa;replace aa:=Hid.mk aa;clear S u B1 ho1 af hy0 os1;repeat refine zR ?_
 refine zAL s1 (aa.out.mono ?_);rintro _ h2 ⟨rfl,B2,on2,ho2,u2⟩;have S2:=S1.onto w0 B2 ho2;have ky2:Hid (Ky h h2):=⟨ky1.out.trans (by obtain⟨_,_,o,_⟩:=S1.on;exact Ky.but B2 o (by decide))⟩;clear ky1 S1 u1 B2 ho2 aa;by_cases hxy0:x0=y0
 ·have z0:(((x0:Nat):Int)==((y0:Nat):Int))=true:=by simp[hxy0]
  have hfin:Hid (Sol g ps h0 b bo br bh on2 rk rt has ws K wv hc h2):=⟨S2,u2,I'.out.drop hg (by rw[aj.out.1,aj.out.2,hxy0]),few'.out⟩;have G2:=S2.grow;clear S2 u2 hxy0;repeat refine zG ?_
  exact⟨G2,ky2.out,.inl ⟨rfl,on2,rk,rt,has,ws,K,wv,hc,hfin.out,.inl ⟨rfl,rfl⟩⟩⟩
 have z0:(((x0:Nat):Int)==((y0:Nat):Int))=false:=by simp;omega
 obtain⟨vs2,os2⟩:=S2.s;obtain⟨vr,rvs,or2,hrt,hrl⟩:=S2.rk;have hrx:=zCM hrt ak hrl;have hry:=zCM hrt al hrl;have hix:slA (.slice (some (br,0)) g.nodes.length) 1 x0=some (br,x0):=by simp[slA,ak]
 have hiy:slA (.slice (some (br,0)) g.nodes.length) 1 y0=some (br,y0):=by simp[slA,al]
 repeat refine zR ?_
 refine zEU (fun a hq=>hq=h2/\(∃x y:Nat,Hid (x<g.nodes.length/\y<g.nodes.length/\rt (x:Int)=x/\rt (y:Int)=y/\x≠y/\clAt rk (y:Int)<=clAt rk (x:Int)/\((x=x0/\y=y0)\/(x=y0/\y=x0)))/\ev a (.tmp 7)=some (.int .i64 (x:Nat))/\ev a (.tmp 8)=some (.int .i64 (y:Nat)))/\a.defers=[]/\ev a (.tmp 0)=some (.ptr (some (b,0)))/\ev a (.tmp 1)=some (.int .i64 (ia:Nat))/\ev a (.tmp 2)=some (.int .i64 (ib:Nat))) ?_ ?_
 ·by_cases hlt:clAt rk (x0:Int)<clAt rk (y0:Int)
  ·have z1:decide (clAt rk (x0:Int)<clAt rk (y0:Int))=true:=by simp[hlt]
   repeat refine zR ?_
   exact⟨rfl,⟨y0,x0,⟨al,ak,ky0,kx0,by omega,by omega,.inr ⟨rfl,rfl⟩⟩,e1,e1⟩,n1,e1,e1,e1⟩
  ·have z1:decide (clAt rk (x0:Int)<clAt rk (y0:Int))=false:=by simp;omega
   repeat refine zR ?_
   exact⟨rfl,⟨x0,y0,⟨ak,al,kx0,ky0,by omega,by omega,.inl ⟨rfl,rfl⟩⟩,e1,e1⟩,n1,e1,e1,e1⟩
 rintro a hq ⟨rfl,⟨x,y,hxy,t7',t8'⟩,hd,t0',t1',t2'⟩;obtain⟨ab,ah,kx,ky,hne,hle,hcase⟩:=hxy.out;obtain⟨hcl,vh,hvs,oh2,hhl,hhk⟩:=S2.hs;obtain⟨cx,hcx,Kx⟩:=S2.cls x ab kx (fun h=>h);obtain⟨cy,hcy,KY⟩:=S2.cls y ah ky (fun h=>h);obtain⟨avx,mvx,rfl,ix1,ix2,ix3⟩:=Kx;obtain⟨avy,mvy,rfl,iy1,iy2,iy3⟩:=KY;have Cx:=I'.out.cls x ⟨by omega,by omega⟩ kx;have Cy:=I'.out.cls y ⟨by omega,by omega⟩ ky;have hpx:=zJw (hhk _ _ hcx).1 (hhk _ _ hcx).2;have hpy:=zJw (hhk _ _ hcy).1 (hhk _ _ hcy).2;have hlx:x*5+5<=hvs.length:=by omega
 have hly:y*5+5<=hvs.length:=by omega
 have hjx:slA (.slice (some (bh,0)) g.nodes.length) 5 x=some (bh,x*5):=by simp[slA,ab]
 have hjy:slA (.slice (some (bh,0)) g.nodes.length) 5 y=some (bh,y*5):=by simp[slA,ah]
 have ac:=zRs H (zAU [] g.nodes 0) (has y) (has x) (zOC hg Cy) (zOC hg Cx) (zRu hg Cy Cx) w0 S2.grow S2.low.1 os2 S2.w (ax:=avy) (mx:=mvy) (ay:=avx) (my:=mvx) ⟨_,_,rfl,iy1,iy2,iy3⟩ ⟨_,_,rfl,ix1,ix2,ix3⟩ (fun r hr=>S2.ap y x ah ab (Ne.symm hne) ky kx _ _ r hcy hcx (by rw[hr];rfl) |> fun q hh=>q (by rw[hh];rfl)) (by omega);have S2':=Hid.mk S2;have u2':=Hid.mk u2;replace ac:=Hid.mk ac;have hcx':=Hid.mk hcx;have hcy':=Hid.mk hcy;clear hrx hry hix hiy or2 hrt hrl ix1 ix2 ix3 iy1 iy2 iy3 Cx Cy hhk hcx hcy S2 u2 hxy0 z0 kx0 ky0 ak al;repeat refine zR ?_
 refine dr_e (zJb s1 (ac.out.mono ?_));have nres:∀{c:Clz} {new:List Pr},Merge (has y) (has x) c new->UInv g ps (fun a=>if rt a=(y:Int) then (x:Int) else rt a) (fun r=>if r=(x:Int) then c else has r) (new.reverse++ws):=by
  intro c new hm;refine I'.out.join hg ⟨by omega,by omega⟩ ⟨by omega,by omega⟩ kx ky (by omega) ?_ hm fun q=>by rw[List.mem_append,List.mem_reverse];exact Or.comm
  rw[aj.out.1,aj.out.2];rcases hcase with⟨rfl,rfl⟩|⟨rfl,rfl⟩
  ·exact .inl ⟨rfl,rfl⟩
  ·exact .inr ⟨rfl,rfl⟩
 rintro _ h7 ⟨G7,⟨c,new,wv',ver7,cs,hm,hnl,rfl,Kc,hmp,os7,B7,kq7⟩|⟨hcl',cs,rfl,hcs,hco,kqf⟩⟩
 ·have S7:=Hid.mk (S2'.out.both (x:=x) (y:=y) G7 kq7 os7 B7 ab kx hcx'.out (my:=mvx) rfl);have ky7:Hid (Ky h h7):=⟨ky2.out.trans (S2'.out.ky kq7 ab kx hcx'.out (my:=mvx) rfl)⟩;have hnU:=Hid.mk (nres hm);have ocs:=zGK Kc;have ho1:=ocs.1;have hl5:=ocs.2;have ht5:List.take 5 cs=cs:=List.take_of_length_le (by omega);have Kc':=Hid.mk Kc;have hmp':=Hid.mk hmp;have slt:=S7.out.lt;have n07:=G7.next;replace hnl:=Hid.mk hnl;replace ho1:=Hid.mk ho1;clear Kc hmp hm B7 kq7 ac os7 ocs nres hpx hpy hjx hjy hlx hly oh2 os2;refine⟨by simp[zAJ,Nat.testBit],?_⟩;repeat refine zR ?_
  refine zAS (zAM G7.wf ?_);rintro b9 h8 hb9 g8 o9;refine zAK ⟨by simp[zAJ,Nat.testBit],?_⟩;refine zAS (zAC e1 e1 cc hl5 g8.wf o9 (by simp[hl5]) ho1.out ?_);rintro v9 h9 p9 an;refine zAK ⟨by simp[zAJ,Nat.testBit],?_⟩;have S9:=(S7.out.other g8).side w0 p9 o9 (by omega) ⟨by omega,by omega,by omega,by omega⟩ ⟨_,_,_,rfl,by decide⟩;have ky9:Hid (Ky h h9):=⟨(ky7.out.trans (Ky.grow g8)).trans (Ky.but p9 o9 (by decide))⟩;have Kc9:=Hid.mk ((Kc'.out.keep fun r p _ _ hp _=>g8.keep _ _ hp).keep fun r p _ _ hp hn=>p9.keep r (by rintro rfl;rw[o9] at hp;cases hp;exact hn _ _ _ rfl) p hp);rw[hl5] at an;simp only[lL,Nat.reduceAdd] at an;obtain⟨vs9,os9⟩:=S9.s;obtain⟨vr9,rvs9,or9,hrt9,hrl9⟩:=S9.rk;have hrx:=zCM hrt9 ab hrl9;have hry:=zCM hrt9 ah hrl9;have hix:slA (.slice (some (br,0)) g.nodes.length) 1 x=some (br,x):=by simp[slA,ab]
  have hiy:slA (.slice (some (br,0)) g.nodes.length) 1 y=some (br,y):=by simp[slA,ah]
  have slt9:=S9.lt;have S9':=Hid.mk S9;have uu:=u2'.out.rk x ⟨by omega,by omega⟩;have hK:=few'.out;have hNN:=(zAN hg).2.2.1;have hw1:IntKind.i64.wrap (clAt rk (x:Int)+1)=clAt rk (x:Int)+1:=zAa (by omega) (by omega);have hb9n:b9≠b/\b9≠bo/\b9≠br/\b9≠bh:=⟨by omega,by omega,by omega,by omega⟩;clear o9 g8 p9 S9 S7 hb9 slt Kc';repeat refine zR ?_
  refine zEU (fun a hq=>(∃rk',Hid ((clAt rk (y:Int)<clAt rk (x:Int)/\rk'=rk)\/(clAt rk (y:Int)=clAt rk (x:Int)/\rk'=rk.set x (clAt rk (x:Int)+1)))/\Hid (SX (fun i=>i=x\/i=y) h0 b g.nodes.length on2 rk' rt has (new.reverse++ws) bo br bh wv' hc hq)/\Hid (ClzAt h0 hq cs c/\Ky h hq))/\(∃v9,hq.objs.get b9=some (v9,.cells false 68 cs))/\a.defers=[]/\ev a (.tmp 0)=some (.ptr (some (b,0)))/\ev a (.tmp 7)=some (.int .i64 (x:Nat))/\ev a (.tmp 8)=some (.int .i64 (y:Nat))/\ev a (.tmp 9)=some (.ptr (some (b9,0)))) ?_ ?_
  ·by_cases heq:clAt rk (x:Int)=clAt rk (y:Int)
   ·have z1:((clAt rk (x:Int))==(clAt rk (y:Int)))=true:=by simp[heq]
    have ae:=zIO hrt9 ab hrl9 (clAt rk (x:Int)+1);have ad:g.nodes.length<=(rvs9.take x++[AVal.int .i64 (clAt rk (x:Int)+1)]++rvs9.drop (x+1)).length:=by simp only[zgL,List.length_take,zlC,zlN,List.length_drop];omega
    replace heq:=Hid.mk heq;replace ae:=Hid.mk ae;replace ad:=Hid.mk ad;clear uu;repeat refine zR ?_
    refine zAC e1 e1 cc rfl S9'.out.grow.wf or9 (by simp only[zlC,zlN];omega) rfl ?_;rintro v10 h10 p10 o10;simp only[zlC,zlN,Nat.zero_add] at o10;have ai:=S9'.out.ranks w0 p10 ⟨v10,_,o10,ae.out,ad.out⟩;have o9n:=p10.keep b9 hb9n.2.2.1 _ an;have Kc10:=Kc9.out.keep fun r p _ _ hp hn=>p10.keep r (by rintro rfl;rw[or9] at hp;cases hp;exact hn _ _ _ rfl) p hp;have am:=ky9.out.trans (Ky.but p10 or9 (by decide));replace am:=Hid.mk am;clear o10 or9 os9 hrx hry an;repeat refine zR ?_
    exact⟨⟨_,⟨.inr ⟨heq.out.symm,rfl⟩⟩,⟨ai⟩,⟨Kc10,am.out⟩⟩,⟨_,o9n⟩,n1,e1,e1,e1,e1⟩
   ·have z1:((clAt rk (x:Int))==(clAt rk (y:Int)))=false:=by simp[heq]
    have hlt:clAt rk (y:Int)<clAt rk (x:Int):=by omega
    replace hlt:=Hid.mk hlt;clear heq uu;repeat refine zR ?_
    exact⟨⟨rk,⟨.inl ⟨hlt.out,rfl⟩⟩,S9',⟨Kc9.out,ky9.out⟩⟩,⟨_,an⟩,n1,e1,e1,e1,e1⟩
  clear an os9 or9 hrx hry hix hiy S9' Kc9 hrt9 hrl9;rintro a hq ⟨⟨rk',hrk,ai,Kc10k⟩,⟨v9,o9⟩,hd,t0',t7',t8',t9'⟩;have Kc10:=Hid.mk Kc10k.out.1;have am:=Hid.mk Kc10k.out.2;clear Kc10k;obtain⟨vs10,os10⟩:=ai.out.s;obtain⟨vo,ovs,oo,hot,hol⟩:=ai.out.on;obtain⟨hcl2,vh2,hvs2,oh3,hhl2,hhk2⟩:=ai.out.hs;have hiy:slA (.slice (some (bo,0)) g.nodes.length) 1 y=some (bo,y):=by simp[slA,ah]
  have hjx:slA (.slice (some (bh,0)) g.nodes.length) 5 x=some (bh,x*5):=by simp[slA,ab]
  have ae:=zIO hot ah hol (x:Int);have ad:g.nodes.length<=(ovs.take y++[AVal.int .i64 (x:Int)]++ovs.drop (y+1)).length:=by simp only[zgL,List.length_take,zlC,zlN,List.length_drop];omega
  have hks:=zQr ab hcl2 hhl2 hhk2 hl5;have hxl:x*5+5<=hvs2.length:=by omega
  obtain⟨k1,k2,k3,k4,k5⟩:=ai.out.bne;replace ae:=Hid.mk ae;replace ad:=Hid.mk ad;replace hks:=Hid.mk hks;have hcl2':=Hid.mk hcl2;have w10:=ai.out.grow.wf;clear hot hhk2 hcl2;repeat refine zR ?_
  refine zAS (zAC e1 e1 cc rfl w10 oo (by simp only[zlC,zlN];omega) rfl ?_);rintro v11 h11 p11 o11;have ky11:=Hid.mk (am.out.trans (Ky.but p11 oo (by decide)));have oh11:=p11.keep bh (Ne.symm k4) _ oh3;have os11:=p11.keep b k1 _ os10;have o9k:=p11.keep b9 hb9n.2.1 _ o9;refine zAK ⟨by simp[zAJ,Nat.testBit,os11,o9k],?_⟩;simp only[zlC,zlN,Nat.zero_add] at o11;clear oo os10 oh3 o9 o9k;repeat refine zR ?_
  refine zAS (zAC e1 e1 cc hl5 (p11.wf w10) oh11 (by rw[hl5];exact hxl) ho1.out ?_);rintro v12 h12 p12 o12;refine zAK ⟨by simp[zAJ,Nat.testBit],?_⟩;have S12:=ai.out.link w0 ab ah hne kx ky p11 (on':=on2.set y (x:Int)) ⟨v11,_,o11,ae.out,ad.out⟩ p12 hcx'.out hcy'.out (cs:=cs) (c:=c) ⟨by rw[List.length_set,hcl2'.out],v12,_,o12,hks.out⟩ Kc10.out (by
   rcases hmp'.out with h|h
   ·exact .inl (by rw[h];rfl)
   ·exact .inr (by rw[h];rfl))
  have ky12:=Hid.mk (ky11.out.trans (Ky.but p12 oh11 (by decide)));have hless:=zNh (N:=g.nodes.length) ah ky kx hne;have hfin:Hid (Sol g ps h0 b bo br bh (on2.set y (x:Int)) rk' (fun a=>if rt a=(y:Int) then (x:Int) else rt a) (fun r=>if r=(x:Int) then c else has r) (new.reverse++ws) (K+1) wv' (hc.set x cs) h12):=⟨S12,u2'.out.link ab ah kx ky hne hrk.out,hnU.out,by have:=few'.out;omega⟩;have G12:=S12.grow;have hless':=Hid.mk hless;clear S12 o12 oh11 os11 o11 p11 p12 ai Kc10 hless;repeat refine zG ?_
  exact⟨G12,ky12.out,.inl ⟨rfl,_,_,_,_,_,_,_,_,hfin.out,.inr ⟨hless'.out,by have:=hnl.out;rw[zgL,List.length_reverse];omega⟩⟩⟩
 ·have hbad:Hid (¬Consi g ps):=⟨by
   have hU:Uni g ps (x:Int) (y:Int):=by
    have hpu:=I'.out.waits p (by simp);have hin:=hpu.inG hg;have ix:InG g (x:Int):=⟨by omega,by omega⟩;have iy:InG g (y:Int):=⟨by omega,by omega⟩;obtain⟨e1',e2'⟩:=aj.out;rcases hcase with⟨rfl,rfl⟩|⟨rfl,rfl⟩
    ·exact(I'.out.sound _ p.1 ix hin.1 (by rw[e1',kx])).trans (hpu.trans (I'.out.sound p.2 _ hin.2 iy (by rw[e2',ky])))
    ·exact(I'.out.sound _ p.2 ix hin.2 (by rw[e2',kx])).trans (hpu.symm.trans (I'.out.sound p.1 _ hin.1 iy (by rw[e1',ky])))
   exact I'.out.clash (p:=p) (by simp) ⟨by omega,by omega⟩ ⟨by omega,by omega⟩ kx ky hU hcl'⟩
  have n07:=G7.next;clear nres hcl' ac;refine⟨by simp[zAJ,Nat.testBit],?_⟩;clear os2 oh2 hpx hpy hjx hjy hlx hly;repeat refine zR ?_
  refine zAS (zAM G7.wf ?_);rintro b9 h8 hb9 g8 o9;refine zAK ⟨by simp[zAJ,Nat.testBit],?_⟩;refine zAS (zAC e1 e1 cc hcs g8.wf o9 (by simp[hcs]) hco ?_);rintro v9 h9 p9 an;refine zAK ⟨by simp[zAJ,Nat.testBit],?_⟩;have ky9:Hid (Ky h h9):=⟨((ky2.out.trans (S2'.out.ky kqf ab kx hcx'.out (my:=mvx) rfl)).trans (Ky.grow g8)).trans (Ky.but p9 o9 (by decide))⟩;have G9:=p9.grow h0 w0 (G7.trans g8) (by omega);clear o9 an p9 g8 hcs hco;repeat refine zR ?_
  refine zAL s1 ((zON H _ h9 G9.wf).mono ?_);rintro _ h10 ⟨b1',rfl,g10⟩;repeat refine zR ?_
  refine zAr e1 cc g10.wf ?_;rintro b62 h11 hb62 g11 o11;clear o11;repeat refine zR ?_
  refine zLs (u:=.iface 204 (.ptr (some (b1',0)))) (v:=.iface 57 (.ptr (some (b62,0)))) e1 e1 rfl rfl g11.wf ?_;rintro ba h12 hba g12 oa
  skip
  refine zAL s1 ((zNI H _ _ ⟨_,_,rfl⟩ ⟨_,_,rfl⟩ ba _ _ _ h12 g12.wf oa).mono ?_);rintro _ h13 ⟨g13,bj,vj,be,ve,evs',rfl,j1,j2,j3⟩;have G13:=G9.trans (((g10.trans g11).trans g12).trans g13);clear oa;repeat refine zG ?_
  have ky13:=ky9.out.trans (Ky.grow (((g10.trans g11).trans g12).trans g13));exact⟨G13,ky13,.inr ⟨⟨bj,vj,be,ve,evs',_,_,rfl,j1,j2,j3⟩,hbad.out⟩⟩
end
end Go.Ab.S
end
section
namespace Go.Ab.S
open Go Go.Ab
theorem SX.pop{E:Nat->Prop}{h0:AHeap}{b N:Nat}{on rk:List Int}{rt:Int->Int}{has:Int->Clz}{ws ws':List Pr}{bo br bh ver:Nat}{wv wv':AVal}{hc:List (List AVal)}{hp hq:AHeap}(S:SX E h0 b N on rk rt has ws bo br bh wv hc hp)(w0:WF h0)(q:But b hp hq)
  (hs:hq.objs.get b=some (ver,.cells false 56 [.slice (some (bo,0)) N,.slice (some (br,0)) N,.slice (some (bh,0)) N,wv'])) (hB:Built hq h0.next 40 2 wv' ws'.length (rowC ws')):SX E h0 b N on rk rt has ws' bo br bh wv' hc hq:=by
 obtain⟨l1,l2,l3,l4⟩:=S.low;obtain⟨aa,ab,ac,n4',n5'⟩:=S.bne;obtain⟨v,s⟩:=S.s;obtain⟨v1,ah,o1,ad⟩:=S.on;obtain⟨v2,ai,o2,ae⟩:=S.rk;obtain⟨kl,v3,aj,o3,af⟩:=S.hs;refine⟨q.grow h0 w0 S.grow l1,S.low,S.ne,⟨ver,hs⟩,⟨v1,ah,q.keep _ (Ne.symm aa) _ o1,ad⟩,⟨v2,ai,q.keep _ (Ne.symm ab) _ o2,ae⟩,⟨kl,v3,aj,q.keep _ (Ne.symm ac) _ o3,af⟩,hB,fun i hi hr hE=>?_,S.ap⟩;obtain⟨c,h1,h2⟩:=S.cls i hi hr hE;exact⟨c,h1,h2.keep fun r p _ hl hp hn=>q.keep r (by rintro rfl;rw[s] at hp;cases hp;exact hn _ _ _ rfl) p hp⟩
section
variable{fns:FnsT}{summ:SumT}{ro:Option Nat}
theorem zLW{i pp:Nat}{d:Option Tmp}{e:TypeId}{sz b o n m:Nat}{kd:IntKind}{x y:AOpd}{l:List DStep}{hs:List Held}{a:AAct}{h:AHeap}{K:AAct->AHeap->Prop}(hx:ev a x=some (.slice (some (b,o)) n))(hy:ev a y=some (.int kd (m:Nat)))(hm:m<=n)(k:Dr fns summ ro l hs (putA a d (.slice (some (b,o)) m)) h K):
  Dr fns summ ro (⟨i,pp,⟨d,none,.q (.slice e sz x none (some y))⟩⟩::l) hs a h K:=by
 refine dr_q (v:=.slice (some (b,o)) m) ?_ k;simp only[zBJ,hx,zBB,hy,Int.toNat_natCast];rw[if_pos (show (0:Int)<=(m:Nat)/\m<=n from⟨by omega,hm⟩)]
end
section
variable{fns:FnsT}{summ:SumT}
variable(H:Has fns summ)
include H
theorem zTp(g:Graph)(ps:List Pr)(hg:zAB g=0){h0 h:AHeap}(w0:WF h0){b bo br bh:Nat}{on rk:List Int}{rt:Int->Int}{has:Int->Clz}{ws:List Pr}{K:Nat}{wv:AVal}{hc:List (List AVal)}
  (S:Sol g ps h0 b bo br bh on rk rt has ws K wv hc h) (hw:zDU g.nodes.length rt*(zAU [] g.nodes 0+1)+ws.length+zAU [] g.nodes 0<=2 ^ 30):
  Cl fns summ 27 [.ptr (some (b,0))] h fun r h'=>Grow h0 h'/\Ky h h'/\((r=.nilIface/\∃on' rk' rt' has' K' wv' hc',Sol g ps h0 b bo br bh on' rk' rt' has' [] K' wv' hc' h')\/(ErrAt h' r/\¬Consi g ps)):=by
 have S0:=Hid.mk S;have kr:=Hid.mk (Ky.refl h);have hw':=Hid.mk hw;clear S hw;refine H.go (fn:=F_srun) rfl (by decide) rfl rfl ?_;unfold F_srun;dsimp only[qQ,qE,vi,tm,mt,lo,fa,jk,jl,js,ji,je,jf,jR,jS,jC];repeat refine zR ?_
 refine zBT ?_;refine zCS (fun m a hp=>∃on rk rt has ws K wv hc,Hid (Sol g ps h0 b bo br bh on rk rt has ws K wv hc hp)/\Hid (m=zDU g.nodes.length rt*(zAU [] g.nodes 0+1)+ws.length/\m+zAU [] g.nodes 0<=2 ^ 30)/\Hid (Ky h hp)/\a.defers=[]/\ev a (.tmp 0)=some (.ptr (some (b,0)))) ?_ (n:=zDU g.nodes.length rt*(zAU [] g.nodes 0+1)+ws.length)
  ⟨on,rk,rt,has,ws,K,wv,hc,S0,⟨rfl,hw'.out⟩,kr,n1,e1⟩
 clear S0 hw' kr;rintro m a hp ⟨on,rk,rt,has,ws,K,wv,hc,S,hm,kl,hd,t0'⟩;obtain⟨vs,os⟩:=S.out.sx.s;have hlw:=S.out.sx.w.len;cases ws with
 |nil=>
  have z0:decide ((Int.ofNat 0:Int)>0)=false:=by decide
  have G:=S.out.sx.grow;repeat refine zG ?_
  exact⟨G,kl.out,.inl ⟨rfl,on,rk,rt,has,K,wv,hc,S.out⟩⟩
 |cons p ws=>
  have z0:decide ((Int.ofNat (ws.length+1):Int)>0)=true:=by simp;try omega
  obtain⟨bw,vw,wvs,rfl,ow,lbw,⟨hw1,hw2⟩,hB⟩:=zPC S.out.sx.w;have ae:(p::ws).length=ws.length+1:=rfl;have ab:=hm.out.1;have ah:=hm.out.2;have e30:(2:Nat) ^ 30=1073741824:=by decide
  have hlb:ws.length<=2 ^ 30:=by rw[ae] at ab;omega
  have hsub:IntKind.i64.wrap ((Int.ofNat (ws.length+1):Int) - 1)=((ws.length:Nat):Int):=by rw[zAa (by simp only[Int.ofNat_eq_natCast];omega) (by simp only[Int.ofNat_eq_natCast];omega)];simp
  have hix:slA (.slice (some (bw,0)) (ws.length+1)) 2 ws.length=some (bw,ws.length*2):=by simp[slA]
  have w:=S.out.sx.grow.wf;have slt:=S.out.sx.lt;have low:=S.out.sx.low;have hpc:zCB p=[.int .i64 p.1,.int .i64 p.2]:=rfl;rw[hpc] at hw2;have lbw':=w.lt ow;have n0:=S.out.sx.grow.next;replace hB:=Hid.mk hB;replace ah:=Hid.mk ah;replace ab:=Hid.mk ab;have ht2:∀x y:AVal,List.take 2 [x,y]=[x,y]:=fun _ _=>rfl;clear hlb;repeat refine zR ?_
  refine zAS (zAM w ?_);rintro b3 h1 hb3 ac o3;refine zAK ⟨by simp[zAJ,Nat.testBit,ac.keep _ _ os,ac.keep _ _ ow],?_⟩;refine zAS (zAC e1 e1 cc rfl ac.wf o3 (by simp) rfl ?_);rintro v3 h2 p2 al;refine zAK ⟨by simp[zAJ,Nat.testBit],?_⟩;simp only[lL,Nat.reduceAdd] at al;have G2:=p2.grow hp w ac hb3;have S2:=Hid.mk (S.out.sx.other G2);have aj:=G2.keep _ _ os;have hB2:=Hid.mk (hB.out.grow G2);have l3:b3≠b:=by omega
  have w2:=G2.wf;clear os ow o3 p2 ac hw1 hw2 hix;repeat refine zR ?_
  refine zLW e1 e1 (by omega) ?_;repeat refine zR ?_
  refine zAS (zAC e1 e1 cc rfl w2 aj (by simp) rfl ?_);rintro v4 h4 p4 o4;refine zAK ⟨by simp[zAJ,Nat.testBit],?_⟩;simp only[lL,Nat.reduceAdd] at o4;have o34:=p4.keep b3 l3 _ al;have S4:=S2.out.pop w0 p4 o4 (zAG hB2.out p4 aj (fun vs hh=>by cases hh));have aa:=zSK H g ps hg w0 (p:=p) S4 S.out.uf S.out.inv S.out.few (by have h1:=ah.out;have h2:=ab.out;rw[ae] at h2;omega);replace aa:=Hid.mk aa;have hmm:Hid (zDU g.nodes.length rt*(zAU [] g.nodes 0+1)+ws.length<m/\∀r' n',r'<zDU g.nodes.length rt->n'<=ws.length+zAU [] g.nodes 0->r'*(zAU [] g.nodes 0+1)+n'<m):=by have h2:=ab.out;rw[ae] at h2;refine⟨by omega,fun r' n' hr hn=>?_⟩;have h3:=Nat.mul_le_mul_right (zAU [] g.nodes 0+1) (show r'+1<=zDU g.nodes.length rt from hr);rw[Nat.succ_mul] at h3;omega
  have ky4:=Hid.mk ((kl.out.trans (Ky.grow G2)).trans (Ky.but p4 aj (by decide)));clear aj al p4 o4 S2 hB hB2 S4 hsub ab hm w2 S hlw;have hxo:(true ^^ true)=false:=rfl;have hxo2:(true ^^ false)=true:=rfl;repeat refine zR ?_
  refine st_q (v:=.ptr (some (b3,0))) (b:=none) (by rw[zAq];simp only[zAl,zAo,zAw,Nat.reduceEqDiff,if_true,if_false];rfl) ?_;repeat refine zR ?_
  refine st_q (v:=.ptr (some (b3,1))) (b:=none) (by rw[zAq];simp only[zAl,zAo,zAw,Nat.reduceEqDiff,if_true,if_false];rfl) ?_;repeat refine zR ?_
  refine zAL s1 (aa.out.mono ?_);rintro _ h5 ⟨G5,ai,⟨rfl,on',rk',rt',has',ws',K',wv',hc',S5,ak⟩|⟨hE,hnc⟩⟩
  ·have S5':=Hid.mk S5;have af:=Hid.mk (ky4.out.trans ai);clear ai;have ad:Hid (zDU g.nodes.length rt'*(zAU [] g.nodes 0+1)+ws'.length<m):=by
    rcases ak with⟨rfl,rfl⟩|⟨h1,h2⟩
    ·exact⟨hmm.out.1⟩
    ·exact⟨hmm.out.2 _ _ h1 h2⟩
   clear S5 ak aa;repeat refine zR ?_
   exact⟨_,ad.out,on',rk',rt',has',ws',K',wv',hc',S5',⟨rfl,by have:=ad.out;have:=ah.out;omega⟩,af,n1,e1⟩
  ·have hE':=Hid.mk hE;have af:=Hid.mk (ky4.out.trans ai);clear ai;have hnc':=Hid.mk hnc;obtain⟨bj,vj,be,ve,vs,b1,b2,rfl,_⟩:=hE;clear hnc aa;repeat refine zG ?_
   exact⟨G5,af.out,.inr ⟨hE'.out,hnc'.out⟩⟩
end
end Go.Ab.S
end
section
namespace Go.Ab.S
open Go Go.Ab
theorem zQQ(n:Nat):zCj (n+1)=zCj n++[(n:Int)]:=by simp[zCj,List.range_succ]
theorem zRO(n:Nat):List.replicate (n+1) (0:Int)=List.replicate n 0++[0]:=List.replicate_succ'
structure StI(h0:AHeap)(bs:Nat)(ns:List Node)(j:Nat)(hp:AHeap):Prop where
 grow:Grow h0 hp
 low:h0.next<=bs/\bs<hp.next
 st:∃(ver:Nat) (ov rv hv:AVal) (cs:List (List AVal)),hp.objs.get bs=some (ver,.cells false 56 [ov,rv,hv,.slice none 0])/\Built hp h0.next 3 1 ov j ((zCj j).map (AVal.int .i64))/\Built hp h0.next 3 1 rv j ((List.replicate j (0:Int)).map (AVal.int .i64))/\Built hp h0.next 68 5 hv j cs.flatten/\cs.length=j∧
  (∀c n m,ov=.slice (some (c,0)) n->rv≠.slice (some (c,0)) m)/\(∀(i:Nat) n c,cs[i]?=some c->ns[i]?=some n->ClzAt h0 hp c (zFs n))∧
  (∀(i k:Nat) c d r,i≠k->cs[i]?=some c->cs[k]?=some d->c[3]?=some (.map (some r))->d[3]?≠some (.map (some r)))/\(∀(i:Nat) c r,cs[i]?=some c->c[3]?=some (.map (some r))->r<hp.next)
theorem StI.other{h0:AHeap}{bs:Nat}{ns:List Node}{j:Nat}{hp hq:AHeap}(I:StI h0 bs ns j hp)(g:Grow hp hq):StI h0 bs ns j hq:=by obtain⟨ver,ov,rv,hv,cs,k1,k2,k3,k4,k5,k6,k7,k8,k9⟩:=I.st;exact⟨I.grow.trans g,⟨I.low.1,Nat.lt_of_lt_of_le I.low.2 g.next⟩,ver,ov,rv,hv,cs,g.keep _ _ k1,k2.grow g,k3.grow g,k4.grow g,k5,k6,fun i n c h1 h2=>(k7 i n c h1 h2).keep fun r p _ _ hp _=>g.keep _ _ hp,k8,fun i c r h1 h2=>Nat.lt_of_lt_of_le (k9 i c r h1 h2) g.next⟩
theorem zFp{h:AHeap}{base sz n:Nat}{e:TypeId}{v:AVal}{cells:List AVal}(B:Built h base e sz v n cells)(hn:0<n):∃b ver vs,v=.slice (some (b,0)) n/\base<=b/\h.objs.get b=some (ver,.cells false e vs)/\n*sz<=vs.length/\vs.take (n*sz)=cells:=by
 rcases B with⟨_,h0,_⟩|⟨_,h0,_⟩|⟨b,vs,ver,h1,h2,h3,h4,h5⟩
 ·omega
 ·omega
 ·exact⟨b,ver,vs,h2,h1,h3,h4,h5⟩
theorem zHN{h:AHeap}{base sz n c m:Nat}{e:TypeId}{v:AVal}{cells:List AVal}(B:Built h base e sz v n cells)(w:WF h)(hv:v=.slice (some (c,0)) m):c<h.next:=by
 rcases B with⟨k,_⟩|⟨k,_⟩|⟨b,vs,ver,_,k,h3,_⟩
 ·rw[k] at hv;cases hv
 ·rw[k] at hv;cases hv
 ·rw[k] at hv;cases hv;exact w.lt h3
theorem StI.sx{h0:AHeap}{bs:Nat}{g:Graph}{hp:AHeap}(I:StI h0 bs g.nodes g.nodes.length hp)(hN:0<g.nodes.length):∃bo br bh hc,SX (fun _=>False) h0 bs g.nodes.length (zCj g.nodes.length) (List.replicate g.nodes.length 0) id (fun r=>zFs (zAA g r)) [] bo br bh (.slice none 0) hc hp:=by
 obtain⟨ver,ov,rv,hv,cs,k1,k2,k3,k4,k5,k6,k7,k8,_⟩:=I.st;have ac:=k4.sl (by decide) rfl (fun c hc=>by
  obtain⟨i,hi,rfl⟩:=List.mem_iff_getElem.1 hc;exact(zGK (k7 i _ _ (zgG hi) (zgG (by omega)))).2) k5
 obtain⟨bo,v1,ah,rfl,o1,o2,o3,o4⟩:=zFp k2 hN;obtain⟨br,v2,ai,rfl,af,r2,r3,r4⟩:=zFp k3 hN;obtain⟨bh,v3,aj,rfl,h1,h2,h3,h4⟩:=zFp k4 hN;refine⟨bo,br,bh,cs,I.grow,⟨I.low.1,o1,af,h1⟩,?_,⟨ver,k1⟩,⟨v1,ah,o2,by rw[Nat.mul_one] at o4;exact o4,by omega⟩,⟨v2,ai,r2,by rw[Nat.mul_one] at r4;exact r4,by omega⟩,⟨k5,v3,aj,h2,h3,fun i c hc=>?_⟩,.inl ⟨rfl,rfl,rfl⟩,fun i hi _ _=>?_,fun i j hi hj hij _ _ c d r hc hd hm=>k8 i j c d r hij hc hd hm⟩
 ·rintro rfl;exact k6 bo _ _ rfl rfl
 ·obtain⟨ad,b,o,ver',ro,e,vs,aa,ab,ae⟩:=ac.2 i c hc;refine⟨ad,fun k hk=>?_⟩;have hi:i<g.nodes.length:=by have:=(zgS.1 hc).1;omega
  simp only[slA,if_pos hi,oI,Prod.mk.injEq,Nat.zero_add] at aa;obtain⟨rfl,rfl⟩:=aa;rw[h2] at ab;cases ab;have:=congrArg (fun l=>l[k]?) ae;simp only[List.getElem?_take,if_pos hk,List.getElem?_drop] at this;exact this
 ·have hc:cs[i]?=some cs[i]:=zgG (by omega);refine⟨cs[i],hc,?_⟩;have:=k7 i _ _ hc (zgG hi);show ClzAt h0 hp cs[i] (zFs (zAA g (i:Int)));rw[zIA,List.getD,zgG hi];exact this
section
variable{fns:FnsT}{summ:SumT}
variable(H:Has fns summ)
include H
theorem zRE(g:Graph)(hg:GTi g)(hc:zAB g=0)(v:AVal)(h0:AHeap)(w0:WF h0)(hv:GraphAt h0 v g):Cl fns summ 24 [v] h0 fun r h'=>∃bs,r=.ptr (some (bs,0))/\StI h0 bs g.nodes g.nodes.length h':=by
 obtain⟨nv,rfl,hN⟩:=hv;have hlN:=hN.len;have hgs:=hg.tinyN;have hga:=Hid.mk hg.tinyA;have hok:=Hid.mk (zAs hc).2;clear hg hc;have e31:(2:Nat) ^ 31=2147483648:=by decide
 refine H.go (fn:=F_sstart) rfl (by decide) rfl rfl ?_;unfold F_sstart;dsimp only[qQ,qE,qN,vi,tm,mt,lo,fa,jk,jv,jl,js,ji,je,jo,jN,jR,jS,jC,jL];refine zAu (zAz ?_);refine zAr e1 cc w0 ?_;rintro b1 h1 hb1 g1' o1;repeat refine zR ?_
 refine zAr e1 cc g1'.wf ?_;rintro bs h2 hbs g2 o2;have l1:=g1'.wf.lt o1;have o1':=g2.keep _ _ o1;have n1':=g1'.next;have I0:StI h0 bs g.nodes 0 h2:=⟨g1'.trans g2,⟨by omega,g2.wf.lt o2⟩,bs,.slice none 0,.slice none 0,.slice none 0,[],o2,.inl ⟨rfl,rfl,rfl⟩,.inl ⟨rfl,rfl,rfl⟩,.inl ⟨rfl,rfl,rfl⟩,rfl,fun c n m hh=>(by cases hh),fun i n c hh=>(by simp at hh),fun i k c d r _ hh=>(by simp at hh),fun i c r hh=>(by simp at hh)⟩;clear o1 o2 g2 g1' l1;repeat refine zR ?_
 refine zAp (N:=g.nodes.length) (fun j a hp=>StI h0 bs g.nodes j hp/\a.defers=[]/\ev a (.tmp 12)=some nv/\ev a (.tmp 3)=some (.ptr (some (bs,0)))) ?_ ?_ ⟨I0,n1,e1,e1⟩
 ·clear I0 o1';rintro j a hp hj ⟨I,hd,aj,t3'⟩ hi hn;have hmem:=List.getElem_mem hj;have hal:=hga.out _ hmem;have hmay:=zAH (hok.out _ hmem);obtain⟨bn,on,vern,ron,en,vsn,av,lv,hixn,hgn',hvl,hv5,_,_,_,_,_,ha,hl⟩:=hN.at (zgG hj);have hgn:=I.grow.keep _ _ hgn';have hones:Hid (([.int .i64 g.nodes[j].kind,.str g.nodes[j].name,av,lv,.bool g.nodes[j].isOpen]:List AVal).all one=true):=⟨zBo ha.len hl.len⟩;clear hgn' hmem;repeat refine zR ?_
  refine zAM I.grow.wf ?_;rintro b5 h5 hb5 g5 o5;repeat refine zR ?_
  refine zAC e1 e1 cc rfl g5.wf o5 (by simp) hones.out ?_;rintro v6 h6 p6 o6;simp only[lL,Nat.reduceAdd] at o6;have G6:Grow hp h6:=p6.grow hp I.grow.wf g5 hb5;clear o5 p6 g5 hgn hixn hvl hv5;repeat refine zR ?_
  refine st_q (v:=.agg [.int .i64 g.nodes[j].kind,.str g.nodes[j].name,.slice none 0,.map none,.bool g.nodes[j].isOpen]) (b:=none) (by rw[zBF];simp only[zCV,zAl,zAo,zAw,if_true,if_false,Nat.reduceEqDiff,zAb];rfl) ?_;refine zAM G6.wf ?_;rintro b6 h7 hb6 g7 o7;have o67:=g7.keep _ _ o6;have l56:=G6.wf.lt o6;refine zAC e1 e1 cc rfl g7.wf o7 (by simp) rfl ?_;rintro v8 h8 p8 o8;simp only[lL,Nat.reduceAdd] at o8;have G8:Grow hp h8:=p8.grow hp I.grow.wf (G6.trans g7) (by have:=G6.next;omega);have o58:=p8.keep b5 (by omega) _ o67;have w8:=G8.wf;have n6:=G6.next;have l68:=w8.lt o8;have hla:=ha.len;have hll:=hl.len;replace G8:=Hid.mk G8;clear o6 o7 o67 g7 p8 G6;repeat refine zR ?_
  refine zEU (fun a hq=>(∃v6 c,hq.objs.get b6=some (v6,.cells false 68 c)/\Hid (ClzAt h0 hq c (zFs g.nodes[j]))/\Hid (∀r,c[3]?=some (.map (some r))->hp.next<=r/\r<hq.next))/\Hid (Grow hp hq)/\a.defers=[]/\ev a (.tmp 12)=some nv/\ev a (.tmp 3)=some (.ptr (some (bs,0)))/\ev a (.tmp 4)=some (.int .i64 (j:Nat))/\ev a (.tmp 6)=some (.ptr (some (b6,0)))/\ev a (.tmp 14)=some (.int .i64 (j:Nat))/\ev a (.tmp 13)=some (.int .i64 (g.nodes.length:Nat))) ?_ ?_
  ·rcases hmay with⟨aa,q2',q3',q4',q5'⟩|⟨aa,q2',q3',_,_⟩|⟨aa,q2',q3',q4'⟩
   ·have z2:(g.nodes[j].kind==(2:Int))=false:=by simp[aa]
    have z3:(g.nodes[j].kind==(3:Int))=false:=by simp[aa]
    have hK:Hid (ClzAt h0 h8 [.int .i64 g.nodes[j].kind,.str g.nodes[j].name,.slice none 0,.map none,.bool g.nodes[j].isOpen] (zFs g.nodes[j])):=⟨.slice none 0,.map none,rfl,by
     show IntsAt h0 _ (if g.nodes[j].kind=2 then g.nodes[j].args else []);rw[if_neg (by omega)];exact⟨rfl,fun i x hx=>by simp at hx⟩,fun _=>rfl,fun h=>absurd h (by show ¬g.nodes[j].kind=3;omega)⟩
    have hR:Hid (∀r:Nat,([.int .i64 g.nodes[j].kind,.str g.nodes[j].name,.slice none 0,.map none,.bool g.nodes[j].isOpen]:List AVal)[3]?=some (.map (some r))->hp.next<=r/\r<h8.next):=⟨fun r hr=>by simp at hr⟩;clear aa q2' q3' q4' q5';repeat refine zR ?_
    exact⟨⟨_,_,o8,hK,hR⟩,G8,n1,e1,e1,e1,e1,e1,e1⟩
   ·have z2:(g.nodes[j].kind==(2:Int))=true:=by simp[aa]
    have hone:=zAD hla;clear q2' q3';replace aa:=Hid.mk aa;repeat refine zR ?_
    refine zAC e1 e1 (zAO hla) rfl w8 o8 (by simp) (by simp only[List.all_cons,List.all_nil,hone,Bool.and_true]) ?_;rintro v9 h9 p9 o9;simp only[lL,Nat.reduceAdd] at o9;have hK:Hid (ClzAt h0 h9 [.int .i64 g.nodes[j].kind,.str g.nodes[j].name,av,.map none,.bool g.nodes[j].isOpen] (zFs g.nodes[j])):=⟨av,.map none,rfl,by
     show IntsAt h0 _ (if g.nodes[j].kind=2 then g.nodes[j].args else []);rw[if_pos aa.out];exact ha,fun _=>rfl,fun h=>absurd h (by show ¬g.nodes[j].kind=3;have:=aa.out;omega)⟩
    have hR:Hid (∀r:Nat,([.int .i64 g.nodes[j].kind,.str g.nodes[j].name,av,.map none,.bool g.nodes[j].isOpen]:List AVal)[3]?=some (.map (some r))->hp.next<=r/\r<h9.next):=⟨fun r hr=>by simp at hr⟩;have G9:Hid (Grow hp h9):=⟨p9.grow hp I.grow.wf G8.out (by omega)⟩;clear o8 o58 p9;repeat refine zR ?_
    exact⟨⟨_,_,o9,hK,hR⟩,G9,n1,e1,e1,e1,e1,e1,e1⟩
   ·have z2:(g.nodes[j].kind==(2:Int))=false:=by simp[aa]
    have z3:(g.nodes[j].kind==(3:Int))=true:=by simp[aa]
    have hnd:Hid (g.nodes[j].labels.Nodup):=⟨zFW (zBD q4')⟩;replace aa:=Hid.mk aa;replace q4':=Hid.mk q4';clear q2';repeat refine zR ?_
    refine zFY (.inl rfl) w8 ?_;rintro r9 h9 hr9 g9 or9;have o89:=g9.keep _ _ o8;have o59:=g9.keep _ _ o58;repeat refine zR ?_
    refine zAC e1 e1 cc rfl g9.wf o89 (by simp) rfl ?_;rintro v10 h10 p10 o10;simp only[lL,Nat.reduceAdd] at o10;have n89:=G8.out.next;have G10:Hid (Grow hp h10):=⟨p10.grow hp I.grow.wf (G8.out.trans g9) (by omega)⟩;have hr10:=p10.keep r9 (by omega) _ or9;have o510:=p10.keep b5 (by omega) _ o59;have hzl:(List.zip g.nodes[j].labels g.nodes[j].args).length=g.nodes[j].labels.length:=by rw[List.length_zip];omega
    replace hzl:=Hid.mk hzl;clear o8 o58 o89 o59 or9 p10 g9;repeat refine zR ?_
    refine zAp (N:=g.nodes[j].labels.length) (fun i a hq=>Hid (Grow hp hq)/\(∃vr,hq.objs.get r9=some (vr,.map (fEs 0 ((List.zip g.nodes[j].labels g.nodes[j].args).take i)) i))/\hq.objs.get b6=some (v10,.cells false 68 [.int .i64 g.nodes[j].kind,.str g.nodes[j].name,.slice none 0,.map (some r9),.bool g.nodes[j].isOpen])/\hq.objs.get b5=some (v6,.cells false 36 [.int .i64 g.nodes[j].kind,.str g.nodes[j].name,av,lv,.bool g.nodes[j].isOpen])/\a.defers=[]/\ev a (.tmp 12)=some nv/\ev a (.tmp 3)=some (.ptr (some (bs,0)))/\ev a (.tmp 4)=some (.int .i64 (j:Nat))/\ev a (.tmp 5)=some (.ptr (some (b5,0)))/\ev a (.tmp 6)=some (.ptr (some (b6,0)))/\ev a (.tmp 14)=some (.int .i64 (j:Nat))/\ev a (.tmp 13)=some (.int .i64 (g.nodes.length:Nat))/\ev a (.tmp 38)=some lv) ?_ ?_ ⟨G10,⟨_,hr10⟩,o10,o510,n1,e1,e1,e1,e1,e1,e1,e1,e1⟩
    ·clear hr10 o10 o510;rintro i a hq hil ⟨Gq,⟨vr,ah⟩,o6q,o5q,hd,aj,t3',t4',t5',t6',t14',t13',t38'⟩ hi hn;obtain⟨bb,ob,verb,rb,eb,vsb,hix,hget',hvo⟩:=hl.at (zgG hil);have hget:=(I.grow.trans Gq.out).keep _ _ hget';have hia:i<g.nodes[j].args.length:=by omega
     obtain⟨bb',ob',verb',rb',eb',vsb',hix',hget'',hvo'⟩:=ha.at (zgG hia);have hgeta:=(I.grow.trans Gq.out).keep _ _ hget'';have hzi:i<(List.zip g.nodes[j].labels g.nodes[j].args).length:=by rw[hzl.out];exact hil
     have hfn:Hid (zBl ((List.zip g.nodes[j].labels g.nodes[j].args).take i) g.nodes[j].labels[i]=none):=⟨zCi.2 fun x hx=>by
      obtain⟨k,hk,hke⟩:=List.mem_iff_getElem.1 hx;rw[List.length_take] at hk;rw[List.getElem_take,List.getElem_zip,Prod.mk.injEq] at hke;have:=(List.getElem_inj hnd.out).1 hke.1;omega⟩
     have hput:Hid (fEs 0 ((List.zip g.nodes[j].labels g.nodes[j].args).take (i+1))=fEs 0 ((List.zip g.nodes[j].labels g.nodes[j].args).take i)++[(.str g.nodes[j].labels[i],.int .i64 g.nodes[j].args[i],i)]):=⟨by
      rw[List.take_succ_eq_append_getElem hzi,zLa,List.length_take,List.getElem_zip,Nat.zero_add,Nat.min_eq_left (by omega)]⟩
     have wq:=Gq.out.wf;have lrq:=wq.lt ah;have l6q:=wq.lt o6q;have l5q:=wq.lt o5q;clear hget' hget'' hzi;repeat refine zR ?_
     refine zAS (zIT (kk:=.str) e1 e1 e1 (by intro hh;cases hh) rfl wq ah (zMX hfn.out) ?_);rintro v12 h12 p12 o12;rw[<-hput.out] at o12;have hne6:b6≠r9:=by omega
     have hne5:b5≠r9:=by omega
     have o612:=p12.keep b6 hne6 _ o6q;have o512:=p12.keep b5 hne5 _ o5q;refine zAK ⟨by simp[zAJ,Nat.testBit],?_⟩;have G12:Hid (Grow hp h12):=⟨p12.grow hp I.grow.wf Gq.out (by omega)⟩;clear ah o6q o5q hget hgeta p12 hix hix' hvo hvo';repeat refine zR ?_
     exact⟨⟨G12,⟨_,o12⟩,o612,o512,n1,e1,e1,e1,e1,e1,e1,e1,e1⟩,e1,e1⟩
    ·clear hr10 o10 o510;rintro a hq ⟨Gq,⟨vr,ah⟩,o6q,o5q,hd,aj,t3',t4',t5',t6',t14',t13',t38'⟩;have htake:(List.zip g.nodes[j].labels g.nodes[j].args).take g.nodes[j].labels.length=List.zip g.nodes[j].labels g.nodes[j].args:=List.take_of_length_le (by rw[hzl.out];exact Nat.le_refl _);rw[htake] at ah;have hK:Hid (ClzAt h0 hq [.int .i64 g.nodes[j].kind,.str g.nodes[j].name,.slice none 0,.map (some r9),.bool g.nodes[j].isOpen] (zFs g.nodes[j])):=⟨.slice none 0,.map (some r9),rfl,by
      show IntsAt h0 _ (if g.nodes[j].kind=2 then g.nodes[j].args else []);rw[if_neg (by have:=aa.out;omega)];exact⟨rfl,fun i x hx=>by simp at hx⟩,fun h=>absurd aa.out h,fun _=>⟨r9,vr,rfl,by have:=I.grow.next;omega,by
      show hq.objs.get r9=some (vr,.map (fEs 0 (if g.nodes[j].kind=3 then List.zip g.nodes[j].labels g.nodes[j].args else [])) (if g.nodes[j].kind=3 then List.zip g.nodes[j].labels g.nodes[j].args else []).length);rw[if_pos aa.out,hzl.out];exact ah⟩⟩
     have hR:Hid (∀r:Nat,([.int .i64 g.nodes[j].kind,.str g.nodes[j].name,.slice none 0,.map (some r9),.bool g.nodes[j].isOpen]:List AVal)[3]?=some (.map (some r))->hp.next<=r/\r<hq.next):=⟨fun r hr=>by
      simp only[List.getElem?_cons_succ,zgZ,oI,AVal.map.injEq] at hr;subst hr;exact⟨by omega,Gq.out.wf.lt ah⟩⟩
     clear ah htake o5q;repeat refine zR ?_
     exact⟨⟨_,_,o6q,hK,hR⟩,Gq,n1,e1,e1,e1,e1,e1,e1⟩
  clear o8 o58 w8 l68 G8 hla hll hmay aj t3' hd hi hn;rintro a hq ⟨⟨v6',c,o6,hK,hR⟩,Gq,hd,aj,t3',t4',t6',t14',t13'⟩;obtain⟨ver,ov,rv,hv,cs,k1,k2,k3,k4,k5,k6,k7,k8,k9⟩:=I.st;have wq:=Gq.out.wf;replace k1:=Gq.out.keep _ _ k1;have kbs:=Hid.mk k1;replace k2:=Hid.mk (k2.grow Gq.out);replace k3:=Hid.mk (k3.grow Gq.out);replace k4:=Hid.mk (k4.grow Gq.out);have k7q:Hid (∀(i:Nat) n d,cs[i]?=some d->g.nodes[i]?=some n->ClzAt h0 hq d (zFs n)):=⟨fun i n d h1 h2=>(k7 i n d h1 h2).keep fun r p _ _ hp _=>Gq.out.keep _ _ hp⟩;replace k6:=Hid.mk k6;replace k8:=Hid.mk k8;replace k9:=Hid.mk k9;replace k5:=Hid.mk k5;have hcl:=zGK hK.out;have hl5:=hcl.2;have ht5:List.take 5 c=c:=List.take_of_length_le (by omega);have hone:=Hid.mk hcl.1;have hb6s:b6≠bs:=by rintro rfl;rw[k1] at o6;cases o6
  have room1:=Hid.mk (zBN H (b:=8) (k:=j+1) (by decide) (by omega));have room2:=Hid.mk (zBN H (b:=64) (k:=j+1) (by decide) (by omega));have low:=I.low;have np:=I.grow.next;have nq:=Gq.out.next;clear k7 hcl;repeat refine zR ?_
  refine zAS (zAT e1 (cs:=[.int .i64 (j:Nat)]) rfl rfl rfl wq ?_);rintro bx h12 hbx ab ox;have a1:=ab.keep _ _ k1;have a6:=ab.keep _ _ o6;refine zAK ⟨by simp[zAJ,Nat.testBit,a1,a6],?_⟩;have A2:=k2.out.grow ab;refine zAS (zAZ e1 e1 A2 ox rfl rfl room1.out ab.wf (by have:=ab.next;omega) ?_);rintro ov' h13 B13 f13 w13 n13 gr13 ae;have b1:=ae _ _ a1 (zAE A2 a1 fun vs hh=>by cases hh);have b6':=ae _ _ a6 (zAE A2 a6 fun vs hh=>by cases hh);have B3:Built h13 h0.next 3 1 rv j ((List.replicate j (0:Int)).map (AVal.int .i64)):=zBG (k3.out.grow ab) fun c p hc _ ⟨k,hk⟩=>ae c p hc fun n hh=>k6.out c n k hh hk;have B4:Built h13 h0.next 68 5 hv j cs.flatten:=zAR (k4.out.grow ab) fun c p _ hc ⟨vs,hp⟩=>ae c p hc (zAE A2 hc fun vs' hh=>by rw[hp] at hh;cases hh);have M13:∀{r p},hq.objs.get r=some p->(∀ro e vs,p.2≠.cells ro e vs)->h13.objs.get r=some p:=fun hp hn=>ae _ _ (ab.keep _ _ hp) (zAE A2 (ab.keep _ _ hp) fun vs hh=>hn _ _ _ hh);have G13:=gr13 h0 w0 ((I.grow.trans Gq.out).trans ab) (Nat.le_refl _);refine zAK ⟨by simp[zAJ,Nat.testBit,b1,b6'],?_⟩;refine zAS (zAT e1 (cs:=[.int .i64 0]) rfl rfl rfl w13 ?_);rintro by' h14 hby ac oy;have c1:=ac.keep _ _ b1;have c6:=ac.keep _ _ b6';refine zAK ⟨by simp[zAJ,Nat.testBit,c1,c6],?_⟩;have C3:=B3.grow ac;refine zAS (zAZ e1 e1 C3 oy rfl rfl room1.out ac.wf (by have:=ab.next;have:=ac.next;omega) ?_);rintro rv' h15 D3 f15 w15 n15 gr15 af;have d1:=af _ _ c1 (zAE C3 c1 fun vs hh=>by cases hh);have d6:=af _ _ c6 (zAE C3 c6 fun vs hh=>by cases hh);have hov:∀c n m,ov'=.slice (some (c,0)) n->rv≠.slice (some (c,0)) m:=fun c n m h1 h2=>by have h3:=f13 c n h1;have h4:=zHN k3.out wq h2;have:=ab.next;omega
  have D2:Built h15 h0.next 3 1 ov' (j+1) ((zCj (j+1)).map (AVal.int .i64)):=by rw[zQQ,List.map_append];exact zBG (B13.grow ac) fun c p hc _ ⟨k,hk⟩=>af c p hc fun n hh=>hov c k n hk hh
  have D4:Built h15 h0.next 68 5 hv j cs.flatten:=zAR (B4.grow ac) fun c p _ hc ⟨vs,hp⟩=>af c p hc (zAE C3 hc fun vs' hh=>by rw[hp] at hh;cases hh);have M15:∀{r p},h13.objs.get r=some p->(∀ro e vs,p.2≠.cells ro e vs)->h15.objs.get r=some p:=fun hp hn=>af _ _ (ac.keep _ _ hp) (zAE C3 (ac.keep _ _ hp) fun vs hh=>hn _ _ _ hh);have G15:=gr15 h0 w0 (G13.trans ac) (Nat.le_refl _);have hor:∀c n m,ov'=.slice (some (c,0)) n->rv'≠.slice (some (c,0)) m:=fun c n m h1 h2=>by have h3:=f15 c m h2;have h4:=zHN B13 w13 h1;have:=ac.next;omega
  refine zAK ⟨by simp[zAJ,Nat.testBit,d1,d6],?_⟩;refine zAS (zAT e1 cc hl5 rfl w15 ?_);rintro bz h16 hbz ad oz;have e1':=ad.keep _ _ d1;have e6':=ad.keep _ _ d6;refine zAK ⟨by simp[zAJ,Nat.testBit,e1',e6'],?_⟩;have E4:=D4.grow ad;refine zAS (zAZ e1 e1 E4 oz hl5 hone.out room2.out ad.wf (by have:=ab.next;have:=ac.next;have:=ad.next;omega) ?_);rintro hv' h17 F4 f17 w17 n17 gr17 ai;have m1':=ai _ _ e1' (zAE E4 e1' fun vs hh=>by cases hh);have m1k:=Hid.mk m1';have F2:Built h17 h0.next 3 1 ov' (j+1) ((zCj (j+1)).map (AVal.int .i64)):=zAR (D2.grow ad) fun c p _ hc ⟨vs,hp⟩=>ai c p hc (zAE E4 hc fun vs' hh=>by rw[hp] at hh;cases hh);have F3:Built h17 h0.next 3 1 rv' (j+1) ((List.replicate (j+1) (0:Int)).map (AVal.int .i64)):=by rw[zRO,List.map_append];exact zAR (D3.grow ad) fun c p _ hc ⟨vs,hp⟩=>ai c p hc (zAE E4 hc fun vs' hh=>by rw[hp] at hh;cases hh)
  have M17:∀{r p},hq.objs.get r=some p->(∀ro e vs,p.2≠.cells ro e vs)->h17.objs.get r=some p:=fun hp hn=>ai _ _ (ad.keep _ _ (M15 (M13 hp hn) hn)) (zAE E4 (ad.keep _ _ (M15 (M13 hp hn) hn)) fun vs hh=>hn _ _ _ hh);have G17:=gr17 h0 w0 (G15.trans ad) (Nat.le_refl _);have nx:hq.next<=h17.next:=by have:=ab.next;have:=ac.next;have:=ad.next;omega
  refine zAK ⟨by simp[zAJ,Nat.testBit,m1'],?_⟩;have r2:=zAD F2.len;have r3:=zAD F3.len;have r4:=zAD F4.len;have L2:=Hid.mk F2.len;have L3:=Hid.mk F3.len;have L4:=Hid.mk F4.len;replace F2:=Hid.mk F2;replace F3:=Hid.mk F3;replace F4:=Hid.mk F4;have M17':Hid (∀r p,hq.objs.get r=some p->(∀ro e vs,p.2≠.cells ro e vs)->h17.objs.get r=some p):=⟨fun r p=>M17⟩;clear M17 M15 M13 E4 D4 D2 D3 C3 B4 B3 B13 A2 ae af ai f13 f15 f17 gr13 gr15 gr17 k1 o6 a1 a6 b1 b6' c1 c6 d1 d6 e1' e6' ox oy oz ab ac ad;repeat refine zR ?_
  refine zAS (zAC e1 e1 (zAO L2.out) rfl w17 m1' (by simp) (by simp only[List.all_cons,List.all_nil,r2,Bool.and_true]) ?_);rintro v18 h18 p18 o18;refine zAK ⟨by simp[zAJ,Nat.testBit],?_⟩;simp only[lL,Nat.reduceAdd] at o18;clear m1';repeat refine zR ?_
  refine zAS (zAC e1 e1 (zAO L3.out) rfl (p18.wf w17) o18 (by simp) (by simp only[List.all_cons,List.all_nil,r3,Bool.and_true]) ?_);rintro v19 h19 p19 o19;refine zAK ⟨by simp[zAJ,Nat.testBit],?_⟩;simp only[lL,Nat.reduceAdd] at o19;clear o18;repeat refine zR ?_
  refine zAS (zAC e1 e1 (zAO L4.out) rfl (p19.wf (p18.wf w17)) o19 (by simp) (by simp only[List.all_cons,List.all_nil,r4,Bool.and_true]) ?_);rintro v20 h20 p20 o20;refine zAK ⟨by simp[zAJ,Nat.testBit],?_⟩;simp only[lL,Nat.reduceAdd] at o20;clear o19;have P:=(p18.trans p19).trans p20;have G20:=P.grow h0 w0 G17 low.1;have MM:∀r p,hq.objs.get r=some p->(∀ro e vs,p.2≠.cells ro e vs)->r≠bs->h20.objs.get r=some p:=fun r p hp hn hr=>P.keep r hr _ (M17'.out r p hp hn);have hbq:∀(r:Nat) (p:Nat×AObj),hq.objs.get r=some p->(∀ro e vs,p.2≠.cells ro e vs)->r≠bs:=by rintro r p hp hn rfl;rw[kbs.out] at hp;cases hp;exact hn _ _ _ rfl
  have I20:StI h0 bs g.nodes (j+1) h20:=by
   have keepC:∀{d:List AVal} {z:Clz},ClzAt h0 hq d z->ClzAt h0 h20 d z:=fun k=>k.keep fun r p _ _ hp hn=>MM r p hp hn (hbq r p hp hn);have hcn:cs.length=j:=k5.out;have nz:=P.next;have stayB:∀{e:TypeId} {sz n:Nat} {v:AVal} {cells:List AVal},Built h17 h0.next e sz v n cells->e≠56->Built h20 h0.next e sz v n cells:=fun B he=>zAR B fun c p _ hc ⟨vs,hp⟩=>P.keep c (by
    rintro rfl;rw[m1k.out] at hc;simp only[oI] at hc;rw[<-hc] at hp;simp only[AObj.cells.injEq] at hp;exact he hp.2.1.symm) p hc
   refine⟨G20,⟨low.1,by omega⟩,v20,ov',rv',hv',cs++[c],o20,stayB F2.out (by decide),stayB F3.out (by decide),by rw[List.flatten_append];simpa using stayB F4.out (by decide),by simp[hcn],hor,fun i n d hi hn=>?_,fun i k d e r hik hd he hm=>?_,fun i d r hi hm=>?_⟩
   ·rcases Nat.lt_or_ge i cs.length with hl|hl
    ·rw[List.getElem?_append_left hl] at hi;exact keepC (k7q.out i n d hi hn)
    ·rw[List.getElem?_append_right hl] at hi;have:=(zgS.1 hi).1;simp only[zlC,zlN] at this;obtain rfl:i=j:=by omega
     rw[hcn,Nat.sub_self,zgZ,oI] at hi;rw[zgG hj,oI] at hn;rw[<-hi,<-hn];exact keepC hK.out
   ·have old:∀{i:Nat} {d:List AVal},(cs++[c])[i]?=some d->i<cs.length->cs[i]?=some d:=fun h hl=>by rwa [List.getElem?_append_left hl] at h
    have new:∀{i:Nat} {d:List AVal},(cs++[c])[i]?=some d->¬i<cs.length->i=cs.length/\c=d:=fun {i d} h hl=>by
     rw[List.getElem?_append_right (by omega)] at h;have:=(zgS.1 h).1;simp only[zlC,zlN] at this;have hi:i=cs.length:=by omega
     rw[hi,Nat.sub_self,zgZ,oI] at h;exact⟨hi,h⟩
    intro hm2;by_cases hi:i<cs.length
    ·by_cases hk:k<cs.length
     ·exact k8.out i k d e r hik (old hd hi) (old he hk) hm hm2
     ·obtain⟨_,rfl⟩:=new he hk;have h1:=k9.out i d r (old hd hi) hm;have h2:=(hR.out r hm2).1;omega
    ·obtain⟨hi',rfl⟩:=new hd hi;by_cases hk:k<cs.length
     ·have h1:=k9.out k e r (old he hk) hm2;have h2:=(hR.out r hm).1;omega
     ·have:=(new he hk).1;omega
   ·rcases Nat.lt_or_ge i cs.length with hl|hl
    ·rw[List.getElem?_append_left hl] at hi;have:=k9.out i d r hi hm;omega
    ·rw[List.getElem?_append_right hl] at hi;have:=(zgS.1 hi).1;simp only[zlC,zlN] at this;rw[show i - cs.length=0 by omega,zgZ,oI] at hi;subst hi;have:=(hR.out r hm).2;omega
  clear o20 P G20 MM hbq p18 p19 p20;repeat refine zR ?_
  exact⟨⟨I20,n1,e1,e1⟩,e1,e1⟩
 ·clear I0 o1';rintro a hp ⟨I,hd,aj,t3'⟩;repeat refine zG ?_
  exact⟨bs,rfl,I⟩
end
end Go.Ab.S
end
section
namespace Go.Ab.S
open Go Go.Ab
section
variable{fns:FnsT}{summ:SumT}{ro:Option Nat}
theorem zPS{d:Option Tmp}{x:AOpd}{l:List Step}{a:AAct}{h:AHeap}{K:AAct->AHeap->Prop}(hx:ev a x=some (.map none))(w:WF h)
  (k:∀b h',h.next<=b->Grow h h'->h'.objs.get b=some (b,.iter0)->St fns summ ro l (putA a d (.ptr (some (b,0)))) h' K):St fns summ ro (⟨d,none,.e (.range x)⟩::l) a h K:=
 st_t (by intro _ _ hh;cases hh) (by intro _ _ hh;cases hh) (v:=.ptr (some (h.next,0))) (h':=newA h .iter0) (by simp only[zBP,hx]) (k _ _ (Nat.le_refl _) ((Grow.refl w).new _) (zAQ _ _))
theorem zRB{d:Option Tmp}{x:AOpd}{l:List Step}{a:AAct}{h:AHeap}{K:AAct->AHeap->Prop}{b ver:Nat}(hx:ev a x=some (.ptr (some (b,0))))(hb:h.objs.get b=some (ver,.iter0))
  (k:St fns summ ro l (putA a d (.tuple [.bool false])) h K):St fns summ ro (⟨d,none,.e (.next x)⟩::l) a h K:=
 st_t (by intro _ _ hh;cases hh) (by intro _ _ hh;cases hh) (v:=.tuple [.bool false]) (h':=h) (by simp only[zBP,hx,hb]) k
end
def lsP(l:List Pr)(a:Int):Int:=((l.find? fun q=>q.1==a).map (·.2)).getD 0
def LE(l:List Pr)(rt:Int->Int)(i:Nat):Prop:=(∀q∈l,∃j:Nat,j<i/\q=(rt j,(j:Int))/\∀j':Nat,j'<j->rt j'≠rt j)/\∀j:Nat,j<i->∃q∈l,q.1=rt j
theorem LE.zero(rt:Int->Int):LE [] rt 0:=⟨fun q hq=>(by cases hq),fun j hj=>absurd hj (Nat.not_lt_zero _)⟩
theorem LE.stay{l:List Pr}{rt:Int->Int}{i:Nat}(h:LE l rt i)(hi:∃q∈l,q.1=rt i):LE l rt (i+1):=by
 refine⟨fun q hq=>?_,fun j hj=>?_⟩
 ·obtain⟨j,h1,h2⟩:=h.1 q hq;exact⟨j,by omega,h2⟩
 ·rcases Nat.lt_or_ge j i with hl|hl
  ·exact h.2 j hl
  ·obtain rfl:j=i:=by omega
   exact hi
theorem LE.put{l:List Pr}{rt:Int->Int}{i:Nat}(h:LE l rt i)(hi:∀q∈l,q.1≠rt i):LE (l++[(rt i,(i:Int))]) rt (i+1):=by
 refine⟨fun q hq=>?_,fun j hj=>?_⟩
 ·rcases List.mem_append.1 hq with hq|hq
  ·obtain⟨j,h1,h2⟩:=h.1 q hq;exact⟨j,by omega,h2⟩
  ·obtain rfl:=List.mem_singleton.1 hq;refine⟨i,by omega,rfl,fun j' aa he=>?_⟩;obtain⟨q,hq,hr⟩:=h.2 j' aa;exact hi q hq (hr.trans he)
 ·rcases Nat.lt_or_ge j i with hl|hl
  ·obtain⟨q,hq,hr⟩:=h.2 j hl;exact⟨q,List.mem_append.2 (.inl hq),hr⟩
  ·obtain rfl:j=i:=by omega
   exact⟨_,List.mem_append.2 (.inr (List.mem_singleton.2 rfl)),rfl⟩
theorem LE.one{l:List Pr}{rt:Int->Int}{i:Nat}(h:LE l rt i){p q:Pr}(hp:p∈l)(hq:q∈l)(he:p.1=q.1):p.2=q.2:=by
 obtain⟨j,_,rfl,k1⟩:=h.1 p hp;obtain⟨k,_,rfl,k2⟩:=h.1 q hq;simp only at he ⊢;rcases Nat.lt_trichotomy j k with hl|rfl|hl
 ·exact absurd he (k2 j hl)
 ·rfl
 ·exact absurd he.symm (k1 k hl)
theorem LE.ls{l:List Pr}{rt:Int->Int}{i:Nat}(h:LE l rt i){q:Pr}(hq:q∈l):lsP l q.1=q.2:=by
 unfold lsP;cases hf:l.find? fun p=>p.1==q.1 with
 |none=>have:=List.find?_eq_none.1 hf q hq;simp at this
 |some p=>
  have h1:=List.mem_of_find?_eq_some hf;have h2:=List.find?_some hf;simp only[beq_iff_eq] at h2;exact h.one h1 hq h2
theorem LE.rep{l:List Pr}{rt:Int->Int}{N:Nat}(h:LE l rt N){j:Nat}(hj:j<N):∃k:Nat,k<N/\lsP l (rt j)=k/\rt k=rt j/\∀i:Nat,i<N->rt i=rt j->k<=i:=by
 obtain⟨q,hq,hr⟩:=h.2 j hj;obtain⟨k,hk,rfl,hm⟩:=h.1 q hq;simp only at hr;refine⟨k,hk,by rw[<-hr];exact h.ls hq,hr,fun i hi he=>?_⟩;rcases Nat.lt_or_ge i k with hl|hl
 ·exact absurd (he.trans hr.symm) (hm i hl)
 ·exact hl
theorem FA.val{h:AHeap}{r ver c:Nat}{es:List (AVal×AVal×Nat)}{l:List Pr}(hg:h.objs.get r=some (ver,.map es c))(f:FA es l){rt:Int->Int}{i:Nat}(L:LE l rt i){a:Int}(ha:∃q∈l,q.1=a):zCq h .int (.int .i64 0) false (.map (some r)) (.int .i64 a)=some (.int .i64 (lsP l a),some r):=by
 obtain⟨y,h1,h2,h3⟩:=f a;cases y with
 |none=>
  obtain⟨q,hq,hr⟩:=ha;exact absurd hr (h2 rfl q hq)
 |some x=>
  obtain⟨q,q1,q2,q3⟩:=h3 x.1 x.2 rfl;have:lsP l a=q.2:=by rw[<-q2];exact L.ls q1
  rw[this];obtain⟨x1,x2⟩:=x;simp only at q3;subst q3;simp only[zCq,zEd,hg,h1];rfl
structure LeI(h:AHeap)(b12 b10 bs bo:Nat)(N:Nat)(l:List Pr)(rt:Int->Int):Prop where
 c12:∃v e rm,h.objs.get b12=some (v,.cells false e [.map (some rm)])/\∃vm es c,h.objs.get rm=some (vm,.map es c)/\FA es l
 c10:∃v e,h.objs.get b10=some (v,.cells false e [.ptr (some (bs,0))])
 cs:∃v e rest,h.objs.get bs=some (v,.cells false e (.slice (some (bo,0)) N::rest))
 ne:b12≠bo/\b10≠bo/\bs≠bo
section
variable{fns:FnsT}{summ:SumT}
variable(H:Has fns summ)
include H
theorem zQd{N K n:Nat}{on rk:List Int}{rt:Int->Int}(u:UF N on rk rt K){i:Nat}(hi:i<N){b12 b10 bs bo:Nat}{l:List Pr}(h:AHeap)(hw:WF h)(I:LeI h b12 b10 bs bo N l rt)(L:LE l rt n)(hin:i<n)(ho:RowI h bo N on):
  Cl fns summ 29 [.int .i64 (i:Nat),.ptr (some (b12,0)),.ptr (some (b10,0))] h fun r h'=>r=.int .i64 (lsP l (rt i))/\But bo h h'/\∃on',RowI h' bo N on'/\UF N on' rk rt K:=by
 obtain⟨v12,e12,rm,ah,vm,es,c,om,f⟩:=I.c12;obtain⟨v10,e10,af⟩:=I.c10;obtain⟨vs,e,rest,os⟩:=I.cs;obtain⟨ae,ad,aj⟩:=I.ne;have ab:=Hid.mk (zGk H u hi aj h hw os ho);have ai:rm≠bo:=by rintro rfl;obtain⟨_,_,o,_⟩:=ho;rw[om] at o;cases o
 have fv:=Hid.mk fun (h':AHeap) (hg:h'.objs.get rm=some (vm,.map es c))=>FA.val hg f L (L.2 i hin);clear f L u ho;refine H.go (fn:=F_SUnify1) rfl (by decide) rfl rfl ?_;unfold F_SUnify1;dsimp only[qQ,tm,mt,lo,jv,jd,jS];repeat refine zR ?_
 refine zAS (zAL s1 (ab.out.mono ?_));rintro _ h1 ⟨rfl,B,on',ac,u'⟩;have al:=B.keep _ ae _ ah;have ak:=B.keep _ ad _ af;have pm:=B.keep _ ai _ om;have hl:=fv.out h1 pm;refine zAK ⟨by simp[zAJ,Nat.testBit,al,ak],?_⟩;have aa:But bo h h1/\∃on',RowI h1 bo N on'/\UF N on' rk rt K:=⟨B,on',ac,u'⟩;replace aa:=Hid.mk aa;clear ah af om os ac u' fv ab B;repeat refine zG ?_
 exact⟨rfl,aa.out⟩
end
end Go.Ab.S
end
section
namespace Go.Ab.S
open Go.Ab
theorem zJn:∀{n:Nat} {l:List Nat},l.Nodup->(∀i∈l,i<n)->l.length<=n
 |0,[],_,_=>Nat.le_refl _
 |0,a::l,_,h=>absurd (h a (by simp)) (by omega)
 |n+1,l,hn,h=>by
  have h1:=zJn (n:=n) (l:=l.erase n) (hn.erase n) fun i hi=>by have:=(List.Nodup.mem_erase_iff hn).1 hi;have:=h i this.2;omega
  by_cases hm:n∈l
  ·rw[List.length_erase_of_mem hm] at h1;omega
  ·rw[List.erase_of_not_mem hm] at h1;omega
def zEM(l:List (List Nat)):List (List Nat):=l.mergeSort fun x y=> !zAn y x
structure HasSort(summ:SumT):Prop where
 none:∀h,summ 56 [.slice none 0] h=some (.ret (.tuple [],h))
 zero:∀h,summ 56 [.slice0] h=some (.ret (.tuple [],h))
 some:∀(l:List (List Nat)),(∀s∈l,∀c∈s,c<256)->l.length<=2 ^ 31->∀h b ver vs,WF h->h.objs.get b=some (ver,.cells false 9 vs)->l.length<=vs.length->vs.take l.length=l.map AVal.str →
  summ 56 [.slice (some (b,0)) l.length] h=some (.ret (.tuple [],zAX h b (.cells false 9 ((zEM l).map AVal.str++vs.drop l.length))))
theorem zNR{x y:List Nat}(h:zAn x y=true):zAn y x=false:=by
 cases h2:zAn y x
 ·rfl
 ·have:=zBj h h2;rw[zCO] at this;cases this
theorem zPP{l:List (List Nat)}{s:List Nat}:s∈zEM l↔s∈l:=List.mem_mergeSort
theorem zGd(l:List (List Nat)):(zEM l).length=l.length:=List.length_mergeSort _
theorem zQx(l:List (List Nat)):(zEM l).Pairwise fun x y=>(!zAn y x)=true:=by
 refine List.pairwise_mergeSort (fun a b c h1 h2=>?_) (fun a b=>?_) l
 ·simp only[Bool.not_eq_true'] at h1 h2 ⊢;cases h:zAn c a
  ·rfl
  ·rcases zFA b c with k|rfl|k
   ·have:=zBj k h;rw[h1] at this;cases this
   ·rw[h1] at h;cases h
   ·rw[h2] at k;cases k
 ·cases h:zAn b a
  ·rfl
  ·rw[zNR h];rfl
theorem zLr{l:List (List Nat)}(hn:l.Nodup):Rises (zEM l):=by
 have h1:=zQx l;have h2:(zEM l).Nodup:=(List.mergeSort_perm l _).nodup_iff.2 hn;intro i j hij x y hx hy;obtain⟨hi,rfl⟩:=zgS.1 hx;obtain⟨hj,rfl⟩:=zgS.1 hy;have h3:=List.pairwise_iff_getElem.1 h1 i j hi hj hij;simp only[Bool.not_eq_true'] at h3;rcases zFA (zEM l)[i] (zEM l)[j] with k|k|k
 ·exact k
 ·have:=(List.getElem_inj h2).1 k;omega
 ·rw[h3] at k;cases k
def BytesL(l:List (List Nat)):Prop:=∀s∈l,∀c∈s,c<256
def zEF(ks:List (List Nat))(s:List Nat):List (List Nat):=s.map fun i=>ks.getD i []
theorem zPA{ks:List (List Nat)}{s:List Nat}{i:Nat}(hi:i<ks.length):zEF ks (s++[i])=zEF ks s++[ks[i]]:=by simp[zEF,List.getD,zgG hi]
theorem zMk{ks:List (List Nat)}{s:List Nat}(h:∀i,i∈s↔i<ks.length)(x:List Nat):x∈zEF ks s↔x∈ks:=by
 simp only[zEF,List.mem_map];constructor
 ·rintro⟨i,hi,rfl⟩;have:=(h i).1 hi;rw[List.getD,zgG this];exact List.getElem_mem _
 ·intro hx;obtain⟨i,hi,rfl⟩:=List.mem_iff_getElem.1 hx;exact⟨i,(h i).2 hi,by rw[List.getD,zgG hi];rfl⟩
theorem zNZ{ks:List (List Nat)}(hk:ks.Nodup){s:List Nat}(hs:s.Nodup)(h:∀i∈s,i<ks.length):(zEF ks s).Nodup:=by rw[zEF,List.nodup_iff_pairwise_ne,List.pairwise_map];refine List.Pairwise.imp_of_mem ?_ (List.nodup_iff_pairwise_ne.1 hs);intro a b ha hb aa he;have h1:=h a ha;have h2:=h b hb;simp only[List.getD,zgG h1,zgG h2,Option.getD_some] at he;exact aa ((List.getElem_inj hk).1 he)
end Go.Ab.S
end
