import Derived.Test.YtpmndmiohaaokaaGreatDoorP17
import Derived.Test.YtpmndmiohaaokaaGreatDoorP18
import Derived.Test.YtpmndmiohaaokaaGreatDoorP19
/-
  Part 20 of the proof.
-/
set_option linter.all false
set_option maxHeartbeats 8000000
section
namespace Go.Ab.S
open Go Go.Ab
theorem zNz{fns:FnsT}{summ:SumT}{ro:Option Nat}{c:ACode}{a:AAct}{h:AHeap}{K:AAct->AHeap->Prop}{Q:AExit->AAct->AHeap->Prop}(I:AAct->AHeap->Prop)(k1:Cd fns summ ro c a h (nxt I Q))(k2:∀a h,I a h->K a h):Cd fns summ ro c a h (nxt K Q):=
 k1.mono fun e a1 h1 hq=>by cases e with
  |normal=>exact k2 a1 h1 hq
  |ret=>exact hq
  |exit i=>exact hq
theorem butG{b:Nat}{h h':AHeap}(g:Grow h h'):But b h h':=⟨g.next,fun c _ p hc=>g.keep _ _ hc,fun h0 _ g0 _=>g0.trans g,fun _=>g.wf⟩
theorem zGW{g:Graph}{a:Nat}(h:a<g.nodes.length):g.nodes[a]?=some (zAA g (a:Int)):=by rw[zAA,Int.toNat_natCast,List.getD,zgG h];rfl
theorem ClsAt.grow{h h':AHeap}{b rb N:Nat}{nv:AVal}{R:List Int}(k:ClsAt h b rb nv N R)(g:Grow h h'):ClsAt h' b rb nv N R:=by obtain⟨⟨ver,hb⟩,vr,vs,ho,q⟩:=k;exact⟨⟨ver,g.keep _ _ hb⟩,vr,vs,g.keep _ _ ho,q⟩
theorem ClsAt.lt{h:AHeap}{b rb N:Nat}{nv:AVal}{R:List Int}(k:ClsAt h b rb nv N R)(w:WF h):b<h.next/\rb<h.next:=by obtain⟨⟨ver,hb⟩,vr,vs,ho,q⟩:=k;exact⟨w.lt hb,w.lt ho⟩
def ArgZ(X Y:Node)(i:Nat)(z:Int):Prop:=(X.kind=2/\i<Y.args.length/\z=Y.args.getD i 0)\/(X.kind=3/\∃s,X.labels[i]?=some s/\((∃k,Y.labels[k]?=some s/\z=Y.args.getD k 0)\/(s∉Y.labels/\z= -1)))
section
variable{g:Graph}{ps:List Pr}{R R':List Int}{a b:Int}{i:Nat}{ch:Bool}{z:Int}
theorem zHr(hc:zAB g=0)(ha:InG g a):(zAA g a).labels.length<=(zAA g a).args.length:=by
 rcases zAH (zAV hc ha) with⟨_,q',_⟩|⟨_,q',_⟩|⟨_,_,q',_⟩
 ·rw[q'];simp
 ·rw[q'];simp
 ·omega
theorem zTm(hc:zAB g=0)(ha:InG g a){s:List Nat}{j k:Nat}(h1:(zAA g a).labels[j]?=some s)(h2:(zAA g a).labels[k]?=some s):j=k:=by
 have hr:Rises (zAA g a).labels:=by
  rcases zAH (zAV hc ha) with⟨_,q',_⟩|⟨_,q',_⟩|⟨_,_,_,q'⟩
  ·rw[q'];intro i j _ x y hx;simp at hx
  ·rw[q'];intro i j _ x y hx;simp at hx
  ·exact zBD q'
 rcases Nat.lt_trichotomy j k with h|h|h
 ·have:=hr j k h _ _ h1 h2;rw[zCO] at this;cases this
 ·exact h
 ·have:=hr k j h _ _ h2 h1;rw[zCO] at this;cases this
theorem StepI.lack(I:DJ g ps R)(hu:Uni g ps a b)(h3:(zAA g a).kind=(zAA g b).kind)(hn:(zAA g a).name=(zAA g b).name)(hc:zAB g=0)(hi:i<(zAA g a).args.length)(hz:ArgZ (zAA g a) (zAA g b) i z)(hneg:z<0)(ho:(zAA g b).isOpen=false):¬Consi g ps:=fun co=>by
 have aa:=hu.inG hc;rcases hz with⟨k1,k2,rfl⟩|⟨k1,s,k2,⟨k,k3,rfl⟩|⟨k3,_⟩⟩
 ·have:=(zEk hc aa.2 k2).1;omega
 ·have hk:=(zgS.1 k3).1;have:=(zEk hc aa.2 (Nat.lt_of_lt_of_le hk (zHr hc aa.2))).1;omega
 ·rcases co a b hu with q|q|⟨_,_,q⟩
  ·omega
  ·omega
  ·exact k3 ((q k1).2 ho s (List.mem_of_getElem? k2))
theorem StepI.open(S:StepI g ps a b R i ch R')(hc:zAB g=0)(hz:ArgZ (zAA g a) (zAA g b) i z)(hb:InG g b)(hneg:z<0)(ho:(zAA g b).isOpen=true):StepI g ps a b R (i+1) ch R':=by
 refine S.skip hc ?_;rcases hz with⟨k1,k2,rfl⟩|⟨k1,s,k2,⟨k,k3,rfl⟩|⟨k3,_⟩⟩
 ·have:=(zEk hc hb k2).1;omega
 ·have hk:=(zgS.1 k3).1;have:=(zEk hc hb (Nat.lt_of_lt_of_le hk (zHr hc hb))).1;omega
 ·refine⟨fun q=>by omega,fun _ l hl=>?_⟩;rw[k2] at hl;cases hl;exact⟨fun q=>(by rw[ho] at q;cases q),fun j hj=>absurd (List.mem_of_getElem? hj) k3⟩
theorem StepI.one(S:StepI g ps a b R i ch R')(hc:zAB g=0)(hu:Uni g ps a b)(h3:(zAA g a).kind=(zAA g b).kind)(hn:(zAA g a).name=(zAA g b).name)(hi:i<(zAA g a).args.length)(hz:ArgZ (zAA g a) (zAA g b) i z)(hpos:0<=z):
  InG g ((zAA g a).args.getD i 0)/\InG g z/\StepI g ps a b R (i+1) (ch||decide (clAt R' ((zAA g a).args.getD i 0)≠clAt R' z)) (zCJ R' ((zAA g a).args.getD i 0) z):=by
 have aa:=hu.inG hc;have hx:=zEk hc aa.1 hi;rcases hz with⟨k1,k2,rfl⟩|⟨k1,s,k2,⟨k,k3,rfl⟩|⟨k3,h⟩⟩
 ·have hy:=zEk hc aa.2 k2;exact⟨hx,hy,S.put hc aa.1 aa.2 (fun _=>⟨by omega,hn⟩) hi hx hy (.con hu k1 (by omega) hn hi) fun R'' e=>⟨fun _=>e,fun q=>by omega⟩⟩
 ·have hk:=(zgS.1 k3).1;have hy:=zEk hc aa.2 (Nat.lt_of_lt_of_le hk (zHr hc aa.2));refine⟨hx,hy,S.put hc aa.1 aa.2 (fun q=>by omega) hi hx hy (.obj hu k1 (by omega) k2 k3) fun R'' e=>⟨fun q=>by omega,fun _ l hl=>?_⟩⟩;rw[k2] at hl;cases hl;refine⟨fun _=>List.mem_of_getElem? k3,fun j hj=>?_⟩;rw[zTm hc aa.2 hj k3];exact e
 ·omega
theorem StepR.var(I:DJ g ps R)(h:(zAA g a).kind=1\/(zAA g b).kind=1):StepR g ps a b R false true R:=
 ⟨I,.refl,fun h=>(by cases h),fun _ _=>rfl,fun _ h=>(by cases h),fun _=>h.elim .inl fun h=>.inr (.inl h)⟩
theorem StepR.clash(I:DJ g ps R)(hu:Uni g ps a b)(h1:(zAA g a).kind≠1)(h2:(zAA g b).kind≠1)(h:(zAA g a).kind≠(zAA g b).kind\/(zAA g a).name≠(zAA g b).name):StepR g ps a b R false false R:=
 ⟨I,.refl,fun _ co=>by
  rcases co a b hu with q|q|⟨q1,q2,_⟩
  ·exact h1 q
  ·exact h2 q
  ·rcases h with h|h
   ·exact h q1
   ·exact h q2,fun h=>(by cases h),fun h=>(by cases h),fun h=>by cases h⟩
theorem StepR.stop(S:StepI g ps a b R i ch R')(h:¬Consi g ps):StepR g ps a b R false false R':=
 ⟨S.dj,S.mono,fun _=>h,fun h=>(by cases h),fun h=>(by cases h),fun h=>by cases h⟩
theorem StepR.all(S:StepI g ps a b R (zAA g a).args.length ch R')(hc:zAB g=0)(ha:InG g a)(hk:(zAA g a).kind=(zAA g b).kind)(hn:(zAA g a).name=(zAA g b).name):StepR g ps a b R ch true R':=
 ⟨S.dj,S.mono,fun h=>(by cases h),fun _=>S.no,fun _=>S.yes,fun _=>S.fin hc ha hk hn⟩
end
section
variable{fns:FnsT}{summ:SumT}
variable(H:Has fns summ)
include H
theorem zNi(g:Graph)(hg:GTi g)(hc:zAB g=0)(ps:List Pr){R:List Int}(I:DJ g ps R){a b:Nat}(ha:a<g.nodes.length)(hb:b<g.nodes.length)(he:clAt R (a:Int)=clAt R (b:Int)){c rb:Nat}{nv:AVal}{h0 h:AHeap}(w0:WF h0)(hN:NodesAt h0 nv g.nodes)(G:Grow h0 h)(hrb:h0.next<=rb)(hC:ClsAt h c rb nv g.nodes.length R):
  Cl fns summ 58 [.ptr (some (c,0)),.int .i64 (a:Nat),.int .i64 (b:Nat)] h fun r h'=>∃ch ok R',r=.tuple [.bool ch,.bool ok]/\But rb h h'/\ClsAt h' c rb nv g.nodes.length R'/\Hid (StepR g ps a b R ch ok R'):=by
 have w:=G.wf;have hne:=hC.ne;have hlt:=hC.lt w;have ina:InG g (a:Int):=⟨by omega,by omega⟩;have inb:InG g (b:Int):=⟨by omega,by omega⟩;have hu:Uni g ps a b:=I.sound _ _ ina inb he;obtain⟨X,hX⟩:∃X,zAA g (a:Int)=X:=⟨_,rfl⟩;obtain⟨Y,hY⟩:∃Y,zAA g (b:Int)=Y:=⟨_,rfl⟩;have gX:=zGW ha;have gY:=zGW hb;rw[hX] at gX;rw[hY] at gY;have smX:NodeSm X:=hg.all X (List.mem_of_getElem? gX);have smY:NodeSm Y:=hg.all Y (List.mem_of_getElem? gY);have hA4:=hg.tinyA X (List.mem_of_getElem? gX);obtain⟨bx,ox,verx,rx,ex,vsx,avx,lvx,hixx,hgetx0,hvlx,hvox,_,_,wx2,_,_,hax0,hlx0⟩:=hN.at gX;obtain⟨by',oy,very,ry,ey,vsy,avy,lvy,hixy,hgety0,hvly,hvoy,_,_,wy2,_,_,hay0,hly0⟩:=hN.at gY;have hgetx:=G.keep _ _ hgetx0;have hgety:=G.keep _ _ hgety0;have hax:=hax0.mono G;have hlx:=hlx0.mono G;have hay:=hay0.mono G;have hly:=hly0.mono G;have hax':=Hid.mk hax;have hlx':=Hid.mk hlx;have hay':=Hid.mk hay;have hly':=Hid.mk hly;have hlenx:=hax.len;have hlenlx:=hlx.len;have hleny:=hay.len;have hlenly:=hly.len;have hC':=Hid.mk hC;obtain⟨⟨ver,hbc⟩,_⟩:=hC;have aa:Hid (Uni g ps a b/\InG g (a:Int)/\InG g (b:Int)/\zAA g (a:Int)=X/\zAA g (b:Int)=Y/\NodeSm X/\NodeSm Y/\DJ g ps R):=⟨hu,ina,inb,hX,hY,smX,smY,I⟩;have ix:Hid (IntsAt h0 avx X.args/\StrsAt h0 lvx X.labels/\IntsAt h0 avy Y.args/\StrsAt h0 lvy Y.labels):=⟨hax0,hlx0,hay0,hly0⟩;have ht5:∀p q r s t:AVal,List.take 5 [p,q,r,s,t]=[p,q,r,s,t]:=fun _ _ _ _ _=>rfl;have onex:=zAD hlenx;have onelx:=zAD hlenlx;have oney:=zAD hleny;have onely:=zAD hlenly;have l20:Hid (g.nodes.length<=2 ^ 20):=⟨by have:=hg.tinyN;have:(2:Nat) ^ 20=1048576:=(by decide);omega⟩;clear hu ina inb hX hY gX gY smX smY hax hlx hay hly hax0 hlx0 hay0 hly0 hgetx0 hgety0 I he;refine H.go (fn:=F_rstep08) rfl (by decide) rfl rfl ?_;unfold F_rstep08;dsimp only[qQ,qE,gQ,gE,vi,tm,mt,lo,fa,jn,jk,jv,jb,jl,js,ji,je,jd,jN,jR,jS,jC,jL];repeat refine zR ?_
 refine zAS (zAM w ?_);rintro b8 h1 hb8 g1 o8;have c1:=g1.keep _ _ hbc;have x1:=g1.keep _ _ hgetx;have y1:=g1.keep _ _ hgety;refine zAK ⟨by simp[zAJ,Nat.testBit,c1,x1,y1],?_⟩;refine zAS (zAM g1.wf ?_);rintro b9 h2 hb9 g2 o9;have lt8:=g1.wf.lt o8;have o82:=g2.keep _ _ o8;have c2:=g2.keep _ _ c1;have x2:=g2.keep _ _ x1;have y2:=g2.keep _ _ y1;refine zAK ⟨by simp[zAJ,Nat.testBit,c2,x2,y2],?_⟩;have n1x:=g1.next;have ltx:=w.lt hgetx;have lty:=w.lt hgety;have ltc:=hlt.1;refine zAS (zAC (v:=.agg [.int .i64 X.kind,.str X.name,avx,lvx,.bool X.isOpen]) e1 e1 (cs:=[.int .i64 X.kind,.str X.name,avx,lvx,.bool X.isOpen]) rfl rfl g2.wf o82 (by simp) (by simp only[List.all_cons,List.all_nil,onex,onelx,Bool.true_and,Bool.and_true];rfl) ?_);rintro v3 h3 p3 oX;have c3:=p3.keep c (by omega) _ c2;have x3:=p3.keep bx (by omega) _ x2;have y3:=p3.keep by' (by omega) _ y2;have o93:=p3.keep b9 (by omega) _ o9;refine zAK ⟨by simp[zAJ,Nat.testBit,c3,x3,y3],?_⟩;have g3:Grow h h3:=p3.grow h w (g1.trans g2) hb8;refine zAS (zAC (v:=.agg [.int .i64 Y.kind,.str Y.name,avy,lvy,.bool Y.isOpen]) e1 e1 (cs:=[.int .i64 Y.kind,.str Y.name,avy,lvy,.bool Y.isOpen]) rfl rfl g3.wf o93 (by simp) (by simp only[List.all_cons,List.all_nil,oney,onely,Bool.true_and,Bool.and_true];rfl) ?_);rintro v4 h4 p4 oY;have oX4:=p4.keep b8 (by omega) _ oX;have c4:=p4.keep c (by omega) _ c3;have x4:=p4.keep bx (by omega) _ x3;have y4:=p4.keep by' (by omega) _ y3;refine zAK ⟨by simp[zAJ,Nat.testBit,c4,x4,y4],?_⟩;have gS:Grow h h4:=p4.grow h w g3 (by omega);simp only[lL,Nat.reduceAdd] at oX4 oY;have B4:Hid (But rb h h4):=⟨butG gS⟩;have C4:Hid (ClsAt h4 c rb nv g.nodes.length R):=⟨hC'.out.grow gS⟩;have rb8:rb≠b8/\rb≠b9:=⟨by have:=hlt.2;omega,by have:=hlt.2;omega⟩;have w4:=gS.wf;clear c1 c2 c3 c4 x1 x2 x3 x4 y1 y2 y3 y4 o8 o82 o9 o93 oX p3 p4 g1 g2 g3 hbc hgetx hgety hax' hlx' hay' hly' hC' hixx hixy hvox hvoy hvlx hvly;repeat refine zR ?_
 cases k1:(X.kind==1);rotate_left
 ·have ab:Hid (StepR g ps a b R false true R):=⟨StepR.var aa.out.2.2.2.2.2.2.2 (.inl (by rw[aa.out.2.2.2.1];simpa using k1))⟩;repeat refine zG ?_
  exact⟨false,true,R,rfl,B4.out,C4.out,ab⟩
 cases k2:(Y.kind==1);rotate_left
 ·have ab:Hid (StepR g ps a b R false true R):=⟨StepR.var aa.out.2.2.2.2.2.2.2 (.inr (by rw[aa.out.2.2.2.2.1];simpa using k2))⟩;repeat refine zG ?_
  exact⟨false,true,R,rfl,B4.out,C4.out,ab⟩
 have hcl:Hid (X.kind≠Y.kind\/X.name≠Y.name->StepR g ps a b R false false R):=⟨fun q=>StepR.clash aa.out.2.2.2.2.2.2.2 aa.out.1 (by rw[aa.out.2.2.2.1];simpa using k1) (by rw[aa.out.2.2.2.2.1];simpa using k2) (by rw[aa.out.2.2.2.1,aa.out.2.2.2.2.1];exact q)⟩;repeat refine zR ?_
 cases k3:(X.kind != Y.kind);rotate_left
 ·have ab:=Hid.mk (hcl.out (.inl (by simpa using k3)));repeat refine zG ?_
  exact⟨false,false,R,rfl,B4.out,C4.out,ab⟩
 cases k4:eqL X.name Y.name
 ·have ab:=Hid.mk (hcl.out (.inr fun q=>by rw[zAx.2 q] at k4;cases k4));repeat refine zG ?_
  exact⟨false,false,R,rfl,B4.out,C4.out,ab⟩
 have kn:Hid (X.kind=Y.kind/\X.name=Y.name):=⟨by simpa using k3,zAx.1 k4⟩;clear hcl;repeat refine zR ?_
 have S0:Hid (StepI g ps a b R 0 false R):=⟨.start aa.out.2.2.2.2.2.2.2⟩;have nx:Hid (∀i,i<X.args.length->(X.kind=2->i<Y.args.length)/\(X.kind≠2->X.kind=3/\i<X.labels.length)):=⟨fun i hi=>by
  obtain⟨_,ina,inb,hX,hY,_⟩:=aa.out;refine⟨fun q=>?_,fun q=>?_⟩
  ·have:=zEZ hc ina inb (by rw[hX];exact q) (by rw[hY,<-kn.out.1];exact q) (by rw[hX,hY];exact kn.out.2);rw[hX,hY] at this;omega
  ·have q1:X.kind≠1:=by simpa using k1
   rcases zAH (zAV hc ina) with⟨k,_⟩|⟨k,_⟩|⟨k,_,k',_⟩
   ·rw[hX] at k;exact absurd k q1
   ·rw[hX] at k;exact absurd k q
   ·rw[hX] at k k';exact⟨k,by omega⟩⟩
 have G4:=Hid.mk (G.trans gS);clear k1 k2 k3 k4 gS G;refine zAp (N:=X.args.length) (fun i A hp=>∃ch R',Hid (StepI g ps a b R i ch R')/\Hid (But rb h4 hp)/\Hid (ClsAt hp c rb nv g.nodes.length R')/\A.defers=[]/\ev A (.tmp 0)=some (.ptr (some (c,0)))/\ev A (.tmp 8)=some (.ptr (some (b8,0)))/\ev A (.tmp 9)=some (.ptr (some (b9,0)))/\ev A (.tmp 10)=some (.bool ch)) ?_ ?_ ⟨false,R,S0,⟨zES _ _⟩,C4,n1,e1,e1,e1,e1⟩
 ·clear S0;rintro i A hp hi ⟨ch,R',S,B,C,hd,t0',t8',t9',t10'⟩ hi' hn;have oXp:=B.out.keep b8 (Ne.symm rb8.1) _ oX4;have oYp:=B.out.keep b9 (Ne.symm rb8.2) _ oY;have Gp:Grow h0 hp:=B.out.grow h0 w0 G4.out hrb;have wp:=Gp.wf;obtain⟨n2,n3⟩:=nx.out i hi;have n2':=Hid.mk n2;have n3':=Hid.mk n3;clear n2 n3 oX4 oY;repeat refine zR ?_
  refine zNz (fun A hq=>∃z,Hid (ArgZ X Y i z)/\Hid (Grow hp hq)/\A.defers=[]/\ev A (.tmp 0)=some (.ptr (some (c,0)))/\ev A (.tmp 8)=some (.ptr (some (b8,0)))/\ev A (.tmp 9)=some (.ptr (some (b9,0)))/\ev A (.tmp 10)=some (.bool ch)/\ev A (.tmp 11)=some (.int .i64 (i:Nat))/\ev A (.tmp 12)=some (.int .i64 z)/\ev A (.tmp 50)=some (.int .i64 (i:Nat))/\ev A (.tmp 49)=some (.int .i64 (X.args.length:Nat))) ?_ ?_
  ·cases c2:(X.kind==2)
   ·have h3:X.kind=3/\i<X.labels.length:=n3'.out (by simpa using c2);obtain⟨bl,ol,verl,rl,el,vsl,hixl,hgl,hvl⟩:=(ix.out.2.1.mono Gp).at (zgG h3.2);have lab:X.labels[i]?=some X.labels[i]:=zgG h3.2;obtain⟨s,hs⟩:∃s,X.labels[i]=s:=⟨_,rfl⟩;rw[hs] at hvl lab;have hss:s.length<2 ^ 60:=aa.out.2.2.2.2.2.1.texts s (List.mem_of_getElem? lab);have hk3:=Hid.mk h3.1;have lab':=Hid.mk lab;have hlaY:Y.labels.length<=Y.args.length:=by have:=zHr hc aa.out.2.2.1;rw[aa.out.2.2.2.2.1] at this;exact this
    have smY:=Hid.mk aa.out.2.2.2.2.2.2.1;clear lab hs h3;repeat refine zR ?_
    refine zAS (zAL s1 ((zKw H Y smY.out hlaY s hss avy lvy hp wp (ix.out.2.2.1.mono Gp) (ix.out.2.2.2.mono Gp)).mono ?_));rintro _ hq ⟨gq,z,rfl,hz⟩;have kX:=gq.keep _ _ oXp;have kY:=gq.keep _ _ oYp;have kl:=gq.keep _ _ hgl;refine zAK ⟨by simp[zAJ,Nat.testBit,kX,kY,kl],?_⟩;have hz':Hid (ArgZ X Y i z):=⟨.inr ⟨hk3.out,s,lab'.out,hz⟩⟩;have gq':=Hid.mk gq;clear hz oXp oYp hgl gq kX kY kl;repeat refine zR ?_
    exact⟨_,hz',gq',n1,e1,e1,e1,e1,e1,e1,e1,e1⟩
   ·have h2:X.kind=2:=by simpa using c2
    have hiy:=n2'.out h2;obtain⟨bq,oq,verq,rq,eq,vsq,hixq,hgq,hvq⟩:=(ix.out.2.2.1.mono Gp).at (zgG hiy);have hz:Hid (ArgZ X Y i Y.args[i]):=⟨.inl ⟨h2,hiy,by rw[List.getD,zgG hiy];rfl⟩⟩;clear h2;repeat refine zR ?_
    exact⟨_,hz,⟨Grow.refl wp⟩,n1,e1,e1,e1,e1,e1,e1,e1,e1⟩
  ·clear hd t0' t8' t9' t10' hi' hn n2' n3';rintro A hq ⟨z,hz,gq,hd,t0',t8',t9',t10',t11',t12',t50',t49'⟩;have kX:=gq.out.keep _ _ oXp;have kY:=gq.out.keep _ _ oYp;have wq:=gq.out.wf;have Bq:Hid (But rb h4 hq):=⟨B.out.trans (butG gq.out)⟩;have Cq:Hid (ClsAt hq c rb nv g.nodes.length R'):=⟨C.out.grow gq.out⟩;have Gq:=Hid.mk (Gp.trans gq.out);have hxg:X.args.getD i 0=X.args[i]:=by rw[List.getD,zgG hi];rfl
   have one':Hid (0<=z->InG g X.args[i]/\InG g z/\StepI g ps a b R (i+1) (ch||decide (clAt R' X.args[i]≠clAt R' z)) (zCJ R' X.args[i] z)):=⟨fun hp=>by
    obtain⟨hu,_,_,hX,hY,_⟩:=aa.out;have:=StepI.one S.out hc hu (by rw[hX,hY];exact kn.out.1) (by rw[hX,hY];exact kn.out.2) (by rw[hX];exact hi) (by rw[hX,hY];exact hz.out) hp;rw[hX,hxg] at this;exact this⟩
   have stop':Hid (z<0->Y.isOpen=false->StepR g ps a b R false false R'):=⟨fun hn ho=>by
    obtain⟨hu,_,_,hX,hY,_⟩:=aa.out;exact StepR.stop S.out (StepI.lack aa.out.2.2.2.2.2.2.2 hu (by rw[hX,hY];exact kn.out.1) (by rw[hX,hY];exact kn.out.2) hc (by rw[hX];exact hi) (by rw[hX,hY];exact hz.out) hn (by rw[hY];exact ho))⟩
   have open':Hid (z<0->Y.isOpen=true->StepI g ps a b R (i+1) ch R'):=⟨fun hn ho=>by
    obtain⟨hu,_,inb,hX,hY,_⟩:=aa.out;exact StepI.open S.out hc (by rw[hX,hY];exact hz.out) inb hn (by rw[hY];exact ho)⟩
   obtain⟨ba,oa,vera,ra,ea,vsa,hixa,hga0,hva⟩:=(ix.out.1.mono Gp).at (zgG hi);have hga:=gq.out.keep _ _ hga0;clear hxg hz oXp oYp hga0;cases cz:decide (z<0)
   ·have hz0:0<=z:=by simpa using cz
    obtain⟨i1,i2,S1⟩:=one'.out hz0;obtain⟨y,rfl⟩:∃y:Nat,z=y:=⟨z.toNat,by omega⟩;obtain⟨x,hx⟩:∃x:Nat,X.args[i]=x:=⟨X.args[i].toNat,by have:=i1.1;omega⟩;rw[hx] at hva i1 S1;have hxl:x<g.nodes.length:=by have:=i1.2;omega
    have hyl:y<g.nodes.length:=by have:=i2.2;omega
    have hge:decide (((y:Nat):Int)>=0)=true:=by simp
    have S1':=Hid.mk S1;have joinC:=Hid.mk (zJE H l20.out hq wq Cq.out hxl hyl);clear i1 i2 S1 hx one' stop' open';repeat refine zR ?_
    refine zBM e1 s1 (joinC.out.mono ?_);rintro _ hr ⟨rfl,Br,Cr⟩;have Br':Hid (But rb h4 hr):=⟨Bq.out.trans Br⟩;have Cr':=Hid.mk Cr;generalize decide (clAt R' ((x:Nat):Int)≠clAt R' ((y:Nat):Int))=dd at*;clear Br Cr;cases dd
    ·have S2:Hid (StepI g ps a b R (i+1) ch (zCJ R' (x:Int) (y:Int))):=⟨by have:=S1'.out;rw[Bool.or_false] at this;exact this⟩;repeat refine zR ?_
     exact⟨⟨_,_,S2,Br',Cr',n1,e1,e1,e1,e1⟩,e1,e1⟩
    ·have S2:Hid (StepI g ps a b R (i+1) true (zCJ R' (x:Int) (y:Int))):=⟨by have:=S1'.out;rw[Bool.or_true] at this;exact this⟩;repeat refine zR ?_
     exact⟨⟨_,_,S2,Br',Cr',n1,e1,e1,e1,e1⟩,e1,e1⟩
   ·have hz0:z<0:=by simpa using cz
    have hge:decide (z>=0)=false:=by simpa using hz0
    have st2:=Hid.mk (stop'.out hz0);have op2:=Hid.mk (open'.out hz0);clear one' stop' open' hz0;cases co:Y.isOpen
    ·have ab:=Hid.mk (st2.out co);have Bf:Hid (But rb h hq):=⟨B4.out.trans Bq.out⟩;rw[co] at kY;repeat refine zG ?_
     exact⟨false,false,R',rfl,Bf.out,Cq.out,ab⟩
    ·have S2:=Hid.mk (op2.out co);rw[co] at kY;repeat refine zR ?_
     exact⟨⟨_,_,S2,Bq,Cq,n1,e1,e1,e1,e1⟩,e1,e1⟩
 ·rintro A hp ⟨ch,R',S,B,C,hd,t0',t8',t9',t10'⟩;have ab:Hid (StepR g ps a b R ch true R'):=⟨StepR.all (by rw[aa.out.2.2.2.1];exact S.out) hc aa.out.2.1 (by rw[aa.out.2.2.2.1,aa.out.2.2.2.2.1];exact kn.out.1) (by rw[aa.out.2.2.2.1,aa.out.2.2.2.2.1];exact kn.out.2)⟩;have Bf:Hid (But rb h hp):=⟨B4.out.trans B.out⟩;repeat refine zG ?_
  exact⟨ch,true,R',rfl,Bf.out,C.out,ab⟩
end
end Go.Ab.S
end
section
namespace Go.Ab.S
open Go Go.Ab
section
variable{g:Graph}{ps:List Pr}{R R' R'':List Int}{x y:Nat}{ch:Bool}
theorem CloseR.stop(M:MonoR g R R'){ag:Bool}(S:CloseI g ps R' x y ag R''){R3:List Int}(T:StepR g ps x y R'' ch false R3):CloseR g ps R false R3:=
 ⟨T.dj,M.trans (S.mono.trans T.mono),fun _=>T.bad rfl,fun h=>by cases h⟩
end
section
variable{fns:FnsT}{summ:SumT}
variable(H:Has fns summ)
include H
theorem zLj(g:Graph)(hg:GTi g)(hc:zAB g=0)(ps:List Pr){R:List Int}(I:DJ g ps R){c rb:Nat}{nv:AVal}{h0 h:AHeap}(w0:WF h0)(hN:NodesAt h0 nv g.nodes)(G:Grow h0 h)(hrb:h0.next<=rb)(hC:ClsAt h c rb nv g.nodes.length R):
  Cl fns summ 34 [.ptr (some (c,0))] h fun r h'=>∃ok R',r=.bool ok/\But rb h h'/\ClsAt h' c rb nv g.nodes.length R'/\Hid (CloseR g ps R ok R'):=by
 have hne:=hC.ne;have hlen:=hN.len;have hN4:=hg.tinyN;have hlenr:lenO (.slice (some (rb,0)) g.nodes.length)=some g.nodes.length:=rfl;have C0:=Hid.mk hC;have I0:Hid (DJ g ps R/\MonoR g R R/\(true=true->cntR R+1<=cntR R+1)/\(true=false->∀a b,InG g a->InG g b->clAt R a=clAt R b->DoneP g R a b)):=⟨I,.refl,fun _=>Nat.le_refl _,fun h=>by cases h⟩;clear hC I;refine H.go (fn:=F_rClose08) rfl (by decide) rfl rfl ?_;unfold F_rClose08;dsimp only[qQ,gQ,tm,mt,lo,fa,jn,jv,jb,ji,je,jf,jx,jt,jR,jS,jC,jL];repeat refine zR ?_
 refine zBT ?_;refine zCS (fun n a hp=>∃ag R',Hid (DJ g ps R'/\MonoR g R R'/\(ag=true->cntR R'+1<=n)/\(ag=false->∀a b,InG g a->InG g b->clAt R' a=clAt R' b->DoneP g R' a b))/\Hid (But rb h hp)/\Hid (ClsAt hp c rb nv g.nodes.length R')/\a.defers=[]/\ev a (.tmp 0)=some (.ptr (some (c,0)))/\ev a (.tmp 3)=some (.bool ag)) ?_ (n:=cntR R+1) ⟨true,R,I0,⟨zES _ _⟩,C0,n1,e1,e1⟩;clear I0 C0;rintro n a hp ⟨ag,R',L,B,C,hd,ab,ac⟩;cases ag
 ·have ah:Hid (CloseR g ps R true R'):=⟨L.out.1,L.out.2.1,fun h=>(by cases h),fun _=>L.out.2.2.2 rfl⟩;repeat refine zG ?_
  exact⟨true,R',rfl,B.out,C.out,ah⟩
 have hmeas:=Hid.mk (L.out.2.2.1 rfl);obtain⟨⟨ver,ad⟩,_⟩:=C.out;repeat refine zR ?_
 have S0:Hid (CloseI g ps R' 0 0 false R'):=⟨.start L.out.1⟩;refine zAp (N:=g.nodes.length) (fun x a hp=>∃ag aa,Hid (CloseI g ps R' x 0 ag aa)/\Hid (But rb h hp)/\Hid (ClsAt hp c rb nv g.nodes.length aa)/\a.defers=[]/\ev a (.tmp 0)=some (.ptr (some (c,0)))/\ev a (.tmp 3)=some (.bool ag)) ?_ ?_ ⟨false,R',S0,B,C,n1,e1,e1⟩
 ·clear hd ab ac B C S0 ad;rintro x a hp hx ⟨ag,aa,S,B,C,hd,ab,ac⟩ hi hn;obtain⟨⟨ver,ad⟩,_⟩:=C.out;repeat refine zR ?_
  refine zAp (N:=g.nodes.length) (fun y a hp=>∃ag aa,Hid (CloseI g ps R' x y ag aa)/\Hid (But rb h hp)/\Hid (ClsAt hp c rb nv g.nodes.length aa)/\a.defers=[]/\ev a (.tmp 0)=some (.ptr (some (c,0)))/\ev a (.tmp 3)=some (.bool ag)/\ev a (.tmp 4)=some (.int .i64 (x:Nat))/\ev a (.tmp 14)=some (.int .i64 (x:Nat))/\ev a (.tmp 13)=some (.int .i64 (g.nodes.length:Nat))) ?_ ?_ ⟨ag,aa,S,B,C,n1,e1,e1,e1,e1,e1⟩
  ·clear hd ab ac hi hn B C S ad;rintro y a hp hy ⟨ag,aa,S,B,C,hd,ab,ac,t4',t14',t13'⟩ hi hn;obtain⟨⟨ver,ad⟩,vp,vsp,hop,ai,hvlp⟩:=C.out;have hvx:=zCM ai hx hvlp;have hvy:=zCM ai hy hvlp;have hixx:slA (.slice (some (rb,0)) g.nodes.length) 1 x=some (rb,x):=by simp[slA,hx]
   have hixy:slA (.slice (some (rb,0)) g.nodes.length) 1 y=some (rb,y):=by simp[slA,hy]
   obtain⟨u,hu⟩:∃u,clAt aa (x:Int)=u:=⟨_,rfl⟩;obtain⟨v,hv⟩:∃v,clAt aa (y:Int)=v:=⟨_,rfl⟩;have ae:Hid (u≠v->CloseI g ps R' x (y+1) ag aa):=⟨fun h=>S.out.skip (by rw[hu,hv];exact h)⟩;have af:Hid (u=v->Cl fns summ 58 [.ptr (some (c,0)),.int .i64 (x:Nat),.int .i64 (y:Nat)] hp fun r h'=>∃ch ok R',r=.tuple [.bool ch,.bool ok]/\But rb hp h'/\ClsAt h' c rb nv g.nodes.length R'/\Hid (StepR g ps x y aa ch ok R')):=⟨fun h=>zNi H g hg hc ps S.out.dj hx hy (by rw[hu,hv];exact h) w0 hN (B.out.grow h0 w0 G hrb) hrb C.out⟩;rw[hu] at hvx;rw[hv] at hvy;clear hu hv ai;cases hz:(u != v)
   ·have hsc:=Hid.mk (af.out (by simpa using hz));clear ae af;repeat refine zR ?_
    refine zAL s1 (hsc.out.mono ?_);rintro _ hq ⟨ch,ok,R3,rfl,B3,C3,T⟩;have B3':Hid (But rb h hq):=⟨B.out.trans B3⟩;have C3':=Hid.mk C3;clear B3 C3 hop ad hsc;cases ok
    ·have ah:Hid (CloseR g ps R false R3):=⟨CloseR.stop L.out.2.1 S.out T.out⟩;repeat refine zG ?_
     exact⟨false,R3,rfl,B3'.out,C3'.out,ah⟩
    ·have S3:=Hid.mk (S.out.step T.out);cases ag
     ·rw[Bool.false_or] at S3;repeat refine zR ?_
      exact⟨⟨_,_,S3,B3',C3',n1,e1,e1,e1,e1,e1⟩,e1,e1⟩
     ·rw[Bool.true_or] at S3;repeat refine zR ?_
      exact⟨⟨_,_,S3,B3',C3',n1,e1,e1,e1,e1,e1⟩,e1,e1⟩
   ·have hsk:=Hid.mk (ae.out (by simpa using hz));clear ae af;repeat refine zR ?_
    exact⟨⟨_,_,hsk,B,C,n1,e1,e1,e1,e1,e1⟩,e1,e1⟩
  ·clear hd ab ac hi hn B C S ad;rintro a hp ⟨ag,aa,S,B,C,hd,ab,ac,t4',t14',t13'⟩;have S':Hid (CloseI g ps R' (x+1) 0 ag aa):=⟨S.out.line⟩;repeat refine zR ?_
   exact⟨⟨_,_,S',B,C,n1,e1,e1⟩,e1,e1⟩
 ·clear hd ab ac B C S0 ad;rintro a hp ⟨ag,aa,S,B,C,hd,ab,ac⟩;have L':Hid (∃m,m<n/\(DJ g ps aa/\MonoR g R aa/\(ag=true->cntR aa+1<=m)/\(ag=false->∀a b,InG g a->InG g b->clAt aa a=clAt aa b->DoneP g aa a b))):=⟨by
   have hm:=hmeas.out;cases ag
   ·exact⟨0,by omega,S.out.dj,L.out.2.1.trans S.out.mono,fun h=>(by cases h),fun _=>S.out.fin.2⟩
   ·have:=S.out.yes rfl;exact⟨cntR aa+1,by omega,S.out.dj,L.out.2.1.trans S.out.mono,fun _=>Nat.le_refl _,fun h=>by cases h⟩⟩
  obtain⟨m,hmn,Lm⟩:=L'.out;have Lm':=Hid.mk Lm;clear Lm L';repeat refine zR ?_
  exact⟨m,hmn,ag,aa,Lm',B,C,n1,e1,e1⟩
end
end Go.Ab.S
end
section
namespace Go.Ab.S
open Go Go.Ab
structure RgI(hb:AHeap)(b3:Nat)(root:Int)(ns:List Node)(hq:AHeap):Prop where
 low:hb.next<=b3
 o:∃(ver:Nat) (vo:AVal) (cs:List (List AVal)),hq.objs.get b3=some (ver,.cells false 24 [vo,.int .i64 root])/\Built hq hb.next 36 5 vo ns.length cs.flatten/\cs.length=ns.length/\∀(i:Nat) c n,cs[i]?=some c->ns[i]?=some n->OwnN hq hb.next c n
theorem RgI.other{hb:AHeap}{b3:Nat}{root:Int}{ns:List Node}{hq hr:AHeap}(I:RgI hb b3 root ns hq)(g:Grow hq hr):RgI hb b3 root ns hr:=by obtain⟨ver,vo,cs,h1,h2,h3,h4⟩:=I.o;exact⟨I.low,ver,vo,cs,g.keep _ _ h1,h2.grow g,h3,fun i c n hc hn=>OwnN_stay (h4 i c n hc hn) fun b p hb _=>g.keep _ _ hb⟩
theorem RgI.own{hb:AHeap}{b3:Nat}{root:Int}{ns:List Node}{hq:AHeap}(I:RgI hb b3 root ns hq):∃ver vo,hq.objs.get b3=some (ver,.cells false 24 [vo,.int .i64 root])/\OwnG hq hb.next (.agg [vo,.int .i64 root]) ⟨ns,root⟩:=by obtain⟨ver,vo,cs,h1,h2,h3,h4⟩:=I.o;exact⟨ver,vo,h1,vo,cs,rfl,h2,h3,h4⟩
theorem RgI.put{hb:AHeap}{b3 ver:Nat}{root:Int}{ns:List Node}{n:Node}{vo vo' av lv:AVal}{cs:List (List AVal)}{hq hs:AHeap}(low:hb.next<=b3)(h2:Built hq hb.next 36 5 vo ns.length cs.flatten)(h3:cs.length=ns.length)(h5:∀(i:Nat) c n,cs[i]?=some c->ns[i]?=some n->OwnN hq hb.next c n)
  (ka:Built hq hb.next 3 1 av n.args.length (n.args.map (AVal.int .i64))) (kl:Built hq hb.next 9 1 lv n.labels.length (n.labels.map AVal.str))
  (hs3:hs.objs.get b3=some (ver,.cells false 24 [vo',.int .i64 root])) (B:Built hs hb.next 36 5 vo' (ns.length+1) (cs++[[.int .i64 n.kind,.str n.name,av,lv,.bool n.isOpen]]).flatten)
  (hk:∀c p,hq.objs.get c=some p->(∀vs,p.2≠.cells false 36 vs)->c≠b3->hs.objs.get c=some p) (h17:∃v vs,hq.objs.get b3=some (v,.cells false 24 vs)):RgI hb b3 root (ns++[n]) hs:=by
 obtain⟨v17,af,ae⟩:=h17;have aa:∀{e:TypeId} {w:AVal} {k base:Nat} {cells:List AVal},e≠36->e≠24->Built hq base e 1 w k cells->Built hs base e 1 w k cells:=fun he ac kk=>zBG kk fun b p hb ⟨vs,hp⟩ _=>hk b p hb (fun vs' hh=>by rw[hp] at hh;cases hh;exact he rfl) (by
  rintro rfl;rw[ae] at hb;simp only[oI] at hb;rw[<-hb] at hp;cases hp;exact ac rfl)
 refine⟨low,ver,vo',cs++[[.int .i64 n.kind,.str n.name,av,lv,.bool n.isOpen]],hs3,by rw[zgL];exact B,by simp[h3],fun i c m hc hm=>?_⟩;rcases Nat.lt_or_ge i ns.length with hij|hij
 ·rw[List.getElem?_append_left (by omega)] at hc hm;obtain⟨ab,ad,q1,q2,q3⟩:=h5 i c m hc hm;exact⟨ab,ad,q1,aa (by decide) (by decide) q2,aa (by decide) (by decide) q3⟩
 ·rw[List.getElem?_append_right (by omega),h3] at hc;rw[List.getElem?_append_right (by omega)] at hm;obtain rfl:i=ns.length:=by
   have:=(zgS.1 hc).1;simp only[zlC,zlN] at this;omega
  rw[Nat.sub_self,zgZ,oI] at hc hm;subst hc;subst hm;exact⟨av,lv,rfl,aa (by decide) (by decide) ka,aa (by decide) (by decide) kl⟩
section
variable{fns:FnsT}{summ:SumT}
variable(H:Has fns summ)
include H
end
end Go.Ab.S
end
section
namespace Go.Ab.S
open Go Go.Ab
structure Few(n:Nat)(g:Graph):Prop where
 t:GTi g
 c:zAB g=0
 s:g.nodes.length+zAU [] g.nodes 0<=n
end Go.Ab.S
end
section
namespace Go.Ab.S
open Go Go.Ab
end Go.Ab.S
end
section
namespace Go.Ab.S
open Go Go.Ab
section
variable{fns:FnsT}{summ:SumT}{ro:Option Nat}
theorem zRA{d:Option Tmp}{l:List Step}{a:AAct}{h:AHeap}{K:AAct->AHeap->Prop}(k:St fns summ ro l (putA a d .slice0) h K):St fns summ ro (⟨d,none,.e .bslice0⟩::l) a h K:=
 st_t (by intro _ _ hh;cases hh) (by intro _ _ hh;cases hh) (v:=.slice0) (h':=h) rfl k
theorem zGJ{e:TypeId}{bytes sz:Nat}{d:Option Tmp}{x y:AOpd}{l:List Step}{a:AAct}{h:AHeap}{K:AAct->AHeap->Prop}{v:AVal}{xs:List (List AVal)}(hx:ev a x=some .slice0)(hy:ev a y=some v)(hv:SlAt h sz v xs)(hz:0<sz)(ho:xs.flatten.all one=true)(hr:zCd bytes xs.length=true)(w:WF h)
  (k:∀r h',Built h' h.next e sz r xs.length xs.flatten->Grow h h'->St fns summ ro l (putA a d r) h' K):St fns summ ro (⟨d,none,.e (.append e sz bytes x y)⟩::l) a h K:=by
 by_cases aa:xs=[]
 ·subst aa;have ab:lenA v=some 0:=by
   have:=hv.1;cases v<;>first|exact this|cases this
  refine st_t (by intro _ _ hh;cases hh) (by intro _ _ hh;cases hh) (v:=.slice0) (h':=h) ?_ (k _ _ (.inr (.inl ⟨rfl,rfl,rfl⟩)) (Grow.refl w));simp only[zBP,hx,hy,zDY,ab]
 ·exact zEt hx hy hv hz (.inr aa) ho hr w k
end
def RowV(h:AHeap)(vs:List AVal)(l:List Node):Prop:=l.length*5<=vs.length/\∀i n,l[i]?=some n->∃c,NodeAt h c n/\∀k,k<5->vs[i*5+k]?=c[k]?
theorem zFx{h:AHeap}{c:List AVal}{n:Node}(k:NodeAt h c n):c.length=5:=by obtain⟨_,_,rfl,_⟩:=k;rfl
theorem RowV.at{h h':AHeap}{vs:List AVal}{l:List Node}(k:RowV h vs l)(g:Grow h h'){b ver:Nat}{ro:Bool}{e:TypeId}(hb:h'.objs.get b=some (ver,.cells ro e vs)):NodesAt h' (.slice (some (b,0)) l.length) l:=by
 obtain⟨k1,k2⟩:=k;have aa:∀i n,l[i]?=some n->NodeAt h ((vs.drop (i*5)).take 5) n:=fun i n hn=>by
  obtain⟨c,hc,ac⟩:=k2 i n hn;have:(vs.drop (i*5)).take 5=c:=by
   apply List.ext_getElem?;intro m;have:=zFx hc;by_cases hm:m<5
   ·rw[List.getElem?_take,if_pos hm,List.getElem?_drop];exact ac m hm
   ·rw[List.getElem?_take,if_neg hm,List.getElem?_eq_none (by omega)]
  rw[this];exact hc
 refine⟨(List.range l.length).map fun i=>(vs.drop (i*5)).take 5,⟨by simp[lenO],fun i x hx=>?_⟩,by simp,fun i n c hn hc=>?_⟩
 ·simp only[zgM,Option.map_eq_some_iff,List.getElem?_range'] at hx;obtain⟨j,hj,rfl⟩:=hx;obtain⟨hjl,rfl⟩:=zgS.1 hj;rw[List.getElem_range];have ab:i<l.length:=by simpa using hjl
  exact⟨zFx (aa i _ (zgG ab)),b,0+i*5,ver,ro,e,vs,by simp[slA,ab],hb,by rw[Nat.zero_add]⟩
 ·simp only[zgM,Option.map_eq_some_iff] at hc;obtain⟨j,hj,rfl⟩:=hc;obtain⟨hjl,rfl⟩:=zgS.1 hj;rw[List.getElem_range];exact(aa i n hn).mono g
def RowM(hA hp:AHeap)(vs:List AVal)(l:List Node):Prop:=l.length*5<=vs.length/\∀(i:Nat) n,l[i]?=some n->∃c,NodeM hA hp c n/\∀k,k<5->vs[i*5+k]?=c[k]?
theorem RowM.stay{hA hp hq:AHeap}{vs:List AVal}{l:List Node}(k:RowM hA hp vs l)(hk:∀b p,hA.next<=b->hp.objs.get b=some p->(∃ws,p.2=.cells false 3 ws)->hq.objs.get b=some p):RowM hA hq vs l:=
 ⟨k.1,fun i n hn=>by
  obtain⟨c,h1,h2⟩:=k.2 i n hn;exact⟨c,h1.stay hk,h2⟩⟩
theorem RowM.set{hA hp:AHeap}{vs vs':List AVal}{l:List Node}(k:RowM hA hp vs l){j:Nat}{n:Node}(hj:j<l.length)(hl:vs'.length=vs.length)(hn:∃c,NodeM hA hp c n/\∀k,k<5->vs'[j*5+k]?=c[k]?)(ho:∀i,i<j*5\/j*5+5<=i->vs'[i]?=vs[i]?):RowM hA hp vs' (l.set j n):=by
 refine⟨by rw[List.length_set,hl];exact k.1,fun i m hm=>?_⟩;by_cases hij:j=i
 ·subst hij;rw[List.getElem?_set_self hj] at hm;cases hm;exact hn
 ·rw[List.getElem?_set_ne hij] at hm;obtain⟨c,hc,aa⟩:=k.2 i m hm;refine⟨c,hc,fun q hq=>?_⟩;rw[<-aa q hq];exact ho _ (by omega)
theorem RowM.nodes{hA hp:AHeap}{vs:List AVal}{l:List Node}(k:RowM hA hp vs l)(g:Grow hA hp){b ver:Nat}{ro:Bool}{e:TypeId}(hb:hp.objs.get b=some (ver,.cells ro e vs)):NodesAt hp (.slice (some (b,0)) l.length) l:=
 RowV.at (h:=hp) ⟨k.1,fun i n hn=>by
  obtain⟨c,h1,h2⟩:=k.2 i n hn;exact⟨c,h1.at g,h2⟩⟩ (Grow.refl g.wf) hb
theorem zMA(l:List Int):(l.map (AVal.int .i64)).all one=true:=by rw[List.all_eq_true];intro x hx;obtain⟨p,_,rfl⟩:=List.mem_map.1 hx;rfl
end Go.Ab.S
end
section
namespace Go.Ab.S
open Go Go.Ab
def CaseU(g:Graph)(ps:List Pr)(code:Int):Prop:=(code=zAB g/\code≠0)\/(zAB g=0/\code=2/\∃p∈ps,zBn g p=false)\/(zAB g=0/\code=8/\(∀p∈ps,zBn g p=true)/\¬Consi g ps)\/(zAB g=0/\code=0/\(∀p∈ps,zBn g p=true)/\Consi g ps)
theorem CaseU.one{g:Graph}{ps qs:List Pr}{c d:Int}(hr:(∀p∈qs,zBn g p=true)↔∀p∈ps,zBn g p=true)(hc:Consi g ps↔Consi g qs)(h1:CaseU g ps c)(h2:CaseU g qs d):c=d:=by
 have no:∀l:List Pr,(∃p∈l,zBn g p=false)->¬∀p∈l,zBn g p=true:=fun l ⟨p,h1,h2⟩ h=>by rw[h p h1] at h2;cases h2
 rcases h1 with⟨a1,a2⟩|⟨a1,a2,a3⟩|⟨a1,a2,a3,a4⟩|⟨a1,a2,a3,a4⟩<;>rcases h2 with⟨b1,b2⟩|⟨b1,b2,b3⟩|⟨b1,b2,b3,b4⟩|⟨b1,b2,b3,b4⟩<;>first
  |(rw[a1,b1];done)
  |(rw[a2,b2];done)
  |exact absurd (a1.trans b1) a2
  |exact absurd (b1.trans a1) b2
  |exact absurd (hr.2 a3) (no _ b3)
  |exact absurd (hr.1 b3) (no _ a3)
  |exact absurd (hc.2 b4) a4
  |exact absurd (hc.1 a4) b4
section
variable{g U V D X:Graph}{ps qs:List Pr}{R S R1 RX:List Int}{k:Nat}
theorem zPH{p:Pr}:zBn g p=true↔InG g p.1/\InG g p.2:=by simp only[zBn,decide_eq_true_eq,InG];omega
theorem ord_sm(f:Few 300 g)(O:UOut g ps U R):GTi U/\zAU [] U.nodes 0<=90000/\U.nodes.length<=300/\∀qs X RX,UOut U qs X RX->GTi X:=by
 have hs:=f.s;have hl:=zDG f.c;have cU:=O.check f.c;have B:Bd 300 (zGn g) g:=(Bd.self g).mono (by omega) fun _ h=>h;have BU:=B.uni f.c O;have hT:=zGQ f.t.toGraphSm;have hN:U.nodes.length<=300:=by rw[O.lenU];omega
 have hL:=BU.left cU;have hm:max 300 (zGn g).length=300:=by omega
 rw[hm] at hL;refine⟨BU.gti cU (by omega) (by decide) (by omega) hT,?_,hN,fun qs X RX OX=>?_⟩
 ·calc zAU [] U.nodes 0<=U.nodes.length*300:=hL
   _<=300*300:=Nat.mul_le_mul_right _ hN
   _=90000:=rfl
 ·exact(BU.uni cU OX).gti (OX.check cU) (by rw[OX.lenU];omega) (by decide) (by omega) hT
end
end Go.Ab.S
end
section
namespace Go.Ab.S
open Go Go.Ab
def Frm(h:AHeap)(e:TypeId)(v:AVal)(n:Nat):Prop:=v=.slice none 0\/v=.slice0\/∃b ver ro vs,v=.slice (some (b,0)) n/\h.objs.get b=some (ver,.cells ro e vs)
theorem Frm.mono{h h':AHeap}{e:TypeId}{v:AVal}{n:Nat}(k:Frm h e v n)(g:Grow h h'):Frm h' e v n:=by
 rcases k with k|k|⟨b,ver,ro,vs,h1,h2⟩
 ·exact .inl k
 ·exact .inr (.inl k)
 ·exact .inr (.inr ⟨b,ver,ro,vs,h1,g.keep _ _ h2⟩)
section
variable{h:AHeap}{sz:Nat}{xs:List (List AVal)}{b:Nat}
theorem zDX{v:AVal}(k:lenO v=some 0):SlAt h sz v []:=⟨k,fun i x hx=>by simp at hx⟩
theorem zSf(k:SlAt h sz (.slice (some (b,0)) xs.length) xs){j:Nat}:SlAt h sz (.slice (some (b,j*sz)) (xs.length - j)) (xs.drop j):=by refine⟨by simp[lenO],fun i x hx=>?_⟩;rw[List.getElem?_drop] at hx;obtain⟨h1,b',o,ver,ro,e,vs,h2,h3,h4⟩:=k.2 _ x hx;have hi:j+i<xs.length:=(zgS.1 hx).1;refine⟨h1,b',o,ver,ro,e,vs,?_,h3,h4⟩;simp only[slA,if_pos hi] at h2;simp only[slA,if_pos (show i<xs.length - j by omega)];rw[<-h2,Nat.add_mul];congr 2;omega
theorem sl_to(k:SlAt h sz (.slice (some (b,0)) xs.length) xs){j:Nat}(hj:j<=xs.length):SlAt h sz (.slice (some (b,0)) j) (xs.take j):=by
 refine⟨by simp[lenO];omega,fun i x hx=>?_⟩;have hij:i<j:=by have:=(zgS.1 hx).1;simp at this;omega
 rw[List.getElem?_take,if_pos hij] at hx;obtain⟨h1,b',o,ver,ro,e,vs,h2,h3,h4⟩:=k.2 _ x hx;refine⟨h1,b',o,ver,ro,e,vs,?_,h3,h4⟩;simp only[slA,if_pos (show i<xs.length by omega)] at h2;simp only[slA,if_pos hij];exact h2
end
section
variable{fns:FnsT}{summ:SumT}{ro:Option Nat}
variable{d:Option Tmp}{e:TypeId}{sz k:Nat}{kd:IntKind}{x y:AOpd}{l:List Step}{a:AAct}{h:AHeap}{K:AAct->AHeap->Prop}{v:AVal}{xs:List (List AVal)}
theorem zTe(hx:ev a x=some v)(hv:SlAt h sz v xs)(hf:Frm h e v xs.length)(hy:ev a y=some (.int kd (k:Nat)))(hk:k<=xs.length):∃r,qA a h (.slice e sz x (some y) none)=some (r,none)/\SlAt h sz r (xs.drop k):=by
 rcases hf with rfl|rfl|⟨b,ver,rb,vs,rfl,hb⟩
 ·have aa:xs=[]:=by have:=hv.1;simp only[lenO,oI] at this;exact List.length_eq_zero_iff.1 this.symm
  subst aa;obtain rfl:k=0:=by simpa using hk
  refine⟨.slice none 0,?_,zDX rfl⟩;simp only[zBJ,hx,zBB,hy];rfl
 ·have aa:xs=[]:=by have:=hv.1;simp only[lenO,oI] at this;exact List.length_eq_zero_iff.1 this.symm
  subst aa;obtain rfl:k=0:=by simpa using hk
  refine⟨.slice0,?_,zDX rfl⟩;simp only[zBJ,hx,zBB,hy];rfl
 ·by_cases h0:k=0
  ·subst h0;refine⟨.slice (some (b,0)) xs.length,?_,by rw[zlZ];exact hv⟩;simp only[zBJ,hx,zBB,hy];simp
  ·have hc:(0:Int)<=(k:Nat)/\k<=xs.length:=⟨by omega,hk⟩;by_cases ab:k<xs.length
   ·refine⟨.slice (some (b,k*sz)) (xs.length - k),?_,zSf hv⟩;simp only[zBJ,hx,zBB,hy,Int.toNat_natCast,if_pos hc,hb,if_true,Nat.zero_add];obtain⟨m,rfl⟩:∃m,k=m+1:=⟨k - 1,by omega⟩;simp only[if_pos ab]
   ·have ac:k=xs.length:=by omega
    refine⟨.sliceE,?_,by rw[ac,List.drop_length];exact zDX rfl⟩;simp only[zBJ,hx,zBB,hy,Int.toNat_natCast,if_pos hc];obtain⟨m,rfl⟩:∃m,k=m+1:=⟨k - 1,by omega⟩;simp only[if_neg ab]
theorem q_to(hx:ev a x=some v)(hv:SlAt h sz v xs)(hf:Frm h e v xs.length)(hy:ev a y=some (.int kd (k:Nat)))(hk:k<=xs.length):∃r,qA a h (.slice e sz x none (some y))=some (r,none)/\SlAt h sz r (xs.take k):=by
 rcases hf with rfl|rfl|⟨b,ver,rb,vs,rfl,hb⟩
 ·have aa:xs=[]:=by have:=hv.1;simp only[lenO,oI] at this;exact List.length_eq_zero_iff.1 this.symm
  subst aa;obtain rfl:k=0:=by simpa using hk
  refine⟨.slice none 0,?_,zDX rfl⟩;simp only[zBJ,hx,zBB,hy];rfl
 ·have aa:xs=[]:=by have:=hv.1;simp only[lenO,oI] at this;exact List.length_eq_zero_iff.1 this.symm
  subst aa;obtain rfl:k=0:=by simpa using hk
  refine⟨.slice0,?_,zDX rfl⟩;simp only[zBJ,hx,zBB,hy];rfl
 ·refine⟨.slice (some (b,0)) k,?_,sl_to hv hk⟩;have hc:(0:Int)<=(k:Nat)/\k<=xs.length:=⟨by omega,hk⟩;simp only[zBJ,hx,zBB,hy,Int.toNat_natCast,if_pos hc]
theorem zOE{i p:Nat}{hs:List Held}{l:List DStep}(hx:ev a x=some v)(hv:SlAt h sz v xs)(hf:Frm h e v xs.length)(hy:ev a y=some (.int kd (k:Nat)))(hk:k<=xs.length)(kk:∀r,SlAt h sz r (xs.drop k)->Dr fns summ ro l hs (putA a d r) h K):Dr fns summ ro (⟨i,p,⟨d,none,.q (.slice e sz x (some y) none)⟩⟩::l) hs a h K:=by obtain⟨r,h1,h2⟩:=zTe hx hv hf hy hk;exact dr_q h1 (kk r h2)
theorem zTH{i p:Nat}{hs:List Held}{l:List DStep}(hx:ev a x=some v)(hv:SlAt h sz v xs)(hf:Frm h e v xs.length)(hy:ev a y=some (.int kd (k:Nat)))(hk:k<=xs.length)(kk:∀r,SlAt h sz r (xs.take k)->Dr fns summ ro l hs (putA a d r) h K):Dr fns summ ro (⟨i,p,⟨d,none,.q (.slice e sz x none (some y))⟩⟩::l) hs a h K:=by obtain⟨r,h1,h2⟩:=q_to hx hv hf hy hk;exact dr_q h1 (kk r h2)
theorem zJK{base bytes n:Nat}{cells:List AVal}{u:AVal}(hs:ev a x=some v)(hy:ev a y=some u)(B:Built h base e sz v n cells)(hu:SlAt h sz u xs)(hz:0<sz)(ho:xs.flatten.all one=true)(hr:zCd bytes (n+xs.length)=true)(w:WF h)(hbase:base<=h.next)
  (k:∀v' h',Built h' base e sz v' (n+xs.length) (cells++xs.flatten)->WF h'->h.next<=h'.next->(∀h0,WF h0->Grow h0 h->h0.next<=base->Grow h0 h')->(∀c p,h.objs.get c=some p->(∀n,v≠.slice (some (c,0)) n)->h'.objs.get c=some p)->St fns summ ro l (putA a d v') h' K):
  St fns summ ro (⟨d,none,.e (.append e sz bytes x y)⟩::l) a h K:=by
 rcases Nat.eq_zero_or_pos xs.length with h0|h0
 ·have ab:xs=[]:=List.length_eq_zero_iff.1 h0;subst ab;have aa:lenA u=some 0:=by
   have:=hu.1;cases u<;>first|exact this|cases this
  refine st_t (by intro _ _ hh;cases hh) (by intro _ _ hh;cases hh) (v:=v) (h':=h) ?_ (k _ _ (by simpa using B) w (Nat.le_refl _) (fun _ _ g _=>g) fun _ _ p _=>p);rcases B with⟨rfl,_⟩|⟨rfl,_⟩|⟨_,_,_,_,rfl,_⟩<;>simp only[zBP,hs,hy,zDY,aa]
 ·rcases zGA hu.1 with rfl|⟨b,o,rfl⟩|⟨_,hh⟩|⟨_,hh⟩
  ·obtain⟨_,b,o,ver,ro,e,vs,h1,_⟩:=hu.2 0 _ (zgG h0);cases h1
  ·obtain⟨_,ver,rb,eb,vs,h2,h3,h4,h5⟩:=SlAt_cells hu h0 hz;refine zIS hs hy B (m:=xs.length) rfl h0 (new:=xs.flatten) ?_ ho hr h5 w hbase fun v' h' B' _ w' n' g kp=>k v' h' B' w' n' g kp;simp only[zEW,h2,if_pos h3,h4]
  ·omega
  ·omega
end
def zEs:Graph:=⟨[],0⟩
theorem zDu(h:AHeap):GraphAt h (.agg [.slice none 0,.int .i64 0]) zEs:=⟨.slice none 0,rfl,⟨[],⟨rfl,fun i x hx=>by simp at hx⟩,rfl,fun i n c hn=>by simp[zEs] at hn⟩⟩
section
variable{fns:FnsT}{summ:SumT}
variable(H:Has fns summ)(HS:HasSort summ)(HA:HasAs summ)
include H HS HA
end
end Go.Ab.S
end
section
namespace Go.Ab.S
open Go Go.Ab
theorem zPk(j:Nat):allN (j+1)=allN j++[(j:Int)]:=by simp[allN,List.range_succ]
theorem zJP(l:List (List Nat)):(l.map AVal.str).all one=true:=by rw[List.all_eq_true];intro x hx;obtain⟨p,_,rfl⟩:=List.mem_map.1 hx;rfl
section
variable{fns:FnsT}{summ:SumT}
variable(H:Has fns summ)
include H
theorem zPE{N:Nat}(hN:N<=2 ^ 20)(h1N:0<N){nv:AVal}(hl:lenO nv=some N)(h:AHeap)(w:WF h):
  Cl fns summ 32 [nv] h fun r h'=>∃c rb,r=.ptr (some (c,0))/\Grow h h'/\h.next<=c/\h.next<=rb/\ClsAt h' c rb nv N (allN N):=by
 have hone:=zAD hl;have e20:(2:Nat) ^ 20=1048576:=by decide
 refine H.go (fn:=F_rNew08) rfl (by decide) rfl rfl ?_;unfold F_rNew08;dsimp only[qQ,qE,tm,mt,lo,fa,jv,js,je,jo,jR,jS,jL];refine zAu (zAz ?_);repeat refine zR ?_
 refine st_q (v:=.agg [nv,.slice none 0]) (b:=none) (by rw[zBF];simp only[zCV,zAl,zAo,zAw,if_true,if_false,Nat.reduceEqDiff,zAO hl];rfl) ?_;refine zAr e1 (cs:=[nv,.slice none 0]) (by first|exact cc|rfl) w ?_;rintro b h1 hb g1 o1;repeat refine zR ?_
 refine zAp (N:=N) (fun j a hp=>∃rv,(∃v,hp.objs.get b=some (v,.cells false 74 [nv,rv]))/\Hid (Built hp h.next 3 1 rv j ((allN j).map (AVal.int .i64)))/\Hid (Grow h hp)/\a.defers=[]/\ev a (.tmp 3)=some (.ptr (some (b,0)))) ?_ ?_ ⟨_,⟨_,o1⟩,⟨.inl ⟨rfl,rfl,rfl⟩⟩,⟨g1⟩,n1,e1⟩
 ·clear o1;rintro j a hp hj ⟨rv,⟨v,o⟩,B,G,hd,t3'⟩ hi hn;have hlv:=B.out.len;have wp:=G.out.wf;repeat refine zR ?_
  refine zAT e1 (cs:=[.int .i64 (j:Nat)]) rfl rfl rfl wp ?_;rintro bx h2 hbx g2 ox;have o2:=g2.keep _ _ o;have B2:=B.out.grow g2;have nG:=G.out.next;have n2':=g2.next;refine zAZ e1 e1 B2 ox rfl rfl (zBN H (b:=8) (k:=j+1) (by decide) (by omega)) g2.wf (by omega) ?_;rintro rv' h3 B3 f3 w3 n3 gr3 kp3;have o3:=kp3 _ _ o2 (zAE B2 o2 fun vs hh=>by cases hh);have G3:=gr3 h w (G.out.trans g2) (Nat.le_refl _);have hl3:=B3.len;have B3':Hid (Built h3 h.next 3 1 rv' (j+1) ((allN (j+1)).map (AVal.int .i64))):=⟨by rw[zPk,List.map_append];exact B3⟩;clear o o2 ox g2 B2 B3 f3 gr3 kp3;repeat refine zR ?_
  refine zAC e1 e1 (zAO hl3) rfl w3 o3 (by simp) (by simp only[List.all_cons,List.all_nil,zAD hl3,Bool.and_true]) ?_;rintro v4 h4 p4 o4;simp only[lL,Nat.reduceAdd] at o4;have B4:Hid (Built h4 h.next 3 1 rv' (j+1) ((allN (j+1)).map (AVal.int .i64))):=⟨zAG B3'.out p4 o3 fun vs hh=>by cases hh⟩;have G4:Hid (Grow h h4):=⟨p4.grow h w G3 hb⟩;clear p4 o3 G3 B3';repeat refine zR ?_
  exact⟨⟨_,⟨_,o4⟩,B4,G4,n1,e1⟩,e1,e1⟩
 ·clear o1;rintro a hp ⟨rv,⟨v,o⟩,B,G,hd,t3'⟩;have hfin:Hid (∃rb,h.next<=rb/\ClsAt hp b rb nv N (allN N)):=⟨by
   rcases B.out with⟨_,hh,_⟩|⟨_,hh,_⟩|⟨rb,vs,ver,h0,rfl,hg,hl',ht⟩
   ·omega
   ·omega
   ·rw[Nat.mul_one] at hl' ht;exact⟨rb,h0,⟨v,o⟩,ver,vs,hg,ht,hl'⟩⟩
  repeat refine zG ?_
  obtain⟨rb,k1,k2⟩:=hfin.out;exact⟨b,rb,rfl,G.out,hb,k1,k2⟩
theorem zMp(n:Node)(hn:n.args.length<=2 ^ 20)(hnl:n.labels.length<=2 ^ 20)(T:List Int)(hT:∀a∈n.args,0<=a/\a<T.length)(av lv tv:AVal)(h:AHeap)(w:WF h)(ha:IntsAt h av n.args)(hl:StrsAt h lv n.labels)(ht:IntsAt h tv T):
  Cl fns summ 59 [zBf n av lv,tv] h fun r h'=>Grow h h'/\∃av' lv',r=zBf {n with args:=n.args.map (clAt T)} av' lv'/\Built h' h.next 3 1 av' n.args.length ((n.args.map (clAt T)).map (AVal.int .i64))/\Built h' h.next 9 1 lv' n.labels.length (n.labels.map AVal.str):=by
 have hla:=ha.len;have hll:=hl.len;have onea:=zAD hla;have onel:=zAD hll;have e20:(2:Nat) ^ 20=1048576:=by decide
 unfold zBf;refine H.go (fn:=F_rCopy) rfl (by decide) rfl rfl ?_;unfold F_rCopy;dsimp only[qQ,qE,tm,mt,lo,fa,jv,jl,js,ji,je,jo,jN,jR,jS,jL];refine zAu (zAz ?_);refine zAr e1 cc w ?_;rintro b2 h1 hb2 g1 o2;refine zAM g1.wf ?_;rintro b4 h2 hb4 g2 o4;have o22:=g2.keep _ _ o2;have g02:=g1.trans g2;have ht5:∀p q r s t:AVal,List.take 5 [p,q,r,s,t]=[p,q,r,s,t]:=fun _ _ _ _ _=>rfl;have n1x:=g1.next;clear o2 g1 g2;repeat refine zR ?_
 refine zAS (zRA ?_);refine zAK ⟨by simp[zAJ,Nat.testBit,o22],?_⟩;refine zAS (zGJ e1 (v:=lv) e1 (hl.mono g02) (by decide) (by rw[zCy];exact zJP _) (by rw[List.length_map];exact zBN H (b:=16) (k:=n.labels.length) (by decide) (by omega)) g02.wf ?_);intro lw h3 B3 g3;rw[List.length_map,zCy] at B3;have k23:=g3.keep _ _ o22;have k43:=g3.keep _ _ o4;refine zAK ⟨by simp[zAJ,Nat.testBit,k23],?_⟩;have llw:=B3.len;have onew:=zAD llw;have g03:=g02.trans g3;have n3x:=g3.next;have n02:=g02.next;replace B3:=Hid.mk (zAW B3 n02);clear o22 o4 g3;refine dr_q (v:=.agg [.int .i64 n.kind,.str n.name,.slice none 0,lw,.bool n.isOpen]) (by rw[zBF];simp only[zCV,zAl,zAo,zAw,if_true,if_false,Nat.reduceEqDiff,zAO llw];rfl) ?_;refine zAS (zAM g03.wf ?_);rintro b5 h4 hb5 g4 o5;have k24:=g4.keep _ _ k23;have k44:=g4.keep _ _ k43;refine zAK ⟨by simp[zAJ,Nat.testBit,k24],?_⟩;have l24:=g03.wf.lt k23;have l44:=g03.wf.lt k43;refine zAS (zAC (v:=.agg [.int .i64 n.kind,.str n.name,.slice none 0,lw,.bool n.isOpen]) e1 e1 (cs:=[.int .i64 n.kind,.str n.name,.slice none 0,lw,.bool n.isOpen]) rfl rfl g4.wf o5 (by simp) (by simp only[List.all_cons,List.all_nil,onew,Bool.true_and,Bool.and_true];rfl) ?_);rintro v5 h5 p5 o5';have k25:=p5.keep b2 (by omega) _ k24;have k45:=p5.keep b4 (by omega) _ k44;refine zAK ⟨by simp[zAJ,Nat.testBit,k25],?_⟩;simp only[lL,Nat.reduceAdd] at o5';have n4x:=g4.next;have g05:Grow h h5:=p5.grow h w (g03.trans g4) (by omega);have B5:Hid (Built h5 h.next 9 1 lw n.labels.length (n.labels.map AVal.str)):=⟨zAG (B3.out.grow g4) p5 o5 fun vs hh=>by cases hh⟩;have g05':=Hid.mk g05;have hb5':h.next<=b5/\h.next<=b4/\b4≠b5:=by omega
 clear k23 k43 k24 k44 o5 p5 g4 g03 B3 g02 hll;repeat refine zR ?_
 have A0:Hid (Built h5 h.next 3 1 (.slice none 0) 0 (((n.args.take 0).map (clAt T)).map (AVal.int .i64))):=⟨.inl ⟨rfl,rfl,rfl⟩⟩;refine zAp (N:=n.args.length) (fun j a hp=>∃rv,(∃v,hp.objs.get b5=some (v,.cells false 36 [.int .i64 n.kind,.str n.name,rv,lw,.bool n.isOpen]))/\(∃v,hp.objs.get b4=some (v,.cells false 36 [.int .i64 0,.str [],.slice none 0,.slice none 0,.bool false]))/\Hid (Built hp h.next 3 1 rv j (((n.args.take j).map (clAt T)).map (AVal.int .i64)))/\Hid (Built hp h.next 9 1 lw n.labels.length (n.labels.map AVal.str))/\Hid (Grow h hp)/\a.defers=[]/\ev a (.tmp 1)=some tv/\ev a (.tmp 4)=some (.ptr (some (b4,0)))/\ev a (.tmp 5)=some (.ptr (some (b5,0)))/\ev a (.tmp 20)=some av) ?_ ?_ ⟨_,⟨_,o5'⟩,⟨_,k45⟩,A0,B5,g05',n1,e1,e1,e1,e1⟩
 ·clear o5' k45 A0 B5 g05' g05 k25;rintro j a hp hj ⟨rv,⟨v,o5⟩,⟨v4,o4⟩,A,B,G,hd,t1',t4',t5',t20'⟩ hi hn';obtain⟨ba,oa,vera,ra,ea,vsa,hixa,hga0,hva⟩:=ha.at (zgG hj);have hga:=G.out.keep _ _ hga0;obtain⟨z1,z2⟩:=hT n.args[j] (List.getElem_mem hj);obtain⟨z,hz⟩:∃z:Nat,n.args[j]=z:=⟨n.args[j].toNat,by omega⟩;rw[hz] at hva z2;have hzl:z<T.length:=by omega
  obtain⟨bt,ot,vert,rt,et,vst,hixt,hgt0,hvt⟩:=ht.at (zgG hzl);have hgt:=G.out.keep _ _ hgt0;have hcl:Hid (clAt T n.args[j]=T[z]):=⟨by rw[hz,zBE,List.getD,zgG hzl];rfl⟩;have hlv:=A.out.len;have wp:=G.out.wf;have ltt:=w.lt hgt0;clear z1 z2 hz hga0 hgt0;repeat refine zR ?_
  refine zAS (zAT e1 (cs:=[.int .i64 T[z]]) rfl rfl rfl wp ?_);rintro bx h6 hbx g6 ox;have a5:=g6.keep _ _ o5;have a4:=g6.keep _ _ o4;have at':=g6.keep _ _ hgt;refine zAK ⟨by simp[zAJ,Nat.testBit,a5,at'],?_⟩;have A6:=A.out.grow g6;have n6:=g6.next;have nG:=G.out.next;refine zAS (zAZ e1 e1 A6 ox rfl rfl (zBN H (b:=8) (k:=j+1) (by decide) (by omega)) g6.wf (by omega) ?_);rintro rv' h7 A7 f7 w7 n7 gr7 kp7;have c5:=kp7 _ _ a5 (zAE A6 a5 fun vs hh=>by cases hh);have c4:=kp7 _ _ a4 (zAE A6 a4 fun vs hh=>by cases hh);have ct:=kp7 _ _ at' (fun m hh=>by have:=zCo A6 hh;omega);refine zAK ⟨by simp[zAJ,Nat.testBit,c5,ct],?_⟩;have G7:=gr7 h w (G.out.trans g6) (Nat.le_refl _);have B7:Hid (Built h7 h.next 9 1 lw n.labels.length (n.labels.map AVal.str)):=⟨zAR (B.out.grow g6) fun c' p _ hc ⟨vs,hp⟩=>kp7 c' p hc (zAE A6 hc fun vs' hh=>by rw[hp] at hh;cases hh)⟩;have hl7:=A7.len;have A7':Hid (Built h7 h.next 3 1 rv' (j+1) (((n.args.take (j+1)).map (clAt T)).map (AVal.int .i64))):=⟨by
   rw[List.take_succ_eq_append_getElem hj,List.map_append,List.map_append];simp only[List.map_cons,List.map_nil,hcl.out];exact A7⟩
  clear o5 o4 hgt a5 a4 at' ox g6 A6 A7 f7 gr7 kp7 A B hga;repeat refine zR ?_
  refine zAS (zAC e1 e1 (zAO hl7) rfl w7 c5 (by simp) (by simp only[List.all_cons,List.all_nil,zAD hl7,Bool.and_true]) ?_);rintro v8 h8 p8 o8;refine zAK ⟨by simp[zAJ,Nat.testBit],?_⟩;simp only[lL,Nat.reduceAdd] at o8;have A8:Hid (Built h8 h.next 3 1 rv' (j+1) (((n.args.take (j+1)).map (clAt T)).map (AVal.int .i64))):=⟨zAG A7'.out p8 c5 fun vs hh=>by cases hh⟩;have B8:Hid (Built h8 h.next 9 1 lw n.labels.length (n.labels.map AVal.str)):=⟨zAG B7.out p8 c5 fun vs hh=>by cases hh⟩;have G8:Hid (Grow h h8):=⟨p8.grow h w G7 hb5'.1⟩;have c48:=p8.keep b4 hb5'.2.2 _ c4;clear c5 c4 ct p8 A7' B7 G7;repeat refine zR ?_
  exact⟨⟨_,⟨_,o8⟩,⟨_,c48⟩,A8,B8,G8,n1,e1,e1,e1,e1⟩,e1,e1⟩
 ·clear o5' k45 A0 B5 g05' g05 k25;rintro a hp ⟨rv,⟨v,o5⟩,⟨v4,o4⟩,A,B,G,hd,t1',t4',t5',t20'⟩;rw[List.take_length] at A;have oner:=zAD A.out.len;have wp:=G.out.wf;repeat refine zR ?_
  refine zAC (v:=.agg [.int .i64 n.kind,.str n.name,rv,lw,.bool n.isOpen]) e1 e1 (cs:=[.int .i64 n.kind,.str n.name,rv,lw,.bool n.isOpen]) rfl rfl wp o4 (by simp) (by simp only[List.all_cons,List.all_nil,onew,oner,Bool.true_and,Bool.and_true];rfl) ?_;rintro v9 h9 p9 o9;simp only[lL,Nat.reduceAdd] at o9;have hfin:Hid (Grow h h9/\Built h9 h.next 3 1 rv n.args.length ((n.args.map (clAt T)).map (AVal.int .i64))/\Built h9 h.next 9 1 lw n.labels.length (n.labels.map AVal.str)):=⟨p9.grow h w G.out hb5'.2.1,zAG A.out p9 o4 fun vs hh=>(by cases hh),zAG B.out p9 o4 fun vs hh=>by cases hh⟩;clear p9 o4 o5 A B G;repeat refine zG ?_
  exact⟨hfin.out.1,rv,lw,rfl,hfin.out.2⟩
end
end Go.Ab.S
end
section
namespace Go.Ab.S
open Go Go.Ab
section
variable{g:Graph}{ps:List Pr}{R:List Int}{S S':Int->Nat->Prop}{ls:List (List Nat)}{as:List Int}{r kd:Int}{op:Bool}{i k:Nat}{s:List Nat}
theorem NL.cong(N:NL g R S ls as)(h:∀m q l,(zAA g m).labels[q]?=some l->(S' m q↔S m q)):NL g R S' ls as:=by
 refine⟨N.len,N.rises,fun l=>?_,fun i l hi=>?_⟩
 ·rw[N.labels];exact⟨fun ⟨m,q,a,b⟩=>⟨m,q,(h m q l b).2 a,b⟩,fun ⟨m,q,a,b⟩=>⟨m,q,(h m q l b).1 a,b⟩⟩
 ·obtain⟨m,q,a,b,c⟩:=N.args i l hi;exact⟨m,q,(h m q l b).2 a,b,c⟩
theorem NL.sub(N:NL g R S ls as)(hS:∀m q,S m q->InG g m):ls.length<=(zGn g).length:=by refine zBv ls (zGn g) (zFW N.rises) fun l hl=>?_;obtain⟨m,q,a,b⟩:=(N.labels l).1 hl;exact List.mem_flatMap.2 ⟨zAA g m,zDe (hS m q a),List.mem_of_getElem? b⟩
def NS(g:Graph)(R:List Int)(r:Int)(i:Nat)(m:Int)(_:Nat):Prop:=InG g m/\m<i/\clAt R m=r/\(zAA g m).kind=3
structure NodeI(g:Graph)(R:List Int)(r:Int)(i:Nat)(kd:Int)(op:Bool)(ls:List (List Nat))(as:List Int):Prop where
 con:∀m,InG g m->m<i->clAt R m=r->(zAA g m).kind≠2
 nl:NL g R (NS g R r i) ls as
 kd:(kd=1/\∀m,InG g m->m<i->clAt R m=r->(zAA g m).kind≠3)\/(kd=3/\∃m,InG g m/\m<i/\clAt R m=r/\(zAA g m).kind=3)
 op:op=true↔∀m,InG g m->m<i->clAt R m=r->(zAA g m).kind=3->(zAA g m).isOpen=true
theorem NodeI.start:NodeI g R r 0 1 true [] []:=
 ⟨fun m h h'=>by have:=h.1;omega,NL.nil fun m q h=>by have:=h.1.1;have:=h.2.1;omega,.inl ⟨rfl,fun m h h'=>by have:=h.1;omega⟩,⟨fun _ m h h'=>by have:=h.1;omega,fun _=>rfl⟩⟩
theorem NodeI.skip(I:NodeI g R r i kd op ls as)(h:clAt R (i:Int)≠r\/(zAA g (i:Int)).kind=1):NodeI g R r (i+1) kd op ls as:=by
 have aa:∀m:Int,m=i->clAt R m=r->(zAA g m).kind≠2/\(zAA g m).kind≠3:=fun m hm hr=>by
  subst hm;rcases h with h|h
  ·exact absurd hr h
  ·omega
 refine⟨fun m h h' hr=>?_,I.nl.cong fun m q l _=>?_,?_,?_⟩
 ·by_cases hm:m=i
  ·exact(aa m hm hr).1
  ·exact I.con m h (by omega) hr
 ·refine⟨fun ⟨a,b,c,d⟩=>⟨a,?_,c,d⟩,fun ⟨a,b,c,d⟩=>⟨a,by omega,c,d⟩⟩;by_cases hm:m=i
  ·exact absurd d (aa m hm c).2
  ·omega
 ·rcases I.kd with⟨k1,k2⟩|⟨k1,m,k2,k3,k4⟩
  ·refine .inl ⟨k1,fun m h h' hr=>?_⟩;by_cases hm:m=i
   ·exact(aa m hm hr).2
   ·exact k2 m h (by omega) hr
  ·exact .inr ⟨k1,m,k2,by omega,k4⟩
 ·rw[I.op];refine⟨fun q m h h' hr h3=>?_,fun q m h h' hr h3=>q m h (by omega) hr h3⟩;by_cases hm:m=i
  ·exact absurd h3 (aa m hm hr).2
  ·exact q m h (by omega) hr h3
theorem NodeI.con2(hi:i<g.nodes.length)(h1:clAt R (i:Int)=r)(h2:(zAA g (i:Int)).kind=2):NodeR g R r {zAA g (i:Int) with args:=(zAA g (i:Int)).args.map (clAt R)}:=
 .inl ⟨i,⟨by omega,by omega⟩,h1,h2,rfl⟩
def NT(g:Graph)(R:List Int)(r:Int)(i k:Nat)(m:Int)(q:Nat):Prop:=NS g R r i m q\/(m=i/\q<k)
theorem NodeI.open(I:NodeI g R r i kd op ls as):NL g R (NT g R r i 0) ls as:=I.nl.cong fun m q l _=>⟨fun h=>by rcases h with h|h;exact h;omega,.inl⟩
theorem NT.next(m:Int)(q:Nat):NT g R r i (k+1) m q↔NT g R r i k m q\/(m=i/\q=k):=by
 constructor
 ·rintro (h|⟨h,h'⟩)
  ·exact .inl (.inl h)
  ·by_cases hq:q=k
   ·exact .inr ⟨h,hq⟩
   ·exact .inl (.inr ⟨h,by omega⟩)
 ·rintro ((h|⟨h,h'⟩)|⟨h,h'⟩)
  ·exact .inl h
  ·exact .inr ⟨h,by omega⟩
  ·exact .inr ⟨h,by omega⟩
theorem NodeI.shut(I:NodeI g R r i kd op ls as)(hi:i<g.nodes.length)(h1:clAt R (i:Int)=r)(h3:(zAA g (i:Int)).kind=3){ls':List (List Nat)}{as':List Int}(N:NL g R (NT g R r i (zAA g (i:Int)).labels.length) ls' as'):NodeI g R r (i+1) 3 (op&&(zAA g (i:Int)).isOpen) ls' as':=by
 have aa:InG g (i:Int):=⟨by omega,by omega⟩;refine⟨fun m h h' hr=>?_,N.cong fun m q l hl=>?_,.inr ⟨rfl,i,aa,by omega,h1,h3⟩,?_⟩
 ·by_cases hm:m=i
  ·subst hm;omega
  ·exact I.con m h (by omega) hr
 ·constructor
  ·rintro⟨a,b,c,d⟩;by_cases hm:m=i
   ·subst hm;exact .inr ⟨rfl,(zgS.1 hl).1⟩
   ·exact .inl ⟨a,by omega,c,d⟩
  ·rintro (⟨a,b,c,d⟩|⟨rfl,_⟩)
   ·exact⟨a,by omega,c,d⟩
   ·exact⟨aa,by omega,h1,h3⟩
 ·rw[Bool.and_eq_true,I.op];refine⟨fun ⟨q,q'⟩ m h h' hr hk=>?_,fun q=>⟨fun m h h' hr hk=>q m h (by omega) hr hk,q i aa (by omega) h1 h3⟩⟩;by_cases hm:m=i
  ·subst hm;exact q'
  ·exact q m h (by omega) hr hk
theorem NodeI.fin(I:NodeI g R r g.nodes.length kd op ls as):NodeR g R r ⟨kd,[],as,ls,kd==3&&op⟩:=by
 refine .inr ⟨fun m h hr=>I.con m h h.2 hr,rfl,I.nl.cong fun m q l _=>⟨fun ⟨a,b,c⟩=>⟨a,a.2,b,c⟩,fun ⟨a,_,b,c⟩=>⟨a,b,c⟩⟩,?_⟩;rcases I.kd with⟨k1,k2⟩|⟨k1,m,k2,k3,k4,k5⟩
 ·refine .inl ⟨fun m h hr=>k2 m h h.2 hr,k1,?_⟩;rw[k1];rfl
 ·refine .inr ⟨⟨m,k2,k4,k5⟩,k1,?_⟩;rw[k1];show (true&&op)=true↔_;rw[Bool.true_and,I.op];exact⟨fun q m h hr=>q m h h.2 hr,fun q m h _ hr=>q m h hr⟩
theorem NodeI.len(hc:zAB g=0)(N:NL g R (NT g R r i k) ls as)(hi:i<g.nodes.length):ls.length<=zAU [] g.nodes 0:=by
 refine Nat.le_trans (N.sub fun m q h=>?_) (zDG hc);rcases h with h|⟨rfl,_⟩
 ·exact h.1
 ·exact⟨by omega,by omega⟩
theorem NL.pos(hc:zAB g=0)(I:DJ g ps R)(hS:∀m q,S m q->InG g m/\(zAA g m).kind=3)(N:NL g R S ls as){k:Nat}(hk:k<as.length):InG g (as.getD k 0):=by
 have aa:k<ls.length:=by rw[N.len];exact hk
 obtain⟨m,q,a,b,c⟩:=N.args k _ (zgG aa);obtain⟨h1,h2⟩:=hS m q a;rw[c];refine(I.rep _ (zEk hc h1 ?_)).1;have hq:=(zgS.1 b).1;rcases zAH (zAV hc h1) with⟨q',_⟩|⟨q',_⟩|⟨_,_,q',_⟩
 ·omega
 ·omega
 ·omega
end
end Go.Ab.S
end
