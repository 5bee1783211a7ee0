import Derived.Test.YtpmndmiohaaokaaGreatDoorP15
import Derived.Test.YtpmndmiohaaokaaGreatDoorP18
import Derived.Test.YtpmndmiohaaokaaGreatDoorP19
import Derived.Test.YtpmndmiohaaokaaGreatDoorP20
/-
  Part 21 of the proof.
-/
set_option linter.all false
set_option maxHeartbeats 8000000
section
namespace Go.Ab.S
open Go Go.Ab
theorem RowI.ints{h:AHeap}{rb N:Nat}{R:List Int}(r:RowI h rb N R):IntsAt h (.slice (some (rb,0)) N) R:=by have hl:=r.len;obtain⟨ver,vs,h1,h2,h3⟩:=r;subst hl;exact zBb (base:=rb) (e:=3) (.inr (.inr ⟨rb,vs,ver,Nat.le_refl _,rfl,h1,by omega,by rw[Nat.mul_one];exact h2⟩))
theorem zGD{h:AHeap}{base sz n:Nat}{e:TypeId}{v:AVal}{cells:List AVal}(B:Built h base e sz v n cells):Frm h e v n:=by
 rcases B with⟨rfl,_,_⟩|⟨rfl,_,_⟩|⟨b,vs,ver,_,rfl,hg,_,_⟩
 ·exact .inl rfl
 ·exact .inr (.inl rfl)
 ·exact .inr (.inr ⟨b,ver,false,vs,rfl,hg⟩)
section
variable{g:Graph}{ps:List Pr}{R:List Int}{S:Int->Nat->Prop}{ls:List (List Nat)}{as:List Int}{r:Int}{i k:Nat}
theorem NL.sm(hg:GTi g)(hc:zAB g=0)(hL:zAU [] g.nodes 0<=2 ^ 20)(hS:∀m q,S m q->InG g m)(N:NL g R S ls as):NodeSm ⟨3,[],as,ls,false⟩/\ls.length<=2 ^ 20/\as.length=ls.length:=by
 have h1:=N.sub hS;have h2:=zDG hc;have h3:=N.len;have aa:(2:Nat) ^ 20=1048576:=by decide
 have ab:(2:Nat) ^ 60=1152921504606846976:=by decide
 refine⟨⟨by show as.length<_;omega,by show ls.length<_;omega,fun s hs=>?_⟩,by omega,by omega⟩;obtain⟨m,q,a,b⟩:=(N.labels s).1 hs;exact(hg.all _ (zDe (hS m q a))).texts s (List.mem_of_getElem? b)
theorem NT.inG(hi:i<g.nodes.length){m:Int}{q:Nat}(h:NT g R r i k m q):InG g m:=by
 rcases h with h|⟨rfl,_⟩
 ·exact h.1
 ·exact⟨by omega,by omega⟩
theorem NT.obj(hi:i<g.nodes.length)(h3:(zAA g (i:Int)).kind=3){m:Int}{q:Nat}(h:NT g R r i k m q):InG g m/\(zAA g m).kind=3:=by
 refine⟨h.inG hi,?_⟩;rcases h with h|⟨rfl,_⟩
 ·exact h.2.2.2
 ·exact h3
end
section
variable{fns:FnsT}{summ:SumT}
variable(H:Has fns summ)
include H
theorem zNd(g:Graph)(hg:GTi g)(hc:zAB g=0)(hL:zAU [] g.nodes 0<=2 ^ 20)(ps:List Pr){R:List Int}(I:DJ g ps R)(r:Int){c rb:Nat}{nv:AVal}{h0 h:AHeap}(hN:NodesAt h0 nv g.nodes)(G:Grow h0 h)(hC:ClsAt h c rb nv g.nodes.length R):
  Cl fns summ 35 [.ptr (some (c,0)),.int .i64 r] h fun q h'=>Grow h h'/\∃M av lv,q=zBf M av lv/\Hid (NodeR g R r M)/\Built h' h.next 3 1 av M.args.length (M.args.map (AVal.int .i64))/\Built h' h.next 9 1 lv M.labels.length (M.labels.map AVal.str):=by
 have w:=G.wf;have hlen:=hN.len;have hN4:=hg.tinyN;have e20:(2:Nat) ^ 20=1048576:=by decide
 have hlenr:lenO (.slice (some (rb,0)) g.nodes.length)=some g.nodes.length:=rfl;have repI:=Hid.mk hC.2.ints;have hRl:=hC.2.len;obtain⟨⟨ver,hbc⟩,vr,vs,hor,hvs,hvl⟩:=hC;have hNh:=Hid.mk (hN.mono G);have IH:=Hid.mk I;have ht5:∀p q r s t:AVal,List.take 5 [p,q,r,s,t]=[p,q,r,s,t]:=fun _ _ _ _ _=>rfl;clear I hN G;refine H.go (fn:=F_rNode08) rfl (by decide) rfl rfl ?_;unfold F_rNode08;dsimp only[qQ,qE,qN,gQ,vi,tm,mt,lo,fa,jn,jk,jv,jb,jl,js,ji,je,jd,jN,jR,jS,jC,jL];refine zAu (zAz ?_);refine zAM w ?_;rintro b4 h1 hb4 g1 o4;repeat refine zR ?_
 refine st_q (v:=.agg [.int .i64 1,.str [],.slice none 0,.slice none 0,.bool false]) (b:=none) (by rw[zBF];simp only[zCV,zAl,zAo,zAw,if_true,if_false,Nat.reduceEqDiff,zAb];rfl) ?_;refine zAM g1.wf ?_;rintro b5 h2 hb5 g2 o5;have l4:=g1.wf.lt o4;have o42:=g2.keep _ _ o4;refine zAC (v:=.agg [.int .i64 1,.str [],.slice none 0,.slice none 0,.bool false]) e1 e1 (cs:=[.int .i64 1,.str [],.slice none 0,.slice none 0,.bool false]) rfl rfl g2.wf o5 (by simp) (by rfl) ?_;rintro v3 h3 p3 o53;have o43:=p3.keep b4 (by omega) _ o42;simp only[lL,Nat.reduceAdd] at o53;have n1x:=g1.next;have g3:Grow h h3:=p3.grow h w (g1.trans g2) (by omega);have ac:h.next<=b5/\h.next<=b4/\b4≠b5:=by omega
 have hb3:=g3.keep _ _ hbc;have g3':=Hid.mk g3;clear o4 o42 o5 p3 g1 g2;repeat refine zR ?_
 have N0:Hid (NodeI g R r 0 1 true [] []):=⟨.start⟩;refine zAp (N:=g.nodes.length) (fun i a hp=>∃kd op ls as aa ab,(∃v,hp.objs.get b5=some (v,.cells false 36 [.int .i64 kd,.str [],aa,ab,.bool false]))/\(∃v,hp.objs.get b4=some (v,.cells false 36 [.int .i64 0,.str [],.slice none 0,.slice none 0,.bool false]))/\Hid (Built hp h.next 3 1 aa as.length (as.map (AVal.int .i64)))/\Hid (Built hp h.next 9 1 ab ls.length (ls.map AVal.str))/\Hid (Grow h hp)/\Hid (NodeI g R r i kd op ls as)/\a.defers=[]/\ev a (.tmp 0)=some (.ptr (some (c,0)))/\ev a (.tmp 1)=some (.int .i64 r)/\ev a (.tmp 4)=some (.ptr (some (b4,0)))/\ev a (.tmp 5)=some (.ptr (some (b5,0)))/\ev a (.tmp 6)=some (.bool op)/\ev a (.tmp 16)=some nv) ?_ ?_ ⟨1,true,[],[],_,_,⟨_,o53⟩,⟨_,o43⟩,⟨.inl ⟨rfl,rfl,rfl⟩⟩,⟨.inl ⟨rfl,rfl,rfl⟩⟩,g3',N0,n1,e1,e1,e1,e1,e1,e1⟩
 ·clear o53 o43 g3 g3' N0 hb3;rintro i a hp hi ⟨kd,op,ls,as,aa,ab,⟨v5,o5⟩,⟨v4,o4⟩,A,B,G,NI,hd,ak,al,am,an,ao,ae⟩ hi' hn';obtain⟨X,hX⟩:∃X,zAA g (i:Int)=X:=⟨_,rfl⟩;have gX:=zGW hi;rw[hX] at gX;obtain⟨bx,ox,verx,rx,ex,vsx,avx,aA,hixx,hgetx0,hvlx,hvox,_,_,wx2,_,_,hax0,hlx0⟩:=hNh.out.at gX;have hgetx:=G.out.keep _ _ hgetx0;have hlax:=hax0.len;have hllx:=hlx0.len;have onex:=zAD hlax;have onelx:=zAD hllx;have ix:Hid (IntsAt h avx X.args/\StrsAt h aA X.labels):=⟨hax0,hlx0⟩;have ad:=Hid.mk hX;have lA:=Hid.mk A.out.len;have lB:=Hid.mk B.out.len;have hbp:=G.out.keep _ _ hbc;have hop:=G.out.keep _ _ hor;have hvi:=zCM hvs hi hvl;have hixr:slA (.slice (some (rb,0)) g.nodes.length) 1 i=some (rb,i):=by simp[slA,hi]
  obtain⟨u,hu⟩:∃u,clAt R (i:Int)=u:=⟨_,rfl⟩;rw[hu] at hvi;have hu':=Hid.mk hu;have wp:=G.out.wf;have nG:=G.out.next;clear hX gX hax0 hlx0 hgetx0 hu;repeat refine zR ?_
  refine zAM wp ?_;rintro b8 h4 hb8 g4 o8;have lt5:=wp.lt o5;have lt4:=wp.lt o4;have ltb:=wp.lt hbp;have lto:=wp.lt hop;have c54:=g4.keep _ _ o5;have c44:=g4.keep _ _ o4;have cb4:=g4.keep _ _ hbp;have co4:=g4.keep _ _ hop;repeat refine zR ?_
  refine zAC (v:=.agg [.int .i64 X.kind,.str X.name,avx,aA,.bool X.isOpen]) e1 e1 (cs:=[.int .i64 X.kind,.str X.name,avx,aA,.bool X.isOpen]) rfl rfl g4.wf o8 (by simp) (by simp only[List.all_cons,List.all_nil,onex,onelx,Bool.true_and,Bool.and_true];rfl) ?_;rintro v6 h6 p6 o86;have c5:=p6.keep b5 (by omega) _ c54;have c4:=p6.keep b4 (by omega) _ c44;have cb:=p6.keep c (by omega) _ cb4;have co:=p6.keep rb (by omega) _ co4;simp only[lL,Nat.reduceAdd] at o86;have G6:Hid (Grow h h6):=⟨p6.grow h w (G.out.trans g4) (by omega)⟩;have A6:Hid (Built h6 h.next 3 1 aa as.length (as.map (AVal.int .i64))):=⟨zAG (A.out.grow g4) p6 o8 fun vs hh=>by cases hh⟩;have B6:Hid (Built h6 h.next 9 1 ab ls.length (ls.map AVal.str)):=⟨zAG (B.out.grow g4) p6 o8 fun vs hh=>by cases hh⟩;have ne8:b8≠b5/\b8≠b4/\h.next<=b8:=by omega
  have w6:=G6.out.wf;clear o5 o4 hbp hop c54 c44 cb4 co4 p6 o8 g4 A B hgetx hvox wx2 hixx hvlx G;repeat refine zR ?_
  cases k1:(u != r);rotate_left
  ·have NI':Hid (NodeI g R r (i+1) kd op ls as):=⟨NI.out.skip (.inl (by rw[hu'.out];simpa using k1))⟩;repeat refine zR ?_
   exact⟨⟨kd,op,ls,as,_,_,⟨_,c5⟩,⟨_,c4⟩,A6,B6,G6,NI',n1,e1,e1,e1,e1,e1,e1⟩,e1,e1⟩
  have hur:Hid (clAt R (i:Int)=r):=⟨by rw[hu'.out];simpa using k1⟩;cases k2:(X.kind==1);rotate_left
  ·have NI':Hid (NodeI g R r (i+1) kd op ls as):=⟨NI.out.skip (.inr (by rw[ad.out];simpa using k2))⟩;repeat refine zR ?_
   exact⟨⟨kd,op,ls,as,_,_,⟨_,c5⟩,⟨_,c4⟩,A6,B6,G6,NI',n1,e1,e1,e1,e1,e1,e1⟩,e1,e1⟩
  have hin:Hid (InG g (i:Int)):=⟨⟨by omega,by omega⟩⟩;have hXl:X.args.length<=2 ^ 20/\X.labels.length<=2 ^ 20:=by have h1:=hg.tinyA X (List.mem_of_getElem? (by rw[zGW hi,ad.out]));have h2:=zHr hc hin.out;rw[ad.out] at h2;omega
  repeat refine zR ?_
  cases k3:(X.kind==2);rotate_left
  ·have hT:∀a∈X.args,0<=a/\a<R.length:=fun a ha=>by
    have:=zAh (zAV hc hin.out) a (by rw[ad.out];exact ha);rw[hRl];exact this
   have hM:Hid (NodeR g R r {X with args:=X.args.map (clAt R)}):=⟨by
    have:=NodeI.con2 (r:=r) hi hur.out (by rw[ad.out];simpa using k3);rw[ad.out] at this;exact this⟩
   have cpC:=Hid.mk (zMp H X hXl.1 hXl.2 R hT avx aA (.slice (some (rb,0)) g.nodes.length) h6 w6 (ix.out.1.mono G6.out) (ix.out.2.mono G6.out) (repI.out.mono G6.out));clear hT;repeat refine zR ?_
   refine zAS (zAL s1 (cpC.out.mono ?_));rintro _ h7 ⟨g7,av',lv',rfl,Ba,Bl⟩;have d8:=g7.keep _ _ o86;have db:=g7.keep _ _ cb;have d4:=g7.keep _ _ c4;refine zAK ⟨by simp[zAJ,Nat.testBit,d8,db],?_⟩;have oa:=zAD Ba.len;have ol:=zAD Bl.len;refine zAS (zAC (v:=zBf {X with args:=X.args.map (clAt R)} av' lv') e1 e1 (cs:=[.int .i64 X.kind,.str X.name,av',lv',.bool X.isOpen]) rfl rfl g7.wf d4 (by simp) (by simp only[List.all_cons,List.all_nil,oa,ol,Bool.true_and,Bool.and_true];rfl) ?_);rintro v9 h9 p9 o9;refine zAK ⟨by simp[zAJ,Nat.testBit],?_⟩;simp only[lL,Nat.reduceAdd] at o9;have n6:=G6.out.next;have ah:Hid (Grow h h9/\Built h9 h.next 3 1 av' X.args.length ((X.args.map (clAt R)).map (AVal.int .i64))/\Built h9 h.next 9 1 lv' X.labels.length (X.labels.map AVal.str)):=⟨p9.grow h w (G6.out.trans g7) ac.2.1,zAG (zAW Ba n6) p9 d4 fun vs hh=>(by cases hh),zAG (zAW Bl n6) p9 d4 fun vs hh=>by cases hh⟩;clear p9 d4 d8 db Ba Bl cpC;repeat refine zG ?_
   refine⟨ah.out.1,{X with args:=X.args.map (clAt R)},av',lv',rfl,hM,?_,ah.out.2.2⟩;show Built _ _ _ _ _ (X.args.map (clAt R)).length _;rw[List.length_map];exact ah.out.2.1
  have hk3:Hid ((zAA g (i:Int)).kind=3):=⟨by
   have a1:X.kind≠1:=by simpa using k2
   have a2:X.kind≠2:=by simpa using k3
   rcases zTU hc hin.out with q|q|q
   ·rw[ad.out] at q;exact absurd q a1
   ·rw[ad.out] at q;exact absurd q a2
   ·exact q⟩
  repeat refine zR ?_
  refine zAC e1 e1 (cs:=[.int .i64 3]) rfl rfl w6 c5 (by simp) (by rfl) ?_;rintro v7 h7 p7 o57;simp only[lL,Nat.reduceAdd] at o57;have d4:=p7.keep b4 ac.2.2 _ c4;have d8:=p7.keep b8 ne8.1 _ o86;have G7:Hid (Grow h h7):=⟨p7.grow h w G6.out ac.1⟩;have A7:Hid (Built h7 h.next 3 1 aa as.length (as.map (AVal.int .i64))):=⟨zAG A6.out p7 c5 fun vs hh=>by cases hh⟩;have B7:Hid (Built h7 h.next 9 1 ab ls.length (ls.map AVal.str)):=⟨zAG B6.out p7 c5 fun vs hh=>by cases hh⟩;clear c4 c5 o86 cb co p7 G6 A6 B6;repeat refine zR ?_
  have NL0:Hid (NL g R (NT g R r i 0) ls as):=⟨NI.out.open⟩;have hXl':=hXl.2;refine zAp (N:=X.labels.length) (fun k a hp=>∃ls as aa ab,(∃v,hp.objs.get b5=some (v,.cells false 36 [.int .i64 3,.str [],aa,ab,.bool false]))/\(∃v,hp.objs.get b4=some (v,.cells false 36 [.int .i64 0,.str [],.slice none 0,.slice none 0,.bool false]))/\(∃v,hp.objs.get b8=some (v,.cells false 36 [.int .i64 X.kind,.str X.name,avx,aA,.bool X.isOpen]))/\Hid (Built hp h.next 3 1 aa as.length (as.map (AVal.int .i64)))/\Hid (Built hp h.next 9 1 ab ls.length (ls.map AVal.str))/\Hid (Grow h hp)/\Hid (NL g R (NT g R r i k) ls as)/\a.defers=[]/\ev a (.tmp 0)=some (.ptr (some (c,0)))/\ev a (.tmp 1)=some (.int .i64 r)/\ev a (.tmp 4)=some (.ptr (some (b4,0)))/\ev a (.tmp 5)=some (.ptr (some (b5,0)))/\ev a (.tmp 6)=some (.bool (op&&X.isOpen))/\ev a (.tmp 8)=some (.ptr (some (b8,0)))/\ev a (.tmp 16)=some nv/\ev a (.tmp 17)=some (.int .i64 (g.nodes.length:Nat))/\ev a (.tmp 18)=some (.int .i64 (i:Nat))/\ev a (.tmp 53)=some aA) ?_ ?_ ⟨ls,as,_,_,⟨_,o57⟩,⟨_,d4⟩,⟨_,d8⟩,A7,B7,G7,NL0,n1,e1,e1,e1,e1,by cases op<;>exact e1,e1,e1,e1,e1,e1⟩
  ·clear hd ak al am an ao ae hi' hn' o57 d4 d8 A7 B7 G7 NL0;rintro k a hp hk ⟨ls,as,aa,ab,⟨v5',o5⟩,⟨v4',o4⟩,⟨v8',o8⟩,A,B,G,N,hd,ak,al,am,an,ao,t8',ae,aB,aC,aD⟩ hi' hn';obtain⟨bl,ol,verl,rl,el,vsl,hixl,hgl0,hvl'⟩:=ix.out.2.at (zgG hk);have hgl:=G.out.keep _ _ hgl0;have lab:X.labels[k]?=some X.labels[k]:=zgG hk;obtain⟨s,hs⟩:∃s,X.labels[k]=s:=⟨_,rfl⟩;rw[hs] at hvl' lab;have hss:s.length<2 ^ 60:=(hg.all X (List.mem_of_getElem? (by rw[zGW hi,ad.out]))).texts s (List.mem_of_getElem? lab);have labD:Hid ((zAA g (i:Int)).labels[k]?=some s):=⟨by rw[ad.out];exact lab⟩;have hkA:k<X.args.length:=by
    have:=zCL hc hin.out hk3.out;rw[ad.out] at this;omega
   obtain⟨sm,hl20,hal⟩:=N.out.sm hg hc hL (fun m q h=>h.inG hi);have sm':=Hid.mk sm;have lA:=A.out.len;have lB:=B.out.len;have wp:=G.out.wf;clear lab hs hgl0 sm;repeat refine zR ?_
   refine zAL s1 ((zKw H ⟨3,[],as,ls,false⟩ sm'.out (by show ls.length<=as.length;omega) s hss aa ab hp wp (zBb A.out) (zDA B.out)).mono ?_);rintro _ hq ⟨gq,z,rfl,hz⟩;have c5:=gq.keep _ _ o5;have c4:=gq.keep _ _ o4;have c8:=gq.keep _ _ o8;have Gq:=Hid.mk (G.out.trans gq);have Aq:=Hid.mk (A.out.grow gq);have Bq:=Hid.mk (B.out.grow gq);have wq:=gq.wf;have nS:∀m q,NT g R r i (k+1) m q↔NT g R r i k m q\/(m=i/\q=k):=NT.next;have hzc:Hid ((0<=z/\s∈ls)\/(z= -1/\s∉ls)):=⟨by
    rcases hz with⟨k',h1,rfl⟩|⟨h1,h2⟩
    ·refine .inl ⟨?_,List.mem_of_getElem? h1⟩;have hk':k'<as.length:=by have:=(zgS.1 h1).1;show k'<as.length;rw[hal];exact this
     exact(N.out.pos hc IH.out (fun m q h=>h.obj hi hk3.out) hk').1
    ·exact .inr ⟨h2,h1⟩⟩
   have nS':=Hid.mk nS;clear hz o5 o4 o8 A B G gq nS hgl hixl;by_cases hm:s∈ls
   ·have hge:decide (z>=0)=true:=by
     rcases hzc.out with⟨k1,_⟩|⟨_,k1⟩
     ·simpa using k1
     ·exact absurd hm k1
    have N':Hid (NL g R (NT g R r i (k+1)) ls as):=⟨N.out.skip labD.out hm nS'.out⟩;have hb':=Hid.mk hm;clear hm;repeat refine zR ?_
    exact⟨⟨ls,as,_,_,⟨_,c5⟩,⟨_,c4⟩,⟨_,c8⟩,Aq,Bq,Gq,N',n1,e1,e1,e1,e1,e1,e1,e1,e1,e1,e1⟩,e1,e1⟩
   ·have hge:decide (z>=0)=false:=by
     rcases hzc.out with⟨_,k1⟩|⟨k1,_⟩
     ·exact absurd k1 hm
     ·rw[k1];rfl
    have hm':=Hid.mk hm;clear hm;repeat refine zR ?_
    refine zNz (fun A h'=>h'=hq/\∃p:Nat,Hid (p<=ls.length/\(∀k x,k<p->ls[k]?=some x->zAn x s=true)/\∀x,ls[p]?=some x->zAn x s=false)/\A.defers=[]/\ev A (.tmp 0)=some (.ptr (some (c,0)))/\ev A (.tmp 1)=some (.int .i64 r)/\ev A (.tmp 4)=some (.ptr (some (b4,0)))/\ev A (.tmp 5)=some (.ptr (some (b5,0)))/\ev A (.tmp 6)=some (.bool (op&&X.isOpen))/\ev A (.tmp 8)=some (.ptr (some (b8,0)))/\ev A (.tmp 9)=some (.int .i64 (k:Nat))/\ev A (.tmp 10)=some (.str s)/\ev A (.tmp 11)=some (.int .i64 (p:Nat))/\ev A (.tmp 16)=some nv/\ev A (.tmp 17)=some (.int .i64 (g.nodes.length:Nat))/\ev A (.tmp 18)=some (.int .i64 (i:Nat))/\ev A (.tmp 53)=some aA/\ev A (.tmp 54)=some (.int .i64 (X.labels.length:Nat))/\ev A (.tmp 55)=some (.int .i64 (k:Nat))) ?_ ?_
    ·refine zBT ?_;refine zCS (fun m A h'=>h'=hq/\∃p:Nat,Hid (p<=ls.length/\ls.length - p<=m/\∀k x,k<p->ls[k]?=some x->zAn x s=true)/\A.defers=[]/\ev A (.tmp 0)=some (.ptr (some (c,0)))/\ev A (.tmp 1)=some (.int .i64 r)/\ev A (.tmp 4)=some (.ptr (some (b4,0)))/\ev A (.tmp 5)=some (.ptr (some (b5,0)))/\ev A (.tmp 6)=some (.bool (op&&X.isOpen))/\ev A (.tmp 8)=some (.ptr (some (b8,0)))/\ev A (.tmp 9)=some (.int .i64 (k:Nat))/\ev A (.tmp 10)=some (.str s)/\ev A (.tmp 11)=some (.int .i64 (p:Nat))/\ev A (.tmp 16)=some nv/\ev A (.tmp 17)=some (.int .i64 (g.nodes.length:Nat))/\ev A (.tmp 18)=some (.int .i64 (i:Nat))/\ev A (.tmp 53)=some aA/\ev A (.tmp 54)=some (.int .i64 (X.labels.length:Nat))/\ev A (.tmp 55)=some (.int .i64 (k:Nat))) ?_ (n:=ls.length) ⟨rfl,0,⟨Nat.zero_le _,Nat.sub_le _ _,fun k x h=>by omega⟩,n1,e1,e1,e1,e1,e1,e1,e1,e1,e1,e1,e1,e1,e1,e1,e1⟩;clear hd ak al am an ao t8' ae aB aC aD hi' hn';rintro m A h' ⟨rfl,p,L,hd,ak,al,am,an,ao,t8',t9',t10',t11',ae,aB,aC,aD,t54',t55'⟩;obtain⟨L1,L2,L3⟩:=L.out;have L3':=Hid.mk L3;clear L3;have hw1:IntKind.i64.wrap ((p:Int)+1)=((p+1:Nat):Int):=by rw[zAa (by omega) (by omega)];rfl
     by_cases hlt:p<ls.length
     ·have hdl:decide (((p:Nat):Int)<Int.ofNat ls.length)=true:=by simp only[Int.ofNat_eq_natCast,decide_eq_true_eq];omega
      obtain⟨bq,oq,verq,rq,eq,vsq,hixq,hgq,hvq⟩:=(zDA Bq.out).at (zgG hlt);cases cl:zAn ls[p] s
      ·have hout:Hid (p<=ls.length/\(∀k x,k<p->ls[k]?=some x->zAn x s=true)/\∀x,ls[p]?=some x->zAn x s=false):=⟨L1,L3'.out,fun x hx=>by rw[zgG hlt] at hx;cases hx;exact cl⟩;repeat refine zR ?_
       exact⟨rfl,p,hout,n1,e1,e1,e1,e1,e1,e1,e1,e1,e1,e1,e1,e1,e1,e1,e1⟩
      ·have hin':Hid (p+1<=ls.length/\ls.length - (p+1)<=m - 1/\∀k x,k<p+1->ls[k]?=some x->zAn x s=true):=⟨hlt,by omega,fun k x hk hx=>by
        by_cases hkp:k=p
        ·subst hkp;rw[zgG hlt] at hx;cases hx;exact cl
        ·exact L3'.out k x (by omega) hx⟩
       have hm1:m - 1<m:=by omega
       repeat refine zR ?_
       exact⟨m - 1,hm1,rfl,p+1,hin',n1,e1,e1,e1,e1,e1,e1,e1,e1,e1,e1,e1,e1,e1,e1,e1⟩
     ·have hdl:decide (((p:Nat):Int)<Int.ofNat ls.length)=false:=by simp only[Int.ofNat_eq_natCast,decide_eq_false_iff_not];omega
      have hout:Hid (p<=ls.length/\(∀k x,k<p->ls[k]?=some x->zAn x s=true)/\∀x,ls[p]?=some x->zAn x s=false):=⟨L1,L3'.out,fun x hx=>by
       have:=(zgS.1 hx).1;omega⟩
      repeat refine zR ?_
      exact⟨rfl,p,hout,n1,e1,e1,e1,e1,e1,e1,e1,e1,e1,e1,e1,e1,e1,e1,e1⟩
    clear hd ak al am an ao t8' ae aB aC aD hi' hn';rintro A h' ⟨rfl,p,L,hd,ak,al,am,an,ao,t8',t9',t10',t11',ae,aB,aC,aD,t54',t55'⟩;repeat refine zR ?_
    refine zTH (v:=ab) (k:=p) (kd:=.i64) (xs:=ls.map strC) e1 (zDA Bq.out) (by rw[List.length_map];exact zGD Bq.out) e1 (by rw[List.length_map];exact L.out.1) ?_;intro ra1 hr1;have aw:=Hid.mk hr1;clear hr1;repeat refine zR ?_
    refine zOE (v:=ab) (k:=p) (kd:=.i64) (xs:=ls.map strC) e1 (zDA Bq.out) (by rw[List.length_map];exact zGD Bq.out) e1 (by rw[List.length_map];exact L.out.1) ?_;intro ra2 hr2;have az:=Hid.mk hr2;clear hr2;have Lp:=L.out.1;have eb:h.next<=h'.next:=Gq.out.next;refine zAS (zRA ?_);refine zAK ⟨by simp[zAJ,Nat.testBit,c5],?_⟩;refine zAS (zGJ e1 (v:=ra1) e1 aw.out (by decide) (by rw[<-List.map_take,zCy];exact zJP _) (zBN H (b:=16) (by decide) (by rw[List.length_take,List.length_map];omega)) wq ?_);intro w1 h9 B9 g9;have c59:=g9.keep _ _ c5;refine zAK ⟨by simp[zAJ,Nat.testBit,c59],?_⟩;have n9:=g9.next;refine zAS (zAT e1 (cs:=[.str s]) rfl rfl rfl g9.wf ?_);rintro bz h10 hbz g10 oz;have c510:=g10.keep _ _ c59;refine zAK ⟨by simp[zAJ,Nat.testBit,c510],?_⟩;have n10:=g10.next;refine zAS (zAZ e1 e1 (B9.grow g10) oz rfl rfl (zBN H (b:=16) (by decide) (by rw[List.length_take,List.length_map];omega)) g10.wf (by omega) ?_);rintro w2 h11 B11 f11 wf11 n11 gr11 kp11;have g11:=gr11 h' wq (g9.trans g10) (Nat.le_refl _);have c511:=g11.keep _ _ c5;refine zAK ⟨by simp[zAJ,Nat.testBit,c511],?_⟩;refine zAS (zJK (v:=w2) (u:=ra2) e1 e1 B11 (az.out.mono g11) (by decide) (by rw[<-List.map_drop,zCy];exact zJP _) (zBN H (b:=16) (by decide) (by rw[List.length_take,List.length_drop,List.length_map];omega)) wf11 (by omega) ?_);intro w3 h12 B12 wf12 n12 gr12 kp12;have g12:=gr12 h' wq g11 (Nat.le_refl _);have aq:=g12.keep _ _ c5;refine zAK ⟨by simp[zAJ,Nat.testBit,aq],?_⟩;have lw3:=B12.len;have B12':Hid (Built h12 h.next 9 1 w3 (ls.take p++s::ls.drop p).length ((ls.take p++s::ls.drop p).map AVal.str)):=⟨by
     have h2:(ls.take p++s::ls.drop p).length=((ls.map strC).take p).length+1+((ls.map strC).drop p).length:=by simp only[zgL,List.length_take,zlC,List.length_drop,List.length_map];omega
     rw[h2,List.map_append,List.map_cons];have h3:=zAW B12 eb;rw[<-List.map_take,<-List.map_drop,zCy,zCy,List.append_assoc] at h3;rw[<-List.map_take,<-List.map_drop];exact h3⟩
    have A12:=Hid.mk (Aq.out.grow g12);have G12:=Hid.mk (Gq.out.trans g12);have c412:=g12.keep _ _ c4;have c812:=g12.keep _ _ c8;clear B9 B11 B12 c59 c510 c511 oz g9 g10 f11 gr11 kp11 g11 gr12 kp12 g12 aw az Bq Aq c5 c4 c8 lB;repeat refine zR ?_
    refine zAS (zAC e1 e1 (zAO lw3) rfl wf12 aq (by simp) (by simp only[List.all_cons,List.all_nil,zAD lw3,Bool.and_true]) ?_);rintro v13 h13 p13 o13;refine zAK ⟨by simp[zAJ,Nat.testBit],?_⟩;simp only[lL,Nat.reduceAdd] at o13;have G13:Hid (Grow h h13):=⟨p13.grow h w G12.out ac.1⟩;have A13:Hid (Built h13 h.next 3 1 aa as.length (as.map (AVal.int .i64))):=⟨zAG A12.out p13 aq fun vs hh=>by cases hh⟩;have B13:Hid (Built h13 h.next 9 1 w3 (ls.take p++s::ls.drop p).length ((ls.take p++s::ls.drop p).map AVal.str)):=⟨zAG B12'.out p13 aq fun vs hh=>by cases hh⟩;have c413:=p13.keep b4 ac.2.2 _ c412;have ar:=p13.keep b8 ne8.1 _ c812;have w13:=G13.out.wf;have c13:=G13.out.keep _ _ hbc;have r13:=G13.out.keep _ _ hor;obtain⟨ba,oa,vera,ra,ea,vsa,hixa,hga0,hva⟩:=ix.out.1.at (zgG hkA);have hga:=G13.out.keep _ _ hga0;have hax:InG g X.args[k]:=zAh (zAV hc hin.out) _ (by rw[ad.out];exact List.getElem_mem hkA);obtain⟨x,hx⟩:∃x:Nat,X.args[k]=x:=⟨X.args[k].toNat,by have:=hax.1;omega⟩;rw[hx] at hva hax;have hxN:x<g.nodes.length:=by have:=hax.2;omega
    have hvx:=zCM hvs hxN hvl;have hixx:slA (.slice (some (rb,0)) g.nodes.length) 1 x=some (rb,x):=by simp[slA,hxN]
    obtain⟨y,hy⟩:∃y,clAt R (x:Int)=y:=⟨_,rfl⟩;rw[hy] at hvx;have hyD:Hid (clAt R ((zAA g (i:Int)).args.getD k 0)=y):=⟨by rw[ad.out,List.getD,zgG hkA,Option.getD_some,hx,hy]⟩;have la13:=A13.out.len;clear aq c412 c812 p13 G12 A12 B12' hga0 hax hx hy lA;repeat refine zR ?_
    refine zTH (v:=aa) (k:=p) (kd:=.i64) (xs:=as.map intC) e1 (zBb A13.out) (by rw[List.length_map];exact zGD A13.out) e1 (by rw[List.length_map];omega) ?_;intro ra1 hr1;have aw:=Hid.mk hr1;clear hr1;repeat refine zR ?_
    refine zOE (v:=aa) (k:=p) (kd:=.i64) (xs:=as.map intC) e1 (zBb A13.out) (by rw[List.length_map];exact zGD A13.out) e1 (by rw[List.length_map];omega) ?_;intro ra2 hr2;have az:=Hid.mk hr2;clear hr2;have eb13:h.next<=h13.next:=G13.out.next;refine zAS (zRA ?_);refine zAK ⟨by simp[zAJ,Nat.testBit,o13,c13,ar,hga,r13],?_⟩;refine zAS (zGJ e1 (v:=ra1) e1 aw.out (by decide) (by rw[<-List.map_take,zFQ];exact zMA _) (zBN H (b:=8) (by decide) (by rw[List.length_take,List.length_map];omega)) w13 ?_);intro w4 h15 B15 ai;have k5:=ai.keep _ _ o13;have kc:=ai.keep _ _ c13;have k8:=ai.keep _ _ ar;have ka:=ai.keep _ _ hga;have kr:=ai.keep _ _ r13;refine zAK ⟨by simp[zAJ,Nat.testBit,k5,kc,k8,ka,kr],?_⟩;have n15:=ai.next;refine zAS (zAT e1 (cs:=[.int .i64 y]) rfl rfl rfl ai.wf ?_);rintro bz2 h16 hbz2 af oz2;have k5':=af.keep _ _ k5;have kc':=af.keep _ _ kc;have k8':=af.keep _ _ k8;have ka':=af.keep _ _ ka;have kr':=af.keep _ _ kr;refine zAK ⟨by simp[zAJ,Nat.testBit,k5',kc',k8',ka',kr'],?_⟩;have n16:=af.next;refine zAS (zAZ e1 e1 (B15.grow af) oz2 rfl rfl (zBN H (b:=8) (by decide) (by rw[List.length_take,List.length_map];omega)) af.wf (by omega) ?_);rintro w5 h17 B17 f17 wf17 n17 gr17 kp17;have au:=gr17 h13 w13 (ai.trans af) (Nat.le_refl _);have k57:=au.keep _ _ o13;have kc7:=au.keep _ _ c13;have k87:=au.keep _ _ ar;have ka7:=au.keep _ _ hga;have kr7:=au.keep _ _ r13;refine zAK ⟨by simp[zAJ,Nat.testBit,k57,kc7,k87,ka7,kr7],?_⟩;refine zAS (zJK (v:=w5) (u:=ra2) e1 e1 B17 (az.out.mono au) (by decide) (by rw[<-List.map_drop,zFQ];exact zMA _) (zBN H (b:=8) (by decide) (by rw[List.length_take,List.length_drop,List.length_map];omega)) wf17 (by omega) ?_);intro w6' h18 B18 wf18 n18 gr18 kp18;have aj:=gr18 h13 w13 au (Nat.le_refl _);have k58:=aj.keep _ _ o13;have kc8:=aj.keep _ _ c13;have k88:=aj.keep _ _ ar;have ka8:=aj.keep _ _ hga;have kr8:=aj.keep _ _ r13;refine zAK ⟨by simp[zAJ,Nat.testBit,k58,kc8,k88,ka8,kr8],?_⟩;have lw6:=B18.len;have A18:Hid (Built h18 h.next 3 1 w6' (as.take p++y::as.drop p).length ((as.take p++y::as.drop p).map (AVal.int .i64))):=⟨by
     have h2:(as.take p++y::as.drop p).length=((as.map intC).take p).length+1+((as.map intC).drop p).length:=by simp only[zgL,List.length_take,zlC,List.length_drop,List.length_map];omega
     rw[h2,List.map_append,List.map_cons];have h3:=zAW B18 eb13;rw[<-List.map_take,<-List.map_drop,zFQ,zFQ,List.append_assoc] at h3;rw[<-List.map_take,<-List.map_drop];exact h3⟩
    have B18':=Hid.mk (B13.out.grow aj);have G18:=Hid.mk (G13.out.trans aj);have k48:=aj.keep _ _ c413;clear B15 B17 B18 k5 kc k8 ka kr k5' kc' k8' ka' kr' k57 kc7 k87 ka7 kr7 kc8 ka8 kr8 oz2 ai af f17 gr17 kp17 au gr18 kp18 aj aw az A13 B13 o13 c13 r13 c413 ar hga la13 hixa hva hvx hixx;repeat refine zR ?_
    refine zAS (zAC e1 e1 (zAO lw6) rfl wf18 k58 (by simp) (by simp only[List.all_cons,List.all_nil,zAD lw6,Bool.and_true]) ?_);rintro v19 h19 p19 o19;refine zAK ⟨by simp[zAJ,Nat.testBit],?_⟩;simp only[lL,Nat.reduceAdd] at o19;have G19:Hid (Grow h h19):=⟨p19.grow h w G18.out ac.1⟩;have A19:Hid (Built h19 h.next 3 1 w6' (as.take p++y::as.drop p).length ((as.take p++y::as.drop p).map (AVal.int .i64))):=⟨zAG A18.out p19 k58 fun vs hh=>by cases hh⟩;have B19:Hid (Built h19 h.next 9 1 w3 (ls.take p++s::ls.drop p).length ((ls.take p++s::ls.drop p).map AVal.str)):=⟨zAG B18'.out p19 k58 fun vs hh=>by cases hh⟩;have k419:=p19.keep b4 ac.2.2 _ k48;have k819:=p19.keep b8 ne8.1 _ k88;have N19:Hid (NL g R (NT g R r i (k+1)) (ls.take p++s::ls.drop p) (as.take p++y::as.drop p)):=⟨by
     have:=N.out.add labD.out hm'.out nS'.out L.out.1 L.out.2.1 L.out.2.2;rw[hyD.out] at this;exact this⟩
    clear k58 k48 k88 p19 A18 B18' G18;repeat refine zR ?_
    exact⟨⟨_,_,_,_,⟨_,o19⟩,⟨_,k419⟩,⟨_,k819⟩,A19,B19,G19,N19,n1,e1,e1,e1,e1,e1,e1,e1,e1,e1,e1⟩,e1,e1⟩
  ·clear hd ak al am an ao ae hi' hn' o57 d4 d8 A7 B7 G7 NL0;rintro a hp ⟨ls',as',rva',rvl',⟨v5',o5⟩,⟨v4',o4⟩,⟨v8',o8⟩,A,B,G,N,hd,ak,al,am,an,ao,t8',ae,aB,aC,aD⟩;have NI':Hid (NodeI g R r (i+1) 3 (op&&X.isOpen) ls' as'):=⟨by
    have:=NI.out.shut hi hur.out hk3.out (by rw[ad.out];exact N.out);rw[ad.out] at this;exact this⟩
   repeat refine zR ?_
   exact⟨⟨3,_,ls',as',_,_,⟨_,o5⟩,⟨_,o4⟩,A,B,G,NI',n1,e1,e1,e1,e1,e1,e1⟩,e1,e1⟩
 ·clear o53 o43 g3 g3' N0 hb3;rintro a hp ⟨kd,op,ls,as,aa,ab,⟨v5,o5⟩,⟨v4,o4⟩,A,B,G,NI,hd,ak,al,am,an,ao,ae⟩;have wp:=G.out.wf;have onea:=zAD A.out.len;have onel:=zAD B.out.len;have hM:Hid (NodeR g R r ⟨kd,[],as,ls,kd==3&&op⟩):=⟨NI.out.fin⟩;repeat refine zR ?_
  refine zAC (v:=.bool (kd==3&&op)) e1 e1 (cs:=[.bool (kd==3&&op)]) rfl rfl wp o5 (by simp) (by rfl) ?_;rintro v6 h6 p6 o6;simp only[lL,Nat.reduceAdd] at o6;have k4:=p6.keep b4 ac.2.2 _ o4;have w6:=p6.wf wp;have G6:=p6.grow h w G.out ac.1;have A6:=Hid.mk (zAG A.out p6 o5 fun vs hh=>by cases hh);have B6:=Hid.mk (zAG B.out p6 o5 fun vs hh=>by cases hh);generalize (kd==3&&op)=fl at*;clear o5 o4 p6 A B G NI;repeat refine zR ?_
  refine zAC (v:=.agg [.int .i64 kd,.str [],aa,ab,.bool fl]) e1 e1 (cs:=[.int .i64 kd,.str [],aa,ab,.bool fl]) rfl rfl w6 k4 (by simp) (by simp only[List.all_cons,List.all_nil,onea,onel,Bool.true_and,Bool.and_true];rfl) ?_;rintro v9 h9 p9 o9;simp only[lL,Nat.reduceAdd] at o9;have ah:Hid (Grow h h9/\Built h9 h.next 3 1 aa as.length (as.map (AVal.int .i64))/\Built h9 h.next 9 1 ab ls.length (ls.map AVal.str)):=⟨p9.grow h w G6 ac.2.1,zAG A6.out p9 k4 fun vs hh=>(by cases hh),zAG B6.out p9 k4 fun vs hh=>by cases hh⟩;clear p9 k4 o6 A6 B6 G6;repeat refine zG ?_
  exact⟨ah.out.1,⟨kd,[],as,ls,fl⟩,aa,ab,rfl,hM,ah.out.2⟩
end
end Go.Ab.S
end
section
namespace Go.Ab.S
open Go.Ab
def zIR(c:Nat):Bool:=(97<=c&&c<=122)||c==95
def zFv(c:Nat):Bool:=((97<=c&&c<=122)||(65<=c&&c<=90))||c==95
def zHg(c:Nat):Bool:=48<=c&&c<=57
def zBH:List (List Nat):=[[97,110,100],[97,115],[99,108,97,115,115],[101,108,115,101],[101,110,100],[102,97,108,115,101],[102,117,110],[105,102],[105,110],[105,110,104,101,114,105,116],[108,101,116],[109,101,116,104,111,100],[110,101,119],[111,98,106,101,99,116],[114,101,99],[116,104,101,110],[116,114,117,101],[118,97,108],[118,105,114,116,117,97,108]]
def rowS:List (List Nat)->List Nat
 |[]=>[32]
 |w::r=>32::(w++rowS r)
theorem zQV:zQU=rowS zBH:=by decide
theorem zKv:∀(s w r:List Nat),32∉s->32∉w->zFb (s++[32]) (w++32::r)=decide (s=w)
 |[],[],r,_,_=>by simp[zFb]
 |[],a::w,r,_,hw=>by
  have:¬a=32:=fun e=>hw (by simp[e]);simp[zFb];omega
 |a::s,[],r,hs,_=>by
  have:¬a=32:=fun e=>hs (by simp[e]);simp[zFb,this]
 |a::s,b::w,r,hs,hw=>by
  have ih:=zKv s w r (fun h=>hs (by simp[h])) (fun h=>hw (by simp[h]));simp only[zlK,zFb,ih];by_cases h:a=b
  ·subst h;simp
  ·simp[h]
theorem zQs(ws:List (List Nat)):∃r,rowS ws=32::r:=by cases ws<;>exact⟨_,rfl⟩
theorem zOg:∀(w r p:List Nat),32∉w->inL (w++r) (32::p)=inL r (32::p)
 |[],_,_,_=>rfl
 |a::w,r,p,h=>by
  have ha:¬32=a:=fun e=>h (by simp[e]);rw[zlK,inL,zOg w r p fun hh=>h (by simp[hh])];have:((32:Nat)==a)=false:=by simpa using ha
  simp only[zFb,this,Bool.false_and,Bool.false_or]
theorem zRW:∀(ws:List (List Nat)) (s:List Nat),(∀w∈ws,32∉w)->32∉s->inL (rowS ws) ([32]++s++[32])=ws.contains s
 |[],s,_,_=>by
  show inL [32] (32::(s++[32]))=_;cases s<;>simp[inL,zFb]
 |w::ws,s,h,hs=>by have hw:=h w (by simp);have ih:=zRW ws s (fun x hx=>h x (by simp[hx])) hs;obtain⟨r,hr⟩:=zQs ws;show inL (32::(w++rowS ws)) (32::(s++[32]))=_;rw[inL,zOg _ _ _ hw];have aa:inL (rowS ws) (32::(s++[32]))=ws.contains s:=ih;rw[aa,zFb,hr,zKv s w r hs hw];simp only[List.contains_cons,beq_self_eq_true,Bool.true_and];congr 1;rw[Bool.eq_iff_iff];simp
theorem zME:∀s:List Nat,inL s [32]=decide (32∈s)
 |[]=>by simp[inL,zFb]
 |a::s=>by
  rw[inL,zME s];have:zFb [32] (a::s)=(32==a):=by simp[zFb]
  rw[this];by_cases h:32=a
  ·simp[h]
  ·simp[h]
theorem zQR(s:List Nat):zHq s=zBH.contains s:=by
 unfold zHq;rw[zME];by_cases hb:32∈s
 ·have:zBH.contains s=false:=by
   rw[<-Bool.not_eq_true,List.contains_iff_mem];intro hm;have:∀w∈zBH,32∉w:=by decide
   exact this s hm hb
  rw[this];simp[hb]
 ·rw[zQV,zRW zBH s (by decide) hb];cases s with
  |nil=>decide
  |cons a s=>
   have:eqL (a::s) []=false:=rfl;rw[this];simp[hb]
def goS:List Nat->Nat
 |[]=>0
 |c::r=>if zFv c||zHg c then 1+goS r else 0
def zDM:List Nat->Nat
 |[]=>0
 |c::r=>if zIR c then 1+goS r else 0
theorem zSD(c:Nat):zGl c false=(zFv c||zHg c):=by simp only[zGl,zFv,zHg,Bool.not_false,Bool.and_true];cases (decide (48<=c)&&decide (c<=57))<;>cases (decide (65<=c)&&decide (c<=90))<;>cases (decide (97<=c)&&decide (c<=122))<;>cases (c==95)<;>rfl
theorem zNL(c:Nat):zGl c true=zIR c:=by simp[zGl,zIR]
theorem zPc:∀(s:List Nat) (i:Nat),0<i->zEr i s=i+goS s
 |[],i,_=>rfl
 |c::r,i,hi=>by
  have hz:(i==0)=false:=by simp;omega
  rw[zEr,goS,hz,zSD];split
  ·rw[zPc r (i+1) (by omega)];omega
  ·rfl
theorem zSn(s:List Nat):zEr 0 s=zDM s:=by
 cases s with
 |nil=>rfl
 |cons c r=>
  rw[zEr,zDM,show ((0:Nat)==0)=true from rfl,zNL,zPc r 1 (by omega)]
def zFm(s:List Nat):Bool:=((!decide (s.length=0)&&decide (s.length<=100))&&zDM s==s.length)&& !zBH.contains s
theorem zQq(s:List Nat):zFm s=zCK s:=by
 unfold zFm zCK;rw[zQR,zSn];cases s with
 |nil=>rfl
 |cons a s=>
  have:eqL (a::s) []=false:=rfl;rw[this];simp
end Go.Ab.S
end
section
namespace Go.Ab.S
open Go.Ab
theorem zQP{s:List Nat}{i:Nat}{c:Nat}(h:s[i]?=some c):goS (s.drop i)=if zFv c||zHg c then 1+goS (s.drop (i+1)) else 0:=by obtain⟨hi,rfl⟩:=zgS.1 h;rw[List.drop_eq_getElem_cons hi,goS]
section
variable{fns:FnsT}{summ:SumT}
variable(H:Has fns summ)
include H
theorem zPJ(c:Nat)(h:AHeap):Cl fns summ 136 [.int .u8 c] h fun v h'=>v=.bool (zIR c)/\h'=h:=by
 refine H.go (fn:=F_rsmall) rfl (by decide) rfl rfl ?_;unfold F_rsmall;dsimp only[qQ,gQ,tm,mt,jb,jR,jS];repeat refine zG ?_
 refine⟨congrArg AVal.bool ?_,rfl⟩;rw[Bool.eq_iff_iff];simp[zIR];omega
theorem zNf(c:Nat)(h:AHeap):Cl fns summ 137 [.int .u8 c] h fun v h'=>v=.bool (zFv c)/\h'=h:=by
 refine H.go (fn:=F_rletter) rfl (by decide) rfl rfl ?_;unfold F_rletter;dsimp only[qQ,gQ,tm,mt,jb,jR,jS];repeat refine zG ?_
 refine⟨congrArg AVal.bool ?_,rfl⟩;rw[Bool.eq_iff_iff];simp[zFv];omega
theorem zPG(c:Nat)(h:AHeap):Cl fns summ 138 [.int .u8 c] h fun v h'=>v=.bool (zHg c)/\h'=h:=by
 refine H.go (fn:=F_rdigit) rfl (by decide) rfl rfl ?_;unfold F_rdigit;dsimp only[qQ,gQ,tm,mt,jb,jR,jS];repeat refine zG ?_
 refine⟨congrArg AVal.bool ?_,rfl⟩;rw[Bool.eq_iff_iff];simp[zHg];omega
theorem zQu(s:List Nat)(hs:s.length<2 ^ 60)(h:AHeap):Cl fns summ 113 [.str s] h fun v h'=>v=.int .i64 (zDM s)/\h'=h:=by
 refine H.go (fn:=F_rword) rfl (by decide) rfl rfl ?_;unfold F_rword;dsimp only[qQ,gQ,gE,vi,tm,mt,jn,jk,jv,jR,jS,jC];cases s with
 |nil=>
  have hz:((Int.ofNat 0:Int)==0)=true:=rfl;repeat refine zG ?_
  exact⟨rfl,rfl⟩
 |cons c0 r0=>
  have hz:((Int.ofNat (c0::r0).length:Int)==0)=false:=by simp only[Int.ofNat_eq_natCast,zlC,beq_eq_false_iff_ne];omega
  have hc0:(c0::r0)[0]?=some c0:=rfl;have hrw:zDM (c0::r0)=if zIR c0 then 1+goS ((c0::r0).drop 1) else 0:=rfl;generalize hS:c0::r0=s at*;have hq0:Hid (∀A hh,ev A (.tmp 8)=some (.str s)->qA A hh (.indexS (.tmp 8) (.val (.int .i64 0)))=some (.int .u8 (Int.ofNat c0),none)):=⟨fun A hh k=>by
   have:zCC (.int .i64 0)=some 0:=by simp[zCC]
   simp only[zCE,k,zAw,this,hc0]⟩
  repeat refine zR ?_
  refine zLI e1 (hq0.out _ _ e1) ?_
  skip
  refine zBM e1 s1 ((zPJ H c0 _).mono ?_);rintro _ h0 ⟨rfl,hh0⟩;replace hh0:=hh0.symm;subst hh0;cases hsm:zIR c0
  ·have hrz:zDM s=0:=by rw[hrw,hsm];simp
   clear hrw;repeat refine zG ?_
   exact⟨by rw[hrz];rfl,rfl⟩
  ·have hrz:zDM s=1+goS (s.drop 1):=by rw[hrw,hsm];simp
   have hl1:1<=s.length:=by rw[<-hS];simp
   clear hrw hS;repeat refine zR ?_
   refine zBT ?_;refine zCS (fun k a hp=>hp=h/\a.defers=[]/\ev a (.tmp 0)=some (.str s)/\∃i:Nat,k+i=s.length/\ev a (.tmp 3)=some (.int .i64 i)/\zDM s=i+goS (s.drop i)) ?_ (n:=s.length - 1) ⟨rfl,rfl,e1,1,by omega,e1,hrz⟩;clear hrz hz hc0 hsm;rintro k a hp ⟨rfl,hd,h0,i,hi,h3,hw⟩;by_cases hlt:i<s.length
   ·have hlt':decide ((i:Int)<Int.ofNat s.length)=true:=by simpa using hlt
    have hc:s[i]?=some s[i]:=zgG hlt;have hi0:(0:Int)<=(i:Int):=by omega
    have hin:((i:Int)).toNat=i:=by omega
    rw[zQP hc] at hw;replace hw:=Hid.mk hw;have hk:=Hid.mk hi;clear hi;repeat refine zR ?_
    refine zBM e1 s1 ((zNf H s[i] _).mono ?_);rintro _ _ ⟨rfl,rfl⟩;have hwr:IntKind.i64.wrap ((i:Int)+1)=((i+1:Nat):Int):=by rw[zAa (by omega) (by omega)];omega
    cases hl:zFv s[i]
    ·repeat refine zR ?_
     refine zBM e1 s1 ((zPG H s[i] _).mono ?_);rintro _ _ ⟨rfl,rfl⟩;cases hg:zHg s[i]
     ·have aa:Hid (zDM s=i):=⟨by rw[hw.out,hl,hg];simp⟩;clear hw;repeat refine zG ?_
      exact⟨by rw[aa.out],rfl⟩
     ·have aa:Hid (zDM s=(i+1:Nat)+goS (s.drop (i+1))):=⟨by rw[hw.out,hl,hg];simp;omega⟩;clear hw;repeat refine zR ?_
      exact⟨k - 1,by have:=hk.out;omega,rfl,n1,e1,i+1,by have:=hk.out;omega,e1,aa.out⟩
    ·have aa:Hid (zDM s=(i+1:Nat)+goS (s.drop (i+1))):=⟨by rw[hw.out,hl];simp;omega⟩;clear hw;repeat refine zR ?_
     exact⟨k - 1,by have:=hk.out;omega,rfl,n1,e1,i+1,by have:=hk.out;omega,e1,aa.out⟩
   ·have hlt':decide ((i:Int)<Int.ofNat s.length)=false:=by simpa using hlt
    have:s.drop i=[]:=List.drop_eq_nil_of_le (by omega);rw[this] at hw;have aa:zDM s=i:=hw;clear hw;repeat refine zG ?_
    exact⟨by rw[aa],rfl⟩
theorem zPD(s:List Nat)(h:AHeap):Cl fns summ 114 [.str s] h fun v h'=>v=.bool (zBH.contains s)/\h'=h:=by
 refine H.go (fn:=F_rIsKey) rfl (by decide) rfl rfl ?_;unfold F_rIsKey;dsimp only[qQ,tm,mt,jn,jk,jv,jb,jR,jS,jC];refine zAu (zAz ?_);refine st_q (by rfl) (zAK ?_);refine zAu ?_;refine zAu (zAz ?_);refine st_q (v:=.agg (zBH.map AVal.str)) (b:=none) rfl ?_;repeat refine zR ?_
 refine zBT ?_;refine zCS (fun k a hp=>hp=h/\a.defers=[]/\ev a (.tmp 0)=some (.str s)/\ev a (.tmp 5)=some (.agg (zBH.map AVal.str))/\∃i:Nat,k+i=19/\ev a (.tmp 6)=some (.int .i64 i)/\zBH.contains s=(zBH.drop i).contains s) ?_ (n:=19) ⟨rfl,rfl,e1,e1,0,rfl,e1,rfl⟩;rintro k a hp ⟨rfl,hd,h0,h5,i,hi,h6,hw⟩;by_cases hlt:i<19
 ·have hlt':decide ((i:Int)<19)=true:=decide_eq_true (by omega);have hkl:i<zBH.length:=hlt;have hx:zAk none (zBH.map AVal.str) (i*1)=some (.str zBH[i]):=by
   rw[Nat.mul_one];simp only[zAk,zgM,zgG hkl,Option.map_some]
  have hq0:Hid (∀A hh,ev A (.tmp 5)=some (.agg (zBH.map AVal.str))->ev A (.tmp 6)=some (.int .i64 (i:Nat))->qA A hh (.indexV 19 1 false (.tmp 5) (.tmp 6))=some (.str zBH[i],none)):=⟨fun A hh k5 k6=>by
   have:zCC (.int .i64 (i:Nat))=some i:=by simp[zCC]
   simp only[zBp,k5,k6,this,if_pos hlt];rw[show (if false=true then some 1 else none:Option Nat)=none from rfl,hx]⟩
  rw[List.drop_eq_getElem_cons hkl,List.contains_cons] at hw;have hwr:IntKind.i64.wrap ((i:Int)+1)=((i+1:Nat):Int):=by rw[zAa (by omega) (by omega)];omega
  clear hx;generalize zBH[i]=w at*;generalize zBH.map AVal.str=ws at*;repeat refine zR ?_
  refine st_q (hq0.out _ _ e1 e1) ?_;repeat refine zR ?_
  cases he:eqL w s
  ·have hne:(s==w)=false:=by
    rw[zKa] at he;have:w≠s:=by simpa using he
    simpa using Ne.symm this
   rw[hne,Bool.false_or] at hw;replace hw:=Hid.mk hw;repeat refine zR ?_
   exact⟨k - 1,by omega,rfl,n1,e1,e1,i+1,by omega,e1,hw.out⟩
  ·have hne:(s==w)=true:=by
    rw[zKa] at he;have:w=s:=by simpa using he
    simp[this]
   rw[hne,Bool.true_or] at hw;replace hw:=Hid.mk hw;repeat refine zG ?_
   exact⟨by rw[hw.out],rfl⟩
 ·have hlt':decide ((i:Int)<19)=false:=decide_eq_false (by omega);have h19:i=19:=by omega
  have hw':zBH.contains s=false:=by rw[hw,h19];rfl
  replace hw':=Hid.mk hw';clear hw h19;repeat refine zG ?_
  exact⟨by rw[hw'.out],rfl⟩
theorem zNb(s:List Nat)(hs:s.length<2 ^ 60)(h:AHeap):Cl fns summ 84 [.str s] h fun v h'=>v=.bool (zCK s)/\h'=h:=by
 rw[<-zQq];refine H.go (fn:=F_rIsName) rfl (by decide) rfl rfl ?_;unfold F_rIsName;dsimp only[qQ,gQ,gE,vi,tm,mt,jk,jb,jR,jS];cases hz:decide (s.length=0)
 ·have hz':decide (Int.ofNat s.length>0)=true:=by
   have:s.length≠0:=of_decide_eq_false hz;simp only[Int.ofNat_eq_natCast,decide_eq_true_eq];omega
  cases hl:decide (s.length<=100)
  ·have hl':decide (Int.ofNat s.length<=100)=false:=by
    have:=of_decide_eq_false hl;simp only[Int.ofNat_eq_natCast,decide_eq_false_iff_not];omega
   have hr:zFm s=false:=by simp only[zFm,hl,Bool.and_false,Bool.false_and]
   replace hr:=Hid.mk hr;repeat refine zG ?_
   exact⟨by rw[hr.out],rfl⟩
  ·have hl':decide (Int.ofNat s.length<=100)=true:=by
    have:=of_decide_eq_true hl;simp only[Int.ofNat_eq_natCast,decide_eq_true_eq];omega
   repeat refine zR ?_
   refine zBM e1 s1 ((zQu H s hs _).mono ?_);rintro _ _ ⟨rfl,rfl⟩;have hq:(((zDM s:Nat):Int)==Int.ofNat s.length)=(zDM s==s.length):=by rw[Bool.eq_iff_iff];simp;omega
   cases hw:zDM s==s.length
   ·rw[hw] at hq;have hr:zFm s=false:=by simp only[zFm,hw,Bool.and_false,Bool.false_and]
    replace hr:=Hid.mk hr;repeat refine zG ?_
    exact⟨by rw[hr.out],rfl⟩
   ·rw[hw] at hq;have hr:zFm s= !zBH.contains s:=by simp only[zFm,hz,hl,hw,Bool.not_false,Bool.true_and]
    replace hr:=Hid.mk hr;repeat refine zR ?_
    refine zBM e1 s1 ((zPD H s _).mono ?_);rintro _ _ ⟨rfl,rfl⟩;repeat refine zG ?_
    exact⟨by rw[hr.out],rfl⟩
 ·have hz':decide (Int.ofNat s.length>0)=false:=by
   have:s.length=0:=of_decide_eq_true hz;simp only[Int.ofNat_eq_natCast,decide_eq_false_iff_not];omega
  have hr:zFm s=false:=by simp only[zFm,hz,Bool.not_true,Bool.false_and]
  replace hr:=Hid.mk hr;repeat refine zG ?_
  exact⟨by rw[hr.out],rfl⟩
end
section
variable{fns:FnsT}{summ:SumT}
variable(H:Has fns summ)
include H
end
end Go.Ab.S
end
section
namespace Go.Ab.S
open Go.Ab
theorem take5(a b c d e:AVal):List.take 5 [a,b,c,d,e]=[a,b,c,d,e]:=rfl
theorem zSF(n:Nat):decide ((Int.ofNat n:Int)>0)= !(n==0):=by
 cases n with
 |zero=>rfl
 |succ n=>simp
section
variable{fns:FnsT}{summ:SumT}
variable(H:Has fns summ)
include H
theorem zSd(n:Node)(hn:NodeSm n)(size:Int)(av lv:AVal)(h:AHeap)(hw:WF h)(ha:IntsAt h av n.args)(hl:StrsAt h lv n.labels):
    Cl fns summ 57 [zBf n av lv,.int .i64 size] h fun v h'=>v=.bool (mayF n size)/\Grow h h':=by
  have hs:=Hid.mk hn;clear hn;have hla:=ha.len;have hll:=hl.len;have n60:=hs.out.args;have l60:=hs.out.labels;unfold zBf;refine H.go (fn:=F_rmay) rfl (by decide) rfl rfl ?_;unfold F_rmay;dsimp only[qQ,gQ,vi,tm,mt,lo,fa,jk,jv,jb,ji,je,jc,jo,jt,jR,jS,jC,jL];refine zAu (zAz ?_);refine zAr e1 cc hw ?_;rintro b2 h1 hb2 g1 o2;repeat refine zR ?_
  refine zAp (N:=n.args.length) (fun j a hp=>hp=h1/\a.defers=[]/\ev a (.tmp 1)=some (.int .i64 size)/\ev a (.tmp 2)=some (.ptr (some (b2,0)))/\ev a (.tmp 10)=some av/\((n.args.take j).any fun a=>decide (a<0)||decide (a>=size))=false) ?_ ?_ ⟨rfl,n1,e1,e1,e1,rfl⟩
  · rintro j a hp hj ⟨rfl,hd,t1,t2,t10,hr⟩ hi hN;obtain⟨b,o,ver,ro,e,vs,hix,ae,hvo⟩:=ha.at (zgG hj);replace ae:=g1.keep _ _ ae;have ht:((n.args.take (j+1)).any fun a=>decide (a<0)||decide (a>=size))=(decide (n.args[j]<0)||decide (n.args[j]>=size)):=by
      rw[List.take_succ_eq_append_getElem hj,List.any_append,hr];simp
    have ad:(decide (n.args[j]<0)||decide (n.args[j]>=size))=true->mayF n size=false:=fun hh=>by unfold mayF;rw[if_pos (List.any_eq_true.2 ⟨_,List.getElem_mem hj,hh⟩)]
    cases k1:decide (n.args[j]<0)
    · cases k2:decide (n.args[j]>=size)
      · rw[k1,k2] at ht;replace ht:=Hid.mk ht;clear ad;repeat refine zR ?_
        exact⟨⟨rfl,n1,e1,e1,e1,ht.out⟩,e1,e1⟩
      · have hb:=Hid.mk (ad (by rw[k1,k2];rfl));clear ad ht;repeat refine zG ?_
        exact⟨by rw[hb.out],g1⟩
    · have hb:=Hid.mk (ad (by rw[k1];rfl));clear ad ht;repeat refine zG ?_
      exact⟨by rw[hb.out],g1⟩
  · rintro a hp ⟨rfl,hd,t1,t2,t10,hr⟩;rw[List.take_length] at hr;have hm:Hid (mayF n size=if n.kind==1 then ((n.labels.length==0&& !n.isOpen)&&eqL n.name [])&&n.args.length==0
      else if n.kind==2 then ((n.labels.length==0&& !n.isOpen)&&arIs n.name)&&n.args.length==arK n.name
      else if n.kind==3 then (eqL n.name []&&n.labels.length==n.args.length)&&zCZ n.labels
      else false):=⟨by simp only[mayF,hr];rfl⟩
    clear hr;have hz1:((Int.ofNat n.labels.length:Int)==0)=(n.labels.length==0):=by cases n.labels.length<;>rfl
    have hz2:((Int.ofNat n.args.length:Int)==0)=(n.args.length==0):=by cases n.args.length<;>rfl
    have hz3:((Int.ofNat n.args.length:Int)==2)=(n.args.length==2):=by rw[Bool.eq_iff_iff];simp;omega
    have hz4:((Int.ofNat n.labels.length:Int)==Int.ofNat n.args.length)=(n.labels.length==n.args.length):=by rw[Bool.eq_iff_iff];simp;omega
    have hz5:=zSF n.labels.length;cases k1:n.kind==1
    · cases k2:n.kind==2
      · cases k3:n.kind==3
        · have aa:Hid (mayF n size=false):=⟨by rw[hm.out,k1,k2,k3];rfl⟩;clear hm;repeat refine zG ?_
          exact⟨by rw[aa.out],g1⟩
        · have aa:Hid (mayF n size=((eqL n.name []&&n.labels.length==n.args.length)&&zCZ n.labels)):=⟨by rw[hm.out,k1,k2,k3];rfl⟩;clear hm;repeat refine zR ?_
          refine zAp (N:=n.labels.length) (fun j a hq=>hq=hp/\a.defers=[]/\ev a (.tmp 2)=some (.ptr (some (b2,0)))/\ev a (.tmp 97)=some lv/\zCZ n.labels=risG (zNa n.labels j) (n.labels.drop j)) ?_ ?_ ⟨rfl,n1,e1,e1,rfl⟩
          · clear hz1 hz2 hz3 hz4 hz5 hd t1 t2 t10;rintro j a hq hj ⟨rfl,hd,t2,t97,hr⟩ hi hN;have hc:n.labels[j]?=some n.labels[j]:=zgG hj;obtain⟨b,o,ver,ro,e,vs,hix,ae,hvo⟩:=hl.at hc;replace ae:=g1.keep _ _ ae;have ab:zCZ n.labels=false->Hid (mayF n size=false):=fun hh=>⟨by rw[aa.out,hh,Bool.and_false]⟩;repeat refine zR ?_
            refine zAL s1 ((zNb H _ (hs.out.texts _ (List.getElem_mem hj)) _).mono ?_);rintro _ _ ⟨rfl,rfl⟩;rw[zLC hc] at hr;cases hg:zCK n.labels[j]
            · rw[hg] at hr;have hb:=ab (by rw[hr];rfl);clear ab hr;repeat refine zG ?_
              exact⟨by rw[hb.out],g1⟩
            · rw[hg] at hr;cases j with
              |zero=>
                have hz:decide (((0:Nat):Int)>0)=false:=rfl;have af:Hid (zCZ n.labels=risG (zNa n.labels (0+1)) (n.labels.drop (0+1))):=⟨by rw[hr];show _=risG (n.labels[0]?) _;rw[hc];rfl⟩;clear ab hr;repeat refine zR ?_
                exact⟨⟨rfl,n1,e1,e1,af.out⟩,e1,e1⟩
              |succ j=>
                have hz:decide (((j+1:Nat):Int)>0)=true:=by simp
                have hc':n.labels[j]?=some n.labels[j]:=zgG (by omega);obtain⟨b',o',ver',ro',e',vs',hix',hget',hvo'⟩:=hl.at hc';replace hget':=g1.keep _ _ hget';have hw:IntKind.i64.wrap (((j+1:Nat):Int) - 1)=(j:Nat):=by rw[zAa (by omega) (by omega)];omega
                rw[zNa,hc'] at hr;cases hlt:zAn n.labels[j] n.labels[j+1]
                · simp only[hlt,Bool.and_false,Bool.false_and] at hr;have hb:=ab hr;clear ab hr;repeat refine zG ?_
                  exact⟨by rw[hb.out],g1⟩
                · simp only[hlt,Bool.and_true,Bool.true_and] at hr;have af:Hid (zCZ n.labels=risG (zNa n.labels (j+1+1)) (n.labels.drop (j+1+1))):=⟨by rw[hr];show _=risG (n.labels[j+1]?) _;rw[hc]⟩;clear ab hr;repeat refine zR ?_
                  exact⟨⟨rfl,n1,e1,e1,af.out⟩,e1,e1⟩
          · clear hd t1 t2 t10;rintro a hq ⟨rfl,hd,t2,t97,hr⟩;rw[List.drop_length] at hr;have af:Hid (mayF n size=(eqL n.name []&&n.labels.length==n.args.length)):=⟨by rw[aa.out,hr];simp[risG]⟩;clear hr;cases d1:eqL n.name []
            · rw[d1] at af;repeat refine zG ?_
              exact⟨by rw[af.out];simp,g1⟩
            · rw[d1] at af;repeat refine zG ?_
              exact⟨by rw[af.out];simp,g1⟩
      · have aa:Hid (mayF n size=(((n.labels.length==0&& !n.isOpen)&&arIs n.name)&&n.args.length==arK n.name)):=⟨by rw[hm.out,k1,k2];rfl⟩;clear hm;cases c1:n.labels.length==0
        · have hb:Hid (mayF n size=false):=⟨by rw[aa.out,c1];rfl⟩;repeat refine zG ?_
          exact⟨by rw[hb.out],g1⟩
        cases c2:n.isOpen;rotate_left
        · have hb:Hid (mayF n size=false):=⟨by rw[aa.out,c1,c2];rfl⟩;repeat refine zG ?_
          exact⟨by rw[hb.out],g1⟩
        cases c3:eqL n.name [45,62]
        · cases c4:eqL n.name [42]
          · have hb:Hid (mayF n size=((((eqL n.name [105,110,116]||eqL n.name [98,111,111,108])||eqL n.name [115,116,114,105,110,103])||eqL n.name [117,110,105,116])&&n.args.length==0)):=⟨by
              rw[aa.out,c1,c2];simp only[arIs,arK,c3,c4];cases eqL n.name [105,110,116]<;>cases eqL n.name [98,111,111,108]<;>cases eqL n.name [115,116,114,105,110,103]<;>cases eqL n.name [117,110,105,116]<;>simp⟩
            clear aa;cases c5:n.args.length==0
            · have ac:Hid (mayF n size=false):=⟨by rw[hb.out,c5,Bool.and_false]⟩;clear hb;repeat refine zG ?_
              exact⟨by rw[ac.out],g1⟩
            · have ac:Hid (mayF n size=((((eqL n.name [105,110,116]||eqL n.name [98,111,111,108])||eqL n.name [115,116,114,105,110,103])||eqL n.name [117,110,105,116]))):=⟨by rw[hb.out,c5,Bool.and_true]⟩;clear hb;cases d1:eqL n.name [105,110,116];rotate_left
              · rw[d1] at ac;repeat refine zG ?_
                exact⟨by rw[ac.out];simp,g1⟩
              cases d2:eqL n.name [98,111,111,108];rotate_left
              · rw[d1,d2] at ac;repeat refine zG ?_
                exact⟨by rw[ac.out];simp,g1⟩
              cases d3:eqL n.name [115,116,114,105,110,103];rotate_left
              · rw[d1,d2,d3] at ac;repeat refine zG ?_
                exact⟨by rw[ac.out];simp,g1⟩
              · rw[d1,d2,d3] at ac;repeat refine zG ?_
                exact⟨by rw[ac.out];simp,g1⟩
          · have hb:Hid (mayF n size=(n.args.length==2)):=⟨by
              rw[aa.out,c1,c2];have:n.name=[42]:=zAx.1 c4;rw[this];rfl⟩
            clear aa;repeat refine zG ?_
            exact⟨by rw[hb.out],g1⟩
        · have hb : Hid (mayF n size = (n.args.length == 2)) := ⟨by
              rw[aa.out,c1,c2];have:n.name=[45,62]:=zAx.1 c3;rw[this];rfl⟩
          clear aa;repeat refine zG ?_
          exact⟨by rw[hb.out],g1⟩
    · have aa:Hid (mayF n size=(((eqL n.name []&&n.args.length==0)&&n.labels.length==0)&& !n.isOpen)):=⟨by
        rw[hm.out,k1];show (((n.labels.length==0&& !n.isOpen)&&eqL n.name [])&&n.args.length==0)=_;cases n.labels.length==0<;>cases n.isOpen<;>cases eqL n.name []<;>cases n.args.length==0<;>rfl⟩
      clear hm;cases d1:eqL n.name []
      · rw[d1] at aa;repeat refine zG ?_
        exact⟨by rw[aa.out];simp,g1⟩
      cases d2:n.args.length==0
      · rw[d1,d2] at aa;repeat refine zG ?_
        exact⟨by rw[aa.out];simp,g1⟩
      cases d3:n.labels.length==0
      · rw[d1,d2,d3] at aa;repeat refine zG ?_
        exact⟨by rw[aa.out];simp,g1⟩
      · rw[d1,d2,d3] at aa;repeat refine zG ?_
        exact⟨by rw[aa.out];simp,g1⟩
theorem zGZ(g:Graph)(hg:GraphSm g)(v:AVal)(h:AHeap)(hw:WF h)(hv:GraphAt h v g):Cl fns summ 31 [v] h fun r h'=>r=.int .i64 (zAB g)/\Grow h h':=by
 obtain⟨nv,rfl,hN⟩:=hv;have hlen:=hN.len;have sg:=Hid.mk hg;have n60:=sg.out.nodes;clear hg;refine H.go (fn:=F_rCheck) rfl (by decide) rfl rfl ?_;unfold F_rCheck;dsimp only[qQ,qE,gQ,tm,mt,lo,fa,jk,jv,jl,js,ji,je,jd,jo,jt,jN,jR,jS,jC,jL];refine zAu (zAz ?_);refine zAr e1 cc hw ?_;rintro b1 h1 hb1 g1 o1;cases c8:decide ((Int.ofNat g.nodes.length:Int)>1048576);rotate_left
 ·have hr:Hid (zAB g=3):=⟨by unfold zAB;rw[if_pos (of_decide_eq_true c8)]⟩;repeat refine zG ?_
  exact⟨by rw[hr.out],g1⟩
 cases c1:decide (g.root<0);rotate_left
 ·have hr:Hid (zAB g=2):=⟨by unfold zAB;rw[if_neg (of_decide_eq_false c8),if_pos (of_decide_eq_true c1)]⟩;repeat refine zG ?_
  exact⟨by rw[hr.out],g1⟩
 cases c2:decide (g.root>=Int.ofNat g.nodes.length);rotate_left
 ·have hr:Hid (zAB g=2):=⟨by unfold zAB;rw[if_neg (of_decide_eq_false c8),if_neg (of_decide_eq_false c1),if_pos (of_decide_eq_true c2)]⟩;repeat refine zG ?_
  exact⟨by rw[hr.out],g1⟩
 have hr:Hid (zAB g=if g.nodes.any (fun n=> !mayF n g.nodes.length) then 2 else 0):=⟨by unfold zAB;rw[if_neg (of_decide_eq_false c8),if_neg (of_decide_eq_false c1),if_neg (of_decide_eq_false c2)]⟩;repeat refine zR ?_
 refine zAp (N:=g.nodes.length) (fun j a hp=>Grow h hp/\a.defers=[]/\ev a (.tmp 1)=some (.ptr (some (b1,0)))/\ev a (.tmp 21)=some nv/\(∃ver,hp.objs.get b1=some (ver,.cells false 24 [nv,.int .i64 g.root]))/\((g.nodes.take j).any fun n=> !mayF n g.nodes.length)=false) ?_ ?_ ⟨g1,n1,e1,e1,⟨_,o1⟩,rfl⟩
 ·clear o1 g1 c8 c1 c2;rintro j a hp hj ⟨gp,hd,t1,t21,⟨v1,o1⟩,aa⟩ hi hN';obtain⟨b,o,ver,ro,e,vs,av,lv,hix,ac,hvl,hvo,_,_,_,_,_,ia,il⟩:=hN.at (zgG hj);replace ac:=gp.keep _ _ ac;have ht:((g.nodes.take (j+1)).any fun n=> !mayF n g.nodes.length)= !mayF g.nodes[j] g.nodes.length:=by
   rw[List.take_succ_eq_append_getElem hj,List.any_append,aa];simp
  have hone:=zBo (n:=g.nodes[j]) ia.len il.len;have ab:g.nodes[j]∈g.nodes:=List.getElem_mem hj;replace ab:=Hid.mk ab;replace ht:=Hid.mk ht;have l1:=gp.wf.lt o1;clear aa;generalize hX:g.nodes[j]=X at*;repeat refine zR ?_
  refine zAM gp.wf ?_;rintro b4 h4 hb4 g4 o4;replace o1:=g4.keep _ _ o1;refine zAC e1 e1 (cs:=[.int .i64 X.kind,.str X.name,av,lv,.bool X.isOpen]) rfl rfl g4.wf o4 (by simp) hone ?_;rintro v5 h5 p5 o5;simp only[lL,Nat.reduceAdd] at o5;have gp5:Grow hp h5:=p5.grow hp gp.wf g4 hb4;replace o1:=p5.keep b1 (by omega) _ o1;have ht5:=take5;have G5:=gp.trans gp5;clear o4 g4 p5 ac hvo hvl hix;repeat refine zR ?_
  refine zAL s1 ((zSd H X (sg.out.all _ ab.out) (Int.ofNat g.nodes.length) av lv h5 gp5.wf (ia.mono G5) (il.mono G5)).mono ?_);rintro _ h6 ⟨rfl,g6⟩;replace o1:=g6.keep _ _ o1;have G6:=G5.trans g6;have hmq:mayF X (Int.ofNat g.nodes.length)=mayF X g.nodes.length:=rfl;rw[hmq];cases hmx:mayF X g.nodes.length
  ·have hb:Hid (zAB g=2):=⟨by rw[hr.out,if_pos (List.any_eq_true.2 ⟨_,ab.out,by rw[hmx];rfl⟩)]⟩;clear hmq;repeat refine zG ?_
   exact⟨by rw[hb.out],G6⟩
  ·rw[hmx] at ht;clear hmq;repeat refine zR ?_
   exact⟨⟨G6,n1,e1,e1,⟨_,o1⟩,ht.out⟩,e1,e1⟩
 ·rintro a hp ⟨gp,hd,t1,t21,_,aa⟩;rw[List.take_length] at aa;have hb:Hid (zAB g=0):=⟨by rw[hr.out,aa];rfl⟩;clear aa;repeat refine zG ?_
  exact⟨by rw[hb.out],gp⟩
end
end Go.Ab.S
end
