import Derived.Test.YtpmndmiohaaokaaGreatDoorP05
import Derived.Test.YtpmndmiohaaokaaGreatDoorP08
import Derived.Test.YtpmndmiohaaokaaGreatDoorP19
import Derived.Test.YtpmndmiohaaokaaGreatDoorP21
import Derived.Shelf.Strings.Search3
import Derived.Shelf.Strings.BuilderK
import Derived.Shelf.Strconv.Itoa3
import Derived.KernelRfl
import Derived.Test.YtpmndmiohaaokaaGreatDoorProg
/-
  Part 22 of the proof.
-/
set_option linter.all false
set_option maxHeartbeats 8000000
section
namespace Go.Ab.S
open Go Go.Ab
theorem zTo{g:Graph}{p:Pr}(h1:decide (p.1<0)=false)(h2:decide (p.1>=Int.ofNat g.nodes.length)=false)(h3:decide (p.2<0)=false)(h4:decide (p.2>=Int.ofNat g.nodes.length)=false):zBn g p=true:=by simp only[decide_eq_false_iff_not,Int.ofNat_eq_natCast] at h1 h2 h3 h4;simp only[zBn,decide_eq_true_eq];omega
theorem zTn{g:Graph}{p:Pr}(h:decide (p.1<0)=true\/decide (p.1>=Int.ofNat g.nodes.length)=true\/decide (p.2<0)=true\/decide (p.2>=Int.ofNat g.nodes.length)=true):zBn g p=false:=by simp only[decide_eq_true_eq,Int.ofNat_eq_natCast] at h;simp only[zBn,decide_eq_false_iff_not];omega
section
variable{fns:FnsT}{summ:SumT}
variable(H:Has fns summ)
include H
theorem zLk(g:Graph)(hg:GTi g)(ps:List Pr)(hps:ps.length<=2 ^ 20)(hL:zAU [] g.nodes 0<=2 ^ 20){gv pv:AVal}{h0:AHeap}(w0:WF h0)(hv:GraphAt h0 gv g)(hpv:PrsAt h0 pv ps):
  Cl fns summ 13 [gv,pv] h0 fun r h'=>Grow h0 h'/\∃un ur rv code A L,r=.tuple [.agg [un,.int .i64 ur],rv,.int .i64 code]/\one un=true/\lenO rv=some L.length/\Hid (GraphAt h' (.agg [un,.int .i64 ur]) A/\IntsAt h' rv L)/\Hid (CaseU g ps code/\(code≠0->A=zEs/\L=[])/\(code=0->UOut g ps A L)):=by
 obtain⟨nv,rfl,hN⟩:=hv;have hlen:=hN.len;have hN4:=hg.tinyN;have hlp:=hpv.1;rw[List.length_map] at hlp;have hpart:zAk (some 2) [nv,.int .i64 g.root] 0=some (.agg [nv,.int .i64 g.root]):=rfl;have e20:(2:Nat) ^ 20=1048576:=by decide
 have ht2:∀x y:AVal,List.take 2 [x,y]=[x,y]:=fun _ _=>rfl;refine H.go (fn:=F_rUnify08) rfl (by decide) rfl rfl ?_;unfold F_rUnify08;dsimp only[qQ,qE,gQ,vi,tm,mt,lo,fa,jk,jv,jl,js,ji,je,jc,jd,jf,jo,jt,jG,jN,jR,jS,jC,jL];refine zAu (zAz ?_);refine zAr e1 cc w0 ?_;rintro b2 h2 hb2 g2 o2;refine zAM g2.wf ?_;rintro b4 h4 hb4 g4 o4;have l2:=g2.wf.lt o2;replace o2:=g4.keep _ _ o2;have GW:=g2.trans g4;have n2:=g2.next;have hb42:h0.next<=b4:=by omega
 have ne24:b2≠b4:=by omega
 clear g2 g4 l2;repeat refine zR ?_
 refine zAL s1 ((zGZ H g hg.toGraphSm _ h4 GW.wf ⟨nv,rfl,hN.mono GW⟩).mono ?_);rintro _ h5 ⟨rfl,g5⟩;replace o2:=g5.keep _ _ o2;replace o4:=g5.keep _ _ o4;replace GW:=GW.trans g5;clear g5;cases hck:(zAB g != 0);rotate_left
 ·have hce:Hid (zAB g≠0):=⟨by simpa using hck⟩;repeat refine zR ?_
  refine zAC (v:=.agg [.slice none 0,.int .i64 0]) e1 e1 (cs:=[.slice none 0,.int .i64 0]) rfl rfl GW.wf o4 (by simp) rfl ?_;rintro v8 h8 p8 o8;simp only[lL,Nat.reduceAdd] at o8;have g8:=p8.grow h0 w0 GW hb42;clear p8;repeat refine zG ?_
  exact⟨g8,.slice none 0,0,.slice none 0,zAB g,zEs,[],rfl,rfl,rfl,⟨zDu _,zDX rfl⟩,⟨.inl ⟨rfl,hce.out⟩,fun _=>⟨rfl,rfl⟩,fun h=>absurd h hce.out⟩⟩
 have hcg:Hid (zAB g=0):=⟨by simpa using hck⟩;repeat refine zR ?_
 refine zAp (N:=ps.length) (fun j a hp=>Grow h0 hp/\(∃v,hp.objs.get b2=some (v,.cells false 24 [nv,.int .i64 g.root]))/\(∃v,hp.objs.get b4=some (v,.cells false 24 [.slice none 0,.int .i64 0]))/\Hid (∀p∈ps.take j,zBn g p=true)/\a.defers=[]/\ev a (.tmp 1)=some pv/\ev a (.tmp 2)=some (.ptr (some (b2,0)))/\ev a (.tmp 4)=some (.ptr (some (b4,0)))/\ev a (.tmp 22)=some pv) ?_ ?_ ⟨GW,⟨_,o2⟩,⟨_,o4⟩,⟨fun p hp=>by simp at hp⟩,n1,e1,e1,e1,e1⟩
 ·clear o2 o4 GW;rintro j a hp hj ⟨G,⟨v2,o2⟩,⟨v4,o4⟩,hok,hd,t1',t2',t4',t22'⟩ hi hn;obtain⟨bp,op,vp,rp,ep,vsp,hix,hgp0,hvp⟩:=hpv.at (zgG hj);have hgp:=G.keep _ _ hgp0;have hl2:op+2<=vsp.length:=by
   have:=congrArg List.length hvp;simp[zCB] at this;omega
  have hpc:zCB ps[j]=[.int .i64 ps[j].1,.int .i64 ps[j].2]:=rfl;rw[hpc] at hvp;have hyes:Hid (_):=⟨zTo (g:=g) (p:=ps[j])⟩;have hno:Hid (_):=⟨zTn (g:=g) (p:=ps[j])⟩;have hmem:=Hid.mk (List.getElem_mem hj);repeat refine zR ?_
  refine zAM G.wf ?_;rintro b9 h6 hb9 g6 o9;refine zAC e1 e1 cc rfl g6.wf o9 (by simp) rfl ?_;rintro v7 h7 p7 o9';simp only[lL,Nat.reduceAdd] at o9';have g7:Grow hp h7:=p7.grow hp G.wf g6 hb9;have o27:=g7.keep _ _ o2;have o47:=g7.keep _ _ o4;have GW:=G.trans g7;clear o9 g6 p7 hgp hix hgp0 hvp o2 o4 g7 G;repeat refine zR ?_
  refine st_q (v:=.ptr (some (b9,0))) (b:=none) (by rw[zAq];simp only[zAl,zAo,zAw,Nat.reduceEqDiff,if_true,if_false];rfl) ?_;repeat refine zR ?_
  cases z1:decide (ps[j].1<0);rotate_left
  ·have hbad:Hid (∃p∈ps,zBn g p=false):=⟨_,hmem.out,hno.out (.inl z1)⟩;repeat refine zR ?_
   refine zAC (v:=.agg [.slice none 0,.int .i64 0]) e1 e1 (cs:=[.slice none 0,.int .i64 0]) rfl rfl GW.wf o47 (by simp) rfl ?_;rintro v8 h8 p8 o8;simp only[lL,Nat.reduceAdd] at o8;have g8:=p8.grow h0 w0 GW hb42;clear p8;repeat refine zG ?_
   exact⟨g8,.slice none 0,0,.slice none 0,2,zEs,[],rfl,rfl,rfl,⟨zDu _,zDX rfl⟩,⟨.inr (.inl ⟨hcg.out,rfl,hbad.out⟩),fun _=>⟨rfl,rfl⟩,fun h=>by cases h⟩⟩
  refine zLI e1 (v:=.ptr (some (b9,0))) (b:=none) (by rw[zAq];simp only[zAl,zAo,zAw,Nat.reduceEqDiff,if_true,if_false];rfl) ?_;repeat refine zR ?_
  cases z2:decide (ps[j].1>=Int.ofNat g.nodes.length);rotate_left
  ·have hbad:Hid (∃p∈ps,zBn g p=false):=⟨_,hmem.out,hno.out (.inr (.inl z2))⟩;repeat refine zR ?_
   refine zAC (v:=.agg [.slice none 0,.int .i64 0]) e1 e1 (cs:=[.slice none 0,.int .i64 0]) rfl rfl GW.wf o47 (by simp) rfl ?_;rintro v8 h8 p8 o8;simp only[lL,Nat.reduceAdd] at o8;have g8:=p8.grow h0 w0 GW hb42;clear p8;repeat refine zG ?_
   exact⟨g8,.slice none 0,0,.slice none 0,2,zEs,[],rfl,rfl,rfl,⟨zDu _,zDX rfl⟩,⟨.inr (.inl ⟨hcg.out,rfl,hbad.out⟩),fun _=>⟨rfl,rfl⟩,fun h=>by cases h⟩⟩
  skip
  refine zLI e1 (v:=.ptr (some (b9,1))) (b:=none) (by rw[zAq];simp only[zAl,zAo,zAw,Nat.reduceEqDiff,if_true,if_false];rfl) ?_;repeat refine zR ?_
  cases z3:decide (ps[j].2<0);rotate_left
  ·have hbad:Hid (∃p∈ps,zBn g p=false):=⟨_,hmem.out,hno.out (.inr (.inr (.inl z3)))⟩;repeat refine zR ?_
   refine zAC (v:=.agg [.slice none 0,.int .i64 0]) e1 e1 (cs:=[.slice none 0,.int .i64 0]) rfl rfl GW.wf o47 (by simp) rfl ?_;rintro v8 h8 p8 o8;simp only[lL,Nat.reduceAdd] at o8;have g8:=p8.grow h0 w0 GW hb42;clear p8;repeat refine zG ?_
   exact⟨g8,.slice none 0,0,.slice none 0,2,zEs,[],rfl,rfl,rfl,⟨zDu _,zDX rfl⟩,⟨.inr (.inl ⟨hcg.out,rfl,hbad.out⟩),fun _=>⟨rfl,rfl⟩,fun h=>by cases h⟩⟩
  refine zLI e1 (v:=.ptr (some (b9,1))) (b:=none) (by rw[zAq];simp only[zAl,zAo,zAw,Nat.reduceEqDiff,if_true,if_false];rfl) ?_;repeat refine zR ?_
  cases z4:decide (ps[j].2>=Int.ofNat g.nodes.length);rotate_left
  ·have hbad:Hid (∃p∈ps,zBn g p=false):=⟨_,hmem.out,hno.out (.inr (.inr (.inr z4)))⟩;repeat refine zR ?_
   refine zAC (v:=.agg [.slice none 0,.int .i64 0]) e1 e1 (cs:=[.slice none 0,.int .i64 0]) rfl rfl GW.wf o47 (by simp) rfl ?_;rintro v8 h8 p8 o8;simp only[lL,Nat.reduceAdd] at o8;have g8:=p8.grow h0 w0 GW hb42;clear p8;repeat refine zG ?_
   exact⟨g8,.slice none 0,0,.slice none 0,2,zEs,[],rfl,rfl,rfl,⟨zDu _,zDX rfl⟩,⟨.inr (.inl ⟨hcg.out,rfl,hbad.out⟩),fun _=>⟨rfl,rfl⟩,fun h=>by cases h⟩⟩
  have hok':Hid (∀p∈ps.take (j+1),zBn g p=true):=⟨fun p hp=>by
   rw[List.take_succ_eq_append_getElem hj] at hp;rcases List.mem_append.1 hp with hp|hp
   ·exact hok.out p hp
   ·rw[List.mem_singleton.1 hp];exact hyes.out z1 z2 z3 z4⟩
  clear z1 z2 z3;repeat refine zR ?_
  exact⟨⟨GW,⟨_,o27⟩,⟨_,o47⟩,hok',n1,e1,e1,e1,e1⟩,e1,e1⟩
 clear o2 o4 GW;rintro a hp ⟨G,⟨v2,o2⟩,⟨v4,o4⟩,hok,hd,t1',t2',t4',t22'⟩;rw[List.take_length] at hok;have hnN:0<g.nodes.length:=by have h1:=(zAN hcg.out).1;have h2:=(zAN hcg.out).2.1;omega
 refine zAd ?_;repeat refine zR ?_
 refine zAL s1 ((zPE H (N:=g.nodes.length) (by omega) hnN hlen hp G.wf).mono ?_);rintro _ hq ⟨c,rb,rfl,gN,hcl,hrl,C0⟩;have p2:=gN.keep _ _ o2;have p4:=gN.keep _ _ o4;have l2:=G.wf.lt o2;have l4:=G.wf.lt o4;have GW:=G.trans gN;have hr2:b2≠rb/\b4≠rb:=by omega
 have hrb:h0.next<=rb:=by have:=G.next;omega
 have D0:Hid (∃R,(DJ g ps R/\∀p∈ps.take 0,clAt R p.1=clAt R p.2)/\ClsAt hq c rb nv g.nodes.length R):=⟨_,⟨DJ.new,fun p hp=>by simp at hp⟩,C0⟩;obtain⟨R0,D0,C0⟩:=D0.out;replace D0:=Hid.mk D0;replace C0:=Hid.mk C0;clear o2 o4 gN G l2 l4 hcl hrl;repeat refine zR ?_
 refine zAp (N:=ps.length) (fun j a hp=>∃R,Hid (DJ g ps R/\∀p∈ps.take j,clAt R p.1=clAt R p.2)/\Hid (ClsAt hp c rb nv g.nodes.length R)/\Hid (Grow h0 hp)/\(∃v,hp.objs.get b2=some (v,.cells false 24 [nv,.int .i64 g.root]))/\(∃v,hp.objs.get b4=some (v,.cells false 24 [.slice none 0,.int .i64 0]))/\a.defers=[]/\ev a (.tmp 2)=some (.ptr (some (b2,0)))/\ev a (.tmp 4)=some (.ptr (some (b4,0)))/\ev a (.tmp 10)=some (.ptr (some (c,0)))/\ev a (.tmp 57)=some pv) ?_ ?_ ⟨R0,D0,C0,⟨GW⟩,⟨_,p2⟩,⟨_,p4⟩,n1,e1,e1,e1,e1⟩
 ·clear p2 p4 GW D0 C0 hd t1' t2' t4' t22';rintro j a hp hj ⟨R,D,C,G,⟨v2,o2⟩,⟨v4,o4⟩,hd,t2',t4',t10',t57'⟩ hi hn;obtain⟨bp,op,vp,rp,ep,vsp,hix,hgp0,hvp⟩:=hpv.at (zgG hj);have hgp:=G.out.keep _ _ hgp0;have hl2:op+2<=vsp.length:=by
   have:=congrArg List.length hvp;simp[zCB] at this;omega
  have hin:InG g ps[j].1/\InG g ps[j].2:=zPH.1 (hok.out _ (List.getElem_mem hj));obtain⟨x,hx⟩:∃x:Nat,ps[j].1=x:=⟨ps[j].1.toNat,by have:=hin.1.1;omega⟩;obtain⟨y,hy⟩:∃y:Nat,ps[j].2=y:=⟨ps[j].2.toNat,by have:=hin.2.1;omega⟩;have hpc:zCB ps[j]=[.int .i64 (x:Nat),.int .i64 (y:Nat)]:=by rw[zCB,hx,hy]
  rw[hpc] at hvp;have hxN:x<g.nodes.length:=by have:=hin.1.2;omega
  have hyN:y<g.nodes.length:=by have:=hin.2.2;omega
  have D':Hid (DJ g ps (zCJ R (x:Int) (y:Int))/\∀p∈ps.take (j+1),clAt (zCJ R (x:Int) (y:Int)) p.1=clAt (zCJ R (x:Int) (y:Int)) p.2):=⟨by
   have hin':=hin;rw[hx,hy] at hin';have hm:((x:Int),(y:Int))∈ps:=by rw[<-hx,<-hy];exact List.getElem_mem hj
   obtain⟨d1,d2,d3⟩:=D.out.1.join hin'.1 hin'.2 (.pair hm hin'.1 hin'.2);refine⟨d1,fun p hp=>?_⟩;rw[List.take_succ_eq_append_getElem hj] at hp;rcases List.mem_append.1 hp with hp|hp
   ·obtain⟨i1,i2⟩:=zPH.1 (hok.out p (List.mem_of_mem_take hp));exact d2 _ _ i1 i2 (D.out.2 p hp)
   ·rw[List.mem_singleton.1 hp,hx,hy];exact d3⟩
  clear hpc hgp0 hx hy hin;repeat refine zR ?_
  refine zAM G.out.wf ?_;rintro b9 h6 hb9 g6 o9;refine zAC e1 e1 cc rfl g6.wf o9 (by simp) rfl ?_;rintro v7 h7 p7 o9';simp only[lL,Nat.reduceAdd] at o9';have g7:Grow hp h7:=p7.grow hp G.out.wf g6 hb9;have o27:=g7.keep _ _ o2;have o47:=g7.keep _ _ o4;have G7:=Hid.mk (G.out.trans g7);have C7:=Hid.mk (C.out.grow g7);have w7:=g7.wf;clear o9 g6 p7 hgp hix hvp o2 o4 g7 hl2;repeat refine zR ?_
  refine st_q (v:=.ptr (some (b9,0))) (b:=none) (by rw[zAq];simp only[zAl,zAo,zAw,Nat.reduceEqDiff,if_true,if_false];rfl) ?_;repeat refine zR ?_
  refine st_q (v:=.ptr (some (b9,1))) (b:=none) (by rw[zAq];simp only[zAl,zAo,zAw,Nat.reduceEqDiff,if_true,if_false];rfl) ?_;repeat refine zR ?_
  refine zAL s1 ((zJE H (by omega) h7 w7 C7.out hxN hyN).mono ?_);rintro _ h8 ⟨rfl,B8,C8⟩;have o28:=B8.keep _ hr2.1 _ o27;have o48:=B8.keep _ hr2.2 _ o47;have G8:Hid (Grow h0 h8):=⟨B8.grow h0 w0 G7.out hrb⟩;have C8':=Hid.mk C8;generalize decide (clAt R ((x:Nat):Int)≠clAt R ((y:Nat):Int))=dd at*;clear B8 C8 o27 o47 o9';repeat refine zR ?_
  exact⟨⟨_,D',C8',G8,⟨_,o28⟩,⟨_,o48⟩,n1,e1,e1,e1,e1⟩,e1,e1⟩
 clear p2 p4 GW D0 C0 hd t1' t2' t4' t22';rintro a hp ⟨R,D,C,G,⟨v2,o2⟩,⟨v4,o4⟩,hd,t2',t4',t10',t57'⟩;rw[List.take_length] at D;refine zAd ?_;repeat refine zR ?_
 refine zAL s1 ((zLj H g hg hcg.out ps D.out.1 w0 hN G.out hrb C.out).mono ?_);rintro _ hA ⟨ok,R',rfl,BA,CA,LA⟩;have oA2:=BA.keep _ hr2.1 _ o2;have oA4:=BA.keep _ hr2.2 _ o4;have GW:Grow h0 hA:=BA.grow h0 w0 G.out hrb;have CA':=Hid.mk CA;clear o2 o4 G C BA CA;cases ok
 ·have hno:Hid (¬Consi g ps):=⟨LA.out.bad rfl⟩;repeat refine zR ?_
  refine zAC (v:=.agg [.slice none 0,.int .i64 0]) e1 e1 (cs:=[.slice none 0,.int .i64 0]) rfl rfl GW.wf oA4 (by simp) rfl ?_;rintro v8 h8 p8 o8;simp only[lL,Nat.reduceAdd] at o8;have g8:=p8.grow h0 w0 GW hb42;clear p8;repeat refine zG ?_
  exact⟨g8,.slice none 0,0,.slice none 0,8,zEs,[],rfl,rfl,rfl,⟨zDu _,zDX rfl⟩,⟨.inr (.inr (.inl ⟨hcg.out,rfl,hok.out,hno.out⟩)),fun _=>⟨rfl,rfl⟩,fun h=>by cases h⟩⟩
 have law:Hid ((∀a b,Uni g ps a b->clAt R' a=clAt R' b)/\Consi g ps):=⟨LA.out.dj.fin hcg.out (fun p hp=>by
  obtain⟨i1,i2⟩:=zPH.1 (hok.out p hp);exact LA.out.mono _ _ i1 i2 (D.out.2 p hp)) (LA.out.done rfl)⟩
 have IR:=Hid.mk LA.out.dj;clear LA D;have hroot:=(zAN hcg.out).1;have hroot2:=(zAN hcg.out).2.1;obtain⟨x,hx⟩:∃x:Nat,g.root=x:=⟨g.root.toNat,by omega⟩;have hxN:x<g.nodes.length:=by omega
 obtain⟨⟨vc,oc⟩,vr,vs,hor,hvs,hvl⟩:=CA'.out;have hvx:=zCM hvs hxN hvl;have hixx:slA (.slice (some (rb,0)) g.nodes.length) 1 x=some (rb,x):=by simp[slA,hxN]
 obtain⟨u,hu⟩:∃u,clAt R' (x:Int)=u:=⟨_,rfl⟩;rw[hu] at hvx;rw[hx] at oA2;have hru:Hid (u=clAt R' g.root):=⟨by rw[hx,hu]⟩;have hRl:=CA'.out.2.len;have hlenr:lenO (.slice (some (rb,0)) g.nodes.length)=some g.nodes.length:=rfl;have wA:=GW.wf;clear hu hx hroot hroot2 hpart;repeat refine zR ?_
 refine dr_q (v:=.agg [.slice none 0,.int .i64 u]) (by rw[zBF];simp only[zCV,zAl,zAo,zAw,if_true,if_false,Nat.reduceEqDiff,zAb];rfl) ?_;refine zAS (zAM wA ?_);rintro b13 hB hb13 gB oB;have kc:=gB.keep _ _ oc;have k2:=gB.keep _ _ oA2;have kr:=gB.keep _ _ hor;refine zAK ⟨by simp[zAJ,Nat.testBit,kc,k2,kr],?_⟩;refine zAS (zAC (v:=.agg [.slice none 0,.int .i64 u]) e1 e1 (cs:=[.slice none 0,.int .i64 u]) rfl rfl gB.wf oB (by simp) rfl ?_);rintro v14 hC p14 oC;have lc:=wA.lt oc;have lr:=wA.lt hor;have l2:=wA.lt oA2;have l4:=wA.lt oA4;have kc':=p14.keep c (by omega) _ kc;have k2':=p14.keep b2 (by omega) _ k2;have kr':=p14.keep rb (by omega) _ kr;have k4':=p14.keep b4 (by omega) _ (gB.keep _ _ oA4);refine zAK ⟨by simp[zAJ,Nat.testBit,kc',k2',kr'],?_⟩;simp only[lL,Nat.reduceAdd] at oC;have gC:Grow hA hC:=p14.grow hA wA gB hb13;have gC':=Hid.mk gC;have nb4:b4≠b13:=by omega
 clear kc k2 kr oB p14 gB k2' kr' oA2 lc lr l2 hvx hixx gC;repeat refine zR ?_
 refine zAp (N:=g.nodes.length) (fun j a hp=>∃vo cs ns,(∃v,hp.objs.get b13=some (v,.cells false 24 [vo,.int .i64 u]))/\(∃v,hp.objs.get b4=some (v,.cells false 24 [.slice none 0,.int .i64 0]))/\Hid (Built hp hA.next 36 5 vo j (List.flatten cs))/\Hid (List.length cs=j/\List.length ns=j)/\Hid (∀(i:Nat) c n,cs[i]?=some c->ns[i]?=some n->OwnN hp hA.next c n)/\Hid (∀(i:Nat) n,ns[i]?=some n->NodeR g R' (clAt R' (i:Int)) n)/\Hid (Grow hA hp)/\a.defers=[]/\ev a (.tmp 4)=some (.ptr (some (b4,0)))/\ev a (.tmp 10)=some (.ptr (some (c,0)))/\ev a (.tmp 13)=some (.ptr (some (b13,0)))/\ev a (.tmp 86)=some (.slice (some (rb,0)) g.nodes.length)) ?_ ?_ ⟨_,[],[],⟨_,oC⟩,⟨_,k4'⟩,⟨.inl ⟨rfl,rfl,rfl⟩⟩,⟨rfl,rfl⟩,⟨fun i c n h=>by simp at h⟩,⟨fun i n h=>by simp at h⟩,gC',n1,e1,e1,e1,e1⟩
 ·clear oC k4' kc' gC' hd t2' t4' t10' t57';rintro j a hp hj ⟨vo,cs,ns,⟨v13,o13⟩,⟨v4',o4⟩,B,L,ON,NR,G,hd,t4',t10',t13',t86'⟩ hi hn;have hvj:=zCM hvs hj hvl;have hixj:slA (.slice (some (rb,0)) g.nodes.length) 1 j=some (rb,j):=by simp[slA,hj]
  obtain⟨r,hr⟩:∃r,clAt R' (j:Int)=r:=⟨_,rfl⟩;rw[hr] at hvj;have hr':=Hid.mk hr;have hork:=G.out.keep _ _ hor;have wp:=G.out.wf;have nodeC:=Hid.mk (zNd H g hg hcg.out hL ps IR.out r (h:=hp) hN (GW.trans G.out) (CA'.out.grow G.out));have lvo:=B.out.len;clear hr;repeat refine zR ?_
  refine zAS (zAL s1 (nodeC.out.mono ?_));rintro _ h6 ⟨g6,M,av,lv,rfl,hM,Ba,Bl⟩;have q13:=g6.keep _ _ o13;have q4:=g6.keep _ _ o4;refine zAK ⟨by simp[zAJ,Nat.testBit,q13],?_⟩;have oa:=zAD Ba.len;have ol:=zAD Bl.len;have nA:=G.out.next;have n6:=g6.next;have w6:=g6.wf;refine zAS (zAT (v:=zBf M av lv) e1 (cs:=[.int .i64 M.kind,.str M.name,av,lv,.bool M.isOpen]) rfl rfl rfl w6 ?_);rintro bx h7 hbx g7 ox;have s13:=g7.keep _ _ q13;have s4:=g7.keep _ _ q4;refine zAK ⟨by simp[zAJ,Nat.testBit,s13],?_⟩;have B7:=(B.out.grow g6).grow g7;have n7:=g7.next;refine zAS (zAZ e1 e1 B7 ox rfl (by simp only[List.all_cons,List.all_nil,oa,ol,Bool.true_and,Bool.and_true];rfl) (zBN H (b:=80) (k:=j+1) (by decide) (by omega)) g7.wf (by omega) ?_);rintro vo' h8 B8 f8 w8 n8 gr8 kp8;have s138:=kp8 _ _ s13 (zAE B7 s13 fun vs hh=>by cases hh);have s48:=kp8 _ _ s4 (zAE B7 s4 fun vs hh=>by cases hh);refine zAK ⟨by simp[zAJ,Nat.testBit,s138],?_⟩;have G8:=gr8 hA wA ((G.out.trans g6).trans g7) (Nat.le_refl _);have lv8:=B8.len;have k38:∀b p,h7.objs.get b=some p->((∃vs,p.2=.cells false 3 vs)\/∃vs,p.2=.cells false 9 vs)->h8.objs.get b=some p:=fun b p hb hp=>kp8 b p hb (zAE B7 hb fun vs hh=>by
   rcases hp with⟨ws,hp⟩|⟨ws,hp⟩<;>rw[hh] at hp<;>cases hp)
  have ON8:Hid (∀(i:Nat) c n,(cs++[[.int .i64 M.kind,.str M.name,av,lv,.bool M.isOpen]])[i]?=some c->(ns++[M])[i]?=some n->OwnN h8 hA.next c n):=⟨fun i c n hc hn=>by
   rcases Nat.lt_or_ge i j with hij|hij
   ·rw[List.getElem?_append_left (by rw[L.out.1];exact hij)] at hc;rw[List.getElem?_append_left (by rw[L.out.2];exact hij)] at hn;exact OwnN_stay (ON.out i c n hc hn) fun b p hb hp=>k38 b p (g7.keep _ _ (g6.keep _ _ hb)) hp
   ·rw[List.getElem?_append_right (by rw[L.out.1];exact hij),L.out.1] at hc;rw[List.getElem?_append_right (by rw[L.out.2];exact hij),L.out.2] at hn;obtain rfl:i=j:=by
     have:=(zgS.1 hc).1;simp only[zlC,zlN] at this;omega
    rw[Nat.sub_self,zgZ,oI] at hc hn;subst hc;subst hn;exact OwnN_stay ⟨av,lv,rfl,zAW Ba nA,zAW Bl nA⟩ fun b p hb hp=>k38 b p (g7.keep _ _ hb) hp⟩
  have NR8:Hid (∀(i:Nat) n,(ns++[M])[i]?=some n->NodeR g R' (clAt R' (i:Int)) n):=⟨fun i n hn=>by
   rcases Nat.lt_or_ge i j with hij|hij
   ·rw[List.getElem?_append_left (by rw[L.out.2];exact hij)] at hn;exact NR.out i n hn
   ·rw[List.getElem?_append_right (by rw[L.out.2];exact hij),L.out.2] at hn;obtain rfl:i=j:=by
     have:=(zgS.1 hn).1;simp only[zlC,zlN] at this;omega
    rw[Nat.sub_self,zgZ,oI] at hn;subst hn;rw[hr'.out];exact hM.out⟩
  have B8':Hid (Built h8 hA.next 36 5 vo' (j+1) (List.flatten (cs++[[.int .i64 M.kind,.str M.name,av,lv,.bool M.isOpen]]))):=⟨by rw[List.flatten_append];simpa using B8⟩;have L8:Hid ((cs++[[.int .i64 M.kind,.str M.name,av,lv,.bool M.isOpen]]).length=j+1/\(ns++[M]).length=j+1):=⟨by rw[zgL,zgL,L.out.1,L.out.2];exact⟨rfl,rfl⟩⟩;generalize cs++[[.int .i64 M.kind,.str M.name,av,lv,.bool M.isOpen]]=cs' at*;generalize ns++[M]=ns' at*;clear o13 o4 q13 q4 s13 s4 ox g6 g7 B7 B8 f8 gr8 kp8 k38 B L ON NR Ba Bl nodeC G hork hvj hixj;repeat refine zR ?_
  refine zAS (zAC e1 e1 (zAO lv8) rfl w8 s138 (by simp) (by simp only[List.all_cons,List.all_nil,zAD lv8,Bool.and_true]) ?_);rintro v9 h9 p9 o9;refine zAK ⟨by simp[zAJ,Nat.testBit],?_⟩;simp only[lL,Nat.reduceAdd] at o9;have G9:Hid (Grow hA h9):=⟨p9.grow hA wA G8 hb13⟩;have B9:Hid (Built h9 hA.next 36 5 vo' (j+1) (List.flatten cs')):=⟨zAG B8'.out p9 s138 fun vs hh=>by cases hh⟩;have ON9:Hid (∀(i:Nat) c n,cs'[i]?=some c->ns'[i]?=some n->OwnN h9 hA.next c n):=⟨fun i c n hc hn=>OwnN_stay (ON8.out i c n hc hn) fun b p hb hp=>p9.keep b (by
   rintro rfl;rw[s138] at hb;simp only[oI] at hb;rcases hp with⟨ws,hp⟩|⟨ws,hp⟩<;>rw[<-hb] at hp<;>cases hp) _ hb⟩
  have k49:=p9.keep b4 nb4 _ s48;clear s138 s48 p9 B8' ON8 G8;repeat refine zR ?_
  exact⟨⟨_,_,_,⟨_,o9⟩,⟨_,k49⟩,B9,L8,ON9,NR8,G9,n1,e1,e1,e1,e1⟩,e1,e1⟩
 clear oC k4' kc' gC' hd t2' t4' t10' t57';rintro a hp ⟨vo,cs,ns,⟨v13,o13⟩,⟨v4',o4⟩,B,L,ON,NR,G,hd,t4',t10',t13',t86'⟩;have own:Hid (OwnG hp hA.next (.agg [vo,.int .i64 u]) ⟨ns,u⟩):=⟨vo,cs,rfl,by show Built _ _ _ _ _ ns.length _;rw[L.out.2];exact B.out,L.out.1.trans L.out.2.symm,ON.out⟩;have O:Hid (UOut g ps ⟨ns,u⟩ R'):=⟨IR.out.out hcg.out law.out.1 law.out.2 L.out.2 hru.out fun i hi=>by
  obtain⟨k,rfl⟩:∃k:Nat,i=k:=⟨i.toNat,by have:=hi.1;omega⟩;have hk:k<ns.length:=by have:=hi.2;rw[L.out.2];omega
  have:zAA ⟨ns,u⟩ (k:Int)=ns[k]:=by simp[zAA,hk]
  rw[this];exact NR.out k _ (zgG hk)⟩
 have onev:=zAD B.out.len;have ock:=G.out.keep _ _ oc;have wp:=G.out.wf;have rowI:=Hid.mk (CA'.out.grow G.out);refine zAd ?_;repeat refine zR ?_
 refine zAS (zAC (v:=.agg [vo,.int .i64 u]) e1 e1 (cs:=[vo,.int .i64 u]) rfl rfl wp o4 (by simp) (by simp only[List.all_cons,List.all_nil,onev,Bool.true_and,Bool.and_true];rfl) ?_);rintro v9 h9 p9 o9;have nc:c≠b4:=by rintro rfl;rw[ock] at o4;cases o4
 have nr:rb≠b4:=hr2.2.symm;have oc9:=p9.keep c nc _ ock;have n13:b13≠b4:=fun h=>nb4 h.symm;have o139:=p9.keep b13 n13 _ o13;refine zAK ⟨by simp[zAJ,Nat.testBit,oc9,o139],?_⟩;simp only[lL,Nat.reduceAdd] at o9;have hfin:Hid (Grow h0 h9/\GraphAt h9 (.agg [vo,.int .i64 u]) ⟨ns,u⟩/\IntsAt h9 (.slice (some (rb,0)) g.nodes.length) R'):=⟨p9.grow h0 w0 (GW.trans G.out) hb42,(own.out.stay fun c p hc hp _=>p9.keep c (by have:=hb13;omega) _ hp).graph,by
  obtain⟨⟨_,_⟩,ver,vs',k1,k2,k3⟩:=rowI.out;exact RowI.ints ⟨ver,vs',p9.keep rb nr _ k1,k2,k3⟩⟩
 have hrl':Hid (lenO (.slice (some (rb,0)) g.nodes.length)=some R'.length):=⟨by rw[hRl];rfl⟩;clear p9 o4 o13 ock oc9 o139 B ON;repeat refine zG ?_
 exact⟨hfin.out.1,vo,u,_,0,⟨ns,u⟩,R',rfl,onev,hrl'.out,⟨hfin.out.2⟩,⟨.inr (.inr (.inr ⟨hcg.out,rfl,hok.out,law.out.2⟩)),fun h=>absurd rfl h,fun _=>O.out⟩⟩
end
end Go.Ab.S
end
section
namespace Go.Ab
open Go.RowKit (Below)

mutual
def mapV(f:Nat->Nat):AVal->AVal
 | .ptr (some p)=>.ptr (some (f p.1,p.2))
 | .slice (some p) n=>.slice (some (f p.1,p.2)) n
 | .agg l=>.agg (zEq f l)
 | .tuple l=>.tuple (zEq f l)
 | .iface t v=>.iface t (mapV f v)
 |v=>v
def zEq(f:Nat->Nat):List AVal->List AVal
 |[]=>[]
 |x::r=>mapV f x::zEq f r
end
mutual
def zGX(k:Nat):AVal->Bool
 | .ptr (some p)=>Nat.blt p.1 k
 | .slice (some p) _=>Nat.blt p.1 k
 | .agg l=>zDL k l
 | .tuple l=>zDL k l
 | .iface _ v=>zGX k v
 | .map (some _)=>false
 | .func _ _ _=>false
 | .yield _=>false
 |_=>true
def zDL(k:Nat):List AVal->Bool
 |[]=>true
 |x::r=>zGX k x&&zDL k r
end
theorem zDR(f:Nat->Nat):∀l:List AVal,(zEq f l).length=l.length
 |[]=>rfl
 |_::r=>congrArg (· +1) (zDR f r)

section
variable{P:Program}{G G':GM}{f g:Nat->Nat}{k:Nat}
mutual
theorem VR.ren(hG:∀i,i<k->∀gi,G (f i)=some gi->G' (g i)=some gi):∀{x:AVal} {v:Value},zGX k x=true->VR P G (mapV f x) v->VR P G' (mapV g x) v
 | .bool _,_,_,e=>e
 | .int _ _,_,_,e=>e
 | .str _,_,_,e=>e
 | .ptr none,_,_,e=>e
 | .ptr (some p),_,h,⟨gi,e,r⟩=>⟨gi,hG _ (Nat.blt_eq.mp h) _ e,r⟩
 | .slice none _,_,_,e=>e
 | .slice (some p) _,_,h,⟨gi,c,e,r⟩=>⟨gi,c,hG _ (Nat.blt_eq.mp h) _ e,r⟩
 | .slice0,_,_,e=>e
 | .sliceE,_,_,e=>e
 | .map none,_,_,e=>e
 | .map (some _),_,h,_=>by cases h
 | .func _ _ _,_,h,_=>by cases h
 | .yield _,_,h,_=>by cases h
 | .nilFunc,_,_,e=>e
 | .iface _ _,_,h,⟨y,e,r⟩=>⟨y,e,VR.ren hG h r⟩
 | .nilIface,_,_,e=>e
 | .agg _,_,h,⟨L,e,r⟩=>⟨L,e,VsR.ren hG h r⟩
 | .tuple _,_,h,⟨L,e,r⟩=>⟨L,e,VsR.ren hG h r⟩
theorem VsR.ren(hG:∀i,i<k->∀gi,G (f i)=some gi->G' (g i)=some gi):∀{xs:List AVal} {vs:List Value},zDL k xs=true->VsR P G (zEq f xs) vs->VsR P G' (zEq g xs) vs
 |[],_,_,e=>e
 |_::_,_,h,⟨y,ys,e,a,b⟩=>by simp only[zDL,Bool.and_eq_true] at h;exact⟨y,ys,e,VR.ren hG h.1 a,VsR.ren hG h.2 b⟩
end
end

def layH(n:Nat):List (TypeId×List AVal)->AHeap->AHeap
 |[],h=>h
 |(e,vs)::r,h=>layH n r (newA h (.cells false e (zEq (n+ ·) vs)))
theorem zEy(n:Nat):∀(os:List (TypeId×List AVal)) (h:AHeap),(layH n os h).next=h.next+os.length
 |[],h=>rfl
 |(e,vs)::r,h=>by rw[layH,zEy n r];simp only[newA,zlC];omega
theorem zJi(n:Nat):∀(os:List (TypeId×List AVal)) (h:AHeap) (b:Nat),b<h.next\/h.next+os.length<=b->(layH n os h).objs.get b=h.objs.get b
 |[],h,_,_=>rfl
 |(e,vs)::r,h,b,hb=>by simp only[zlC] at hb;rw[layH,zJi n r _ b (by simp only[newA];omega)];simp only[newA,T.get_set];rw[if_neg (by omega)]
theorem zBy(n:Nat):∀(os:List (TypeId×List AVal)) (h:AHeap) (i:Nat) (e:TypeId) (vs:List AVal),os[i]?=some (e,vs)->(layH n os h).objs.get (h.next+i)=some (h.next+i,.cells false e (zEq (n+ ·) vs))
 |[],h,_,_,_,hi=>by simp at hi
 |(e,vs)::r,h,0,e',vs',hi=>by
  simp only[zgZ,oI,Prod.mk.injEq] at hi;obtain⟨rfl,rfl⟩:=hi;rw[layH,zJi n r _ _ (by simp only[newA];omega)];simp only[newA,T.get_set,Nat.add_zero,if_true]
 |(e,vs)::r,h,i+1,e',vs',hi=>by simp only[List.getElem?_cons_succ] at hi;have:=zBy n r (newA h (.cells false e (zEq (n+ ·) vs))) i e' vs' hi;rw[layH,show h.next+(i+1)=(newA h (.cells false e (zEq (n+ ·) vs))).next+i by simp only[newA];omega];exact this

section
variable{P:Program}{N:Nat}{w0 w w':World}{G GA GA':GM}{h hA hA':AHeap}

theorem Rel.beside(R1:Rel P N w0 G h w)(R2:Rel P N w0 GA' hA' w')(E2:Ext GA hA w GA' hA' w')(hro:∀id x,hA.objs.get id=some x->x.2.ro=true)
  {os:List (TypeId×List AVal)} {keep:List Nat} (hk:keep.length=os.length) (hnd:keep.Nodup) (hpl:∀o∈os,zDL os.length o.2=true)
  (hos:∀(i:Nat) e vs,os[i]?=some (e,vs)->∃ver,hA'.objs.get (keep.getD i 0)=some (ver,.cells false e (zEq (fun j=>keep.getD j 0) vs))) {v0:AVal} {cv:Value} (hv0:zGX os.length v0=true) (hv:VR P GA' (mapV (fun j=>keep.getD j 0) v0) cv):
  ∃G'',Rel P N w0 G'' (layH h.next os h) w'/\Ext G h w G'' (layH h.next os h) w'/\VR P G'' (mapV (h.next+ ·) v0) cv:=by
 have hfr:∀b,b<w.heap.size->w'.heap[b]?=w.heap[b]?:=fun b hb=>E2.frame b hb fun id x gi hx hf _=>by rw[hro id x hx] at hf;cases hf
 have hnew:∀(i:Nat) e vs,os[i]?=some (e,vs)->∃ver gi ob,hA'.objs.get (keep.getD i 0)=some (ver,.cells false e (zEq (fun j=>keep.getD j 0) vs))/\GA' (keep.getD i 0)=some gi/\w'.heap[gi.blk]?=some ob/\OR P GA' gi (.cells false e (zEq (fun j=>keep.getD j 0) vs)) ob/\w.heap.size<=gi.blk:=by
  intro i e vs hi;obtain⟨ver,h1⟩:=hos i e vs hi;obtain⟨gi,h2,ob,h3,h4⟩:=R2.obj _ _ _ h1;refine⟨ver,gi,ob,h1,h2,h3,h4,?_⟩;rcases E2.owned _ _ gi h1 rfl h2 with h5|⟨id0,x0,_,h5,h6,_⟩
  ·exact h5
  ·rw[hro id0 x0 h5] at h6;cases h6
 let G'':GM:=fun i=>if h.next<=i/\i<h.next+os.length then GA' (keep.getD (i - h.next) 0) else G i
 have hG1:∀i,i<os.length->G'' (h.next+i)=GA' (keep.getD i 0):=fun i hi=>by show (if _ then _ else _)=_;rw[if_pos (by omega),show h.next+i - h.next=i by omega]
 have hG2:∀i,i<h.next->G'' i=G i:=fun i hi=>by show (if _ then _ else _)=_;rw[if_neg (by omega)]
 have hle:GLe G G'':=fun i gi hi=>by
  rcases Nat.lt_or_ge i h.next with hl|hl
  ·rw[hG2 i hl];exact hi
  ·rw[R1.fresh i hl] at hi;cases hi
 have hren:∀i,i<os.length->∀gi,GA' (keep.getD i 0)=some gi->G'' (h.next+i)=some gi:=fun i hi gi hg=>by rw[hG1 i hi];exact hg
 have aa:∀id x,(layH h.next os h).objs.get id=some x->(id<h.next/\h.objs.get id=some x)\/∃i e vs,id=h.next+i/\i<os.length/\os[i]?=some (e,vs)/\x=(h.next+i,.cells false e (zEq (h.next+ ·) vs)):=by
  intro id x hx;by_cases hr:h.next<=id/\id<h.next+os.length
  ·obtain⟨i,rfl⟩:∃i,id=h.next+i:=⟨id - h.next,by omega⟩;have hi:i<os.length:=by omega
   have:=zBy h.next os h i os[i].1 os[i].2 (zgG hi);rw[this] at hx;simp only[oI] at hx;exact .inr ⟨i,os[i].1,os[i].2,rfl,hi,zgG hi,hx.symm⟩
  ·rw[zJi _ _ _ _ (by omega)] at hx;rcases Nat.lt_or_ge id h.next with hl|hl
   ·exact .inl ⟨hl,hx⟩
   ·obtain⟨gi,hgi,_⟩:=R1.obj id x.1 x.2 hx;rw[R1.fresh id hl] at hgi;cases hgi
 have hblk:∀id x gi,h.objs.get id=some x->G id=some gi->gi.blk<w.heap.size:=fun id x gi hx hg=>by obtain⟨gi',h1,ob,h2,_⟩:=R1.obj id x.1 x.2 hx;rw[hg] at h1;cases h1;exact zAy h2
 have hown:∀(id:Nat) (x:Nat×AObj) gi,(layH h.next os h).objs.get id=some x->x.2.ro=false->G'' id=some gi->w.heap.size<=gi.blk\/∃id0 x0 gi0,h.objs.get id0=some x0/\x0.2.ro=false/\G id0=some gi0/\gi0.blk=gi.blk:=by
  intro id x gi hx hf hg;rcases aa id x hx with⟨hl,h1⟩|⟨i,e,vs,rfl,hi,h1,rfl⟩
  ·rw[hG2 id hl] at hg;exact .inr ⟨id,x,gi,h1,hf,hg,rfl⟩
  ·obtain⟨ver,gi',ob,k1,k2,k3,k4,k5⟩:=hnew i e vs h1;rw[hG1 i hi,k2] at hg;cases hg;exact .inl k5
 refine⟨G'',⟨?_,?_,?_,?_,?_,?_,?_,R2.below,R2.size,?_⟩,⟨hle,?_,?_,?_,hown,E2.size⟩,VR.ren hren hv0 hv⟩
 ·intro id ver o hx;rcases aa id _ hx with⟨hl,h1⟩|⟨i,e,vs,rfl,hi,h1,h2⟩
  ·obtain⟨gi,k1,ob,k2,k3⟩:=R1.obj id ver o h1;exact⟨gi,hle _ _ k1,ob,by rw[hfr _ (zAy k2)];exact k2,k3.mono hle⟩
  ·simp only[Prod.mk.injEq] at h2;obtain⟨rfl,rfl⟩:=h2;obtain⟨ver,gi',ob,k1,k2,k3,k4,k5⟩:=hnew i e vs h1;refine⟨gi',hren i hi _ k2,ob,k3,?_⟩;obtain⟨c,t,fr,q1,q2,q3,q4,q5,q6⟩:=k4;rw[zDR] at q5 q6;refine⟨c,t,fr,q1,q2,q3,q4,by rw[zDR];exact q5,?_⟩;rw[zDR];exact VsR.ren hren (hpl (e,vs) (List.mem_of_getElem? h1)) q6
 ·intro id id' x x' gi gi' hx hx' hf hg hg' hb;rcases aa id _ hx with⟨hl,h1⟩|⟨i,e,vs,rfl,hi,h1,rfl⟩
  ·rw[hG2 id hl] at hg;have hlt:=hblk id x gi h1 hg;rcases aa id' _ hx' with⟨hl',h1'⟩|⟨i',e',vs',rfl,hi',h1',rfl⟩
   ·rw[hG2 id' hl'] at hg';exact R1.inj id id' x x' gi gi' h1 h1' hf hg hg' hb
   ·obtain⟨ver,gi2,ob,k1,k2,k3,k4,k5⟩:=hnew i' e' vs' h1';rw[hG1 i' hi',k2] at hg';cases hg';omega
  ·obtain⟨ver,gi1,ob,k1,k2,k3,k4,k5⟩:=hnew i e vs h1;rw[hG1 i hi,k2] at hg;cases hg;rcases aa id' _ hx' with⟨hl',h1'⟩|⟨i',e',vs',rfl,hi',h1',rfl⟩
   ·rw[hG2 id' hl'] at hg';have hlt:=hblk id' x' gi' h1' hg';omega
   ·obtain⟨ver',gi2,ob',k1',k2',k3',k4',k5'⟩:=hnew i' e' vs' h1';rw[hG1 i' hi',k2'] at hg';cases hg';have he:=R2.inj _ _ _ _ gi gi' k1 k1' rfl k2 k2' hb;have e1:keep.getD i 0=keep[i]'(by omega):=by simp[List.getD,zgG (show i<keep.length by omega)]
    have e2:keep.getD i' 0=keep[i']'(by omega):=by simp[List.getD,zgG (show i'<keep.length by omega)]
    rw[e1,e2] at he;have:=(List.getElem_inj hnd).1 he;rw[this]
 ·intro id ver o gi hx hg hf;rcases aa id _ hx with⟨hl,h1⟩|⟨i,e,vs,rfl,hi,h1,h2⟩
  ·rw[hG2 id hl] at hg;exact R1.own id ver o gi h1 hg hf
  ·obtain⟨ver',gi1,ob,k1,k2,k3,k4,k5⟩:=hnew i e vs h1;rw[hG1 i hi,k2] at hg;cases hg;exact R2.own _ _ _ _ k1 k2 rfl
 ·intro id hid;rw[zEy] at hid;show (if _ then _ else _)=_;rw[if_neg (by omega)];exact R1.fresh id (by omega)
 ·intro id ver o hx;rw[zEy];rcases aa id _ hx with⟨hl,h1⟩|⟨i,e,vs,rfl,hi,h1,h2⟩
  ·have:=R1.vers id ver o h1;omega
  ·simp only[Prod.mk.injEq] at h2;omega
 ·intro g hg;have:=R1.low;rw[hG2 g (by omega)];exact R1.glob g hg
 ·rw[zEy];have:=R1.low;omega
 ·intro id ver o gi hx hg hr;rcases aa id _ hx with⟨hl,h1⟩|⟨i,e,vs,rfl,hi,h1,h2⟩
  ·rw[hG2 id hl] at hg;exact R1.rolow id ver o gi h1 hg hr
  ·simp only[Prod.mk.injEq] at h2;rw[h2.2] at hr;cases hr
 ·rw[zEy];omega
 ·intro id ver o hx;rcases aa id _ hx with⟨hl,h1⟩|⟨i,e,vs,rfl,hi,h1,h2⟩
  ·refine .inr ⟨h1,fun gi hg=>hfr _ (hblk id _ gi h1 hg)⟩
  ·simp only[Prod.mk.injEq] at h2;exact .inl (by omega)
 ·intro b hb _;exact hfr b hb
end
end Go.Ab
end
section
namespace Go.Ab
open Go.RowKit (Below)

def eqO:Option (Nat×Nat)->Option (Nat×Nat)->Bool
 |none,none=>true
 |some p,some q=>Nat.beq p.1 q.1&&Nat.beq p.2 q.2
 |_,_=>false
theorem zKb:∀{a b:Option (Nat×Nat)},eqO a b=true->a=b
 |none,none,_=>rfl
 |some (p1,p2),some (q1,q2),h=>by
  simp only[eqO,Bool.and_eq_true] at h;rw[Nat.eq_of_beq_eq_true h.1,Nat.eq_of_beq_eq_true h.2]
 |none,some _,h=>by cases h
 |some _,none,h=>by cases h
mutual
def eqV:AVal->AVal->Bool
 | .bool a,.bool b=>a==b
 | .int k a,.int k' b=>decide (k=k')&&a==b
 | .str s,.str t=>decide (s=t)
 | .ptr x,.ptr y=>eqO x y
 | .slice x n,.slice y m=>eqO x y&&Nat.beq n m
 | .slice0,.slice0=>true
 | .sliceE,.sliceE=>true
 | .agg l,.agg m=>eqVs l m
 | .tuple l,.tuple m=>eqVs l m
 |_,_=>false
def eqVs:List AVal->List AVal->Bool
 |[],[]=>true
 |x::r,y::s=>eqV x y&&eqVs r s
 |_,_=>false
end
mutual
theorem zKc:∀{a b:AVal},eqV a b=true->a=b:=by
 intro a b h;cases a with
 |bool x=>cases b<;>simp[eqV] at h;rw[h]
 |int k x=>cases b<;>simp[eqV] at h;rw[h.1,h.2]
 |str x=>cases b<;>simp[eqV] at h;rw[h]
 |ptr x=>cases b<;>simp only[eqV,Bool.false_eq_true] at h;rw[zKb h]
 |slice x n=>cases b<;>simp only[eqV,Bool.false_eq_true,Bool.and_eq_true] at h;rw[zKb h.1,Nat.eq_of_beq_eq_true h.2]
 |slice0=>cases b<;>first|rfl|cases h
 |sliceE=>cases b<;>first|rfl|cases h
 |agg l=>cases b<;>simp only[eqV,Bool.false_eq_true] at h;rw[zFL h]
 |tuple l=>cases b<;>simp only[eqV,Bool.false_eq_true] at h;rw[zFL h]
 |map x=>cases b<;>simp[eqV] at h
 |func f l m=>cases b<;>simp[eqV] at h
 |yield l=>cases b<;>simp[eqV] at h
 |nilFunc=>cases b<;>simp[eqV] at h
 |iface t x=>cases b<;>simp[eqV] at h
 |nilIface=>cases b<;>simp[eqV] at h
theorem zFL:∀{a b:List AVal},eqVs a b=true->a=b:=by
 intro a b h;cases a with
 |nil=>cases b with
  |nil=>rfl
  |cons _ _=>simp[eqVs] at h
 |cons x r=>cases b with
  |nil=>simp[eqVs] at h
  |cons y s=>
   simp only[eqVs,Bool.and_eq_true] at h;rw[zKc h.1,zFL h.2]
end

def D.all{α:Type}(p:α->Bool):D α->Bool
 | .ret a=>p a
 | .fail=>false
 | .ask n k=>Nat.blt 0 n&&(List.range n).all fun i=>(k i).all p
theorem D.all_sat{α:Type}{p:α->Bool}:∀{d:D α},d.all p=true->d.sat fun a=>p a=true
 | .ret _,h=>h
 | .fail,h=>by cases h
 | .ask n k,h=>by simp only[D.all,Bool.and_eq_true,List.all_eq_true,List.mem_range] at h;exact⟨Nat.blt_eq.mp h.1,fun i hi=>D.all_sat (h.2 i hi)⟩

def isAt(keep:List Nat)(v0:AVal)(os:List (TypeId×List AVal))(r:AVal×AHeap):Bool:=
 eqV r.1 (mapV (fun j=>keep.getD j 0) v0)&&(List.range os.length).all fun i=>match os[i]?,r.2.objs.get (keep.getD i 0) with
  |some (e,vs),some (_,.cells false e' vs')=>Nat.beq e e'&&eqVs vs' (zEq (fun j=>keep.getD j 0) vs)
  |_,_=>false
theorem zNO{keep:List Nat}{v0:AVal}{os:List (TypeId×List AVal)}{r:AVal×AHeap}(h:isAt keep v0 os r=true):
  r.1=mapV (fun j=>keep.getD j 0) v0/\∀(i:Nat) e vs,os[i]?=some (e,vs)->∃ver,r.2.objs.get (keep.getD i 0)=some (ver,.cells false e (zEq (fun j=>keep.getD j 0) vs)):=by
 simp only[isAt,Bool.and_eq_true,List.all_eq_true,List.mem_range] at h;refine⟨zKc h.1,fun i e vs hi=>?_⟩;have:=h.2 i (zgS.1 hi).1;rw[hi] at this;split at this
 ·rename_i e1 ab ver e' aa h1 h2;simp only[oI,Prod.mk.injEq] at h1;obtain⟨rfl,rfl⟩:=h1;simp only[Bool.and_eq_true] at this;obtain⟨h4,h3⟩:=this;exact⟨ver,by rw[h2,Nat.eq_of_beq_eq_true h4,zFL h3]⟩
 ·cases this

mutual
theorem zJA{f:Nat->Nat}:∀{x:AVal},zGX 0 x=true->mapV f x=x
 | .bool _,_=>rfl
 | .int _ _,_=>rfl
 | .str _,_=>rfl
 | .ptr none,_=>rfl
 | .ptr (some p),h=>by simp[zGX,Nat.blt] at h
 | .slice none _,_=>rfl
 | .slice (some p) _,h=>by simp[zGX,Nat.blt] at h
 | .slice0,_=>rfl
 | .sliceE,_=>rfl
 | .map none,_=>rfl
 | .map (some _),h=>by cases h
 | .func _ _ _,h=>by cases h
 | .yield _,h=>by cases h
 | .nilFunc,_=>rfl
 | .iface t v,h=>congrArg (AVal.iface t) (zJA (x:=v) h)
 | .nilIface,_=>rfl
 | .agg _,h=>by simp only[mapV];rw[zDJ h]
 | .tuple _,h=>by simp only[mapV];rw[zDJ h]
theorem zDJ{f:Nat->Nat}:∀{x:List AVal},zDL 0 x=true->zEq f x=x
 |[],_=>rfl
 |_::_,h=>by simp only[zDL,Bool.and_eq_true] at h;simp only[zEq];rw[zJA h.1,zDJ h.2]
end

section
variable{P:Program}{fns:FnsT}{summ:SumT}{N:Nat}{w0:World}

def tblH(t nx:Nat)(tab:List AVal):AHeap:={objs:=(T.leaf:T (Nat×AObj)).set t (some (0,.cells true 0 tab)),next:=nx}
theorem zFZ{t nx:Nat}{tab:List AVal}{id:Nat}{x:Nat×AObj}(h:(tblH t nx tab).objs.get id=some x):id=t/\x=(0,.cells true 0 tab):=by
 simp only[tblH,T.get_set,T.get_leaf] at h;split at h
 ·rename_i e;simp only[oI] at h;exact⟨e,h.symm⟩
 ·cases h
def TblOK(P:Program)(N:Nat)(w0:World)(t nx:Nat)(tab:List AVal):Prop:=
 t<P.globals.size/\P.globals.size<=nx/\P.globals.size<=N/\0<nx/\∃c e fr,w0.heap[t]?=some (.cells c e fr)/\tab.length<=c.size/\VsR P (fun _=>none) tab (c.toList.take tab.length)

theorem zSb{G:GM}{h:AHeap}{w:World}{t nx:Nat}{tab:List AVal}(R:Rel P N w0 G h w)(T:TblOK P N w0 t nx tab):∃GA,Rel P N w0 GA (tblH t nx tab) w:=by
 obtain⟨ht,hn,hN,hp,c,e,fr,hc,hl,hv⟩:=T;have hw:w.heap[t]?=some (.cells c e fr):=by rw[R.below.block t (by omega)];exact hc
 refine⟨fun i=>if i=t then some ⟨t,c.size,0,0⟩ else if i<P.globals.size then some ⟨i,0,0,0⟩ else none,?_,?_,?_,?_,?_,?_,hn,R.below,R.size,?_⟩
 ·intro id ver o hx;obtain⟨rfl,h1⟩:=zFZ hx;simp only[Prod.mk.injEq] at h1;obtain⟨rfl,rfl⟩:=h1;exact⟨_,if_pos rfl,_,hw,c,e,fr,rfl,(fun hh=>by cases hh),by simp,rfl,hl,by rw[zlZ];exact hv.mono (fun _ _ hh=>by cases hh)⟩
 ·intro id id' x x' gi gi' hx _ hf;obtain⟨_,rfl⟩:=zFZ hx;cases hf
 ·intro id ver o gi hx _ hf;obtain⟨_,h1⟩:=zFZ hx;simp only[Prod.mk.injEq] at h1;rw[h1.2] at hf;cases hf
 ·intro id hid;have:nx<=id:=hid;show (if _ then _ else _)=_;rw[if_neg (by omega),if_neg (by omega)]
 ·intro id ver o hx;obtain⟨_,h1⟩:=zFZ hx;simp only[Prod.mk.injEq] at h1;show ver<nx;omega
 ·intro g hg;by_cases hgt:g=t
  ·exact⟨_,if_pos hgt,by rw[hgt],rfl⟩
  ·exact⟨⟨g,0,0,0⟩,by simp[hgt,hg],rfl,rfl⟩
 ·intro id ver o gi hx hg _;obtain⟨rfl,_⟩:=zFZ hx;simp only[if_true,oI] at hg;subst hg;show id<N;omega

theorem zRH{n:Nat}{f:FuncId}{args:List AVal}{t nx:Nat}{tab:List AVal}{keep:List Nat}{v0:AVal}{os:List (TypeId×List AVal)}(hm:P.follows .mixedOrders=true)(hF:FnsOK P fns)(hM:SummOK P N w0 summ)(hT:TblOK P N w0 t nx tab)
  (hpa:zDL 0 args=true) (hk:keep.length=os.length) (hnd:keep.Nodup) (hpl:∀o∈os,zDL os.length o.2=true) (hv0:zGX os.length v0=true)
  (he:((run fns summ n).call f args (tblH t nx tab)).all (isAt keep v0 os)=true) {G:GM} {h:AHeap} {w:World} {argsV:Array Value} {Q:AVal×AHeap->Prop} (R:Rel P N w0 G h w) (hv:VsR P G args argsV.toList) (hq:Q (mapV (h.next+ ·) v0,layH h.next os h)):
  CallsIn (FR none) 0 P f argsV w (PostC P N w0 G h w Q):=by
 obtain⟨GA,RA⟩:=zSb R hT;have hvA:VsR P GA args argsV.toList:=by
  have:=VsR.ren (G:=G) (G':=GA) (f:=id) (g:=id) (k:=0) (fun i hi=>absurd hi (Nat.not_lt_zero i)) hpa (by rw[zDJ hpa];exact hv)
  rwa [zDJ hpa] at this
 refine((zLE hF hM (fun _ hS=>zIm hm hS) n).call f args _ GA w argsV _ RA hvA (D.all_sat he)).mono fun e w' hp=>?_;obtain⟨v,h',G',cv,rfl,h1,h2,h3,h4⟩:=hp;obtain⟨h5,h6⟩:=zNO h1;simp only at h5 h6;subst h5;obtain⟨aa,k1,k2,k3⟩:=R.beside h2 h3 (fun id x hx=>by obtain⟨_,rfl⟩:=zFZ hx;rfl) hk hnd hpl h6 hv0 h4;exact⟨_,_,aa,cv,rfl,hq,k1,k2,k3⟩
end
end Go.Ab
end
section
namespace Go.Ab
open Go.RowKit (Below)
open Go.Shelf Go.Proofs

section
variable{P:Program}{ρ:Ren}{N:Nat}{w0:World}

theorem zGY{f:FuncId}{G:GM}{h:AHeap}{w:World}{argsV:Array Value}{v:AVal}{cv:Value}{Q:AVal×AHeap->Prop}(hR:Rel P N w0 G h w)(hv:VR P G v cv)(hq:Q (v,h))(hc:Calls P f argsV w fun e w'=>e=.returned cv/\w'=w):
  CallsIn (FR none) 0 P f argsV w (PostC P N w0 G h w Q):=
 callsIn_wide.2 (hc.mono fun e w' hp=>⟨v,h,G,cv,hp.1,hq,by rw[hp.2];exact hR,by rw[hp.2];exact Ext.refl _ _ _,hv⟩)

def zAi(l:List UInt8):List Nat:=l.map UInt8.toNat
theorem zJC:∀{a b:List UInt8},zAi a=zAi b->a=b
 |[],[],_=>rfl
 |[],_::_,h=>by simp[zAi] at h
 |_::_,[],h=>by simp[zAi] at h
 |x::a,y::b,h=>by simp only[zAi,List.map_cons,List.cons.injEq] at h;rw[UInt8.toNat_inj.1 h.1,zJC h.2]

def zKt:List Nat->List Nat->Bool
 |[],_=>true
 |_::_,[]=>false
 |a::x,b::y=>match Nat.beq a b with |true=>zKt x y|false=>false
def inN:List Nat->List Nat->Bool
 |[],t=>zKt t []
 |a::s,t=>match zKt t (a::s) with |true=>true|false=>inN s t
theorem zKu:∀(a b:List UInt8),zKt (zAi a) (zAi b)=a.isPrefixOf b
 |[],_=>rfl
 |_::_,[]=>rfl
 |x::a,y::b=>by
  simp only[zAi,List.map_cons,zKt,List.isPrefixOf];cases hxy:Nat.beq x.toNat y.toNat with
  |true=>
   have:x=y:=UInt8.toNat_inj.1 (Nat.eq_of_beq_eq_true hxy);rw[this];simp only[beq_self_eq_true,Bool.true_and];exact zKu a b
  |false=>
   have:(x==y)=false:=by rw[Bool.eq_false_iff];intro h;have:=eq_of_beq h;rw[this,Nat.beq_refl] at hxy;cases hxy
   rw[this];rfl
theorem zOf:∀(s t:List UInt8),inN (zAi s) (zAi t)=Lib.contains s t
 |[],t=>by
  simp only[zAi,List.map_nil,inN,Lib.contains,Lib.index];cases t<;>rfl
 |a::s,t=>by
  have ih:=zOf s t;have hp:=zKu t (a::s);simp only[Lib.contains,Lib.index] at ih ⊢;simp only[zAi,List.map_cons,inN] at hp ih ⊢;rw[hp];rcases Bool.eq_false_or_eq_true (t.isPrefixOf (a::s)) with h|h
  ·simp[h]
  ·simp only[h,Bool.false_eq_true,if_false];rw[ih];have:=Lib.index_ge s t;by_cases hm:Lib.index s t= -1
   ·simp[hm]
   ·have h2:(Lib.index s t== -1)=false:=by simpa using hm
    rw[h2];simp only[Bool.false_eq_true,if_false,decide_eq_decide];omega

theorem zRl{G:GM}{s:List Nat}{v:Value}(h:VR P G (.str s) v):∃b:ByteArray,v=.string b/\zAi b.data.toList=s:=h
theorem zNE{G:GM}{a:AVal}{argsV:Array Value}(h:VsR P G [a] argsV.toList):∃x,argsV= #[x]/\VR P G a x:=by obtain⟨y,ys,h1,h2,h3⟩:=h;have h3:ys=[]:=h3;subst h3;exact⟨y,by cases argsV;simp_all,h2⟩
theorem zRo{G:GM}{a b:AVal}{argsV:Array Value}(h:VsR P G [a,b] argsV.toList):∃x y,argsV= #[x,y]/\VR P G a x/\VR P G b y:=by obtain⟨x,xs,h1,h2,y,ys,h4,h5,h6⟩:=h;have h6:ys=[]:=h6;subst h6;subst h4;exact⟨x,y,by cases argsV;simp_all,h2,h5⟩

theorem zJJ(L:Lays.n144 P ρ)(hc:∃m,w0.cell? ⟨ρ.g 1,0,none⟩=some (.int .i64 m))(hg:ρ.g 1<N){s t:List Nat}{h:AHeap}(hs:s.length<4294967281){G:GM}{argsV:Array Value}{w:World}{Q:AVal×AHeap->Prop}(hR:Rel P N w0 G h w)(hv:VsR P G [.str s,.str t] argsV.toList)
  (hq:Q (.bool (inN s t),h)):CallsIn (FR none) 0 P (ρ.f 144) argsV w (PostC P N w0 G h w Q):=by
 obtain⟨x,y,rfl,h1,h2⟩:=zRo hv;obtain⟨b1,rfl,rfl⟩:=zRl h1;obtain⟨b2,rfl,rfl⟩:=zRl h2;obtain⟨m,hm⟩:=hc;have hm':w.cell? ⟨ρ.g 1,0,none⟩=some (.int .i64 m):=by simp only[World.cell?] at hm ⊢;rw[hR.below.block _ hg];exact hm
 have hs':b1.size<4294967281:=by
  have:(zAi b1.data.toList).length=b1.size:=by simp only[zAi,List.length_map];rfl
  omega
 exact zGY hR (v:=.bool (inN _ _)) rfl hq ((Any.strings_Contains L b1 b2 m w hs' hm').mono fun e w' hp=>⟨by rw[hp.1,zOf],hp.2⟩)

theorem zLF(L:Lays.n240 P ρ)(X:Builder.X72 P ρ){h:AHeap}{b ver:Nat}{ro:Bool}{e:TypeId}{r:List AVal}(hb:h.objs.get b=some (ver,.cells false e (.ptr (some (b,0))::r))){G:GM}{argsV:Array Value}{w:World}{Q:AVal×AHeap->Prop}(hR:Rel P N w0 G h w)(hv:VsR P G [.ptr (some (b,0))] argsV.toList)
  (hq:Q (.tuple [],h)):CallsIn (FR none) 0 P (ρ.f 240) argsV w (PostC P N w0 G h w Q):=by
 obtain⟨x,rfl,gi,hg,rfl⟩:=zNE hv;obtain⟨gi',h1,ob,h2,c,t,fr,rfl,hf,hfit,_,hl,ad⟩:=hR.obj b _ _ hb;have ac:G b=some gi:=hg;rw[ac] at h1;cases h1;obtain⟨hsz,aa,ht,hfr⟩:=hf rfl;rw[aa,zlZ] at ad;obtain⟨y,ys,e1,⟨gi2,k1,rfl⟩,_⟩:=ad;have k1:G b=some gi2:=k1;rw[ac] at k1;cases k1;have hc0:c[0]?=some (.pointer (some ⟨gi.blk,0,none⟩)):=by have:=congrArg (fun l=>l[0]?) e1;simp only[zgZ] at this;rw[List.getElem?_take,if_pos (by simp)] at this;simpa[aa] using this
 have ab:w.cell? ⟨gi.blk,0,none⟩=some (.pointer (some ⟨gi.blk,0,none⟩)):=by simp[World.cell?,h2,hc0]
 simp only[aa,Nat.add_zero];exact zGY hR (v:=.tuple []) ⟨#[],rfl,rfl⟩ hq (Any.Builder_copyCheck_used L X gi.blk w ab)

theorem zOo{T:TypeId}(hc:P.cellsOf T=2){c:Nat}(h:1<=c):liesAt P P.depth T c 0 T 1=true:=by
 have hd:P.depth=(2*(P.types.size+Made.depth)+1)+1:=rfl;have hs:sameLayout P P.depth T T=true:=by rw[hd,sameLayout];simp
 rw[hd] at hs ⊢;rw[liesAt];have:rowAt P (sameLayout P P.depth · T) P.depth T c 0 1=true:=by rw[hd] at*;rw[rowAt];simp[hc,hs,h]
 rw[this];rfl

set_option maxHeartbeats 1000000 in
set_option maxRecDepth 100000 in
theorem zHe(L:Lays.n240 P ρ)(X:Builder.X72 P ρ)(b m:Nat)(hm:2<=m)(w:World)(h0:w.cell? ⟨b,0,none⟩=some (.pointer none))(hsh:w.shape? b=some ((ρ.t 72),m))(hfz:w.frozen? ⟨b,0,none⟩=false):
  Calls P (ρ.f 240) #[.pointer (some ⟨b,0,none⟩)] w fun e w'=>e=.returned (.tuple #[])/\w'=w.setCell ⟨b,0,none⟩ (.pointer (some ⟨b,0,none⟩)):=by
 obtain⟨j,hj,hjs⟩:=Option.map_eq_some_iff.1 X.sizeBuilder;have hc2:P.cellsOf (ρ.t 72)=2:=by simp[Program.cellsOf,hj,hjs]
 have hlies:liesAt P P.depth (ρ.t 72) (m / P.cellsOf (ρ.t 72)) 0 (ρ.t 72) 1=true:=zOo hc2 (by rw[hc2];omega);have mixed:=L.mixed;have t72:=L.t72;have a72:=L.a72;have z72:=L.z72;have v72:=L.v72;have u72:=run_underlying L.t72;have t70:=L.t70;have a70:=L.a70;have z70:=L.z70;have v70:=L.v70;have u70:=run_underlying L.t70;have t9:=L.t9;have a9:=L.a9;have z9:=L.z9;have v9:=L.v9;have u9:=run_underlying L.t9;have t4:=L.t4;have a4:=L.a4;have z4:=L.z4;have v4:=L.v4;have u4:=run_underlying L.t4;have t164:=L.t164;have a164:=L.a164;have z164:=L.z164;have v164:=L.v164;have u164:=run_underlying L.t164
 go_enter L.f240,Body.n240_ntmps ρ
 go_wp2
 rw[Lib.run_to_unsafe w ⟨b,0,none⟩ L.t70 L.t164 hj (by rw[hjs];decide) hsh (show 0<m by omega)];simp only[Result.andThen];rw[Oper.upon_value]
 go_wp2
 rw[run_callFunc_extern L.f276 (by kernel_rfl) (by kernel_rfl) (by kernel_rfl) (e:=Extern.AbiNoEscape.same) (by kernel_rfl)];rw[Lib.run_noEscape];simp only[Result.andThen];rw[Oper.upon_value]
 go_wp2
 rw[Lib.run_from_unsafe w ⟨b,0,none⟩ L.t164 L.t70 hj hsh hlies];simp only[Result.andThen];rw[Oper.upon_value]
 go_wp2
 go_end0
 exact⟨rfl,rfl⟩

theorem zJz(L:Lays.n240 P ρ)(X:Builder.X72 P ρ){h:AHeap}{b ver:Nat}{s:AVal}(hs:one s=true)(hb:h.objs.get b=some (ver,.cells false (ρ.t 72) [.ptr none,s])){G:GM}{argsV:Array Value}{w:World}{Q:AVal×AHeap->Prop}(hR:Rel P N w0 G h w)(hv:VsR P G [.ptr (some (b,0))] argsV.toList)
  (hq:Q (.tuple [],zAX h b (.cells false (ρ.t 72) [.ptr (some (b,0)),s]))):CallsIn (FR none) 0 P (ρ.f 240) argsV w (PostC P N w0 G h w Q):=by
 obtain⟨x,rfl,gi,hg,rfl⟩:=zNE hv;obtain⟨au,h1,ob,h2,c,t,fr,rfl,hf,af,am,hl,aj⟩:=hR.obj b _ _ hb;have ab:G b=some gi:=hg;rw[ab] at h1;cases h1;obtain⟨ai,aa,ht,an⟩:=hf rfl;subst ht;subst an;rw[aa,zlZ] at aj;have al:2<=c.size:=by rw[ai];simpa using hl
 obtain⟨y,ys,e1,hy,z,zs,e2,hz,e3⟩:=aj;have e3:zs=[]:=e3;subst e3;subst e2;have hy:y=.pointer none:=hy;subst hy;have aq:∀i:Nat,i<2->c[i]?=([.pointer none,z]:List Value)[i]?:=fun i hi=>by have:=congrArg (fun l=>l[i]?) e1;simp only[List.getElem?_take] at this;rw[if_pos (by simpa using hi)] at this;simpa using this
 have ae:w.cell? ⟨gi.blk,0,none⟩=some (.pointer none):=by simp[World.cell?,h2,aq 0 (by decide)]
 have ar:w.shape? gi.blk=some (ρ.t 72,c.size):=by simp[World.shape?,h2]
 have ao:w.frozen? ⟨gi.blk,0,none⟩=false:=zBc h2;have hN:N<=gi.blk:=hR.own b _ _ gi hb ab rfl;simp only[aa,Nat.add_zero];refine callsIn_wide.2 ((zHe L X gi.blk c.size al w ae ar ao).mono fun e w' hp=>?_);obtain⟨rfl,rfl⟩:=hp;have ah:(w.setCell ⟨gi.blk,0,none⟩ (.pointer (some ⟨gi.blk,0,none⟩))).heap[gi.blk]?=some (.cells (c.setIfInBounds 0 (.pointer (some ⟨gi.blk,0,none⟩))) (ρ.t 72) (0,0)):=by show (w.heap.modify gi.blk _)[gi.blk]?=_;rw[Array.getElem?_modify];simp[h2]
 have ac:∀k,k≠gi.blk->(w.setCell ⟨gi.blk,0,none⟩ (.pointer (some ⟨gi.blk,0,none⟩))).heap[k]?=w.heap[k]?:=fun k hk=>by show (w.heap.modify gi.blk _)[k]?=_;rw[Array.getElem?_modify];simp[Ne.symm hk]
 have ad:=hR.put (w':=w.setCell ⟨gi.blk,0,none⟩ (.pointer (some ⟨gi.blk,0,none⟩))) (o':=.cells false (ρ.t 72) [.ptr (some (b,0)),s]) (ob':=.cells (c.setIfInBounds 0 (.pointer (some ⟨gi.blk,0,none⟩))) (ρ.t 72) (0,0)) hb rfl rfl ab ah ac
  ⟨rfl,rfl,rfl,by simp[World.setCell],fun k hk=>ac k (by omega)⟩
  ⟨_,_,(0,0),rfl,fun _=>⟨by simp[ai],aa,rfl,rfl⟩,by simpa using af,am,by simpa using hl,by
   rw[aa,zlZ];have:(c.setIfInBounds 0 (.pointer (some ⟨gi.blk,0,none⟩))).toList.take 2=[.pointer (some ⟨gi.blk,0,none⟩),z]:=by
    rw[Array.toList_setIfInBounds];have ak:c.toList.take 2=[.pointer none,z]:=e1
    match hl:c.toList,ak with
    |x::y::r,e=>simp at e ⊢;exact e.2
   show VsR P G _ (List.take 2 _);rw[this];exact⟨_,_,rfl,⟨gi,ab,by simp[aa]⟩,z,[],rfl,hz,rfl⟩⟩
 exact⟨.tuple [],_,G,.tuple #[],rfl,hq,ad.1,ad.2,⟨#[],rfl,rfl⟩⟩

theorem Rel.aside{G:GM}{h:AHeap}{w w':World}(hR:Rel P N w0 G h w)(hb:Below N w w')(hk:∀id x gi,h.objs.get id=some x->G id=some gi->w'.heap[gi.blk]?=w.heap[gi.blk]?):Rel P N w0 G h w':=
 ⟨fun id ver o hx=>by
   obtain⟨gi,h1,ob,h2,h3⟩:=hR.obj id ver o hx;exact⟨gi,h1,ob,by rw[hk id _ gi hx h1];exact h2,h3⟩,
  hR.inj,hR.own,hR.fresh,hR.vers,hR.glob,hR.low,hR.below.trans hb,Nat.le_trans hR.size hb.size,hR.rolow⟩
theorem Rel.grown{G:GM}{h:AHeap}{w w':World}(hR:Rel P N w0 G h w)(hb:Below w.heap.size w w'):Rel P N w0 G h w'/\Ext G h w G h w':=by
 have hlt:∀id x gi,h.objs.get id=some x->G id=some gi->gi.blk<w.heap.size:=fun id x gi hx hg=>by obtain⟨gi',h1,ob,h2,_⟩:=hR.obj id x.1 x.2 hx;rw[hg] at h1;cases h1;exact zAy h2
 refine⟨hR.aside ⟨hb.os,hb.tape,hb.output,hb.size,fun k hk=>hb.block k (Nat.lt_of_lt_of_le hk hR.size)⟩ fun id x gi hx hg=>hb.block _ (hlt id x gi hx hg),?_⟩;exact⟨GLe.refl G,Nat.le_refl _,fun i v o e=>.inr ⟨e,fun gi hg=>hb.block _ (hlt i _ gi e hg)⟩,fun k hk _=>hb.block k hk,fun i x g e hr hgi=>.inr ⟨i,x,g,e,hr,hgi,rfl⟩,hb.size⟩

set_option maxHeartbeats 2000000 in
set_option maxRecDepth 100000 in
theorem zIb(L:Lays.n169 P ρ)(X:Builder.Extra P ρ)(b g cap:Nat)(cur:Array Value)(fz:Nat×Nat)(l:List UInt8)(w:World)(h0:l≠[])(hcap:l.length<=cap)(hc:w.cell? ⟨b,1,none⟩=some (.slice (some ⟨g,0,none⟩) l.length cap))(hg:w.heap[g]?=some (.cells cur (ρ.t 5) fz))(hcur:l.length<=cur.size)(hmax:l.length<=9223372036854775807)
  (hcells:∀(j:Nat) x,l[j]?=some x->w.cell? ⟨g,j,none⟩=some (.int .u8 x.toNat)):
  Calls P (ρ.f 169) #[.pointer (some ⟨b,0,none⟩)] w fun e w'=>e=.returned (.string ⟨l.toArray⟩)/\w'=w.drew.freeze ⟨g,0,none⟩ l.length:=by
 have hl0:l.length≠0:=by simpa using h0
 have c1:w.drew.cell? ⟨b,1,none⟩=some (.slice (some ⟨g,0,none⟩) l.length cap):=hc;have hSD:(Builtin.unsafeSliceData_ #[(ρ.t 37)] (ρ.t 127) #[.slice (some ⟨g,0,none⟩) l.length cap]).run P w.drew=.ok (.pointer (some ⟨g,0,none⟩)) w.drew:=
  Lib.run_unsafeSliceData_row _ _ _ _ _ _ (by omega)
 have hUS:(Builtin.unsafeString_ #[(ρ.t 127),(ρ.t 3)] (ρ.t 9) #[.pointer (some ⟨g,0,none⟩),.int .i64 l.length]).run P w.drew=.ok (.string ⟨l.toArray⟩) (w.drew.freeze ⟨g,0,none⟩ l.length):=by refine Lib.run_unsafeString_row w.drew (ρ.t 127) (ρ.t 3) (ρ.t 9) (ρ.t 5) L.t127 X.cellsByte g cur.size (by have hg':w.drew.heap[g]?=some (.cells cur (ρ.t 5) fz):=hg;simp[World.shape?,hg']) l h0 hcur hmax ?_;intro j x hx;rw[zCt,Nat.zero_add];exact hcells j x hx
 have mixed:=L.mixed;have t72:=L.t72;have a72:=L.a72;have z72:=L.z72;have v72:=L.v72;have u72:=run_underlying L.t72;have t70:=L.t70;have a70:=L.a70;have z70:=L.z70;have v70:=L.v70;have u70:=run_underlying L.t70;have t37:=L.t37;have a37:=L.a37;have z37:=L.z37;have v37:=L.v37;have u37:=run_underlying L.t37;have t127:=L.t127;have a127:=L.a127;have z127:=L.z127;have v127:=L.v127;have u127:=run_underlying L.t127;have t3:=L.t3;have a3:=L.a3;have z3:=L.z3;have v3:=L.v3;have u3:=run_underlying L.t3;have t9:=L.t9;have a9:=L.a9;have z9:=L.z9;have v9:=L.v9;have u9:=run_underlying L.t9;have t5:=X.t5;have a5:=X.a5;have z5:=X.z5;have v5:=X.v5;have u5:=run_underlying X.t5
 go_enter L.f169,Body.n169_ntmps ρ
 go_wp2
 go_region_o
 all_goals (go_wp2;go_ret;exact⟨rfl,rfl⟩)

theorem zQw(L:Lays.n169 P ρ)(X:Builder.Extra P ρ){h:AHeap}{b c ver ver':Nat}{e:TypeId}{x0:AVal}{r vs:List AVal}{l:List UInt8}(hl:l≠[])(hb:h.objs.get b=some (ver,.cells false e (x0::.slice (some (c,0)) l.length::r)))(hc:h.objs.get c=some (ver',.cells false (ρ.t 5) vs))
  (hvs:vs.take l.length=l.map fun x=>.int .u8 (x.toNat:Nat)) (hmax:l.length<=1000000) {G:GM} {argsV:Array Value} {w:World} {Q:AVal×AHeap->Prop} (hR:Rel P N w0 G h w) (hv:VsR P G [.ptr (some (b,0))] argsV.toList)
  (hq:Q (.str (zAi l),zDF h c)):CallsIn (FR none) 0 P (ρ.f 169) argsV w (PostC P N w0 G h w Q):=by
 obtain⟨x,rfl,gi,hg,rfl⟩:=zNE hv;obtain⟨aa,h1,ob,h2,cb,tb,fr,rfl,hf,hfit,hel,hlb,hvb⟩:=hR.obj b _ _ hb;have hg':G b=some gi:=hg;rw[hg'] at h1;cases h1;obtain⟨hsz,hoff,ht,hfr⟩:=hf rfl;rw[hoff,zlZ] at hvb;obtain⟨y,ys,e1,hy,z,zs,e2,⟨gc,cap,k1,rfl,k2,k3⟩,e3⟩:=hvb;have k1:G c=some gc:=k1;subst e2;obtain⟨gi2,q1,ob2,q2,cc,tc,frc,rfl,qf,qfit,qel,qlb,qvb⟩:=hR.obj c _ _ hc;rw[k1] at q1;cases q1;obtain⟨qsz,qoff,qt,qfr⟩:=qf rfl;subst qt;subst qfr;rw[qoff,zlZ] at qvb;have hll:l.length<=vs.length:=by have:=congrArg List.length hvs;rw[List.length_take,List.length_map] at this;omega
 have hcell1:w.cell? ⟨gi.blk,1,none⟩=some (.slice (some ⟨gc.blk,0,none⟩) l.length cap):=by
  have:=congrArg (fun q=>q[1]?) e1;simp only[List.getElem?_take,List.getElem?_cons_succ,zgZ] at this;rw[if_pos (by simp)] at this;have:cb[1]?=some (.slice (some ⟨gc.blk,0,none⟩) l.length cap):=by simpa[qoff] using this
  simp[World.cell?,h2,this]
 have hcells:∀(j:Nat) u,l[j]?=some u->w.cell? ⟨gc.blk,j,none⟩=some (.int .u8 u.toNat):=fun j u hj=>by
  have hlt:j<l.length:=(zgS.1 hj).1;have hvj:vs[j]?=some (.int .u8 (u.toNat:Nat)):=by have:=congrArg (fun q=>q[j]?) hvs;simp only[List.getElem?_take,if_pos hlt,zgM,hj,Option.map_some] at this;exact this
  obtain⟨cv,r1,r2⟩:=qvb.get hvj;have r2:cv=.int .u8 (u.toNat:Nat):=r2;subst r2;rw[List.getElem?_take] at r1;split at r1
  ·have r1':cc[j]?=some (.int .u8 (u.toNat:Nat)):=by simpa using r1
   simp[World.cell?,q2,r1']
  ·cases r1
 have hcsz:l.length<=cc.size:=by omega
 simp only[hoff,Nat.add_zero];refine callsIn_wide.2 ((zIb L X gi.blk gc.blk cap cc (0,0) l w hl k2 hcell1 q2 hcsz (by omega) hcells).mono fun e' w' hp=>?_);obtain⟨rfl,rfl⟩:=hp;have hN:N<=gc.blk:=hR.own c _ _ gc hc k1 rfl;have hoth:∀k,k≠gc.blk->(w.drew.freeze ⟨gc.blk,0,none⟩ l.length).heap[k]?=w.heap[k]?:=fun k hk=>by
  unfold World.freeze;split
  ·rfl
  ·show (w.heap.modify gc.blk _)[k]?=_;rw[Array.getElem?_modify];simp[Ne.symm hk]
 have hsize:(w.drew.freeze ⟨gc.blk,0,none⟩ l.length).heap.size=w.heap.size:=by
  unfold World.freeze;split
  ·rfl
  ·simp
 obtain⟨hD,hE⟩:=hR.drop c;have hne:∀id x aa,(zDF h c).objs.get id=some x->G id=some aa->aa.blk≠gc.blk:=by
  intro id x aa hx hgi hh;have hx':id≠c/\h.objs.get id=some x:=by
   simp only[zDF,T.get_set] at hx;by_cases hi:id=c
   ·rw[if_pos hi] at hx;cases hx
   ·rw[if_neg hi] at hx;exact⟨hi,hx⟩
  exact hx'.1 (hR.inj c id _ x gc aa hc hx'.2 rfl k1 hgi hh.symm).symm
 have hB:Below N w (w.drew.freeze ⟨gc.blk,0,none⟩ l.length):=Lib.below_freeze (Below.drew (Below.refl N w)) (p:=⟨gc.blk,0,none⟩) hN _;refine⟨.str (zAi l),zDF h c,G,.string ⟨l.toArray⟩,rfl,hq,hD.aside hB fun id x aa hx hgi=>hoth _ (hne id x aa hx hgi),?_,⟨⟨l.toArray⟩,rfl,by simp[zAi]⟩⟩;refine⟨hE.gle,hE.nle,fun id ver o hx=>?_,fun k hk hno=>hoth k fun hkk=>hno c _ gc hc rfl k1 hkk.symm,hE.owned,by rw[hsize];exact Nat.le_refl _⟩;rcases hE.same id ver o hx with h3|⟨h3,_⟩
 ·exact .inl h3
 ·exact .inr ⟨h3,fun aa hgi=>hoth _ (hne id _ aa hx hgi)⟩

theorem zTq(L:LaysM.n171 P ρ)(n:Int)(hn0: -9223372036854775808<=n)(hn1:n<=9223372036854775807)(htab:∀w,Below N w0 w->Lib.TabIs P w "internal/strconv.uint64pow10" .u64 Lib.pow10Tab){h:AHeap}{G:GM}{argsV:Array Value}{w:World}{Q:AVal×AHeap->Prop}(hR:Rel P N w0 G h w)(hv:VsR P G [.int .i64 n] argsV.toList)
  (hq:Q (.str (zAi (Lib.itoa n)),h)):CallsIn (FR none) 0 P (ρ.f 171) argsV w (PostC P N w0 G h w Q):=by
 obtain⟨x,rfl,h1⟩:=zNE hv;have h1:x=.int .i64 n:=h1;subst h1;refine callsIn_wide.2 ((Any.strconv_Itoa L n hn0 hn1 w (htab w hR.below)).mono fun e' w' hp=>?_);obtain⟨rfl,k,os,rfl⟩:=hp;obtain⟨h2,h3⟩:=hR.grown (w':=Go.Sort.grow (w.drewN k) os) ⟨rfl,rfl,rfl,by simp[Go.Sort.grow],fun i hi=>by
  show (w.heap++os)[i]?=_;rw[Array.getElem?_append_left hi]⟩
 exact⟨_,h,G,_,rfl,hq,h2,h3,⟨⟨(Lib.itoa n).toArray⟩,rfl,by simp[zAi]⟩⟩
end
end Go.Ab
end
section
namespace Go.Proofs
open Go Go.Ab Go.Ab.S
def fnsP(P:Program):FuncId->Option AFunc:=fun f=>(P.funcs[f]?).bind (cFn P)
theorem zSB(P:Program):FnsOK P (fnsP P):=fun _ _ h=>Option.bind_eq_some_iff.1 h
def zLK:FuncId->List AVal->AHeap->Option (D (AVal×AHeap)):=fun f args h=>
 match Nat.beq f 140 with
 |true=>(match args with
  |[.str s,.str t]=>(match Nat.ble s.length 2000 with |true=>some (.ret (.bool (inN s t),h))|false=>none)
  |_=>none)
 |false=>none
def tabA:List AVal:=(List.range 256).map fun i=>.int .u8 (if i==32||(9<=i&&i<=13) then 1 else 0)
def vR(n:Nat):AVal:=.tuple [.agg [.slice (some (0,0)) n,.int .i64 0],.int .i64 0]
def keepP:List Nat:=[504,485]
def osP:List (TypeId×List AVal):=[(36,[(.int .i64 2),(.str [45,62]),(.slice (some (1,0)) 2),(.slice none 0),(.bool false),(.int .i64 2),(.str [105,110,116]),(.slice none 0),(.slice none 0),(.bool false),(.int .i64 1),(.str []),(.slice none 0),(.slice none 0),(.bool false)]),(3,[(.int .i64 1),(.int .i64 2)])]
def keepQ:List Nat:=[475,463]
def osQ:List (TypeId×List AVal):=[(36,[(.int .i64 2),(.str [45,62]),(.slice (some (1,0)) 2),(.slice none 0),(.bool false),(.int .i64 1),(.str []),(.slice none 0),(.slice none 0),(.bool false)]),(3,[(.int .i64 1),(.int .i64 1)])]
def keepI:List Nat:=[510,491]
def osI:List (TypeId×List AVal):=[(36,[(.int .i64 2),(.str [45,62]),(.slice (some (1,0)) 2),(.slice none 0),(.bool false),(.int .i64 2),(.str [105,110,116]),(.slice none 0),(.slice none 0),(.bool false),(.int .i64 2),(.str [105,110,116]),(.slice none 0),(.slice none 0),(.bool false)]),(3,[(.int .i64 1),(.int .i64 2)])]
def keepM:List Nat:=[719,708,706]
def osM:List (TypeId×List AVal):=[(36,[(.int .i64 3),(.str []),(.slice (some (1,0)) 1),(.slice (some (2,0)) 1),(.bool true),(.int .i64 2),(.str [105,110,116]),(.slice none 0),(.slice none 0),(.bool false)]),(3,[(.int .i64 1)]),(9,[(.str [109])])]
def keepN:List Nat:=[620,609,607]
def osN:List (TypeId×List AVal):=[(36,[(.int .i64 3),(.str []),(.slice (some (1,0)) 1),(.slice (some (2,0)) 1),(.bool false),(.int .i64 2),(.str [105,110,116]),(.slice none 0),(.slice none 0),(.bool false)]),(3,[(.int .i64 1)]),(9,[(.str [110])])]
end Go.Proofs
end
section
namespace Go.Proofs
open Go Go.Ab Go.Ab.S
theorem readP:((run (fnsP Tryz.prog) zLK 4000).call 23 [.str tP] (tblH 1 200 tabA)).all (isAt keepP (vR 3) osP)=true:=by kernel_rfl
end Go.Proofs
end
section
namespace Go.Proofs
open Go Go.Ab Go.Ab.S
theorem readQ:((run (fnsP Tryz.prog) zLK 4000).call 23 [.str tQ] (tblH 1 200 tabA)).all (isAt keepQ (vR 2) osQ)=true:=by kernel_rfl
end Go.Proofs
end
section
namespace Go.Proofs
open Go Go.Ab Go.Ab.S
theorem readI:((run (fnsP Tryz.prog) zLK 4000).call 23 [.str tI] (tblH 1 200 tabA)).all (isAt keepI (vR 3) osI)=true:=by kernel_rfl
end Go.Proofs
end
section
namespace Go.Proofs
open Go Go.Ab Go.Ab.S
theorem readM:((run (fnsP Tryz.prog) zLK 4000).call 23 [.str tM] (tblH 1 200 tabA)).all (isAt keepM (vR 2) osM)=true:=by kernel_rfl
end Go.Proofs
end
section
namespace Go.Proofs
open Go Go.Ab Go.Ab.S
theorem readN:((run (fnsP Tryz.prog) zLK 4000).call 23 [.str tN] (tblH 1 200 tabA)).all (isAt keepN (vR 2) osN)=true:=by kernel_rfl
end Go.Proofs
end
