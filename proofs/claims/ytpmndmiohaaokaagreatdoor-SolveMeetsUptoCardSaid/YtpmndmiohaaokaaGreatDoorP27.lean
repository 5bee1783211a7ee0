import Derived.Test.YtpmndmiohaaokaaGreatDoorP19
import Derived.Test.YtpmndmiohaaokaaGreatDoorP22
import Derived.Test.YtpmndmiohaaokaaGreatDoorP26
/-
  Part 27 of the proof.
-/
set_option linter.all false
set_option maxHeartbeats 8000000
section
namespace Go.Ab.S
open Go Go.Ab
def CaseM(g h:Graph)(code:Int):Prop:=(zAB g≠0/\code=zAB g)\/(zAB g=0/\zAB h≠0/\code=zAB h)\/(zAB g=0/\zAB h=0/\code=8/\¬Consi (zAf g h) (zBC g h))\/(zAB g=0/\zAB h=0/\code=0/\Consi (zAf g h) (zBC g h))
theorem CaseM.one{g h:Graph}{c d:Int}(h1:CaseM g h c)(h2:CaseM g h d):c=d:=by
 rcases h1 with⟨a1,a2⟩|⟨a1,a2,a3⟩|⟨a1,a2,a3,a4⟩|⟨a1,a2,a3,a4⟩<;>rcases h2 with⟨b1,b2⟩|⟨b1,b2,b3⟩|⟨b1,b2,b3,b4⟩|⟨b1,b2,b3,b4⟩<;>first
  |omega
  |exact absurd b4 a4
  |exact absurd a4 b4
structure Few2(g h:Graph):Prop where
 g1:GTi g
 h1:GTi h
 n:g.nodes.length+h.nodes.length<=4096
 l:zAU [] g.nodes 0+zAU [] h.nodes 0<=4096
theorem Few2.both{g h:Graph}(f:Few2 g h):GTi (zAf g h)/\zAU [] (zAf g h).nodes 0<=4096:=by
 have aa:(2:Nat) ^ 20=1048576:=by decide
 have hl:zAU [] (zAf g h).nodes 0<=4096:=by rw[zKJ];exact f.l
 exact⟨zMG f.g1 f.h1 f.n (by omega),hl⟩
theorem UOut.tiny{g U:Graph}{ps:List Pr}{R:List Int}(hc:zAB g=0)(hg:GTi g)(hL:zAU [] g.nodes 0<=4096)(O:UOut g ps U R):GTi U:=by have h1:=zDG hc;exact((Bd.self g).uni hc O).gti (O.check hc) (by rw[O.lenU];exact hg.tinyN) hL (by omega) (zGQ hg.toGraphSm)
section
variable{fns:FnsT}{summ:SumT}
variable(H:Has fns summ)
include H
theorem zNc(g h:Graph)(f:Few2 g h){gn hn:AVal}{h0:AHeap}(w0:WF h0)(hN:NodesAt h0 gn g.nodes)(hM:NodesAt h0 hn h.nodes):
  Cl fns summ 17 [.agg [gn,.int .i64 g.root],.agg [hn,.int .i64 h.root]] h0 fun r h'=>Grow h0 h'/\∃un ur code A,r=.tuple [.agg [un,.int .i64 ur],.int .i64 code]/\one un=true/\Hid (GraphAt h' (.agg [un,.int .i64 ur]) A)/\Hid (CaseM g h code/\(code≠0->A=zEs)/\(code=0->MR g h A)):=by
 have hlen:=hN.len;have hlenh:=hM.len;have ht2:∀x y:AVal,List.take 2 [x,y]=[x,y]:=fun _ _=>rfl;have hpart:zAk (some 2) [gn,.int .i64 g.root] 0=some (.agg [gn,.int .i64 g.root]):=rfl;have hpart':zAk (some 2) [hn,.int .i64 h.root] 0=some (.agg [hn,.int .i64 h.root]):=rfl;have hnm:=f.n;have F:=Hid.mk f;clear f;refine H.go (fn:=F_rMeet08) rfl (by decide) rfl rfl ?_;unfold F_rMeet08;dsimp only[qQ,qE,tm,mt,lo,fa,jn,jk,jv,jl,js,je,jc,jd,jx,jo,jG,jR,jS,jC];refine zAu (zAz ?_);refine zAr e1 cc w0 ?_;rintro b2 h2 hb2 g2 o2;refine zAr e1 cc g2.wf ?_;rintro b3 h3 hb3 g3 o3;refine zAM g3.wf ?_;rintro b4 h4 hb4 g4 o4;replace o2:=g4.keep _ _ (g3.keep _ _ o2);replace o3:=g4.keep _ _ o3;have ae:=(g2.trans g3).trans g4;have n2x:=g2.next;have n3x:=g3.next;have lb4:h0.next<=b4:=by omega
 clear g2 g3 g4;repeat refine zR ?_
 refine zAL s1 ((zGZ H g F.out.g1.toGraphSm _ h4 ae.wf ⟨gn,rfl,hN.mono ae⟩).mono ?_);rintro _ h5 ⟨rfl,g5⟩;replace o2:=g5.keep _ _ o2;replace o3:=g5.keep _ _ o3;replace o4:=g5.keep _ _ o4;have G5:=ae.trans g5;clear g5 ae;cases hck:(zAB g != 0);rotate_left
 ·have ad:Hid (zAB g≠0):=⟨by simpa using hck⟩;have w5:=G5.wf;repeat refine zR ?_
  refine zAC (v:=.agg [.slice none 0,.int .i64 0]) e1 e1 (cs:=[.slice none 0,.int .i64 0]) rfl rfl w5 o4 (by simp) rfl ?_;rintro v8 h8 p8 o8;simp only[lL,Nat.reduceAdd] at o8;have g8:=p8.grow h0 w0 G5 lb4;clear p8;repeat refine zG ?_
  exact⟨g8,.slice none 0,0,zAB g,zEs,rfl,rfl,⟨zDu _⟩,⟨.inl ⟨ad.out,rfl⟩,fun _=>rfl,fun h=>absurd h ad.out⟩⟩
 have ac:Hid (zAB g=0):=⟨by simpa using hck⟩;repeat refine zR ?_
 refine zAL s1 ((zGZ H h F.out.h1.toGraphSm _ h5 G5.wf ⟨hn,rfl,hM.mono G5⟩).mono ?_);rintro _ h6 ⟨rfl,g6⟩;replace o2:=g6.keep _ _ o2;replace o3:=g6.keep _ _ o3;replace o4:=g6.keep _ _ o4;have G6:=G5.trans g6;clear g6 G5;cases hch:(zAB h != 0);rotate_left
 ·have ad:Hid (zAB h≠0):=⟨by simpa using hch⟩;have w6:=G6.wf;repeat refine zR ?_
  refine zAC (v:=.agg [.slice none 0,.int .i64 0]) e1 e1 (cs:=[.slice none 0,.int .i64 0]) rfl rfl w6 o4 (by simp) rfl ?_;rintro v8 h8 p8 o8;simp only[lL,Nat.reduceAdd] at o8;have g8:=p8.grow h0 w0 G6 lb4;clear p8;repeat refine zG ?_
  exact⟨g8,.slice none 0,0,zAB h,zEs,rfl,rfl,⟨zDu _⟩,⟨.inr (.inl ⟨ac.out,ad.out,rfl⟩),fun _=>rfl,fun h=>absurd h ad.out⟩⟩
 have ab:Hid (zAB h=0):=⟨by simpa using hch⟩;have hw1:IntKind.i64.wrap (Int.ofNat g.nodes.length+Int.ofNat h.nodes.length)=((g.nodes.length+h.nodes.length:Nat):Int):=by rw[zAa (by simp only[Int.ofNat_eq_natCast];omega) (by simp only[Int.ofNat_eq_natCast];omega)];simp
 have z1:decide (((g.nodes.length+h.nodes.length:Nat):Int)>1048576)=false:=by simp;omega
 have hrg:=zAN ac.out;have hrh:=zAN ab.out;have hw2:IntKind.i64.wrap (Int.ofNat g.nodes.length+h.root)=(g.nodes.length:Int)+h.root:=by simp only[Int.ofNat_eq_natCast];exact zAa (by omega) (by omega)
 clear hrg hrh;repeat refine zR ?_
 have l2:=G6.wf.lt o2;have l3:=G6.wf.lt o3;refine zAS (zAL s1 ((zKx H g h F.out.g1 F.out.h1 F.out.n ab.out G6.wf (hN.mono G6) (hM.mono G6)).mono ?_));rintro _ h7 ⟨g7,bo,rfl,bone,bN⟩;have o27:=g7.keep _ _ o2;have o37:=g7.keep _ _ o3;have o47:=g7.keep _ _ o4;refine zAK ⟨by simp[zAJ,Nat.testBit,o27,o37],?_⟩;have G7:=G6.trans g7;have w7:=G7.wf;have nG7:=G7.next;have hb:=F.out.both;have cb:Hid (zAB (zAf g h)=0):=⟨zCG ac.out ab.out (by omega)⟩;have hin:Hid (∀p∈zBC g h,zBn (zAf g h) p=true):=⟨fun p hp=>by
  have hrg:=zAN ac.out;have hrh:=zAN ab.out;simp only[zBC,List.mem_singleton] at hp;subst hp;simp only[zBn,decide_eq_true_eq,zBh];omega⟩
 refine zAS (zAT e1 (cs:=[.int .i64 g.root,.int .i64 ((g.nodes.length:Int)+h.root)]) rfl rfl rfl w7 ?_);rintro bx h8 hbx g8 ox;have o28:=g8.keep _ _ o27;have o38:=g8.keep _ _ o37;have o48:=g8.keep _ _ o47;refine zAK ⟨by simp[zAJ,Nat.testBit,o28,o38],?_⟩;have hpr:PrsAt h8 (.slice (some (bx,0)) 1) (zBC g h):=by have B:Built h8 h7.next 40 2 (.slice (some (bx,0)) 1) 1 [.int .i64 g.root,.int .i64 ((g.nodes.length:Int)+h.root)]:=.inr (.inr ⟨bx,_,_,hbx,rfl,ox,by simp,rfl⟩);exact B.sl (by decide) (xs:=[zCB (g.root,(g.nodes.length:Int)+h.root)]) (by simp[zCB]) (by intro c hc;rw[List.mem_singleton.1 hc];rfl) (by simp)
 have G8:=G7.trans g8;have huni:=Hid.mk (zLk H (zAf g h) hb.1 (zBC g h) (by simp[zBC]) (Nat.le_trans hb.2 (by decide)) G8.wf (gv:=.agg [bo,.int .i64 g.root]) ⟨bo,rfl,bN.out.mono g8⟩ hpr);have hbh:=Hid.mk hb;clear ox hpr o27 o37 o47 G7 g7 bN w7 g8 hb;refine zAS (zAL s1 (huni.out.mono ?_));rintro _ h9 ⟨g9,un,ur,rv,code,A,L,rfl,hone,lrv,at9,af⟩;have o29:=g9.keep _ _ o28;have o39:=g9.keep _ _ o38;have o49:=g9.keep _ _ o48;refine zAK ⟨by simp[zAJ,Nat.testBit,o29,o39],?_⟩;have G9:=G8.trans g9;have w9:=G9.wf;clear o28 o38 o48 G8 g9 huni;repeat refine zR ?_
 refine zAS (zAM w9 ?_);rintro b8 hA hb8 gA oA;refine zAK ⟨by simp[zAJ,Nat.testBit],?_⟩;refine zAS (zAC (v:=.agg [un,.int .i64 ur]) e1 e1 (cs:=[un,.int .i64 ur]) rfl rfl gA.wf oA (by simp) (by simp only[List.all_cons,List.all_nil,hone,Bool.true_and,Bool.and_true];rfl) ?_);rintro vB hB pB oB;refine zAK ⟨by simp[zAJ,Nat.testBit],?_⟩;simp only[lL,Nat.reduceAdd] at oB;have gB:Grow h9 hB:=pB.grow h9 w9 gA hb8;have GB:=G9.trans gB;have ah:=gB.keep _ _ o49;have wB:=GB.wf;have atB:Hid (GraphAt hB (.agg [un,.int .i64 ur]) A):=⟨at9.out.1.mono gB⟩;clear oA pB gA o29 o39 o49 G9 gB at9;repeat refine zR ?_
 have lb4':=lb4;cases hzc:(code != 0)
 ·obtain rfl:code=0:=by simpa using hzc
  have O:=af.out.2.2 rfl;have tU:=Hid.mk (UOut.tiny cb.out hbh.out.1 hbh.out.2 O);have cU:=Hid.mk (O.check cb.out);have hcon:=Hid.mk O.consi;have hMR:Hid (MR g h (zBS A)):=⟨A,L,O,rfl⟩;obtain⟨q,hq,hNA⟩:=atB.out;simp only[AVal.agg.injEq,List.cons.injEq,AVal.int.injEq,and_true,true_and] at hq;obtain⟨rfl,rfl⟩:=hq;have htr:=Hid.mk (zQm H A tU.out cU.out wB hNA);have hpu:zAk (some 2) [un,.int .i64 A.root] 0=some (.agg [un,.int .i64 A.root]):=rfl;have l4B:=wB.lt ah;clear O atB hNA af;repeat refine zR ?_
  refine zAL s1 (htr.out.mono ?_);rintro _ hC ⟨gC,vo,rfl,hvo,atC⟩;have o4C:=gC.keep _ _ ah;have GC:=GB.trans gC;have wC:=GC.wf;clear ah gC GB htr;refine zAC (v:=.agg [vo,.int .i64 0]) e1 e1 (cs:=[vo,.int .i64 0]) rfl rfl wC o4C (by simp) (by simp only[List.all_cons,List.all_nil,hvo,Bool.true_and,Bool.and_true];rfl) ?_;rintro vD hD pD oD;simp only[lL,Nat.reduceAdd] at oD;have hfin:Hid (Grow h0 hD/\GraphAt hD (.agg [vo,.int .i64 0]) (zBS A)):=⟨pD.grow h0 w0 GC lb4',(atC.out.stay fun c p hc hp _=>pD.keep c (by omega) _ hp).graph⟩;clear pD o4C GC atC;repeat refine zG ?_
  exact⟨hfin.out.1,vo,0,0,zBS A,rfl,hvo,⟨hfin.out.2⟩,⟨.inr (.inr (.inr ⟨ac.out,ab.out,rfl,hcon.out⟩)),fun h=>absurd rfl h,fun _=>hMR.out⟩⟩
 ·have aa:Hid (code=8/\¬Consi (zAf g h) (zBC g h)):=⟨by
   have hc0:code≠0:=by simpa using hzc
   rcases af.out.1 with⟨k1,k2⟩|⟨_,_,p,hp1,hp2⟩|⟨_,k,_,k2⟩|⟨_,k,_⟩
   ·rw[cb.out] at k1;omega
   ·rw[hin.out p hp1] at hp2;cases hp2
   ·exact⟨k,k2⟩
   ·omega⟩
  clear af atB;repeat refine zR ?_
  refine zAC (v:=.agg [.slice none 0,.int .i64 0]) e1 e1 (cs:=[.slice none 0,.int .i64 0]) rfl rfl wB ah (by simp) rfl ?_;rintro v8 h8 p8 o8;simp only[lL,Nat.reduceAdd] at o8;have gZ:=p8.grow h0 w0 GB lb4';clear p8;repeat refine zG ?_
  exact⟨gZ,.slice none 0,0,code,zEs,rfl,rfl,⟨zDu _⟩,⟨.inr (.inr (.inl ⟨ac.out,ab.out,aa.out.1,aa.out.2⟩)),fun _=>rfl,fun h=>by rw[aa.out.1] at h;cases h⟩⟩
end
end Go.Ab.S
end
section
namespace Go.Ab.S
open Go Go.Ab
theorem Few2.sm{g h:Graph}(f:Few2 g h)(hs:(g.nodes.length+h.nodes.length+1)*(zAU [] g.nodes 0+zAU [] h.nodes 0+1)+1<=2 ^ 30):MeetSm g h:=.of f.g1 f.h1 (Nat.le_refl _) (Nat.le_refl _) f.n (Nat.le_trans f.l (by decide)) hs
theorem zRP:GraphSm zEs:=(zGx (g:=zEs) (by decide) (by decide)).toGraphSm
theorem CaseM.zero{g h:Graph}(c:CaseM g h 0):zAB g=0/\zAB h=0/\Consi (zAf g h) (zBC g h):=by
 rcases c with⟨a1,a2⟩|⟨a1,a2,a3⟩|⟨a1,a2,a3,a4⟩|⟨a1,a2,a3,a4⟩
 ·exact absurd a2.symm a1
 ·exact absurd a3.symm a2
 ·cases a3
 ·exact⟨a1,a2,a4⟩
theorem CaseM.ok{g h:Graph}{code:Int}(c:CaseM g h code)(cg:zAB g=0)(ch:zAB h=0)(k:Consi (zAf g h) (zBC g h)):code=0:=by
 rcases c with⟨a1,a2⟩|⟨a1,a2,a3⟩|⟨a1,a2,a3,a4⟩|⟨a1,a2,a3,a4⟩
 ·exact absurd cg a1
 ·exact absurd ch a2
 ·exact absurd k a4
 ·exact a3
section
variable{fns:FnsT}{summ:SumT}
variable(H:Has fns summ)(HS:HasSort summ)(HA:HasAs summ)
include H HS HA
theorem MeetO(g h:Graph)(sm:MeetSm g h){gv hv':AVal}{h0:AHeap}(w0:WF h0)(hv:GraphAt h0 gv g)(hu:GraphAt h0 hv' h):
  Cl fns summ 16 [gv,hv'] h0 fun r h'=>Grow h0 h'/\∃un ur code A,r=.tuple [.agg [un,.int .i64 ur],.int .i64 code]/\one un=true/\Hid (GraphAt h' (.agg [un,.int .i64 ur]) A)/\Hid (CaseM g h code/\(code≠0->A=zEs)/\(code=0->MR g h A)):=by
 refine(Meet_ok H HS HA g h sm.g1 sm.h1 sm.b sm.l sm.s w0 hv hu).mono ?_;rintro _ h' ⟨g1,uv,code,rfl,hz,hc⟩;refine⟨g1,?_⟩;have bad:code≠0->CaseM g h code->∃un ur code' A,AVal.tuple [uv,.int .i64 code]=.tuple [.agg [un,.int .i64 ur],.int .i64 code']/\one un=true/\Hid (GraphAt h' (.agg [un,.int .i64 ur]) A)/\Hid (CaseM g h code'/\(code'≠0->A=zEs)/\(code'=0->MR g h A)):=fun k hca=>by obtain rfl:=hz k;exact⟨_,_,_,zEs,rfl,rfl,⟨zDu _⟩,⟨hca,fun _=>rfl,fun h0=>absurd h0 k⟩⟩
 rcases hc with⟨k1,k2⟩|⟨k0,k1,k2⟩|⟨k0,k1,k2,k3⟩|⟨k0,k1,k2,U,R,O,own⟩
 ·exact bad (by omega) (.inl ⟨k1,k2⟩)
 ·exact bad (by omega) (.inr (.inl ⟨k0,k1,k2⟩))
 ·exact bad (by omega) (.inr (.inr (.inl ⟨k0,k1,k2,k3⟩)))
 ·obtain⟨un,cs,rfl,kB,kl,kn⟩:=own;have own:OwnG h' h0.next (.agg [un,.int .i64 (zBS U).root]) (zBS U):=⟨un,cs,rfl,kB,kl,kn⟩;exact⟨un,_,code,zBS U,rfl,zAD kB.len,⟨own.graph⟩,⟨.inr (.inr (.inr ⟨k0,k1,k2,O.consi⟩)),fun h=>absurd k2 h,fun _=>⟨U,R,O,rfl⟩⟩⟩
variable(HR:HasRead summ)
include HR
theorem SolveMeets_ok(g h:Graph)(hg:Sane g)(hh:Sane h)(v u:AVal)(h0:AHeap)(hw:WF h0)(hv:GraphAt h0 v g)(hu:GraphAt h0 u h):Cl fns summ 4 [v,u] h0 fun r h'=>r=.bool true/\Grow h0 h':=by
 obtain⟨gn,rfl,hN⟩:=hv;obtain⟨hn,rfl,hM⟩:=hu;have hpart:zAk (some 2) [gn,.int .i64 g.root] 0=some (.agg [gn,.int .i64 g.root]):=rfl;have hpart':zAk (some 2) [hn,.int .i64 h.root] 0=some (.agg [hn,.int .i64 h.root]):=rfl;have ht2:∀x y:AVal,List.take 2 [x,y]=[x,y]:=fun _ _=>rfl;have hlen:=hN.len;have hlenh:=hM.len;refine H.go (fn:=F_SolveMeets) rfl (by decide) rfl rfl ?_;unfold F_SolveMeets;dsimp only[qQ,qE,gQ,gE,vi,tm,mt,jk,jb,jl,js,jc,jd,jx,jo,jt,jG,jR,jS,jC];refine zAu (zAz ?_);refine zAr e1 cc hw ?_;rintro b2 h1 hb2 g1 o2;refine zAr e1 cc g1.wf ?_;rintro b3 h2 hb3 g2 o3;replace o2:=g2.keep _ _ o2;have G2:=g1.trans g2;clear g1 g2;repeat refine zR ?_
 refine zAL s1 ((zND H HS HA HR h2 G2.wf).mono ?_);rintro _ h3 ⟨rfl,g3⟩;replace o2:=g3.keep _ _ o2;replace o3:=g3.keep _ _ o3;have G:=G2.trans g3;clear G2 g3;repeat refine zR ?_
 refine zAL s1 ((Great_ok H g hg.great _ h3 G.wf ⟨gn,rfl,hN.mono G⟩).mono ?_);rintro _ h4 ⟨rfl,g4⟩;replace o2:=g4.keep _ _ o2;replace o3:=g4.keep _ _ o3;replace G:=G.trans g4;clear g4;cases c1:decide ((zEv g:Int)>60);rotate_left
 ·repeat refine zG ?_
  exact⟨rfl,G⟩
 repeat refine zR ?_
 refine zBM e1 s1 ((Great_ok H h hh.great _ h4 G.wf ⟨hn,rfl,hM.mono G⟩).mono ?_);rintro _ h5 ⟨rfl,g5⟩;replace o2:=g5.keep _ _ o2;replace o3:=g5.keep _ _ o3;replace G:=G.trans g5;clear g5;cases c2:decide ((zEv h:Int)>60);rotate_left
 ·repeat refine zG ?_
  exact⟨rfl,G⟩
 have F:Hid (Few2 g h/\Few2 h g/\MeetSm g h/\MeetSm h g/\g.nodes.length+h.nodes.length<=120/\zAU [] g.nodes 0+zAU [] h.nodes 0<=120):=⟨by
  have k1:=of_decide_eq_false c1;have k2:=of_decide_eq_false c2;have l1:=zHm g;have l2:=zHm h;have tg:GTi g:=hg.tiny (by omega);have th:GTi h:=hh.tiny (by omega);have f1:Few2 g h:=⟨tg,th,by omega,by omega⟩;have f2:Few2 h g:=⟨th,tg,by omega,by omega⟩;exact⟨f1,f2,.of (N:=120) (L:=120) tg th (by omega) (by omega) (by decide) (by decide) (by decide),.of (N:=120) (L:=120) th tg (by omega) (by omega) (by decide) (by decide) (by decide),by omega,by omega⟩⟩
 repeat refine zR ?_
 refine zAL s1 ((MeetO H HS HA g h F.out.2.2.1 G.wf ⟨gn,rfl,hN.mono G⟩ ⟨hn,rfl,hM.mono G⟩).mono ?_);rintro _ h6 ⟨g6,un,ur,code,A,rfl,hone,at6,ab⟩;replace o2:=g6.keep _ _ o2;replace o3:=g6.keep _ _ o3;have G6:=G.trans g6;clear g6 G c1 c2;repeat refine zR ?_
 refine zAM G6.wf ?_;rintro b5 h7 hb5 g7 o5;refine zAC (v:=.agg [un,.int .i64 ur]) e1 e1 (cs:=[un,.int .i64 ur]) rfl rfl g7.wf o5 (by simp) (by simp only[List.all_cons,List.all_nil,hone,Bool.true_and,Bool.and_true];rfl) ?_;rintro v8 h8 p8 o58;simp only[lL,Nat.reduceAdd] at o58;have g68:Grow h6 h8:=p8.grow h6 G6.wf g7 hb5;replace o2:=g68.keep _ _ o2;replace o3:=g68.keep _ _ o3;have G8:=G6.trans g68;have at8:Hid (GraphAt h8 (.agg [un,.int .i64 ur]) A):=⟨at6.out.mono g68⟩;clear o5 p8 g7 g68 G6 at6;repeat refine zR ?_
 refine zAL s1 ((zNc H g h F.out.1 G8.wf (hN.mono G8) (hM.mono G8)).mono ?_);rintro _ h9 ⟨g9,un2,ur2,aa,A2,rfl,hone2,at9,ac⟩;obtain rfl:aa=code:=(ab.out.1.one ac.out.1).symm;obtain rfl:A2=A:=by
  by_cases hz:aa=0
  ·subst hz;obtain⟨cg,ch,_⟩:=ab.out.1.zero;have m1:=ab.out.2.2 rfl;obtain⟨U,R,O,e⟩:=ac.out.2.2 rfl;rw[e,<-m1.one O (zCG cg ch (by have:=F.out.2.2.2.2.1;omega))]
  ·rw[ab.out.2.1 hz,ac.out.2.1 hz]
 replace o2:=g9.keep _ _ o2;replace o3:=g9.keep _ _ o3;have o59:=g9.keep _ _ o58;have G9:=G8.trans g9;have at9':Hid (GraphAt h9 (.agg [un,.int .i64 ur]) A2):=⟨at8.out.mono g9⟩;clear o58 g9 G8 at8 ac;repeat refine zR ?_
 refine zAM G9.wf ?_;rintro b7 hA hb7 gA o7;refine zAC (v:=.agg [un2,.int .i64 ur2]) e1 e1 (cs:=[un2,.int .i64 ur2]) rfl rfl gA.wf o7 (by simp) (by simp only[List.all_cons,List.all_nil,hone2,Bool.true_and,Bool.and_true];rfl) ?_;rintro vB hB pB o7B;simp only[lL,Nat.reduceAdd] at o7B;have gB:Grow h9 hB:=pB.grow h9 G9.wf gA hb7;replace o2:=gB.keep _ _ o2;replace o3:=gB.keep _ _ o3;have o5B:=gB.keep _ _ o59;have GB:=G9.trans gB;have atB:Hid (GraphAt hB (.agg [un,.int .i64 ur]) A2/\GraphAt hB (.agg [un2,.int .i64 ur2]) A2):=⟨at9'.out.mono gB,at9.out.mono gB⟩;have hpu:zAk (some 2) [un,.int .i64 ur] 0=some (.agg [un,.int .i64 ur]):=rfl;have hpu2:zAk (some 2) [un2,.int .i64 ur2] 0=some (.agg [un2,.int .i64 ur2]):=rfl;have Asm:Hid (GraphSm A2/\(aa=0->GTi A2)):=⟨by
  by_cases hz:aa=0
  ·subst hz;obtain⟨cg,ch,_⟩:=ab.out.1.zero;have t:=(ab.out.2.2 rfl).gti (N:=120) (L:=120) cg ch F.out.1.g1 F.out.1.h1 F.out.2.2.2.2.1 F.out.2.2.2.2.2 (by decide) (by decide);exact⟨t.toGraphSm,fun _=>t⟩
  ·rw[ab.out.2.1 hz];exact⟨zRP,fun h=>absurd h hz⟩⟩
 have hne:(aa != aa)=false:=by simp
 clear o7 pB gA gB o59 G9 at9 at9';repeat refine zR ?_
 refine zAL s1 ((Equal_ok H A2 Asm.out.1 _ _ hB GB.wf atB.out.1 atB.out.2).mono ?_);rintro _ hC ⟨rfl,gC⟩;replace o2:=gC.keep _ _ o2;replace o3:=gC.keep _ _ o3;have o5C:=gC.keep _ _ o5B;have GC:=GB.trans gC;have atC:Hid (GraphAt hC (.agg [un,.int .i64 ur]) A2):=⟨atB.out.1.mono gC⟩;clear o5B o7B atB gC GB;repeat refine zR ?_
 refine zAL s1 ((MeetO H HS HA h g F.out.2.2.2.1 GC.wf ⟨hn,rfl,hM.mono GC⟩ ⟨gn,rfl,hN.mono GC⟩).mono ?_);rintro _ hD ⟨gD,un3,ur3,code3,A3,rfl,hone3,atD,law3⟩;have o5D:=gD.keep _ _ o5C;have GD:=GC.trans gD;have atD':Hid (GraphAt hD (.agg [un,.int .i64 ur]) A2):=⟨atC.out.mono gD⟩;clear o2 o3 o5C gD GC atC;repeat refine zR ?_
 refine zAM GD.wf ?_;rintro b9 hE hb9 gE o9;refine zAC (v:=.agg [un3,.int .i64 ur3]) e1 e1 (cs:=[un3,.int .i64 ur3]) rfl rfl gE.wf o9 (by simp) (by simp only[List.all_cons,List.all_nil,hone3,Bool.true_and,Bool.and_true];rfl) ?_;rintro vF hF pF o9F;simp only[lL,Nat.reduceAdd] at o9F;have gF:Grow hD hF:=pF.grow hD GD.wf gE hb9;have o5F:=gF.keep _ _ o5D;have GF:=GD.trans gF;have atF:Hid (GraphAt hF (.agg [un,.int .i64 ur]) A2/\GraphAt hF (.agg [un3,.int .i64 ur3]) A3):=⟨atD'.out.mono gF,atD.out.mono gF⟩;have hpu3:zAk (some 2) [un3,.int .i64 ur3] 0=some (.agg [un3,.int .i64 ur3]):=rfl;clear o9 pF gE gF o5D GD atD atD' hne;cases hz:(aa != 0)
 ·obtain rfl:aa=0:=by simpa using hz
  have fin:Hid (code3=0/\GTi A3/\zGc A2 A3=true):=⟨by
   obtain⟨cg,ch,k⟩:=ab.out.1.zero;have hs:g.nodes.length+h.nodes.length<=1048576:=by have:=F.out.2.2.2.2.1;omega
   obtain⟨k1,k2⟩:=zOt cg ch hs (ab.out.2.2 rfl);have hc3:=law3.out.1.ok ch cg k1;have m3:=law3.out.2.2 hc3;exact⟨hc3,m3.gti (N:=120) (L:=120) ch cg F.out.1.h1 F.out.1.g1 (by have:=F.out.2.2.2.2.1;omega) (by have:=F.out.2.2.2.2.2;omega) (by decide) (by decide),(k2 _ m3).2.2⟩⟩
  obtain rfl:=fin.out.1;repeat refine zR ?_
  refine zBM e1 s1 ((Same_ok H A2 A3 (Asm.out.2 rfl) fin.out.2.1 _ _ hF GF.wf atF.out.1 atF.out.2).mono ?_);rintro _ hG ⟨rfl,gG⟩;have hfin:Hid (Grow h0 hG):=⟨GF.trans gG⟩;have hs:=fin.out.2.2;rw[hs];clear gG GF o5F o9F atF hs;repeat refine zG ?_
  exact⟨rfl,hfin.out⟩
 ·repeat refine zG ?_
  exact⟨rfl,GF⟩
end
end Go.Ab.S
end
