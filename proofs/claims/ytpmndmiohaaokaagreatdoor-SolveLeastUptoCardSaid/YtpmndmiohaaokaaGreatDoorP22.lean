import Derived.Test.YtpmndmiohaaokaaGreatDoorP05
import Derived.Test.YtpmndmiohaaokaaGreatDoorP19
import Derived.Test.YtpmndmiohaaokaaGreatDoorP21
/-
  Part 22 of the proof.
-/
set_option linter.all false
section
namespace Go.Ab.S
open Go Go.Ab
set_option maxHeartbeats 8000000
def tP:List Nat:=[105,110,116,32,45,62,32,39,97]
def tQ:List Nat:=[39,98,32,45,62,32,39,98]
def tI:List Nat:=[105,110,116,32,45,62,32,105,110,116]
def tM:List Nat:=[60,32,109,32,58,32,105,110,116,32,59,32,46,46,32,62]
def tN:List Nat:=[60,32,110,32,58,32,105,110,116,32,62]
structure HasRead (summ:SumT):Prop where
 read:∀s G,(s,G)∈[(tP,gP),(tQ,gQb),(tI,gI),(tM,gM),(tN,gN)]->∀h,WF h->∃v h',summ 23 [.str s] h=some (.ret (.tuple [v,.int .i64 0],h'))/\GraphAt h' v G/\Grow h h'
theorem zFR {h:AHeap} {v:AVal} {g:Graph} (k:GraphAt h v g):∃nv,v=.agg [nv,.int .i64 g.root]/\NodesAt h nv g.nodes/\one nv=true:=by
 obtain ⟨nv,rfl,hN⟩:=k
 exact ⟨nv,rfl,hN,zAR hN.len⟩
def MeetR (g h:Graph) (h0 h':AHeap) (r:AVal):Prop:=∃uv code,r=.tuple [uv,.int .i64 code]/\((code=0/\∃x,MR g h x/\OwnG h' h0.next uv x)\/(code≠0/\uv=.agg [.slice none 0,.int .i64 0]/\(zAF g=0->zAF h=0->code=8/\¬Consi (zBF g h) (zBo g h))))
theorem zPu {g h:Graph} {h0 h':AHeap} {uv:AVal} {code:Int} (hz:code≠0->uv=.agg [.slice none 0,.int .i64 0]) (hc:(zAF g≠0/\code=zAF g)\/(zAF g=0/\zAF h≠0/\code=zAF h)\/(zAF g=0/\zAF h=0/\code=8/\¬Consi (zBF g h) (zBo g h))\/(zAF g=0/\zAF h=0/\code=0/\∃U R,UOut (zBF g h) (zBo g h) U R/\OwnG h' h0.next uv (zCI U))):
  MeetR g h h0 h' (.tuple [uv,.int .i64 code]):=by
 refine ⟨uv,code,rfl,?_⟩
 rcases hc with ⟨k1,k2⟩|⟨k1,k2,k3⟩|⟨k1,k2,k3,k4⟩|⟨k1,k2,k3,U,R,O,own⟩
 ·have:code≠0:=by omega
  exact .inr ⟨this,hz this,fun h=>absurd h k1⟩
 ·have:code≠0:=by omega
  exact .inr ⟨this,hz this,fun _ h=>absurd h k2⟩
 ·have:code≠0:=by omega
  exact .inr ⟨this,hz this,fun _ _=>⟨k3,k4⟩⟩
 ·exact .inl ⟨k3,_,⟨U,R,O,rfl⟩,own⟩
section
variable {fns:FnsT} {summ:SumT} {ro:Option Nat}
theorem zGd {l:List Step} {a:AAct} {h:AHeap} {K:AAct->AHeap->Prop} (I:AAct->Prop) (hi:I a) (k:∀A,I A->St fns summ ro l A h K):St fns summ ro l a h K:=k a hi
end
section
variable {fns:FnsT} {summ:SumT}
variable (H:Has fns summ) (HS:HasSort summ) (HA:HasAs summ)
include H HS HA
theorem Meet' (g h:Graph) (sm:MeetSm g h) {gv hv':AVal} {h0:AHeap} (w0:WF h0) (hv:GraphAt h0 gv g) (hu:GraphAt h0 hv' h):
  Cl fns summ 16 [gv,hv'] h0 fun r h'=>Grow h0 h'/\MeetR g h h0 h' r:=(Meet_ok H HS HA g h sm.g1 sm.h1 sm.b sm.l sm.s w0 hv hu).mono fun r h' ⟨h1,uv,code,h2,h3,h4⟩=>⟨h1,by rw [h2];exact zPu h3 h4⟩
variable (HR:HasRead summ)
include HR
theorem zMp (h:AHeap) (hw:WF h):Cl fns summ 10 [] h fun r h'=>r=.bool true/\Grow h h':=by
 have ht2:∀x y:AVal,List.take 2 [x,y]=[x,y]:=fun _ _=>rfl
 refine H.go (fn:=F_alive08) rfl (by decide) rfl rfl ?_
 unfold F_alive08
 dsimp only [qQ,qE,qN,gQ,gE,vi,tm,mt,lo,fa]
 repeat with_reducible first|refine zAA ?_|refine zAC ?_|refine zAE ?_|refine zAD ?_|(apply st_q;exact q1)
 obtain ⟨vP,h1,rP,gP1,G1⟩:=HR.read tP gP (by simp) h hw
 refine zAc (by exact s1) (zDh rP ?_)
 rw [D.sat_ret]
 dsimp only
 obtain ⟨nP,rfl,NP,oP⟩:=zFR gP1
 repeat with_reducible (apply st_q;exact q1)
 refine zAb G1.wf ?_
 rintro b1 h2 hb1 g2 o1
 refine zAG (v:=.agg [nP,.int .i64 gP.root]) (by exact e1) (by exact e1) (cs:=[nP,.int .i64 gP.root]) rfl rfl g2.wf o1 (by simp) (by simp only [List.all_cons,List.all_nil,oP,Bool.and_true];rfl) ?_
 rintro v3 h3 p3 o1'
 simp only [zlY,zlA,zlC,zlN,zlD,zlZ,zlE,Nat.zero_add,Nat.reduceAdd,zlX,zlK] at o1'
 have G3:=p3.grow h hw (G1.trans g2) (by have:=G1.next;omega)
 have NP':=Hid.mk (NP.mono (p3.grow h1 G1.wf g2 hb1))
 clear o1
 have o1:=o1'
 have G:=G3
 have n1x:=G1.next
 clear p3 o1' G3 g2 NP gP1 rP G1
 repeat with_reducible first|refine zAA ?_|refine zAC ?_|refine zAE ?_|refine zAD ?_|(apply st_q;exact q1)
 obtain ⟨vQ,h4,rQ,gQ1,G1⟩:=HR.read tQ gQb (by simp) h3 G.wf
 refine zAc (by exact s1) (zDh rQ ?_)
 rw [D.sat_ret]
 dsimp only
 obtain ⟨nQ,rfl,NQ,oQ⟩:=zFR gQ1
 repeat with_reducible (apply st_q;exact q1)
 refine zAb G1.wf ?_
 rintro b3 h5 hb g2 oo
 refine zAG (v:=.agg [nQ,.int .i64 gQb.root]) (by exact e1) (by exact e1) (cs:=[nQ,.int .i64 gQb.root]) rfl rfl g2.wf oo (by simp) (by simp only [List.all_cons,List.all_nil,oQ,Bool.and_true];rfl) ?_
 rintro vv h6 pp o3
 simp only [zlY,zlA,zlC,zlN,zlD,zlZ,zlE,Nat.zero_add,Nat.reduceAdd,zlX,zlK] at o3
 have gC:Grow h3 h6:=pp.grow h3 G.wf (G1.trans g2) (by have:=G1.next;omega)
 have NQ':=Hid.mk (NQ.mono (pp.grow h4 G1.wf g2 hb))
 clear pp oo g2 NQ gQ1 rQ G1 hb
 replace o1:=gC.keep _ _ o1
 replace NP':=Hid.mk (NP'.out.mono gC)
 replace G:=G.trans gC
 clear gC
 repeat with_reducible first|refine zAA ?_|refine zAC ?_|refine zAE ?_|refine zAD ?_|(apply st_q;exact q1)
 obtain ⟨vI,h7,rI,gI1,G1⟩:=HR.read tI gI (by simp) h6 G.wf
 refine zAc (by exact s1) (zDh rI ?_)
 rw [D.sat_ret]
 dsimp only
 obtain ⟨nI,rfl,NI,oI⟩:=zFR gI1
 repeat with_reducible (apply st_q;exact q1)
 refine zAb G1.wf ?_
 rintro b5 h8 hb g2 oo
 refine zAG (v:=.agg [nI,.int .i64 gI.root]) (by exact e1) (by exact e1) (cs:=[nI,.int .i64 gI.root]) rfl rfl g2.wf oo (by simp) (by simp only [List.all_cons,List.all_nil,oI,Bool.and_true];rfl) ?_
 rintro vv h9 pp o5
 simp only [zlY,zlA,zlC,zlN,zlD,zlZ,zlE,Nat.zero_add,Nat.reduceAdd,zlX,zlK] at o5
 have gC:Grow h6 h9:=pp.grow h6 G.wf (G1.trans g2) (by have:=G1.next;omega)
 have NI':=Hid.mk (NI.mono (pp.grow h7 G1.wf g2 hb))
 clear pp oo g2 NI gI1 rI G1 hb
 replace o1:=gC.keep _ _ o1
 replace o3:=gC.keep _ _ o3
 replace NP':=Hid.mk (NP'.out.mono gC)
 replace NQ':=Hid.mk (NQ'.out.mono gC)
 replace G:=G.trans gC
 clear gC
 repeat with_reducible first|refine zAA ?_|refine zAC ?_|refine zAE ?_|refine zAD ?_|(apply st_q;exact q1)
 refine zAc (by exact s1) ((Meet' H HS HA gP gQb sm_PQ G.wf ⟨nP,rfl,NP'.out⟩ ⟨nQ,rfl,NQ'.out⟩).mono ?_)
 rintro _ h10 ⟨G1,uv,code,rfl,hc⟩
 obtain ⟨x,rfl,hx,own⟩:∃x,code=0/\MR gP gQb x/\OwnG h10 h9.next uv x:=by
  rcases hc with ⟨rfl,x,hx,own⟩|⟨_,_,k⟩
  ·exact ⟨x,rfl,hx,own⟩
  ·exact absurd zSE (k ok_P ok_Q).2
 obtain ⟨nX,rfl,NX,oX⟩:=zFR own.graph
 have hX:Hid (GTi x/\zFa x gI=true):=⟨zSF hx,by
  obtain ⟨U,R,O,rfl⟩:=hx
  exact (zNY O).1⟩
 have zX:decide (Int.ofNat x.nodes.length>1)=true:=by
  obtain ⟨U,R,O,rfl⟩:=hx
  have:=(zNY O).2
  simp;omega
 have lX:=NX.len
 clear hc own hx
 repeat with_reducible (apply st_q;exact q1)
 refine zAb G1.wf ?_
 rintro b7 h11 hb g2 oo
 refine zAG (v:=.agg [nX,.int .i64 x.root]) (by exact e1) (by exact e1) (cs:=[nX,.int .i64 x.root]) rfl rfl g2.wf oo (by simp) (by simp only [List.all_cons,List.all_nil,oX,Bool.and_true];rfl) ?_
 rintro vv h12 pp o7
 simp only [zlY,zlA,zlC,zlN,zlD,zlZ,zlE,Nat.zero_add,Nat.reduceAdd,zlX,zlK] at o7
 have gC:Grow h9 h12:=pp.grow h9 G.wf (G1.trans g2) (by have:=G1.next;omega)
 have NX':=Hid.mk (NX.mono (pp.grow h10 G1.wf g2 hb))
 clear pp oo g2 NX G1 hb
 replace o1:=gC.keep _ _ o1
 replace o3:=gC.keep _ _ o3
 replace o5:=gC.keep _ _ o5
 replace NP':=Hid.mk (NP'.out.mono gC)
 replace NQ':=Hid.mk (NQ'.out.mono gC)
 replace NI':=Hid.mk (NI'.out.mono gC)
 replace G:=G.trans gC
 clear gC
 repeat with_reducible first|refine zAA ?_|refine zAC ?_|refine zAE ?_|refine zAD ?_|(apply st_q;exact q1)
 refine zGd (fun A=>A.defers=[]/\ev A (.tmp 1)=some (.ptr (some (b1,0)))/\ev A (.tmp 3)=some (.ptr (some (b3,0)))/\ev A (.tmp 5)=some (.ptr (some (b5,0)))/\ev A (.tmp 7)=some (.ptr (some (b7,0)))/\ev A (.tmp 2)=some (.int .i64 0)/\ev A (.tmp 4)=some (.int .i64 0)/\ev A (.tmp 6)=some (.int .i64 0)/\ev A (.tmp 8)=some (.int .i64 0)) ⟨by exact n1,by exact e1,by exact e1,by exact e1,by exact e1,by exact e1,by exact e1,by exact e1,by exact e1⟩ ?_
 rintro a ⟨hd,ta0,ta1,ta2,ta3,ta4,ta5,ta6,ta7⟩
 obtain ⟨vM,h13,rM,gM1,G1⟩:=HR.read tM gM (by simp) h12 G.wf
 refine zAc (by exact s1) (zDh rM ?_)
 rw [D.sat_ret]
 dsimp only
 obtain ⟨nM,rfl,NM,oM⟩:=zFR gM1
 repeat with_reducible (apply st_q;exact q1)
 refine zAb G1.wf ?_
 rintro b9 h14 hb g2 oo
 refine zAG (v:=.agg [nM,.int .i64 gM.root]) (by exact e1) (by exact e1) (cs:=[nM,.int .i64 gM.root]) rfl rfl g2.wf oo (by simp) (by simp only [List.all_cons,List.all_nil,oM,Bool.and_true];rfl) ?_
 rintro vv h15 pp o9
 simp only [zlY,zlA,zlC,zlN,zlD,zlZ,zlE,Nat.zero_add,Nat.reduceAdd,zlX,zlK] at o9
 have gC:Grow h12 h15:=pp.grow h12 G.wf (G1.trans g2) (by have:=G1.next;omega)
 have NM':=Hid.mk (NM.mono (pp.grow h13 G1.wf g2 hb))
 clear pp oo g2 NM gM1 rM G1 hb
 replace o1:=gC.keep _ _ o1
 replace o3:=gC.keep _ _ o3
 replace o5:=gC.keep _ _ o5
 replace o7:=gC.keep _ _ o7
 replace NP':=Hid.mk (NP'.out.mono gC)
 replace NQ':=Hid.mk (NQ'.out.mono gC)
 replace NI':=Hid.mk (NI'.out.mono gC)
 replace NX':=Hid.mk (NX'.out.mono gC)
 replace G:=G.trans gC
 clear gC
 repeat with_reducible first|refine zAA ?_|refine zAC ?_|refine zAE ?_|refine zAD ?_|(apply st_q;exact q1)
 obtain ⟨vN,h16,rN,gN1,G1⟩:=HR.read tN gN (by simp) h15 G.wf
 refine zAc (by exact s1) (zDh rN ?_)
 rw [D.sat_ret]
 dsimp only
 obtain ⟨nN,rfl,NN,oN⟩:=zFR gN1
 repeat with_reducible (apply st_q;exact q1)
 refine zAb G1.wf ?_
 rintro b11 h17 hb g2 oo
 refine zAG (v:=.agg [nN,.int .i64 gN.root]) (by exact e1) (by exact e1) (cs:=[nN,.int .i64 gN.root]) rfl rfl g2.wf oo (by simp) (by simp only [List.all_cons,List.all_nil,oN,Bool.and_true];rfl) ?_
 rintro vv h18 pp o11
 simp only [zlY,zlA,zlC,zlN,zlD,zlZ,zlE,Nat.zero_add,Nat.reduceAdd,zlX,zlK] at o11
 have gC:Grow h15 h18:=pp.grow h15 G.wf (G1.trans g2) (by have:=G1.next;omega)
 have NN':=Hid.mk (NN.mono (pp.grow h16 G1.wf g2 hb))
 clear pp oo g2 NN gN1 rN G1 hb
 replace o1:=gC.keep _ _ o1
 replace o3:=gC.keep _ _ o3
 replace o5:=gC.keep _ _ o5
 replace o7:=gC.keep _ _ o7
 replace o9:=gC.keep _ _ o9
 replace NP':=Hid.mk (NP'.out.mono gC)
 replace NQ':=Hid.mk (NQ'.out.mono gC)
 replace NI':=Hid.mk (NI'.out.mono gC)
 replace NX':=Hid.mk (NX'.out.mono gC)
 replace NM':=Hid.mk (NM'.out.mono gC)
 replace G:=G.trans gC
 clear gC
 repeat with_reducible first|refine zAA ?_|refine zAC ?_|refine zAE ?_|refine zAD ?_|(apply st_q;exact q1)
 refine zAc (by exact s1) ((Meet' H HS HA gM gN sm_MN G.wf ⟨nM,rfl,NM'.out⟩ ⟨nN,rfl,NN'.out⟩).mono ?_)
 rintro _ h19 ⟨G1,uv,code,rfl,hc⟩
 obtain ⟨rfl,rfl⟩:code=8/\uv=.agg [.slice none 0,.int .i64 0]:=by
  rcases hc with ⟨_,x,⟨U,R,O,_⟩,_⟩|⟨_,k1,k2⟩
  ·exact absurd ⟨U,R,O⟩ zSG
  ·exact ⟨(k2 ok_M ok_N).1,k1⟩
 clear hc
 repeat with_reducible (apply st_q;exact q1)
 refine zAb G1.wf ?_
 rintro b13 h20 hb g2 oo
 refine zAG (by exact e1) (by exact e1) (by exact cc) rfl g2.wf oo (by simp) rfl ?_
 rintro vv h21 pp o13
 simp only [zlY,zlA,zlC,zlN,zlD,zlZ,zlE,Nat.zero_add,Nat.reduceAdd,zlX,zlK] at o13
 have gC:Grow h18 h21:=pp.grow h18 G.wf (G1.trans g2) (by have:=G1.next;omega)
 clear pp oo g2 G1 hb o13
 replace o1:=gC.keep _ _ o1
 replace o3:=gC.keep _ _ o3
 replace o5:=gC.keep _ _ o5
 replace o7:=gC.keep _ _ o7
 replace o9:=gC.keep _ _ o9
 replace o11:=gC.keep _ _ o11
 replace NP':=Hid.mk (NP'.out.mono gC)
 replace NQ':=Hid.mk (NQ'.out.mono gC)
 replace NI':=Hid.mk (NI'.out.mono gC)
 replace NX':=Hid.mk (NX'.out.mono gC)
 replace NM':=Hid.mk (NM'.out.mono gC)
 replace NN':=Hid.mk (NN'.out.mono gC)
 replace G:=G.trans gC
 clear gC
 refine zGd (fun A=>A.defers=[]/\ev A (.tmp 1)=some (.ptr (some (b1,0)))/\ev A (.tmp 3)=some (.ptr (some (b3,0)))/\ev A (.tmp 5)=some (.ptr (some (b5,0)))/\ev A (.tmp 7)=some (.ptr (some (b7,0)))/\ev A (.tmp 2)=some (.int .i64 0)/\ev A (.tmp 4)=some (.int .i64 0)/\ev A (.tmp 6)=some (.int .i64 0)/\ev A (.tmp 8)=some (.int .i64 0)/\ev A (.tmp 10)=some (.int .i64 0)/\ev A (.tmp 12)=some (.int .i64 0)/\ev A (.tmp 46)=some (.int .i64 8)) ⟨by exact n1,by exact e1,by exact e1,by exact e1,by exact e1,by exact e1,by exact e1,by exact e1,by exact e1,by exact e1,by exact e1,by exact e1⟩ ?_
 rintro a ⟨hd,tbx,tb0,tb1,tb2,tb3,tb4,tb5,tb6,tb7,tb8,tb9⟩
 clear ta0 ta1 ta2 ta3 ta4 ta5 ta6 ta7
 repeat with_reducible first|refine zAA ?_|refine zAC ?_|refine zAE ?_|refine zAD ?_|(apply st_q;exact q1)|(apply zBi;exact e1;exact q1)
 refine zBu (by exact e1) (by exact s1) ((Same_ok H x gI hX.out.1 zOu _ _ _ G.wf ⟨nX,rfl,NX'.out⟩ ⟨nI,rfl,NI'.out⟩).mono ?_)
 rintro _ hZ ⟨rfl,gZ⟩
 have G':=Hid.mk (G.trans gZ)
 have hs:=hX.out.2
 clear G gZ o1 o3 o5 o7 o9 o11 NP' NQ' NI' NX' NM' NN' hX
 rw [hs]
 repeat' with_reducible first|refine zAA ?_|refine zAC ?_|refine zAQ ?_|(apply st_q;exact q1)|(apply zGu;exact e1;exact e2)|(apply zBi;exact e1;exact q1)|(apply zEu;exact e1;exact g1;exact q2)|(apply zAI;exact n1;exact r1)
 exact ⟨rfl,G'.out⟩
end
end Go.Ab.S
end
section
namespace Go.Ab.S
open Go Go.Ab
set_option maxHeartbeats 8000000
structure RgI (hb:AHeap) (b3:Nat) (root:Int) (ns:List Node) (hq:AHeap):Prop where
 low:hb.next<=b3
 o:∃(ver:Nat) (vo:AVal) (cs:List (List AVal)),hq.objs.get b3=some (ver,.cells false 24 [vo,.int .i64 root])/\Built hq hb.next 36 5 vo ns.length cs.flatten/\cs.length=ns.length/\∀(i:Nat) c n,cs[i]?=some c->ns[i]?=some n->OwnN hq hb.next c n
theorem RgI.other {hb:AHeap} {b3:Nat} {root:Int} {ns:List Node} {hq hr:AHeap} (I:RgI hb b3 root ns hq) (g:Grow hq hr):RgI hb b3 root ns hr:=by
 obtain ⟨ver,vo,cs,h1,h2,h3,h4⟩:=I.o
 exact ⟨I.low,ver,vo,cs,g.keep _ _ h1,h2.grow g,h3,fun i c n hc hn=>OwnN_stay (h4 i c n hc hn) fun b p hb _=>g.keep _ _ hb⟩
theorem RgI.own {hb:AHeap} {b3:Nat} {root:Int} {ns:List Node} {hq:AHeap} (I:RgI hb b3 root ns hq):∃ver vo,hq.objs.get b3=some (ver,.cells false 24 [vo,.int .i64 root])/\OwnG hq hb.next (.agg [vo,.int .i64 root]) ⟨ns,root⟩:=by
 obtain ⟨ver,vo,cs,h1,h2,h3,h4⟩:=I.o
 exact ⟨ver,vo,h1,vo,cs,rfl,h2,h3,h4⟩
theorem RgI.put {hb:AHeap} {b3 ver:Nat} {root:Int} {ns:List Node} {n:Node} {vo vo' av lv:AVal} {cs:List (List AVal)} {hq hs:AHeap} (low:hb.next<=b3) (h2:Built hq hb.next 36 5 vo ns.length cs.flatten) (h3:cs.length=ns.length) (h5:∀(i:Nat) c n,cs[i]?=some c->ns[i]?=some n->OwnN hq hb.next c n)
  (ka:Built hq hb.next 3 1 av n.args.length (n.args.map (AVal.int .i64))) (kl:Built hq hb.next 9 1 lv n.labels.length (n.labels.map AVal.str))
  (hs3:hs.objs.get b3=some (ver,.cells false 24 [vo',.int .i64 root])) (B:Built hs hb.next 36 5 vo' (ns.length+1) (cs++[[.int .i64 n.kind,.str n.name,av,lv,.bool n.isOpen]]).flatten)
  (hk:∀c p,hq.objs.get c=some p->(∀vs,p.2≠.cells false 36 vs)->c≠b3->hs.objs.get c=some p) (h17:∃v vs,hq.objs.get b3=some (v,.cells false 24 vs)):RgI hb b3 root (ns++[n]) hs:=by
 obtain ⟨v17,vs17,o17⟩:=h17
 have hown:∀{e:TypeId} {w:AVal} {k base:Nat} {cells:List AVal},e≠36->e≠24->Built hq base e 1 w k cells->Built hs base e 1 w k cells:=fun he he' kk=>zBL kk fun b p hb ⟨vs,hp⟩ _=>hk b p hb (fun vs' hh=>by rw [hp] at hh;cases hh;exact he rfl) (by
  rintro rfl
  rw [o17] at hb
  simp only [oI] at hb
  rw [<-hb] at hp;cases hp;exact he' rfl)
 refine ⟨low,ver,vo',cs++[[.int .i64 n.kind,.str n.name,av,lv,.bool n.isOpen]],hs3,by rw [zgL];exact B,by simp [h3],fun i c m hc hm=>?_⟩
 rcases Nat.lt_or_ge i ns.length with hij|hij
 ·rw [List.getElem?_append_left (by omega)] at hc hm
  obtain ⟨av',lv',q1,q2,q3⟩:=h5 i c m hc hm
  exact ⟨av',lv',q1,hown (by decide) (by decide) q2,hown (by decide) (by decide) q3⟩
 ·rw [List.getElem?_append_right (by omega),h3] at hc
  rw [List.getElem?_append_right (by omega)] at hm
  obtain rfl:i=ns.length:=by
   have:=(zgS.1 hc).1
   simp only [zlC,zlN] at this
   omega
  rw [Nat.sub_self,zgZ,oI] at hc hm
  subst hc;subst hm
  exact ⟨av,lv,rfl,hown (by decide) (by decide) ka,hown (by decide) (by decide) kl⟩
section
variable {fns:FnsT} {summ:SumT}
variable (H:Has fns summ)
include H
end
end Go.Ab.S
end
section
namespace Go.Ab.S
open Go Go.Ab
set_option maxHeartbeats 1000000
structure Few (n:Nat) (g:Graph):Prop where
 t:GTi g
 c:zAF g=0
 s:g.nodes.length+zAe [] g.nodes 0<=n
end Go.Ab.S
end
section
namespace Go.Ab.S
open Go Go.Ab
set_option maxHeartbeats 1000000
end Go.Ab.S
end
section
namespace Go.Ab.S
open Go Go.Ab
set_option maxHeartbeats 8000000
section
variable {fns:FnsT} {summ:SumT} {ro:Option Nat}
theorem st_b0 {d:Option Tmp} {l:List Step} {a:AAct} {h:AHeap} {K:AAct->AHeap->Prop} (k:St fns summ ro l (putA a d .slice0) h K):St fns summ ro (⟨d,none,.e .bslice0⟩::l) a h K:=
 st_t (by intro _ _ hh;cases hh) (by intro _ _ hh;cases hh) (v:=.slice0) (h':=h) rfl k
theorem zNk {e:TypeId} {bytes sz:Nat} {d:Option Tmp} {x y:AOpd} {l:List Step} {a:AAct} {h:AHeap} {K:AAct->AHeap->Prop} {v:AVal} {xs:List (List AVal)} (hx:ev a x=some .slice0) (hy:ev a y=some v) (hv:SlAt h sz v xs) (hz:0<sz) (ho:xs.flatten.all one=true) (hr:zCl bytes xs.length=true) (w:WF h)
  (k:∀r h',Built h' h.next e sz r xs.length xs.flatten->Grow h h'->St fns summ ro l (putA a d r) h' K):St fns summ ro (⟨d,none,.e (.append e sz bytes x y)⟩::l) a h K:=by
 by_cases hx0:xs=[]
 ·subst hx0
  have hla:lenA v=some 0:=by
   have:=hv.1
   cases v<;>first|exact this|cases this
  refine st_t (by intro _ _ hh;cases hh) (by intro _ _ hh;cases hh) (v:=.slice0) (h':=h) ?_ (k _ _ (.inr (.inl ⟨rfl,rfl,rfl⟩)) (Grow.refl w))
  simp only [zBW,hx,hy,zDg,hla]
 ·exact zEw hx hy hv hz (.inr hx0) ho hr w k
end
def RowV (h:AHeap) (vs:List AVal) (l:List Node):Prop:=l.length*5<=vs.length/\∀i n,l[i]?=some n->∃c,NodeAt h c n/\∀k,k<5->vs[i*5+k]?=c[k]?
theorem zHz {h:AHeap} {c:List AVal} {n:Node} (k:NodeAt h c n):c.length=5:=by obtain ⟨_,_,rfl,_⟩:=k;rfl
theorem RowV.at {h h':AHeap} {vs:List AVal} {l:List Node} (k:RowV h vs l) (g:Grow h h') {b ver:Nat} {ro:Bool} {e:TypeId} (hb:h'.objs.get b=some (ver,.cells ro e vs)):NodesAt h' (.slice (some (b,0)) l.length) l:=by
 obtain ⟨k1,k2⟩:=k
 have hseg:∀i n,l[i]?=some n->NodeAt h ((vs.drop (i*5)).take 5) n:=fun i n hn=>by
  obtain ⟨c,hc,hcs⟩:=k2 i n hn
  have:(vs.drop (i*5)).take 5=c:=by
   apply List.ext_getElem?
   intro m
   have:=zHz hc
   by_cases hm:m<5
   ·rw [List.getElem?_take,if_pos hm,List.getElem?_drop];exact hcs m hm
   ·rw [List.getElem?_take,if_neg hm,List.getElem?_eq_none (by omega)]
  rw [this];exact hc
 refine ⟨(List.range l.length).map fun i=>(vs.drop (i*5)).take 5,⟨by simp [lenO],fun i x hx=>?_⟩,by simp,fun i n c hn hc=>?_⟩
 ·simp only [zgM,Option.map_eq_some_iff,List.getElem?_range'] at hx
  obtain ⟨j,hj,rfl⟩:=hx
  obtain ⟨hjl,rfl⟩:=zgS.1 hj
  rw [List.getElem_range]
  have hil:i<l.length:=by simpa using hjl
  exact ⟨zHz (hseg i _ (zgG hil)),b,0+i*5,ver,ro,e,vs,by simp [slA,hil],hb,by rw [Nat.zero_add]⟩
 ·simp only [zgM,Option.map_eq_some_iff] at hc
  obtain ⟨j,hj,rfl⟩:=hc
  obtain ⟨hjl,rfl⟩:=zgS.1 hj
  rw [List.getElem_range]
  exact (hseg i n hn).mono g
def RowM (hA hp:AHeap) (vs:List AVal) (l:List Node):Prop:=l.length*5<=vs.length/\∀(i:Nat) n,l[i]?=some n->∃c,NodeM hA hp c n/\∀k,k<5->vs[i*5+k]?=c[k]?
theorem RowM.stay {hA hp hq:AHeap} {vs:List AVal} {l:List Node} (k:RowM hA hp vs l) (hk:∀b p,hA.next<=b->hp.objs.get b=some p->(∃ws,p.2=.cells false 3 ws)->hq.objs.get b=some p):RowM hA hq vs l:=
 ⟨k.1,fun i n hn=>by
  obtain ⟨c,h1,h2⟩:=k.2 i n hn
  exact ⟨c,h1.stay hk,h2⟩⟩
theorem RowM.set {hA hp:AHeap} {vs vs':List AVal} {l:List Node} (k:RowM hA hp vs l) {j:Nat} {n:Node} (hj:j<l.length) (hl:vs'.length=vs.length) (hn:∃c,NodeM hA hp c n/\∀k,k<5->vs'[j*5+k]?=c[k]?) (ho:∀i,i<j*5\/j*5+5<=i->vs'[i]?=vs[i]?):RowM hA hp vs' (l.set j n):=by
 refine ⟨by rw [List.length_set,hl];exact k.1,fun i m hm=>?_⟩
 by_cases hij:j=i
 ·subst hij
  rw [List.getElem?_set_self hj] at hm
  cases hm
  exact hn
 ·rw [List.getElem?_set_ne hij] at hm
  obtain ⟨c,hc,hcs⟩:=k.2 i m hm
  refine ⟨c,hc,fun q hq=>?_⟩
  rw [<-hcs q hq]
  exact ho _ (by omega)
theorem RowM.nodes {hA hp:AHeap} {vs:List AVal} {l:List Node} (k:RowM hA hp vs l) (g:Grow hA hp) {b ver:Nat} {ro:Bool} {e:TypeId} (hb:hp.objs.get b=some (ver,.cells ro e vs)):NodesAt hp (.slice (some (b,0)) l.length) l:=
 RowV.at (h:=hp) ⟨k.1,fun i n hn=>by
  obtain ⟨c,h1,h2⟩:=k.2 i n hn
  exact ⟨c,h1.at g,h2⟩⟩ (Grow.refl g.wf) hb
section
variable {fns:FnsT} {summ:SumT}
variable (H:Has fns summ) (HS:HasSort summ) (HA:HasAs summ) (HR:HasRead summ)
include H HS HA HR
end
end Go.Ab.S
end
section
namespace Go.Ab.S
open Go.Ab
set_option maxHeartbeats 8000000
section
variable {fns:FnsT} {summ:SumT}
variable (H:Has fns summ)
include H
theorem Equal_ok (g:Graph) (hg:GraphSm g) (v u:AVal) (h:AHeap) (hw:WF h) (hv:GraphAt h v g) (hu:GraphAt h u g):Cl fns summ 14 [v,u] h fun r h'=>r=.bool true/\Grow h h':=by
 obtain ⟨nv,rfl,hN⟩:=hv
 obtain ⟨mv,rfl,hM⟩:=hu
 have hlN:=hN.len
 have hlM:=hM.len
 have hsm:Hid (∀n∈g.nodes,NodeSm n):=⟨hg.all⟩
 have hNN:=hg.nodes
 refine H.go (fn:=F_Equal) rfl (by decide) rfl rfl ?_
 unfold F_Equal
 dsimp only [qQ,qE,qN,gQ,gE,vi,tm,mt,lo,fa]
 refine zAE (zAD ?_)
 refine zBZ (by exact e1) (by exact cc) hw ?_
 rintro b2 h2 hb2 g2 o2
 refine zBZ (by exact e1) (by exact cc) g2.wf ?_
 rintro b3 h3 hb3 g3 o3
 replace o2:=g3.keep _ _ o2
 have g03:=g2.trans g3
 have z1:(g.root != g.root)=false:=by simp
 have z2:((Int.ofNat g.nodes.length:Int) != Int.ofNat g.nodes.length)=false:=by simp
 clear hb2 hb3 g2
 repeat with_reducible first|refine zAA ?_|refine zAC ?_|refine zAE ?_|refine zAD ?_|refine zAS ?_|(apply st_q;exact q1)|(apply zBi;exact e1;exact q1)|(apply zAJ;exact e1)
 refine zAs (N:=g.nodes.length) (by omega) (fun j a hp=>Grow h3 hp/\a.defers=[]/\ev a (.tmp 2)=some (.ptr (some (b2,0)))/\ev a (.tmp 3)=some (.ptr (some (b3,0))))
  (by rintro j a hp t w (rfl|rfl|rfl) ⟨h1,h2,h3,h4⟩<;>exact ⟨h1,by rw [zAY];exact h2,by exact e1,by exact e1⟩) (by decide) ?_ ?_ ⟨Grow.refl g3.wf,by exact n1,by exact e1,by exact e1⟩ (by exact e1) (by exact e1)
 ·rintro j a hp hj ⟨gp,hd,e2',e3'⟩ hi hn
  obtain ⟨b,o,ver,ro,e,vs,av,lv,hix,hget,hvl,hvo,_,_,w2,_,_,ha,hl⟩:=(hN.mono (g03.trans gp)).at (zgG hj)
  obtain ⟨b',o',ver',ro',e',vs',bv,mv',hix',hget',hvl',hvo',_,_,w2',_,_,hb,hm⟩:=(hM.mono (g03.trans gp)).at (zgG hj)
  have hpart:zBG (some 5) vs o=some (zDI g.nodes[j] av lv):=by rw [zBG,if_pos hvl,hvo];rfl
  have hpart':zBG (some 5) vs' o'=some (zDI g.nodes[j] bv mv'):=by rw [zBG,if_pos hvl',hvo'];rfl
  have o2p:=gp.keep _ _ o2
  have o3p:=gp.keep _ _ o3
  have hmem:=List.getElem_mem hj
  have hsj:=hsm.out _ hmem
  have hargs:=hsj.args
  clear z1 z2 o2 o3
  repeat with_reducible first|refine zAA ?_|refine zAC ?_|refine zAE ?_|refine zAD ?_|refine zAM ?_|refine zAx ?_|(apply dr_q;exact q1)|(apply zCK;exact q1;exact og1)|(apply st_q;exact q1)
  refine dr_e (zJb (by exact s1) ((Alike_ok H _ _ hsj av lv bv mv' hp gp.wf ha hl hb hm).mono ?_))
  rw [zMo]
  rintro _ h4 ⟨rfl,g4⟩
  have k1:=g4.keep _ _ o2p
  have k2:=g4.keep _ _ o3p
  have k3:=g4.keep _ _ hget
  have k4:=g4.keep _ _ hget'
  refine ⟨by simp [zAa,Nat.testBit,k1,k2,k3,k4],?_⟩
  clear o2p o3p hget hget'
  repeat with_reducible first|(apply zSR;exact e1)|(apply dr_q;exact q1)|(apply zCK;exact q1;exact og1)
  refine dr_e (zJb (by exact s1) ((Ints_ok H _ _ hargs av bv h4 (ha.mono g4) (hb.mono g4)).mono ?_))
  rw [zHh]
  rintro _ _ ⟨rfl,rfl⟩
  refine ⟨by simp [zAa,Nat.testBit,k1,k2,k3,k4],?_⟩
  repeat with_reducible first|refine zAA ?_|refine zAN ?_|refine zAS ?_|refine zBU ?_|(apply zSR;exact e1)|(apply dr_q;exact q1)|(apply zAJ;exact e1)
  exact ⟨⟨gp.trans g4,by exact n1,by exact e1,by exact e1⟩,by exact e1,by exact e1⟩
 ·rintro a hp ⟨gp,hd,e2',e3'⟩
  repeat' with_reducible first|refine zAA ?_|refine zAC ?_|refine zAE ?_|refine zAD ?_|refine zAQ ?_|(apply st_q;exact q1)|(apply zAI;exact n1;exact r1)
  exact ⟨rfl,g03.trans gp⟩
end
end Go.Ab.S
end
section
namespace Go.Ab.S
open Go Go.Ab
set_option maxHeartbeats 1000000
def zIY (ps:List Pr) (k:Nat):List Pr:=(ps.drop k++ps.take k).map fun p=>(p.2,p.1)
theorem zQZ (ps:List Pr) (k:Nat):(zIY ps k).length=ps.length:=by simp [zIY];omega
theorem zHX {ps:List Pr} {k:Nat} {p:Pr}:p∈zIY ps k↔(p.2,p.1)∈ps:=by
 have h:∀q:Pr,q∈ps.drop k++ps.take k↔q∈ps:=fun q=>by
  rw [List.mem_append,Or.comm,<-List.mem_append,List.take_append_drop]
 rw [zIY,List.mem_map]
 constructor
 ·rintro ⟨q,hq,rfl⟩;exact (h q).1 hq
 ·intro hp;exact ⟨_,(h _).2 hp,rfl⟩
theorem zKG {g:Graph} {ps:List Pr} {k:Nat} {a b:Int}:Uni g ps a b↔Uni g (zIY ps k) a b:=
 ⟨zJN fun p hp=>.inr (zHX.2 hp),zJN fun p hp=>.inr (zHX.1 hp)⟩
theorem zMu {g:Graph} {ps:List Pr} {k:Nat}:Consi g ps↔Consi g (zIY ps k):=
 ⟨fun h a b u=>h a b (zKG.2 u),fun h a b u=>h a b (zKG.1 u)⟩
theorem zQI {g:Graph} {ps:List Pr} {k:Nat}:(∀p∈zIY ps k,zBq g p=true)↔∀p∈ps,zBq g p=true:=by
 have hs:∀p:Pr,zBq g (p.2,p.1)=zBq g p:=fun p=>by
  simp only [zBq];congr 1;apply propext;constructor<;>(intro h;omega)
 constructor
 ·intro h p hp
  rw [<-hs];exact h _ (zHX.2 hp)
 ·intro h p hp
  rw [<-hs];exact h _ (zHX.1 hp)
def CaseU (g:Graph) (ps:List Pr) (code:Int):Prop:=(code=zAF g/\code≠0)\/(zAF g=0/\code=2/\∃p∈ps,zBq g p=false)\/(zAF g=0/\code=8/\(∀p∈ps,zBq g p=true)/\¬Consi g ps)\/(zAF g=0/\code=0/\(∀p∈ps,zBq g p=true)/\Consi g ps)
theorem CaseU.one {g:Graph} {ps qs:List Pr} {c d:Int} (hr:(∀p∈qs,zBq g p=true)↔∀p∈ps,zBq g p=true) (hc:Consi g ps↔Consi g qs) (h1:CaseU g ps c) (h2:CaseU g qs d):c=d:=by
 have no:∀l:List Pr,(∃p∈l,zBq g p=false)->¬∀p∈l,zBq g p=true:=fun l ⟨p,h1,h2⟩ h=>by rw [h p h1] at h2;cases h2
 rcases h1 with ⟨a1,a2⟩|⟨a1,a2,a3⟩|⟨a1,a2,a3,a4⟩|⟨a1,a2,a3,a4⟩<;>rcases h2 with ⟨b1,b2⟩|⟨b1,b2,b3⟩|⟨b1,b2,b3,b4⟩|⟨b1,b2,b3,b4⟩<;>first
  |(rw [a1,b1];done)
  |(rw [a2,b2];done)
  |exact absurd (a1.trans b1) a2
  |exact absurd (b1.trans a1) b2
  |exact absurd (hr.2 a3) (no _ b3)
  |exact absurd (hr.1 b3) (no _ a3)
  |exact absurd (hc.2 b4) a4
  |exact absurd (hc.1 a4) b4
theorem zMt {g:Graph} {ps qs:List Pr} (h:∀p∈qs,p∈ps) (c:Consi g ps):Consi g qs:=fun a b u=>c a b (u.mono h)
section
variable {g U V D X:Graph} {ps qs:List Pr} {R S R1 RX:List Int} {k:Nat}
theorem zHC {p:Pr}:zBq g p=true↔InG g p.1/\InG g p.2:=by
 simp only [zBq,decide_eq_true_eq,InG];omega
theorem zOe (f:Few 300 g) (O:UOut g ps U R):GTi U/\zAe [] U.nodes 0<=90000/\U.nodes.length<=300/\∀qs X RX,UOut U qs X RX->GTi X:=by
 have hs:=f.s
 have hl:=zGO f.c
 have cU:=O.check f.c
 have B:Bd 300 (zHp g) g:=(Bd.self g).mono (by omega) fun _ h=>h
 have BU:=B.uni f.c O
 have hT:=zHR f.t.toGraphSm
 have hN:U.nodes.length<=300:=by rw [O.lenU];omega
 have hL:=BU.left cU
 have hm:max 300 (zHp g).length=300:=by omega
 rw [hm] at hL
 refine ⟨BU.gti cU (by omega) (by decide) (by omega) hT,?_,hN,fun qs X RX OX=>?_⟩
 ·calc zAe [] U.nodes 0<=U.nodes.length*300:=hL
   _<=300*300:=Nat.mul_le_mul_right _ hN
   _=90000:=rfl
 ·exact (BU.uni cU OX).gti (OX.check cU) (by rw [OX.lenU];omega) (by decide) (by omega) hT
theorem zQY (hc:zAF g=0) (O:UOut g ps U R) (O':UOut g (zIY ps k) V S):R=S/\U=V:=O.one hc O' fun _ _=>zKG
theorem zKI (hc:zAF g=0) (hps:∀p∈ps,zBq g p=true) (O:UOut g ps U R):(∀p∈ps,zBq U p=true)/\Consi U ps:=by
 refine ⟨fun p hp=>?_,zMd hc O (zIS hc (fun p hp=>zHC.1 (hps p hp)) O) O.consi⟩
 rw [zHC,O.inU,O.inU];exact zHC.1 (hps p hp)
theorem zNX (hc:zAF g=0) (hps:∀p∈ps,zBq g p=true) (O:UOut g ps U R) (OX:UOut U ps X RX):zFa X U=true:=by
 have cU:=O.check hc
 exact (zIO (OX.check cU) cU).2 (zOq hc O (zIS hc (fun p hp=>zHC.1 (hps p hp)) O) O OX)
def zJu (ps:List Pr) (R:List Int) (k:Nat):List Pr:=(ps.drop k).map fun p=>(clAt R p.1,clAt R p.2)
theorem zQH (ps:List Pr) (R:List Int) (k:Nat):(zJu ps R k).length=ps.length - k:=by simp [zJu]
theorem zLE (hc:zAF g=0) (hps:∀p∈ps,zBq g p=true) (O1:UOut g (ps.take k) D R1):Stage g (ps.take k) ps D R1 (zJu ps R1 k):=by
 have:=zNR (ps1:=ps.take k) (ps2:=ps.drop k) hc (fun p hp=>zHC.1 (hps p (by rwa [List.take_append_drop] at hp))) O1
 rwa [List.take_append_drop] at this
theorem zQF (hc:zAF g=0) (hps:∀p∈ps,zBq g p=true) (co:Consi g ps) (O1:UOut g (ps.take k) D R1):(∀p∈zJu ps R1 k,zBq D p=true)/\Consi D (zJu ps R1 k):=by
 refine ⟨fun p hp=>?_,zMd hc O1 (zLE hc hps O1) co⟩
 obtain ⟨q,hq,rfl⟩:=List.mem_map.1 hp
 obtain ⟨h1,h2⟩:=zHC.1 (hps q (List.mem_of_mem_drop hq))
 rw [zHC,O1.inU,O1.inU]
 exact ⟨O1.inR hc h1,O1.inR hc h2⟩
theorem zQG (hc:zAF g=0) (hps:∀p∈ps,zBq g p=true) (O:UOut g ps U R) (O1:UOut g (ps.take k) D R1) (OX:UOut D (zJu ps R1 k) X RX):zFa X U=true:=by
 have cD:=O1.check hc
 exact (zIO (OX.check cD) (O.check hc)).2 (zOq hc O1 (zLE hc hps O1) O OX)
end
end Go.Ab.S
end
section
namespace Go.Ab.S
open Go Go.Ab
set_option maxHeartbeats 8000000
def Frm (h:AHeap) (e:TypeId) (v:AVal) (n:Nat):Prop:=v=.slice none 0\/v=.slice0\/∃b ver ro vs,v=.slice (some (b,0)) n/\h.objs.get b=some (ver,.cells ro e vs)
theorem Frm.mono {h h':AHeap} {e:TypeId} {v:AVal} {n:Nat} (k:Frm h e v n) (g:Grow h h'):Frm h' e v n:=by
 rcases k with k|k|⟨b,ver,ro,vs,h1,h2⟩
 ·exact .inl k
 ·exact .inr (.inl k)
 ·exact .inr (.inr ⟨b,ver,ro,vs,h1,g.keep _ _ h2⟩)
section
variable {h:AHeap} {sz:Nat} {xs:List (List AVal)} {b:Nat}
theorem zGb {v:AVal} (k:lenO v=some 0):SlAt h sz v []:=⟨k,fun i x hx=>by simp at hx⟩
theorem zRo (k:SlAt h sz (.slice (some (b,0)) xs.length) xs) {j:Nat}:SlAt h sz (.slice (some (b,j*sz)) (xs.length - j)) (xs.drop j):=by
 refine ⟨by simp [lenO],fun i x hx=>?_⟩
 rw [List.getElem?_drop] at hx
 obtain ⟨h1,b',o,ver,ro,e,vs,h2,h3,h4⟩:=k.2 _ x hx
 have hi:j+i<xs.length:=(zgS.1 hx).1
 refine ⟨h1,b',o,ver,ro,e,vs,?_,h3,h4⟩
 simp only [slA,if_pos hi] at h2
 simp only [slA,if_pos (show i<xs.length - j by omega)]
 rw [<-h2,Nat.add_mul];congr 2;omega
theorem sl_to (k:SlAt h sz (.slice (some (b,0)) xs.length) xs) {j:Nat} (hj:j<=xs.length):SlAt h sz (.slice (some (b,0)) j) (xs.take j):=by
 refine ⟨by simp [lenO];omega,fun i x hx=>?_⟩
 have hij:i<j:=by have:=(zgS.1 hx).1;simp at this;omega
 rw [List.getElem?_take,if_pos hij] at hx
 obtain ⟨h1,b',o,ver,ro,e,vs,h2,h3,h4⟩:=k.2 _ x hx
 refine ⟨h1,b',o,ver,ro,e,vs,?_,h3,h4⟩
 simp only [slA,if_pos (show i<xs.length by omega)] at h2
 simp only [slA,if_pos hij]
 exact h2
end
section
variable {fns:FnsT} {summ:SumT} {ro:Option Nat}
variable {d:Option Tmp} {e:TypeId} {sz k:Nat} {kd:IntKind} {x y:AOpd} {l:List Step} {a:AAct} {h:AHeap} {K:AAct->AHeap->Prop} {v:AVal} {xs:List (List AVal)}
theorem zQq (hx:ev a x=some v) (hv:SlAt h sz v xs) (hf:Frm h e v xs.length) (hy:ev a y=some (.int kd (k:Nat))) (hk:k<=xs.length):∃r,qA a h (.slice e sz x (some y) none)=some (r,none)/\SlAt h sz r (xs.drop k):=by
 rcases hf with rfl|rfl|⟨b,ver,rb,vs,rfl,hb⟩
 ·have hx0:xs=[]:=by have:=hv.1;simp only [lenO,oI] at this;exact List.length_eq_zero_iff.1 this.symm
  subst hx0
  obtain rfl:k=0:=by simpa using hk
  refine ⟨.slice none 0,?_,zGb rfl⟩
  simp only [zBP,hx,zBC,hy];rfl
 ·have hx0:xs=[]:=by have:=hv.1;simp only [lenO,oI] at this;exact List.length_eq_zero_iff.1 this.symm
  subst hx0
  obtain rfl:k=0:=by simpa using hk
  refine ⟨.slice0,?_,zGb rfl⟩
  simp only [zBP,hx,zBC,hy];rfl
 ·by_cases h0:k=0
  ·subst h0
   refine ⟨.slice (some (b,0)) xs.length,?_,by rw [zlZ];exact hv⟩
   simp only [zBP,hx,zBC,hy]
   simp
  ·have hc:(0:Int)<=(k:Nat)/\k<=xs.length:=⟨by omega,hk⟩
   by_cases hlt:k<xs.length
   ·refine ⟨.slice (some (b,k*sz)) (xs.length - k),?_,zRo hv⟩
    simp only [zBP,hx,zBC,hy,Int.toNat_natCast,if_pos hc,hb,if_true,Nat.zero_add]
    obtain ⟨m,rfl⟩:∃m,k=m+1:=⟨k - 1,by omega⟩
    simp only [if_pos hlt]
   ·have hkl:k=xs.length:=by omega
    refine ⟨.sliceE,?_,by rw [hkl,List.drop_length];exact zGb rfl⟩
    simp only [zBP,hx,zBC,hy,Int.toNat_natCast,if_pos hc]
    obtain ⟨m,rfl⟩:∃m,k=m+1:=⟨k - 1,by omega⟩
    simp only [if_neg hlt]
theorem q_to (hx:ev a x=some v) (hv:SlAt h sz v xs) (hf:Frm h e v xs.length) (hy:ev a y=some (.int kd (k:Nat))) (hk:k<=xs.length):∃r,qA a h (.slice e sz x none (some y))=some (r,none)/\SlAt h sz r (xs.take k):=by
 rcases hf with rfl|rfl|⟨b,ver,rb,vs,rfl,hb⟩
 ·have hx0:xs=[]:=by have:=hv.1;simp only [lenO,oI] at this;exact List.length_eq_zero_iff.1 this.symm
  subst hx0
  obtain rfl:k=0:=by simpa using hk
  refine ⟨.slice none 0,?_,zGb rfl⟩
  simp only [zBP,hx,zBC,hy];rfl
 ·have hx0:xs=[]:=by have:=hv.1;simp only [lenO,oI] at this;exact List.length_eq_zero_iff.1 this.symm
  subst hx0
  obtain rfl:k=0:=by simpa using hk
  refine ⟨.slice0,?_,zGb rfl⟩
  simp only [zBP,hx,zBC,hy];rfl
 ·refine ⟨.slice (some (b,0)) k,?_,sl_to hv hk⟩
  have hc:(0:Int)<=(k:Nat)/\k<=xs.length:=⟨by omega,hk⟩
  simp only [zBP,hx,zBC,hy,Int.toNat_natCast,if_pos hc]
theorem zRq (hx:ev a x=some v) (hv:SlAt h sz v xs) (hf:Frm h e v xs.length) (hy:ev a y=some (.int kd (k:Nat))) (hk:k<=xs.length) (kk:∀r,SlAt h sz r (xs.drop k)->St fns summ ro l (putA a d r) h K):St fns summ ro (⟨d,none,.q (.slice e sz x (some y) none)⟩::l) a h K:=by
 obtain ⟨r,h1,h2⟩:=zQq hx hv hf hy hk
 exact st_q h1 (kk r h2)
theorem zRH {i p:Nat} {hs:List Held} {l:List DStep} (hx:ev a x=some v) (hv:SlAt h sz v xs) (hf:Frm h e v xs.length) (hy:ev a y=some (.int kd (k:Nat))) (hk:k<=xs.length) (kk:∀r,SlAt h sz r (xs.drop k)->Dr fns summ ro l hs (putA a d r) h K):Dr fns summ ro (⟨i,p,⟨d,none,.q (.slice e sz x (some y) none)⟩⟩::l) hs a h K:=by
 obtain ⟨r,h1,h2⟩:=zQq hx hv hf hy hk
 exact dr_q h1 (kk r h2)
theorem zSS {i p:Nat} {hs:List Held} {l:List DStep} (hx:ev a x=some v) (hv:SlAt h sz v xs) (hf:Frm h e v xs.length) (hy:ev a y=some (.int kd (k:Nat))) (hk:k<=xs.length) (kk:∀r,SlAt h sz r (xs.take k)->Dr fns summ ro l hs (putA a d r) h K):Dr fns summ ro (⟨i,p,⟨d,none,.q (.slice e sz x none (some y))⟩⟩::l) hs a h K:=by
 obtain ⟨r,h1,h2⟩:=q_to hx hv hf hy hk
 exact dr_q h1 (kk r h2)
theorem zNP {base bytes n:Nat} {cells:List AVal} {u:AVal} (hs:ev a x=some v) (hy:ev a y=some u) (B:Built h base e sz v n cells) (hu:SlAt h sz u xs) (hz:0<sz) (ho:xs.flatten.all one=true) (hr:zCl bytes (n+xs.length)=true) (w:WF h) (hbase:base<=h.next)
  (k:∀v' h',Built h' base e sz v' (n+xs.length) (cells++xs.flatten)->WF h'->h.next<=h'.next->(∀h0,WF h0->Grow h0 h->h0.next<=base->Grow h0 h')->(∀c p,h.objs.get c=some p->(∀n,v≠.slice (some (c,0)) n)->h'.objs.get c=some p)->St fns summ ro l (putA a d v') h' K):
  St fns summ ro (⟨d,none,.e (.append e sz bytes x y)⟩::l) a h K:=by
 rcases Nat.eq_zero_or_pos xs.length with h0|h0
 ·have hx0:xs=[]:=List.length_eq_zero_iff.1 h0
  subst hx0
  have hla:lenA u=some 0:=by
   have:=hu.1
   cases u<;>first|exact this|cases this
  refine st_t (by intro _ _ hh;cases hh) (by intro _ _ hh;cases hh) (v:=v) (h':=h) ?_ (k _ _ (by simpa using B) w (Nat.le_refl _) (fun _ _ g _=>g) fun _ _ p _=>p)
  rcases B with ⟨rfl,_⟩|⟨rfl,_⟩|⟨_,_,_,_,rfl,_⟩<;>simp only [zBW,hs,hy,zDg,hla]
 ·rcases zFx hu.1 with rfl|⟨b,o,rfl⟩|⟨_,hh⟩|⟨_,hh⟩
  ·obtain ⟨_,b,o,ver,ro,e,vs,h1,_⟩:=hu.2 0 _ (zgG h0)
   cases h1
  ·obtain ⟨_,ver,rb,eb,vs,h2,h3,h4,h5⟩:=SlAt_cells hu h0 hz
   refine zIP hs hy B (m:=xs.length) rfl h0 (new:=xs.flatten) ?_ ho hr h5 w hbase fun v' h' B' _ w' n' g kp=>k v' h' B' w' n' g kp
   simp only [zEb,h2,if_pos h3,h4]
  ·omega
  ·omega
end
theorem zMX (l:List Pr):(l.map zBS).flatten.all one=true:=by rw [List.all_flatten,List.all_eq_true];intro x hx;obtain ⟨p,_,rfl⟩:=List.mem_map.1 hx;rfl
theorem zHa {h:AHeap} {base:Nat} {e:TypeId} {v:AVal} {l:List Pr} (B:Built h base e 2 v l.length (l.map zBS).flatten):PrsAt h v l:=
 B.sl (by decide) rfl (by intro c hc;obtain ⟨p,_,rfl⟩:=List.mem_map.1 hc;rfl) (by simp)
def zLr:Graph:=⟨[],0⟩
theorem zSA (h:AHeap):GraphAt h (.agg [.slice none 0,.int .i64 0]) zLr:=⟨.slice none 0,rfl,⟨[],⟨rfl,fun i x hx=>by simp at hx⟩,rfl,fun i n c hn=>by simp [zLr] at hn⟩⟩
section
variable {fns:FnsT} {summ:SumT}
variable (H:Has fns summ) (HS:HasSort summ) (HA:HasAs summ)
include H HS HA
theorem UnifyG (g:Graph) (hg:GTi g) (ps:List Pr) (hps:ps.length<=2 ^ 20) (hL:zAe [] g.nodes 0<=2 ^ 20) (hsm:(g.nodes.length+1)*(zAe [] g.nodes 0+1)+ps.length<=2 ^ 30) {gv pv:AVal} {h0:AHeap} (w0:WF h0) (hv:GraphAt h0 gv g) (hpv:PrsAt h0 pv ps):
  Cl fns summ 12 [gv,pv] h0 fun r h'=>Grow h0 h'/\∃un ur rv code A L,r=.tuple [.agg [un,.int .i64 ur],rv,.int .i64 code]/\one un=true/\lenO rv=some L.length/\Hid (GraphAt h' (.agg [un,.int .i64 ur]) A/\IntsAt h' rv L)/\Hid (CaseU g ps code/\(code≠0->A=zLr/\L=[])/\(code=0->UOut g ps A L)):=by
 refine (Unify_ok H HS HA g hg ps hps hL hsm w0 hv hpv).mono ?_
 rintro _ h' ⟨g1,uv,rv,code,rfl,hz,hc⟩
 refine ⟨g1,?_⟩
 have bad:code≠0->CaseU g ps code->∃un ur rv' code' A L,AVal.tuple [uv,rv,.int .i64 code]=.tuple [.agg [un,.int .i64 ur],rv',.int .i64 code']/\one un=true/\lenO rv'=some L.length/\Hid (GraphAt h' (.agg [un,.int .i64 ur]) A/\IntsAt h' rv' L)/\Hid (CaseU g ps code'/\(code'≠0->A=zLr/\L=[])/\(code'=0->UOut g ps A L)):=fun h hca=>by
  obtain ⟨rfl,rfl⟩:=hz h
  exact ⟨_,_,_,_,zLr,[],rfl,rfl,rfl,⟨zSA _,zGb rfl⟩,⟨hca,fun _=>⟨rfl,rfl⟩,fun h0=>absurd h0 h⟩⟩
 rcases hc with ⟨k1,k2⟩|⟨k0,k1,k2⟩|⟨k0,k1,k2,k3⟩|⟨k0,k1,k2,U,R,O,own,Br⟩
 ·exact bad k2 (.inl ⟨k1,k2⟩)
 ·exact bad (by rw [k1];decide) (.inr (.inl ⟨k0,k1,k2⟩))
 ·exact bad (by rw [k1];decide) (.inr (.inr (.inl ⟨k0,k1,k2,k3⟩)))
 ·obtain ⟨un,cs,rfl,kB,kl,kn⟩:=own
  have own:OwnG h' h0.next (.agg [un,.int .i64 U.root]) U:=⟨un,cs,rfl,kB,kl,kn⟩
  exact ⟨un,U.root,rv,code,U,R,rfl,zAR kB.len,Br.len,⟨own.graph,zDK Br⟩,⟨.inr (.inr (.inr ⟨k0,k1,k2,O.consi⟩)),fun h=>absurd k1 h,fun _=>O⟩⟩
end
end Go.Ab.S
end
section
namespace Go.Ab
open Go.RowKit (Below)

mutual
def mapV (f:Nat->Nat):AVal->AVal
 | .ptr (some p)=>.ptr (some (f p.1,p.2))
 | .slice (some p) n=>.slice (some (f p.1,p.2)) n
 | .agg l=>.agg (zEt f l)
 | .tuple l=>.tuple (zEt f l)
 | .iface t v=>.iface t (mapV f v)
 |v=>v
def zEt (f:Nat->Nat):List AVal->List AVal
 |[]=>[]
 |x::r=>mapV f x::zEt f r
end
mutual
def zGV (k:Nat):AVal->Bool
 | .ptr (some p)=>Nat.blt p.1 k
 | .slice (some p) _=>Nat.blt p.1 k
 | .agg l=>zDV k l
 | .tuple l=>zDV k l
 | .iface _ v=>zGV k v
 | .map (some _)=>false
 | .func _ _ _=>false
 | .yield _=>false
 |_=>true
def zDV (k:Nat):List AVal->Bool
 |[]=>true
 |x::r=>zGV k x&&zDV k r
end
theorem zDa (f:Nat->Nat):∀l:List AVal,(zEt f l).length=l.length
 |[]=>rfl
 |_::r=>congrArg (· +1) (zDa f r)

section
variable {P:Program} {G G':GM} {f g:Nat->Nat} {k:Nat}
mutual
theorem VR.ren (hG:∀i,i<k->∀gi,G (f i)=some gi->G' (g i)=some gi):∀{x:AVal} {v:Value},zGV k x=true->VR P G (mapV f x) v->VR P G' (mapV g x) v
 | .bool _,_,_,e=>e
 | .int _ _,_,_,e=>e
 | .str _,_,_,e=>e
 | .ptr none,_,_,e=>e
 | .ptr (some p),_,h,⟨gi,e,r⟩=>⟨gi,hG _ (Nat.blt_eq.mp h) _ e,r⟩
 | .slice none _,_,_,e=>e
 | .slice (some p) _,_,h,⟨gi,c,e,r⟩=>⟨gi,c,hG _ (Nat.blt_eq.mp h) _ e,r⟩
 | .slice0,_,_,e=>e
 | .sliceE,_,_,e=>e
 | .map none,_,_,e=>e
 | .map (some _),_,h,_=>by cases h
 | .func _ _ _,_,h,_=>by cases h
 | .yield _,_,h,_=>by cases h
 | .nilFunc,_,_,e=>e
 | .iface _ _,_,h,⟨y,e,r⟩=>⟨y,e,VR.ren hG h r⟩
 | .nilIface,_,_,e=>e
 | .agg _,_,h,⟨L,e,r⟩=>⟨L,e,VsR.ren hG h r⟩
 | .tuple _,_,h,⟨L,e,r⟩=>⟨L,e,VsR.ren hG h r⟩
theorem VsR.ren (hG:∀i,i<k->∀gi,G (f i)=some gi->G' (g i)=some gi):∀{xs:List AVal} {vs:List Value},zDV k xs=true->VsR P G (zEt f xs) vs->VsR P G' (zEt g xs) vs
 |[],_,_,e=>e
 |_::_,_,h,⟨y,ys,e,a,b⟩=>by
  simp only [zDV,Bool.and_eq_true] at h
  exact ⟨y,ys,e,VR.ren hG h.1 a,VsR.ren hG h.2 b⟩
end
end

def layH (n:Nat):List (TypeId×List AVal)->AHeap->AHeap
 |[],h=>h
 |(e,vs)::r,h=>layH n r (newA h (.cells false e (zEt (n+ ·) vs)))
theorem zFC (n:Nat):∀(os:List (TypeId×List AVal)) (h:AHeap),(layH n os h).next=h.next+os.length
 |[],h=>rfl
 |(e,vs)::r,h=>by rw [layH,zFC n r];simp only [newA,zlC];omega
theorem zJi (n:Nat):∀(os:List (TypeId×List AVal)) (h:AHeap) (b:Nat),b<h.next\/h.next+os.length<=b->(layH n os h).objs.get b=h.objs.get b
 |[],h,_,_=>rfl
 |(e,vs)::r,h,b,hb=>by
  simp only [zlC] at hb
  rw [layH,zJi n r _ b (by simp only [newA];omega)]
  simp only [newA,T.get_set]
  rw [if_neg (by omega)]
theorem zCF (n:Nat):∀(os:List (TypeId×List AVal)) (h:AHeap) (i:Nat) (e:TypeId) (vs:List AVal),os[i]?=some (e,vs)->(layH n os h).objs.get (h.next+i)=some (h.next+i,.cells false e (zEt (n+ ·) vs))
 |[],h,_,_,_,hi=>by simp at hi
 |(e,vs)::r,h,0,e',vs',hi=>by
  simp only [zgZ,oI,Prod.mk.injEq] at hi
  obtain ⟨rfl,rfl⟩:=hi
  rw [layH,zJi n r _ _ (by simp only [newA];omega)]
  simp only [newA,T.get_set,Nat.add_zero,if_true]
 |(e,vs)::r,h,i+1,e',vs',hi=>by
  simp only [List.getElem?_cons_succ] at hi
  have:=zCF n r (newA h (.cells false e (zEt (n+ ·) vs))) i e' vs' hi
  rw [layH,show h.next+(i+1)=(newA h (.cells false e (zEt (n+ ·) vs))).next+i by simp only [newA];omega]
  exact this

section
variable {P:Program} {N:Nat} {w0 w w':World} {G GA GA':GM} {h hA hA':AHeap}

theorem Rel.beside (R1:Rel P N w0 G h w) (R2:Rel P N w0 GA' hA' w') (E2:Ext GA hA w GA' hA' w') (hro:∀id x,hA.objs.get id=some x->x.2.ro=true)
  {os:List (TypeId×List AVal)} {keep:List Nat} (hk:keep.length=os.length) (hnd:keep.Nodup) (hpl:∀o∈os,zDV os.length o.2=true)
  (hos:∀(i:Nat) e vs,os[i]?=some (e,vs)->∃ver,hA'.objs.get (keep.getD i 0)=some (ver,.cells false e (zEt (fun j=>keep.getD j 0) vs))) {v0:AVal} {cv:Value} (hv0:zGV os.length v0=true) (hv:VR P GA' (mapV (fun j=>keep.getD j 0) v0) cv):
  ∃G'',Rel P N w0 G'' (layH h.next os h) w'/\Ext G h w G'' (layH h.next os h) w'/\VR P G'' (mapV (h.next+ ·) v0) cv:=by
 have hfr:∀b,b<w.heap.size->w'.heap[b]?=w.heap[b]?:=fun b hb=>E2.frame b hb fun id x gi hx hf _=>by rw [hro id x hx] at hf;cases hf
 have hnew:∀(i:Nat) e vs,os[i]?=some (e,vs)->∃ver gi ob,hA'.objs.get (keep.getD i 0)=some (ver,.cells false e (zEt (fun j=>keep.getD j 0) vs))/\GA' (keep.getD i 0)=some gi/\w'.heap[gi.blk]?=some ob/\OR P GA' gi (.cells false e (zEt (fun j=>keep.getD j 0) vs)) ob/\w.heap.size<=gi.blk:=by
  intro i e vs hi
  obtain ⟨ver,h1⟩:=hos i e vs hi
  obtain ⟨gi,h2,ob,h3,h4⟩:=R2.obj _ _ _ h1
  refine ⟨ver,gi,ob,h1,h2,h3,h4,?_⟩
  rcases E2.owned _ _ gi h1 rfl h2 with h5|⟨id0,x0,_,h5,h6,_⟩
  ·exact h5
  ·rw [hro id0 x0 h5] at h6;cases h6
 let G'':GM:=fun i=>if h.next<=i/\i<h.next+os.length then GA' (keep.getD (i - h.next) 0) else G i
 have hG1:∀i,i<os.length->G'' (h.next+i)=GA' (keep.getD i 0):=fun i hi=>by
  show (if _ then _ else _)=_
  rw [if_pos (by omega),show h.next+i - h.next=i by omega]
 have hG2:∀i,i<h.next->G'' i=G i:=fun i hi=>by
  show (if _ then _ else _)=_
  rw [if_neg (by omega)]
 have hle:GLe G G'':=fun i gi hi=>by
  rcases Nat.lt_or_ge i h.next with hl|hl
  ·rw [hG2 i hl];exact hi
  ·rw [R1.fresh i hl] at hi;cases hi
 have hren:∀i,i<os.length->∀gi,GA' (keep.getD i 0)=some gi->G'' (h.next+i)=some gi:=fun i hi gi hg=>by rw [hG1 i hi];exact hg
 have hcase:∀id x,(layH h.next os h).objs.get id=some x->(id<h.next/\h.objs.get id=some x)\/∃i e vs,id=h.next+i/\i<os.length/\os[i]?=some (e,vs)/\x=(h.next+i,.cells false e (zEt (h.next+ ·) vs)):=by
  intro id x hx
  by_cases hr:h.next<=id/\id<h.next+os.length
  ·obtain ⟨i,rfl⟩:∃i,id=h.next+i:=⟨id - h.next,by omega⟩
   have hi:i<os.length:=by omega
   have:=zCF h.next os h i os[i].1 os[i].2 (zgG hi)
   rw [this] at hx
   simp only [oI] at hx
   exact .inr ⟨i,os[i].1,os[i].2,rfl,hi,zgG hi,hx.symm⟩
  ·rw [zJi _ _ _ _ (by omega)] at hx
   rcases Nat.lt_or_ge id h.next with hl|hl
   ·exact .inl ⟨hl,hx⟩
   ·obtain ⟨gi,hgi,_⟩:=R1.obj id x.1 x.2 hx
    rw [R1.fresh id hl] at hgi;cases hgi
 have hblk:∀id x gi,h.objs.get id=some x->G id=some gi->gi.blk<w.heap.size:=fun id x gi hx hg=>by
  obtain ⟨gi',h1,ob,h2,_⟩:=R1.obj id x.1 x.2 hx
  rw [hg] at h1;cases h1
  exact zAz h2
 have hown:∀(id:Nat) (x:Nat×AObj) gi,(layH h.next os h).objs.get id=some x->x.2.ro=false->G'' id=some gi->w.heap.size<=gi.blk\/∃id0 x0 gi0,h.objs.get id0=some x0/\x0.2.ro=false/\G id0=some gi0/\gi0.blk=gi.blk:=by
  intro id x gi hx hf hg
  rcases hcase id x hx with ⟨hl,h1⟩|⟨i,e,vs,rfl,hi,h1,rfl⟩
  ·rw [hG2 id hl] at hg
   exact .inr ⟨id,x,gi,h1,hf,hg,rfl⟩
  ·obtain ⟨ver,gi',ob,k1,k2,k3,k4,k5⟩:=hnew i e vs h1
   rw [hG1 i hi,k2] at hg;cases hg
   exact .inl k5
 refine ⟨G'',⟨?_,?_,?_,?_,?_,?_,?_,R2.below,R2.size,?_⟩,⟨hle,?_,?_,?_,hown,E2.size⟩,VR.ren hren hv0 hv⟩
 ·intro id ver o hx
  rcases hcase id _ hx with ⟨hl,h1⟩|⟨i,e,vs,rfl,hi,h1,h2⟩
  ·obtain ⟨gi,k1,ob,k2,k3⟩:=R1.obj id ver o h1
   exact ⟨gi,hle _ _ k1,ob,by rw [hfr _ (zAz k2)];exact k2,k3.mono hle⟩
  ·simp only [Prod.mk.injEq] at h2
   obtain ⟨rfl,rfl⟩:=h2
   obtain ⟨ver,gi',ob,k1,k2,k3,k4,k5⟩:=hnew i e vs h1
   refine ⟨gi',hren i hi _ k2,ob,k3,?_⟩
   obtain ⟨c,t,fr,q1,q2,q3,q4,q5,q6⟩:=k4
   rw [zDa] at q5 q6
   refine ⟨c,t,fr,q1,q2,q3,q4,by rw [zDa];exact q5,?_⟩
   rw [zDa]
   exact VsR.ren hren (hpl (e,vs) (List.mem_of_getElem? h1)) q6
 ·intro id id' x x' gi gi' hx hx' hf hg hg' hb
  rcases hcase id _ hx with ⟨hl,h1⟩|⟨i,e,vs,rfl,hi,h1,rfl⟩
  ·rw [hG2 id hl] at hg
   have hlt:=hblk id x gi h1 hg
   rcases hcase id' _ hx' with ⟨hl',h1'⟩|⟨i',e',vs',rfl,hi',h1',rfl⟩
   ·rw [hG2 id' hl'] at hg'
    exact R1.inj id id' x x' gi gi' h1 h1' hf hg hg' hb
   ·obtain ⟨ver,gi2,ob,k1,k2,k3,k4,k5⟩:=hnew i' e' vs' h1'
    rw [hG1 i' hi',k2] at hg';cases hg'
    omega
  ·obtain ⟨ver,gi1,ob,k1,k2,k3,k4,k5⟩:=hnew i e vs h1
   rw [hG1 i hi,k2] at hg;cases hg
   rcases hcase id' _ hx' with ⟨hl',h1'⟩|⟨i',e',vs',rfl,hi',h1',rfl⟩
   ·rw [hG2 id' hl'] at hg'
    have hlt:=hblk id' x' gi' h1' hg'
    omega
   ·obtain ⟨ver',gi2,ob',k1',k2',k3',k4',k5'⟩:=hnew i' e' vs' h1'
    rw [hG1 i' hi',k2'] at hg';cases hg'
    have he:=R2.inj _ _ _ _ gi gi' k1 k1' rfl k2 k2' hb
    have e1:keep.getD i 0=keep[i]'(by omega):=by simp [List.getD,zgG (show i<keep.length by omega)]
    have e2:keep.getD i' 0=keep[i']'(by omega):=by simp [List.getD,zgG (show i'<keep.length by omega)]
    rw [e1,e2] at he
    have:=(List.getElem_inj hnd).1 he
    rw [this]
 ·intro id ver o gi hx hg hf
  rcases hcase id _ hx with ⟨hl,h1⟩|⟨i,e,vs,rfl,hi,h1,h2⟩
  ·rw [hG2 id hl] at hg
   exact R1.own id ver o gi h1 hg hf
  ·obtain ⟨ver',gi1,ob,k1,k2,k3,k4,k5⟩:=hnew i e vs h1
   rw [hG1 i hi,k2] at hg;cases hg
   exact R2.own _ _ _ _ k1 k2 rfl
 ·intro id hid
  rw [zFC] at hid
  show (if _ then _ else _)=_
  rw [if_neg (by omega)]
  exact R1.fresh id (by omega)
 ·intro id ver o hx
  rw [zFC]
  rcases hcase id _ hx with ⟨hl,h1⟩|⟨i,e,vs,rfl,hi,h1,h2⟩
  ·have:=R1.vers id ver o h1;omega
  ·simp only [Prod.mk.injEq] at h2;omega
 ·intro g hg
  have:=R1.low
  rw [hG2 g (by omega)];exact R1.glob g hg
 ·rw [zFC];have:=R1.low;omega
 ·intro id ver o gi hx hg hr
  rcases hcase id _ hx with ⟨hl,h1⟩|⟨i,e,vs,rfl,hi,h1,h2⟩
  ·rw [hG2 id hl] at hg
   exact R1.rolow id ver o gi h1 hg hr
  ·simp only [Prod.mk.injEq] at h2
   rw [h2.2] at hr;cases hr
 ·rw [zFC];omega
 ·intro id ver o hx
  rcases hcase id _ hx with ⟨hl,h1⟩|⟨i,e,vs,rfl,hi,h1,h2⟩
  ·refine .inr ⟨h1,fun gi hg=>hfr _ (hblk id _ gi h1 hg)⟩
  ·simp only [Prod.mk.injEq] at h2;exact .inl (by omega)
 ·intro b hb _
  exact hfr b hb
end
end Go.Ab
end
section
namespace Go.Ab
open Go.RowKit (Below)

def eqO:Option (Nat×Nat)->Option (Nat×Nat)->Bool
 |none,none=>true
 |some p,some q=>Nat.beq p.1 q.1&&Nat.beq p.2 q.2
 |_,_=>false
theorem zKc:∀{a b:Option (Nat×Nat)},eqO a b=true->a=b
 |none,none,_=>rfl
 |some (p1,p2),some (q1,q2),h=>by
  simp only [eqO,Bool.and_eq_true] at h
  rw [Nat.eq_of_beq_eq_true h.1,Nat.eq_of_beq_eq_true h.2]
 |none,some _,h=>by cases h
 |some _,none,h=>by cases h
mutual
def eqV:AVal->AVal->Bool
 | .bool a,.bool b=>a==b
 | .int k a,.int k' b=>decide (k=k')&&a==b
 | .str s,.str t=>decide (s=t)
 | .ptr x,.ptr y=>eqO x y
 | .slice x n,.slice y m=>eqO x y&&Nat.beq n m
 | .slice0,.slice0=>true
 | .sliceE,.sliceE=>true
 | .agg l,.agg m=>eqVs l m
 | .tuple l,.tuple m=>eqVs l m
 |_,_=>false
def eqVs:List AVal->List AVal->Bool
 |[],[]=>true
 |x::r,y::s=>eqV x y&&eqVs r s
 |_,_=>false
end
mutual
theorem zKd:∀{a b:AVal},eqV a b=true->a=b:=by
 intro a b h
 cases a with
 |bool x=>cases b<;>simp [eqV] at h;rw [h]
 |int k x=>cases b<;>simp [eqV] at h;rw [h.1,h.2]
 |str x=>cases b<;>simp [eqV] at h;rw [h]
 |ptr x=>cases b<;>simp only [eqV,Bool.false_eq_true] at h;rw [zKc h]
 |slice x n=>cases b<;>simp only [eqV,Bool.false_eq_true,Bool.and_eq_true] at h;rw [zKc h.1,Nat.eq_of_beq_eq_true h.2]
 |slice0=>cases b<;>first|rfl|cases h
 |sliceE=>cases b<;>first|rfl|cases h
 |agg l=>cases b<;>simp only [eqV,Bool.false_eq_true] at h;rw [zFN h]
 |tuple l=>cases b<;>simp only [eqV,Bool.false_eq_true] at h;rw [zFN h]
 |map x=>cases b<;>simp [eqV] at h
 |func f l m=>cases b<;>simp [eqV] at h
 |yield l=>cases b<;>simp [eqV] at h
 |nilFunc=>cases b<;>simp [eqV] at h
 |iface t x=>cases b<;>simp [eqV] at h
 |nilIface=>cases b<;>simp [eqV] at h
theorem zFN:∀{a b:List AVal},eqVs a b=true->a=b:=by
 intro a b h
 cases a with
 |nil=>cases b with
  |nil=>rfl
  |cons _ _=>simp [eqVs] at h
 |cons x r=>cases b with
  |nil=>simp [eqVs] at h
  |cons y s=>
   simp only [eqVs,Bool.and_eq_true] at h
   rw [zKd h.1,zFN h.2]
end

def D.all {α:Type} (p:α->Bool):D α->Bool
 | .ret a=>p a
 | .fail=>false
 | .ask n k=>Nat.blt 0 n&&(List.range n).all fun i=>(k i).all p
theorem D.all_sat {α:Type} {p:α->Bool}:∀{d:D α},d.all p=true->d.sat fun a=>p a=true
 | .ret _,h=>h
 | .fail,h=>by cases h
 | .ask n k,h=>by
  simp only [D.all,Bool.and_eq_true,List.all_eq_true,List.mem_range] at h
  exact ⟨Nat.blt_eq.mp h.1,fun i hi=>D.all_sat (h.2 i hi)⟩

def isAt (keep:List Nat) (v0:AVal) (os:List (TypeId×List AVal)) (r:AVal×AHeap):Bool:=
 eqV r.1 (mapV (fun j=>keep.getD j 0) v0)&&(List.range os.length).all fun i=>match os[i]?,r.2.objs.get (keep.getD i 0) with
  |some (e,vs),some (_,.cells false e' vs')=>Nat.beq e e'&&eqVs vs' (zEt (fun j=>keep.getD j 0) vs)
  |_,_=>false
theorem zNB {keep:List Nat} {v0:AVal} {os:List (TypeId×List AVal)} {r:AVal×AHeap} (h:isAt keep v0 os r=true):
  r.1=mapV (fun j=>keep.getD j 0) v0/\∀(i:Nat) e vs,os[i]?=some (e,vs)->∃ver,r.2.objs.get (keep.getD i 0)=some (ver,.cells false e (zEt (fun j=>keep.getD j 0) vs)):=by
 simp only [isAt,Bool.and_eq_true,List.all_eq_true,List.mem_range] at h
 refine ⟨zKd h.1,fun i e vs hi=>?_⟩
 have:=h.2 i (zgS.1 hi).1
 rw [hi] at this
 split at this
 ·rename_i e1 vs1 ver e' vs' h1 h2
  simp only [oI,Prod.mk.injEq] at h1
  obtain ⟨rfl,rfl⟩:=h1
  simp only [Bool.and_eq_true] at this
  obtain ⟨h4,h3⟩:=this
  exact ⟨ver,by rw [h2,Nat.eq_of_beq_eq_true h4,zFN h3]⟩
 ·cases this

mutual
theorem zJA {f:Nat->Nat}:∀{x:AVal},zGV 0 x=true->mapV f x=x
 | .bool _,_=>rfl
 | .int _ _,_=>rfl
 | .str _,_=>rfl
 | .ptr none,_=>rfl
 | .ptr (some p),h=>by simp [zGV,Nat.blt] at h
 | .slice none _,_=>rfl
 | .slice (some p) _,h=>by simp [zGV,Nat.blt] at h
 | .slice0,_=>rfl
 | .sliceE,_=>rfl
 | .map none,_=>rfl
 | .map (some _),h=>by cases h
 | .func _ _ _,h=>by cases h
 | .yield _,h=>by cases h
 | .nilFunc,_=>rfl
 | .iface t v,h=>congrArg (AVal.iface t) (zJA (x:=v) h)
 | .nilIface,_=>rfl
 | .agg _,h=>by simp only [mapV];rw [zDT h]
 | .tuple _,h=>by simp only [mapV];rw [zDT h]
theorem zDT {f:Nat->Nat}:∀{x:List AVal},zDV 0 x=true->zEt f x=x
 |[],_=>rfl
 |_::_,h=>by
  simp only [zDV,Bool.and_eq_true] at h
  simp only [zEt]
  rw [zJA h.1,zDT h.2]
end

section
variable {P:Program} {fns:FnsT} {summ:SumT} {N:Nat} {w0:World}

def tblH (t nx:Nat) (tab:List AVal):AHeap:={objs:=(T.leaf:T (Nat×AObj)).set t (some (0,.cells true 0 tab)),next:=nx}
theorem zFY {t nx:Nat} {tab:List AVal} {id:Nat} {x:Nat×AObj} (h:(tblH t nx tab).objs.get id=some x):id=t/\x=(0,.cells true 0 tab):=by
 simp only [tblH,T.get_set,T.get_leaf] at h
 split at h
 ·rename_i e;simp only [oI] at h;exact ⟨e,h.symm⟩
 ·cases h
def TblOK (P:Program) (N:Nat) (w0:World) (t nx:Nat) (tab:List AVal):Prop:=
 t<P.globals.size/\P.globals.size<=nx/\P.globals.size<=N/\0<nx/\∃c e fr,w0.heap[t]?=some (.cells c e fr)/\tab.length<=c.size/\VsR P (fun _=>none) tab (c.toList.take tab.length)

theorem zRk {G:GM} {h:AHeap} {w:World} {t nx:Nat} {tab:List AVal} (R:Rel P N w0 G h w) (T:TblOK P N w0 t nx tab):∃GA,Rel P N w0 GA (tblH t nx tab) w:=by
 obtain ⟨ht,hn,hN,hp,c,e,fr,hc,hl,hv⟩:=T
 have hw:w.heap[t]?=some (.cells c e fr):=by rw [R.below.block t (by omega)];exact hc
 refine ⟨fun i=>if i=t then some ⟨t,c.size,0,0⟩ else if i<P.globals.size then some ⟨i,0,0,0⟩ else none,?_,?_,?_,?_,?_,?_,hn,R.below,R.size,?_⟩
 ·intro id ver o hx
  obtain ⟨rfl,h1⟩:=zFY hx
  simp only [Prod.mk.injEq] at h1
  obtain ⟨rfl,rfl⟩:=h1
  exact ⟨_,if_pos rfl,_,hw,c,e,fr,rfl,(fun hh=>by cases hh),by simp,rfl,hl,by rw [zlZ];exact hv.mono (fun _ _ hh=>by cases hh)⟩
 ·intro id id' x x' gi gi' hx _ hf
  obtain ⟨_,rfl⟩:=zFY hx
  cases hf
 ·intro id ver o gi hx _ hf
  obtain ⟨_,h1⟩:=zFY hx
  simp only [Prod.mk.injEq] at h1
  rw [h1.2] at hf;cases hf
 ·intro id hid
  have:nx<=id:=hid
  show (if _ then _ else _)=_
  rw [if_neg (by omega),if_neg (by omega)]
 ·intro id ver o hx
  obtain ⟨_,h1⟩:=zFY hx
  simp only [Prod.mk.injEq] at h1
  show ver<nx
  omega
 ·intro g hg
  by_cases hgt:g=t
  ·exact ⟨_,if_pos hgt,by rw [hgt],rfl⟩
  ·exact ⟨⟨g,0,0,0⟩,by simp [hgt,hg],rfl,rfl⟩
 ·intro id ver o gi hx hg _
  obtain ⟨rfl,_⟩:=zFY hx
  simp only [if_true,oI] at hg
  subst hg
  show id<N
  omega

theorem zQW {n:Nat} {f:FuncId} {args:List AVal} {t nx:Nat} {tab:List AVal} {keep:List Nat} {v0:AVal} {os:List (TypeId×List AVal)} (hm:P.follows .mixedOrders=true) (hF:FnsOK P fns) (hM:SummOK P N w0 summ) (hT:TblOK P N w0 t nx tab)
  (hpa:zDV 0 args=true) (hk:keep.length=os.length) (hnd:keep.Nodup) (hpl:∀o∈os,zDV os.length o.2=true) (hv0:zGV os.length v0=true)
  (he:((run fns summ n).call f args (tblH t nx tab)).all (isAt keep v0 os)=true) {G:GM} {h:AHeap} {w:World} {argsV:Array Value} {Q:AVal×AHeap->Prop} (R:Rel P N w0 G h w) (hv:VsR P G args argsV.toList) (hq:Q (mapV (h.next+ ·) v0,layH h.next os h)):
  CallsIn (FR none) 0 P f argsV w (PostC P N w0 G h w Q):=by
 obtain ⟨GA,RA⟩:=zRk R hT
 have hvA:VsR P GA args argsV.toList:=by
  have:=VsR.ren (G:=G) (G':=GA) (f:=id) (g:=id) (k:=0) (fun i hi=>absurd hi (Nat.not_lt_zero i)) hpa (by rw [zDT hpa];exact hv)
  rwa [zDT hpa] at this
 refine ((zLB hF hM (fun _ hS=>zIm hm hS) n).call f args _ GA w argsV _ RA hvA (D.all_sat he)).mono fun e w' hp=>?_
 obtain ⟨v,h',G',cv,rfl,h1,h2,h3,h4⟩:=hp
 obtain ⟨h5,h6⟩:=zNB h1
 simp only at h5 h6
 subst h5
 obtain ⟨G'',k1,k2,k3⟩:=R.beside h2 h3 (fun id x hx=>by obtain ⟨_,rfl⟩:=zFY hx;rfl) hk hnd hpl h6 hv0 h4
 exact ⟨_,_,G'',cv,rfl,hq,k1,k2,k3⟩
end
end Go.Ab
end
