import Derived.Test.YtpmndmiohaaokaaGreatDoorP22
/-
  Part 27 of the proof.
-/
set_option linter.all false
namespace Go.Ab.S
open Go Go.Ab
set_option maxHeartbeats 8000000
theorem CaseU.zero {g:Graph} {ps:List Pr} {code:Int} (h:CaseU g ps code) (h0:code=0):zAF g=0/\(∀p∈ps,zBq g p=true)/\Consi g ps:=by
 rcases h with ⟨_,a2⟩|⟨_,a2,_⟩|⟨_,a2,_⟩|⟨a1,_,a3,a4⟩
 ·exact absurd h0 a2
 ·rw [h0] at a2;cases a2
 ·rw [h0] at a2;cases a2
 ·exact ⟨a1,a3,a4⟩
theorem CaseU.ok {g:Graph} {ps:List Pr} {code:Int} (h:CaseU g ps code) (h1:zAF g=0) (h2:∀p∈ps,zBq g p=true) (h3:Consi g ps):code=0:=by
 rcases h with ⟨a1,_⟩|⟨_,_,p,hp,hq⟩|⟨_,_,_,a4⟩|⟨_,a2,_⟩
 ·exact a1.trans h1
 ·rw [h2 p hp] at hq;cases hq
 ·exact absurd h3 a4
 ·exact a2
theorem zSB:GraphSm zLr:=(zGv (g:=zLr) (by decide) (by decide)).toGraphSm
section
variable {fns:FnsT} {summ:SumT}
variable (H:Has fns summ) (HS:HasSort summ) (HA:HasAs summ) (HR:HasRead summ)
include H HS HA HR
theorem SolveOrders_ok (g:Graph) (hg:Sane g) (ps:List Pr) (a8:Nat) (ha8:a8<256) (hpl:ps.length<2 ^ 60) (v pv:AVal) (h0:AHeap) (hw:WF h0) (hv:GraphAt h0 v g) (hp:PrsAt h0 pv ps) (hf:Frm h0 40 pv ps.length):Cl fns summ 5 [v,pv,.int .u8 (a8:Nat)] h0 fun r h'=>r=.bool true/\Grow h0 h':=by
 obtain ⟨nv,rfl,hN⟩:=hv
 have hpart:zBG (some 2) [nv,.int .i64 g.root] 0=some (.agg [nv,.int .i64 g.root]):=rfl
 have ht2:∀x y:AVal,List.take 2 [x,y]=[x,y]:=fun _ _=>rfl
 have hlen:=hN.len
 have hlp:=hp.1
 rw [List.length_map] at hlp
 refine H.go (fn:=F_SolveOrders) rfl (by decide) rfl rfl ?_
 unfold F_SolveOrders
 dsimp only [qQ,qE,qN,gQ,gE,vi,tm,mt,lo,fa]
 refine zAE (zAD ?_)
 refine zBZ (by exact e1) (by exact cc) hw ?_
 rintro b3 h1 hb3 g1 o3
 repeat with_reducible first|refine zAA ?_|refine zAC ?_|refine zAE ?_|refine zAD ?_|(apply st_q;exact q1)
 refine zAc (by exact s1) ((zMp H HS HA HR h1 g1.wf).mono ?_)
 rintro _ h2 ⟨rfl,g2⟩
 replace o3:=g2.keep _ _ o3
 have G:=g1.trans g2
 clear g1 g2
 repeat with_reducible first|refine zAA ?_|refine zAC ?_|refine zAE ?_|refine zAD ?_|refine zAS ?_|(apply st_q;exact q1)|(apply zAJ;exact e1)
 refine zAc (by exact s1) ((Great_ok H g hg.great _ h2 G.wf ⟨nv,rfl,hN.mono G⟩).mono ?_)
 rintro _ h3 ⟨rfl,g3⟩
 replace o3:=g3.keep _ _ o3
 replace G:=G.trans g3
 clear g3
 cases c1:decide ((zEz g:Int)>300)
 rotate_left
 ·repeat' with_reducible first|refine zAA ?_|refine zAd ?_|refine zAC ?_|refine zAE ?_|refine zAD ?_|refine zAQ ?_|(apply st_q;exact q1)|(apply zEm;exact e1)|(apply zAK;exact e1)|(apply zAI;exact n1;exact r1)
  exact ⟨rfl,G⟩
 have tg:Hid (zEz g<=300):=⟨by have:=of_decide_eq_false c1;omega⟩
 cases c2:decide (Int.ofNat ps.length>60)
 rotate_left
 ·repeat' with_reducible first|refine zAA ?_|refine zAd ?_|refine zAC ?_|refine zAE ?_|refine zAD ?_|refine zAQ ?_|(apply st_q;exact q1)|(apply zBi;exact e1;exact q1)|(apply zAK;exact e1)|(apply zAI;exact n1;exact r1)
  exact ⟨rfl,G⟩
 have tl:ps.length<=60:=by have:=of_decide_eq_false c2;simp only [Int.ofNat_eq_natCast] at this;omega
 have T:Hid (GTi g/\g.nodes.length+zAe [] g.nodes 0<=300):=⟨hg.tiny tg.out,by have:=zKe g;have:=tg.out;omega⟩
 have szg:Hid ((g.nodes.length+1)*(zAe [] g.nodes 0+1)+60<=2 ^ 30):=⟨by
  have h1:=T.out.2
  have:(g.nodes.length+1)*(zAe [] g.nodes 0+1)<=301*301:=Nat.mul_le_mul (by omega) (by omega)
  have e30:(2:Nat) ^ 30=1073741824:=by decide
  omega⟩
 have uni1:Hid (∀(qs:List Pr) (qv:AVal) (hh:AHeap),WF hh->NodesAt hh nv g.nodes->PrsAt hh qv qs->qs.length<=60->_):=⟨fun qs qv hh w n p l=>UnifyG H HS HA g T.out.1 qs (by omega) (by have:=T.out.2;omega) (by have:=szg.out;omega) w ⟨nv,rfl,n⟩ p⟩
 repeat with_reducible first|refine zAA ?_|refine zAC ?_|refine zAE ?_|refine zAD ?_|refine zAS ?_|(apply st_q;exact q1)|(apply zBi;exact e1;exact q1)|(apply zAJ;exact e1)
 refine zAc (by exact s1) ((uni1.out ps pv h3 G.wf (hN.mono G) (hp.mono G) tl).mono ?_)
 rintro _ h4 ⟨g4,un,ur,rv,code,A,L,rfl,hone,lrv,at4,law4⟩
 replace o3:=g4.keep _ _ o3
 replace G:=G.trans g4
 clear g4
 repeat with_reducible (apply st_q;exact q1)
 refine zAb G.wf ?_
 rintro b7 h5 hb7 g5 o7
 refine zAG (v:=.agg [un,.int .i64 ur]) (by exact e1) (by exact e1) (cs:=[un,.int .i64 ur]) rfl rfl g5.wf o7 (by simp) (by simp only [List.all_cons,List.all_nil,hone,Bool.true_and,Bool.and_true];rfl) ?_
 rintro v6 h6 p6 o7'
 simp only [zlY,zlA,zlC,zlN,zlD,zlZ,zlE,Nat.zero_add,Nat.reduceAdd,zlX,zlK] at o7'
 have g6:Grow h4 h6:=p6.grow h4 G.wf g5 hb7
 replace o3:=g6.keep _ _ o3
 replace G:=G.trans g6
 have at6:Hid (GraphAt h6 (.agg [un,.int .i64 ur]) A/\IntsAt h6 rv L):=⟨by
  obtain ⟨⟨q,hq,hn⟩,hi⟩:=at4.out
  exact ⟨⟨q,hq,hn.mono g6⟩,hi.mono g6⟩⟩
 clear o7 p6 g5 g6 at4
 have wx:IntKind.i64.wrap ((a8:Nat):Int)=((a8:Nat):Int):=zAq (by omega) (by omega)
 have wl:IntKind.i64.wrap (Int.ofNat ps.length+1)=((ps.length+1:Nat):Int):=by rw [zAq (by simp only [Int.ofNat_eq_natCast];omega) (by simp only [Int.ofNat_eq_natCast];omega)];rfl
 obtain ⟨k,hk⟩:∃k,k=a8 % (ps.length+1):=⟨_,rfl⟩
 have hkl:k<=ps.length:=by have:=Nat.mod_lt a8 (show 0<ps.length+1 by omega);omega
 have rm:Int.tmod ((a8:Nat):Int) ((ps.length+1:Nat):Int)=((k:Nat):Int):=by rw [hk];rfl
 have hnz:((ps.length+1:Nat):Int)≠0:=by omega
 clear hk
 repeat with_reducible first|refine zAA ?_|refine zAC ?_|refine zAE ?_|refine zAD ?_|refine zAx ?_|(apply dr_q;exact q1)|(apply st_q;exact q1)
 refine zRH (v:=pv) (k:=k) (kd:=.i64) (xs:=ps.map zBS) (by exact e1) (hp.mono G) (by rw [List.length_map];exact hf.mono G) (by exact e1) (by rw [List.length_map];exact hkl) ?_
 intro ra1 hr1
 have lr1:=hr1.1
 rw [<-List.map_drop,List.length_map] at lr1
 have hra1':=Hid.mk hr1
 clear hr1
 repeat with_reducible (apply dr_q;exact q1)
 refine zSS (v:=pv) (k:=k) (kd:=.i64) (xs:=ps.map zBS) (by exact e1) (hp.mono G) (by rw [List.length_map];exact hf.mono G) (by exact e1) (by rw [List.length_map];exact hkl) ?_
 intro ra2 hr2
 have hra2':=Hid.mk hr2
 clear hr2
 repeat with_reducible (apply dr_q;exact q1)
 refine zBB (st_b0 ?_)
 refine zAC ⟨by simp [zAa,Nat.testBit],?_⟩
 refine zBB (zNk (by exact e1) (v:=ra1) (by exact e1) hra1'.out (by decide) (by rw [<-List.map_drop];exact zMX _) (zCh H (by decide) (le31 (by simp;omega))) G.wf ?_)
 intro w1 h7 B7 g7
 refine zAC ⟨by simp [zAa,Nat.testBit],?_⟩
 have o37:=g7.keep _ _ o3
 refine zBB (zNP (v:=w1) (u:=ra2) (by exact e1) (by exact e1) B7 (hra2'.out.mono g7) (by decide) (by rw [<-List.map_take];exact zMX _) (zCh H (by decide) (le31 (by simp;omega))) g7.wf g7.next ?_)
 intro w2 h8 B8 wf8 n8 gr8 kp8
 refine zAC ⟨by simp [zAa,Nat.testBit],?_⟩
 have g8:Grow h6 h8:=gr8 h6 G.wf g7 (Nat.le_refl _)
 replace o3:=g8.keep _ _ o3
 have rows:=Hid.mk (show PrsAt h8 w2 (ps.drop k++ps.take k) from by
  refine zHa (base:=h6.next) (e:=40) ?_
  have hl:(ps.drop k++ps.take k).length=((ps.map zBS).drop k).length+((ps.map zBS).take k).length:=by simp
  rw [hl,List.map_append,List.flatten_append,List.map_drop,List.map_take]
  exact B8)
 have lw2:lenO w2=some ps.length:=by have:=rows.out.1;rw [List.length_map,zgL,List.length_drop,List.length_take] at this;rw [this];congr 1;omega
 have G6:=G
 replace G:=G.trans g8
 have o78:=g8.keep _ _ o7'
 have at8:Hid (GraphAt h8 (.agg [un,.int .i64 ur]) A/\IntsAt h8 rv L):=⟨by
  obtain ⟨⟨q,hq,hn⟩,hi⟩:=at6.out
  exact ⟨⟨q,hq,hn.mono g8⟩,hi.mono g8⟩⟩
 clear B7 g7 o37 B8 gr8 kp8 n8 hra1' hra2' lr1 o7' at6 g8
 repeat with_reducible first|refine zAA ?_|refine zBU ?_|(apply dr_q;exact q1)
 obtain ⟨qs,hqs⟩:∃qs,qs=ps.drop k++ps.take k:=⟨_,rfl⟩
 rw [<-hqs] at rows
 have lqs:qs.length=ps.length:=by rw [hqs,zgL,List.length_drop,List.length_take];omega
 have htp:Hid (zIY ps k=qs.map fun p=>(p.2,p.1)):=⟨by rw [hqs];rfl⟩
 clear hqs wl rm hnz wx
 refine zAs (N:=ps.length) (by omega) (fun j a hp=>Hid (Grow h8 hp)/\(∃tv,Hid (Built hp h8.next 40 2 tv j (((qs.take j).map fun p=>(p.2,p.1)).map zBS).flatten)/\ev a (.tmp 11)=some tv)/\a.defers=[]/\ev a (.tmp 1)=some pv/\ev a (.tmp 3)=some (.ptr (some (b3,0)))/\ev a (.tmp 7)=some (.ptr (some (b7,0)))/\ev a (.tmp 8)=some rv/\ev a (.tmp 9)=some (.int .i64 code)/\ev a (.tmp 10)=some (.int .i64 (k:Nat))/\ev a (.tmp 60)=some w2)
  (by rintro j a hp t w (rfl|rfl|rfl) ⟨m1,⟨tv,m2,m2'⟩,m3,m4,m5,m6,m7,m8,m9,m10⟩<;>exact ⟨m1,⟨tv,m2,by exact e1⟩,by rw [zAY];exact m3,by exact e1,by exact e1,by exact e1,by exact e1,by exact e1,by exact e1,by exact e1⟩) (by decide) ?_ ?_ ⟨⟨Grow.refl wf8⟩,⟨_,⟨.inl ⟨rfl,rfl,rfl⟩⟩,by exact e1⟩,by exact n1,by exact e1,by exact e1,by exact e1,by exact e1,by exact e1,by exact e1,by exact e1⟩ (by exact e1) (by exact e1)
 ·rintro j a hp' hj ⟨Gp,⟨tv,hB,t11'⟩,hd,t1',t3',t7',t8',t9',t10',t60'⟩ hi hn
  obtain ⟨bp,op,vp,rp,ep,vsp,hix,hgp0,hvp⟩:=rows.out.at (zgG (by omega:j<qs.length))
  have hgp:=Gp.out.keep _ _ hgp0
  have hl2:op+2<=vsp.length:=by
   have:=congrArg List.length hvp
   simp [zBS] at this;omega
  have hpc:zBS qs[j]=[.int .i64 qs[j].1,.int .i64 qs[j].2]:=rfl
  rw [hpc] at hvp
  have wp:=Gp.out.wf
  clear hpc hgp0
  repeat with_reducible first|refine zAE ?_|refine zAD ?_|refine zAM ?_|(apply st_q;exact q1)
  refine zAb wp ?_
  rintro b13 h9 hb13 g9 o13
  refine zAG (by exact e1) (by exact e1) (by exact cc) rfl g9.wf o13 (by simp) rfl ?_
  rintro v10 h10 p10 o13'
  simp only [zlY,zlA,zlC,zlN,zlD,zlZ,zlE,Nat.zero_add,Nat.reduceAdd,zlX,zlK] at o13'
  have g10:Grow hp' h10:=p10.grow hp' wp g9 hb13
  have B10:=Hid.mk (hB.out.grow g10)
  have w10:=g10.wf
  have g10':=Hid.mk g10
  clear o13 g9 p10 hgp hix hvp hl2 g10
  repeat with_reducible first|refine zAA ?_|refine zAC ?_|refine zAD ?_|(apply st_q;exact q1)
  refine st_q (v:=.ptr (some (b13,1))) (b:=none) (by rw [zBA];simp only [zBD,zBI,zBM,Nat.reduceEqDiff,if_true,if_false];rfl) ?_
  repeat with_reducible (apply st_q;exact q1)
  refine st_q (v:=.ptr (some (b13,0))) (b:=none) (by rw [zBA];simp only [zBD,zBI,zBM,Nat.reduceEqDiff,if_true,if_false];rfl) ?_
  repeat with_reducible first|(apply zIQ;exact e1;exact e1)|(apply st_q;exact q1)
  refine zAn (by exact e1) (cs:=[.int .i64 qs[j].2,.int .i64 qs[j].1]) rfl rfl rfl w10 ?_
  rintro bx h11 hbx g11 ox
  have n10:=g10'.out.next
  have n11:=g11.next
  have np:=Gp.out.next
  refine zAv (by exact e1) (by exact e1) (B10.out.grow g11) ox rfl rfl (zCh H (by decide) (le31 (by omega))) g11.wf (by omega) ?_
  rintro tv' h12 B12 f12 w12 n12 gr12 kp12
  have G12:=Hid.mk (gr12 h8 wf8 (Gp.out.trans (g10'.out.trans g11)) (Nat.le_refl _))
  have B12':Hid (Built h12 h8.next 40 2 tv' (j+1) (((qs.take (j+1)).map fun p=>(p.2,p.1)).map zBS).flatten):=⟨by
   rw [List.take_succ_eq_append_getElem (by omega:j<qs.length),List.map_append,List.map_append,List.flatten_append]
   exact B12⟩
  clear B12 f12 gr12 kp12 ox g11 o13'
  repeat with_reducible first|refine zAA ?_|refine zAN ?_|refine zAC ?_|(apply st_q;exact q1)
  exact ⟨⟨G12,⟨_,B12',by exact e1⟩,by exact n1,by exact e1,by exact e1,by exact e1,by exact e1,by exact e1,by exact e1,by exact e1⟩,by exact e1,by exact e1⟩
 rintro a hp' ⟨Gp,⟨tv,hB,t11'⟩,hd,t1',t3',t7',t8',t9',t10',t60'⟩
 have turned:Hid (PrsAt hp' tv (zIY ps k)):=⟨by
  rw [htp.out]
  refine zHa (base:=h8.next) (e:=40) ?_
  have:=hB.out
  rw [<-lqs,List.take_length] at this
  rw [List.length_map];exact this⟩
 have ltv:=hB.out.len
 have lturn:=zQZ ps k
 replace o3:=Gp.out.keep _ _ o3
 have o7p:=Gp.out.keep _ _ o78
 have atp:Hid (GraphAt hp' (.agg [un,.int .i64 ur]) A/\IntsAt hp' rv L):=⟨by
  obtain ⟨⟨q,hq,hn⟩,hi⟩:=at8.out
  exact ⟨⟨q,hq,hn.mono Gp.out⟩,hi.mono Gp.out⟩⟩
 replace G:=G.trans Gp.out
 clear hB rows htp lqs lw2 o78 at8 Gp
 refine zAA ?_
 repeat with_reducible first|refine zAE ?_|refine zAD ?_|(apply st_q;exact q1)
 refine zAc (by exact s1) ((uni1.out (zIY ps k) tv hp' G.wf (hN.mono G) turned.out (by omega)).mono ?_)
 rintro _ hq ⟨gq,un2,ur2,rv2,code2,A2,L2,rfl,hone2,lrv2,atq,law2⟩
 obtain rfl:code2=code:=(CaseU.one zQI zMu law4.out.1 law2.out.1).symm
 obtain ⟨rfl,rfl⟩:A2=A/\L2=L:=by
  by_cases h0:code2=0
  ·obtain ⟨k1,k2⟩:=zQY (law4.out.1.zero h0).1 (law4.out.2.2 h0) (law2.out.2.2 h0)
   exact ⟨k2.symm,k1.symm⟩
  ·obtain ⟨k1,k2⟩:=law4.out.2.1 h0
   obtain ⟨k3,k4⟩:=law2.out.2.1 h0
   exact ⟨k3.trans k1.symm,k4.trans k2.symm⟩
 have o3q:=gq.keep _ _ o3
 have o7q:=gq.keep _ _ o7p
 have atpq:Hid (GraphAt hq (.agg [un,.int .i64 ur]) A2/\IntsAt hq rv L2):=⟨by
  obtain ⟨⟨q,hq,hn⟩,hi⟩:=atp.out
  exact ⟨⟨q,hq,hn.mono gq⟩,hi.mono gq⟩⟩
 replace G:=G.trans gq
 clear gq o3 o7p atp turned t11' law2
 have Asm:Hid (GraphSm A2/\L2.length<=300):=⟨by
  by_cases h0:code2=0
  ·have O:=law4.out.2.2 h0
   have F:Few 300 g:=⟨T.out.1,(law4.out.1.zero h0).1,T.out.2⟩
   exact ⟨(zOe F O).1.toGraphSm,by rw [O.lenR];have:=T.out.2;omega⟩
  ·obtain ⟨k1,k2⟩:=law4.out.2.1 h0
   rw [k1,k2];exact ⟨zSB,by simp⟩⟩
 repeat with_reducible (apply st_q;exact q1)
 refine zAb G.wf ?_
 rintro b14 hr hb14 gr o14
 refine zAG (v:=.agg [un2,.int .i64 ur2]) (by exact e1) (by exact e1) (cs:=[un2,.int .i64 ur2]) rfl rfl gr.wf o14 (by simp) (by simp only [List.all_cons,List.all_nil,hone2,Bool.true_and,Bool.and_true];rfl) ?_
 rintro vs hs ps' os
 simp only [zlY,zlA,zlC,zlN,zlD,zlZ,zlE,Nat.zero_add,Nat.reduceAdd,zlX,zlK] at os
 have gs:Grow hq hs:=ps'.grow hq G.wf gr hb14
 have o3s:=gs.keep _ _ o3q
 have o7s:=gs.keep _ _ o7q
 have ats:Hid (GraphAt hs (.agg [un,.int .i64 ur]) A2/\IntsAt hs rv L2/\GraphAt hs (.agg [un2,.int .i64 ur2]) A2/\IntsAt hs rv2 L2):=⟨by
  obtain ⟨⟨q,hq,hn⟩,hi⟩:=atpq.out
  obtain ⟨⟨q2,hq2,hn2⟩,hi2⟩:=atq.out
  exact ⟨⟨q,hq,hn.mono gs⟩,hi.mono gs,⟨q2,hq2,hn2.mono gs⟩,hi2.mono gs⟩⟩
 replace G:=G.trans gs
 clear o14 ps' gr gs o3q o7q atpq atq
 have hne:(code2 != code2)=false:=by simp
 have hpu:zBG (some 2) [un,.int .i64 ur] 0=some (.agg [un,.int .i64 ur]):=rfl
 have hpu2:zBG (some 2) [un2,.int .i64 ur2] 0=some (.agg [un2,.int .i64 ur2]):=rfl
 repeat with_reducible first|refine zAA ?_|refine zAC ?_|refine zAE ?_|refine zAD ?_|(apply st_q;exact q1)|(apply zBi;exact e1;exact q1)
 refine zBu (by exact e1) (by exact s1) ((Equal_ok H A2 Asm.out.1 _ _ hs G.wf ats.out.1 ats.out.2.2.1).mono ?_)
 rintro _ ht ⟨rfl,gt⟩
 replace o3s:=gt.keep _ _ o3s
 replace o7s:=gt.keep _ _ o7s
 have att:Hid (GraphAt ht (.agg [un,.int .i64 ur]) A2/\IntsAt ht rv L2/\IntsAt ht rv2 L2):=⟨by
  obtain ⟨⟨q,hq,hn⟩,hi,_,hi2⟩:=ats.out
  exact ⟨⟨q,hq,hn.mono gt⟩,hi.mono gt,hi2.mono gt⟩⟩
 replace G:=G.trans gt
 clear ats gt os
 repeat with_reducible first|(apply st_q;exact q1)|(apply zBi;exact e1;exact q1)
 refine zBu (by exact e1) (by exact s1) ((Ints_ok H L2 L2 (by have:=Asm.out.2;omega) _ _ ht att.out.2.1 att.out.2.2).mono ?_)
 rintro _ _ ⟨rfl,rfl⟩
 rw [zHh]
 refine zGd (fun A=>A.defers=[]/\ev A (.tmp 1)=some pv/\ev A (.tmp 3)=some (.ptr (some (b3,0)))/\ev A (.tmp 7)=some (.ptr (some (b7,0)))/\ev A (.tmp 8)=some rv/\ev A (.tmp 9)=some (.int .i64 code2)/\ev A (.tmp 10)=some (.int .i64 (k:Nat))/\ev A (.tmp 91)=some (.bool false)/\ev A (.tmp 94)=some (.bool true)) ⟨by exact n1,by exact e1,by exact e1,by exact e1,by exact e1,by exact e1,by exact e1,by exact e1,by exact e1⟩ ?_
 clear hd t1' t3' t7' t8' t9' t10' t60'
 rintro a ⟨hd,t1',t3',t7',t8',t9',t10',t91',t94'⟩
 cases hz:(code2 != 0)
 rotate_left
 ·have h0:code2≠0:=by simpa using hz
  obtain ⟨rfl,rfl⟩:=law4.out.2.1 h0
  have hlu:lenO un=some 0:=by
   obtain ⟨⟨q,hq,hn⟩,_⟩:=att.out
   cases hq;exact hn.len
  replace lrv:lenO rv=some 0:=lrv
  have h00:(Int.ofNat 0==0)=true:=rfl
  have h0b:((0:Int)==0)=true:=rfl
  repeat' with_reducible first|refine zAA ?_|refine zAd ?_|refine zAC ?_|refine zAE ?_|refine zAD ?_|refine zAS ?_|refine zAQ ?_|(apply st_q;exact q1)|(apply zBi;exact e1;exact q1)|(apply zAK;exact e1)|(apply zAJ;exact e1)|(apply zAI;exact n1;exact r1)
  exact ⟨rfl,G⟩
 obtain rfl:code2=0:=by simpa using hz
 have O:=Hid.mk (law4.out.2.2 rfl)
 have hz4:=Hid.mk (law4.out.1.zero rfl)
 have F:Hid (Few 300 g):=⟨⟨T.out.1,hz4.out.1,T.out.2⟩⟩
 have SU:=Hid.mk (zOe F.out O.out)
 have szU:Hid ((A2.nodes.length+1)*(zAe [] A2.nodes 0+1)+60<=2 ^ 30):=⟨by
  have:(A2.nodes.length+1)*(zAe [] A2.nodes 0+1)<=301*90001:=Nat.mul_le_mul (by have:=SU.out.2.2.1;omega) (by have:=SU.out.2.1;omega)
  have e30:(2:Nat) ^ 30=1073741824:=by decide
  omega⟩
 have e20:Hid ((2:Nat) ^ 20=1048576):=⟨by decide⟩
 have h0n:((0:Int) != 0)=false:=rfl
 clear hz hne law4
 repeat with_reducible first|refine zAA ?_|refine zAC ?_|refine zAE ?_|refine zAD ?_|refine zAS ?_|(apply st_q;exact q1)|(apply zBi;exact e1;exact q1)|(apply zAJ;exact e1)
 refine zAc (by exact s1) ((UnifyG H HS HA A2 SU.out.1 ps (by omega) (by have:=SU.out.2.1;have:=e20.out;omega) (by have:=szU.out;omega) G.wf att.out.1 (hp.mono G)).mono ?_)
 rintro _ h5 ⟨g5,un3,ur3,rv3,code3,C,L3,rfl,hone3,lrv3,at5,law5⟩
 obtain rfl:code3=0:=law5.out.1.ok (O.out.check hz4.out.1) (zKI hz4.out.1 hz4.out.2.1 O.out).1 (zKI hz4.out.1 hz4.out.2.1 O.out).2
 have lawC:Hid (zFa C A2=true/\GTi C):=⟨zNX hz4.out.1 hz4.out.2.1 O.out (law5.out.2.2 rfl),SU.out.2.2.2 _ _ _ (law5.out.2.2 rfl)⟩
 replace o3s:=g5.keep _ _ o3s
 replace o7s:=g5.keep _ _ o7s
 have at6:Hid (GraphAt h5 (.agg [un,.int .i64 ur]) A2/\GraphAt h5 (.agg [un3,.int .i64 ur3]) C):=⟨by
  obtain ⟨⟨q,hq,hn⟩,_⟩:=att.out
  exact ⟨⟨q,hq,hn.mono g5⟩,at5.out.1⟩⟩
 replace G:=G.trans g5
 clear g5 att at5 law5 lrv3
 repeat with_reducible (apply st_q;exact q1)
 refine zAb G.wf ?_
 rintro b17 h6' hb17 g6 o17
 refine zAG (v:=.agg [un3,.int .i64 ur3]) (by exact e1) (by exact e1) (cs:=[un3,.int .i64 ur3]) rfl rfl g6.wf o17 (by simp) (by simp only [List.all_cons,List.all_nil,hone3,Bool.true_and,Bool.and_true];rfl) ?_
 rintro v7 h7 p7 o17'
 simp only [zlY,zlA,zlC,zlN,zlD,zlZ,zlE,Nat.zero_add,Nat.reduceAdd,zlX,zlK] at o17'
 have g7:Grow h5 h7:=p7.grow h5 G.wf g6 hb17
 replace o3s:=g7.keep _ _ o3s
 replace o7s:=g7.keep _ _ o7s
 replace G:=G.trans g7
 have at7:Hid (GraphAt h7 (.agg [un,.int .i64 ur]) A2/\GraphAt h7 (.agg [un3,.int .i64 ur3]) C):=⟨by
  obtain ⟨⟨q,hq,hn⟩,q2,hq2,hn2⟩:=at6.out
  exact ⟨⟨q,hq,hn.mono g7⟩,q2,hq2,hn2.mono g7⟩⟩
 clear o17 g6 p7 g7 at6
 repeat with_reducible first|refine zAA ?_|refine zAC ?_|refine zAE ?_|refine zAx ?_|(apply dr_q;exact q1)|(apply zCK;exact q1;exact og1)|(apply st_q;exact q1)
 refine zSS (v:=pv) (k:=k) (kd:=.i64) (xs:=ps.map zBS) (by exact e1) (hp.mono G) (by rw [List.length_map];exact hf.mono G) (by exact e1) (by rw [List.length_map];exact hkl) ?_
 intro ra3 hr3
 have hr3':=Hid.mk (show PrsAt h7 ra3 (ps.take k) from by rw [PrsAt,List.map_take];exact hr3)
 clear hr3
 refine zBB (zAc (by exact s1) ((uni1.out (ps.take k) ra3 h7 G.wf (hN.mono G) hr3'.out (by rw [List.length_take];omega)).mono ?_))
 rintro _ h8' ⟨g8,un4,ur4,rv4,code4,D,R1,rfl,hone4,lrv4,at8,law8⟩
 obtain rfl:code4=0:=law8.out.1.ok hz4.out.1 (fun p hp=>hz4.out.2.1 p (List.mem_of_mem_take hp)) (zMt (fun p hp=>List.mem_of_mem_take hp) hz4.out.2.2)
 have o3u:=g8.keep _ _ o3s
 have o7u:=g8.keep _ _ o7s
 have o17u:=g8.keep _ _ o17'
 have O1:=Hid.mk (law8.out.2.2 rfl)
 have SD:=Hid.mk (zOe F.out O1.out)
 have rest:=Hid.mk (zQF hz4.out.1 hz4.out.2.1 hz4.out.2.2 O1.out)
 have at9:Hid (GraphAt h8' (.agg [un,.int .i64 ur]) A2/\GraphAt h8' (.agg [un3,.int .i64 ur3]) C/\GraphAt h8' (.agg [un4,.int .i64 ur4]) D/\IntsAt h8' rv4 R1):=⟨by
  obtain ⟨⟨q,hq,hn⟩,q2,hq2,hn2⟩:=at7.out
  exact ⟨⟨q,hq,hn.mono g8⟩,⟨q2,hq2,hn2.mono g8⟩,at8.out.1,at8.out.2⟩⟩
 have G8:=G.trans g8
 refine zAC ⟨by simp [zAa,Nat.testBit,o3u],?_⟩
 clear at7 at8 law8 g8
 repeat with_reducible (apply dr_q;exact q1)
 refine zBB (zAb G8.wf ?_)
 rintro b20 h9 hb20 g9 o20
 have o39:=g9.keep _ _ o3u
 refine zAC ⟨by simp [zAa,Nat.testBit,o39],?_⟩
 refine zBB (zAG (v:=.agg [un4,.int .i64 ur4]) (by exact e1) (by exact e1) (cs:=[un4,.int .i64 ur4]) rfl rfl g9.wf o20 (by simp) (by simp only [List.all_cons,List.all_nil,hone4,Bool.true_and,Bool.and_true];rfl) ?_)
 rintro v10 h10 p10 o20'
 simp only [zlY,zlA,zlC,zlN,zlD,zlZ,zlE,Nat.zero_add,Nat.reduceAdd,zlX,zlK] at o20'
 have g10:Grow h8' h10:=p10.grow h8' G8.wf g9 hb20
 have o3A:=g10.keep _ _ o3u
 refine zAC ⟨by simp [zAa,Nat.testBit,o3A],?_⟩
 have o7A:=g10.keep _ _ o7u
 have o17A:=g10.keep _ _ o17u
 have atA:Hid (GraphAt h10 (.agg [un,.int .i64 ur]) A2/\GraphAt h10 (.agg [un3,.int .i64 ur3]) C/\GraphAt h10 (.agg [un4,.int .i64 ur4]) D/\IntsAt h10 rv4 R1):=⟨by
  obtain ⟨⟨q,hq,hn⟩,⟨q2,hq2,hn2⟩,⟨q3,hq3,hn3⟩,hi⟩:=at9.out
  exact ⟨⟨q,hq,hn.mono g10⟩,⟨q2,hq2,hn2.mono g10⟩,⟨q3,hq3,hn3.mono g10⟩,hi.mono g10⟩⟩
 have GA:=G8.trans g10
 clear o20 g9 p10 g10 o39 at9 G8 o3s o7s o17' o3u o7u o17u G
 repeat with_reducible first|refine zAA ?_|refine zAE ?_|refine zAD ?_|refine zBU ?_|(apply dr_q;exact q1)|(apply st_q;exact q1)|(apply zBi;exact e1;exact q1)
 refine zBu (by exact e1) (by exact s1) ((Same_ok H C A2 lawC.out.2 SU.out.1 _ _ h10 GA.wf atA.out.2.1 atA.out.1).mono ?_)
 rintro _ hB ⟨rfl,gB⟩
 rw [lawC.out.1]
 refine zGd (fun A=>A.defers=[]/\ev A (.tmp 1)=some pv/\ev A (.tmp 7)=some (.ptr (some (b7,0)))/\ev A (.tmp 10)=some (.int .i64 (k:Nat))/\ev A (.tmp 20)=some (.ptr (some (b20,0)))/\ev A (.tmp 21)=some rv4/\ev A (.tmp 130)=some (.bool false)/\ev A (.tmp 133)=some (.bool true)) ⟨by exact n1,by exact e1,by exact e1,by exact e1,by exact e1,by exact e1,by exact e1,by exact e1⟩ ?_
 clear hd t1' t3' t7' t8' t9' t10' t91' t94'
 rintro a ⟨hd,t1',t7',t10',t20',t21',t130',t133'⟩
 have o7B:=gB.keep _ _ o7A
 have o20B:=gB.keep _ _ o20'
 have atB:Hid (GraphAt hB (.agg [un,.int .i64 ur]) A2/\GraphAt hB (.agg [un4,.int .i64 ur4]) D/\IntsAt hB rv4 R1):=⟨by
  obtain ⟨⟨q,hq,hn⟩,_,⟨q3,hq3,hn3⟩,hi⟩:=atA.out
  exact ⟨⟨q,hq,hn.mono gB⟩,⟨q3,hq3,hn3.mono gB⟩,hi.mono gB⟩⟩
 have GB:=GA.trans gB
 clear gB GA atA o7A o20' o3A o17A
 repeat with_reducible first|refine zAA ?_|refine zAC ?_|refine zAE ?_|refine zAD ?_|refine zAS ?_|(apply st_q;exact q1)|(apply zBi;exact e1;exact q1)|(apply zAJ;exact e1)
 refine zRq (v:=pv) (k:=k) (kd:=.i64) (xs:=ps.map zBS) (by exact e1) (hp.mono GB) (by rw [List.length_map];exact hf.mono GB) (by exact e1) (by rw [List.length_map];exact hkl) ?_
 intro rd hrd
 have rows:=Hid.mk (show PrsAt hB rd (ps.drop k) from by rw [PrsAt,List.map_drop];exact hrd)
 have lrd:lenO rd=some (ps.length - k):=by have:=hrd.1;rw [List.length_drop,List.length_map] at this;exact this
 clear hrd
 repeat with_reducible first|refine zAA ?_|refine zAC ?_|(apply st_q;exact q1)
 obtain ⟨qs,hqs⟩:∃qs,qs=ps.drop k:=⟨_,rfl⟩
 rw [<-hqs] at rows
 have lqs:qs.length=ps.length - k:=by rw [hqs,List.length_drop]
 have inq:Hid (∀p∈qs,InG g p.1/\InG g p.2):=⟨fun p hp=>zHC.1 (hz4.out.2.1 p (List.mem_of_mem_drop (hqs ▸ hp)))⟩
 have hrest:Hid (zJu ps R1 k=qs.map fun p=>(clAt R1 p.1,clAt R1 p.2)):=⟨by rw [hqs];rfl⟩
 have lR1:=O1.out.lenR
 clear hqs
 refine zAs (N:=ps.length - k) (by omega) (fun j a hp=>Hid (Grow hB hp)/\(∃tv,Hid (Built hp hB.next 40 2 tv j (((qs.take j).map fun p=>(clAt R1 p.1,clAt R1 p.2)).map zBS).flatten)/\ev a (.tmp 23)=some tv)/\a.defers=[]/\ev a (.tmp 7)=some (.ptr (some (b7,0)))/\ev a (.tmp 20)=some (.ptr (some (b20,0)))/\ev a (.tmp 21)=some rv4/\ev a (.tmp 138)=some rd)
  (by rintro j a hp t w (rfl|rfl|rfl) ⟨m1,⟨tv,m2,m2'⟩,m3,m4,m5,m6,m7⟩<;>exact ⟨m1,⟨tv,m2,by exact e1⟩,by rw [zAY];exact m3,by exact e1,by exact e1,by exact e1,by exact e1⟩) (by decide) ?_ ?_ ⟨⟨Grow.refl GB.wf⟩,⟨_,⟨.inl ⟨rfl,rfl,rfl⟩⟩,by exact e1⟩,by exact n1,by exact e1,by exact e1,by exact e1,by exact e1⟩ (by exact e1) (by exact e1)
 ·clear hd t7' t20' t21' t130' t133' t1' t10'
  rintro j a hp' hj ⟨Gp,⟨tv,hBt,t23'⟩,hd,t7',t20',t21',t138'⟩ hi hn
  obtain ⟨bp,op,vp,rp,ep,vsp,hix,hgp0,hvp⟩:=rows.out.at (zgG (by omega:j<qs.length))
  have hgp:=Gp.out.keep _ _ hgp0
  have hl2:op+2<=vsp.length:=by
   have:=congrArg List.length hvp
   simp [zBS] at this;omega
  obtain ⟨i1,i2⟩:=inq.out qs[j] (List.getElem_mem (by omega))
  obtain ⟨x,hx⟩:∃x:Nat,qs[j].1=(x:Int):=⟨qs[j].1.toNat,by have:=i1.1;omega⟩
  obtain ⟨y,hy⟩:∃y:Nat,qs[j].2=(y:Int):=⟨qs[j].2.toNat,by have:=i2.1;omega⟩
  have hpc:zBS qs[j]=[.int .i64 (x:Nat),.int .i64 (y:Nat)]:=by rw [zBS,hx,hy]
  have hxl:x<R1.length:=by have:=i1.2;rw [hx] at this;omega
  have hyl:y<R1.length:=by have:=i2.2;rw [hy] at this;omega
  have hcx:clAt R1 qs[j].1=R1[x]:=by rw [hx,zCY,List.getD,zgG hxl];rfl
  have hcy:clAt R1 qs[j].2=R1[y]:=by rw [hy,zCY,List.getD,zgG hyl];rfl
  rw [hpc] at hvp
  have hcx':=Hid.mk hcx
  have hcy':=Hid.mk hcy
  obtain ⟨bq,oq,verq,rq,eq,vsq,hixq,hgq0,hvq⟩:=atB.out.2.2.at (zgG hxl)
  obtain ⟨br,or,verr,rr,er,vsr,hixr,hgr0,hvr⟩:=atB.out.2.2.at (zgG hyl)
  have ltq:=GB.wf.lt hgq0
  have ltr:=GB.wf.lt hgr0
  have hgq:=Gp.out.keep _ _ hgq0
  have hgr:=Gp.out.keep _ _ hgr0
  have wp:=Gp.out.wf
  have np:=Gp.out.next
  clear hpc hgp0 hx hy hcx hcy i1 i2 hgq0 hgr0
  repeat with_reducible first|refine zAE ?_|refine zAD ?_|refine zAM ?_|(apply st_q;exact q1)
  refine zAb wp ?_
  rintro b25 h9 hb25 g9 o25
  refine zAG (by exact e1) (by exact e1) (by exact cc) rfl g9.wf o25 (by simp) rfl ?_
  rintro v10 h10 p10 o25'
  simp only [zlY,zlA,zlC,zlN,zlD,zlZ,zlE,Nat.zero_add,Nat.reduceAdd,zlX,zlK] at o25'
  have g10:Grow hp' h10:=p10.grow hp' wp g9 hb25
  have B10:=Hid.mk (hBt.out.grow g10)
  have hgqA:=g10.keep _ _ hgq
  have hgrA:=g10.keep _ _ hgr
  have w10:=g10.wf
  have n10:=g10.next
  have g10':=Hid.mk g10
  clear o25 g9 p10 hgp hix hvp hl2 g10 hgq hgr
  repeat with_reducible first|refine zAA ?_|refine zAC ?_|refine zAx ?_|(apply dr_q;exact q1)
  refine dr_q (v:=.ptr (some (b25,0))) (by rw [zBA];simp only [zBD,zBI,zBM,Nat.reduceEqDiff,if_true,if_false];rfl) ?_
  repeat with_reducible first|(apply dr_q;exact q1)|(apply zCK;exact q1;exact og1)
  refine dr_q (v:=.ptr (some (b25,1))) (by rw [zBA];simp only [zBD,zBI,zBM,Nat.reduceEqDiff,if_true,if_false];rfl) ?_
  repeat with_reducible first|(apply zLO;exact e1;exact e1)|(apply dr_q;exact q1)|(apply zCK;exact q1;exact og1)
  refine zBB (zAn (by exact e1) (cs:=[.int .i64 R1[x],.int .i64 R1[y]]) rfl rfl rfl w10 ?_)
  rintro bx h11 hbx g11 ox
  have k25:=g11.keep _ _ o25'
  have kq:=g11.keep _ _ hgqA
  have kr:=g11.keep _ _ hgrA
  refine zAC ⟨by simp [zAa,Nat.testBit,k25,kq,kr],?_⟩
  have n11:=g11.next
  refine zBB (zAv (by exact e1) (by exact e1) (B10.out.grow g11) ox rfl rfl (zCh H (by decide) (le31 (by omega))) g11.wf (by omega) ?_)
  rintro tv' h12 B12 f12 w12 n12 gr12 kp12
  have l25:=kp12 _ _ k25 (fun n hh=>by have:=zGA hBt.out wp hh;omega)
  have lq:=kp12 _ _ kq (fun n hh=>by have:=zCd hBt.out hh;omega)
  have lr:=kp12 _ _ kr (fun n hh=>by have:=zCd hBt.out hh;omega)
  refine zAC ⟨by simp [zAa,Nat.testBit,l25,lq,lr],?_⟩
  have G12:=Hid.mk (gr12 hB GB.wf (Gp.out.trans (g10'.out.trans g11)) (Nat.le_refl _))
  have B12':Hid (Built h12 hB.next 40 2 tv' (j+1) (((qs.take (j+1)).map fun p=>(clAt R1 p.1,clAt R1 p.2)).map zBS).flatten):=⟨by
   rw [List.take_succ_eq_append_getElem (by omega:j<qs.length),List.map_append,List.map_append,List.flatten_append]
   have hpp:([qs[j]].map fun p=>(clAt R1 p.1,clAt R1 p.2)).map zBS=[[.int .i64 R1[x],.int .i64 R1[y]]]:=by
    simp only [List.map_cons,List.map_nil,hcx'.out,hcy'.out];rfl
   rw [hpp]
   exact B12⟩
  clear B12 f12 gr12 kp12 ox g11 o25' k25 kq kr l25 lq lr hgqA hgrA hixq hixr hvq hvr
  repeat with_reducible first|refine zAA ?_|refine zAN ?_|refine zBU ?_|(apply dr_q;exact q1)
  exact ⟨⟨G12,⟨_,B12',by exact e1⟩,by exact n1,by exact e1,by exact e1,by exact e1,by exact e1⟩,by exact e1,by exact e1⟩
 clear hd t7' t20' t21' t130' t133' t1' t10'
 rintro a hp' ⟨Gp,⟨tv,hBt,t23'⟩,hd,t7',t20',t21',t138'⟩
 have rp:=Hid.mk (show PrsAt hp' tv (zJu ps R1 k) from by
  rw [hrest.out]
  refine zHa (base:=hB.next) (e:=40) ?_
  have:=hBt.out
  rw [<-lqs,List.take_length] at this
  rw [List.length_map];exact this)
 have lrest:=zQH ps R1 k
 have o7p:=Gp.out.keep _ _ o7B
 have o20p:=Gp.out.keep _ _ o20B
 have atp:Hid (GraphAt hp' (.agg [un,.int .i64 ur]) A2/\GraphAt hp' (.agg [un4,.int .i64 ur4]) D):=⟨by
  obtain ⟨⟨q,hq,hn⟩,⟨q3,hq3,hn3⟩,_⟩:=atB.out
  exact ⟨⟨q,hq,hn.mono Gp.out⟩,⟨q3,hq3,hn3.mono Gp.out⟩⟩⟩
 have GP:=GB.trans Gp.out
 have szD:Hid ((D.nodes.length+1)*(zAe [] D.nodes 0+1)+60<=2 ^ 30):=⟨by
  have:(D.nodes.length+1)*(zAe [] D.nodes 0+1)<=301*90001:=Nat.mul_le_mul (by have:=SD.out.2.2.1;omega) (by have:=SD.out.2.1;omega)
  have e30:(2:Nat) ^ 30=1073741824:=by decide
  omega⟩
 have hpu4:zBG (some 2) [un4,.int .i64 ur4] 0=some (.agg [un4,.int .i64 ur4]):=rfl
 clear hBt rows lqs lrd o7B o20B atB Gp hrest lR1 inq
 refine zAA ?_
 repeat with_reducible first|refine zAE ?_|refine zAD ?_|(apply st_q;exact q1)
 refine zAc (by exact s1) ((UnifyG H HS HA D SD.out.1 (zJu ps R1 k) (by have:=e20.out;omega) (by have:=SD.out.2.1;have:=e20.out;omega) (by have:=szD.out;omega) GP.wf atp.out.2 rp.out).mono ?_)
 rintro _ hX ⟨gX,un5,ur5,rv5,code5,X,L5,rfl,hone5,lrv5,atX,lawX⟩
 obtain rfl:code5=0:=lawX.out.1.ok (O1.out.check hz4.out.1) rest.out.1 rest.out.2
 have lawS:Hid (zFa X A2=true/\GTi X):=⟨zQG hz4.out.1 hz4.out.2.1 O.out O1.out (lawX.out.2.2 rfl),SD.out.2.2.2 _ _ _ (lawX.out.2.2 rfl)⟩
 replace o7p:=gX.keep _ _ o7p
 have at5:Hid (GraphAt hX (.agg [un,.int .i64 ur]) A2/\GraphAt hX (.agg [un5,.int .i64 ur5]) X):=⟨by
  obtain ⟨⟨q,hq,hn⟩,_⟩:=atp.out
  exact ⟨⟨q,hq,hn.mono gX⟩,atX.out.1⟩⟩
 have GX:=GP.trans gX
 clear gX atp atX lawX o20p GP
 repeat with_reducible (apply st_q;exact q1)
 refine zAb GX.wf ?_
 rintro b26 hY hb26 gY oY
 refine zAG (v:=.agg [un5,.int .i64 ur5]) (by exact e1) (by exact e1) (cs:=[un5,.int .i64 ur5]) rfl rfl gY.wf oY (by simp) (by simp only [List.all_cons,List.all_nil,hone5,Bool.true_and,Bool.and_true];rfl) ?_
 rintro vZ hZ pZ oZ
 simp only [zlY,zlA,zlC,zlN,zlD,zlZ,zlE,Nat.zero_add,Nat.reduceAdd,zlX,zlK] at oZ
 have gZ:Grow hX hZ:=pZ.grow hX GX.wf gY hb26
 have o7Z:=gZ.keep _ _ o7p
 have at6:Hid (GraphAt hZ (.agg [un,.int .i64 ur]) A2/\GraphAt hZ (.agg [un5,.int .i64 ur5]) X):=⟨by
  obtain ⟨⟨q,hq,hn⟩,⟨q3,hq3,hn3⟩⟩:=at5.out
  exact ⟨⟨q,hq,hn.mono gZ⟩,⟨q3,hq3,hn3.mono gZ⟩⟩⟩
 have GZ:=GX.trans gZ
 have hpu5:zBG (some 2) [un5,.int .i64 ur5] 0=some (.agg [un5,.int .i64 ur5]):=rfl
 have h0e:((0:Int)==0)=true:=rfl
 clear oY gY pZ gZ at5 o7p GX
 repeat with_reducible first|refine zAA ?_|refine zAC ?_|refine zAE ?_|refine zAD ?_|(apply st_q;exact q1)|(apply zBi;exact e1;exact q1)
 refine zBu (by exact e1) (by exact s1) ((Same_ok H X A2 lawS.out.2 SU.out.1 _ _ hZ GZ.wf at6.out.2 at6.out.1).mono ?_)
 rintro _ hE ⟨rfl,gE⟩
 have GE:=GZ.trans gE
 rw [lawS.out.1]
 clear gE at6 o7Z oZ GZ
 repeat' with_reducible first|refine zAA ?_|refine zAC ?_|refine zAQ ?_|(apply st_q;exact q1)|(apply zAI;exact n1;exact r1)
 exact ⟨rfl,GE⟩
end
end Go.Ab.S
