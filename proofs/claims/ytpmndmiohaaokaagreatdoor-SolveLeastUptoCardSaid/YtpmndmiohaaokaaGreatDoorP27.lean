import Derived.Test.YtpmndmiohaaokaaGreatDoorP22
/-
  Part 27 of the proof.
-/
set_option linter.all false
section
namespace Go.Ab.S
open Go Go.Ab
set_option maxHeartbeats 1000000
theorem clAt_some {R:List Int} {a:Int} (h0:0<=a) (h1:a<R.length):∃x:Nat,a=x/\R[x]?=some (clAt R a):=by
 obtain ⟨x,rfl⟩:∃x:Nat,a=x:=⟨a.toNat,by omega⟩
 refine ⟨x,rfl,?_⟩
 rw [zCY,List.getD,zgG (by omega)];rfl
theorem node_some {g:Graph} {a:Int} {x:Nat} (h:InG g a) (hx:a=x):g.nodes[x]?=some (zAB g a):=by
 subst hx
 have:=h.2
 have hx:x<g.nodes.length:=by omega
 rw [zAB,Int.toNat_natCast,List.getD,zgG hx];rfl
section
variable {g U:Graph} {ps:List Pr} {R:List Int}
theorem UOut.alike (hc:zAF g=0) (O:UOut g ps U R) {a b:Int} (h:Uni g ps a b):zAB U a=zAB U b:=by
 by_cases h2:∃m,Uni g ps a m/\(zAB g m).kind=2
 ·obtain ⟨m,h2,h3⟩:=h2
  rw [O.con a m h2 h3,O.con b m (h.symm.trans h2) h3]
 ·by_cases h3:∃m,Uni g ps a m/\(zAB g m).kind=3
  ·obtain ⟨m,h3,h4⟩:=h3
   have Q:=O.obj a m h3 h4
   have Q':=O.obj b m (h.symm.trans h3) h4
   have hl:(zAB U a).labels=(zAB U b).labels:=zEO (zBE Q.rises) (zBE Q'.rises) fun l=>by
    rw [Q.labels,Q'.labels]
    exact ⟨fun ⟨m,k1,k2⟩=>⟨m,h.symm.trans k1,k2⟩,fun ⟨m,k1,k2⟩=>⟨m,h.trans k1,k2⟩⟩
   have ho:(zAB U a).isOpen=(zAB U b).isOpen:=by
    rw [Bool.eq_iff_iff,Q.isOpen,Q'.isOpen]
    exact ⟨fun q m hm=>q m (h.trans hm),fun q m hm=>q m (h.symm.trans hm)⟩
   have ha:(zAB U a).args=(zAB U b).args:=by
    apply List.ext_getElem
    ·rw [<-Q.len,<-Q'.len,hl]
    ·intro k k1 k2
     have hkl:k<(zAB U a).labels.length:=by rw [Q.len];exact k1
     obtain ⟨m',m1,m2,m3⟩:=(Q.labels _).1 (List.getElem_mem hkl)
     obtain ⟨j,hj,hje⟩:=List.mem_iff_getElem.1 m3
     have a1:=Q.args k _ (zgG hkl) m' j m1 m2 (by rw [zgG hj,hje])
     have a2:=Q'.args k _ (by rw [<-hl];exact zgG hkl) m' j (h.symm.trans m1) m2 (by rw [zgG hj,hje])
     rw [<-a2,List.getD,List.getD,zgG k1,zgG k2] at a1
     simpa using a1
   have hk:=Q.kind.trans Q'.kind.symm
   have hn:=Q.name.trans Q'.name.symm
   generalize zAB U a=N at hl ho ha hk hn
   generalize zAB U b=N' at hl ho ha hk hn
   cases N;cases N'
   simp only at hl ho ha hk hn
   subst hl;subst ho;subst ha;subst hk;subst hn;rfl
  ·have hv:∀m,Uni g ps a m->(zAB g m).kind=1:=fun m hm=>by
    rcases kinds hc (hm.inG hc).2 with q|q|q
    ·exact q
    ·exact absurd ⟨m,hm,q⟩ h2
    ·exact absurd ⟨m,hm,q⟩ h3
   rw [O.var a (h.inG hc).1 hv,O.var b (h.inG hc).2 fun m hm=>hv m (h.trans hm)]
structure LeastL (g:Graph) (ps:List Pr) (U:Graph) (R:List Int):Prop where
 check:zAF U=0
 lenR:R.length=g.nodes.length
 lenU:U.nodes.length=g.nodes.length
 root:∃x:Nat,g.root=x/\R[x]?=some U.root
 prs:∀p∈ps,∃(x y:Nat) (c:Int),p.1=x/\p.2=y/\R[x]?=some c/\R[y]?=some c
 row:∀i,i<g.nodes.length->∃r:Nat,R[i]?=some (r:Int)/\r<=i/\R[r]?=some (r:Int)/\U.nodes[i]?=U.nodes[r]?
 args:∀n∈U.nodes,∀a∈n.args,∃z:Nat,a=z/\R[z]?=some (z:Int)
theorem least_law (hc:zAF g=0) (hps:∀p∈ps,zBq g p=true) (O:UOut g ps U R):LeastL g ps U R:=by
 have at':∀{a:Int},InG g a->∃x:Nat,a=x/\R[x]?=some (clAt R a):=fun h=>clAt_some h.1 (by rw [O.lenR];exact h.2)
 obtain ⟨g0,g1,g2,g3⟩:=zAU hc
 refine ⟨O.check hc,O.lenR,O.lenU,?_,fun p hp=>?_,fun i hi=>?_,fun n hn a ha=>?_⟩
 ·obtain ⟨x,h1,h2⟩:=at' (a:=g.root) ⟨g0,g1⟩
  exact ⟨x,h1,by rw [h2,O.root]⟩
 ·obtain ⟨i1,i2⟩:=zHC.1 (hps p hp)
  obtain ⟨x,h1,h2⟩:=at' i1
  obtain ⟨y,h3,h4⟩:=at' i2
  refine ⟨x,y,_,h1,h3,h2,?_⟩
  rw [h4,O.eq hc (.pair (a:=p.1) (b:=p.2) hp i1 i2)]
 ·have hin:InG g (i:Int):=⟨by omega,by omega⟩
  obtain ⟨x,h1,h2⟩:=at' hin
  obtain rfl:i=x:=by omega
  obtain ⟨r1,r2⟩:=O.rep _ hin
  have hr:=O.inR hc hin
  obtain ⟨r,h3,h4⟩:=at' hr
  have hle:=r2 _ (.refl hin)
  rw [O.idem hc hin] at h4
  rw [h3] at h2 h4 hle
  refine ⟨r,h2,by omega,h4,?_⟩
  rw [node_some (O.inU.2 hin) rfl,node_some (O.inU.2 hr) h3,O.alike hc r1]
 ·rw [<-zFy U] at hn
  obtain ⟨i,hi,rfl⟩:=List.mem_map.1 hn
  have hi:=O.inU.1 (zHT.1 hi)
  obtain ⟨z,z1,rfl⟩:=O.arg hc hi ha
  obtain ⟨x,h1,h2⟩:=at' (O.inR hc z1)
  rw [O.idem hc z1,h1] at h2
  exact ⟨x,h1,h2⟩
end
theorem ins_var {g:Graph} (tg:GTi g) (cg:zAF g=0):Ins gV g:=(zMO zTI tg zRE cg).1 (is_var tg cg)
section
variable {g h:Graph}
theorem meet_self (f:Few 300 g) (fh:Few 300 h) (hi:Ins h g):MeetSm g h/\Consi (zBF g h) (zBo g h)/\∀m,MR g h m->GTi m/\zFa m g=true:=by
 have hs:g.nodes.length+h.nodes.length<=1048576:=by have:=f.s;have:=fh.s;omega
 refine ⟨.of (N:=600) (L:=600) f.t fh.t (by have:=f.s;have:=fh.s;omega) (by have:=f.s;have:=fh.s;omega) (by decide) (by decide) (by decide),zJm f.c fh.c hs f.c (.refl f.c) hi,fun m k=>⟨k.gti (N:=600) (L:=600) f.c fh.c f.t fh.t (by have:=f.s;have:=fh.s;omega) (by have:=f.s;have:=fh.s;omega) (by decide) (by decide),?_⟩⟩
 exact (zQN (k.check f.c fh.c hs) f.c).2 ⟨k.most f.c fh.c hs f.c (.refl f.c) hi,(k.both f.c fh.c hs).1⟩
theorem few_V:Few 300 gV:=⟨zTI,zRE,by decide⟩
end
end Go.Ab.S
end
section
namespace Go.Ab.S
open Go Go.Ab
set_option maxHeartbeats 8000000
theorem CaseU.zero' {g:Graph} {ps:List Pr} {code:Int} (h:CaseU g ps code) (h0:code=0):zAF g=0/\∀p∈ps,zBq g p=true:=by
 rcases h with ⟨_,a2⟩|⟨_,a2,_⟩|⟨_,a2,_⟩|⟨a1,_,a3,a4⟩
 ·exact absurd h0 a2
 ·rw [h0] at a2;cases a2
 ·rw [h0] at a2;cases a2
 ·exact ⟨a1,a3⟩
section
variable {fns:FnsT} {summ:SumT}
variable (H:Has fns summ) (HS:HasSort summ) (HA:HasAs summ) (HR:HasRead summ)
include H HS HA HR
theorem SolveLeast_ok (g:Graph) (hg:Sane g) (ps:List Pr) (hpl:ps.length<2 ^ 60) (v pv:AVal) (h0:AHeap) (hw:WF h0) (hv:GraphAt h0 v g) (hp:PrsAt h0 pv ps):Cl fns summ 6 [v,pv] h0 fun r h'=>r=.bool true/\Grow h0 h':=by
 obtain ⟨nv,rfl,hN⟩:=hv
 have hpart:zBG (some 2) [nv,.int .i64 g.root] 0=some (.agg [nv,.int .i64 g.root]):=rfl
 have ht2:∀x y:AVal,List.take 2 [x,y]=[x,y]:=fun _ _=>rfl
 have hlen:=hN.len
 have hlp:=hp.1
 rw [List.length_map] at hlp
 refine H.go (fn:=F_SolveLeast) rfl (by decide) rfl rfl ?_
 unfold F_SolveLeast
 dsimp only [qQ,qE,qN,gQ,gE,vi,tm,mt,lo,fa]
 refine zAE (zAD ?_)
 refine zBZ (by exact e1) (by exact cc) hw ?_
 rintro b2 h1 hb2 g1 o2
 repeat with_reducible first|refine zAA ?_|refine zAd ?_|refine zBk ?_|refine zAN ?_|refine zBQ ?_|refine zBj ?_|refine zNc ?_ rfl|refine zAC ?_|refine zAE ?_|refine zAD ?_|refine zAM ?_|refine zKU ?_|refine zAS ?_|refine zCJ ?_|refine zAQ ?_|refine zBU ?_|refine zAx ?_|(apply zIQ;exact e1;exact e1)|(apply zLO;exact e1;exact e1)|(apply zSR;exact e1)|(apply dr_gF;exact e1)|(apply dr_gU;exact e1)|(apply dr_q;exact q1)|(apply zCK;exact q1;exact og1)|(apply st_q;exact q1)|(apply zGu;exact e1;exact e2)|(apply zRs;exact e1;exact e2)|(apply zBi;exact e1;exact q1)|(apply zEm;exact e1)|(apply zSz;exact e1)|(apply zHL;exact e1)|(apply st_eU;exact e1)|(apply zEu;exact e1;exact g1;exact q2)|(apply st_sA;exact e1;exact g1;exact e2;exact e3)|(apply st_sO;exact e1;exact g1;exact e2;exact e3)|(apply zAK;exact e1)|(apply zAJ;exact e1)
 refine zAc (by exact s1) ((zMp H HS HA HR h1 g1.wf).mono ?_)
 rintro _ h2 ⟨rfl,g2⟩
 replace o2:=g2.keep _ _ o2
 have G:=g1.trans g2
 clear g1 g2
 repeat with_reducible first|refine zAA ?_|refine zAd ?_|refine zBk ?_|refine zAN ?_|refine zBQ ?_|refine zBj ?_|refine zNc ?_ rfl|refine zAC ?_|refine zAE ?_|refine zAD ?_|refine zAM ?_|refine zKU ?_|refine zAS ?_|refine zCJ ?_|refine zAQ ?_|refine zBU ?_|refine zAx ?_|(apply zIQ;exact e1;exact e1)|(apply zLO;exact e1;exact e1)|(apply zSR;exact e1)|(apply dr_gF;exact e1)|(apply dr_gU;exact e1)|(apply dr_q;exact q1)|(apply zCK;exact q1;exact og1)|(apply st_q;exact q1)|(apply zGu;exact e1;exact e2)|(apply zRs;exact e1;exact e2)|(apply zBi;exact e1;exact q1)|(apply zEm;exact e1)|(apply zSz;exact e1)|(apply zHL;exact e1)|(apply st_eU;exact e1)|(apply zEu;exact e1;exact g1;exact q2)|(apply st_sA;exact e1;exact g1;exact e2;exact e3)|(apply st_sO;exact e1;exact g1;exact e2;exact e3)|(apply zAK;exact e1)|(apply zAJ;exact e1)
 refine zAc (by exact s1) ((Great_ok H g hg.great _ h2 G.wf ⟨nv,rfl,hN.mono G⟩).mono ?_)
 rintro _ h3 ⟨rfl,g3⟩
 replace o2:=g3.keep _ _ o2
 replace G:=G.trans g3
 clear g3
 cases c1:decide ((zEz g:Int)>300)
 rotate_left
 ·repeat' with_reducible first|refine zAA ?_|refine zAd ?_|refine zBk ?_|refine zAN ?_|refine zBQ ?_|refine zBj ?_|refine zNc ?_ rfl|refine zAC ?_|refine zAE ?_|refine zAD ?_|refine zAM ?_|refine zKU ?_|refine zAS ?_|refine zCJ ?_|refine zAQ ?_|refine zBU ?_|refine zAx ?_|(apply zIQ;exact e1;exact e1)|(apply zLO;exact e1;exact e1)|(apply zSR;exact e1)|(apply dr_gF;exact e1)|(apply dr_gU;exact e1)|(apply dr_q;exact q1)|(apply zCK;exact q1;exact og1)|(apply st_q;exact q1)|(apply zGu;exact e1;exact e2)|(apply zRs;exact e1;exact e2)|(apply zBi;exact e1;exact q1)|(apply zEm;exact e1)|(apply zSz;exact e1)|(apply zHL;exact e1)|(apply st_eU;exact e1)|(apply zEu;exact e1;exact g1;exact q2)|(apply st_sA;exact e1;exact g1;exact e2;exact e3)|(apply st_sO;exact e1;exact g1;exact e2;exact e3)|(apply zAK;exact e1)|(apply zAJ;exact e1)|(apply zAI;exact n1;exact r1)|(apply zJR;exact e1;all_goals intro _)
  exact ⟨rfl,G⟩
 have tg:Hid (zEz g<=300):=⟨by have:=of_decide_eq_false c1;omega⟩
 cases c2:decide (Int.ofNat ps.length>60)
 rotate_left
 ·repeat' with_reducible first|refine zAA ?_|refine zAd ?_|refine zBk ?_|refine zAN ?_|refine zBQ ?_|refine zBj ?_|refine zNc ?_ rfl|refine zAC ?_|refine zAE ?_|refine zAD ?_|refine zAM ?_|refine zKU ?_|refine zAS ?_|refine zCJ ?_|refine zAQ ?_|refine zBU ?_|refine zAx ?_|(apply zIQ;exact e1;exact e1)|(apply zLO;exact e1;exact e1)|(apply zSR;exact e1)|(apply dr_gF;exact e1)|(apply dr_gU;exact e1)|(apply dr_q;exact q1)|(apply zCK;exact q1;exact og1)|(apply st_q;exact q1)|(apply zGu;exact e1;exact e2)|(apply zRs;exact e1;exact e2)|(apply zBi;exact e1;exact q1)|(apply zEm;exact e1)|(apply zSz;exact e1)|(apply zHL;exact e1)|(apply st_eU;exact e1)|(apply zEu;exact e1;exact g1;exact q2)|(apply st_sA;exact e1;exact g1;exact e2;exact e3)|(apply st_sO;exact e1;exact g1;exact e2;exact e3)|(apply zAK;exact e1)|(apply zAJ;exact e1)|(apply zAI;exact n1;exact r1)|(apply zJR;exact e1;all_goals intro _)
  exact ⟨rfl,G⟩
 have tl:ps.length<=60:=by have:=of_decide_eq_false c2;simp only [Int.ofNat_eq_natCast] at this;omega
 have T:Hid (GTi g/\g.nodes.length+zAe [] g.nodes 0<=300):=⟨hg.tiny tg.out,by have:=zKe g;have:=tg.out;omega⟩
 have szg:Hid ((g.nodes.length+1)*(zAe [] g.nodes 0+1)+60<=2 ^ 30):=⟨by
  have h1:=T.out.2
  have:(g.nodes.length+1)*(zAe [] g.nodes 0+1)<=301*301:=Nat.mul_le_mul (by omega) (by omega)
  have e30:(2:Nat) ^ 30=1073741824:=by decide
  omega⟩
 repeat with_reducible first|refine zAA ?_|refine zAd ?_|refine zBk ?_|refine zAN ?_|refine zBQ ?_|refine zBj ?_|refine zNc ?_ rfl|refine zAC ?_|refine zAE ?_|refine zAD ?_|refine zAM ?_|refine zKU ?_|refine zAS ?_|refine zCJ ?_|refine zAQ ?_|refine zBU ?_|refine zAx ?_|(apply zIQ;exact e1;exact e1)|(apply zLO;exact e1;exact e1)|(apply zSR;exact e1)|(apply dr_gF;exact e1)|(apply dr_gU;exact e1)|(apply dr_q;exact q1)|(apply zCK;exact q1;exact og1)|(apply st_q;exact q1)|(apply zGu;exact e1;exact e2)|(apply zRs;exact e1;exact e2)|(apply zBi;exact e1;exact q1)|(apply zEm;exact e1)|(apply zSz;exact e1)|(apply zHL;exact e1)|(apply st_eU;exact e1)|(apply zEu;exact e1;exact g1;exact q2)|(apply st_sA;exact e1;exact g1;exact e2;exact e3)|(apply st_sO;exact e1;exact g1;exact e2;exact e3)|(apply zAK;exact e1)|(apply zAJ;exact e1)
 refine zAc (by exact s1) ((UnifyG H HS HA g T.out.1 ps (by omega) (by have:=T.out.2;omega) (by have:=szg.out;omega) G.wf ⟨nv,rfl,hN.mono G⟩ (hp.mono G)).mono ?_)
 rintro _ h4 ⟨g4,un,ur,rv,code,A,L,rfl,hone,lrv,at4,law4⟩
 replace o2:=g4.keep _ _ o2
 replace G:=G.trans g4
 clear g4
 repeat with_reducible first|refine zAA ?_|refine zAd ?_|refine zBk ?_|refine zAN ?_|refine zBQ ?_|refine zBj ?_|refine zNc ?_ rfl|refine zAC ?_|refine zAE ?_|refine zAD ?_|refine zAM ?_|refine zKU ?_|refine zAS ?_|refine zCJ ?_|refine zAQ ?_|refine zBU ?_|refine zAx ?_|(apply zIQ;exact e1;exact e1)|(apply zLO;exact e1;exact e1)|(apply zSR;exact e1)|(apply dr_gF;exact e1)|(apply dr_gU;exact e1)|(apply dr_q;exact q1)|(apply zCK;exact q1;exact og1)|(apply st_q;exact q1)|(apply zGu;exact e1;exact e2)|(apply zRs;exact e1;exact e2)|(apply zBi;exact e1;exact q1)|(apply zEm;exact e1)|(apply zSz;exact e1)|(apply zHL;exact e1)|(apply st_eU;exact e1)|(apply zEu;exact e1;exact g1;exact q2)|(apply st_sA;exact e1;exact g1;exact e2;exact e3)|(apply st_sO;exact e1;exact g1;exact e2;exact e3)|(apply zAK;exact e1)|(apply zAJ;exact e1)
 refine zAb G.wf ?_
 rintro b5 h5 hb5 g5 o5
 refine zAG (v:=.agg [un,.int .i64 ur]) (by exact e1) (by exact e1) (cs:=[un,.int .i64 ur]) rfl rfl g5.wf o5 (by simp) (by simp only [List.all_cons,List.all_nil,hone,Bool.true_and,Bool.and_true];rfl) ?_
 rintro v6 h6 p6 o5'
 simp only [zlY,zlA,zlC,zlN,zlD,zlZ,zlE,Nat.zero_add,Nat.reduceAdd,zlX,zlK] at o5'
 have g6:Grow h4 h6:=p6.grow h4 G.wf g5 hb5
 replace o2:=g6.keep _ _ o2
 replace G:=G.trans g6
 have at6:Hid (GraphAt h6 (.agg [un,.int .i64 ur]) A/\IntsAt h6 rv L):=⟨by
  obtain ⟨⟨q,hq,hn⟩,hi⟩:=at4.out
  exact ⟨⟨q,hq,hn.mono g6⟩,hi.mono g6⟩⟩
 clear o5 p6 g5 g6 at4
 cases hz:(code != 0)
 rotate_left
 ·repeat' with_reducible first|refine zAA ?_|refine zAd ?_|refine zBk ?_|refine zAN ?_|refine zBQ ?_|refine zBj ?_|refine zNc ?_ rfl|refine zAC ?_|refine zAE ?_|refine zAD ?_|refine zAM ?_|refine zKU ?_|refine zAS ?_|refine zCJ ?_|refine zAQ ?_|refine zBU ?_|refine zAx ?_|(apply zIQ;exact e1;exact e1)|(apply zLO;exact e1;exact e1)|(apply zSR;exact e1)|(apply dr_gF;exact e1)|(apply dr_gU;exact e1)|(apply dr_q;exact q1)|(apply zCK;exact q1;exact og1)|(apply st_q;exact q1)|(apply zGu;exact e1;exact e2)|(apply zRs;exact e1;exact e2)|(apply zBi;exact e1;exact q1)|(apply zEm;exact e1)|(apply zSz;exact e1)|(apply zHL;exact e1)|(apply st_eU;exact e1)|(apply zEu;exact e1;exact g1;exact q2)|(apply st_sA;exact e1;exact g1;exact e2;exact e3)|(apply st_sO;exact e1;exact g1;exact e2;exact e3)|(apply zAK;exact e1)|(apply zAJ;exact e1)|(apply zAI;exact n1;exact r1)|(apply zJR;exact e1;all_goals intro _)
  exact ⟨rfl,G⟩
 obtain rfl:code=0:=by simpa using hz
 have z0:=law4.out.1.zero' rfl
 have O:=law4.out.2.2 rfl
 have F:Hid (Few 300 g):=⟨T.out.1,z0.1,T.out.2⟩
 have SU:=Hid.mk (zOe F.out O)
 have LL:=Hid.mk (least_law z0.1 z0.2 O)
 have la:lenO un=some A.nodes.length:=by
  obtain ⟨⟨q,hq,hn⟩,_⟩:=at6.out
  cases hq;exact hn.len
 obtain rfl:ur=A.root:=by
  obtain ⟨⟨q,hq,hn⟩,_⟩:=at6.out
  cases hq;rfl
 have hpu:zBG (some 2) [un,.int .i64 A.root] 0=some (.agg [un,.int .i64 A.root]):=rfl
 clear law4 z0 O hz
 have rootx:=LL.out.root
 obtain ⟨x,hx,hRx⟩:=rootx
 have hLA:((Int.ofNat L.length:Int) != Int.ofNat g.nodes.length)=false:=by rw [LL.out.lenR];simp
 have hRR:(A.root != A.root)=false:=by simp
 have h00:((0:Int) != 0)=false:=rfl
 repeat with_reducible first|refine zAA ?_|refine zAd ?_|refine zBk ?_|refine zAN ?_|refine zBQ ?_|refine zBj ?_|refine zNc ?_ rfl|refine zAC ?_|refine zAE ?_|refine zAD ?_|refine zAM ?_|refine zKU ?_|refine zAS ?_|refine zCJ ?_|refine zAQ ?_|refine zBU ?_|refine zAx ?_|(apply zIQ;exact e1;exact e1)|(apply zLO;exact e1;exact e1)|(apply zSR;exact e1)|(apply dr_gF;exact e1)|(apply dr_gU;exact e1)|(apply dr_q;exact q1)|(apply zCK;exact q1;exact og1)|(apply st_q;exact q1)|(apply zGu;exact e1;exact e2)|(apply zRs;exact e1;exact e2)|(apply zBi;exact e1;exact q1)|(apply zEm;exact e1)|(apply zSz;exact e1)|(apply zHL;exact e1)|(apply st_eU;exact e1)|(apply zEu;exact e1;exact g1;exact q2)|(apply st_sA;exact e1;exact g1;exact e2;exact e3)|(apply st_sO;exact e1;exact g1;exact e2;exact e3)|(apply zAK;exact e1)|(apply zAJ;exact e1)
 refine zBB (zGd (fun A'=>A'.defers=[]/\ev A' (.tmp 1)=some pv/\ev A' (.tmp 2)=some (.ptr (some (b2,0)))/\ev A' (.tmp 5)=some (.ptr (some (b5,0)))/\ev A' (.tmp 6)=some rv/\ev A' (.tmp 37)=some (.agg [un,.int .i64 A.root])) ⟨by exact n1,by exact e1,by exact e1,by exact e1,by exact e1,by exact e1⟩ ?_)
 rintro a ⟨hd,t1',t2',t5',t6',t37'⟩
 refine (zAc (by exact s1) ((Check_ok H A SU.out.1.toGraphSm _ _ G.wf at6.out.1).mono ?_))
 rintro _ h7 ⟨rfl,g7⟩
 rw [LL.out.check]
 replace o2:=g7.keep _ _ o2
 replace o5':=g7.keep _ _ o5'
 replace G:=G.trans g7
 have at7:Hid (GraphAt h7 (.agg [un,.int .i64 A.root]) A/\IntsAt h7 rv L):=⟨by
  obtain ⟨⟨q,hq,hn⟩,hi⟩:=at6.out
  exact ⟨⟨q,hq,hn.mono g7⟩,hi.mono g7⟩⟩
 clear g7 at6
 refine zAC ⟨by simp [zAa,Nat.testBit,o5'],?_⟩
 obtain ⟨bq,oq,verq,rq,eq,vsq,hixq,hgq,hvq⟩:=at7.out.2.at hRx
 repeat with_reducible first|refine zAA ?_|refine zAd ?_|refine zBk ?_|refine zAN ?_|refine zBQ ?_|refine zBj ?_|refine zNc ?_ rfl|refine zAC ?_|refine zAE ?_|refine zAD ?_|refine zAM ?_|refine zKU ?_|refine zAS ?_|refine zCJ ?_|refine zAQ ?_|refine zBU ?_|refine zAx ?_|(apply zIQ;exact e1;exact e1)|(apply zLO;exact e1;exact e1)|(apply zSR;exact e1)|(apply dr_gF;exact e1)|(apply dr_gU;exact e1)|(apply dr_q;exact q1)|(apply zCK;exact q1;exact og1)|(apply st_q;exact q1)|(apply zGu;exact e1;exact e2)|(apply zRs;exact e1;exact e2)|(apply zBi;exact e1;exact q1)|(apply zEm;exact e1)|(apply zSz;exact e1)|(apply zHL;exact e1)|(apply st_eU;exact e1)|(apply zEu;exact e1;exact g1;exact q2)|(apply st_sA;exact e1;exact g1;exact e2;exact e3)|(apply st_sO;exact e1;exact g1;exact e2;exact e3)|(apply zAK;exact e1)|(apply zAJ;exact e1)
 have hprs:=Hid.mk LL.out.prs
 clear hixq hgq hvq hRx hx
 refine zAs (N:=ps.length) (by omega) (fun j a hp=>Hid (Grow h7 hp)/\a.defers=[]/\ev a (.tmp 2)=some (.ptr (some (b2,0)))/\ev a (.tmp 5)=some (.ptr (some (b5,0)))/\ev a (.tmp 6)=some rv/\ev a (.tmp 58)=some pv)
  (by rintro j a hp t w (rfl|rfl|rfl) ⟨m1,m2,m3,m4,m5,m6⟩<;>exact ⟨m1,by rw [zAY];exact m2,by exact e1,by exact e1,by exact e1,by exact e1⟩) (by decide) ?_ ?_ ⟨⟨Grow.refl G.wf⟩,by exact n1,by exact e1,by exact e1,by exact e1,by exact e1⟩ (by exact e1) (by exact e1)
 ·clear hd t1' t2' t5' t6' t37'
  rintro j a hp' hj ⟨Gp,hd,t2',t5',t6',t58'⟩ hi hn
  obtain ⟨bp,op,vp,rp,ep,vsp,hix,hgp0,hvp⟩:=PrsAt.at (hp.mono G) (zgG hj)
  have hgp:=Gp.out.keep _ _ hgp0
  have hl2:op+2<=vsp.length:=by
   have:=congrArg List.length hvp
   simp [zBS] at this;omega
  obtain ⟨x,y,c,hx,hy,hRx,hRy⟩:=hprs.out ps[j] (List.getElem_mem hj)
  have hpc:zBS ps[j]=[.int .i64 (x:Nat),.int .i64 (y:Nat)]:=by rw [zBS,hx,hy]
  rw [hpc] at hvp
  obtain ⟨bq,oq,verq,rq,eq,vsq,hixq,hgq0,hvq⟩:=at7.out.2.at hRx
  obtain ⟨br,or,verr,rr,er,vsr,hixr,hgr0,hvr⟩:=at7.out.2.at hRy
  have hgq:=Gp.out.keep _ _ hgq0
  have hgr:=Gp.out.keep _ _ hgr0
  have wp:=Gp.out.wf
  have hcc:(c != c)=false:=by simp
  clear hpc hgp0 hx hy hRx hRy hgq0 hgr0
  repeat with_reducible first|refine zAA ?_|refine zAd ?_|refine zBk ?_|refine zAN ?_|refine zBQ ?_|refine zBj ?_|refine zNc ?_ rfl|refine zAC ?_|refine zAE ?_|refine zAD ?_|refine zAM ?_|refine zKU ?_|refine zAS ?_|refine zCJ ?_|refine zAQ ?_|refine zBU ?_|refine zAx ?_|(apply zIQ;exact e1;exact e1)|(apply zLO;exact e1;exact e1)|(apply zSR;exact e1)|(apply dr_gF;exact e1)|(apply dr_gU;exact e1)|(apply dr_q;exact q1)|(apply zCK;exact q1;exact og1)|(apply st_q;exact q1)|(apply zGu;exact e1;exact e2)|(apply zRs;exact e1;exact e2)|(apply zBi;exact e1;exact q1)|(apply zEm;exact e1)|(apply zSz;exact e1)|(apply zHL;exact e1)|(apply st_eU;exact e1)|(apply zEu;exact e1;exact g1;exact q2)|(apply st_sA;exact e1;exact g1;exact e2;exact e3)|(apply st_sO;exact e1;exact g1;exact e2;exact e3)|(apply zAK;exact e1)|(apply zAJ;exact e1)
  refine zAb wp ?_
  rintro b9 h9 hb9 g9 o9
  refine zAG (by exact e1) (by exact e1) (by exact cc) rfl g9.wf o9 (by simp) rfl ?_
  rintro v10 h10 p10 o9'
  simp only [zlY,zlA,zlC,zlN,zlD,zlZ,zlE,Nat.zero_add,Nat.reduceAdd,zlX,zlK] at o9'
  have g10:Grow hp' h10:=p10.grow hp' wp g9 hb9
  have hgqA:=g10.keep _ _ hgq
  have hgrA:=g10.keep _ _ hgr
  have G10:=Hid.mk (Gp.out.trans g10)
  clear o9 g9 p10 hgp hix hvp hl2 g10 hgq hgr
  repeat with_reducible first|refine zAA ?_|refine zAd ?_|refine zBk ?_|refine zAN ?_|refine zBQ ?_|refine zBj ?_|refine zNc ?_ rfl|refine zAC ?_|refine zAE ?_|refine zAD ?_|refine zAM ?_|refine zKU ?_|refine zAS ?_|refine zCJ ?_|refine zAQ ?_|refine zBU ?_|refine zAx ?_|(apply zIQ;exact e1;exact e1)|(apply zLO;exact e1;exact e1)|(apply zSR;exact e1)|(apply dr_gF;exact e1)|(apply dr_gU;exact e1)|(apply dr_q;exact q1)|(apply zCK;exact q1;exact og1)|(apply st_q;exact q1)|(apply zGu;exact e1;exact e2)|(apply zRs;exact e1;exact e2)|(apply zBi;exact e1;exact q1)|(apply zEm;exact e1)|(apply zSz;exact e1)|(apply zHL;exact e1)|(apply st_eU;exact e1)|(apply zEu;exact e1;exact g1;exact q2)|(apply st_sA;exact e1;exact g1;exact e2;exact e3)|(apply st_sO;exact e1;exact g1;exact e2;exact e3)|(apply zAK;exact e1)|(apply zAJ;exact e1)
  refine dr_q (v:=.ptr (some (b9,0))) (by rw [zBA];simp only [zBD,zBI,zBM,Nat.reduceEqDiff,if_true,if_false];rfl) ?_
  repeat with_reducible first|refine zAA ?_|refine zAd ?_|refine zBk ?_|refine zAN ?_|refine zBQ ?_|refine zBj ?_|refine zNc ?_ rfl|refine zAC ?_|refine zAE ?_|refine zAD ?_|refine zAM ?_|refine zKU ?_|refine zAS ?_|refine zCJ ?_|refine zAQ ?_|refine zBU ?_|refine zAx ?_|(apply zIQ;exact e1;exact e1)|(apply zLO;exact e1;exact e1)|(apply zSR;exact e1)|(apply dr_gF;exact e1)|(apply dr_gU;exact e1)|(apply dr_q;exact q1)|(apply zCK;exact q1;exact og1)|(apply st_q;exact q1)|(apply zGu;exact e1;exact e2)|(apply zRs;exact e1;exact e2)|(apply zBi;exact e1;exact q1)|(apply zEm;exact e1)|(apply zSz;exact e1)|(apply zHL;exact e1)|(apply st_eU;exact e1)|(apply zEu;exact e1;exact g1;exact q2)|(apply st_sA;exact e1;exact g1;exact e2;exact e3)|(apply st_sO;exact e1;exact g1;exact e2;exact e3)|(apply zAK;exact e1)|(apply zAJ;exact e1)
  refine dr_q (v:=.ptr (some (b9,1))) (by rw [zBA];simp only [zBD,zBI,zBM,Nat.reduceEqDiff,if_true,if_false];rfl) ?_
  repeat with_reducible first|refine zAA ?_|refine zAd ?_|refine zBk ?_|refine zAN ?_|refine zBQ ?_|refine zBj ?_|refine zNc ?_ rfl|refine zAC ?_|refine zAE ?_|refine zAD ?_|refine zAM ?_|refine zKU ?_|refine zAS ?_|refine zCJ ?_|refine zAQ ?_|refine zBU ?_|refine zAx ?_|(apply zIQ;exact e1;exact e1)|(apply zLO;exact e1;exact e1)|(apply zSR;exact e1)|(apply dr_gF;exact e1)|(apply dr_gU;exact e1)|(apply dr_q;exact q1)|(apply zCK;exact q1;exact og1)|(apply st_q;exact q1)|(apply zGu;exact e1;exact e2)|(apply zRs;exact e1;exact e2)|(apply zBi;exact e1;exact q1)|(apply zEm;exact e1)|(apply zSz;exact e1)|(apply zHL;exact e1)|(apply st_eU;exact e1)|(apply zEu;exact e1;exact g1;exact q2)|(apply st_sA;exact e1;exact g1;exact e2;exact e3)|(apply st_sO;exact e1;exact g1;exact e2;exact e3)|(apply zAK;exact e1)|(apply zAJ;exact e1)
  exact ⟨⟨G10,by exact n1,by exact e1,by exact e1,by exact e1,by exact e1⟩,by exact e1,by exact e1⟩
 clear hd t1' t2' t5' t6' t37'
 rintro a h8 ⟨g8,hd,t2',t5',t6',t58'⟩
 replace o2:=g8.out.keep _ _ o2
 replace o5':=g8.out.keep _ _ o5'
 have at8:Hid (GraphAt h8 (.agg [un,.int .i64 A.root]) A/\IntsAt h8 rv L):=⟨by
  obtain ⟨⟨q,hq,hn⟩,hi⟩:=at7.out
  exact ⟨⟨q,hq,hn.mono g8.out⟩,hi.mono g8.out⟩⟩
 replace G:=G.trans g8.out
 clear g8 at7 hprs
 refine zAA ?_
 repeat with_reducible first|refine zAA ?_|refine zAd ?_|refine zBk ?_|refine zAN ?_|refine zBQ ?_|refine zBj ?_|refine zNc ?_ rfl|refine zAC ?_|refine zAE ?_|refine zAD ?_|refine zAM ?_|refine zKU ?_|refine zAS ?_|refine zCJ ?_|refine zAQ ?_|refine zBU ?_|refine zAx ?_|(apply zIQ;exact e1;exact e1)|(apply zLO;exact e1;exact e1)|(apply zSR;exact e1)|(apply dr_gF;exact e1)|(apply dr_gU;exact e1)|(apply dr_q;exact q1)|(apply zCK;exact q1;exact og1)|(apply st_q;exact q1)|(apply zGu;exact e1;exact e2)|(apply zRs;exact e1;exact e2)|(apply zBi;exact e1;exact q1)|(apply zEm;exact e1)|(apply zSz;exact e1)|(apply zHL;exact e1)|(apply st_eU;exact e1)|(apply zEu;exact e1;exact g1;exact q2)|(apply st_sA;exact e1;exact g1;exact e2;exact e3)|(apply st_sO;exact e1;exact g1;exact e2;exact e3)|(apply zAK;exact e1)|(apply zAJ;exact e1)
 have un8:Hid (NodesAt h8 un A.nodes/\IntsAt h8 rv L):=⟨by
  obtain ⟨⟨q,hq,hn⟩,hi⟩:=at8.out
  cases hq;exact ⟨hn,hi⟩⟩
 have eLg:=LL.out.lenR
 have eAg:=LL.out.lenU
 refine zAs (N:=L.length) (by have:=T.out.2;omega) (fun j a hp=>Hid (Grow h8 hp)/\a.defers=[]/\ev a (.tmp 2)=some (.ptr (some (b2,0)))/\ev a (.tmp 5)=some (.ptr (some (b5,0)))/\ev a (.tmp 6)=some rv/\ev a (.tmp 76)=some rv)
  (by rintro j a hp t w (rfl|rfl|rfl) ⟨m1,m2,m3,m4,m5,m6⟩<;>exact ⟨m1,by rw [zAY];exact m2,by exact e1,by exact e1,by exact e1,by exact e1⟩) (by decide) ?_ ?_ ⟨⟨Grow.refl G.wf⟩,by exact n1,by exact e1,by exact e1,by exact e1,by exact e1⟩ (by exact e1) (by exact e1)
 ·clear hd t2' t5' t6' t58'
  rintro j a hp' hj ⟨Gp,hd,t2',t5',t6',t76'⟩ hi hn
  obtain ⟨r,hLj,hrj,hLr,hnn⟩:=LL.out.row j (by omega)
  have hjA:A.nodes[j]?=some A.nodes[j]:=zgG (by omega)
  have hrA:A.nodes[r]?=some A.nodes[j]:=by rw [<-hnn];exact hjA
  have hmem:=List.getElem_mem (show j<A.nodes.length by omega)
  have hargs:=Hid.mk (LL.out.args _ hmem)
  have hsm:Hid (NodeSm A.nodes[j]/\A.nodes[j].args.length<=4096):=⟨SU.out.1.all _ hmem,SU.out.1.tinyA _ hmem⟩
  generalize A.nodes[j]=n at hjA hrA hmem hargs hsm
  obtain ⟨bq,oq,verq,rq,eq,vsq,hixq,hgq,hvq⟩:=(un8.out.2.mono Gp.out).at hLj
  obtain ⟨br,or,verr,rr,er,vsr,hixr,hgr,hvr⟩:=(un8.out.2.mono Gp.out).at hLr
  obtain ⟨bx,ox,verx,rx,ex,vsx,av,lv,hixx,hgx,hvlx,hvox,_,_,hvx2,_,_,hax,hlx⟩:=(un8.out.1.mono Gp.out).at hjA
  obtain ⟨bv,ov,verv,rv',ev',vsv,bw,mw,hixv,hgv,hvlv,hvov,_,_,hvv2,_,_,hav,hlv⟩:=(un8.out.1.mono Gp.out).at hrA
  have o5p:=Gp.out.keep _ _ o5'
  have wp:=Gp.out.wf
  have hgt:decide (((r:Nat):Int)>((j:Nat):Int))=false:=by simp;omega
  have hrr:(((r:Nat):Int) != ((r:Nat):Int))=false:=by simp
  have lax:=hax.len
  clear hnn hLj hLr hjA hrA hrj
  repeat with_reducible first|refine zAA ?_|refine zAd ?_|refine zBk ?_|refine zAN ?_|refine zBQ ?_|refine zBj ?_|refine zNc ?_ rfl|refine zAC ?_|refine zAE ?_|refine zAD ?_|refine zAM ?_|refine zKU ?_|refine zAS ?_|refine zCJ ?_|refine zAQ ?_|refine zBU ?_|refine zAx ?_|(apply zIQ;exact e1;exact e1)|(apply zLO;exact e1;exact e1)|(apply zSR;exact e1)|(apply dr_gF;exact e1)|(apply dr_gU;exact e1)|(apply dr_q;exact q1)|(apply zCK;exact q1;exact og1)|(apply st_q;exact q1)|(apply zGu;exact e1;exact e2)|(apply zRs;exact e1;exact e2)|(apply zBi;exact e1;exact q1)|(apply zEm;exact e1)|(apply zSz;exact e1)|(apply zHL;exact e1)|(apply st_eU;exact e1)|(apply zEu;exact e1;exact g1;exact q2)|(apply st_sA;exact e1;exact g1;exact e2;exact e3)|(apply st_sO;exact e1;exact g1;exact e2;exact e3)|(apply zAK;exact e1)|(apply zAJ;exact e1)
  refine zBB (zAc (by exact s1) ((Alike_ok H n n hsm.out.1 av lv bw mw hp' wp hax hlx hav hlv).mono ?_))
  rintro _ h9 ⟨rfl,g9⟩
  rw [zMo]
  replace o5p:=g9.keep _ _ o5p
  replace hgx:=g9.keep _ _ hgx
  replace hgv:=g9.keep _ _ hgv
  replace hgq:=g9.keep _ _ hgq
  replace hgr:=g9.keep _ _ hgr
  have G9:=Hid.mk (Gp.out.trans g9)
  replace hax:=hax.mono g9
  replace hav:=hav.mono g9
  clear g9
  refine zAC ⟨by simp [zAa,Nat.testBit,o5p,hgx,hgv,hgq,hgr],?_⟩
  repeat with_reducible first|refine zAA ?_|refine zAd ?_|refine zBk ?_|refine zAN ?_|refine zBQ ?_|refine zBj ?_|refine zNc ?_ rfl|refine zAC ?_|refine zAE ?_|refine zAD ?_|refine zAM ?_|refine zKU ?_|refine zAS ?_|refine zCJ ?_|refine zAQ ?_|refine zBU ?_|refine zAx ?_|(apply zIQ;exact e1;exact e1)|(apply zLO;exact e1;exact e1)|(apply zSR;exact e1)|(apply dr_gF;exact e1)|(apply dr_gU;exact e1)|(apply dr_q;exact q1)|(apply zCK;exact q1;exact og1)|(apply st_q;exact q1)|(apply zGu;exact e1;exact e2)|(apply zRs;exact e1;exact e2)|(apply zBi;exact e1;exact q1)|(apply zEm;exact e1)|(apply zSz;exact e1)|(apply zHL;exact e1)|(apply st_eU;exact e1)|(apply zEu;exact e1;exact g1;exact q2)|(apply st_sA;exact e1;exact g1;exact e2;exact e3)|(apply st_sO;exact e1;exact g1;exact e2;exact e3)|(apply zAK;exact e1)|(apply zAJ;exact e1)
  refine zBB (zAc (by exact s1) ((Ints_ok H n.args n.args (by have:=hsm.out.2;omega) _ _ h9 hax hav).mono ?_))
  rintro _ h9 ⟨rfl,rfl⟩
  rw [zHh]
  refine zAC ⟨by simp [zAa,Nat.testBit,o5p,hgx,hgv,hgq,hgr],?_⟩
  clear hgq hgr hixq hixr hvq hvr hgv hixv hvlv hvov hvv2 hav hlv hlx hgt hrr
  repeat with_reducible first|refine zAA ?_|refine zAd ?_|refine zBk ?_|refine zAN ?_|refine zBQ ?_|refine zBj ?_|refine zNc ?_ rfl|refine zAC ?_|refine zAE ?_|refine zAD ?_|refine zAM ?_|refine zKU ?_|refine zAS ?_|refine zCJ ?_|refine zAQ ?_|refine zBU ?_|refine zAx ?_|(apply zIQ;exact e1;exact e1)|(apply zLO;exact e1;exact e1)|(apply zSR;exact e1)|(apply dr_gF;exact e1)|(apply dr_gU;exact e1)|(apply dr_q;exact q1)|(apply zCK;exact q1;exact og1)|(apply st_q;exact q1)|(apply zGu;exact e1;exact e2)|(apply zRs;exact e1;exact e2)|(apply zBi;exact e1;exact q1)|(apply zEm;exact e1)|(apply zSz;exact e1)|(apply zHL;exact e1)|(apply st_eU;exact e1)|(apply zEu;exact e1;exact g1;exact q2)|(apply st_sA;exact e1;exact g1;exact e2;exact e3)|(apply st_sO;exact e1;exact g1;exact e2;exact e3)|(apply zAK;exact e1)|(apply zAJ;exact e1)
  refine zAs (N:=n.args.length) (by have:=hsm.out.2;omega) (fun k a hp=>hp=h9/\a.defers=[]/\ev a (.tmp 2)=some (.ptr (some (b2,0)))/\ev a (.tmp 5)=some (.ptr (some (b5,0)))/\ev a (.tmp 6)=some rv/\ev a (.tmp 76)=some rv/\ev a (.tmp 77)=some (.int .i64 (L.length:Nat))/\ev a (.tmp 78)=some (.int .i64 (j:Nat))/\ev a (.tmp 129)=some av)
   (by rintro j a hp t w (rfl|rfl|rfl) ⟨m1,m2,m3,m4,m5,m6,m7,m8,m9⟩<;>exact ⟨m1,by rw [zAY];exact m2,by exact e1,by exact e1,by exact e1,by exact e1,by exact e1,by exact e1,by exact e1⟩) (by decide) ?_ ?_ ⟨rfl,by exact n1,by exact e1,by exact e1,by exact e1,by exact e1,by exact e1,by exact e1,by exact e1⟩ (by exact e1) (by exact e1)
  ·clear hd t2' t5' t6' t76' hi hn
   rintro k a hp hk ⟨rfl,hd,t2',t5',t6',t76',t77',t78',t129'⟩ hi hn
   obtain ⟨z,hz,hLz⟩:=hargs.out _ (List.getElem_mem hk)
   obtain ⟨bq,oq,verq,rq,eq,vsq,hixq,hgq,hvq⟩:=hax.at (zgG hk)
   obtain ⟨br,or,verr,rr,er,vsr,hixr,hgr,hvr⟩:=(un8.out.2.mono G9.out).at hLz
   rw [hz] at hvq
   have hrr:(((z:Nat):Int) != ((z:Nat):Int))=false:=by simp
   clear hz hLz hax
   repeat with_reducible first|refine zAA ?_|refine zAd ?_|refine zBk ?_|refine zAN ?_|refine zBQ ?_|refine zBj ?_|refine zNc ?_ rfl|refine zAC ?_|refine zAE ?_|refine zAD ?_|refine zAM ?_|refine zKU ?_|refine zAS ?_|refine zCJ ?_|refine zAQ ?_|refine zBU ?_|refine zAx ?_|(apply zIQ;exact e1;exact e1)|(apply zLO;exact e1;exact e1)|(apply zSR;exact e1)|(apply dr_gF;exact e1)|(apply dr_gU;exact e1)|(apply dr_q;exact q1)|(apply zCK;exact q1;exact og1)|(apply st_q;exact q1)|(apply zGu;exact e1;exact e2)|(apply zRs;exact e1;exact e2)|(apply zBi;exact e1;exact q1)|(apply zEm;exact e1)|(apply zSz;exact e1)|(apply zHL;exact e1)|(apply st_eU;exact e1)|(apply zEu;exact e1;exact g1;exact q2)|(apply st_sA;exact e1;exact g1;exact e2;exact e3)|(apply st_sO;exact e1;exact g1;exact e2;exact e3)|(apply zAK;exact e1)|(apply zAJ;exact e1)
   exact ⟨⟨rfl,by exact n1,by exact e1,by exact e1,by exact e1,by exact e1,by exact e1,by exact e1,by exact e1⟩,by exact e1,by exact e1⟩
  ·clear hd t2' t5' t6' t76' hi hn
   rintro a hp ⟨rfl,hd,t2',t5',t6',t76',t77',t78',t129'⟩
   repeat with_reducible first|refine zAA ?_|refine zAd ?_|refine zBk ?_|refine zAN ?_|refine zBQ ?_|refine zBj ?_|refine zNc ?_ rfl|refine zAC ?_|refine zAE ?_|refine zAD ?_|refine zAM ?_|refine zKU ?_|refine zAS ?_|refine zCJ ?_|refine zAQ ?_|refine zBU ?_|refine zAx ?_|(apply zIQ;exact e1;exact e1)|(apply zLO;exact e1;exact e1)|(apply zSR;exact e1)|(apply dr_gF;exact e1)|(apply dr_gU;exact e1)|(apply dr_q;exact q1)|(apply zCK;exact q1;exact og1)|(apply st_q;exact q1)|(apply zGu;exact e1;exact e2)|(apply zRs;exact e1;exact e2)|(apply zBi;exact e1;exact q1)|(apply zEm;exact e1)|(apply zSz;exact e1)|(apply zHL;exact e1)|(apply st_eU;exact e1)|(apply zEu;exact e1;exact g1;exact q2)|(apply st_sA;exact e1;exact g1;exact e2;exact e3)|(apply st_sO;exact e1;exact g1;exact e2;exact e3)|(apply zAK;exact e1)|(apply zAJ;exact e1)
   exact ⟨⟨G9,by exact n1,by exact e1,by exact e1,by exact e1,by exact e1⟩,by exact e1,by exact e1⟩
 clear hd t2' t5' t6' t58'
 rintro a h9 ⟨g9,hd,t2',t5',t6',t76'⟩
 replace o2:=g9.out.keep _ _ o2
 replace G:=G.trans g9.out
 clear g9 at8 un8 o5' LL SU eLg eAg hpu hLA hRR
 have M1:=Hid.mk (meet_self F.out F.out (.refl F.out.c))
 have M2:=Hid.mk (meet_self F.out few_V (ins_var T.out.1 F.out.c))
 refine zAA ?_
 repeat with_reducible first|refine zAA ?_|refine zAd ?_|refine zBk ?_|refine zAN ?_|refine zBQ ?_|refine zBj ?_|refine zNc ?_ rfl|refine zAC ?_|refine zAE ?_|refine zAD ?_|refine zAM ?_|refine zKU ?_|refine zAS ?_|refine zCJ ?_|refine zAQ ?_|refine zBU ?_|refine zAx ?_|(apply zIQ;exact e1;exact e1)|(apply zLO;exact e1;exact e1)|(apply zSR;exact e1)|(apply dr_gF;exact e1)|(apply dr_gU;exact e1)|(apply dr_q;exact q1)|(apply zCK;exact q1;exact og1)|(apply st_q;exact q1)|(apply zGu;exact e1;exact e2)|(apply zRs;exact e1;exact e2)|(apply zBi;exact e1;exact q1)|(apply zEm;exact e1)|(apply zSz;exact e1)|(apply zHL;exact e1)|(apply st_eU;exact e1)|(apply zEu;exact e1;exact g1;exact q2)|(apply st_sA;exact e1;exact g1;exact e2;exact e3)|(apply st_sO;exact e1;exact g1;exact e2;exact e3)|(apply zAK;exact e1)|(apply zAJ;exact e1)
 refine zAc (by exact s1) ((Meet' H HS HA g g M1.out.1 G.wf ⟨nv,rfl,hN.mono G⟩ ⟨nv,rfl,hN.mono G⟩).mono ?_)
 rintro _ h10 ⟨g10,uv,code,rfl,hc⟩
 obtain ⟨m,rfl,hm,own⟩:∃m,code=0/\MR g g m/\OwnG h10 h9.next uv m:=by
  rcases hc with ⟨rfl,m,hm,own⟩|⟨_,_,k⟩
  ·exact ⟨m,rfl,hm,own⟩
  ·exact absurd M1.out.2.1 (k F.out.c F.out.c).2
 obtain ⟨nm,rfl,Nm,om⟩:=zFR own.graph
 have hM:=Hid.mk (M1.out.2.2 m hm)
 replace o2:=g10.keep _ _ o2
 replace G:=G.trans g10
 clear hc own hm g10 M1
 repeat with_reducible first|refine zAA ?_|refine zAd ?_|refine zBk ?_|refine zAN ?_|refine zBQ ?_|refine zBj ?_|refine zNc ?_ rfl|refine zAC ?_|refine zAE ?_|refine zAD ?_|refine zAM ?_|refine zKU ?_|refine zAS ?_|refine zCJ ?_|refine zAQ ?_|refine zBU ?_|refine zAx ?_|(apply zIQ;exact e1;exact e1)|(apply zLO;exact e1;exact e1)|(apply zSR;exact e1)|(apply dr_gF;exact e1)|(apply dr_gU;exact e1)|(apply dr_q;exact q1)|(apply zCK;exact q1;exact og1)|(apply st_q;exact q1)|(apply zGu;exact e1;exact e2)|(apply zRs;exact e1;exact e2)|(apply zBi;exact e1;exact q1)|(apply zEm;exact e1)|(apply zSz;exact e1)|(apply zHL;exact e1)|(apply st_eU;exact e1)|(apply zEu;exact e1;exact g1;exact q2)|(apply st_sA;exact e1;exact g1;exact e2;exact e3)|(apply st_sO;exact e1;exact g1;exact e2;exact e3)|(apply zAK;exact e1)|(apply zAJ;exact e1)
 refine zAb G.wf ?_
 rintro b14 h11 hb14 g11 o14
 refine zAG (v:=.agg [nm,.int .i64 m.root]) (by exact e1) (by exact e1) (cs:=[nm,.int .i64 m.root]) rfl rfl g11.wf o14 (by simp) (by simp only [List.all_cons,List.all_nil,om,Bool.true_and,Bool.and_true];rfl) ?_
 rintro v12 h12 p12 o14'
 simp only [zlY,zlA,zlC,zlN,zlD,zlZ,zlE,Nat.zero_add,Nat.reduceAdd,zlX,zlK] at o14'
 have g12:Grow h10 h12:=p12.grow h10 G.wf g11 hb14
 have Nm':=Hid.mk (Nm.mono g12)
 replace o2:=g12.keep _ _ o2
 replace G:=G.trans g12
 clear o14 p12 g11 g12 hb14 Nm
 repeat with_reducible first|refine zAA ?_|refine zAd ?_|refine zBk ?_|refine zAN ?_|refine zBQ ?_|refine zBj ?_|refine zNc ?_ rfl|refine zAC ?_|refine zAE ?_|refine zAD ?_|refine zAM ?_|refine zKU ?_|refine zAS ?_|refine zCJ ?_|refine zAQ ?_|refine zBU ?_|refine zAx ?_|(apply zIQ;exact e1;exact e1)|(apply zLO;exact e1;exact e1)|(apply zSR;exact e1)|(apply dr_gF;exact e1)|(apply dr_gU;exact e1)|(apply dr_q;exact q1)|(apply zCK;exact q1;exact og1)|(apply st_q;exact q1)|(apply zGu;exact e1;exact e2)|(apply zRs;exact e1;exact e2)|(apply zBi;exact e1;exact q1)|(apply zEm;exact e1)|(apply zSz;exact e1)|(apply zHL;exact e1)|(apply st_eU;exact e1)|(apply zEu;exact e1;exact g1;exact q2)|(apply st_sA;exact e1;exact g1;exact e2;exact e3)|(apply st_sO;exact e1;exact g1;exact e2;exact e3)|(apply zAK;exact e1)|(apply zAJ;exact e1)
 refine st_q (v:=.agg [.int .i64 1,.str [],.slice none 0,.slice none 0,.bool false]) (b:=none) rfl ?_
 repeat with_reducible first|refine zAA ?_|refine zAd ?_|refine zBk ?_|refine zAN ?_|refine zBQ ?_|refine zBj ?_|refine zNc ?_ rfl|refine zAC ?_|refine zAE ?_|refine zAD ?_|refine zAM ?_|refine zKU ?_|refine zAS ?_|refine zCJ ?_|refine zAQ ?_|refine zBU ?_|refine zAx ?_|(apply zIQ;exact e1;exact e1)|(apply zLO;exact e1;exact e1)|(apply zSR;exact e1)|(apply dr_gF;exact e1)|(apply dr_gU;exact e1)|(apply dr_q;exact q1)|(apply zCK;exact q1;exact og1)|(apply st_q;exact q1)|(apply zGu;exact e1;exact e2)|(apply zRs;exact e1;exact e2)|(apply zBi;exact e1;exact q1)|(apply zEm;exact e1)|(apply zSz;exact e1)|(apply zHL;exact e1)|(apply st_eU;exact e1)|(apply zEu;exact e1;exact g1;exact q2)|(apply st_sA;exact e1;exact g1;exact e2;exact e3)|(apply st_sO;exact e1;exact g1;exact e2;exact e3)|(apply zAK;exact e1)|(apply zAJ;exact e1)
 refine zAn (v:=.agg [.int .i64 1,.str [],.slice none 0,.slice none 0,.bool false]) (cs:=[.int .i64 1,.str [],.slice none 0,.slice none 0,.bool false]) (by exact e1) rfl rfl rfl G.wf ?_
 rintro bx h13 hbx g13 ox
 have hV:Hid (NodesAt h13 (.slice (some (bx,0)) 1) gV.nodes):=⟨by
  refine ⟨[[.int .i64 1,.str [],.slice none 0,.slice none 0,.bool false]],⟨rfl,fun i x hx=>?_⟩,rfl,fun i n c hn hc=>?_⟩
  ·obtain rfl:i=0:=by have:=(zgS.1 hx).1;simp at this;omega
   simp only [zgZ,oI] at hx
   subst hx
   exact ⟨rfl,bx,0,bx,false,_,_,rfl,ox,rfl⟩
  ·obtain rfl:i=0:=by have:=(zgS.1 hc).1;simp at this;omega
   simp only [zgZ,oI,gV] at hn hc
   subst hn;subst hc
   exact ⟨.slice none 0,.slice none 0,rfl,⟨rfl,fun i x hx=>by simp at hx⟩,⟨rfl,fun i x hx=>by simp at hx⟩⟩⟩
 replace o2:=g13.keep _ _ o2
 replace o14':=g13.keep _ _ o14'
 replace Nm':=Hid.mk (Nm'.out.mono g13)
 replace G:=G.trans g13
 clear g13 ox
 repeat with_reducible first|refine zAA ?_|refine zAd ?_|refine zBk ?_|refine zAN ?_|refine zBQ ?_|refine zBj ?_|refine zNc ?_ rfl|refine zAC ?_|refine zAE ?_|refine zAD ?_|refine zAM ?_|refine zKU ?_|refine zAS ?_|refine zCJ ?_|refine zAQ ?_|refine zBU ?_|refine zAx ?_|(apply zIQ;exact e1;exact e1)|(apply zLO;exact e1;exact e1)|(apply zSR;exact e1)|(apply dr_gF;exact e1)|(apply dr_gU;exact e1)|(apply dr_q;exact q1)|(apply zCK;exact q1;exact og1)|(apply st_q;exact q1)|(apply zGu;exact e1;exact e2)|(apply zRs;exact e1;exact e2)|(apply zBi;exact e1;exact q1)|(apply zEm;exact e1)|(apply zSz;exact e1)|(apply zHL;exact e1)|(apply st_eU;exact e1)|(apply zEu;exact e1;exact g1;exact q2)|(apply st_sA;exact e1;exact g1;exact e2;exact e3)|(apply st_sO;exact e1;exact g1;exact e2;exact e3)|(apply zAK;exact e1)|(apply zAJ;exact e1)
 refine st_q (v:=.agg [.slice (some (bx,0)) 1,.int .i64 0]) (b:=none) (by rw [zBl];simp only [zCy,zBD,if_true,zAj];rfl) ?_
 repeat with_reducible first|refine zAA ?_|refine zAd ?_|refine zBk ?_|refine zAN ?_|refine zBQ ?_|refine zBj ?_|refine zNc ?_ rfl|refine zAC ?_|refine zAE ?_|refine zAD ?_|refine zAM ?_|refine zKU ?_|refine zAS ?_|refine zCJ ?_|refine zAQ ?_|refine zBU ?_|refine zAx ?_|(apply zIQ;exact e1;exact e1)|(apply zLO;exact e1;exact e1)|(apply zSR;exact e1)|(apply dr_gF;exact e1)|(apply dr_gU;exact e1)|(apply dr_q;exact q1)|(apply zCK;exact q1;exact og1)|(apply st_q;exact q1)|(apply zGu;exact e1;exact e2)|(apply zRs;exact e1;exact e2)|(apply zBi;exact e1;exact q1)|(apply zEm;exact e1)|(apply zSz;exact e1)|(apply zHL;exact e1)|(apply st_eU;exact e1)|(apply zEu;exact e1;exact g1;exact q2)|(apply st_sA;exact e1;exact g1;exact e2;exact e3)|(apply st_sO;exact e1;exact g1;exact e2;exact e3)|(apply zAK;exact e1)|(apply zAJ;exact e1)
 refine zAc (vs:=[.agg [nv,.int .i64 g.root],.agg [.slice (some (bx,0)) 1,.int .i64 0]]) (by exact s1) ((Meet' H HS HA g gV M2.out.1 G.wf ⟨nv,rfl,hN.mono G⟩ ⟨_,rfl,hV.out⟩).mono ?_)
 rintro _ h14 ⟨g14,uv,code,rfl,hc⟩
 obtain ⟨q,rfl,hq,own⟩:∃m,code=0/\MR g gV m/\OwnG h14 h13.next uv m:=by
  rcases hc with ⟨rfl,m,hm,own⟩|⟨_,_,k⟩
  ·exact ⟨m,rfl,hm,own⟩
  ·exact absurd M2.out.2.1 (k F.out.c zRE).2
 obtain ⟨nq,rfl,Nq,oq⟩:=zFR own.graph
 have hQ:=Hid.mk (M2.out.2.2 q hq)
 replace o2:=g14.keep _ _ o2
 replace o14':=g14.keep _ _ o14'
 replace Nm':=Hid.mk (Nm'.out.mono g14)
 replace G:=G.trans g14
 clear hc own hq g14 M2 hV
 repeat with_reducible first|refine zAA ?_|refine zAd ?_|refine zBk ?_|refine zAN ?_|refine zBQ ?_|refine zBj ?_|refine zNc ?_ rfl|refine zAC ?_|refine zAE ?_|refine zAD ?_|refine zAM ?_|refine zKU ?_|refine zAS ?_|refine zCJ ?_|refine zAQ ?_|refine zBU ?_|refine zAx ?_|(apply zIQ;exact e1;exact e1)|(apply zLO;exact e1;exact e1)|(apply zSR;exact e1)|(apply dr_gF;exact e1)|(apply dr_gU;exact e1)|(apply dr_q;exact q1)|(apply zCK;exact q1;exact og1)|(apply st_q;exact q1)|(apply zGu;exact e1;exact e2)|(apply zRs;exact e1;exact e2)|(apply zBi;exact e1;exact q1)|(apply zEm;exact e1)|(apply zSz;exact e1)|(apply zHL;exact e1)|(apply st_eU;exact e1)|(apply zEu;exact e1;exact g1;exact q2)|(apply st_sA;exact e1;exact g1;exact e2;exact e3)|(apply st_sO;exact e1;exact g1;exact e2;exact e3)|(apply zAK;exact e1)|(apply zAJ;exact e1)
 refine zAb G.wf ?_
 rintro b16 h15 hb16 g15 o16
 refine zAG (v:=.agg [nq,.int .i64 q.root]) (by exact e1) (by exact e1) (cs:=[nq,.int .i64 q.root]) rfl rfl g15.wf o16 (by simp) (by simp only [List.all_cons,List.all_nil,oq,Bool.true_and,Bool.and_true];rfl) ?_
 rintro v16 h16 p16 o16'
 simp only [zlY,zlA,zlC,zlN,zlD,zlZ,zlE,Nat.zero_add,Nat.reduceAdd,zlX,zlK] at o16'
 have g16:Grow h14 h16:=p16.grow h14 G.wf g15 hb16
 have Nq':=Hid.mk (Nq.mono g16)
 replace Nm':=Hid.mk (Nm'.out.mono g16)
 replace o2:=g16.keep _ _ o2
 replace o14':=g16.keep _ _ o14'
 replace G:=G.trans g16
 clear o16 p16 g15 g16 hb16 Nq
 have hpm:zBG (some 2) [nm,.int .i64 m.root] 0=some (.agg [nm,.int .i64 m.root]):=rfl
 have hpq:zBG (some 2) [nq,.int .i64 q.root] 0=some (.agg [nq,.int .i64 q.root]):=rfl
 have h0e:((0:Int)==0)=true:=rfl
 repeat with_reducible first|refine zAA ?_|refine zAd ?_|refine zBk ?_|refine zAN ?_|refine zBQ ?_|refine zBj ?_|refine zNc ?_ rfl|refine zAC ?_|refine zAE ?_|refine zAD ?_|refine zAM ?_|refine zKU ?_|refine zAS ?_|refine zCJ ?_|refine zAQ ?_|refine zBU ?_|refine zAx ?_|(apply zIQ;exact e1;exact e1)|(apply zLO;exact e1;exact e1)|(apply zSR;exact e1)|(apply dr_gF;exact e1)|(apply dr_gU;exact e1)|(apply dr_q;exact q1)|(apply zCK;exact q1;exact og1)|(apply st_q;exact q1)|(apply zGu;exact e1;exact e2)|(apply zRs;exact e1;exact e2)|(apply zBi;exact e1;exact q1)|(apply zEm;exact e1)|(apply zSz;exact e1)|(apply zHL;exact e1)|(apply st_eU;exact e1)|(apply zEu;exact e1;exact g1;exact q2)|(apply st_sA;exact e1;exact g1;exact e2;exact e3)|(apply st_sO;exact e1;exact g1;exact e2;exact e3)|(apply zAK;exact e1)|(apply zAJ;exact e1)
 refine zBu (by exact e1) (by exact s1) ((Same_ok H m g hM.out.1 T.out.1 _ _ h16 G.wf ⟨nm,rfl,Nm'.out⟩ ⟨nv,rfl,hN.mono G⟩).mono ?_)
 rintro _ h17 ⟨rfl,g17⟩
 rw [hM.out.2]
 replace o2:=g17.keep _ _ o2
 replace o16':=g17.keep _ _ o16'
 replace Nq':=Hid.mk (Nq'.out.mono g17)
 replace G:=G.trans g17
 clear g17 Nm' o14'
 repeat with_reducible first|refine zAA ?_|refine zAd ?_|refine zBk ?_|refine zAN ?_|refine zBQ ?_|refine zBj ?_|refine zNc ?_ rfl|refine zAC ?_|refine zAE ?_|refine zAD ?_|refine zAM ?_|refine zKU ?_|refine zAS ?_|refine zCJ ?_|refine zAQ ?_|refine zBU ?_|refine zAx ?_|(apply zIQ;exact e1;exact e1)|(apply zLO;exact e1;exact e1)|(apply zSR;exact e1)|(apply dr_gF;exact e1)|(apply dr_gU;exact e1)|(apply dr_q;exact q1)|(apply zCK;exact q1;exact og1)|(apply st_q;exact q1)|(apply zGu;exact e1;exact e2)|(apply zRs;exact e1;exact e2)|(apply zBi;exact e1;exact q1)|(apply zEm;exact e1)|(apply zSz;exact e1)|(apply zHL;exact e1)|(apply st_eU;exact e1)|(apply zEu;exact e1;exact g1;exact q2)|(apply st_sA;exact e1;exact g1;exact e2;exact e3)|(apply st_sO;exact e1;exact g1;exact e2;exact e3)|(apply zAK;exact e1)|(apply zAJ;exact e1)
 refine zBu (by exact e1) (by exact s1) ((Same_ok H q g hQ.out.1 T.out.1 _ _ h17 G.wf ⟨nq,rfl,Nq'.out⟩ ⟨nv,rfl,hN.mono G⟩).mono ?_)
 rintro _ h18 ⟨rfl,g18⟩
 rw [hQ.out.2]
 replace G:=G.trans g18
 clear g18 o2 o16' Nq'
 repeat' with_reducible first|refine zAA ?_|refine zAd ?_|refine zBk ?_|refine zAN ?_|refine zBQ ?_|refine zBj ?_|refine zNc ?_ rfl|refine zAC ?_|refine zAE ?_|refine zAD ?_|refine zAM ?_|refine zKU ?_|refine zAS ?_|refine zCJ ?_|refine zAQ ?_|refine zBU ?_|refine zAx ?_|(apply zIQ;exact e1;exact e1)|(apply zLO;exact e1;exact e1)|(apply zSR;exact e1)|(apply dr_gF;exact e1)|(apply dr_gU;exact e1)|(apply dr_q;exact q1)|(apply zCK;exact q1;exact og1)|(apply st_q;exact q1)|(apply zGu;exact e1;exact e2)|(apply zRs;exact e1;exact e2)|(apply zBi;exact e1;exact q1)|(apply zEm;exact e1)|(apply zSz;exact e1)|(apply zHL;exact e1)|(apply st_eU;exact e1)|(apply zEu;exact e1;exact g1;exact q2)|(apply st_sA;exact e1;exact g1;exact e2;exact e3)|(apply st_sO;exact e1;exact g1;exact e2;exact e3)|(apply zAK;exact e1)|(apply zAJ;exact e1)|(apply zAI;exact n1;exact r1)|(apply zJR;exact e1;all_goals intro _)
 exact ⟨rfl,G⟩
end
end Go.Ab.S
end
