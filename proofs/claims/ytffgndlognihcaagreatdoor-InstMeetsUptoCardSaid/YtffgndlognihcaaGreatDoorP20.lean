import Derived.Test.YtffgndlognihcaaGreatDoorP11
import Derived.Test.YtffgndlognihcaaGreatDoorP14
import Derived.Test.YtffgndlognihcaaGreatDoorP15
import Derived.Test.YtffgndlognihcaaGreatDoorP16
import Derived.Test.YtffgndlognihcaaGreatDoorP18
import Derived.Test.YtffgndlognihcaaGreatDoorP19
/-
  Part 20 of the proof.
-/
set_option linter.all false
section
namespace Go.Ab.S
open Go Go.Ab
set_option maxHeartbeats 8000000
structure HasAs(summ:SumT):Prop where
 no:∀x h,summ 50 [.nilIface,x] h=some (.ret (.bool false,h))
 yes:∀r h bw vw,WF h->ErrAt h r->h.objs.get bw=some (vw,.cells false 99 [.ptr none])->∃p,summ 50 [r,.iface 104 (.ptr (some (bw,0)))] h=some (.ret (.bool true,zAT h bw (.cells false 99 [.ptr p])))
def PrsAt(h:AHeap)(v:AVal)(ps:List Pr):Prop:=SlAt h 2 v (ps.map zBQ)
theorem PrsAt.at{h:AHeap}{v:AVal}{ps:List Pr}(k:PrsAt h v ps){i:Nat}{p:Pr}(hc:ps[i]?=some p):
  ∃b o ver ro e vs,slA v 2 i=some (b,o)/\h.objs.get b=some (ver,.cells ro e vs)/\(vs.drop o).take 2=zBQ p:=by
 obtain⟨_,b,o,ver,ro,e,vs,h1,h2,h3⟩:=k.2 i (zBQ p) (by rw[List.getElem?_map,hc];rfl)
 exact⟨b,o,ver,ro,e,vs,h1,h2,h3⟩
def zEm(g:Graph)(p:Pr):Bool:=decide (0<=p.1/\0<=p.2/\p.1<g.nodes.length/\p.2<g.nodes.length)
section
variable{fns:FnsT}{summ:SumT}
variable(H:Has fns summ)
include H
theorem ClonePr_ok(l:List Pr)(hl:l.length<=2 ^ 20)(v:AVal)(h:AHeap)(hw:WF h)(hv:PrsAt h v l):Cl fns summ 49 [v] h fun r h'=>Built h' h.next 74 2 r l.reverse.length (rowC l.reverse)/\Grow h h':=by
 have hrow:rowC l.reverse=(l.map zBQ).flatten:=by rw[rowC,List.reverse_reverse]
 rw[hrow,List.length_reverse]
 clear hrow
 refine H.go (fn:=F_ClonePr) rfl (by decide) rfl rfl ?_
 unfold F_ClonePr
 dsimp only[qQ,qE,tm,mt,jR,jS,jC]
 by_cases hnil:v=.slice none (l.map zBQ).length
 ·have hl0:l=[]:=by
   cases l with
   |nil=>rfl
   |cons a r=>
    obtain⟨_,b,o,ver,ro,e,vs,h1,_⟩:=hv.2 0 (zBQ a) rfl
    rw[hnil] at h1;cases h1
  subst hl0
  subst hnil
  repeat' first|refine zG ?_|(with_reducible apply zAD;exact e1;all_goals intro _)
  exact⟨.inl ⟨rfl,rfl,rfl⟩,Grow.refl hw⟩
 ·have heq:eqA .slice v (.slice none 0)=some false:=by
   rcases zGk hv.1 with h1|⟨b,o,rfl⟩|⟨rfl,_⟩|⟨rfl,_⟩
   ·exact absurd h1 hnil
   ·rfl
   ·rfl
   ·rfl
  have hroom:=zCO H (b:=16) (k:=l.length) (by decide) (by omega)
  repeat refine zR ?_
  refine st_q (v:=.bool false) (b:=none) (by simp only[zDO,zAz,zBe,zBM,Nat.reduceEqDiff,if_true,if_false,heq];rfl) ?_
  repeat refine zR ?_
  refine st_T (by exact tE) (by exact t1) ?_
  repeat refine zR ?_
  refine zFs e1 e1 hv (by decide) (.inl hnil) (by rw[List.all_flatten,List.all_eq_true];intro x hx;obtain⟨p,_,rfl⟩:=List.mem_map.1 hx;rfl) (by simpa using hroom) hw ?_
  intro r h' B g
  rw[List.length_map] at B
  repeat' first|refine zG ?_|(with_reducible apply zAD;exact e1;all_goals intro _)
  exact⟨B,g⟩
end
section
variable{fns:FnsT}{summ:SumT}
variable(H:Has fns summ)(HS:HasSort summ)(HA:HasAs summ)
include H HS HA
theorem Unify_ok(g:Graph)(hg:GTi g)(ps:List Pr)(hps:ps.length<=2 ^ 20)(hL:zAY [] g.nodes 0<=2 ^ 20)(hsm:(g.nodes.length+1)*(zAY [] g.nodes 0+1)+ps.length<=2 ^ 30){gv pv:AVal}{h0:AHeap}(w0:WF h0)(hv:GraphAt h0 gv g)(hpv:PrsAt h0 pv ps):
  Cl fns summ 34 [gv,pv] h0 fun r h'=>Grow h0 h'/\∃uv rv code,r=.tuple [uv,rv,.int .i64 code]/\(code≠0->uv=.agg [.slice none 0,.int .i64 0]/\rv=.slice none 0)/\((code=zAB g/\code≠0)\/(zAB g=0/\code=2/\∃p∈ps,zEm g p=false)\/(zAB g=0/\code=8/\(∀p∈ps,zEm g p=true)/\¬Consi g ps)\/(zAB g=0/\code=0/\(∀p∈ps,zEm g p=true)/\∃U R,UOut g ps U R/\OwnG h' h0.next uv U/\Built h' h0.next 3 1 rv R.length (R.map (AVal.int .i64)))):=by
 obtain⟨nv,rfl,hN⟩:=hv
 have hlen:=hN.len
 have hlp:=hpv.1
 rw[List.length_map] at hlp
 have hpart:zAl (some 2) [nv,.int .i64 g.root] 0=some (.agg [nv,.int .i64 g.root]):=rfl
 refine H.go (fn:=F_SUnify) rfl (by decide) rfl rfl ?_
 unfold F_SUnify
 dsimp only[qQ,qE,qN,gQ,vi,tm,mt,lo,fa,jk,jv,jl,js,ji,je,jc,jd,jx,jo,jt,jG,jN,jR,jS,jC,jL]
 refine zAv (zBC ?_)
 refine zAm e1 cc w0 ?_
 rintro b2 h2 hb2 g2 o2
 refine zAS g2.wf ?_
 rintro b4 h4 hb4 g4 o4
 replace o2:=g4.keep _ _ o2
 have g04:=g2.trans g4
 have n2:=g2.next
 repeat refine zR ?_
 refine zAJ s1 ((Check_ok H g hg.toGraphSm _ h4 g4.wf ⟨nv,rfl,hN.mono g04⟩).mono ?_)
 rintro _ h5 ⟨rfl,g5⟩
 replace o2:=g5.keep _ _ o2
 replace o4:=g5.keep _ _ o4
 have g05:=g04.trans g5
 cases hck:(zAB g != 0)
 ·have hcg:zAB g=0:=by simpa using hck
  replace hcg:=Hid.mk hcg
  repeat refine zR ?_
  have ht2:∀x y:AVal,List.take 2 [x,y]=[x,y]:=fun _ _=>rfl
  refine zBR (N:=ps.length) (fun j a hp=>Grow h0 hp/\(∃v,hp.objs.get b2=some (v,.cells false 24 [nv,.int .i64 g.root]))/\(∃v,hp.objs.get b4=some (v,.cells false 24 [.slice none 0,.int .i64 0]))/\Hid (∀p∈ps.take j,zEm g p=true)/\a.defers=[]/\ev a (.tmp 1)=some pv/\ev a (.tmp 2)=some (.ptr (some (b2,0)))/\ev a (.tmp 4)=some (.ptr (some (b4,0)))/\ev a (.tmp 26)=some pv) ?_ ?_ ⟨g05,⟨_,o2⟩,⟨_,o4⟩,⟨fun p hp=>by simp at hp⟩,n1,e1,e1,e1,e1⟩
  ·clear o2 o4 g2 g4 g5 g04 g05
   rintro j a hp hj ⟨G,⟨v2,o2⟩,⟨v4,o4⟩,hok,hd,t1',t2',t4',t26'⟩ hi hn
   obtain⟨bp,op,vp,rp,ep,vsp,hix,hgp0,hvp⟩:=hpv.at (List.getElem?_eq_getElem hj)
   have hgp:=G.keep _ _ hgp0
   have hl2:op+2<=vsp.length:=by
    have:=congrArg List.length hvp
    simp[zBQ] at this;omega
   have hpc:zBQ ps[j]=[.int .i64 ps[j].1,.int .i64 ps[j].2]:=rfl
   rw[hpc] at hvp
   have hb42:h0.next<=b4:=by have:=hb4;have:=n2;omega
   have hrng:decide ((if ps[j].2<ps[j].1 then ps[j].2 else ps[j].1)<0)=false->decide ((if ps[j].2>ps[j].1 then ps[j].2 else ps[j].1)>=Int.ofNat g.nodes.length)=false->zEm g ps[j]=true:=fun h1 h2=>by
    simp only[decide_eq_false_iff_not,Int.ofNat_eq_natCast] at h1 h2
    simp only[zEm,decide_eq_true_eq]
    split at h1<;>split at h2<;>omega
   have hbad1:decide ((if ps[j].2<ps[j].1 then ps[j].2 else ps[j].1)<0)=true->zEm g ps[j]=false:=fun h1=>by
    simp only[decide_eq_true_eq] at h1
    simp only[zEm,decide_eq_false_iff_not]
    split at h1<;>omega
   have hbad2:decide ((if ps[j].2>ps[j].1 then ps[j].2 else ps[j].1)>=Int.ofNat g.nodes.length)=true->zEm g ps[j]=false:=fun h1=>by
    simp only[decide_eq_true_eq,Int.ofNat_eq_natCast] at h1
    simp only[zEm,decide_eq_false_iff_not]
    split at h1<;>omega
   replace hrng:=Hid.mk hrng
   replace hbad1:=Hid.mk hbad1
   replace hbad2:=Hid.mk hbad2
   repeat refine zR ?_
   refine zAS G.wf ?_
   rintro b9 h6 hb9 g6 o9
   refine zAE e1 e1 cc rfl g6.wf o9 (by simp) rfl ?_
   rintro v7 h7 p7 o9'
   simp only[lL,Nat.reduceAdd] at o9'
   have g7:Grow hp h7:=p7.grow hp G.wf g6 hb9
   have o27:=g7.keep _ _ o2
   have o47:=g7.keep _ _ o4
   have G7:=G.trans g7
   clear o9 g6 p7 hgp hix hgp0 hvp o2 o4
   repeat refine zR ?_
   refine st_q (v:=.ptr (some (b9,0))) (b:=none) (by rw[zBF];simp only[zAz,zBG,zBM,Nat.reduceEqDiff,if_true,if_false];rfl) ?_
   repeat refine zR ?_
   refine st_q (v:=.ptr (some (b9,1))) (b:=none) (by rw[zBF];simp only[zAz,zBG,zBM,Nat.reduceEqDiff,if_true,if_false];rfl) ?_
   repeat refine zR ?_
   cases hz:decide ((if ps[j].2<ps[j].1 then ps[j].2 else ps[j].1)<0)
   ·have hz':=Hid.mk hz
    clear hz
    refine zLX e1 (v:=.ptr (some (b9,0))) (b:=none) (by rw[zBF];simp only[zAz,zBG,zBM,Nat.reduceEqDiff,if_true,if_false];rfl) ?_
    repeat refine zR ?_
    refine zLX e1 (v:=.ptr (some (b9,1))) (b:=none) (by rw[zBF];simp only[zAz,zBG,zBM,Nat.reduceEqDiff,if_true,if_false];rfl) ?_
    repeat refine zR ?_
    cases hy:decide ((if ps[j].2>ps[j].1 then ps[j].2 else ps[j].1)>=Int.ofNat g.nodes.length)
    ·have hok':Hid (∀p∈ps.take (j+1),zEm g p=true):=⟨fun p hp=>by
      rw[List.take_succ_eq_append_getElem hj] at hp
      rcases List.mem_append.1 hp with hp|hp
      ·exact hok.out p hp
      ·rw[List.mem_singleton.1 hp]
       exact(hrng.out hz'.out hy)⟩
     clear hy
     repeat refine zR ?_
     exact⟨⟨G7,⟨_,o27⟩,⟨_,o47⟩,hok',n1,e1,e1,e1,e1⟩,e1,e1⟩
    ·have hbad:Hid (∃p∈ps,zEm g p=false):=⟨_,List.getElem_mem hj,hbad2.out hy⟩
     clear hy
     repeat refine zR ?_
     refine zAE e1 e1 cc rfl G7.wf o47 (by simp) rfl ?_
     rintro v8 h8 p8 o8
     simp only[lL,Nat.reduceAdd] at o8
     have g8:=p8.grow h0 w0 G7 (by omega)
     clear o27 o47 p8
     repeat' first|refine zG ?_|(with_reducible apply zAD;exact e1;all_goals intro _)
     exact⟨g8,_,_,2,rfl,fun _=>⟨rfl,rfl⟩,.inr (.inl ⟨hcg.out,rfl,hbad.out⟩)⟩
   ·have hbad:Hid (∃p∈ps,zEm g p=false):=⟨_,List.getElem_mem hj,hbad1.out hz⟩
    clear hz
    repeat refine zR ?_
    refine zAE e1 e1 cc rfl G7.wf o47 (by simp) rfl ?_
    rintro v8 h8 p8 o8
    simp only[lL,Nat.reduceAdd] at o8
    have g8:=p8.grow h0 w0 G7 (by omega)
    clear o27 o47 p8
    repeat' first|refine zG ?_|(with_reducible apply zAD;exact e1;all_goals intro _)
    exact⟨g8,_,_,2,rfl,fun _=>⟨rfl,rfl⟩,.inr (.inl ⟨hcg.out,rfl,hbad.out⟩)⟩
  ·clear o2 o4 g2 g4 g5
   rintro a hp ⟨G,⟨v2,o2⟩,⟨v4,o4⟩,hok,hd,t1',t2',t4',t26'⟩
   rw[List.take_length] at hok
   have o2p:=Hid.mk o2
   have o4p:=Hid.mk o4
   refine zAf ?_
   repeat refine zR ?_
   refine zAJ s1 ((start_ok H g hg hcg.out _ hp G.wf ⟨nv,rfl,hN.mono G⟩).mono ?_)
   rintro _ h6 ⟨bs,rfl,SI⟩
   have k2:=SI.grow.keep _ _ o2
   have k4:=SI.grow.keep _ _ o4
   have g6:=SI.grow
   clear o2 o4
   repeat refine zR ?_
   refine zAS g6.wf ?_
   rintro b10 h7 hb10 g7 o10
   refine zAE e1 e1 cc rfl g7.wf o10 (by simp) rfl ?_
   rintro v8 h8 p8 o10'
   simp only[lL,Nat.reduceAdd] at o10'
   have g68:Grow h6 h8:=p8.grow h6 g6.wf g7 hb10
   have k28:=g68.keep _ _ k2
   have k48:=g68.keep _ _ k4
   have hnN:0<g.nodes.length:=by
    have h1:=(zAQ hcg.out).1
    have h2:=(zAQ hcg.out).2.1
    omega
   obtain⟨bo,br,bh,hc,SX0⟩:=SI.sx hnN
   have SX8:=SX0.other g68
   have lows:=SX0.low
   have lts:=SX0.lt
   clear SI SX0 k2 k4 o10 p8 g7
   repeat refine zR ?_
   refine zAk (zAJ s1 ((ClonePr_ok H ps hps pv h8 g68.wf (hpv.mono (G.trans (g6.trans g68)))).mono ?_))
   rintro rv h9 ⟨Bps,g9⟩
   have o109:=g9.keep _ _ o10'
   refine zAN ⟨by simp[zAM,Nat.testBit,o109],?_⟩
   have S9:=SX8.other g9
   obtain⟨vs9,os9⟩:=S9.s
   have rlen:=Bps.len
   have n6:=g6.next
   have n8:=g68.next
   have B9:=zAn Bps (b':=hp.next) (by omega)
   have k29:=g9.keep _ _ k28
   have k49:=g9.keep _ _ k48
   have w9:=g9.wf
   have lk2:=G.wf.lt o2p.out
   clear k28 k48 o10' Bps SX8
   repeat refine zR ?_
   refine zAk (zAE e1 e1 (zAP rlen) rfl w9 os9 (by simp) (by simp only[List.all_cons,List.all_nil,zAH rlen,Bool.and_true]) ?_)
   rintro v10 h10 p10 o11
   refine zAN ⟨by simp[zAM,Nat.testBit],?_⟩
   simp only[lL,Nat.reduceAdd] at o11
   have S10:=S9.pop G.wf p10 o11 (zAK B9 p10 os9 (fun vs hh=>by cases hh))
   have lk4:=G.wf.lt (show hp.objs.get b4=_ from o4p.out)
   have o1010:=p10.keep b10 (by omega) _ o109
   have k210:=p10.keep b2 (by omega) _ k29
   have k410:=p10.keep b4 (by omega) _ k49
   have w10:=p10.wf w9
   have n9:=g9.next
   have n10:=p10.next
   clear o109 k29 k49 os9 S9 o11 p10 B9 g9 g68
   repeat refine zR ?_
   refine zAS w10 ?_
   rintro b11 h11 hb11 g11 o11
   have o1011:=g11.keep _ _ o1010
   have k211:=g11.keep _ _ k210
   have k411:=g11.keep _ _ k410
   have hInG:∀p∈ps,InG g p.1/\InG g p.2:=fun p hp=>by
    have:=hok.out p hp
    simp only[zEm,decide_eq_true_eq] at this
    exact⟨⟨this.1,this.2.2.1⟩,this.2.1,this.2.2.2⟩
   have U0:Sol g ps hp bs bo br bh (zFy g.nodes.length) (List.replicate g.nodes.length 0) id (fun r=>zFg (zAA g r)) ps.reverse 0 rv hc h11:=
    ⟨S10.other g11,UF.start _,(UInv.start hcg.out hInG).perm fun p=>List.mem_reverse,by rw[Nat.zero_add];exact zHz _⟩
   have hrun:=Hid.mk (run_ok H g ps hcg.out G.wf U0 (by
    rw[List.length_reverse]
    have h1:=Nat.mul_le_mul_right (zAY [] g.nodes 0+1) (zHz g.nodes.length)
    rw[Nat.succ_mul] at hsm
    omega))
   have n11:=g11.next
   clear U0 S10 hInG o1010 k210 k410 g11
   repeat refine zR ?_
   refine zAJ s1 (hrun.out.mono ?_)
   rintro r h12 ⟨G12,ky12,hres⟩
   have k1012:=ky12 _ _ _ _ _ (by decide) o1011
   have k212:=ky12 _ _ _ _ _ (by decide) k211
   have k412:=ky12 _ _ _ _ _ (by decide) k411
   have k1112:=ky12 _ _ _ _ _ (by decide) o11
   have G012:=G.trans G12
   replace hres:=Hid.mk hres
   clear ky12 o1011 k211 k411 o11 hrun
   repeat refine zR ?_
   have lt12:=G12.next
   rcases hres.out with⟨rfl,on,rk,rt,has,K,wv,hc',SO⟩|⟨hE,hnc⟩
   ·have hno:=HA.no (.iface 104 (.ptr (some (b11,0)))) h12
    have SO':=Hid.mk SO
    have k1012p:=Hid.mk k1012
    have k212p:=Hid.mk k212
    have k412p:=Hid.mk k412
    clear SO hres k1112
    refine zAJ s1 (zCH hno ?_)
    rw[D.sat_ret]
    dsimp only
    clear hno
    repeat refine zR ?_
    refine zDD (.inl rfl) G012.wf ?_
    rintro rm h13 hrm g13 om
    refine zAS g13.wf ?_
    rintro b12 h14 hb12 g14 o12
    refine zAE e1 e1 cc rfl g14.wf o12 (by simp) rfl ?_
    rintro v15 h15 p15 o15
    simp only[lL,Nat.reduceAdd] at o15
    have g15:Grow h13 h15:=p15.grow h13 g13.wf g14 hb12
    have g125:=g13.trans g15
    have om15:=g15.keep _ _ om
    have k1015:=g125.keep _ _ k1012
    have k215:=g125.keep _ _ k212
    have k415:=g125.keep _ _ k412
    have S15:=Hid.mk (SO'.out.sx.other g125)
    have G15:=G012.trans g125
    have lrm:=g15.wf.lt om15
    have g125n:=g125.next
    have lrm13:=g13.wf.lt om
    have hNt:g.nodes.length<=4096:=hg.tinyN
    clear o12 p15 om g13 g14 g15 k1012 k212 k412
    repeat refine zR ?_
    have hro15:=S15.out.on
    have hbne:=S15.out.bne
    have K15:Hid (KM bo rm g.nodes.length K rk rt h15 h15):=⟨KM.refl G15.wf hro15 SO'.out.uf⟩
    obtain⟨vs15,os15⟩:=S15.out.s
    have lts15:=SO'.out.sx.lt
    have l10:=G012.wf.lt (show h12.objs.get b10=_ from k1012p.out)
    have l2:=G012.wf.lt (show h12.objs.get b2=_ from k212p.out)
    have l4:=G012.wf.lt (show h12.objs.get b4=_ from k412p.out)
    have hnrm:bo≠rm:=by omega
    have k1015h:=Hid.mk k1015
    have o15h:=Hid.mk o15
    have os15h:=Hid.mk os15
    have k215h:=Hid.mk k215
    have k415h:=Hid.mk k415
    have om15h:=Hid.mk om15
    clear k1015 o15 os15 k415 hro15 om15 k1012p k212p k412p
    refine zBR (N:=g.nodes.length) (fun j a hq=>Hid (KM bo rm g.nodes.length K rk rt h15 hq)/\(∃vm es c l,Hid (hq.objs.get rm=some (vm,.map es c)/\FA es l/\LE l rt j))/\a.defers=[]/\ev a (.tmp 2)=some (.ptr (some (b2,0)))/\ev a (.tmp 4)=some (.ptr (some (b4,0)))/\ev a (.tmp 10)=some (.ptr (some (b10,0)))/\ev a (.tmp 12)=some (.ptr (some (b12,0)))) ?_ ?_ ⟨K15,⟨_,_,_,[],⟨om15h.out,FA.zero,LE.zero rt⟩⟩,n1,e1,e1,e1,e1⟩
    ·clear K15
     rintro j a hq hj ⟨Kj,⟨vm,es,c,l,hfl⟩,hd,t2',t4',t10',t12'⟩ hi hn
     have k12:=Kj.out.keep b12 _ (by omega) (by omega) o15h.out
     have k10:=Kj.out.keep b10 _ (by omega) (by omega) k1015h.out
     have ks:=Kj.out.keep bs _ hbne.1 (by omega) os15h.out
     obtain⟨on1,ho,u⟩:=Kj.out.row
     have hfind:=Hid.mk (zGZ H u hj hbne.1 hq Kj.out.wf ks ho)
     clear ho u ks
     repeat refine zR ?_
     refine zAk (zAJ s1 (hfind.out.mono ?_))
     rintro _ hr ⟨rfl,B,on',ho',u'⟩
     have k12r:=B.keep b12 (by omega) _ k12
     have k10r:=B.keep b10 (by omega) _ k10
     have oqr:=B.keep rm (Ne.symm hnrm) _ hfl.out.1
     refine zAN ⟨by simp[zAM,Nat.testBit,k12r,k10r],?_⟩
     have Kr:=Hid.mk (Kj.out.find B ho' u')
     obtain⟨x,hlk,hmem⟩:=FA.look oqr hfl.out.2.1 (rt (j:Int))
     replace hmem:=Hid.mk hmem
     clear B ho' u' hfind k12 k10
     have oqrh:=Hid.mk oqr
     cases hz:l.any fun q=>q.1==rt (j:Int)
     ·have hnone:Hid (∀q∈l,q.1≠rt (j:Int)):=⟨fun q hq he=>by
       have:=List.any_eq_false.1 hz q hq
       simp[he] at this⟩
      rw[hz] at hlk
      clear hz hmem
      repeat refine zR ?_
      obtain⟨on2,ho2,u2⟩:=Kr.out.row
      have ks2:=Kr.out.keep bs _ hbne.1 (by omega) os15h.out
      have hfind2:=Hid.mk (zGZ H u2 hj hbne.1 hr Kr.out.wf ks2 ho2)
      clear ho2 u2 ks2 oqr hlk
      refine zAk (zAJ s1 (hfind2.out.mono ?_))
      rintro _ hs ⟨rfl,B,on',ho',u'⟩
      have k12s:=B.keep b12 (by omega) _ k12r
      have k10s:=B.keep b10 (by omega) _ k10r
      have oqs:=B.keep rm (Ne.symm hnrm) _ oqrh.out
      refine zAN ⟨by simp[zAM,Nat.testBit,k12s,k10s],?_⟩
      have Ks:=Hid.mk (Kr.out.find B ho' u')
      have hfd:=Hid.mk (hfl.out.2.1.none (a:=rt (j:Int)) hnone.out)
      have wks:=Ks.out.wf
      clear B ho' u' hfind2 k12r k10r
      repeat refine zR ?_
      refine zAk (zFb e1 e1 e1 (by intro hh;cases hh) rfl wks oqs hfd.out ?_)
      rintro v6 h6' p6 o6
      have k126:=p6.keep b12 (by omega) _ k12s
      have k106:=p6.keep b10 (by omega) _ k10s
      refine zAN ⟨by simp[zAM,Nat.testBit,k126,k106],?_⟩
      have K6:=Hid.mk (Ks.out.put p6 hnrm)
      have hfl6:Hid (h6'.objs.get rm=some (v6,.map (es++[(.int .i64 (rt (j:Int)),.int .i64 ((j:Nat):Int),c)]) (c+1))/\FA (es++[(.int .i64 (rt (j:Int)),.int .i64 ((j:Nat):Int),c)]) (l++[(rt (j:Int),(j:Int))])/\LE (l++[(rt (j:Int),(j:Int))]) rt (j+1)):=⟨o6,FA.put (p:=(rt (j:Int),(j:Int))) hfl.out.2.1 hnone.out,hfl.out.2.2.put hnone.out⟩
      clear p6 o6 oqs k12s k10s
      repeat refine zR ?_
      exact⟨⟨K6,⟨_,_,_,_,hfl6⟩,n1,e1,e1,e1,e1⟩,e1,e1⟩
     ·have hsome:Hid (∃q∈l,q.1=rt (j:Int)):=⟨by
       obtain⟨q,h1,h2,_⟩:=hmem.out hz
       exact⟨q,h1,h2⟩⟩
      rw[hz] at hlk
      clear hz hmem
      repeat refine zR ?_
      exact⟨⟨Kr,⟨_,_,_,l,⟨oqrh.out,hfl.out.2.1,hfl.out.2.2.stay hsome.out⟩⟩,n1,e1,e1,e1,e1⟩,e1,e1⟩
    ·clear K15
     rintro a h16 ⟨K16,⟨vm,es,c,l,hfl⟩,hd,t2',t4',t10',t12'⟩
     have k12:=K16.out.keep b12 _ (by omega) (by omega) o15h.out
     have k10:=K16.out.keep b10 _ (by omega) (by omega) k1015h.out
     have k2:=K16.out.keep b2 _ (by omega) (by omega) k215h.out
     have k4:=K16.out.keep b4 _ (by omega) (by omega) k415h.out
     have ks:=K16.out.keep bs _ hbne.1 (by omega) os15h.out
     obtain⟨on1,ho,u⟩:=K16.out.row
     have w16:=K16.out.wf
     have LI:Hid (LeI h16 b12 b10 bs bo g.nodes.length l rt):=⟨⟨⟨_,_,rm,k12,vm,es,c,hfl.out.1,hfl.out.2.1⟩,⟨_,_,k10⟩,⟨_,_,_,ks⟩,by omega,by omega,hbne.1⟩⟩
     have L:=Hid.mk hfl.out.2.2
     have n1615:=K16.out.next
     have n1512:=g125n
     have hbo16:bo<h16.next:=by omega
     have hroA:∃v e vs,h16.objs.get bo=some (v,.cells false e vs):=by
      obtain⟨v,vs,o,_⟩:=ho
      exact⟨v,_,vs,o⟩
     have S16:Hid (∀i:Nat,i<g.nodes.length->rt (i:Int)=i->∃cl vb vs,hc'[i]?=some cl/\ClzAt hp h16 cl (has i)/\h16.objs.get bh=some (vb,.cells false 107 vs)/\g.nodes.length*5<=vs.length/\(vs.drop (i*5)).take 5=cl/\cl.length=5):=⟨fun i hi hr=>by
      obtain⟨cl,h1,h2⟩:=SO'.out.sx.cls i hi hr (fun h=>h)
      obtain⟨hkl,vb,vs,ob,hl5,hk5⟩:=S15.out.hs
      have hne:=S15.out.bne
      obtain⟨q1',q2'⟩:=hk5 i cl h1
      exact⟨cl,vb,vs,h1,h2.keep fun r p _ _ hp hn=>K16.out.keep r _ (by
       rintro rfl
       obtain⟨v,vs,o,_⟩:=SO'.out.sx.on
       rw[o] at hp;cases hp;exact hn _ _ _ rfl) (by
       have:=G012.wf.lt hp
       omega) (g125.keep _ _ hp),K16.out.keep bh _ (Ne.symm hne.2.2.2.1) (by omega) ob,hl5,zJk q1' q2',q1'⟩⟩
     have G16:=Hid.mk (K16.out.grow w0 G15 (by have:=S15.out.low;have:=G.next;omega) (by omega))
     have ask:=Hid.mk (KM.ask (K:=K) (rk:=rk) H w16 LI.out L.out hbo16 hroA)
     have K17:Hid (KM bo bo g.nodes.length K rk rt h16 h16):=⟨KM.refl w16 ho u⟩
     have k1016:=Hid.mk k10
     have ks16:=Hid.mk ks
     have k416:=Hid.mk k4
     have k216:=Hid.mk k2
     have hroA':=Hid.mk hroA
     clear ho u ks k12 k10 hfl hroA k4
     refine zAf ?_
     repeat refine zR ?_
     have hgr:=zAQ hcg.out
     have hrt:=Hid.mk (ask.out.call g.root ⟨hgr.1,hgr.2.1⟩ h16 w16 K17.out)
     clear hgr
     refine zHN e1 s1 (hrt.out.mono ?_)
     rintro _ h17 ⟨rfl,B17,K17'⟩
     have w17:=K17'.wf
     have k217:=B17.keep b2 (by omega) _ k2
     have n17:=B17.next
     generalize hrv:lsP l (rt g.root)=rootv at*
     clear k2 hrt K17 B17
     refine st_q (v:=.agg [.slice none 0,.int .i64 rootv]) (b:=none) (by rw[zBU];simp only[zCX,zAz,zBG,zBM,if_true,if_false,Nat.reduceEqDiff,zAX];rfl) ?_
     refine zAS w17 ?_
     rintro b17 h18 hb17 g18 o18
     refine zAE e1 e1 cc rfl g18.wf o18 (by simp) rfl ?_
     rintro v19 h19 p19 o19
     simp only[lL,Nat.reduceAdd] at o19
     have g19:Grow h17 h19:=p19.grow h17 w17 g18 hb17
     have K19:=Hid.mk (K17'.more g19)
     have k219:=g19.keep _ _ k217
     have I0:Hid (UL h16 b17 rootv l rt has 0 0 (.slice none 0) h19):=⟨⟨by omega,⟨_,.slice none 0,[],[],o19,.inl ⟨rfl,rfl,rfl⟩,rfl,rfl,fun i c n hc=>by simp at hc,fun i n hn=>by simp at hn,fun i c hc=>by simp at hc⟩,.inl ⟨rfl,rfl,rfl⟩⟩⟩
     have hb1716:h16.next<=b17:=by omega
     clear K17' g18 o18 p19 o19 k217 g19 hb17
     repeat refine zR ?_
     refine zBR (N:=g.nodes.length) (fun j a hq=>Hid (KM bo bo g.nodes.length K rk rt h16 hq)/\(∃rv,Hid (UL h16 b17 rootv l rt has j j rv hq)/\ev a (.tmp 18)=some rv)/\a.defers=[]/\ev a (.tmp 2)=some (.ptr (some (b2,0)))/\ev a (.tmp 4)=some (.ptr (some (b4,0)))/\ev a (.tmp 10)=some (.ptr (some (b10,0)))/\ev a (.tmp 16)=some (.func 53 [] [.ptr (some (b12,0)),.ptr (some (b10,0))])/\ev a (.tmp 17)=some (.ptr (some (b17,0)))) ?_ ?_ ⟨K19,⟨_,I0,e1⟩,n1,e1,e1,e1,e1,e1⟩
     ·clear K19 I0 k219
      rintro j a hq hj ⟨Kj,⟨rv,Ij,t18'⟩,hd,t2',t4',t10',t16',t17'⟩ hi hn
      have k10:=Kj.out.keep b10 _ (by omega) (by omega) k1016.out
      have ks:=Kj.out.keep bs _ hbne.1 hbne.1 ks16.out
      obtain⟨on1,ho,u⟩:=Kj.out.row
      have hrng:=SO'.out.inv.rng (j:Int) ⟨by omega,by omega⟩
      obtain⟨x0,hx0⟩:∃i:Nat,rt (j:Int)=i:=⟨(rt (j:Int)).toNat,by have:=hrng.1.1;omega⟩
      have hx0N:x0<g.nodes.length:=by have:=hrng.1.2;omega
      have kx0:rt (x0:Int)=x0:=by rw[<-hx0];exact hrng.2
      have hfind:=zGZ H u hj hbne.1 hq Kj.out.wf ks ho
      rw[hx0] at hfind
      replace hfind:=Hid.mk hfind
      replace hx0:=Hid.mk hx0
      replace kx0:=Hid.mk kx0
      obtain⟨ver17,vo,cs,ns,o17,Bvo,lcs,lns,hown,hnz,hdis⟩:=Ij.out.o
      have lvo:=Bvo.len
      have lrv:=Ij.out.r.len
      obtain⟨cl,vb,vs,hcl,hCl,obh16,hl5,hraw,hcl5⟩:=S16.out x0 hx0N kx0.out
      have hjx:slA (.slice (some (bh,0)) g.nodes.length) 5 x0=some (bh,x0*5):=by simp[slA,hx0N]
      have hlx:x0*5+5<=vs.length:=by omega
      have Bvo':=Hid.mk Bvo
      have hCl':=Hid.mk hCl
      have hown':=Hid.mk hown
      have hnz':=Hid.mk hnz
      have hdis':=Hid.mk hdis
      have obh16':=Hid.mk obh16
      clear ho u Bvo hCl hown hnz hdis obh16 hrng hcl
      repeat refine zR ?_
      refine zAk (zAJ s1 (hfind.out.mono ?_))
      rintro _ hr ⟨rfl,B,on',ho',u'⟩
      have k10r:=B.keep b10 (by omega) _ k10
      have ksr:=B.keep bs hbne.1 _ ks
      have o17r:=B.keep b17 (by omega) _ o17
      refine zAN ⟨by simp[zAM,Nat.testBit,k10r,ksr,o17r],?_⟩
      have Kr:=Hid.mk (Kj.out.find B ho' u')
      have Ir:=Hid.mk (Ij.out.but B hbo16)
      have wr:=Kr.out.wf
      have nr:=Kr.out.next
      have obr:=Kr.out.keep bh _ (by omega) (by omega) obh16'.out
      have Ghr:Hid (Grow hp hr):=⟨Kr.out.grow G.wf (K16.out.grow G.wf S15.out.grow (by omega) (by omega)) (by omega) (by omega)⟩
      have hror:Hid (∃v e vs,hr.objs.get bo=some (v,.cells false e vs)):=⟨by
       obtain⟨v,vs,o,_⟩:=ho'
       exact⟨v,_,vs,o⟩⟩
      have askr:Hid (Ask fns summ bo hr 53 [.ptr (some (b12,0)),.ptr (some (b10,0))] (fun a=>lsP l (rt a)) (fun a=>0<=a/\a<g.nodes.length) (KM bo bo g.nodes.length K rk rt hr)):=⟨KM.ask H wr (LI.out.km hroA'.out Kr.out) L.out (by omega) hror.out⟩
      have CC:=SO'.out.inv.cls (x0:Int) ⟨by omega,by omega⟩ kx0.out
      have hClr:=hCl'.out.keep (hq:=hr) fun r p _ _ hp hn=>Kr.out.keep r _ (by
       rintro rfl
       obtain⟨v,e,vs,o⟩:=hroA'.out
       rw[o] at hp;cases hp;exact hn _ _ _ rfl) (by
       rintro rfl
       obtain⟨v,e,vs,o⟩:=hroA'.out
       rw[o] at hp;cases hp;exact hn _ _ _ rfl) hp
      have ck:=zNf hcg.out CC
      have hnode:=Hid.mk (node_ok H HS (has (x0:Int)) (fun h=>(CC.nofields h).1) CC.nodup (CC.bytes hcg.out) (by have:=ck.args;omega) (by have:=ck.fields;omega) G.wf Ghr.out (bo:=bo) (by omega) (by omega) hClr hror.out askr.out (CC.inA hcg.out) (CC.inF hcg.out) (KM.refl wr ho' u'))
      clear B ho' u' hfind k10 ks o17 hClr CC ck
      repeat refine zR ?_
      refine zAk (zAJ s1 (hnode.out.mono ?_))
      rintro _ hs ⟨ls,av,lv,rfl,hrises,hlm,Bav,Blv,Bs,ws,Ps⟩
      have kbh:=Bs.keep bh (by omega) _ obr
      have k10s:=Bs.keep b10 (by omega) _ k10r
      have kss:=Bs.keep bs hbne.1 _ ksr
      have o17s:=Bs.keep b17 (by omega) _ o17r
      refine zAN ⟨by simp[zAM,Nat.testBit,kbh,k10s,kss,o17s],?_⟩
      have Is:=Hid.mk (Ir.out.but Bs hbo16)
      obtain⟨ver17',vo2,cs2,ns2,q17,qvo,qlc,qln,qown,qnz,qdis⟩:=Is.out.o
      have hvo:vo2=vo:=by
       rw[o17s] at q17
       simp only[oI,Prod.mk.injEq,AObj.cells.injEq,List.cons.injEq,and_true,true_and] at q17
       exact q17.2.symm
      subst hvo
      have qall:=Hid.mk (And.intro q17 (And.intro qvo (And.intro qlc (And.intro qln (And.intro qown (And.intro qnz qdis))))))
      clear q17 qvo qlc qln qown qnz qdis
      have Ks:=Hid.mk (Kr.out.trans Ps)
      have nbs:=Bs.next
      have lbs:=Hid.mk (fun c m (hh:rv=.slice (some (c,0)) m)=>zHC Ir.out.r wr hh)
      generalize hnz0:zGb (has (x0:Int)) (fun a=>lsP l (rt a)) ls=n at*
      have hnz0':=Hid.mk hnz0
      have hlsr:Hid (Rises ls/\∀s,s∈ls↔∃a,(s,a)∈(has (rt (j:Int))).fields):=⟨hrises,by rw[hx0.out];exact hlm⟩
      have lav:=Bav.len
      have llv:=Blv.len
      have hnl:n.labels=ls:=by rw[<-hnz0];rfl
      have Bav':=Hid.mk Bav
      have Blv':=Hid.mk Blv
      clear hnode obr k10r ksr o17r Bav Blv Ps hrises hlm askr hnz0
      refine zAk (zAW e1 (cs:=[.int .i64 n.kind,.str n.name,av,lv,.bool n.isOpen]) rfl rfl rfl ws ?_)
      rintro bx h12 hbx g12 ox
      have kbhx:=g12.keep _ _ kbh
      have k10x:=g12.keep _ _ k10s
      have ksx:=g12.keep _ _ kss
      have o17x:=g12.keep _ _ o17s
      refine zAN ⟨by simp[zAM,Nat.testBit,kbhx,k10x,ksx,o17x],?_⟩
      have Bx:Built h12 h16.next 34 5 vo2 j cs2.flatten:=qall.out.2.1.grow g12
      have n12:=g12.next
      refine zAk (zAi e1 e1 Bx ox rfl (zBN lav llv) (zCO H (by decide) (le31 (by omega))) g12.wf (by omega) ?_)
      rintro vo' h13 B13 f13 w13 n13 gr13 kp13
      have kbh':=kp13 _ _ kbhx (zAF Bx kbhx fun vs hh=>by cases hh)
      have k10':=kp13 _ _ k10x (zAF Bx k10x fun vs hh=>by cases hh)
      have ks':=kp13 _ _ ksx (zAF Bx ksx fun vs hh=>by cases hh)
      have o17':=kp13 _ _ o17x (zAF Bx o17x fun vs hh=>by cases hh)
      refine zAN ⟨by simp[zAM,Nat.testBit,kbh',k10',ks',o17'],?_⟩
      have lvo':=B13.len
      have kpx:=Hid.mk (fun c p (hc:hs.objs.get c=some p) hn=>kp13 c p (g12.keep _ _ hc) hn)
      have B13':=Hid.mk B13
      have Bx':=Hid.mk Bx
      have hne17:b17≠b10/\b17≠bs/\b17≠bh:=⟨by omega,by omega,by omega⟩
      clear kbhx k10x ksx o17x kbh k10s kss ox g12 f13 gr13 kp13 B13 Bx
      repeat refine zR ?_
      refine zAk (zAE e1 e1 (zAP lvo') rfl w13 o17' (by simp) (by simp only[List.all_cons,List.all_nil,zAH lvo',Bool.and_true]) ?_)
      rintro v14 h14 p14 o14
      have kbh4:=p14.keep bh (Ne.symm hne17.2.2) _ kbh'
      have k104:=p14.keep b10 (Ne.symm hne17.1) _ k10'
      have ks4:=p14.keep bs (Ne.symm hne17.2.1) _ ks'
      refine zAN ⟨by simp[zAM,Nat.testBit,kbh4,k104,ks4],?_⟩
      simp only[lL,Nat.reduceAdd] at o14
      have w14:=p14.wf w13
      have n14:=p14.next
      have n1213:=n13
      have oq17:=qall.out.1
      obtain⟨q17,qvo,qlc,qln,qown,qnz,qdis⟩:=qall.out
      have I14:Hid (UL h16 b17 rootv l rt has (j+1) j rv h14):=⟨UL.put (av:=av) (lv:=lv) (n:=n) (ls:=ls) (vo:=vo2) (vo':=vo') (hr:=hr) (hB:=hr) wr qvo qlc qln qown qnz qdis Is.out.r hb1716 lbs.out (fun c m hh=>zDI Bav'.out hh) hlsr.out (by rw[hx0.out];exact hnz0'.out.symm) (zAn Bav'.out (by omega)) (zAn (by rw[hnl];exact Blv'.out) (by omega)) o14 (by
       rw[List.flatten_append]
       exact zAK (by simpa using B13'.out) p14 o17' (fun vs hh=>by cases hh)) (fun c p hc hp hne=>p14.keep c hne _ (kpx.out c p hc (zAF qvo hc hp))) ⟨_,_,q17⟩⟩
      have K14:Hid (KM bo bo g.nodes.length K rk rt h16 h14):=⟨Ks.out.fresh w16 (by omega) w14 hbo16 fun c p hl hp=>p14.keep c (by omega) p (kpx.out c p hp fun m hh=>by
       have:=zDI Bx'.out hh
       omega)⟩
      clear q17 qvo qlc qln qown qnz qdis oq17 qall o17s o14 p14 kbh' k10' ks' o17' kbh4 k104 ks4
      repeat refine zR ?_
      have hcall:=Hid.mk (ask.out.call (j:Int) ⟨by omega,by omega⟩ h14 w14 K14.out)
      refine zHN e1 s1 (hcall.out.mono ?_)
      rintro _ h15' ⟨rfl,B15,K15⟩
      have I15:=Hid.mk (I14.out.but B15 hbo16)
      have w15:=K15.wf
      have n15:=K15.next
      have K15':=Hid.mk K15
      clear hcall B15 K15 I14 K14
      refine zAW e1 (cs:=[.int .i64 (lsP l (rt (j:Int)))]) rfl rfl rfl w15 ?_
      rintro by' h18' hby g18' oy
      have r18:=I15.out.r.grow g18'
      have n18:=g18'.next
      refine zAi e1 e1 r18 oy rfl rfl (zCO H (by decide) (le31 (by omega))) g18'.wf (by omega) ?_
      rintro rv' h19' B19 f19 w19 n19 gr19 kp19
      have I19:Hid (UL h16 b17 rootv l rt has (j+1) (j+1) rv' h19'):=⟨UL.rep I15.out w15 g18' kp19 (by rw[reps_put,List.map_append];exact B19) f19⟩
      have K20:Hid (KM bo bo g.nodes.length K rk rt h16 h19'):=⟨(K15'.out.more g18').fresh w16 n19 w19 hbo16 fun c p hl hp=>kp19 c p hp fun m hh=>by
       have:=zDI r18 hh
       omega⟩
      clear g18' oy r18 B19 f19 gr19 kp19 I15 K15'
      repeat refine zR ?_
      exact⟨⟨K20,⟨_,I19,e1⟩,n1,e1,e1,e1,e1,e1⟩,e1,e1⟩
     ·clear K19 I0 k219
      rintro a h21 ⟨K21,⟨rv,I21,t18'⟩,hd,t2',t4',t10',t16',t17'⟩
      have k4:=K21.out.keep b4 _ (by omega) (by omega) k416.out
      obtain⟨ver17,vo,cs,ns,o17,Bvo,_⟩:=I21.out.o
      have lvo:=Bvo.len
      have lrv:=I21.out.r.len
      have hnd:=Hid.mk (I21.out.nd o17)
      have G21:=K21.out.grow w0 G16.out (by omega) (by omega)
      have one1:=zAH lvo
      have lh16:b4<h16.next:=by omega
      have hrr:=Hid.mk I21.out.r
      clear Bvo
      refine zAf ?_
      repeat refine zR ?_
      refine zAE e1 e1 cc rfl G21.wf k4 (by simp) (by simp only[List.all_cons,List.all_nil,one1,Bool.true_and,Bool.and_true];rfl) ?_
      rintro v22 h22 p22 o22
      simp only[lL,Nat.reduceAdd] at o22
      have hfin:Hid (Grow h0 h22/\∃U R,UOut g ps U R/\OwnG h22 h0.next (.agg [vo,.int .i64 rootv]) U/\Built h22 h0.next 3 1 rv R.length (R.map (AVal.int .i64))):=⟨by
       obtain⟨ns',hl,hnz,hown⟩:=hnd.out
       have hU:=uni_out hcg.out SO'.out.inv L.out hl hnz
       rw[hrv] at hU
       refine⟨p22.grow h0 w0 G21 (by omega),_,_,hU,(hown.stay fun c p hc hp _=>p22.keep c (by omega) _ hp).base (by omega),?_⟩
       rw[zMW]
       exact zAn (zAK hrr.out p22 k4 (fun vs hh=>by cases hh)) (by omega)⟩
      have hpv2:zAl (some 2) [vo,.int .i64 rootv] 0=some (.agg [vo,.int .i64 rootv]):=rfl
      clear p22 k4 o17 hnd hrr
      repeat' first|refine zG ?_|(with_reducible apply zAD;exact e1;all_goals intro _)
      exact⟨hfin.out.1,_,_,0,rfl,fun h=>absurd rfl h,.inr (.inr (.inr ⟨hcg.out,rfl,hok.out,hfin.out.2⟩))⟩
   ·obtain⟨p,hs⟩:=HA.yes r h12 b11 _ G12.wf hE k1112
    have pb:=zDa G12.wf k1112 (.cells false 99 [.ptr p])
    have k413:=pb.keep b4 (by omega) _ k412
    have gb:=pb.grow h0 w0 G012 (by omega)
    have hfin:Hid ((∀p∈ps,zEm g p=true)/\¬Consi g ps):=⟨hok.out,hnc⟩
    clear hres hE hnc k1112 k412
    refine zAJ s1 (zCH hs ?_)
    rw[D.sat_ret]
    dsimp only
    clear hs
    repeat refine zR ?_
    refine zAE e1 e1 cc rfl gb.wf k413 (by simp) rfl ?_
    rintro v14 h14 p14 o14
    simp only[lL,Nat.reduceAdd] at o14
    have g14:=p14.grow h0 w0 gb (by omega)
    clear p14 k413 pb gb
    repeat' first|refine zG ?_|(with_reducible apply zAD;exact e1;all_goals intro _)
    exact⟨g14,_,_,8,rfl,fun _=>⟨rfl,rfl⟩,.inr (.inr (.inl ⟨hcg.out,rfl,hfin.out.1,hfin.out.2⟩))⟩
 ·have hne:zAB g≠0:=by simpa using hck
  replace hne:=Hid.mk hne
  repeat refine zR ?_
  refine zAE e1 e1 cc rfl g5.wf o4 (by simp) rfl ?_
  rintro v6 h6 p6 o6
  simp only[lL,Nat.reduceAdd] at o6
  have g6:=p6.grow h0 w0 g05 (by have:=g2.next;omega)
  have ht2:∀x y:AVal,List.take 2 [x,y]=[x,y]:=fun _ _=>rfl
  clear o2 o4 p6
  repeat' first|refine zG ?_|(with_reducible apply zAD;exact e1;all_goals intro _)
  exact⟨g6,_,_,zAB g,rfl,fun _=>⟨rfl,rfl⟩,.inl ⟨rfl,hne.out⟩⟩
end
end Go.Ab.S
end
section
namespace Go.Ab.S
open Go.Ab
set_option maxHeartbeats 8000000
theorem zIo{h:AHeap}:∀(cs:List (List AVal)) (l:List Node),cs.length=l.length->(∀(i:Nat) (n:Node) (c:List AVal),l[i]?=some n->cs[i]?=some c->NodeAt h c n)->cs.flatten.all one=true
 |[],_,_,_=>rfl
 |c::cs,[],hl,_=>by simp at hl
 |c::cs,n::l,hl,hc=>by
  obtain⟨av,lv,h1,h2,h3⟩:=hc 0 n c rfl rfl
  rw[List.flatten_cons,List.all_append,zIo cs l (by simpa using hl) (fun i m d hm hd=>hc (i+1) m d (by simpa using hm) (by simpa using hd)),h1,zBN h2.len h3.len];rfl
section
variable{fns:FnsT}{summ:SumT}
variable(H:Has fns summ)
include H
theorem CloneNode_ok(l:List Node)(hl:l.length<=2 ^ 31)(v:AVal)(h:AHeap)(hw:WF h)(hv:NodesAt h v l):Cl fns summ 28 [v] h fun r h'=>∃cs:List (List AVal),Built h' h.next 34 5 r l.length cs.flatten/\cs.length=l.length/\(∀(i:Nat) (n:Node) (c:List AVal),l[i]?=some n->cs[i]?=some c->NodeAt h c n)/\Grow h h':=by
 obtain⟨cs,hS,hcl,hcn⟩:=hv
 have hone:=zIo cs l hcl hcn
 refine H.go (fn:=F_CloneNode) rfl (by decide) rfl rfl ?_
 unfold F_CloneNode
 dsimp only[qQ,qE,tm,mt,jR,jS,jC]
 by_cases hnil:v=.slice none cs.length
 ·have hl0:cs=[]:=by
   cases cs with
   |nil=>rfl
   |cons a r=>
    obtain⟨_,b,o,ver,ro,e,vs,h1,_⟩:=hS.2 0 a rfl
    rw[hnil] at h1;cases h1
  subst hl0
  subst hnil
  have hln:l=[]:=List.length_eq_zero_iff.1 hcl.symm
  subst hln
  repeat' first|refine zG ?_|(with_reducible apply zAD;exact e1;all_goals intro _)
  exact⟨[],.inl ⟨rfl,rfl,rfl⟩,rfl,fun i n c hn _=>by simp at hn,Grow.refl hw⟩
 ·have heq:eqA .slice v (.slice none 0)=some false:=by
   rcases zGk hS.1 with h1|⟨b,o,rfl⟩|⟨rfl,_⟩|⟨rfl,_⟩
   ·exact absurd h1 hnil
   ·rfl
   ·rfl
   ·rfl
  have hroom:=zCO H (b:=80) (by decide) hl
  rw[<-hcl] at hroom
  repeat refine zR ?_
  refine st_q (v:=.bool false) (b:=none) (by simp only[zDO,zAz,zBe,zBM,Nat.reduceEqDiff,if_true,if_false,heq];rfl) ?_
  repeat refine zR ?_
  refine st_T (by exact tE) (by exact t1) ?_
  repeat refine zR ?_
  refine zFs e1 e1 hS (by decide) (.inl hnil) hone hroom hw ?_
  intro r h' B g
  rw[hcl] at B
  repeat' first|refine zG ?_|(with_reducible apply zAD;exact e1;all_goals intro _)
  exact⟨cs,B,hcl,hcn,g⟩
end
end Go.Ab.S
end
section
namespace Go.Ab.S
open Go Go.Ab
set_option maxHeartbeats 1000000
def Fits(S:Int->Int->Prop)(x y:Node):Prop:=x.kind=1\/(x.kind≠1/\x.kind=y.kind/\x.name=y.name/\(x.isOpen=true\/(y.isOpen=false/\x.labels=y.labels))/\(x.kind=3->∀s∈x.labels,s∈y.labels)∧
 ∀i,i<x.args.length->idxI x y i<y.args.length/\S (x.args.getD i 0) (y.args.getD (idxI x y i) 0))
structure InstB(g h:Graph)(S:Int->Int->Prop):Prop where
 root:S g.root h.root
 range:∀a b,S a b->(0<=a/\a<g.nodes.length)/\Rch h b
 node:∀a b,S a b->Fits S (zAA g a) (zAA h b)
 one:∀a b c,S a b->S a c->zAL (zAA g a)=true->clAt (zAC h) b=clAt (zAC h) c
theorem zFx{g h:Graph}(cg:zAB g=0)(ch:zAB h=0):(∃S,InstR g (zAb h) S)↔∃S,InstB g h S:=by
 have Q:=zCJ ch
 constructor
 ·rintro⟨S,K⟩
  refine⟨fun a b=>Rch h b/\S a (qL h b),⟨.root,by rw[<-Q.root];exact K.root⟩,fun a b hab=>⟨(K.range _ _ hab.2).1,hab.1⟩,fun a b hab=>?_,fun a b c h1 h2 hf=>qL_inj ch h1.1 h2.1 (K.one a _ _ h1.2 h2.2 hf)⟩
  rcases zDy cg ch K hab.1 hab.2 with h1|⟨h1,h2,h3,h4,h5,h6⟩
  ·exact .inl h1
  ·exact .inr ⟨h1,h2,h3,h4,h5,fun i hi=>⟨(h6 i hi).1,zCt hab.1 (h6 i hi).1,(h6 i hi).2⟩⟩
 ·rintro⟨S,K⟩
  refine⟨fun a z=>∃b,S a b/\z=qL h b,⟨_,K.root,Q.root⟩,?_,?_,?_⟩
  ·rintro a _ ⟨b,h1,rfl⟩
   exact⟨(K.range a b h1).1,Q.range b (K.range a b h1).2⟩
  ·rintro a _ ⟨b,h1,rfl⟩
   have hb:=(K.range a b h1).2
   have hn:=Q.node b hb
   have mh:=zAd ch (hb.ok ch)
   rcases K.node a b h1 with k1|⟨k1,k2,k3,k4,k5,k6⟩
   ·exact .inl k1
   have hlab:(zAA (zAb h) (qL h b)).labels=(zAA h b).labels:=by rw[hn]
   have eidx:∀i,idxI (zAA g a) (zAA (zAb h) (qL h b)) i=idxI (zAA g a) (zAA h b) i:=fun i=>by rw[idxI,idxI,hlab]
   refine .inr ⟨k1,by rw[hn];exact k2,by rw[hn];exact k3,by rw[hn];exact k4,?_,fun i hi=>?_⟩
   ·rw[zDT,hlab]
    split
    ·rename_i hk
     have hk':(zAA g a).kind=3:=by simpa using hk
     rcases zAI mh with⟨k',_⟩|⟨k',_⟩|⟨_,_,_,hr⟩
     ·omega
     ·omega
     rw[List.all_eq_true]
     intro s hs
     obtain⟨i,hi,rfl⟩:=List.mem_iff_getElem.1 (k5 hk' s hs)
     exact(zJA (zBE hr) (List.getElem?_eq_getElem hi)).2
    ·rfl
   ·rw[eidx,zLN Q hb (k6 i hi).1]
    exact⟨_,(k6 i hi).2,rfl⟩
  ·rintro a _ _ ⟨b,h1,rfl⟩ ⟨c,h2,rfl⟩ hf
   unfold qL
   rw[K.one a b c h1 h2 hf]
theorem zFz{g h:Graph}(hg:GTi g)(hh:GTi h)(cg:zAB g=0)(ch:zAB h=0):isF g h=true↔∃S,InstB g h S:=by rw[isF_iff hg hh cg ch,zFx cg ch]
def shN(k:Int)(n:Node):Node:={n with args:=n.args.map (· +k)}
theorem sh0(n:Node):shN 0 n=n:=by
 have:n.args.map (· +(0:Int))=n.args:=by
  conv=>rhs;rw[<-List.map_id n.args]
  exact List.map_congr_left fun a _=>by simp
 rw[shN,this]
theorem sh_may{n:Node}{N M k:Int}(h:mayF n N=true)(hk:0<=k)(hM:N+k<=M):mayF (shN k n) M=true:=
 zJY h (· +k) fun a ha=>by have:=zAo h a ha;omega
theorem zLg{k:Int}{x:Node}{i:Nat}(hi:i<x.args.length):(shN k x).args.getD i 0=x.args.getD i 0+k:=by
 simp only[shN,List.getD,List.getElem?_map,List.getElem?_eq_getElem hi];rfl
end Go.Ab.S
end
section
namespace Go.Ab.S
open Go Go.Ab
set_option maxHeartbeats 1000000
def zBA(g h:Graph):Graph:=⟨g.nodes++h.nodes.map (shN g.nodes.length),g.root⟩
theorem zCB(g h:Graph):(zBA g h).nodes.length=g.nodes.length+h.nodes.length:=by simp[zBA]
theorem both_l{g h:Graph}{a:Int}(ha:InG g a):zAA (zBA g h) a=zAA g a:=by
 have:a.toNat<g.nodes.length:=by have:=ha.1;have:=ha.2;omega
 simp only[zAA,zBA,List.getD]
 rw[List.getElem?_append_left this]
theorem both_r{g h:Graph}{a:Int}(ha:InG h a):zAA (zBA g h) (a+g.nodes.length)=shN g.nodes.length (zAA h a):=by
 have h1:=ha.1
 have h2:=ha.2
 have hi:a.toNat<h.nodes.length:=by omega
 simp only[zAA,zBA,List.getD]
 rw[show (a+(g.nodes.length:Int)).toNat=a.toNat+g.nodes.length by omega,List.getElem?_append_right (by omega),Nat.add_sub_cancel,List.getElem?_map,List.getElem?_eq_getElem hi];rfl
theorem zLi{g h:Graph}{a:Int}(ha:InG g a):InG (zBA g h) a:=⟨ha.1,by have:=ha.2;rw[zCB];omega⟩
theorem zLj{g h:Graph}{a:Int}(ha:InG h a):InG (zBA g h) (a+g.nodes.length):=⟨by have:=ha.1;omega,by have:=ha.2;rw[zCB];omega⟩
theorem zNW{g h:Graph}{a:Int}(ha:InG (zBA g h) a):InG g a\/∃b,InG h b/\a=b+g.nodes.length:=by
 have h1:=ha.1
 have h2:=ha.2
 rw[zCB] at h2
 by_cases h3:a<g.nodes.length
 ·exact .inl ⟨h1,h3⟩
 ·exact .inr ⟨a - g.nodes.length,⟨by omega,by omega⟩,by omega⟩
theorem zCh{g h:Graph}(cg:zAB g=0)(ch:zAB h=0)(hs:g.nodes.length+h.nodes.length<=1048576):zAB (zBA g h)=0:=by
 obtain⟨g0,g1,g2,g3⟩:=zAQ cg
 obtain⟨h0,h1,h2,h3⟩:=zAQ ch
 refine zFr g0 (by rw[zCB];show g.root<_;omega) (by rw[zCB];exact hs) fun n hn=>?_
 rw[zCB]
 simp only[zBA,List.mem_append,List.mem_map] at hn
 rcases hn with hn|⟨m,hm,rfl⟩
 ·rw[<-sh0 n];exact sh_may (g3 n hn) (by omega) (by omega)
 ·exact sh_may (h3 m hm) (by omega) (by omega)
theorem quo_rch{g L:Graph}{q:Int->Int}(Q:Quo g L q){a:Int}(h:Rch g a):Rch L (q a):=by
 induction h with
 |root=>rw[<-Q.root];exact .root
 |step hr hb ih=>exact .step ih (by rw[Q.node _ hr];exact List.mem_map.2 ⟨_,hb,rfl⟩)
def qT(U:Graph)(x:Int):Int:=(zBs (zAG U) x:Int)
section
variable{G X U:Graph}{ps:List Pr}{R:List Int}{k:Int}
theorem zMP(cG:zAB G=0)(cX:zAB X=0)(O:UOut G ps U R)(hin:∀a,InG X a->InG G (a+k))(hnode:∀a,InG X a->zAA G (a+k)=shN k (zAA X a))(hroot:Uni G ps (X.root+k) G.root){a:Int}(ha:Rch X a):Rch U (clAt R (a+k)):=by
 induction ha with
 |root=>rw[O.eq cG hroot,<-O.root];exact .root
 | @step a b hr hb ih=>
  have hia:=hr.ok cX
  have hG:=hin a hia
  have hm:=(O.rep _ hG).1.symm
  refine .step ih ?_
  obtain⟨i,hi,hib⟩:=List.mem_iff_getElem.1 hb
  rcases zAI (zAd cX hia) with⟨_,_,_,_,q⟩|⟨q,_⟩|⟨q,_,ql,_⟩
  ·rw[q] at hb;cases hb
  ·rw[O.con _ _ hm (by rw[hnode a hia];exact q),hnode a hia]
   exact List.mem_map.2 ⟨b+k,List.mem_map.2 ⟨b,hb,rfl⟩,rfl⟩
  ·have hk:(zAA G (a+k)).kind=3:=by rw[hnode a hia];exact q
   have Q:=O.obj _ _ hm hk
   have hil:i<(zAA X a).labels.length:=by omega
   have hlab:(zAA G (a+k)).labels[i]?=some (zAA X a).labels[i]:=by rw[hnode a hia];exact List.getElem?_eq_getElem hil
   obtain⟨j,hj,hje⟩:=List.mem_iff_getElem.1 ((Q.labels _).2 ⟨_,hm,hk,List.mem_of_getElem? hlab⟩)
   have:=Q.args j _ (by rw[List.getElem?_eq_getElem hj,hje]) _ i hm hk hlab
   rw[hnode a hia,zLg hi,List.getD,List.getD,List.getElem?_eq_getElem hi,Option.getD_some,hib,List.getElem?_eq_getElem (by rw[<-Q.len];exact hj),Option.getD_some] at this
   rw[<-this];exact List.getElem_mem _
theorem zKY(cG:zAB G=0)(cX:zAB X=0)(O:UOut G ps U R)(hin:∀a,InG X a->InG G (a+k))(hnode:∀a,InG X a->zAA G (a+k)=shN k (zAA X a))(hroot:Uni G ps (X.root+k) G.root):∃S,InstB X (zBd U) S:=by
 have cU:=O.check cG
 have T:=zHO cU
 refine⟨fun a z=>Rch X a/\z=qT U (clAt R (a+k)),⟨.root,?_⟩,?_,?_,?_⟩
 ·rw[T.root,O.root,<-O.eq cG hroot];rfl
 ·rintro a _ ⟨ha,rfl⟩
  exact⟨ha.ok cX,quo_rch T (zMP cG cX O hin hnode hroot ha)⟩
 ·rintro a _ ⟨ha,rfl⟩
  have hia:=ha.ok cX
  have hG:=hin a hia
  have hm:=(O.rep _ hG).1.symm
  have hn:=T.node _ (zMP cG cX O hin hnode hroot ha)
  change zAA (zBd U) (qT U (clAt R (a+k)))=_ at hn
  rw[hn]
  rcases zAI (zAd cX hia) with⟨q,_⟩|⟨q,ql,qo,qa,qn⟩|⟨q,qn,ql,qr⟩
  ·exact .inl q
  ·have hU:=O.con _ _ hm (by rw[hnode a hia];exact q)
   rw[hU,hnode a hia]
   refine .inr ⟨by omega,q,rfl,.inr ⟨rfl,ql⟩,fun h3=>by omega,fun i hi=>?_⟩
   have hx:∀y:Node,idxI (zAA X a) y i=i:=fun y=>by rw[idxI,if_neg (by simp;omega)]
   rw[hx]
   refine⟨by simpa[shN] using hi,zCt ha hi,?_⟩
   simp only[shN,List.map_map,List.getD,List.getElem?_map,List.getElem?_eq_getElem hi];rfl
  ·have hk:(zAA G (a+k)).kind=3:=by rw[hnode a hia];exact q
   have Q:=O.obj _ _ hm hk
   have hlG:(zAA G (a+k)).labels=(zAA X a).labels:=by rw[hnode a hia];rfl
   have hsub:∀l∈(zAA X a).labels,l∈(zAA U (clAt R (a+k))).labels:=fun l hl=>(Q.labels l).2 ⟨_,hm,hk,by rw[hlG];exact hl⟩
   refine .inr ⟨by omega,by rw[q];exact Q.kind.symm,by rw[qn];exact Q.name.symm,?_,fun _=>hsub,fun i hi=>?_⟩
   ·cases ho:(zAA X a).isOpen
    ·refine .inr ⟨?_,zEv (zBE qr) (zBE Q.rises) fun l=>⟨hsub l,fun hl=>?_⟩⟩
     ·show (zAA U (clAt R (a+k))).isOpen=false
      cases hh:(zAA U (clAt R (a+k))).isOpen
      ·rfl
      ·have:=Q.isOpen.1 hh _ hm hk
       rw[hnode a hia] at this
       exact absurd this (by show ¬(zAA X a).isOpen=true;rw[ho];decide)
     ·obtain⟨m,m1,m2,m3⟩:=(Q.labels l).1 hl
      rcases O.consi _ _ (hm.symm.trans m1) with z|z|⟨_,_,z⟩
      ·omega
      ·omega
      ·have:=(z hk).1 (by rw[hnode a hia];exact ho) l m3
       rw[hlG] at this;exact this
    ·exact .inl rfl
   ·have hil:i<(zAA X a).labels.length:=by omega
    have hl:(zAA X a).labels[i]?=some (zAA X a).labels[i]:=List.getElem?_eq_getElem hil
    obtain⟨j,hj,hje⟩:=List.mem_iff_getElem.1 (hsub _ (List.getElem_mem hil))
    have hjl:(zAA U (clAt R (a+k))).labels[j]?=some (zAA X a).labels[i]:=by rw[List.getElem?_eq_getElem hj,hje]
    have hidx:idxI (zAA X a) {zAA U (clAt R (a+k)) with args:=(zAA U (clAt R (a+k))).args.map fun a=>(zBs (zAG U) a:Int)} i=j:=by
     rw[idxI,if_pos (by simp;omega),List.getD,hl,Option.getD_some]
     exact(zJA (zBE Q.rises) hjl).1
    have hja:j<(zAA U (clAt R (a+k))).args.length:=by rw[<-Q.len];exact hj
    rw[hidx]
    refine⟨by simpa using hja,zCt ha hi,?_⟩
    have:=Q.args j _ hjl _ i hm hk (by rw[hlG];exact hl)
    rw[hnode a hia,zLg hi] at this
    rw[<-this]
    simp only[List.getD,List.getElem?_map,List.getElem?_eq_getElem hja];rfl
 ·rintro a _ _ ⟨_,rfl⟩ ⟨_,rfl⟩ _;rfl
end
section
variable{g h:Graph}{T:Int->Int->Prop}
theorem zKR(cg:zAB g=0)(ch:zAB h=0)(K:InstB g h T){a b c:Int}(h1:T a b)(h2:T a c):clAt (zAC h) b=clAt (zAC h) c:=by
 have inH:∀{a b},T a b->InG h b:=fun h=>(K.range _ _ h).2.ok ch
 have hb:=inH h1
 have hc:=inH h2
 have key:=zGr (g:=h) (E:=fun i j=>(i<h.nodes.length/\j<h.nodes.length)/\(clAt (zAC h) (i:Int)=clAt (zAC h) (j:Int)\/∃a,T a (i:Int)/\T a (j:Int))) (i:=b.toNat) (j:=c.toNat) ?_ ?_
 ·rw[show (b.toNat:Int)=b by have:=hb.1;omega,show (c.toNat:Int)=c by have:=hc.1;omega] at key
  exact key
 ·rintro i j ⟨⟨hi,hj⟩,hE⟩
  refine⟨hi,hj,?_⟩
  have same:clAt (zAC h) (i:Int)=clAt (zAC h) (j:Int)->i=j\/(zAL (h.nodes.getD i zAg)=false/\zAL (h.nodes.getD j zAg)=false/\(h.nodes.getD i zAg).kind=(h.nodes.getD j zAg).kind/\(h.nodes.getD i zAg).name=(h.nodes.getD j zAg).name/\(h.nodes.getD i zAg).labels=(h.nodes.getD j zAg).labels/\(h.nodes.getD i zAg).args.length=(h.nodes.getD j zAg).args.length∧
    ∀(k:Nat) (a b:Int),(h.nodes.getD i zAg).args[k]?=some a->(h.nodes.getD j zAg).args[k]?=some b->(a.toNat<h.nodes.length/\b.toNat<h.nodes.length)/\(clAt (zAC h) (a.toNat:Int)=clAt (zAC h) (b.toNat:Int)\/∃x,T x (a.toNat:Int)/\T x (b.toNat:Int))):=fun he=>by
   obtain⟨q1,q2,q3,q4,q5,q6⟩:=zES ch hi hj he
   cases cf:zAL (h.nodes.getD i zAg)
   ·refine .inr ⟨rfl,by rw[<-q6,cf],q2,q3,q4,by have:=congrArg List.length q5;simpa using this,fun m x y hx hy=>?_⟩
    have rx:=zAo ((zAu ch).at hi) x (List.mem_of_getElem? hx)
    have ry:=zAo ((zAu ch).at hj) y (List.mem_of_getElem? hy)
    refine⟨⟨by omega,by omega⟩,.inl ?_⟩
    have:=congrArg (fun l=>l[m]?) q5
    simp only[List.getElem?_map,hx,hy,Option.map_some,oI] at this
    rw[show (x.toNat:Int)=x by omega,show (y.toNat:Int)=y by omega]
    exact this
   ·exact .inl (q1 (.inl cf))
  rcases hE with he|⟨a,ha,hb⟩
  ·exact same he
  have hra:=(K.range _ _ ha).1
  cases cf:zAL (zAA g a)
  ·have cf':=cf
   simp only[zAL,Bool.or_eq_false_iff,beq_eq_false_iff_ne] at cf'
   rcases K.node _ _ ha with q|⟨_,q1,q2,q3,_,q5⟩
   ·exact absurd q cf'.1
   rcases K.node _ _ hb with r|⟨_,r1,r2,r3,_,r5⟩
   ·exact absurd r cf'.1
   rcases q3 with q3|⟨q3,q4⟩
   ·rw[cf'.2] at q3;cases q3
   rcases r3 with r3|⟨r3,r4⟩
   ·rw[cf'.2] at r3;cases r3
   have ei:zAA h (i:Int)=h.nodes.getD i zAg:=rfl
   have ej:zAA h (j:Int)=h.nodes.getD j zAg:=rfl
   have mi:=zAd ch (inH ha)
   have mj:=zAd ch (inH hb)
   have ma:=zAd cg hra
   have li:(zAA h (i:Int)).args.length=(zAA g a).args.length:=by
    rcases zAI ma with⟨z,_⟩|⟨z,_,_,_,z1⟩|⟨z,_,z1,_⟩
    ·omega
    ·rcases zAI mi with⟨w,_⟩|⟨_,_,_,_,w⟩|⟨w,_⟩
     ·omega
     ·rw[w,z1,q2]
     ·omega
    ·rcases zAI mi with⟨w,_⟩|⟨w,_⟩|⟨_,_,w,_⟩
     ·omega
     ·omega
     ·rw[<-w,<-z1,q4]
   have lj:(zAA h (j:Int)).args.length=(zAA g a).args.length:=by
    rcases zAI ma with⟨z,_⟩|⟨z,_,_,_,z1⟩|⟨z,_,z1,_⟩
    ·omega
    ·rcases zAI mj with⟨w,_⟩|⟨_,_,_,_,w⟩|⟨w,_⟩
     ·omega
     ·rw[w,z1,r2]
     ·omega
    ·rcases zAI mj with⟨w,_⟩|⟨w,_⟩|⟨_,_,w,_⟩
     ·omega
     ·omega
     ·rw[<-w,<-z1,r4]
   rw[ei] at q1 q2 q3 q4 q5 li
   rw[ej] at r1 r2 r3 r4 r5 lj
   refine .inr ⟨?_,?_,by rw[<-q1,r1],by rw[<-q2,r2],by rw[<-q4,r4],by omega,fun m x y hx hy=>?_⟩
   ·simp only[zAL,q3,Bool.or_false,beq_eq_false_iff_ne];omega
   ·simp only[zAL,r3,Bool.or_false,beq_eq_false_iff_ne];omega
   ·have hm:m<(zAA g a).args.length:=by have:=(List.getElem?_eq_some_iff.1 hx).1;omega
    have t1:=q5 m hm
    have t2:=r5 m hm
    rw[zEV (M:=0) ma q4 hm] at t1
    rw[zEV (M:=0) ma r4 hm] at t2
    have gx:∀(l:List Int) (x:Int),l[m]?=some x->l.getD m 0=x:=fun l x h=>by rw[List.getD,h];rfl
    rw[gx _ _ hx] at t1
    rw[gx _ _ hy] at t2
    have rx:=inH t1.2
    have ry:=inH t2.2
    have a1:=rx.1;have a2:=rx.2;have a3:=ry.1;have a4:=ry.2
    refine⟨⟨by omega,by omega⟩,.inr ⟨(zAA g a).args.getD m 0,?_,?_⟩⟩
    ·rw[show (x.toNat:Int)=x by omega];exact t1.2
    ·rw[show (y.toNat:Int)=y by omega];exact t2.2
  ·exact same (K.one a _ _ ha hb cf)
 ·have a1:=hb.1;have a2:=hb.2;have a3:=hc.1;have a4:=hc.2
  refine⟨⟨by omega,by omega⟩,.inr ⟨a,?_,?_⟩⟩
  ·rw[show (b.toNat:Int)=b by omega];exact h1
  ·rw[show (c.toNat:Int)=c by omega];exact h2
end
end Go.Ab.S
end
section
namespace Go.Ab.S
open Go Go.Ab
set_option maxHeartbeats 1000000
structure Emb(G g h:Graph)(k j:Int):Prop where
 inl:∀a,InG g a->InG G (a+k)
 nl:∀a,InG g a->zAA G (a+k)=shN k (zAA g a)
 inr:∀b,InG h b->InG G (b+j)
 nr:∀b,InG h b->zAA G (b+j)=shN j (zAA h b)
 cas:∀x,InG G x->(∃a,InG g a/\x=a+k)\/∃b,InG h b/\x=b+j
 dis:∀a b,InG g a->InG h b->a+k≠b+j
theorem zJI(g h:Graph):Emb (zBA g h) g h 0 g.nodes.length:=by
 refine⟨fun a ha=>by rw[Int.add_zero];exact zLi ha,fun a ha=>by rw[Int.add_zero,sh0];exact both_l ha,fun b hb=>zLj hb,fun b hb=>both_r hb,fun x hx=>?_,fun a b ha hb=>?_⟩
 ·rcases zNW hx with h1|h1
  ·exact .inl ⟨x,h1,by omega⟩
  ·exact .inr h1
 ·have:=ha.2;have:=hb.1;omega
theorem Emb.flip{G g h:Graph}{k j:Int}(e:Emb G g h k j):Emb G h g j k:=⟨e.inr,e.nr,e.inl,e.nl,fun x hx=>(e.cas x hx).symm,fun a b ha hb h=>e.dis b a hb ha h.symm⟩
theorem zFB{h:Graph}(ch:zAB h=0){b c:Int}(hb:InG h b)(hc:InG h c)(he:clAt (zAC h) b=clAt (zAC h) c):
  (zAA h b).kind=(zAA h c).kind/\(zAA h b).name=(zAA h c).name/\(zAA h b).labels=(zAA h c).labels/\(zAA h b).isOpen=(zAA h c).isOpen/\(zAA h b).args.length=(zAA h c).args.length∧
  (∀i,i<(zAA h b).args.length->clAt (zAC h) ((zAA h b).args.getD i 0)=clAt (zAC h) ((zAA h c).args.getD i 0))/\(zAL (zAA h b)=true->b=c):=by
 have b1:=hb.1;have b2:=hb.2;have c1:=hc.1;have c2:=hc.2
 have he':clAt (zAC h) (b.toNat:Int)=clAt (zAC h) (c.toNat:Int):=by
  rw[show (b.toNat:Int)=b by omega,show (c.toNat:Int)=c by omega];exact he
 obtain⟨q1,q2,q3,q4,q5,q6⟩:=zES ch (i:=b.toNat) (j:=c.toNat) (by omega) (by omega) he'
 change (zAL (zAA h b)=true\/zAL (zAA h c)=true)->_ at q1
 change (zAA h b).kind=(zAA h c).kind at q2
 change (zAA h b).name=(zAA h c).name at q3
 change (zAA h b).labels=(zAA h c).labels at q4
 change (zAA h b).args.map _=(zAA h c).args.map _ at q5
 change zAL (zAA h b)=zAL (zAA h c) at q6
 have hlen:(zAA h b).args.length=(zAA h c).args.length:=by have:=congrArg List.length q5;simpa using this
 refine⟨q2,q3,q4,?_,hlen,fun i hi=>?_,fun hf=>by have:=q1 (.inl hf);omega⟩
 ·rcases zAI (zAd ch hb) with⟨z,_,o,_⟩|⟨z,_,o,_⟩|⟨z,_⟩
  ·rcases zAI (zAd ch hc) with⟨_,_,o',_⟩|⟨w,_⟩|⟨w,_⟩
   ·rw[o,o']
   ·omega
   ·omega
  ·rcases zAI (zAd ch hc) with⟨w,_⟩|⟨_,_,o',_⟩|⟨w,_⟩
   ·omega
   ·rw[o,o']
   ·omega
  ·have e1:((zAA h b).kind==1)=false:=by simp;omega
   have e2:((zAA h c).kind==1)=false:=by simp;omega
   simpa only[zAL,e1,e2,Bool.false_or] using q6
 ·have:=congrArg (fun l=>l[i]?) q5
  simp only[List.getElem?_map,List.getElem?_eq_getElem hi,List.getElem?_eq_getElem (hlen ▸ hi:i<(zAA h c).args.length),Option.map_some,oI] at this
  simp only[List.getD,List.getElem?_eq_getElem hi,List.getElem?_eq_getElem (hlen ▸ hi:i<(zAA h c).args.length),Option.getD_some]
  exact this
end Go.Ab.S
end
