import Derived.Test.YtffgndlognihcaaGreatDoorP09
import Derived.Test.YtffgndlognihcaaGreatDoorP11
import Derived.Test.YtffgndlognihcaaGreatDoorP13
/-
  Part 14 of the proof.
-/
set_option linter.all false
section
namespace Go.Ab.S
open Go.Ab
set_option maxHeartbeats 8000000
theorem fill_m{a:AAct}{x y z u:AOpd}{p q r s z0 z1 z2 z3 z4 z5 z6:AVal}{m1 m2:Option Nat}(hx:ev a x=some (.agg [p,q]))(hy:ev a y=some (.agg [r,s]))(hm1:ev a z=some (.map m1))(hm2:ev a u=some (.map m2)):
  zCX a [z0,z1,z2,z3,z4,z5,z6] [(0,2,x),(2,2,y),(4,1,z),(5,1,u)]=some [p,q,r,s,.map m1,.map m2,z6]:=by
 simp[zCX,hx,hy,hm1,hm2,zAX]
section
variable{fns:FnsT}{summ:SumT}{ro:Option Nat}
theorem zNh{i pp:Nat}{d:Option Tmp}{x y z u:AOpd}{l:List DStep}{hs:List Held}{a:AAct}{h:AHeap}{K:AAct->AHeap->Prop}{p q r s z0 z1 z2 z3 z4 z5 z6:AVal}{m1 m2:Option Nat}(hx:ev a x=some (.agg [p,q]))(hy:ev a y=some (.agg [r,s]))(hm1:ev a z=some (.map m1))(hm2:ev a u=some (.map m2))
  (k:Dr fns summ ro l hs (putA a d (.agg [p,q,r,s,.map m1,.map m2,z6])) h K):Dr fns summ ro (⟨i,pp,⟨d,none,.q (.build [z0,z1,z2,z3,z4,z5,z6] [(0,2,x),(2,2,y),(4,1,z),(5,1,u)])⟩⟩::l) hs a h K:=by
 refine dr_q (v:=.agg [p,q,r,s,.map m1,.map m2,z6]) ?_ k
 rw[zBU,fill_m hx hy hm1 hm2]
theorem zMt{i pp:Nat}{d:Option Tmp}{e:TypeId}{sz b o n m:Nat}{kd:IntKind}{x y:AOpd}{l:List DStep}{hs:List Held}{a:AAct}{h:AHeap}{K:AAct->AHeap->Prop}(hx:ev a x=some (.slice (some (b,o)) n))(hy:ev a y=some (.int kd (m:Nat)))(hm:m<=n)(k:Dr fns summ ro l hs (putA a d (.slice (some (b,o)) m)) h K):
  Dr fns summ ro (⟨i,pp,⟨d,none,.q (.slice e sz x none (some y))⟩⟩::l) hs a h K:=by
 refine dr_q (v:=.slice (some (b,o)) m) ?_ k
 simp only[zCG,hx,zBI,hy,Int.toNat_natCast]
 rw[if_pos (show (0:Int)<=(m:Nat)/\m<=n from⟨by omega,hm⟩)]
end
section
variable{fns:FnsT}{summ:SumT}
variable(H:Has fns summ)
include H
theorem Is_ok(g h:Graph)(hg:GTi g)(hh:GTi h)(v u:AVal)(h0:AHeap)(hw:WF h0)(hv:GraphAt h0 v g)(hu:GraphAt h0 u h):Cl fns summ 11 [v,u] h0 fun r h'=>r=.bool (isF g h)/\Grow h0 h':=by
 obtain⟨nv,rfl,hN⟩:=hv
 obtain⟨mv,rfl,hM⟩:=hu
 refine H.go (fn:=F_Is) rfl (by decide) rfl rfl ?_
 unfold F_Is
 dsimp only[qQ,qE,gQ,gE,vi,tm,mt,lo,fa,jk,jb,jl,js,ji,je,jc,jd,jo,jt,jR,jS,jC]
 refine zAv (zBC ?_)
 refine zAm e1 cc hw ?_
 rintro b2 h2 hb2 g2 o2
 refine zAm e1 cc g2.wf ?_
 rintro b3 h3 hb3 g3 o3
 replace o2:=g3.keep _ _ o2
 have g03:=g2.trans g3
 have hpart:zAl (some 2) [nv,.int .i64 g.root] 0=some (.agg [nv,.int .i64 g.root]):=rfl
 have hpart':zAl (some 2) [mv,.int .i64 h.root] 0=some (.agg [mv,.int .i64 h.root]):=rfl
 have ht2:∀x y:AVal,List.take 2 [x,y]=[x,y]:=fun _ _=>rfl
 repeat refine zR ?_
 refine zAJ s1 ((Check_ok H g hg.toGraphSm _ h3 g3.wf ⟨nv,rfl,hN.mono g03⟩).mono ?_)
 rintro _ h4 ⟨rfl,g4⟩
 replace o2:=g4.keep _ _ o2
 replace o3:=g4.keep _ _ o3
 have g04:=g03.trans g4
 cases hck:(zAB g != 0)
 ·have hcg:zAB g=0:=by simpa using hck
  replace hcg:=Hid.mk hcg
  repeat refine zR ?_
  refine zAr e1 s1 ((Check_ok H h hh.toGraphSm _ h4 g4.wf ⟨mv,rfl,hM.mono g04⟩).mono ?_)
  rintro _ h5 ⟨rfl,g5⟩
  replace o2:=g5.keep _ _ o2
  replace o3:=g5.keep _ _ o3
  have g05:=g04.trans g5
  cases hch:(zAB h != 0)
  ·have hchh:zAB h=0:=by simpa using hch
   have hgL:Hid (GTi (zAb h)):=⟨zIj hh hchh⟩
   have hcL:Hid (zAB (zAb h)=0):=⟨(zCJ hchh).check⟩
   have hok0:=Hid.mk hchh
   replace hchh:=Hid.mk hchh
   have hres:isF g h=zDE (okI g (zAb h)) (nxI g (zAb h)) (badI g) (2+zCb (nxI g (zAb h)) [] (zBD g (zAb h))) [(g.root,(zAb h).root)] []:=by
    have h1:(zAB g==0)=true:=by rw[hcg.out];rfl
    have h2:(zAB h==0)=true:=by rw[hchh.out];rfl
    rw[isF,h1,h2];rfl
   replace hres:=Hid.mk hres
   repeat refine zR ?_
   refine dr_e (zDA s1 ((Least_ok H h hh hok0.out _ h5 g5.wf ⟨mv,rfl,hM.mono g05⟩).mono ?_))
   rintro lv h6 ⟨⟨ln,cs,rfl,kB,kl,kn⟩,g6⟩
   have hOG:OwnG h6 h5.next (.agg [ln,.int .i64 (zAb h).root]) (zAb h):=⟨ln,cs,rfl,kB,kl,kn⟩
   obtain⟨_,hq,hL⟩:=hOG.graph
   cases hq
   clear kB kl kn hOG
   refine⟨by simp[zAM,Nat.testBit,g6.keep _ _ o2],?_⟩
   have o26:=g6.keep _ _ o2
   have o36:=g6.keep _ _ o3
   have g06:=g05.trans g6
   generalize hLL:zAb h=L at*
   clear hLL
   clear hM o2 o3
   refine zAk (zDD (.inl rfl) g6.wf ?_)
   rintro rm h7 (hrm:h6.next<=rm) (g7:Grow h6 h7) o7
   refine zAN ⟨by simp[zAM,Nat.testBit,g7.keep _ _ o26,g7.keep _ _ o36],?_⟩
   have l7:=g7.wf.lt o7
   refine zAk (zDD (.inl rfl) g7.wf ?_)
   rintro rw' h8 (hrw:h7.next<=rw') (g8:Grow h7 h8) o8
   have g68:=g7.trans g8
   have o28:=g68.keep _ _ o26
   have o38:=g68.keep _ _ o36
   refine zAN ⟨by simp[zAM,Nat.testBit,o28,o38],?_⟩
   replace o7:=g8.keep _ _ o7
   refine zNh (p:=nv) (q:=.int .i64 g.root) (r:=ln) (s:=.int .i64 L.root) (m1:=some rm) (m2:=some rw') e1 e1 e1 e1 ?_
   refine zAk (zAm (v:=.agg [nv,.int .i64 g.root,ln,.int .i64 L.root,.map (some rm),.map (some rw'),.slice none 0]) (cs:=[nv,.int .i64 g.root,ln,.int .i64 L.root,.map (some rm),.map (some rw'),.slice none 0]) e1 rfl g8.wf ?_)
   rintro bm h9 (hbm:h8.next<=bm) (g9:Grow h8 h9) o9
   have g69:=g68.trans g9
   have o29:=g9.keep _ _ o28
   have o39:=g9.keep _ _ o38
   refine zAN ⟨by simp[zAM,Nat.testBit,o29,o39],?_⟩
   replace o7:=g9.keep _ _ o7
   replace o8:=g9.keep _ _ o8
   clear o26 o36 o28 o38
   repeat refine zR ?_
   refine zAk (zAW (v:=.agg (zBQ (g.root,L.root))) (cs:=zBQ (g.root,L.root)) e1 rfl rfl rfl g9.wf ?_)
   rintro b8 h10 (hb8:h9.next<=b8) (g10:Grow h9 h10) o10
   have o910:=g10.keep _ _ o9
   refine zAN ⟨by simp[zAM,Nat.testBit,g10.keep _ _ o29,o910],?_⟩
   have lb8:=g10.wf.lt o10
   repeat refine zR ?_
   have hone:one ln=true:=zAH hL.len
   refine zAk (zAE e1 e1 (cs:=[.slice (some (b8,0)) 1]) rfl rfl g10.wf o910 (by simp) rfl ?_)
   rintro v11 h11 (p11:But bm h10 h11) o11
   simp only[lL,Nat.reduceAdd] at o11
   refine zAN ⟨by simp[zAM,Nat.testBit],?_⟩
   have g610:=g69.trans g10
   have n67:=g7.next
   have n68:=g68.next
   have n69:=g69.next
   have G11:Grow h6 h11:=p11.grow h6 g6.wf g610 (by omega)
   have I0:MInv h6 bm rm rw' nv ln g L [(g.root,L.root)] [] [] (.slice (some (b8,0)) 1) h11:=
    ⟨G11,⟨_,o11⟩,⟨_,_,_,p11.kp o910 (g10.keep _ _ o7) rfl,MP.zero⟩,⟨_,_,_,p11.kp o910 (g10.keep _ _ o8) rfl,FA.zero⟩,.inr (.inr ⟨b8,_,_,by omega,rfl,p11.kp o910 o10 rfl,by simp[zBQ],rfl⟩),by omega,by omega,by omega,by omega⟩
   have hrg:=zAQ hcg.out
   have hrL:=zAQ hcL.out
   have hroot:(g.root,L.root)∈zBD g L:=zAx.2 ⟨⟨hrg.1,hrg.2.1⟩,hrL.1,hrL.2.1⟩
   have hsm:zCb (nxI g L) [] (zBD g L)<=2 ^ 36:=zIk hg hgL.out fun p _=>nxI_len p
   have hN6:=hN.mono g06
   have w6:=g6.wf
   clear hrg hrL p11 o11 o910 o10 o9 o7 o8 o29 o39 g7 g8 g9 g10 g68 g69 g610 n67 n68 n69 l7 lb8 hrm hrw hbm hb8 G11 g2 g3 g4 g5 g6 g03 g04 g05 hb2 hb3 hck hch hpart hpart' hone
   repeat refine zR ?_
   with_reducible refine zBS ?_
   refine zCV (fun m a hp=>∃w met vw,MInv h6 bm rm rw' nv ln g L w met (flI g met) vw hp/\w.length+zCb (nxI g L) met (zBD g L)<m/\w.length+zCb (nxI g L) met (zBD g L)<=1+zCb (nxI g L) [] (zBD g L)/\Hid (isF g h=zDE (okI g L) (nxI g L) (badI g) m w met)/\(∀q∈w,q∈zBD g L)/\a.defers=[]∧
    ev a (.tmp 5)=some (.ptr (some (bm,0)))) ?_ (n:=2+zCb (nxI g L) [] (zBD g L))
    ⟨_,_,_,I0,by simp,by simp,hres,by simpa using hroot,n1,e1⟩
   clear I0 hres hroot
   rintro m a hp ⟨w,met,vw,I,hm,hB,hres,hwp,hd,h5'⟩
   have hlw:=I.bw.len
   obtain⟨vm,om⟩:=I.om
   obtain⟨m,rfl⟩:∃m',m=m'+1:=⟨m - 1,by omega⟩
   cases w with
   |nil=>
    have hz:decide (Int.ofNat 0>0)=false:=rfl
    simp only[zlN] at hlw
    repeat' first|refine zG ?_|(with_reducible apply zAD;exact e1;all_goals intro _)
    exact⟨by rw[hres.out];rfl,g06.trans I.grow⟩
   |cons p w=>
    have hpp:=hwp p (by simp)
    have hwp':∀q∈w,q∈zBD g L:=fun q hq=>hwp q (by simp[hq])
    have hB36:w.length<=2 ^ 36:=by simp only[zlC] at hB;omega
    have e36:(2:Nat) ^ 36=68719476736:=by decide
    simp only[zlC] at hlw hm hB
    have hz:decide (Int.ofNat (w.length+1)>0)=true:=by simp
    have hw1:IntKind.i64.wrap (Int.ofNat (w.length+1) - 1)=(w.length:Int):=by
     simp only[Int.ofNat_eq_natCast]
     rw[zAc (by omega) (by omega)];omega
    obtain⟨bw,verw,vsw,rfl,hgw,hbw,⟨hpl,hpw⟩,Bw⟩:=zLL I.bw
    have hix:slA (.slice (some (bw,0)) (w.length+1)) 2 w.length=some (bw,w.length*2):=by simp[slA]
    clear hwp
    repeat refine zR ?_
    refine zAk (zAS I.grow.wf ?_)
    rintro b6 h9 hb9 g9 o9
    refine zAN ⟨by simp[zAM,Nat.testBit,g9.keep _ _ om,g9.keep _ _ hgw],?_⟩
    refine zAk (zAE (v:=.agg (zBQ p)) e1 e1 (cs:=zBQ p) rfl rfl g9.wf o9 (by simp[zBQ]) rfl ?_)
    rintro v10 h10 p10 o10
    replace o10:h10.objs.get b6=some (v10,.cells false 58 (zBQ p)):=o10
    have G10:Grow hp h10:=p10.grow hp I.grow.wf g9 hb9
    refine zAN ⟨by simp[zAM,Nat.testBit],?_⟩
    have om10:=G10.keep _ _ om
    have B10:=Bw.grow G10
    have I10:=I.other G10
    have hp6:zAl (some 2) (zBQ p) 0=some (.agg (zBQ p)):=rfl
    have hp6l:(0:Nat)+2<=(zBQ p).length:=by simp[zBQ]
    clear g9 o9 p10 hgw hpw hpl hix Bw I om
    repeat refine zR ?_
    refine zMt e1 e1 (by omega) ?_
    repeat refine zR ?_
    refine zAk (zAE e1 e1 (cs:=[.slice (some (bw,0)) w.length]) rfl rfl I10.grow.wf om10 (by simp) rfl ?_)
    rintro v11 h11 p11 o11
    simp only[lL,Nat.reduceAdd] at o11
    refine zAN ⟨by simp[zAM,Nat.testBit],?_⟩
    have o10':=p11.kp om10 o10 rfl
    have I11:MInv h6 bm rm rw' nv ln g L w met (flI g met) (.slice (some (bw,0)) w.length) h11:=I10.row (p11.grow h6 w6 I10.grow I10.low.1) (fun c q hc ht=>p11.kp om10 hc (by rw[ht];rfl)) ⟨_,o11⟩ (zAK B10 p11 om10 (fun vs hh=>by cases hh))
    clear I10 B10 p11 o11 om10 o10 G10
    repeat refine zR ?_
    refine zAJ (vs:=[.ptr (some (bm,0)),.agg (zBQ p)]) s1 ((match_ok H w6 hg hgL.out hcg hcL hN6 hL I11 p hpp hB36).mono ?_)
    rintro _ h12 (⟨hmet,rfl,vw',I12⟩|⟨hmet,⟨rfl,hok,hbad,vw',I12⟩|⟨rfl,hno,G12⟩⟩)
    ·replace hmet:=Hid.mk hmet
     clear I11 o10'
     repeat refine zR ?_
     refine⟨m,by omega,w,met,vw',I12,by omega,by omega,⟨by rw[hres.out,zDE,hmet.out];rfl⟩,hwp',n1,e1⟩
    ·have hput:=zGC (nxI g L) hmet hpp
     have hnx:=nxI_in hg hgL.out hcg.out hcL.out hpp hok
     replace hmet:=Hid.mk hmet
     replace hok:=Hid.mk hok
     replace hbad:=Hid.mk hbad
     clear I11 o10'
     repeat refine zR ?_
     refine⟨m,by omega,_,_,vw',I12,by rw[List.length_append];omega,by rw[List.length_append];omega,⟨?_⟩,?_,n1,e1⟩
     ·rw[hres.out,zDE,hmet.out,hok.out,hbad.out];rfl
     ·intro q hq'
      rcases List.mem_append.1 hq' with hq'|hq'
      ·exact hnx q hq'
      ·exact hwp' q hq'
    ·replace hmet:=Hid.mk hmet
     replace hno:=Hid.mk hno
     clear I11 o10'
     repeat' first|refine zG ?_|(with_reducible apply zAD;exact e1;all_goals intro _)
     refine⟨?_,g06.trans G12⟩
     rw[hres.out,zDE,hmet.out,hno.out];rfl
  ·repeat' first|refine zG ?_|(with_reducible apply zAD;exact e1;all_goals intro _)
   refine⟨?_,g05⟩
   have h2:(zAB h==0)=false:=by simpa using hch
   rw[isF,h2];simp
 ·repeat' first|refine zG ?_|(with_reducible apply zAD;exact e1;all_goals intro _)
  refine⟨?_,g04⟩
  have h1:(zAB g==0)=false:=by simpa using hck
  rw[isF,h1];rfl
end
end Go.Ab.S
end
section
namespace Go.Ab.S
open Go.Ab
set_option maxHeartbeats 8000000
def swP(q:Pr):Pr:=(q.2,q.1)
def flM(g:Graph)(met:List Pr):List Pr:=met.filter fun q=>zCY (zAA g q.1)
structure SInv(h0:AHeap)(b2 b3 r5 r6 r7:Nat)(nv mv:AVal)(g h:Graph)(w met fl fl':List Pr)(vw:AVal)(hp:AHeap):Prop where
 grow:Grow h0 hp
 o2:∃ver,hp.objs.get b2=some (ver,.cells false 24 [nv,.int .i64 g.root])
 o3:∃ver,hp.objs.get b3=some (ver,.cells false 24 [mv,.int .i64 h.root])
 o5:∃ver es c,hp.objs.get r5=some (ver,.map es c)/\MP es met
 o6:∃ver es c,hp.objs.get r6=some (ver,.map es c)/\FA es fl
 o7:∃ver es c,hp.objs.get r7=some (ver,.map es c)/\FA es fl'
 bw:Built hp h0.next 62 2 vw w.length (rowC w)
 low:h0.next<=r5/\h0.next<=r6/\h0.next<=r7/\r5≠r6/\r5≠r7/\r6≠r7
section
variable{h0:AHeap}{b2 b3 r5 r6 r7:Nat}{nv mv:AVal}{g h:Graph}{w w' met fl fl':List Pr}{vw vw':AVal}{hp hq:AHeap}(I:SInv h0 b2 b3 r5 r6 r7 nv mv g h w met fl fl' vw hp)
include I
theorem SInv.other(gr:Grow hp hq):SInv h0 b2 b3 r5 r6 r7 nv mv g h w met fl fl' vw hq:=by
 obtain⟨v2,k2⟩:=I.o2
 obtain⟨v3,k3⟩:=I.o3
 obtain⟨v5,e5,c5,k5,f5⟩:=I.o5
 obtain⟨v6,e6,c6,k6,f6⟩:=I.o6
 obtain⟨v7,e7,c7,k7,f7⟩:=I.o7
 exact⟨I.grow.trans gr,⟨v2,gr.keep _ _ k2⟩,⟨v3,gr.keep _ _ k3⟩,⟨_,_,_,gr.keep _ _ k5,f5⟩,⟨_,_,_,gr.keep _ _ k6,f6⟩,⟨_,_,_,gr.keep _ _ k7,f7⟩,I.bw.grow gr,I.low⟩
theorem SInv.row(B:Built hp h0.next 62 2 vw' w'.length (rowC w')):SInv h0 b2 b3 r5 r6 r7 nv mv g h w' met fl fl' vw' hp:=
 ⟨I.grow,I.o2,I.o3,I.o5,I.o6,I.o7,B,I.low⟩
theorem SInv.push(gr:Grow h0 hq)(kp:∀c p,hp.objs.get c=some p->(∀n,vw≠.slice (some (c,0)) n)->hq.objs.get c=some p)(B:Built hq h0.next 62 2 vw' w'.length (rowC w')):SInv h0 b2 b3 r5 r6 r7 nv mv g h w' met fl fl' vw' hq:=by
 obtain⟨v2,k2⟩:=I.o2
 obtain⟨v3,k3⟩:=I.o3
 obtain⟨v5,e5,c5,k5,f5⟩:=I.o5
 obtain⟨v6,e6,c6,k6,f6⟩:=I.o6
 obtain⟨v7,e7,c7,k7,f7⟩:=I.o7
 have kk:∀c p,hp.objs.get c=some p->(∀vs,p.2≠.cells false 62 vs)->hq.objs.get c=some p:=fun c p hc hne=>kp c p hc (zAF I.bw hc hne)
 exact⟨gr,⟨v2,kk _ _ k2 (fun vs hh=>by cases hh)⟩,⟨v3,kk _ _ k3 (fun vs hh=>by cases hh)⟩,⟨_,_,_,kk _ _ k5 (fun vs hh=>by cases hh),f5⟩,⟨_,_,_,kk _ _ k6 (fun vs hh=>by cases hh),f6⟩,⟨_,_,_,kk _ _ k7 (fun vs hh=>by cases hh),f7⟩,B,I.low⟩
theorem SInv.put5(w0:WF h0){ver:Nat}{es:List (AVal×AVal×Nat)}{c:Nat}{met':List Pr}(p:But r5 hp hq)(o:hq.objs.get r5=some (ver,.map es c))(f:MP es met'):SInv h0 b2 b3 r5 r6 r7 nv mv g h w met' fl fl' vw hq:=by
 obtain⟨v2,k2⟩:=I.o2
 obtain⟨v3,k3⟩:=I.o3
 obtain⟨v5,e5,c5,k5,f5⟩:=I.o5
 obtain⟨v6,e6,c6,k6,f6⟩:=I.o6
 obtain⟨v7,e7,c7,k7,f7⟩:=I.o7
 obtain⟨l5,l6,l7,n56,n57,n67⟩:=I.low
 exact⟨p.grow h0 w0 I.grow l5,⟨_,p.kp k5 k2 rfl⟩,⟨_,p.kp k5 k3 rfl⟩,⟨_,_,_,o,f⟩,⟨_,_,_,p.keep _ (Ne.symm n56) _ k6,f6⟩,⟨_,_,_,p.keep _ (Ne.symm n57) _ k7,f7⟩,zAK I.bw p k5 (fun vs hh=>by cases hh),l5,l6,l7,n56,n57,n67⟩
theorem SInv.put6(w0:WF h0){ver:Nat}{es:List (AVal×AVal×Nat)}{c:Nat}{fl2:List Pr}(p:But r6 hp hq)(o:hq.objs.get r6=some (ver,.map es c))(f:FA es fl2):SInv h0 b2 b3 r5 r6 r7 nv mv g h w met fl2 fl' vw hq:=by
 obtain⟨v2,k2⟩:=I.o2
 obtain⟨v3,k3⟩:=I.o3
 obtain⟨v5,e5,c5,k5,f5⟩:=I.o5
 obtain⟨v6,e6,c6,k6,f6⟩:=I.o6
 obtain⟨v7,e7,c7,k7,f7⟩:=I.o7
 obtain⟨l5,l6,l7,n56,n57,n67⟩:=I.low
 exact⟨p.grow h0 w0 I.grow l6,⟨_,p.kp k6 k2 rfl⟩,⟨_,p.kp k6 k3 rfl⟩,⟨_,_,_,p.keep _ n56 _ k5,f5⟩,⟨_,_,_,o,f⟩,⟨_,_,_,p.keep _ (Ne.symm n67) _ k7,f7⟩,zAK I.bw p k6 (fun vs hh=>by cases hh),l5,l6,l7,n56,n57,n67⟩
theorem SInv.put7(w0:WF h0){ver:Nat}{es:List (AVal×AVal×Nat)}{c:Nat}{fl2:List Pr}(p:But r7 hp hq)(o:hq.objs.get r7=some (ver,.map es c))(f:FA es fl2):SInv h0 b2 b3 r5 r6 r7 nv mv g h w met fl fl2 vw hq:=by
 obtain⟨v2,k2⟩:=I.o2
 obtain⟨v3,k3⟩:=I.o3
 obtain⟨v5,e5,c5,k5,f5⟩:=I.o5
 obtain⟨v6,e6,c6,k6,f6⟩:=I.o6
 obtain⟨v7,e7,c7,k7,f7⟩:=I.o7
 obtain⟨l5,l6,l7,n56,n57,n67⟩:=I.low
 exact⟨p.grow h0 w0 I.grow l7,⟨_,p.kp k7 k2 rfl⟩,⟨_,p.kp k7 k3 rfl⟩,⟨_,_,_,p.keep _ n57 _ k5,f5⟩,⟨_,_,_,p.keep _ n67 _ k6,f6⟩,⟨_,_,_,o,f⟩,zAK I.bw p k7 (fun vs hh=>by cases hh),l5,l6,l7,n56,n57,n67⟩
end
theorem zEP{fns:FnsT}{summ:SumT}{ro:Option Nat}{c:ACode}{a:AAct}{h:AHeap}{Q:AExit->AAct->AHeap->Prop}(I:AAct->AHeap->Prop)(k1:Cd fns summ ro c a h (nxt I Q))(k2:∀a h,I a h->Q .normal a h):Cd fns summ ro c a h Q:=
 k1.mono fun e a1 h1 hq=>by cases e with
  |normal=>exact k2 a1 h1 hq
  |ret=>exact hq
  |exit i=>exact hq
theorem zOB(g:Graph)(met:List Pr)(p:Pr):flM g (met++[p])=flM g met++(if zCY (zAA g p.1) then [p] else []):=by
 simp only[flM,List.filter_append]
 congr 1
 cases h:zCY (zAA g p.1)<;>simp[h]
theorem bad_any{g:Graph}{met:List Pr}{p:Pr}(hp:p∉met)(hf:zCY (zAA g p.1)=true):met.any (badS g p)=(((flM g met).any fun q=>q.1==p.1)||(((flM g met).map swP).any fun q=>q.1==p.2)):=by
 unfold flM
 rw[Bool.eq_iff_iff]
 simp only[List.any_eq_true,badS,hf,Bool.true_and,Bool.and_eq_true,Bool.or_eq_true,List.mem_filter,List.mem_map,beq_iff_eq,swP]
 constructor
 ·rintro⟨q,hq,hq2,h|h⟩
  ·exact .inl ⟨q,⟨hq,hq2⟩,h.symm⟩
  ·exact .inr ⟨_,⟨q,⟨hq,hq2⟩,rfl⟩,h.symm⟩
 ·rintro (⟨q,⟨hq,hq2⟩,h⟩|⟨_,⟨q,⟨hq,hq2⟩,rfl⟩,h⟩)
  ·exact⟨q,hq,hq2,.inl h.symm⟩
  ·exact⟨q,hq,hq2,.inr h.symm⟩
theorem bad_none{g:Graph}{met:List Pr}{p:Pr}(hf:zCY (zAA g p.1)=false):met.any (badS g p)=false:=by
 rw[List.any_eq_false];intro q _;simp[badS,hf]
def zMT:ACode:=
 .seq (
 .ops [
 ⟨(some 111),none,.q (.fieldA 2 (.tmp 10))⟩,
 ⟨(some 112),none,.q (.load none (.tmp 111))⟩,
 ⟨(some 113),none,.q (.lenV (.tmp 112))⟩,
 ⟨(some 114),none,.q (.mov (.val (.int .i64 0)))⟩]) (
 .block 2 (
 .loop (
 .seq (
 .ops [
 ⟨(some 115),none,.q (.num .lss (.tmp 114) (.tmp 113))⟩]) (
 .seq (
 .cond (.tmp 115) (
 .skip) (
 .exit 2)) (
 .seq (
 .block 3 (
 .seq (
 .ops [
 ⟨(some 116),none,.q (.mov (.tmp 114))⟩,
 ⟨(some 16),none,.q (.mov (.tmp 116))⟩]) (
 .draw [
 ⟨0,0,⟨(some 117),none,.q (.mov (.tmp 8))⟩⟩,
 ⟨1,0,⟨(some 118),none,.q (.fieldA 2 (.tmp 10))⟩⟩,
 ⟨2,2,⟨(some 119),none,.q (.load none (.tmp 118))⟩⟩,
 ⟨3,0,⟨(some 120),none,.q (.mov (.tmp 16))⟩⟩,
 ⟨4,14,⟨(some 121),none,.q (.indexA 1 (.tmp 119) (.tmp 120))⟩⟩,
 ⟨5,30,⟨(some 122),none,.q (.load none (.tmp 121))⟩⟩,
 ⟨6,0,⟨(some 123),none,.q (.fieldA 2 (.tmp 11))⟩⟩,
 ⟨7,64,⟨(some 124),none,.q (.load none (.tmp 123))⟩⟩,
 ⟨8,0,⟨(some 125),none,.q (.mov (.tmp 16))⟩⟩,
 ⟨9,448,⟨(some 126),none,.q (.indexA 1 (.tmp 124) (.tmp 125))⟩⟩,
 ⟨10,960,⟨(some 127),none,.q (.load none (.tmp 126))⟩⟩,
 ⟨11,2046,⟨(some 128),none,.q (.build [(.int .i64 0),(.int .i64 0)] [(0,1,(.tmp 122)),(1,1,(.tmp 127))])⟩⟩,
 ⟨12,4094,⟨(some 129),none,.e (.bslice 62 2 1 [(.int .i64 0),(.int .i64 0)] [(0,(.tmp 128))])⟩⟩,
 ⟨13,8191,⟨(some 130),none,.e (.append 62 2 16 (.tmp 117) (.tmp 129))⟩⟩,
 ⟨14,16383,⟨(some 8),none,.q (.mov (.tmp 130))⟩⟩]))) (
 .ops [
 ⟨(some 131),none,.q (.num .add (.tmp 114) (.val (.int .i64 1)))⟩,
 ⟨(some 114),none,.q (.mov (.tmp 131))⟩]))))))
section
variable{fns:FnsT}{summ:SumT}
theorem push_ok{h0:AHeap}{b2 b3 r5 r6 r7 b10 b11:Nat}{nv mv:AVal}{g h:Graph}{w met fl fl':List Pr}{vw:AVal}{hq:AHeap}{a:AAct}{Q:AExit->AAct->AHeap->Prop}(w0:WF h0)(I:SInv h0 b2 b3 r5 r6 r7 nv mv g h w met fl fl' vw hq){x y:Node}{av lv bv mv':AVal}
  (o10:∃ver,hq.objs.get b10=some (ver,.cells false 34 [.int .i64 x.kind,.str x.name,av,lv,.bool x.isOpen])) (o11:∃ver,hq.objs.get b11=some (ver,.cells false 34 [.int .i64 y.kind,.str y.name,bv,mv',.bool y.isOpen]))
  (ha:IntsAt h0 av x.args) (hb:IntsAt h0 bv y.args) (hxy:x.args.length=y.args.length) (hx:x.args.length<=4096) (hw:w.length<=2 ^ 36) (hd:a.defers=[])
  (h2':ev a (.tmp 2)=some (.ptr (some (b2,0)))) (h3':ev a (.tmp 3)=some (.ptr (some (b3,0)))) (h5':ev a (.tmp 5)=some (.map (some r5))) (h6':ev a (.tmp 6)=some (.map (some r6))) (h7':ev a (.tmp 7)=some (.map (some r7))) (h8':ev a (.tmp 8)=some vw) (h10':ev a (.tmp 10)=some (.ptr (some (b10,0)))) (h11':ev a (.tmp 11)=some (.ptr (some (b11,0))))
  (k:∀a hr vw',SInv h0 b2 b3 r5 r6 r7 nv mv g h ((List.zip x.args y.args).reverse++w) met fl fl' vw' hr->a.defers=[]->ev a (.tmp 2)=some (.ptr (some (b2,0)))->ev a (.tmp 3)=some (.ptr (some (b3,0)))->ev a (.tmp 5)=some (.map (some r5))->ev a (.tmp 6)=some (.map (some r6))->ev a (.tmp 7)=some (.map (some r7))->ev a (.tmp 8)=some vw'->Q .normal a hr):Cd fns summ none zMT a hq Q:=by
 have hla:=ha.len
 have hlb:=hb.len
 have e36:(2:Nat) ^ 36=68719476736:=by decide
 have e37:(2:Nat) ^ 37=137438953472:=by decide
 obtain⟨v10,o10⟩:=o10
 obtain⟨v11,o11⟩:=o11
 unfold zMT
 repeat refine zR ?_
 refine zBR (N:=x.args.length) (fun j a hr=>∃vx,SInv h0 b2 b3 r5 r6 r7 nv mv g h (((List.zip x.args y.args).take j).reverse++w) met fl fl' vx hr/\(∃ver,hr.objs.get b10=some (ver,.cells false 34 [.int .i64 x.kind,.str x.name,av,lv,.bool x.isOpen]))/\(∃ver,hr.objs.get b11=some (ver,.cells false 34 [.int .i64 y.kind,.str y.name,bv,mv',.bool y.isOpen]))/\a.defers=[]/\ev a (.tmp 2)=some (.ptr (some (b2,0)))/\ev a (.tmp 3)=some (.ptr (some (b3,0)))/\ev a (.tmp 5)=some (.map (some r5))/\ev a (.tmp 6)=some (.map (some r6))/\ev a (.tmp 7)=some (.map (some r7))/\ev a (.tmp 8)=some vx/\ev a (.tmp 10)=some (.ptr (some (b10,0)))/\ev a (.tmp 11)=some (.ptr (some (b11,0)))) ?_ ?_ ⟨vw,by simpa using I,⟨_,o10⟩,⟨_,o11⟩,n1,e1,e1,e1,e1,e1,e1,e1,e1⟩
 ·clear I o10 o11 hd h2' h3' h5' h6' h7' h8' h10' h11'
  rintro j a hr hj ⟨vx,I,⟨v10,o10⟩,⟨v11,o11⟩,hd,h2',h3',h5',h6',h7',h8',h10',h11'⟩ hi hn
  have hjy:j<y.args.length:=by omega
  obtain⟨ba,oa,vera,ra,ea,vsa,hixa,hga0,hva⟩:=ha.at (List.getElem?_eq_getElem hj)
  obtain⟨bb,ob,verb,rb,eb,vsb,hixb,hgb0,hvb⟩:=hb.at (List.getElem?_eq_getElem hjy)
  have hga:=I.grow.keep _ _ hga0
  have hgb:=I.grow.keep _ _ hgb0
  have hzl:j<(List.zip x.args y.args).length:=by rw[List.length_zip];omega
  have hwl:(((List.zip x.args y.args).take j).reverse++w).length<=2 ^ 36+4096:=by
   rw[List.length_append,List.length_reverse,List.length_take];omega
  have hst:((List.zip x.args y.args).take (j+1)).reverse++w=(x.args[j],y.args[j])::(((List.zip x.args y.args).take j).reverse++w):=by
   rw[List.take_succ_eq_append_getElem hzl,List.reverse_append,List.getElem_zip];rfl
  have hroom:zCU 16 ((((List.zip x.args y.args).take j).reverse++w).length+1)=true:=roomP (by omega)
  clear hla hlb hx hw hwl hzl
  replace hxy:=Hid.mk hxy
  repeat refine zR ?_
  refine zAk (zAW (v:=.agg (zBQ (x.args[j],y.args[j]))) (cs:=zBQ (x.args[j],y.args[j])) e1 rfl rfl rfl I.grow.wf ?_)
  rintro bx h9 hbx g9 ox
  refine zAN ⟨by simp[zAM,Nat.testBit,g9.keep _ _ o10,g9.keep _ _ o11,g9.keep _ _ hga,g9.keep _ _ hgb],?_⟩
  have B9:=I.bw.grow g9
  have I9:=I.other g9
  refine zAk (zAi e1 e1 B9 ox rfl rfl hroom g9.wf (by have:=I9.grow.next;omega) ?_)
  rintro vx' h10 B10 f10 w10 n10 gr10 kp10
  have G10:=gr10 h0 w0 I9.grow (Nat.le_refl _)
  rw[<-zDP,<-hst] at B10
  have hll:(((List.zip x.args y.args).take (j+1)).reverse++w).length=(((List.zip x.args y.args).take j).reverse++w).length+1:=by rw[hst];rfl
  rw[<-hll] at B10
  have I10:=I9.push G10 kp10 B10
  have o10':=kp10 _ _ (g9.keep _ _ o10) (zAF B9 (g9.keep _ _ o10) fun vs hh=>by cases hh)
  have o11':=kp10 _ _ (g9.keep _ _ o11) (zAF B9 (g9.keep _ _ o11) fun vs hh=>by cases hh)
  refine zAN ⟨by simp[zAM,Nat.testBit,o10',o11',G10.keep _ _ hga0,G10.keep _ _ hgb0],?_⟩
  clear I I9 B9 B10 kp10 gr10 f10 ox o10 o11 hga hgb hga0 hgb0 hixa hixb hva hvb g9 hst hll
  repeat refine zR ?_
  exact⟨⟨vx',I10,⟨_,o10'⟩,⟨_,o11'⟩,n1,e1,e1,e1,e1,e1,e1,e1,e1⟩,e1,e1⟩
 ·rintro a hr ⟨vx,I,_,_,k4,k5,k6,k7,k8,k9,k10,_,_⟩
  rw[List.take_of_length_le (by rw[List.length_zip];omega)] at I
  exact k a hr vx I k4 k5 k6 k7 k8 k9 k10
end
end Go.Ab.S
end
section
namespace Go.Ab.S
open Go.Ab
set_option maxHeartbeats 4000000
section
variable{fns:FnsT}{summ:SumT}{ro:Option Nat}
theorem zMr{i p:Nat}{d:Option Tmp}{t:Tmp}{w:Bool}{op:AOp}{l:List DStep}{hs:List Held}{a:AAct}{h:AHeap}{K:AAct->AHeap->Prop}(hg:ev a (.tmp t)=some (.bool w))(k:Dr fns summ ro (⟨i,p,⟨d,none,op⟩⟩::l) hs a h K):Dr fns summ ro (⟨i,p,⟨d,some (t,w),op⟩⟩::l) hs a h K:=
 dr_g (s:=⟨i,p,⟨d,some (t,w),op⟩⟩) rfl hg (fun _=>k) (fun hc=>by rcases hc with hc|hc<;>(cases w<;>cases hc)) (.inl rfl)
theorem zMq{i p:Nat}{d:Option Tmp}{t:Tmp}{w:Bool}{op:AOp}{l:List DStep}{hs:List Held}{a:AAct}{h:AHeap}{K:AAct->AHeap->Prop}(hg:ev a (.tmp t)=some (.bool (!w)))(k:Dr fns summ ro l hs (putA a d (.tuple [])) h K):Dr fns summ ro (⟨i,p,⟨d,some (t,w),op⟩⟩::l) hs a h K:=
 dr_g (s:=⟨i,p,⟨d,some (t,w),op⟩⟩) rfl hg (fun hc=>by cases w<;>cases hc) (fun _=>k) (.inr (.inl rfl))
theorem zMs{i p:Nat}{d:Option Tmp}{t:Tmp}{w:Bool}{op:AOp}{l:List DStep}{hs:List Held}{a:AAct}{h:AHeap}{K:AAct->AHeap->Prop}(hg:ev a (.tmp t)=some (.tuple []))(k:Dr fns summ ro l hs (putA a d (.tuple [])) h K):Dr fns summ ro (⟨i,p,⟨d,some (t,w),op⟩⟩::l) hs a h K:=
 dr_g (s:=⟨i,p,⟨d,some (t,w),op⟩⟩) rfl hg (fun hc=>by cases hc) (fun _=>k) (.inr (.inr rfl))
end
end Go.Ab.S
end
section
namespace Go.Ab.S
open Go.Ab
set_option maxHeartbeats 8000000
section
variable{fns:FnsT}{summ:SumT}{ro:Option Nat}
end
def zOD(g:Graph):List Int:=(zAG g).filter fun i=>zCY (zAA g i)
def zHX(g:Graph):Bool:=zAB g==0&&(zOD g).length==0
def moreF(g h:Graph):Bool:=isF g h&& !isF h g
section
variable{fns:FnsT}{summ:SumT}
variable(H:Has fns summ)
include H
theorem More_ok(g h:Graph)(hg:GTi g)(hh:GTi h)(v u:AVal)(h0:AHeap)(hw:WF h0)(hv:GraphAt h0 v g)(hu:GraphAt h0 u h):Cl fns summ 19 [v,u] h0 fun r h'=>r=.bool (moreF g h)/\Grow h0 h':=by
 obtain⟨nv,rfl,hN⟩:=hv
 obtain⟨mv,rfl,hM⟩:=hu
 refine H.go (fn:=F_More) rfl (by decide) rfl rfl ?_
 unfold F_More
 dsimp only[qQ,gQ,gE,tm,mt,jb,jl,jd,jo,jR,jS]
 refine zAv (zBC ?_)
 refine zAm e1 cc hw ?_
 rintro b2 h2 hb2 g2 o2
 refine zAm e1 cc g2.wf ?_
 rintro b3 h3 hb3 g3 o3
 replace o2:=g3.keep _ _ o2
 have g03:=g2.trans g3
 repeat refine zR ?_
 refine zAJ s1 ((Is_ok H g h hg hh _ _ h3 g3.wf ⟨nv,rfl,hN.mono g03⟩ ⟨mv,rfl,hM.mono g03⟩).mono ?_)
 rintro _ h4 ⟨rfl,g4⟩
 replace o2:=g4.keep _ _ o2
 replace o3:=g4.keep _ _ o3
 have g04:=g03.trans g4
 cases h1:isF g h
 ·repeat' first|refine zG ?_|(with_reducible apply zAD;exact e1;all_goals intro _)
  exact⟨by rw[moreF,h1];rfl,g04⟩
 ·repeat refine zR ?_
  refine zAr e1 s1 ((Is_ok H h g hh hg _ _ h4 g4.wf ⟨mv,rfl,hM.mono g04⟩ ⟨nv,rfl,hN.mono g04⟩).mono ?_)
  rintro _ h5 ⟨rfl,g5⟩
  repeat' first|refine zG ?_|(with_reducible apply zAD;exact e1;all_goals intro _)
  exact⟨by rw[moreF,h1];rfl,g04.trans g5⟩
theorem good_ok(g h:Graph)(hg:zCv g<2 ^ 60)(hh:zCv h<2 ^ 60)(most:Int)(v u:AVal)(h0:AHeap)(hw:WF h0)(hv:GraphAt h0 v g)(hu:GraphAt h0 u h):Cl fns summ 8 [v,u,.int .i64 most] h0 fun r h'=>r=.bool (decide ((zCv g:Int)<=most)&&decide ((zCv h:Int)<=most))/\Grow h0 h':=by
 obtain⟨nv,rfl,hN⟩:=hv
 obtain⟨mv,rfl,hM⟩:=hu
 refine H.go (fn:=F_good) rfl (by decide) rfl rfl ?_
 unfold F_good
 dsimp only[qQ,gQ,gE,tm,mt,jn,jb,jl,jc,jo,jR,jS]
 refine zAv (zBC ?_)
 refine zAm e1 cc hw ?_
 rintro b2 h2 hb2 g2 o2
 refine zAm e1 cc g2.wf ?_
 rintro b3 h3 hb3 g3 o3
 replace o2:=g3.keep _ _ o2
 have g03:=g2.trans g3
 repeat refine zR ?_
 refine zAJ s1 ((Great_ok H g hg _ h3 g3.wf ⟨nv,rfl,hN.mono g03⟩).mono ?_)
 rintro _ h4 ⟨rfl,g4⟩
 replace o3:=g4.keep _ _ o3
 have g04:=g03.trans g4
 cases h1:decide ((zCv g:Int)<=most)
 ·repeat' first|refine zG ?_|(with_reducible apply zAD;exact e1;all_goals intro _)
  exact⟨rfl,g04⟩
 ·repeat refine zR ?_
  refine zAr e1 s1 ((Great_ok H h hh _ h4 g4.wf ⟨mv,rfl,hM.mono g04⟩).mono ?_)
  rintro _ h5 ⟨rfl,g5⟩
  repeat' first|refine zG ?_|(with_reducible apply zAD;exact e1;all_goals intro _)
  exact⟨rfl,g04.trans g5⟩
theorem Free_ok(g:Graph)(hg:GTi g)(v:AVal)(h:AHeap)(hw:WF h)(hv:GraphAt h v g):Cl fns summ 30 [v] h fun r h'=>Built h' h.next 3 1 r (zOD g).length ((zOD g).map (AVal.int .i64))/\Grow h h':=by
 obtain⟨nv,rfl,hN⟩:=hv
 obtain⟨hOk,hNd⟩:=zCN g
 have hrl:=zGc hg.toGSm
 have e30:(2:Nat) ^ 30=1073741824:=by decide
 have e31:(2:Nat) ^ 31=2147483648:=by decide
 refine H.go (fn:=F_Free) rfl (by decide) rfl rfl ?_
 unfold F_Free
 dsimp only[qQ,qE,tm,mt,lo,fa,jv,jl,ji,je,jc,jo,jR,jS,jC,jL]
 refine zAv (zBC ?_)
 refine zAm e1 cc hw ?_
 rintro b1 h1 hb1 g1 o1
 have hpart:zAl (some 2) [nv,.int .i64 g.root] 0=some (.agg [nv,.int .i64 g.root]):=rfl
 repeat refine zR ?_
 refine zAJ s1 ((Reach_ok H g hg.toGSm _ h1 g1.wf ⟨nv,rfl,hN.mono g1⟩).mono ?_)
 rintro rv h2 ⟨B2,g2⟩
 replace o1:=g2.keep _ _ o1
 have g02:=g1.trans g2
 have hR:=zBm B2
 have hlr:=B2.len
 have n2:=g1.next
 repeat refine zR ?_
 refine zBR (N:=(zAG g).length) (fun j a hp=>∃vx,Grow h2 hp/\Built hp h2.next 3 1 vx (((zAG g).take j).filter fun i=>zCY (zAA g i)).length ((((zAG g).take j).filter fun i=>zCY (zAA g i)).map (AVal.int .i64))/\a.defers=[]/\ev a (.tmp 1)=some (.ptr (some (b1,0)))/\ev a (.tmp 6)=some rv/\ev a (.tmp 2)=some vx) ?_ ?_ ⟨.slice none 0,Grow.refl g2.wf,.inl ⟨rfl,by simp,by simp⟩,n1,e1,e1,e1⟩
 ·rintro j a hp hj ⟨vx,gp,B,hd,h1',h6',h2'⟩ hi hn
  have hc:(zAG g)[j]?=some (zAG g)[j]:=List.getElem?_eq_getElem hj
  obtain⟨a0,a1⟩:=hOk _ (List.getElem_mem hj)
  obtain⟨k,hk,hkN,hnk⟩:=zFI a0 a1
  obtain⟨bb,ob,verb,rb,eb,vsb,hix,hget0,hvo⟩:=hR.at hc
  have hget:=gp.keep _ _ hget0
  obtain⟨bn,on,vern,ron,en,vsn,av,lv,hixn,hgn0,hvl,hv5,_,_,_,_,_,ha,hl⟩:=hN.at (List.getElem?_eq_getElem hkN)
  have hgn:=(g02.trans gp).keep _ _ hgn0
  have o1p:=gp.keep _ _ o1
  have hpart5:zAl (some 5) vsn on=some (zCF g.nodes[k] av lv):=by rw[zAl,if_pos hvl,hv5];rfl
  have hts:((zAG g).take (j+1)).filter (fun i=>zCY (zAA g i))=((zAG g).take j).filter (fun i=>zCY (zAA g i))++(if zCY g.nodes[k] then [(k:Int)] else []):=by
   rw[List.take_succ_eq_append_getElem hj,List.filter_append,hk]
   congr 1
   rw[hk] at hnk
   rw[List.filter_cons,hnk]
   cases zCY g.nodes[k]<;>rfl
  have hlen:(((zAG g).take j).filter fun i=>zCY (zAA g i)).length<=j:=by
   have:=List.length_filter_le (fun i=>zCY (zAA g i)) ((zAG g).take j)
   rw[List.length_take] at this;omega
  have hroom:=zCO H (b:=8) (by decide) (k:=(((zAG g).take j).filter fun i=>zCY (zAA g i)).length+1) (by omega)
  rw[hk] at hvo
  replace hts:=Hid.mk hts
  clear hk hnk hc a0 a1 o1 hgn0 hget0
  repeat refine zR ?_
  refine zAJ s1 ((zMG H g.nodes[k] av lv hp gp.wf).mono ?_)
  rintro _ h4 ⟨rfl,g4⟩
  have B4:=B.grow g4
  have gp4:=gp.trans g4
  cases hf:zCY g.nodes[k]
  ·have hts':=hts.out
   rw[hf] at hts'
   simp only[Bool.false_eq_true,if_false,zlE] at hts'
   replace hts':=Hid.mk hts'
   repeat refine zR ?_
   exact⟨⟨vx,gp4,by rw[hts'.out];exact B4,n1,e1,e1,e1⟩,e1,e1⟩
  ·have hts':=hts.out
   rw[hf] at hts'
   simp only[if_true] at hts'
   replace hts':=Hid.mk hts'
   repeat refine zR ?_
   refine zAW e1 cc rfl rfl gp4.wf ?_
   rintro bx h5 hbx g5 ox
   refine zAi e1 e1 (B4.grow g5) ox rfl rfl hroom g5.wf (by have:=gp4.next;have:=g5.next;omega) ?_
   rintro vx' h6 B6 f6 w6 n6 gr6 kp6
   have G6:=gr6 h2 g2.wf (gp4.trans g5) (Nat.le_refl _)
   clear kp6 gr6 f6 ox hix hget hvo hixn hgn hpart5 hv5
   repeat refine zR ?_
   exact⟨⟨vx',G6,by rw[hts'.out,List.length_append,List.map_append];exact B6,n1,e1,e1,e1⟩,e1,e1⟩
 ·rintro a hp ⟨vx,gp,B,hd,h1',h6',h2'⟩
  rw[List.take_length] at B
  repeat' first|refine zG ?_|(with_reducible apply zAD;exact e1;all_goals intro _)
  exact⟨zAn B (by have:=g02.next;omega),g02.trans gp⟩
theorem Closed_ok(g:Graph)(hg:GTi g)(v:AVal)(h:AHeap)(hw:WF h)(hv:GraphAt h v g):Cl fns summ 14 [v] h fun r h'=>r=.bool (zHX g)/\Grow h h':=by
 obtain⟨nv,rfl,hN⟩:=hv
 refine H.go (fn:=F_Closed) rfl (by decide) rfl rfl ?_
 unfold F_Closed
 dsimp only[qQ,gQ,gE,vi,tm,mt,jk,jb,jl,jc,jo,jR,jS]
 refine zAv (zBC ?_)
 refine zAm e1 cc hw ?_
 rintro b1 h1 hb1 g1 o1
 have hpart:zAl (some 2) [nv,.int .i64 g.root] 0=some (.agg [nv,.int .i64 g.root]):=rfl
 repeat refine zR ?_
 refine zAJ s1 ((Check_ok H g hg.toGraphSm _ h1 g1.wf ⟨nv,rfl,hN.mono g1⟩).mono ?_)
 rintro _ h2 ⟨rfl,g2⟩
 replace o1:=g2.keep _ _ o1
 have g02:=g1.trans g2
 cases hck:(zAB g==0)
 ·repeat' first|refine zG ?_|(with_reducible apply zAD;exact e1;all_goals intro _)
  exact⟨by rw[zHX,hck];rfl,g02⟩
 ·repeat refine zR ?_
  refine zAr e1 s1 ((Free_ok H g hg _ h2 g2.wf ⟨nv,rfl,hN.mono g02⟩).mono ?_)
  rintro fv h3 ⟨B3,g3⟩
  have hlf:=B3.len
  have hz:((Int.ofNat (zOD g).length:Int)==0)=((zOD g).length==0):=by rw[Bool.eq_iff_iff];simp
  repeat' first|refine zG ?_|(with_reducible apply zAD;exact e1;all_goals intro _)
  exact⟨by rw[zHX,hck];rfl,g02.trans g3⟩
end
end Go.Ab.S
end
section
namespace Go.Ab.S
open Go.Ab
set_option maxHeartbeats 8000000
def vN:Node:=⟨1,[],[],[],false⟩
def intN:Node:=⟨2,[105,110,116],[],[],false⟩
def gA:Graph:=⟨[⟨2,[45,62],[1,2],[],false⟩,intN,intN],0⟩
def gB:Graph:=⟨[⟨2,[45,62],[1,1],[],false⟩,vN],0⟩
def gC:Graph:=⟨[⟨3,[],[1,2],[[109],[110]],false⟩,intN,intN],0⟩
def gD:Graph:=⟨[⟨3,[],[1],[[109]],true⟩,vN],0⟩
def sA:List Nat:=[105,110,116,32,45,62,32,105,110,116]
def sB:List Nat:=[39,97,32,45,62,32,39,97]
def sC:List Nat:=[60,32,109,32,58,32,105,110,116,32,59,32,110,32,58,32,105,110,116,32,62]
def sD:List Nat:=[60,32,109,32,58,32,39,97,32,59,32,46,46,32,62]
structure HasRead(summ:SumT):Prop where
 read:∀s G,(s,G)∈[(sA,gA),(sB,gB),(sC,gC),(sD,gD)]->∀h,WF h->∃v h',summ 18 [.str s] h=some (.ret (.tuple [v,.int .i64 0],h'))/\GraphAt h' v G/\Grow h h'
theorem zMe:GTi gA:=zJs (by decide) (by decide)
theorem zMf:GTi gB:=zJs (by decide) (by decide)
theorem tiny_C:GTi gC:=zJs (by decide) (by decide)
theorem tiny_D:GTi gD:=zJs (by decide) (by decide)
theorem al1:isF gB gA=true:=by decide+kernel
theorem al2:isF gA gB=false:=by decide+kernel
theorem al3:isF gD gC=true:=by decide+kernel
theorem al4:isF gC gD=false:=by decide+kernel
theorem al5:moreF gB gA=true:=by decide+kernel
theorem al6:zHX gA=true:=by decide+kernel
theorem al7:zHX gB=false:=by decide+kernel
theorem zHH{h:AHeap}{v:AVal}{g:Graph}(k:GraphAt h v g):∃nv,v=.agg [nv,.int .i64 g.root]/\NodesAt h nv g.nodes/\one nv=true:=by
 obtain⟨nv,rfl,hN⟩:=k
 exact⟨nv,rfl,hN,zAH hN.len⟩
section
variable{fns:FnsT}{summ:SumT}
variable(H:Has fns summ)(HR:HasRead summ)
include H HR
theorem zMk(h:AHeap)(hw:WF h):Cl fns summ 7 [] h fun r h'=>r=.bool true/\Grow h h':=by
 have a1:=Hid.mk al1
 have a2:=Hid.mk al2
 have a3:=Hid.mk al3
 have a4:=Hid.mk al4
 have a5:=Hid.mk al5
 have a6:=Hid.mk al6
 have a7:=Hid.mk al7
 have ht2:∀x y:AVal,List.take 2 [x,y]=[x,y]:=fun _ _=>rfl
 refine H.go (fn:=F_alive11) rfl (by decide) rfl rfl ?_
 unfold F_alive11
 dsimp only[qQ,qE,gQ,gE,tm,mt,lo,fa,jk,jb,js,je,jx,jG,jR,jS]
 repeat refine zR ?_
 obtain⟨vA,h1,r1',gA1,G1⟩:=HR.read sA gA (by simp) h hw
 refine zAJ s1 (zCH r1' ?_)
 rw[D.sat_ret]
 obtain⟨nA,rfl,NA,oA⟩:=zHH gA1
 repeat refine zR ?_
 refine zAS G1.wf ?_
 rintro b1 h2 (hb1:h1.next<=b1) (g2:Grow h1 h2) o1
 refine zAE (v:=.agg [nA,.int .i64 gA.root]) e1 e1 (cs:=[nA,.int .i64 gA.root]) rfl rfl g2.wf o1 (by simp) (by simp only[List.all_cons,List.all_nil,oA,Bool.and_true];rfl) ?_
 rintro v3 h3 p3 o1'
 simp only[lL,Nat.reduceAdd] at o1'
 have G3:=p3.grow h hw (G1.trans g2) (by have:=G1.next;omega)
 have NA3:NodesAt h3 nA gA.nodes:=NA.mono (p3.grow h1 G1.wf g2 hb1)
 clear p3 o1 g2 NA gA1
 repeat refine zR ?_
 obtain⟨vB,h4,r2',gB1,G4⟩:=HR.read sB gB (by simp) h3 G3.wf
 refine zAJ s1 (zCH r2' ?_)
 rw[D.sat_ret]
 obtain⟨nB,rfl,NB,oB⟩:=zHH gB1
 replace o1':=G4.keep _ _ o1'
 have G04:=G3.trans G4
 repeat refine zR ?_
 refine zAS G4.wf ?_
 rintro b3 h5 (hb3:h4.next<=b3) (g5:Grow h4 h5) o3
 refine zAE (v:=.agg [nB,.int .i64 gB.root]) e1 e1 (cs:=[nB,.int .i64 gB.root]) rfl rfl g5.wf o3 (by simp) (by simp only[List.all_cons,List.all_nil,oB,Bool.and_true];rfl) ?_
 rintro v6 h6 p6 o3'
 simp only[lL,Nat.reduceAdd] at o3'
 have G6':=p6.grow h4 G4.wf g5 hb3
 have G6:=G04.trans G6'
 replace o1':=G6'.keep _ _ o1'
 have NA6:=NA3.mono (G4.trans G6')
 have NB6:=NB.mono G6'
 clear p6 o3 g5 NB gB1 NA3 G3 G1 r1'
 repeat refine zR ?_
 obtain⟨vC,h7,r3',gC1,G7⟩:=HR.read sC gC (by simp) h6 G6.wf
 refine zAJ s1 (zCH r3' ?_)
 rw[D.sat_ret]
 obtain⟨nC,rfl,NC,oC⟩:=zHH gC1
 replace o1':=G7.keep _ _ o1'
 replace o3':=G7.keep _ _ o3'
 repeat refine zR ?_
 refine zAS G7.wf ?_
 rintro b5 h8 (hb5:h7.next<=b5) (g8:Grow h7 h8) o5
 refine zAE (v:=.agg [nC,.int .i64 gC.root]) e1 e1 (cs:=[nC,.int .i64 gC.root]) rfl rfl g8.wf o5 (by simp) (by simp only[List.all_cons,List.all_nil,oC,Bool.and_true];rfl) ?_
 rintro v9 h9 p9 o5'
 simp only[lL,Nat.reduceAdd] at o5'
 have G9':=p9.grow h7 G7.wf g8 hb5
 have G79:=G7.trans G9'
 have G9:=G6.trans G79
 replace o1':=G9'.keep _ _ o1'
 replace o3':=G9'.keep _ _ o3'
 have NA9:=NA6.mono G79
 have NB9:=NB6.mono G79
 have NC9:=NC.mono G9'
 clear p9 o5 g8 NC gC1 NA6 NB6 r2' G04 G4 G6'
 repeat refine zR ?_
 obtain⟨vD,h10,r4',gD1,G10⟩:=HR.read sD gD (by simp) h9 G9.wf
 refine zAJ s1 (zCH r4' ?_)
 rw[D.sat_ret]
 obtain⟨nD,rfl,ND,oD⟩:=zHH gD1
 replace o1':=G10.keep _ _ o1'
 replace o3':=G10.keep _ _ o3'
 replace o5':=G10.keep _ _ o5'
 repeat refine zR ?_
 refine zAS G10.wf ?_
 rintro b7 h11 (hb7:h10.next<=b7) (g11:Grow h10 h11) o7
 refine zAE (v:=.agg [nD,.int .i64 gD.root]) e1 e1 (cs:=[nD,.int .i64 gD.root]) rfl rfl g11.wf o7 (by simp) (by simp only[List.all_cons,List.all_nil,oD,Bool.and_true];rfl) ?_
 rintro v12 h12 p12 o7'
 simp only[lL,Nat.reduceAdd] at o7'
 have G12':=p12.grow h10 G10.wf g11 hb7
 have G1012:=G10.trans G12'
 have G12:=G9.trans G1012
 replace o1':=G12'.keep _ _ o1'
 replace o3':=G12'.keep _ _ o3'
 replace o5':=G12'.keep _ _ o5'
 have NA:=NA9.mono G1012
 have NB:=NB9.mono G1012
 have NC:=NC9.mono G1012
 have ND:=ND.mono G12'
 have hlA:lenO nA=some 3:=NA.len
 clear p12 o7 g11 gD1 NA9 NB9 NC9 r3' r4' G7 G9' G79 G9 G10 G12' G1012 G6
 have hgt:decide (Int.ofNat 3>0)=true:=rfl
 have pA:zAl (some 2) [nA,.int .i64 gA.root] 0=some (.agg [nA,.int .i64 gA.root]):=rfl
 repeat refine zR ?_
 refine zAr e1 s1 ((Is_ok H gB gA zMf zMe _ _ h12 G12.wf ⟨nB,rfl,NB⟩ ⟨nA,rfl,NA⟩).mono ?_)
 rw[a1.out]
 rintro _ k1 ⟨rfl,g1⟩
 replace o1':=g1.keep _ _ o1';replace o3':=g1.keep _ _ o3';replace o5':=g1.keep _ _ o5';replace o7':=g1.keep _ _ o7'
 replace NA:=NA.mono g1;replace NB:=NB.mono g1;replace NC:=NC.mono g1;replace ND:=ND.mono g1;replace G12:=G12.trans g1;clear g1
 repeat refine zR ?_
 refine zAr e1 s1 ((Is_ok H gA gB zMe zMf _ _ k1 G12.wf ⟨nA,rfl,NA⟩ ⟨nB,rfl,NB⟩).mono ?_)
 rw[a2.out]
 rintro _ k2 ⟨rfl,g1⟩
 replace o1':=g1.keep _ _ o1';replace o3':=g1.keep _ _ o3';replace o5':=g1.keep _ _ o5';replace o7':=g1.keep _ _ o7'
 replace NA:=NA.mono g1;replace NB:=NB.mono g1;replace NC:=NC.mono g1;replace ND:=ND.mono g1;replace G12:=G12.trans g1;clear g1
 repeat refine zR ?_
 refine zAr e1 s1 ((Is_ok H gD gC tiny_D tiny_C _ _ k2 G12.wf ⟨nD,rfl,ND⟩ ⟨nC,rfl,NC⟩).mono ?_)
 rw[a3.out]
 rintro _ k3 ⟨rfl,g1⟩
 replace o1':=g1.keep _ _ o1';replace o3':=g1.keep _ _ o3';replace o5':=g1.keep _ _ o5';replace o7':=g1.keep _ _ o7'
 replace NA:=NA.mono g1;replace NB:=NB.mono g1;replace NC:=NC.mono g1;replace ND:=ND.mono g1;replace G12:=G12.trans g1;clear g1
 repeat refine zR ?_
 refine zAr e1 s1 ((Is_ok H gC gD tiny_C tiny_D _ _ k3 G12.wf ⟨nC,rfl,NC⟩ ⟨nD,rfl,ND⟩).mono ?_)
 rw[a4.out]
 rintro _ k4 ⟨rfl,g1⟩
 replace o1':=g1.keep _ _ o1';replace o3':=g1.keep _ _ o3';replace o5':=g1.keep _ _ o5';replace o7':=g1.keep _ _ o7'
 replace NA:=NA.mono g1;replace NB:=NB.mono g1;replace NC:=NC.mono g1;replace ND:=ND.mono g1;replace G12:=G12.trans g1;clear g1
 repeat refine zR ?_
 refine zAr e1 s1 ((More_ok H gB gA zMf zMe _ _ k4 G12.wf ⟨nB,rfl,NB⟩ ⟨nA,rfl,NA⟩).mono ?_)
 rw[a5.out]
 rintro _ k5 ⟨rfl,g1⟩
 replace o1':=g1.keep _ _ o1';replace o3':=g1.keep _ _ o3';replace o5':=g1.keep _ _ o5';replace o7':=g1.keep _ _ o7'
 replace NA:=NA.mono g1;replace NB:=NB.mono g1;replace NC:=NC.mono g1;replace ND:=ND.mono g1;replace G12:=G12.trans g1;clear g1
 repeat refine zR ?_
 refine zAr e1 s1 ((Closed_ok H gA zMe _ k5 G12.wf ⟨nA,rfl,NA⟩).mono ?_)
 rw[a6.out]
 rintro _ k6 ⟨rfl,g1⟩
 replace o1':=g1.keep _ _ o1';replace o3':=g1.keep _ _ o3';replace o5':=g1.keep _ _ o5';replace o7':=g1.keep _ _ o7'
 replace NA:=NA.mono g1;replace NB:=NB.mono g1;replace NC:=NC.mono g1;replace ND:=ND.mono g1;replace G12:=G12.trans g1;clear g1
 repeat refine zR ?_
 refine zAr e1 s1 ((Closed_ok H gB zMf _ k6 G12.wf ⟨nB,rfl,NB⟩).mono ?_)
 rw[a7.out]
 rintro _ k7 ⟨rfl,g1⟩
 replace G12:=G12.trans g1
 repeat' first|refine zG ?_|(with_reducible apply zAD;exact e1;all_goals intro _)
 exact⟨rfl,G12⟩
end
end Go.Ab.S
end
section
namespace Go.Ab.S
open Go.Ab
set_option maxHeartbeats 8000000
section
variable{fns:FnsT}{summ:SumT}
variable(H:Has fns summ)
include H
theorem Same_ok(g h:Graph)(hg:GTi g)(hh:GTi h)(v u:AVal)(h0:AHeap)(hw:WF h0)(hv:GraphAt h0 v g)(hu:GraphAt h0 u h):Cl fns summ 12 [v,u] h0 fun r h'=>r=.bool (zGO g h)/\Grow h0 h':=by
 obtain⟨nv,rfl,hN⟩:=hv
 obtain⟨mv,rfl,hM⟩:=hu
 have hlen:=hN.len
 have hlem:=hM.len
 refine H.go (fn:=F_Same) rfl (by decide) rfl rfl ?_
 unfold F_Same
 dsimp only[qQ,qE,qN,gQ,gE,vi,tm,mt,lo,fa,jk,jv,jb,jl,js,ji,je,jc,jd,jx,jo,jt,jN,jR,jS,jC,jL]
 refine zAv (zBC ?_)
 refine zAm e1 cc hw ?_
 rintro b2 h2 hb2 g2 o2
 refine zAm e1 cc g2.wf ?_
 rintro b3 h3 hb3 g3 o3
 replace o2:=g3.keep _ _ o2
 have g03:=g2.trans g3
 have hpart:zAl (some 2) [nv,.int .i64 g.root] 0=some (.agg [nv,.int .i64 g.root]):=rfl
 have hpart':zAl (some 2) [mv,.int .i64 h.root] 0=some (.agg [mv,.int .i64 h.root]):=rfl
 repeat refine zR ?_
 refine zAJ s1 ((Check_ok H g hg.toGraphSm _ h3 g3.wf ⟨nv,rfl,hN.mono g03⟩).mono ?_)
 rintro _ h4 ⟨rfl,g4⟩
 replace o2:=g4.keep _ _ o2
 replace o3:=g4.keep _ _ o3
 have g04:=g03.trans g4
 cases hck:(zAB g != 0)
 ·have hcg:zAB g=0:=by simpa using hck
  replace hcg:=Hid.mk hcg
  repeat refine zR ?_
  refine zAr e1 s1 ((Check_ok H h hh.toGraphSm _ h4 g4.wf ⟨mv,rfl,hM.mono g04⟩).mono ?_)
  rintro _ h5 ⟨rfl,g5⟩
  replace o2:=g5.keep _ _ o2
  replace o3:=g5.keep _ _ o3
  have g05:=g04.trans g5
  cases hch:(zAB h != 0)
  ·have hchh:zAB h=0:=by simpa using hch
   replace hchh:=Hid.mk hchh
   have hres:zGO g h=zDE (okS g h) (nxS g h) (badS g) (2+zCb (nxS g h) [] (zBD g h)) [(g.root,h.root)] []:=by
    have h1:(zAB g==0)=true:=by rw[hcg.out];rfl
    have h2:(zAB h==0)=true:=by rw[hchh.out];rfl
    rw[zGO,h1,h2];rfl
   replace hres:=Hid.mk hres
   repeat refine zR ?_
   refine zDD (.inl rfl) g5.wf ?_
   rintro r5 h6 hr5 g6 o5
   replace o2:=g6.keep _ _ o2
   replace o3:=g6.keep _ _ o3
   have g06:=g05.trans g6
   have l5:=g6.wf.lt o5
   repeat refine zR ?_
   refine zDD (.inl rfl) g6.wf ?_
   rintro r6 h7 (hr6:h6.next<=r6) g7 o6
   replace o2:=g7.keep _ _ o2
   replace o3:=g7.keep _ _ o3
   replace o5:=g7.keep _ _ o5
   have l6:=g7.wf.lt o6
   refine zDD (.inl rfl) g7.wf ?_
   rintro r7 h8 (hr7:h7.next<=r7) g8 o7
   replace o2:=g8.keep _ _ o2
   replace o3:=g8.keep _ _ o3
   replace o5:=g8.keep _ _ o5
   replace o6:=g8.keep _ _ o6
   have g08:=(g06.trans g7).trans g8
   repeat refine zR ?_
   refine zAW (v:=.agg [.int .i64 g.root,.int .i64 h.root]) (cs:=[.int .i64 g.root,.int .i64 h.root]) e1 rfl rfl rfl g8.wf ?_
   rintro b8 h9 (hb8:h8.next<=b8) g9 o8
   have nx5:=g05.next
   have nx6:=g06.next
   have nx8:=g08.next
   have nx67:=g7.next
   have I0:SInv h0 b2 b3 r5 r6 r7 nv mv g h [(g.root,h.root)] [] [] [] (.slice (some (b8,0)) 1) h9:=
    ⟨g08.trans g9,⟨_,g9.keep _ _ o2⟩,⟨_,g9.keep _ _ o3⟩,⟨_,_,_,g9.keep _ _ o5,MP.zero⟩,⟨_,_,_,g9.keep _ _ o6,FA.zero⟩,⟨_,_,_,g9.keep _ _ o7,FA.zero⟩,.inr (.inr ⟨b8,_,_,by omega,rfl,o8,by simp[zBQ],rfl⟩),by omega,by omega,by omega,by omega,by omega,by omega⟩
   clear o2 o3 o5 o6 o7 o8 g2 g3 g4 g5 g6 g7 g8 g9 g03 g04 g05 g06 g08 hb2 hb3 hr5 hr6 hr7 hb8 nx5 nx6 nx8 nx67 l5 l6 hpart hpart' hck hch
   obtain⟨hcg⟩:=hcg
   obtain⟨hchh⟩:=hchh
   obtain⟨hres⟩:=hres
   have hrg:=zAQ hcg
   have hrh:=zAQ hchh
   have hroot:(g.root,h.root)∈zBD g h:=zAx.2 ⟨⟨hrg.1,hrg.2.1⟩,hrh.1,hrh.2.1⟩
   have hsm:zCb (nxS g h) [] (zBD g h)<=2 ^ 36:=zIk hg hh fun p _=>by simp[nxS];omega
   replace hcg:=Hid.mk hcg
   replace hchh:=Hid.mk hchh
   replace hres:=Hid.mk hres
   clear hrg hrh
   repeat refine zR ?_
   with_reducible refine zBS ?_
   refine zCV (fun m a hp=>∃w met vw,SInv h0 b2 b3 r5 r6 r7 nv mv g h w met (flM g met) ((flM g met).map swP) vw hp/\w.length+zCb (nxS g h) met (zBD g h)<m/\w.length+zCb (nxS g h) met (zBD g h)<=1+zCb (nxS g h) [] (zBD g h)/\Hid (zGO g h=zDE (okS g h) (nxS g h) (badS g) m w met)/\(∀q∈w,q∈zBD g h)/\a.defers=[]∧
    ev a (.tmp 2)=some (.ptr (some (b2,0)))/\ev a (.tmp 3)=some (.ptr (some (b3,0)))/\ev a (.tmp 5)=some (.map (some r5))/\ev a (.tmp 6)=some (.map (some r6))/\ev a (.tmp 7)=some (.map (some r7))/\ev a (.tmp 8)=some vw) ?_ (n:=2+zCb (nxS g h) [] (zBD g h))
    ⟨_,_,_,I0,by simp,by simp,hres,by simpa using hroot,n1,e1,e1,e1,e1,e1,e1⟩
   clear I0 hres hroot
   rintro m a hp ⟨w,met,vw,I,hm,hB,hres,hwp,hd,h2',h3',h5',h6',h7',h8'⟩
   have hlw:=I.bw.len
   obtain⟨m,rfl⟩:∃m',m=m'+1:=⟨m - 1,by omega⟩
   cases w with
   |nil=>
    have hz:decide (Int.ofNat 0>0)=false:=rfl
    simp only[zlN] at hlw
    repeat' first|refine zG ?_|(with_reducible apply zAD;exact e1;all_goals intro _)
    exact⟨by rw[hres.out];rfl,I.grow⟩
   |cons p w=>
    have hpp:=hwp p (by simp)
    have hwp':∀q∈w,q∈zBD g h:=fun q hq=>hwp q (by simp[hq])
    obtain⟨⟨a0,a1⟩,b0,b1⟩:=zAx.1 hpp
    obtain⟨ka,hka,hkaN,hna⟩:=zFI a0 a1
    obtain⟨kb,hkb,hkbN,hnb⟩:=zFI b0 b1
    have hB36:w.length<=2 ^ 36:=by simp only[zlC] at hB;omega
    have e36:(2:Nat) ^ 36=68719476736:=by decide
    simp only[zlC] at hlw hm hB
    have hz:decide (Int.ofNat (w.length+1)>0)=true:=by simp
    have hw1:IntKind.i64.wrap (Int.ofNat (w.length+1) - 1)=(w.length:Int):=by
     simp only[Int.ofNat_eq_natCast]
     rw[zAc (by omega) (by omega)];omega
    obtain⟨bw,verw,vsw,rfl,hgw,hbw,⟨hpl,hpw⟩,Bw⟩:=zLL I.bw
    have hix:slA (.slice (some (bw,0)) (w.length+1)) 2 w.length=some (bw,w.length*2):=by simp[slA]
    have hpc:zBQ p=[.int .i64 (ka:Nat),.int .i64 (kb:Nat)]:=by rw[zBQ,hka,hkb]
    have hpe:p=((ka:Int),(kb:Int)):=by ext<;>assumption
    rw[hpc] at hpw
    have ht2:∀x y:AVal,List.take 2 [x,y]=[x,y]:=fun _ _=>rfl
    clear a0 a1 b0 b1 hwp
    repeat refine zR ?_
    refine zAS I.grow.wf ?_
    rintro b9 h6 hb9 g6 o9
    refine zAE e1 e1 (cs:=[.int .i64 (ka:Nat),.int .i64 (kb:Nat)]) rfl rfl g6.wf o9 (by simp) rfl ?_
    rintro v7 h7 p7 o9'
    simp only[lL,Nat.reduceAdd] at o9'
    have g7:Grow hp h7:=p7.grow hp I.grow.wf g6 hb9
    have I7:=(I.row Bw).other g7
    have hp9:zAl (some 2) [AVal.int .i64 (ka:Nat),.int .i64 (kb:Nat)] 0=some (.agg [.int .i64 (ka:Nat),.int .i64 (kb:Nat)]):=rfl
    clear o9 p7 g6 I Bw hgw hpw hpl hix
    repeat refine zR ?_
    refine zIw e1 e1 (by omega) ?_
    obtain⟨v5,es5,c5,o5,f5⟩:=I7.o5
    have hlk5:=f5.look o5 p
    rw[hpc] at hlk5
    cases hmet:met.contains p
    ·rw[hmet] at hlk5
     have hnm:p∉met:=by simpa using hmet
     repeat refine zR ?_
     have hf5:=f5.none hnm
     rw[hpc] at hf5
     refine zFb e1 e1 e1 (by intro hh;cases hh) rfl g7.wf o5 hf5 ?_
     rintro vy h8 py oy
     have fy:=f5.put (c:=c5) hnm
     rw[hpc] at fy
     have I8:=I7.put5 hw py oy fy
     have o9y:=py.kp o5 o9' rfl
     obtain⟨v2,o2⟩:=I8.o2
     obtain⟨v3,o3⟩:=I8.o3
     obtain⟨bn,on,vern,ron,en,vsn,av,lv,hixn,hgn0,hvl,hv5,_,_,_,_,_,hav,hlv⟩:=hN.at (List.getElem?_eq_getElem hkaN)
     obtain⟨bm,om,verm,rom,em,vsm,bv,mv',hixm,hgm0,hvlm,hv5m,_,_,_,_,_,hbv,hmv⟩:=hM.at (List.getElem?_eq_getElem hkbN)
     have hgn:=I8.grow.keep _ _ hgn0
     have hgm:=I8.grow.keep _ _ hgm0
     have hmem:=List.getElem_mem hkaN
     have hmem':=List.getElem_mem hkbN
     have hla:=hav.len
     have hll:=hlv.len
     have hlb:=hbv.len
     have hlm:=hmv.len
     clear hlk5 hf5 o5 o9' hgn0 hgm0 py oy
     repeat refine zR ?_
     refine zAk (zAS I8.grow.wf ?_)
     rintro b10 h10 hb10 g10 o10
     have w10:=g10.wf
     refine zAN ⟨by simp[zAM,g10.keep _ _ o2,g10.keep _ _ o9y,g10.keep _ _ hgn,g10.keep _ _ o3,g10.keep _ _ hgm],?_⟩
     refine zAk (zAS w10 ?_)
     rintro b11 h11 (hb11:h10.next<=b11) g11 o11
     have g811:=g10.trans g11
     refine zAN ⟨by simp[zAM,g811.keep _ _ o2,g811.keep _ _ o9y,g811.keep _ _ hgn,g811.keep _ _ o3,g811.keep _ _ hgm],?_⟩
     have l10:=g10.wf.lt o10
     replace o10:=g11.keep _ _ o10
     have nx8:=g10.next
     refine zAk (zAE e1 e1 (cs:=[.int .i64 g.nodes[ka].kind,.str g.nodes[ka].name,av,lv,.bool g.nodes[ka].isOpen]) rfl rfl g11.wf o10 (by simp) (zBN hla hll) ?_)
     rintro v12 h12 p12 o12
     simp only[lL,Nat.reduceAdd] at o12
     have g12:Grow h8 h12:=p12.grow h8 I8.grow.wf g811 hb10
     have o11':=p12.keep b11 (by omega) _ o11
     refine zAN ⟨by simp[zAM,g12.keep _ _ o2,g12.keep _ _ o9y,g12.keep _ _ hgn,g12.keep _ _ o3,g12.keep _ _ hgm],?_⟩
     refine zAk (zAE e1 e1 (cs:=[.int .i64 h.nodes[kb].kind,.str h.nodes[kb].name,bv,mv',.bool h.nodes[kb].isOpen]) rfl rfl g12.wf o11' (by simp) (zBN hlb hlm) ?_)
     rintro v13 h13 p13 o13
     simp only[lL,Nat.reduceAdd] at o13
     have g13:Grow h8 h13:=p13.grow h8 I8.grow.wf g12 (by omega)
     have o10':=p13.keep b10 (by omega) _ o12
     refine zAN ⟨by simp[zAM,Nat.testBit],?_⟩
     have o9z:=g13.keep _ _ o9y
     have I13:=I8.other g13
     have ha13:=hav.mono I13.grow
     have hl13:=hlv.mono I13.grow
     have hb13:=hbv.mono I13.grow
     have hm13:=hmv.mono I13.grow
     have hp10:zAl (some 5) [.int .i64 g.nodes[ka].kind,.str g.nodes[ka].name,av,lv,.bool g.nodes[ka].isOpen] 0=some (zCF g.nodes[ka] av lv):=rfl
     have hp11:zAl (some 5) [.int .i64 h.nodes[kb].kind,.str h.nodes[kb].name,bv,mv',.bool h.nodes[kb].isOpen] 0=some (zCF h.nodes[kb] bv mv'):=rfl
     clear o2 o3 hgn hgm o9y o10 o11 o12 o11' p12 p13 g10 g11 g12 g811 hixn hixm hvl hv5 hvlm hv5m w10 hb10 hb11 l10 nx8 I7 I8
     repeat refine zR ?_
     refine zAJ s1 ((alike_ok H g.nodes[ka] h.nodes[kb] (hg.all _ hmem) av lv bv mv' h13 I13.grow.wf ha13 hl13 hb13 hm13).mono ?_)
     rintro _ h14 ⟨rfl,g14⟩
     have I14:=I13.other g14
     replace o9z:=g14.keep _ _ o9z
     replace o10':=g14.keep _ _ o10'
     replace o13:=g14.keep _ _ o13
     have hokp:okS g h p=zEg g.nodes[ka] h.nodes[kb]:=by rw[okS,hna,hnb]
     cases hal:zEg g.nodes[ka] h.nodes[kb]
     ·repeat' first|refine zG ?_|(with_reducible apply zAD;exact e1;all_goals intro _)
      refine⟨?_,I14.grow⟩
      rw[hres.out,zDE,hmet,hokp,hal];rfl
     ·repeat refine zR ?_
      refine zAJ s1 ((zMG H g.nodes[ka] av lv h14 I14.grow.wf).mono ?_)
      rintro _ h15 ⟨rfl,g15⟩
      have I15:=I14.other g15
      replace o9z:=g15.keep _ _ o9z
      replace o10':=g15.keep _ _ o10'
      replace o13:=g15.keep _ _ o13
      have hxy:Hid (g.nodes[ka].args.length=h.nodes[kb].args.length):=⟨by
       simp only[zEg,Bool.and_eq_true,beq_iff_eq] at hal
       exact hal.1.2⟩
      have hokt:=Hid.mk (hokp.trans hal)
      clear I13 I14 g14 g15 ha13 hl13 hb13 hm13 hal hokp
      have hfre:zCY (zAA g p.1)=zCY g.nodes[ka]:=by rw[hna]
      refine zAN (zAf ?_)
      refine zEP (fun a hq=>SInv h0 b2 b3 r5 r6 r7 nv mv g h w (met++[p]) (flM g (met++[p])) ((flM g (met++[p])).map swP) (.slice (some (bw,0)) w.length) hq/\met.any (badS g p)=false/\(∃ver,hq.objs.get b10=some (ver,.cells false 34 [.int .i64 g.nodes[ka].kind,.str g.nodes[ka].name,av,lv,.bool g.nodes[ka].isOpen]))/\(∃ver,hq.objs.get b11=some (ver,.cells false 34 [.int .i64 h.nodes[kb].kind,.str h.nodes[kb].name,bv,mv',.bool h.nodes[kb].isOpen]))/\a.defers=[]∧
       ev a (.tmp 2)=some (.ptr (some (b2,0)))/\ev a (.tmp 3)=some (.ptr (some (b3,0)))/\ev a (.tmp 5)=some (.map (some r5))/\ev a (.tmp 6)=some (.map (some r6))/\ev a (.tmp 7)=some (.map (some r7))/\ev a (.tmp 8)=some (.slice (some (bw,0)) w.length)/\ev a (.tmp 10)=some (.ptr (some (b10,0)))/\ev a (.tmp 11)=some (.ptr (some (b11,0)))) ?_ ?_
      ·cases hf:zCY g.nodes[ka]
       ·rw[hf] at hfre
        have hfl:flM g (met++[p])=flM g met:=by rw[zOB,hfre];simp
        have hbad:=bad_none (met:=met) hfre
        repeat refine zR ?_
        exact⟨by rw[hfl];exact I15,hbad,⟨_,o10'⟩,⟨_,o13⟩,n1,e1,e1,e1,e1,e1,e1,e1,e1⟩
       ·rw[hf] at hfre
        have hfl:flM g (met++[p])=flM g met++[p]:=by rw[zOB,hfre];simp
        have hany:=bad_any hnm hfre
        obtain⟨v6,es6,c6,o6,f6⟩:=I15.o6
        obtain⟨v7',es7,c7,o7,f7⟩:=I15.o7
        obtain⟨xb,hlk6,hxb⟩:=f6.look o6 p.1
        obtain⟨xa,hlk7,hxa⟩:=f7.look o7 p.2
        cases hb1:(flM g met).any fun q=>q.1==p.1
        ·cases hb2:((flM g met).map swP).any fun q=>q.1==p.2
         ·rw[hb1,hka] at hlk6
          rw[hb2,hkb] at hlk7
          rw[hb1,hb2] at hany
          have hn6:=f6.none (a:=p.1) fun q hq hh=>by
           have:=List.any_eq_false.1 hb1 q hq
           simp[hh] at this
          have hn7:=f7.none (a:=p.2) fun q hq hh=>by
           have:=List.any_eq_false.1 hb2 q hq
           simp[hh] at this
          rw[hka] at hn6
          rw[hkb] at hn7
          have F6:=f6.put (c:=c6) (p:=p) fun q hq hh=>by
           have:=List.any_eq_false.1 hb1 q hq
           simp[hh] at this
          have F7:=f7.put (c:=c7) (p:=swP p) fun q hq hh=>by
           have:=List.any_eq_false.1 hb2 q hq
           simp[hh,swP] at this
          simp only[swP] at F7
          rw[hka,hkb] at F6 F7
          replace hany:=Hid.mk hany
          clear hb1 hb2 hxa hxb f6 f7
          repeat refine zR ?_
          refine zAk (zFb e1 e1 e1 (by intro hh;cases hh) rfl I15.grow.wf o6 hn6 ?_)
          rintro vy hy py oy
          have o7y:=py.keep _ (Ne.symm I15.low.2.2.2.2.2) _ o7
          have Iy:=I15.put6 hw py oy F6
          have o9q:=py.kp o6 o9z rfl
          refine zAN ⟨by simp[zAM,Nat.testBit,o9q],?_⟩
          refine zAk (zFb e1 e1 e1 (by intro hh;cases hh) rfl Iy.grow.wf o7y hn7 ?_)
          rintro vz hz' pz oz
          have Iz:=Iy.put7 hw pz oz F7
          refine zAN ⟨by simp[zAM,Nat.testBit],?_⟩
          have o10z:=pz.kp o7y (py.kp o6 o10' rfl) rfl
          have o13z:=pz.kp o7y (py.kp o6 o13 rfl) rfl
          clear o9q o7y py pz oy oz hn6 hn7 hlk6 hlk7 F6 F7
          repeat refine zR ?_
          refine⟨?_,by rw[hany.out];rfl,⟨_,o10z⟩,⟨_,o13z⟩,n1,e1,e1,e1,e1,e1,e1,e1,e1⟩
          rw[hfl,List.map_append]
          have hps:List.map swP [p]=[((kb:Int),(ka:Int))]:=by rw[hpe];rfl
          rw[hps]
          exact Iz
         ·rw[hb1,hka] at hlk6
          rw[hb2,hkb] at hlk7
          have hne:(xa != (ka:Int))=true:=by
           obtain⟨q,hq,hq1,hq2⟩:=hxa hb2
           obtain⟨q',hq',rfl⟩:=List.mem_map.1 hq
           simp only[swP] at hq1 hq2
           rw[bne_iff_ne]
           rintro rfl
           refine hnm ?_
           have:q'=p:=by ext<;>simp_all
           rw[<-this];exact(List.mem_filter.1 hq').1
          have hne2:met.any (badS g p)=true:=by rw[hany,hb2];simp
          clear hany hb1 hb2 hxa hxb f6 f7
          replace hne2:=Hid.mk hne2
          repeat' first|refine zG ?_|(with_reducible apply zAD;exact e1;all_goals intro _)
          refine⟨?_,I15.grow⟩
          rw[hres.out,zDE,hmet,hne2.out];simp
        ·rw[hb1,hka] at hlk6
         rw[hkb] at hlk7
         have hne:(xb != (kb:Int))=true:=by
          obtain⟨q,hq,hq1,hq2⟩:=hxb hb1
          rw[bne_iff_ne]
          rintro rfl
          refine hnm ?_
          have:q=p:=by ext<;>simp_all
          rw[<-this];exact(List.mem_filter.1 hq).1
         have hne2:met.any (badS g p)=true:=by rw[hany,hb1];simp
         clear hany hb1 hxa hxb f6 f7
         replace hne2:=Hid.mk hne2
         generalize (((flM g met).map swP).any fun q=>q.1==p.2)=hb2 at hlk7
         repeat' first|refine zG ?_|(with_reducible apply zAD;exact e1;all_goals intro _)
         refine⟨?_,I15.grow⟩
         rw[hres.out,zDE,hmet,hne2.out];simp
      ·clear I15 o9z o10' o13 hd h2' h3' h5' h6' h7' h8'
       rintro a hq ⟨I,hbad,o10,o11,hd,h2',h3',h5',h6',h7',h8',h10',h11'⟩
       refine zAf ?_
       have hax:g.nodes[ka].args.length<=4096:=by
        have:=hg.tinyA _ hmem
        omega
       refine push_ok hw I o10 o11 hav hbv hxy.out hax hB36 hd h2' h3' h5' h6' h7' h8' h10' h11' ?_
       clear I o10 o11 hd h2' h3' h5' h6' h7' h8' h10' h11' hax
       intro a hr vw' I hd h2' h3' h5' h6' h7' h8'
       have hnx:nxS g h p=(List.zip g.nodes[ka].args h.nodes[kb].args).reverse:=by rw[nxS,hna,hnb]
       have hput:=zGC (nxS g h) hmet hpp
       rw[<-hnx] at I
       repeat refine zR ?_
       refine⟨m,by omega,_,_,vw',I,by rw[List.length_append];omega,by rw[List.length_append];omega,⟨?_⟩,?_,n1,e1,e1,e1,e1,e1,e1⟩
       ·rw[hres.out,zDE,hmet,hokt.out,hbad];rfl
       ·intro q hq'
        rcases List.mem_append.1 hq' with hq'|hq'
        ·exact nxS_in hcg.out hchh.out hpp q hq'
        ·exact hwp' q hq'
    ·rw[hmet] at hlk5
     repeat refine zR ?_
     refine⟨m,by omega,w,met,_,I7,by omega,by omega,⟨by rw[hres.out,zDE,hmet];rfl⟩,hwp',n1,e1,e1,e1,e1,e1,e1⟩
  ·repeat' first|refine zG ?_|(with_reducible apply zAD;exact e1;all_goals intro _)
   refine⟨?_,g05⟩
   have h2:(zAB h==0)=false:=by simpa using hch
   rw[zGO,h2];simp
 ·repeat' first|refine zG ?_|(with_reducible apply zAD;exact e1;all_goals intro _)
  refine⟨?_,g04⟩
  have h1:(zAB g==0)=false:=by simpa using hck
  rw[zGO,h1];rfl
end
end Go.Ab.S
end
