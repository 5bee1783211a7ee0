import Derived.Test.YtpmndmiohaaokaaGreatDoorP13
import Derived.Test.YtpmndmiohaaokaaGreatDoorP17
import Derived.Test.YtpmndmiohaaokaaGreatDoorP18
/-
  Part 19 of the proof.
-/
set_option linter.all false
set_option maxHeartbeats 8000000
section
namespace Go.Ab.S
open Go.Ab
section
variable{fns:FnsT}{summ:SumT}
variable(H:Has fns summ)
include H
theorem Same_ok(g h:Graph)(hg:GTi g)(hh:GTi h)(v u:AVal)(h0:AHeap)(hw:WF h0)(hv:GraphAt h0 v g)(hu:GraphAt h0 u h):Cl fns summ 18 [v,u] h0 fun r h'=>r=.bool (zGc g h)/\Grow h0 h':=by
 obtain⟨nv,rfl,hN⟩:=hv;obtain⟨mv,rfl,hM⟩:=hu;have hlen:=hN.len;have hlem:=hM.len;refine H.go (fn:=F_Same) rfl (by decide) rfl rfl ?_;unfold F_Same;dsimp only[qQ,qE,qN,gQ,gE,vi,tm,mt,lo,fa,jk,jv,jb,jl,js,ji,je,jc,jd,jx,jo,jt,jN,jR,jS,jC,jL];refine zAu (zAz ?_);refine zAr e1 cc hw ?_;rintro b2 h2 hb2 g2 o2;refine zAr e1 cc g2.wf ?_;rintro b3 h3 hb3 g3 o3;replace o2:=g3.keep _ _ o2;have g03:=g2.trans g3;have hpart:zAk (some 2) [nv,.int .i64 g.root] 0=some (.agg [nv,.int .i64 g.root]):=rfl;have hpart':zAk (some 2) [mv,.int .i64 h.root] 0=some (.agg [mv,.int .i64 h.root]):=rfl;repeat refine zR ?_
 refine zAL s1 ((Check_ok H g hg.toGraphSm _ h3 g3.wf ⟨nv,rfl,hN.mono g03⟩).mono ?_);rintro _ h4 ⟨rfl,g4⟩;replace o2:=g4.keep _ _ o2;replace o3:=g4.keep _ _ o3;have g04:=g03.trans g4;cases hck:(zAB g != 0)
 ·have hcg:zAB g=0:=by simpa using hck
  replace hcg:=Hid.mk hcg;repeat refine zR ?_
  refine zBM e1 s1 ((Check_ok H h hh.toGraphSm _ h4 g4.wf ⟨mv,rfl,hM.mono g04⟩).mono ?_);rintro _ h5 ⟨rfl,g5⟩;replace o2:=g5.keep _ _ o2;replace o3:=g5.keep _ _ o3;have g05:=g04.trans g5;cases hch:(zAB h != 0)
  ·have ab:zAB h=0:=by simpa using hch
   replace ab:=Hid.mk ab;have aa:zGc g h=zEi (okS g h) (nxS g h) (badS g) (2+zDI (nxS g h) [] (zBg g h)) [(g.root,h.root)] []:=by
    have h1:(zAB g==0)=true:=by rw[hcg.out];rfl
    have h2:(zAB h==0)=true:=by rw[ab.out];rfl
    rw[zGc,h1,h2];rfl
   replace aa:=Hid.mk aa;repeat refine zR ?_
   refine zFY (.inl rfl) g5.wf ?_;rintro r5 h6 hr5 g6 o5;replace o2:=g6.keep _ _ o2;replace o3:=g6.keep _ _ o3;have g06:=g05.trans g6;have l5:=g6.wf.lt o5;repeat refine zR ?_
   refine zFY (.inl rfl) g6.wf ?_;rintro r6 h7 (hr6:h6.next<=r6) g7 o6;replace o2:=g7.keep _ _ o2;replace o3:=g7.keep _ _ o3;replace o5:=g7.keep _ _ o5;have l6:=g7.wf.lt o6;refine zFY (.inl rfl) g7.wf ?_;rintro r7 h8 (hr7:h7.next<=r7) g8 o7;replace o2:=g8.keep _ _ o2;replace o3:=g8.keep _ _ o3;replace o5:=g8.keep _ _ o5;replace o6:=g8.keep _ _ o6;have g08:=(g06.trans g7).trans g8;repeat refine zR ?_
   refine zAT (v:=.agg [.int .i64 g.root,.int .i64 h.root]) (cs:=[.int .i64 g.root,.int .i64 h.root]) e1 rfl rfl rfl g8.wf ?_;rintro b8 h9 (hb8:h8.next<=b8) g9 o8;have nx5:=g05.next;have nx6:=g06.next;have nx8:=g08.next;have nx67:=g7.next;have I0:SInv h0 b2 b3 r5 r6 r7 nv mv g h [(g.root,h.root)] [] [] [] (.slice (some (b8,0)) 1) h9:=
    ⟨g08.trans g9,⟨_,g9.keep _ _ o2⟩,⟨_,g9.keep _ _ o3⟩,⟨_,_,_,g9.keep _ _ o5,MP.zero⟩,⟨_,_,_,g9.keep _ _ o6,FA.zero⟩,⟨_,_,_,g9.keep _ _ o7,FA.zero⟩,.inr (.inr ⟨b8,_,_,by omega,rfl,o8,by simp[zCB],rfl⟩),by omega,by omega,by omega,by omega,by omega,by omega⟩
   clear o2 o3 o5 o6 o7 o8 g2 g3 g4 g5 g6 g7 g8 g9 g03 g04 g05 g06 g08 hb2 hb3 hr5 hr6 hr7 hb8 nx5 nx6 nx8 nx67 l5 l6 hpart hpart' hck hch;obtain⟨hcg⟩:=hcg;obtain⟨ab⟩:=ab;obtain⟨aa⟩:=aa;have hrg:=zAN hcg;have hrh:=zAN ab;have hroot:(g.root,h.root)∈zBg g h:=zBI.2 ⟨⟨hrg.1,hrg.2.1⟩,hrh.1,hrh.2.1⟩;have hsm:zDI (nxS g h) [] (zBg g h)<=2 ^ 36:=zNQ hg hh fun p _=>by simp[nxS];omega
   replace hcg:=Hid.mk hcg;replace ab:=Hid.mk ab;replace aa:=Hid.mk aa;clear hrg hrh;repeat refine zR ?_
   with_reducible refine zBT ?_
   refine zCS (fun m a hp=>∃w met vw,SInv h0 b2 b3 r5 r6 r7 nv mv g h w met (flM g met) ((flM g met).map swP) vw hp/\w.length+zDI (nxS g h) met (zBg g h)<m/\w.length+zDI (nxS g h) met (zBg g h)<=1+zDI (nxS g h) [] (zBg g h)/\Hid (zGc g h=zEi (okS g h) (nxS g h) (badS g) m w met)/\(∀q∈w,q∈zBg g h)/\a.defers=[]∧
    ev a (.tmp 2)=some (.ptr (some (b2,0)))/\ev a (.tmp 3)=some (.ptr (some (b3,0)))/\ev a (.tmp 5)=some (.map (some r5))/\ev a (.tmp 6)=some (.map (some r6))/\ev a (.tmp 7)=some (.map (some r7))/\ev a (.tmp 8)=some vw) ?_ (n:=2+zDI (nxS g h) [] (zBg g h))
    ⟨_,_,_,I0,by simp,by simp,aa,by simpa using hroot,n1,e1,e1,e1,e1,e1,e1⟩
   clear I0 aa hroot;rintro m a hp ⟨w,met,vw,I,hm,hB,aa,hwp,hd,h2',h3',h5',h6',h7',h8'⟩;have hlw:=I.bw.len;obtain⟨m,rfl⟩:∃m',m=m'+1:=⟨m - 1,by omega⟩;cases w with
   |nil=>
    have hz:decide (Int.ofNat 0>0)=false:=rfl;simp only[zlN] at hlw;repeat refine zG ?_
    exact⟨by rw[aa.out];rfl,I.grow⟩
   |cons p w=>
    have hpp:=hwp p (by simp);have hwp':∀q∈w,q∈zBg g h:=fun q hq=>hwp q (by simp[hq]);obtain⟨⟨a0,a1⟩,b0,b1⟩:=zBI.1 hpp;obtain⟨ka,hka,hkaN,hna⟩:=zJo a0 a1;obtain⟨kb,hkb,hkbN,hnb⟩:=zJo b0 b1;have hB36:w.length<=2 ^ 36:=by simp only[zlC] at hB;omega
    have e36:(2:Nat) ^ 36=68719476736:=by decide
    simp only[zlC] at hlw hm hB;have hz:decide (Int.ofNat (w.length+1)>0)=true:=by simp
    have hw1:IntKind.i64.wrap (Int.ofNat (w.length+1) - 1)=(w.length:Int):=by simp only[Int.ofNat_eq_natCast];rw[zAa (by omega) (by omega)];omega
    obtain⟨bw,verw,vsw,rfl,hgw,hbw,⟨hpl,hpw⟩,Bw⟩:=zPC I.bw;have hix:slA (.slice (some (bw,0)) (w.length+1)) 2 w.length=some (bw,w.length*2):=by simp[slA]
    have hpc:zCB p=[.int .i64 (ka:Nat),.int .i64 (kb:Nat)]:=by rw[zCB,hka,hkb]
    have hpe:p=((ka:Int),(kb:Int)):=by ext<;>assumption
    rw[hpc] at hpw;have ht2:∀x y:AVal,List.take 2 [x,y]=[x,y]:=fun _ _=>rfl;clear a0 a1 b0 b1 hwp;repeat refine zR ?_
    refine zAM I.grow.wf ?_;rintro b9 h6 hb9 g6 o9;refine zAC e1 e1 (cs:=[.int .i64 (ka:Nat),.int .i64 (kb:Nat)]) rfl rfl g6.wf o9 (by simp) rfl ?_;rintro v7 h7 p7 o9';simp only[lL,Nat.reduceAdd] at o9';have g7:Grow hp h7:=p7.grow hp I.grow.wf g6 hb9;have I7:=(I.row Bw).other g7;have hp9:zAk (some 2) [AVal.int .i64 (ka:Nat),.int .i64 (kb:Nat)] 0=some (.agg [.int .i64 (ka:Nat),.int .i64 (kb:Nat)]):=rfl;clear o9 p7 g6 I Bw hgw hpw hpl hix;repeat refine zR ?_
    refine zJL e1 e1 (by omega) ?_;obtain⟨v5,es5,c5,o5,f5⟩:=I7.o5;have hlk5:=f5.look o5 p;rw[hpc] at hlk5;cases ac:met.contains p
    ·rw[ac] at hlk5;have hnm:p∉met:=by simpa using ac
     repeat refine zR ?_
     have hf5:=f5.none hnm;rw[hpc] at hf5;refine zIT e1 e1 e1 (by intro hh;cases hh) rfl g7.wf o5 hf5 ?_;rintro vy h8 py oy;have fy:=f5.put (c:=c5) hnm;rw[hpc] at fy;have I8:=I7.put5 hw py oy fy;have o9y:=py.kp o5 o9' rfl;obtain⟨v2,o2⟩:=I8.o2;obtain⟨v3,o3⟩:=I8.o3;obtain⟨bn,on,vern,ron,en,vsn,av,lv,hixn,hgn0,hvl,hv5,_,_,_,_,_,hav,hlv⟩:=hN.at (zgG hkaN);obtain⟨bm,om,verm,rom,em,vsm,bv,mv',hixm,hgm0,hvlm,hv5m,_,_,_,_,_,hbv,hmv⟩:=hM.at (zgG hkbN);have hgn:=I8.grow.keep _ _ hgn0;have hgm:=I8.grow.keep _ _ hgm0;have hmem:=List.getElem_mem hkaN;have hmem':=List.getElem_mem hkbN;have hla:=hav.len;have hll:=hlv.len;have hlb:=hbv.len;have hlm:=hmv.len;clear hlk5 hf5 o5 o9' hgn0 hgm0 py oy;repeat refine zR ?_
     refine zAS (zAM I8.grow.wf ?_);rintro b10 h10 hb10 g10 o10;have w10:=g10.wf;refine zAK ⟨by simp[zAJ,g10.keep _ _ o2,g10.keep _ _ o9y,g10.keep _ _ hgn,g10.keep _ _ o3,g10.keep _ _ hgm],?_⟩;refine zAS (zAM w10 ?_);rintro b11 h11 (hb11:h10.next<=b11) g11 o11;have g811:=g10.trans g11;refine zAK ⟨by simp[zAJ,g811.keep _ _ o2,g811.keep _ _ o9y,g811.keep _ _ hgn,g811.keep _ _ o3,g811.keep _ _ hgm],?_⟩;have l10:=g10.wf.lt o10;replace o10:=g11.keep _ _ o10;have nx8:=g10.next;refine zAS (zAC e1 e1 (cs:=[.int .i64 g.nodes[ka].kind,.str g.nodes[ka].name,av,lv,.bool g.nodes[ka].isOpen]) rfl rfl g11.wf o10 (by simp) (zBo hla hll) ?_);rintro v12 h12 p12 o12;simp only[lL,Nat.reduceAdd] at o12;have g12:Grow h8 h12:=p12.grow h8 I8.grow.wf g811 hb10;have o11':=p12.keep b11 (by omega) _ o11;refine zAK ⟨by simp[zAJ,g12.keep _ _ o2,g12.keep _ _ o9y,g12.keep _ _ hgn,g12.keep _ _ o3,g12.keep _ _ hgm],?_⟩;refine zAS (zAC e1 e1 (cs:=[.int .i64 h.nodes[kb].kind,.str h.nodes[kb].name,bv,mv',.bool h.nodes[kb].isOpen]) rfl rfl g12.wf o11' (by simp) (zBo hlb hlm) ?_);rintro v13 h13 p13 o13;simp only[lL,Nat.reduceAdd] at o13;have g13:Grow h8 h13:=p13.grow h8 I8.grow.wf g12 (by omega);have o10':=p13.keep b10 (by omega) _ o12;refine zAK ⟨by simp[zAJ,Nat.testBit],?_⟩;have o9z:=g13.keep _ _ o9y;have I13:=I8.other g13;have ha13:=hav.mono I13.grow;have hl13:=hlv.mono I13.grow;have hb13:=hbv.mono I13.grow;have hm13:=hmv.mono I13.grow;have hp10:zAk (some 5) [.int .i64 g.nodes[ka].kind,.str g.nodes[ka].name,av,lv,.bool g.nodes[ka].isOpen] 0=some (zBf g.nodes[ka] av lv):=rfl;have hp11:zAk (some 5) [.int .i64 h.nodes[kb].kind,.str h.nodes[kb].name,bv,mv',.bool h.nodes[kb].isOpen] 0=some (zBf h.nodes[kb] bv mv'):=rfl;clear o2 o3 hgn hgm o9y o10 o11 o12 o11' p12 p13 g10 g11 g12 g811 hixn hixm hvl hv5 hvlm hv5m w10 hb10 hb11 l10 nx8 I7 I8;repeat refine zR ?_
     refine zAL s1 ((zPj H g.nodes[ka] h.nodes[kb] (hg.all _ hmem) av lv bv mv' h13 I13.grow.wf ha13 hl13 hb13 hm13).mono ?_);rintro _ h14 ⟨rfl,g14⟩;have I14:=I13.other g14;replace o9z:=g14.keep _ _ o9z;replace o10':=g14.keep _ _ o10';replace o13:=g14.keep _ _ o13;have hokp:okS g h p=zCe g.nodes[ka] h.nodes[kb]:=by rw[okS,hna,hnb]
     cases hal:zCe g.nodes[ka] h.nodes[kb]
     ·repeat refine zG ?_
      refine⟨?_,I14.grow⟩;rw[aa.out,zEi,ac,hokp,hal];rfl
     ·repeat refine zR ?_
      refine zAL s1 ((zQN H g.nodes[ka] av lv h14 I14.grow.wf).mono ?_);rintro _ h15 ⟨rfl,g15⟩;have I15:=I14.other g15;replace o9z:=g15.keep _ _ o9z;replace o10':=g15.keep _ _ o10';replace o13:=g15.keep _ _ o13;have hxy:Hid (g.nodes[ka].args.length=h.nodes[kb].args.length):=⟨by
       simp only[zCe,Bool.and_eq_true,beq_iff_eq] at hal;exact hal.1.2⟩
      have hokt:=Hid.mk (hokp.trans hal);clear I13 I14 g14 g15 ha13 hl13 hb13 hm13 hal hokp;have hfre:zEo (zAA g p.1)=zEo g.nodes[ka]:=by rw[hna]
      refine zAK (zAd ?_);refine zEU (fun a hq=>SInv h0 b2 b3 r5 r6 r7 nv mv g h w (met++[p]) (flM g (met++[p])) ((flM g (met++[p])).map swP) (.slice (some (bw,0)) w.length) hq/\met.any (badS g p)=false/\(∃ver,hq.objs.get b10=some (ver,.cells false 36 [.int .i64 g.nodes[ka].kind,.str g.nodes[ka].name,av,lv,.bool g.nodes[ka].isOpen]))/\(∃ver,hq.objs.get b11=some (ver,.cells false 36 [.int .i64 h.nodes[kb].kind,.str h.nodes[kb].name,bv,mv',.bool h.nodes[kb].isOpen]))/\a.defers=[]∧
       ev a (.tmp 2)=some (.ptr (some (b2,0)))/\ev a (.tmp 3)=some (.ptr (some (b3,0)))/\ev a (.tmp 5)=some (.map (some r5))/\ev a (.tmp 6)=some (.map (some r6))/\ev a (.tmp 7)=some (.map (some r7))/\ev a (.tmp 8)=some (.slice (some (bw,0)) w.length)/\ev a (.tmp 10)=some (.ptr (some (b10,0)))/\ev a (.tmp 11)=some (.ptr (some (b11,0)))) ?_ ?_
      ·cases hf:zEo g.nodes[ka]
       ·rw[hf] at hfre;have hfl:flM g (met++[p])=flM g met:=by rw[zOZ,hfre];simp
        have hbad:=zPo (met:=met) hfre;repeat refine zR ?_
        exact⟨by rw[hfl];exact I15,hbad,⟨_,o10'⟩,⟨_,o13⟩,n1,e1,e1,e1,e1,e1,e1,e1,e1⟩
       ·rw[hf] at hfre;have hfl:flM g (met++[p])=flM g met++[p]:=by rw[zOZ,hfre];simp
        have ad:=zRq hnm hfre;obtain⟨v6,es6,c6,o6,f6⟩:=I15.o6;obtain⟨v7',es7,c7,o7,f7⟩:=I15.o7;obtain⟨xb,hlk6,hxb⟩:=f6.look o6 p.1;obtain⟨xa,hlk7,hxa⟩:=f7.look o7 p.2;cases hb1:(flM g met).any fun q=>q.1==p.1
        ·cases hb2:((flM g met).map swP).any fun q=>q.1==p.2
         ·rw[hb1,hka] at hlk6;rw[hb2,hkb] at hlk7;rw[hb1,hb2] at ad;have hn6:=f6.none (a:=p.1) fun q hq hh=>by
           have:=List.any_eq_false.1 hb1 q hq;simp[hh] at this
          have hn7:=f7.none (a:=p.2) fun q hq hh=>by have:=List.any_eq_false.1 hb2 q hq;simp[hh] at this
          rw[hka] at hn6;rw[hkb] at hn7;have F6:=f6.put (c:=c6) (p:=p) fun q hq hh=>by have:=List.any_eq_false.1 hb1 q hq;simp[hh] at this
          have F7:=f7.put (c:=c7) (p:=swP p) fun q hq hh=>by have:=List.any_eq_false.1 hb2 q hq;simp[hh,swP] at this
          simp only[swP] at F7;rw[hka,hkb] at F6 F7;replace ad:=Hid.mk ad;clear hb1 hb2 hxa hxb f6 f7;repeat refine zR ?_
          refine zAS (zIT e1 e1 e1 (by intro hh;cases hh) rfl I15.grow.wf o6 hn6 ?_);rintro vy hy py oy;have o7y:=py.keep _ (Ne.symm I15.low.2.2.2.2.2) _ o7;have Iy:=I15.put6 hw py oy F6;have o9q:=py.kp o6 o9z rfl;refine zAK ⟨by simp[zAJ,Nat.testBit,o9q],?_⟩;refine zAS (zIT e1 e1 e1 (by intro hh;cases hh) rfl Iy.grow.wf o7y hn7 ?_);rintro vz hz' pz oz;have Iz:=Iy.put7 hw pz oz F7;refine zAK ⟨by simp[zAJ,Nat.testBit],?_⟩;have o10z:=pz.kp o7y (py.kp o6 o10' rfl) rfl;have o13z:=pz.kp o7y (py.kp o6 o13 rfl) rfl;clear o9q o7y py pz oy oz hn6 hn7 hlk6 hlk7 F6 F7;repeat refine zR ?_
          refine⟨?_,by rw[ad.out];rfl,⟨_,o10z⟩,⟨_,o13z⟩,n1,e1,e1,e1,e1,e1,e1,e1,e1⟩;rw[hfl,List.map_append];have hps:List.map swP [p]=[((kb:Int),(ka:Int))]:=by rw[hpe];rfl
          rw[hps];exact Iz
         ·rw[hb1,hka] at hlk6;rw[hb2,hkb] at hlk7;have hne:(xa != (ka:Int))=true:=by
           obtain⟨q,hq,hq1,hq2⟩:=hxa hb2;obtain⟨q',hq',rfl⟩:=List.mem_map.1 hq;simp only[swP] at hq1 hq2;rw[bne_iff_ne];rintro rfl;refine hnm ?_;have:q'=p:=by ext<;>simp_all
           rw[<-this];exact(List.mem_filter.1 hq').1
          have hne2:met.any (badS g p)=true:=by rw[ad,hb2];simp
          clear ad hb1 hb2 hxa hxb f6 f7;replace hne2:=Hid.mk hne2;repeat refine zG ?_
          refine⟨?_,I15.grow⟩;rw[aa.out,zEi,ac,hne2.out];simp
        ·rw[hb1,hka] at hlk6;rw[hkb] at hlk7;have hne:(xb != (kb:Int))=true:=by
          obtain⟨q,hq,hq1,hq2⟩:=hxb hb1;rw[bne_iff_ne];rintro rfl;refine hnm ?_;have:q=p:=by ext<;>simp_all
          rw[<-this];exact(List.mem_filter.1 hq).1
         have hne2:met.any (badS g p)=true:=by rw[ad,hb1];simp
         clear ad hb1 hxa hxb f6 f7;replace hne2:=Hid.mk hne2;generalize (((flM g met).map swP).any fun q=>q.1==p.2)=hb2 at hlk7;repeat refine zG ?_
         refine⟨?_,I15.grow⟩;rw[aa.out,zEi,ac,hne2.out];simp
      ·clear I15 o9z o10' o13 hd h2' h3' h5' h6' h7' h8';rintro a hq ⟨I,hbad,o10,o11,hd,h2',h3',h5',h6',h7',h8',h10',h11'⟩;refine zAd ?_;have hax:g.nodes[ka].args.length<=4096:=by
        have:=hg.tinyA _ hmem;omega
       refine zSZ hw I o10 o11 hav hbv hxy.out hax hB36 hd h2' h3' h5' h6' h7' h8' h10' h11' ?_;clear I o10 o11 hd h2' h3' h5' h6' h7' h8' h10' h11' hax;intro a hr vw' I hd h2' h3' h5' h6' h7' h8';have hnx:nxS g h p=(List.zip g.nodes[ka].args h.nodes[kb].args).reverse:=by rw[nxS,hna,hnb]
       have hput:=zHt (nxS g h) ac hpp;rw[<-hnx] at I;repeat refine zR ?_
       refine⟨m,by omega,_,_,vw',I,by rw[zgL];omega,by rw[zgL];omega,⟨?_⟩,?_,n1,e1,e1,e1,e1,e1,e1⟩
       ·rw[aa.out,zEi,ac,hokt.out,hbad];rfl
       ·intro q hq';rcases List.mem_append.1 hq' with hq'|hq'
        ·exact zRe hcg.out ab.out hpp q hq'
        ·exact hwp' q hq'
    ·rw[ac] at hlk5;repeat refine zR ?_
     refine⟨m,by omega,w,met,_,I7,by omega,by omega,⟨by rw[aa.out,zEi,ac];rfl⟩,hwp',n1,e1,e1,e1,e1,e1,e1⟩
  ·repeat refine zG ?_
   refine⟨?_,g05⟩;have h2:(zAB h==0)=false:=by simpa using hch
   rw[zGc,h2];simp
 ·repeat refine zG ?_
  refine⟨?_,g04⟩;have h1:(zAB g==0)=false:=by simpa using hck
  rw[zGc,h1];rfl
end
end Go.Ab.S
end
section
namespace Go.Ab.S
open Go Go.Ab
def tP:List Nat:=[105,110,116,32,45,62,32,39,97]
def tQ:List Nat:=[39,98,32,45,62,32,39,98]
def tI:List Nat:=[105,110,116,32,45,62,32,105,110,116]
def tM:List Nat:=[60,32,109,32,58,32,105,110,116,32,59,32,46,46,32,62]
def tN:List Nat:=[60,32,110,32,58,32,105,110,116,32,62]
structure HasRead(summ:SumT):Prop where
 read:∀s G,(s,G)∈[(tP,gP),(tQ,gQb),(tI,gI),(tM,gM),(tN,gN)]->∀h,WF h->∃v h',summ 23 [.str s] h=some (.ret (.tuple [v,.int .i64 0],h'))/\GraphAt h' v G/\Grow h h'
theorem zFP{h:AHeap}{v:AVal}{g:Graph}(k:GraphAt h v g):∃nv,v=.agg [nv,.int .i64 g.root]/\NodesAt h nv g.nodes/\one nv=true:=by obtain⟨nv,rfl,hN⟩:=k;exact⟨nv,rfl,hN,zAD hN.len⟩
def MeetR(g h:Graph)(h0 h':AHeap)(r:AVal):Prop:=∃uv code,r=.tuple [uv,.int .i64 code]/\((code=0/\∃x,MR g h x/\OwnG h' h0.next uv x)\/(code≠0/\uv=.agg [.slice none 0,.int .i64 0]/\(zAB g=0->zAB h=0->code=8/\¬Consi (zAf g h) (zBC g h))))
theorem zQg{g h:Graph}{h0 h':AHeap}{uv:AVal}{code:Int}(hz:code≠0->uv=.agg [.slice none 0,.int .i64 0])(hc:(zAB g≠0/\code=zAB g)\/(zAB g=0/\zAB h≠0/\code=zAB h)\/(zAB g=0/\zAB h=0/\code=8/\¬Consi (zAf g h) (zBC g h))\/(zAB g=0/\zAB h=0/\code=0/\∃U R,UOut (zAf g h) (zBC g h) U R/\OwnG h' h0.next uv (zBS U))):
  MeetR g h h0 h' (.tuple [uv,.int .i64 code]):=by
 refine⟨uv,code,rfl,?_⟩;rcases hc with⟨k1,k2⟩|⟨k1,k2,k3⟩|⟨k1,k2,k3,k4⟩|⟨k1,k2,k3,U,R,O,own⟩
 ·have:code≠0:=by omega
  exact .inr ⟨this,hz this,fun h=>absurd h k1⟩
 ·have:code≠0:=by omega
  exact .inr ⟨this,hz this,fun _ h=>absurd h k2⟩
 ·have:code≠0:=by omega
  exact .inr ⟨this,hz this,fun _ _=>⟨k3,k4⟩⟩
 ·exact .inl ⟨k3,_,⟨U,R,O,rfl⟩,own⟩
section
variable{fns:FnsT}{summ:SumT}{ro:Option Nat}
theorem zLH{l:List Step}{a:AAct}{h:AHeap}{K:AAct->AHeap->Prop}(I:AAct->Prop)(hi:I a)(k:∀A,I A->St fns summ ro l A h K):St fns summ ro l a h K:=k a hi
end
section
variable{fns:FnsT}{summ:SumT}
variable(H:Has fns summ)(HS:HasSort summ)(HA:HasAs summ)
include H HS HA
theorem Meet'(g h:Graph)(sm:MeetSm g h){gv hv':AVal}{h0:AHeap}(w0:WF h0)(hv:GraphAt h0 gv g)(hu:GraphAt h0 hv' h):
  Cl fns summ 16 [gv,hv'] h0 fun r h'=>Grow h0 h'/\MeetR g h h0 h' r:=(Meet_ok H HS HA g h sm.g1 sm.h1 sm.b sm.l sm.s w0 hv hu).mono fun r h' ⟨h1,uv,code,h2,h3,h4⟩=>⟨h1,by rw[h2];exact zQg h3 h4⟩
variable(HR:HasRead summ)
include HR
theorem zND(h:AHeap)(hw:WF h):Cl fns summ 10 [] h fun r h'=>r=.bool true/\Grow h h':=by
 have ht2:∀x y:AVal,List.take 2 [x,y]=[x,y]:=fun _ _=>rfl;refine H.go (fn:=F_alive08) rfl (by decide) rfl rfl ?_;unfold F_alive08;dsimp only[qQ,qE,gQ,gE,vi,tm,mt,lo,fa,jk,jb,jl,js,je,jd,jx,jG,jR,jS];repeat refine zR ?_
 obtain⟨vP,h1,rP,gP1,G1⟩:=HR.read tP gP (by simp) h hw;refine zAL s1 (zDZ rP ?_);rw[D.sat_ret];dsimp only;obtain⟨nP,rfl,NP,oP⟩:=zFP gP1;repeat refine zR ?_
 refine zAM G1.wf ?_;rintro b1 h2 hb1 g2 o1;refine zAC (v:=.agg [nP,.int .i64 gP.root]) e1 e1 (cs:=[nP,.int .i64 gP.root]) rfl rfl g2.wf o1 (by simp) (by simp only[List.all_cons,List.all_nil,oP,Bool.and_true];rfl) ?_;rintro v3 h3 p3 o1';simp only[lL,Nat.reduceAdd] at o1';have G3:=p3.grow h hw (G1.trans g2) (by have:=G1.next;omega);have NP':=Hid.mk (NP.mono (p3.grow h1 G1.wf g2 hb1));clear o1;have o1:=o1';have G:=G3;have n1x:=G1.next;clear p3 o1' G3 g2 NP gP1 rP G1;repeat refine zR ?_
 obtain⟨vQ,h4,rQ,gQ1,G1⟩:=HR.read tQ gQb (by simp) h3 G.wf;refine zAL s1 (zDZ rQ ?_);rw[D.sat_ret];dsimp only;obtain⟨nQ,rfl,NQ,oQ⟩:=zFP gQ1;repeat refine zR ?_
 refine zAM G1.wf ?_;rintro b3 h5 hb g2 oo;refine zAC (v:=.agg [nQ,.int .i64 gQb.root]) e1 e1 (cs:=[nQ,.int .i64 gQb.root]) rfl rfl g2.wf oo (by simp) (by simp only[List.all_cons,List.all_nil,oQ,Bool.and_true];rfl) ?_;rintro vv h6 pp o3;simp only[lL,Nat.reduceAdd] at o3;have gC:Grow h3 h6:=pp.grow h3 G.wf (G1.trans g2) (by have:=G1.next;omega);have NQ':=Hid.mk (NQ.mono (pp.grow h4 G1.wf g2 hb));clear pp oo g2 NQ gQ1 rQ G1 hb;replace o1:=gC.keep _ _ o1;replace NP':=Hid.mk (NP'.out.mono gC);replace G:=G.trans gC;clear gC;repeat refine zR ?_
 obtain⟨vI,h7,rI,gI1,G1⟩:=HR.read tI gI (by simp) h6 G.wf;refine zAL s1 (zDZ rI ?_);rw[D.sat_ret];dsimp only;obtain⟨nI,rfl,NI,oI⟩:=zFP gI1;repeat refine zR ?_
 refine zAM G1.wf ?_;rintro b5 h8 hb g2 oo;refine zAC (v:=.agg [nI,.int .i64 gI.root]) e1 e1 (cs:=[nI,.int .i64 gI.root]) rfl rfl g2.wf oo (by simp) (by simp only[List.all_cons,List.all_nil,oI,Bool.and_true];rfl) ?_;rintro vv h9 pp o5;simp only[lL,Nat.reduceAdd] at o5;have gC:Grow h6 h9:=pp.grow h6 G.wf (G1.trans g2) (by have:=G1.next;omega);have NI':=Hid.mk (NI.mono (pp.grow h7 G1.wf g2 hb));clear pp oo g2 NI gI1 rI G1 hb;replace o1:=gC.keep _ _ o1;replace o3:=gC.keep _ _ o3;replace NP':=Hid.mk (NP'.out.mono gC);replace NQ':=Hid.mk (NQ'.out.mono gC);replace G:=G.trans gC;clear gC;repeat refine zR ?_
 refine zAL s1 ((Meet' H HS HA gP gQb sm_PQ G.wf ⟨nP,rfl,NP'.out⟩ ⟨nQ,rfl,NQ'.out⟩).mono ?_);rintro _ h10 ⟨G1,uv,code,rfl,hc⟩;obtain⟨x,rfl,hx,own⟩:∃x,code=0/\MR gP gQb x/\OwnG h10 h9.next uv x:=by
  rcases hc with⟨rfl,x,hx,own⟩|⟨_,_,k⟩
  ·exact⟨x,rfl,hx,own⟩
  ·exact absurd zSq (k ok_P ok_Q).2
 obtain⟨nX,rfl,NX,oX⟩:=zFP own.graph;have hX:Hid (GTi x/\zGc x gI=true):=⟨zSr hx,by
  obtain⟨U,R,O,rfl⟩:=hx;exact(zNp O).1⟩
 have zX:decide (Int.ofNat x.nodes.length>1)=true:=by obtain⟨U,R,O,rfl⟩:=hx;have:=(zNp O).2;simp;omega
 have lX:=NX.len;clear hc own hx;repeat refine zR ?_
 refine zAM G1.wf ?_;rintro b7 h11 hb g2 oo;refine zAC (v:=.agg [nX,.int .i64 x.root]) e1 e1 (cs:=[nX,.int .i64 x.root]) rfl rfl g2.wf oo (by simp) (by simp only[List.all_cons,List.all_nil,oX,Bool.and_true];rfl) ?_;rintro vv h12 pp o7;simp only[lL,Nat.reduceAdd] at o7;have gC:Grow h9 h12:=pp.grow h9 G.wf (G1.trans g2) (by have:=G1.next;omega);have NX':=Hid.mk (NX.mono (pp.grow h10 G1.wf g2 hb));clear pp oo g2 NX G1 hb;replace o1:=gC.keep _ _ o1;replace o3:=gC.keep _ _ o3;replace o5:=gC.keep _ _ o5;replace NP':=Hid.mk (NP'.out.mono gC);replace NQ':=Hid.mk (NQ'.out.mono gC);replace NI':=Hid.mk (NI'.out.mono gC);replace G:=G.trans gC;clear gC;repeat refine zR ?_
 refine zLH (fun A=>A.defers=[]/\ev A (.tmp 1)=some (.ptr (some (b1,0)))/\ev A (.tmp 3)=some (.ptr (some (b3,0)))/\ev A (.tmp 5)=some (.ptr (some (b5,0)))/\ev A (.tmp 7)=some (.ptr (some (b7,0)))/\ev A (.tmp 2)=some (.int .i64 0)/\ev A (.tmp 4)=some (.int .i64 0)/\ev A (.tmp 6)=some (.int .i64 0)/\ev A (.tmp 8)=some (.int .i64 0)) ⟨n1,e1,e1,e1,e1,e1,e1,e1,e1⟩ ?_;rintro a ⟨hd,ta0,ta1,ta2,ta3,ta4,ta5,ta6,ta7⟩;obtain⟨vM,h13,rM,gM1,G1⟩:=HR.read tM gM (by simp) h12 G.wf;refine zAL s1 (zDZ rM ?_);rw[D.sat_ret];dsimp only;obtain⟨nM,rfl,NM,oM⟩:=zFP gM1;repeat refine zR ?_
 refine zAM G1.wf ?_;rintro b9 h14 hb g2 oo;refine zAC (v:=.agg [nM,.int .i64 gM.root]) e1 e1 (cs:=[nM,.int .i64 gM.root]) rfl rfl g2.wf oo (by simp) (by simp only[List.all_cons,List.all_nil,oM,Bool.and_true];rfl) ?_;rintro vv h15 pp o9;simp only[lL,Nat.reduceAdd] at o9;have gC:Grow h12 h15:=pp.grow h12 G.wf (G1.trans g2) (by have:=G1.next;omega);have NM':=Hid.mk (NM.mono (pp.grow h13 G1.wf g2 hb));clear pp oo g2 NM gM1 rM G1 hb;replace o1:=gC.keep _ _ o1;replace o3:=gC.keep _ _ o3;replace o5:=gC.keep _ _ o5;replace o7:=gC.keep _ _ o7;replace NP':=Hid.mk (NP'.out.mono gC);replace NQ':=Hid.mk (NQ'.out.mono gC);replace NI':=Hid.mk (NI'.out.mono gC);replace NX':=Hid.mk (NX'.out.mono gC);replace G:=G.trans gC;clear gC;repeat refine zR ?_
 obtain⟨vN,h16,rN,gN1,G1⟩:=HR.read tN gN (by simp) h15 G.wf;refine zAL s1 (zDZ rN ?_);rw[D.sat_ret];dsimp only;obtain⟨nN,rfl,NN,oN⟩:=zFP gN1;repeat refine zR ?_
 refine zAM G1.wf ?_;rintro b11 h17 hb g2 oo;refine zAC (v:=.agg [nN,.int .i64 gN.root]) e1 e1 (cs:=[nN,.int .i64 gN.root]) rfl rfl g2.wf oo (by simp) (by simp only[List.all_cons,List.all_nil,oN,Bool.and_true];rfl) ?_;rintro vv h18 pp o11;simp only[lL,Nat.reduceAdd] at o11;have gC:Grow h15 h18:=pp.grow h15 G.wf (G1.trans g2) (by have:=G1.next;omega);have NN':=Hid.mk (NN.mono (pp.grow h16 G1.wf g2 hb));clear pp oo g2 NN gN1 rN G1 hb;replace o1:=gC.keep _ _ o1;replace o3:=gC.keep _ _ o3;replace o5:=gC.keep _ _ o5;replace o7:=gC.keep _ _ o7;replace o9:=gC.keep _ _ o9;replace NP':=Hid.mk (NP'.out.mono gC);replace NQ':=Hid.mk (NQ'.out.mono gC);replace NI':=Hid.mk (NI'.out.mono gC);replace NX':=Hid.mk (NX'.out.mono gC);replace NM':=Hid.mk (NM'.out.mono gC);replace G:=G.trans gC;clear gC;repeat refine zR ?_
 refine zAL s1 ((Meet' H HS HA gM gN sm_MN G.wf ⟨nM,rfl,NM'.out⟩ ⟨nN,rfl,NN'.out⟩).mono ?_);rintro _ h19 ⟨G1,uv,code,rfl,hc⟩;obtain⟨rfl,rfl⟩:code=8/\uv=.agg [.slice none 0,.int .i64 0]:=by
  rcases hc with⟨_,x,⟨U,R,O,_⟩,_⟩|⟨_,k1,k2⟩
  ·exact absurd ⟨U,R,O⟩ zSs
  ·exact⟨(k2 ok_M ok_N).1,k1⟩
 clear hc;repeat refine zR ?_
 refine zAM G1.wf ?_;rintro b13 h20 hb g2 oo;refine zAC e1 e1 cc rfl g2.wf oo (by simp) rfl ?_;rintro vv h21 pp o13;simp only[lL,Nat.reduceAdd] at o13;have gC:Grow h18 h21:=pp.grow h18 G.wf (G1.trans g2) (by have:=G1.next;omega);clear pp oo g2 G1 hb o13;replace o1:=gC.keep _ _ o1;replace o3:=gC.keep _ _ o3;replace o5:=gC.keep _ _ o5;replace o7:=gC.keep _ _ o7;replace o9:=gC.keep _ _ o9;replace o11:=gC.keep _ _ o11;replace NP':=Hid.mk (NP'.out.mono gC);replace NQ':=Hid.mk (NQ'.out.mono gC);replace NI':=Hid.mk (NI'.out.mono gC);replace NX':=Hid.mk (NX'.out.mono gC);replace NM':=Hid.mk (NM'.out.mono gC);replace NN':=Hid.mk (NN'.out.mono gC);replace G:=G.trans gC;clear gC;refine zLH (fun A=>A.defers=[]/\ev A (.tmp 1)=some (.ptr (some (b1,0)))/\ev A (.tmp 3)=some (.ptr (some (b3,0)))/\ev A (.tmp 5)=some (.ptr (some (b5,0)))/\ev A (.tmp 7)=some (.ptr (some (b7,0)))/\ev A (.tmp 2)=some (.int .i64 0)/\ev A (.tmp 4)=some (.int .i64 0)/\ev A (.tmp 6)=some (.int .i64 0)/\ev A (.tmp 8)=some (.int .i64 0)/\ev A (.tmp 10)=some (.int .i64 0)/\ev A (.tmp 12)=some (.int .i64 0)/\ev A (.tmp 46)=some (.int .i64 8)) ⟨n1,e1,e1,e1,e1,e1,e1,e1,e1,e1,e1,e1⟩ ?_;rintro a ⟨hd,tbx,tb0,tb1,tb2,tb3,tb4,tb5,tb6,tb7,tb8,tb9⟩;clear ta0 ta1 ta2 ta3 ta4 ta5 ta6 ta7;repeat refine zR ?_
 refine zBM e1 s1 ((Same_ok H x gI hX.out.1 zPX _ _ _ G.wf ⟨nX,rfl,NX'.out⟩ ⟨nI,rfl,NI'.out⟩).mono ?_);rintro _ hZ ⟨rfl,gZ⟩;have G':=Hid.mk (G.trans gZ);have hs:=hX.out.2;clear G gZ o1 o3 o5 o7 o9 o11 NP' NQ' NI' NX' NM' NN' hX;rw[hs];repeat refine zG ?_
 exact⟨rfl,G'.out⟩
end
end Go.Ab.S
end
section
namespace Go.Ab.S
open Go Go.Ab
def zCJ(R:List Int)(a b:Int):List Int:=if clAt R a=clAt R b then R else R.map fun r=>if r=max (clAt R a) (clAt R b) then min (clAt R a) (clAt R b) else r
def cntR(R:List Int):Nat:=((List.range R.length).filter fun i=>R.getD i 0==(i:Int)).length
structure DJ(g:Graph)(ps:List Pr)(R:List Int):Prop where
 len:R.length=g.nodes.length
 rep:∀a,InG g a->InG g (clAt R a)/\clAt R (clAt R a)=clAt R a/\clAt R a<=a
 sound:∀a b,InG g a->InG g b->clAt R a=clAt R b->Uni g ps a b
def MonoR(g:Graph)(R R':List Int):Prop:=∀a b,InG g a->InG g b->clAt R a=clAt R b->clAt R' a=clAt R' b
theorem zGI{R:List Int}{f:Int->Int}{a:Int}(h0:0<=a)(h1:a<R.length):clAt (R.map f) a=f (clAt R a):=by
 obtain⟨x,rfl⟩:∃x:Nat,a=x:=⟨a.toNat,by omega⟩;have:x<R.length:=by omega
 rw[zBE,zBE,List.getD,List.getD,zgM,zgG this];rfl
theorem zOS{α:Type}{p q:α->Bool}:∀{l:List α},(∀i∈l,p i=true->q i=true)->(l.filter p).length<=(l.filter q).length
 |[],_=>Nat.le_refl _
 |x::l,h=>by
  have ih:=zOS (l:=l) fun i hi=>h i (by simp[hi]);cases hp:p x with
  |false=>rw[List.filter_cons_of_neg (by simp[hp])];cases hq:q x<;>simp[hq]<;>omega
  |true=>rw[List.filter_cons_of_pos hp,List.filter_cons_of_pos (h x (by simp) hp),zlC,zlC];omega
theorem zOT{α:Type}{p q:α->Bool}:∀{l:List α},(∀i∈l,p i=true->q i=true)->(∃i∈l,q i=true/\p i=false)->(l.filter p).length<(l.filter q).length
 |[],_,h=>by obtain⟨_,h,_⟩:=h;cases h
 |x::l,h,⟨i,hi,k1,k2⟩=>by
  have hr:∀i∈l,p i=true->q i=true:=fun i hi=>h i (by simp[hi]);rcases List.mem_cons.1 hi with rfl|hi
  ·have:=zOS hr;rw[List.filter_cons_of_neg (by simp[k2]),List.filter_cons_of_pos k1,zlC];omega
  ·have ih:=zOT hr ⟨i,hi,k1,k2⟩;cases hp:p x with
   |false=>rw[List.filter_cons_of_neg (by simp[hp])];cases hq:q x<;>simp[hq]<;>omega
   |true=>rw[List.filter_cons_of_pos hp,List.filter_cons_of_pos (h x (by simp) hp),zlC,zlC];omega
section
variable{g:Graph}{ps:List Pr}{R R' R'':List Int}
theorem MonoR.refl:MonoR g R R:=fun _ _ _ _ h=>h
theorem MonoR.trans(h:MonoR g R R')(k:MonoR g R' R''):MonoR g R R'':=fun a b ha hb e=>k a b ha hb (h a b ha hb e)
theorem DJ.new:DJ g ps (allN g.nodes.length):=by
 have hl:(allN g.nodes.length).length=g.nodes.length:=by simp[allN]
 have hc:∀{a:Int},InG g a->clAt (allN g.nodes.length) a=a:=fun {a} h=>by
  obtain⟨x,rfl⟩:∃x:Nat,a=x:=⟨a.toNat,by have:=h.1;omega⟩;have hx:x<g.nodes.length:=by have:=h.2;omega
  rw[zBE,List.getD,allN,zgM,List.getElem?_range hx];rfl
 refine⟨hl,fun a h=>?_,fun a b ha hb h=>?_⟩
 ·rw[hc h,hc h];exact⟨h,rfl,Int.le_refl _⟩
 ·rw[hc ha,hc hb] at h;subst h;exact .refl ha
theorem zOi(I:DJ g ps R){a b:Int}(ha:InG g a)(hb:InG g b)(e:clAt R a≠clAt R b):∃lo hi:Int,lo<hi/\((clAt R a=lo/\clAt R b=hi)\/(clAt R a=hi/\clAt R b=lo))/\InG g lo/\InG g hi/\clAt R lo=lo/\clAt R hi=hi/\zCJ R a b=R.map (fun r=>if r=hi then lo else r)/\∀c,InG g c->clAt (zCJ R a b) c=if clAt R c=hi then lo else clAt R c:=by
 obtain⟨xa,xi,xl⟩:=I.rep a ha;obtain⟨ya,yi,yl⟩:=I.rep b hb;have hj:zCJ R a b=R.map fun r=>if r=max (clAt R a) (clAt R b) then min (clAt R a) (clAt R b) else r:=by rw[zCJ,if_neg e]
 rcases Int.lt_or_gt_of_ne e with h|h
 ·rw[Int.max_eq_right (by omega),Int.min_eq_left (by omega)] at hj;exact⟨_,_,h,.inl ⟨rfl,rfl⟩,xa,ya,xi,yi,hj,fun c hc=>by rw[hj,zGI hc.1 (by rw[I.len];exact hc.2)]⟩
 ·rw[Int.max_eq_left (by omega),Int.min_eq_right (by omega)] at hj;exact⟨_,_,h,.inr ⟨rfl,rfl⟩,ya,xa,yi,xi,hj,fun c hc=>by rw[hj,zGI hc.1 (by rw[I.len];exact hc.2)]⟩
theorem DJ.join(I:DJ g ps R){a b:Int}(ha:InG g a)(hb:InG g b)(hu:Uni g ps a b):DJ g ps (zCJ R a b)/\MonoR g R (zCJ R a b)/\clAt (zCJ R a b) a=clAt (zCJ R a b) b:=by
 by_cases e:clAt R a=clAt R b
 ·have hj:zCJ R a b=R:=by rw[zCJ,if_pos e]
  rw[hj];exact⟨I,.refl,e⟩
 obtain⟨lo,hi,hlt,hab,il,ih,rl,rh,hj,aa⟩:=zOi I ha hb e;have ab:(zCJ R a b).length=g.nodes.length:=by rw[hj,List.length_map,I.len]
 have ulh:Uni g ps lo hi:=by
  obtain⟨xa,xi,_⟩:=I.rep a ha;obtain⟨ya,yi,_⟩:=I.rep b hb;have h1:=I.sound a _ ha xa xi.symm;have h2:=I.sound b _ hb ya yi.symm;rcases hab with⟨k1,k2⟩|⟨k1,k2⟩
  ·rw[k1] at h1;rw[k2] at h2;exact h1.symm.trans (hu.trans h2)
  ·rw[k1] at h1;rw[k2] at h2;exact h2.symm.trans (hu.symm.trans h1)
 generalize zCJ R a b=R' at ab aa;refine⟨⟨ab,fun c hc=>?_,fun c d hc hd h=>?_⟩,fun c d hc hd h=>by rw[aa c hc,aa d hd,h],?_⟩
 ·obtain⟨ca,ci,cl⟩:=I.rep c hc;rw[aa c hc];by_cases k:clAt R c=hi
  ·rw[if_pos k,aa lo il,if_neg (by omega),rl];exact⟨il,rfl,by omega⟩
  ·rw[if_neg k,aa _ ca,if_neg (by rw[ci];exact k),ci];exact⟨ca,rfl,cl⟩
 ·rw[aa c hc,aa d hd] at h;by_cases k:clAt R c=hi<;>by_cases k':clAt R d=hi
  ·exact I.sound c d hc hd (k.trans k'.symm)
  ·rw[if_pos k,if_neg k'] at h;exact((I.sound c hi hc ih (by rw[k,rh])).trans ulh.symm).trans (I.sound lo d il hd (by rw[rl,h]))
  ·rw[if_neg k,if_pos k'] at h;exact((I.sound d hi hd ih (by rw[k',rh])).trans ulh.symm).trans (I.sound lo c il hc (by rw[rl,h])) |>.symm
  ·rw[if_neg k,if_neg k'] at h;exact I.sound c d hc hd h
 ·rw[aa a ha,aa b hb];rcases hab with⟨k1,k2⟩|⟨k1,k2⟩
  ·rw[k1,k2,if_neg (by omega),if_pos rfl]
  ·rw[k1,k2,if_pos rfl,if_neg (by omega)]
theorem zPx(I:DJ g ps R){a b:Int}(ha:InG g a)(hb:InG g b)(e:clAt R a≠clAt R b):cntR (zCJ R a b)<cntR R:=by
 obtain⟨lo,hi,hlt,hab,il,ih,rl,rh,hj,ab⟩:=zOi I ha hb e;have ac:(zCJ R a b).length=R.length:=by rw[hj,List.length_map]
 rw[cntR,cntR,ac];have inG:∀{i:Nat},i<R.length->InG g (i:Int):=fun {i} h=>⟨by omega,by rw[I.len] at h;omega⟩;refine zOT (fun i aa h=>?_) ⟨hi.toNat,?_,?_,?_⟩
 ·have aa:=List.mem_range.1 aa;have h1:=ab i (inG aa);rw[zBE,zBE] at h1;have h:(zCJ R a b).getD i 0=(i:Int):=by simpa using h
  rw[h] at h1;have:R.getD i 0=(i:Int):=by
   by_cases k:R.getD i 0=hi
   ·rw[if_pos k] at h1;rw[<-h1,zBE] at rl;exact rl
   ·rw[if_neg k] at h1;exact h1.symm
  simpa using this
 ·have:=ih.1;have:=ih.2;rw[<-I.len] at this;exact List.mem_range.2 (by omega)
 ·have h1:R.getD hi.toNat 0=hi:=rh;have:=ih.1;rw[h1,Int.toNat_of_nonneg this];simp
 ·have h1:(zCJ R a b).getD hi.toNat 0=_:=ab hi ih;have:=ih.1;rw[h1,rh,if_pos rfl,Int.toNat_of_nonneg this];simp;omega
def DoneP(g:Graph)(R:List Int)(a b:Int):Prop:=(zAA g a).kind=1\/(zAA g b).kind=1\/((zAA g a).kind=(zAA g b).kind/\(zAA g a).name=(zAA g b).name∧
 ((zAA g a).kind=2->∀i,i<(zAA g a).args.length->clAt R ((zAA g a).args.getD i 0)=clAt R ((zAA g b).args.getD i 0))∧
 ((zAA g a).kind=3->((zAA g b).isOpen=false->∀l∈(zAA g a).labels,l∈(zAA g b).labels)/\∀i j l,(zAA g a).labels[i]?=some l->(zAA g b).labels[j]?=some l->clAt R ((zAA g a).args.getD i 0)=clAt R ((zAA g b).args.getD j 0)))
theorem DJ.fin(hc:zAB g=0)(I:DJ g ps R)(hp:∀p∈ps,clAt R p.1=clAt R p.2)(hd:∀a b,InG g a->InG g b->clAt R a=clAt R b->DoneP g R a b):(∀a b,Uni g ps a b->clAt R a=clAt R b)/\Consi g ps:=by
 have h1:∀a b,Uni g ps a b->clAt R a=clAt R b:=by
  intro a b h;induction h with
  |refl=>rfl
  |symm _ ih=>exact ih.symm
  |trans _ _ h1 h2=>exact h1.trans h2
  |pair h _ _=>exact hp _ h
  | @con a b i hu ka kb hn hi ih=>
   have aa:=hu.inG hc;rcases hd a b aa.1 aa.2 ih with k|k|⟨_,_,k,_⟩
   ·omega
   ·omega
   ·exact k ka i hi
  | @obj a b i j l hu ka kb hi hj ih=>
   have aa:=hu.inG hc;rcases hd a b aa.1 aa.2 ih with k|k|⟨_,_,_,k⟩
   ·omega
   ·omega
   ·exact(k ka).2 i j l hi hj
 refine⟨h1,fun a b h=>?_⟩;have aa:=h.inG hc;rcases hd a b aa.1 aa.2 (h1 a b h) with k|k|⟨k1,k2,_,k3⟩
 ·exact .inl k
 ·exact .inr (.inl k)
 refine .inr (.inr ⟨k1,k2,fun k=>⟨?_,(k3 k).1⟩⟩);rcases hd b a aa.2 aa.1 (h1 a b h).symm with q|q|⟨_,_,_,q⟩
 ·omega
 ·omega
 ·exact(q (by omega)).1
theorem zLc{α:Type}{l:List α}{m:Nat}(hm:m<=l.length)(s:α)(i:Nat):(l.take m++s::l.drop m)[i]?=if i<m then l[i]? else if i=m then some s else l[i - 1]?:=by
 have hl:(l.take m).length=m:=by simp;omega
 by_cases h:i<m
 ·rw[if_pos h,List.getElem?_append_left (by omega),List.getElem?_take,if_pos h]
 ·rw[if_neg h,List.getElem?_append_right (by omega),hl];by_cases h':i=m
  ·rw[if_pos h',h',Nat.sub_self,zgZ]
  ·rw[if_neg h'];obtain⟨j,hj⟩:∃j,i - m=j+1:=⟨i - m - 1,by omega⟩;rw[hj,List.getElem?_cons_succ,List.getElem?_drop];congr 1;omega
theorem zOh{ls:List (List Nat)}(hr:Rises ls){m:Nat}{s:List Nat}(hm:m<=ls.length)(h1:∀k x,k<m->ls[k]?=some x->zAn x s=true)(h2:∀x,ls[m]?=some x->zAn x s=false)(hs:s∉ls):Rises (ls.take m++s::ls.drop m):=by
 have hge:∀k x,m<=k->ls[k]?=some x->zAn s x=true:=fun k x hk hx=>by
  have hkl:=(zgS.1 hx).1;have aa:m<ls.length:=by omega
  have h0:=zgG aa;have h3:zAn s ls[m]=true:=by
   rcases zFA ls[m] s with k|k|k
   ·rw[h2 _ h0] at k;cases k
   ·exact absurd (k ▸ List.getElem_mem aa) hs
   ·exact k
  by_cases hkm:m=k
  ·subst hkm;rw[h0] at hx;cases hx;exact h3
  ·exact zBj h3 (hr m k (by omega) _ _ h0 hx)
 intro i j hij x y hx hy;rw[zLc hm] at hx hy;by_cases a1:j<m
 ·rw[if_pos (by omega)] at hx;rw[if_pos a1] at hy;exact hr i j hij x y hx hy
 rw[if_neg a1] at hy;by_cases a2:j=m
 ·rw[if_pos a2] at hy;cases hy;rw[if_pos (by omega)] at hx;exact h1 i x (by omega) hx
 rw[if_neg a2] at hy;by_cases a3:i<m
 ·rw[if_pos a3] at hx;exact zBj (h1 i x a3 hx) (hge (j - 1) y (by omega) hy)
 rw[if_neg a3] at hx;by_cases a4:i=m
 ·rw[if_pos a4] at hx;cases hx;exact hge (j - 1) y (by omega) hy
 rw[if_neg a4] at hx;exact hr (i - 1) (j - 1) (by omega) x y hx hy
structure NL(g:Graph)(R:List Int)(S:Int->Nat->Prop)(ls:List (List Nat))(as:List Int):Prop where
 len:ls.length=as.length
 rises:Rises ls
 labels:∀l,l∈ls↔∃m q,S m q/\(zAA g m).labels[q]?=some l
 args:∀(k:Nat) l,ls[k]?=some l->∃m q,S m q/\(zAA g m).labels[q]?=some l/\as.getD k 0=clAt R ((zAA g m).args.getD q 0)
variable{S S':Int->Nat->Prop}{ls:List (List Nat)}{as:List Int}
theorem NL.nil(h:∀m q,¬S m q):NL g R S [] []:=⟨rfl,fun i j _ x y hx=>by simp at hx,fun l=>⟨fun h=>(by cases h),fun ⟨m,q,k,_⟩=>absurd k (h m q)⟩,fun k l h=>by simp at h⟩
theorem NL.skip(N:NL g R S ls as){j:Int}{k:Nat}{s:List Nat}(hs:(zAA g j).labels[k]?=some s)(hm:s∈ls)(h:∀m q,S' m q↔S m q\/(m=j/\q=k)):NL g R S' ls as:=by
 refine⟨N.len,N.rises,fun l=>?_,fun i l hi=>?_⟩
 ·rw[N.labels];constructor
  ·rintro⟨m,q,a,b⟩;exact⟨m,q,(h m q).2 (.inl a),b⟩
  ·rintro⟨m,q,a,b⟩;rcases (h m q).1 a with a|⟨rfl,rfl⟩
   ·exact⟨m,q,a,b⟩
   ·rw[hs] at b;cases b;exact(N.labels _).1 hm
 ·obtain⟨m,q,a,b,c⟩:=N.args i l hi;exact⟨m,q,(h m q).2 (.inl a),b,c⟩
theorem NL.more(N:NL g R S ls as)(h:∀m q,S' m q↔S m q):NL g R S' ls as:=by
 obtain rfl:S'=S:=by funext m q;exact propext (h m q)
 exact N
theorem NL.add(N:NL g R S ls as){j:Int}{k:Nat}{s:List Nat}(hs:(zAA g j).labels[k]?=some s)(hm:s∉ls)(h:∀m q,S' m q↔S m q\/(m=j/\q=k)){p:Nat}(hp:p<=ls.length)(h1:∀k x,k<p->ls[k]?=some x->zAn x s=true)(h2:∀x,ls[p]?=some x->zAn x s=false):
  NL g R S' (ls.take p++s::ls.drop p) (as.take p++clAt R ((zAA g j).args.getD k 0)::as.drop p):=by
 have aa:p<=as.length:=by rw[<-N.len];exact hp
 refine⟨?_,zOh N.rises hp h1 h2 hm,fun l=>?_,fun i l hi=>?_⟩
 ·have:=N.len;simp only[zgL,List.length_take,zlC,List.length_drop];omega
 ·have:l∈ls.take p++s::ls.drop p↔l∈ls\/l=s:=by
   conv=>rhs;rw[<-List.take_append_drop p ls]
   simp only[List.mem_append,List.mem_cons];constructor
   ·rintro (a|a|a)
    ·exact .inl (.inl a)
    ·exact .inr a
    ·exact .inl (.inr a)
   ·rintro ((a|a)|a)
    ·exact .inl a
    ·exact .inr (.inr a)
    ·exact .inr (.inl a)
  rw[this,N.labels];constructor
  ·rintro (⟨m,q,a,b⟩|rfl)
   ·exact⟨m,q,(h m q).2 (.inl a),b⟩
   ·exact⟨j,k,(h j k).2 (.inr ⟨rfl,rfl⟩),hs⟩
  ·rintro⟨m,q,a,b⟩;rcases (h m q).1 a with a|⟨rfl,rfl⟩
   ·exact .inl ⟨m,q,a,b⟩
   ·rw[hs] at b;cases b;exact .inr rfl
 ·rw[zLc hp] at hi;rw[List.getD,zLc aa];by_cases c1:i<p
  ·rw[if_pos c1] at hi ⊢;obtain⟨m,q,a,b,c⟩:=N.args i l hi;exact⟨m,q,(h m q).2 (.inl a),b,c⟩
  rw[if_neg c1] at hi ⊢;by_cases c2:i=p
  ·rw[if_pos c2] at hi ⊢;cases hi;exact⟨j,k,(h j k).2 (.inr ⟨rfl,rfl⟩),hs,rfl⟩
  ·rw[if_neg c2] at hi ⊢;obtain⟨m,q,a,b,c⟩:=N.args (i - 1) l hi;exact⟨m,q,(h m q).2 (.inl a),b,c⟩
def NodeR(g:Graph)(R:List Int)(r:Int)(N:Node):Prop:=
 (∃m,InG g m/\clAt R m=r/\(zAA g m).kind=2/\N={zAA g m with args:=(zAA g m).args.map (clAt R)})∨
 ((∀m,InG g m->clAt R m=r->(zAA g m).kind≠2)/\N.name=[]/\NL g R (fun m _=>InG g m/\clAt R m=r/\(zAA g m).kind=3) N.labels N.args∧
  (((∀m,InG g m->clAt R m=r->(zAA g m).kind≠3)/\N.kind=1/\N.isOpen=false)\/((∃m,InG g m/\clAt R m=r/\(zAA g m).kind=3)/\N.kind=3/\(N.isOpen=true↔∀m,InG g m->clAt R m=r->(zAA g m).kind=3->(zAA g m).isOpen=true))))
theorem DJ.out(hc:zAB g=0)(I:DJ g ps R)(hu:∀a b,Uni g ps a b->clAt R a=clAt R b)(co:Consi g ps){U:Graph}(lenU:U.nodes.length=g.nodes.length)(root:U.root=clAt R g.root)(nodes:∀i,InG g i->NodeR g R (clAt R i) (zAA U i)):UOut g ps U R:=by
 have ab:∀{i m:Int},InG g i->Uni g ps i m->InG g m/\clAt R m=clAt R i:=fun hi h=>⟨(h.inG hc).2,(hu _ _ h).symm⟩;have ac:∀{i m:Int},InG g i->InG g m->clAt R m=clAt R i->Uni g ps i m:=fun hi hm h=>I.sound _ _ hi hm h.symm;refine⟨co,I.len,lenU,root,fun i hi=>?_,fun i hi hv=>?_,fun i m aa hk=>?_,fun i m aa hk=>?_⟩
 ·obtain⟨h1,h2,h3⟩:=I.rep i hi;refine⟨I.sound _ _ hi h1 h2.symm,fun j hj=>?_⟩;have:=(I.rep j (hj.inG hc).2).2.2;rw[<-hu _ _ hj] at this;exact this
 ·have hv':∀m,InG g m->clAt R m=clAt R i->(zAA g m).kind=1:=fun m hm h=>hv m (ac hi hm h);rcases nodes i hi with⟨m,m1,m2,m3,_⟩|⟨_,hn,N,hk|⟨⟨m,m1,m2,m3⟩,_⟩⟩
  ·have:=hv' m m1 m2;omega
  ·obtain⟨_,k1,k2⟩:=hk;have hl:(zAA U i).labels=[]:=by
    cases e:(zAA U i).labels with
    |nil=>rfl
    |cons x r=>
     obtain⟨m,q,⟨a,b,c⟩,_⟩:=(N.labels x).1 (by rw[e];simp);have:=hv' m a b;omega
   have ha:(zAA U i).args=[]:=by have:=N.len;rw[hl] at this;exact List.length_eq_zero_iff.1 this.symm
   generalize zAA U i=M at hn k1 k2 hl ha;cases M;simp only at hn k1 k2 hl ha;subst hn;subst k1;subst k2;subst hl;subst ha;rfl
  ·have:=hv' m m1 m2;omega
 ·have hi:=(aa.inG hc).1;obtain⟨m1,m2⟩:=ab hi aa;rcases nodes i hi with⟨n,n1,n2,n3,n4⟩|⟨hno,_⟩
  ·have hmn:Uni g ps n m:=(ac hi n1 n2).symm.trans aa;rcases co n m hmn with q|q|⟨_,q,_⟩
   ·omega
   ·omega
   ·have hlen:=zEZ hc n1 m1 n3 hk q;have hargs:(zAA g n).args.map (clAt R)=(zAA g m).args.map (clAt R):=by
     apply List.ext_getElem
     ·simpa using hlen
     ·intro k k1 k2;simp only[List.length_map] at k1 k2;have:=hu _ _ (.con hmn n3 hk q k1);simp only[List.getD,zgG k1,zgG k2,Option.getD_some] at this;simpa using this
    have hml:(zAA g n).labels=[]/\(zAA g n).isOpen=false:=by
     rcases zAH (zAV hc n1) with⟨q,_⟩|⟨_,q1,q2,_⟩|⟨q,_⟩
     ·omega
     ·exact⟨q1,q2⟩
     ·omega
    rw[n4,hargs];dsimp only;rw[q,n3,hml.1,hml.2]
  ·exact absurd hk (hno m m1 m2)
 ·have hi:=(aa.inG hc).1;obtain⟨m1,m2⟩:=ab hi aa;rcases nodes i hi with⟨n,n1,n2,n3,_⟩|⟨_,hn,N,⟨hno,_⟩|⟨_,k1,k2⟩⟩
  ·rcases co n m ((ac hi n1 n2).symm.trans aa) with q|q|⟨q,_⟩
   ·omega
   ·omega
   ·omega
  ·exact absurd hk (hno m m1 m2)
  have hlab:∀l,l∈(zAA U i).labels↔∃m,Uni g ps i m/\(zAA g m).kind=3/\l∈(zAA g m).labels:=fun l=>by
   rw[N.labels];constructor
   ·rintro⟨m,q,⟨a,b,c⟩,d⟩;exact⟨m,ac hi a b,c,List.mem_of_getElem? d⟩
   ·rintro⟨m,a,b,c⟩;obtain⟨q,hq,rfl⟩:=List.mem_iff_getElem.1 c;exact⟨m,q,⟨(ab hi a).1,(ab hi a).2,b⟩,zgG hq⟩
  refine⟨k1,hn,N.len,?_,hlab,fun k l hkl m' j hm' hk' hj=>?_,?_⟩
  ·refine zIK (fun s hs=>?_) N.rises fun q hq=>by cases hq
   obtain⟨m',q1,q2,q3⟩:=(hlab s).1 hs;rcases zAH (zAV hc (q1.inG hc).2) with⟨q,_⟩|⟨q,_⟩|⟨_,_,_,hr⟩
   ·omega
   ·omega
   ·exact zFC hr s q3
  ·obtain⟨m,q,⟨a,b,c⟩,d,e⟩:=N.args k l hkl;rw[e];exact hu _ _ (.obj ((ac hi a b).symm.trans hm') c hk' d hj)
  ·exact k2.trans ⟨fun h m hm=>h m (ab hi hm).1 (ab hi hm).2,fun h m a b=>h m (ac hi a b)⟩
end
end Go.Ab.S
end
section
namespace Go.Ab.S
open Go Go.Ab
def zEp(f:Int->Int)(R:List Int)(j:Nat):List Int:=(R.take j).map f++R.drop j
section
variable{f:Int->Int}{R:List Int}{j:Nat}
theorem zOs:(zEp f R j).length=R.length:=by simp[zEp];omega
theorem zNU:zEp f R 0=R:=by simp[zEp]
theorem zOr:zEp f R R.length=R.map f:=by simp[zEp]
theorem zMe(hj:j<R.length):clAt (zEp f R j) (j:Int)=clAt R (j:Int):=by rw[zBE,zBE,List.getD,List.getD,zEp,List.getElem?_append_right (by rw[List.length_map,List.length_take];omega)];simp only[List.length_map,List.length_take,Nat.min_eq_left (Nat.le_of_lt hj),Nat.sub_self,List.getElem?_drop,Nat.add_zero]
theorem zKl(hj:j<R.length):(zEp f R j).set j (f (clAt R (j:Int)))=zEp f R (j+1):=by rw[zBE,List.getD,zgG hj,Option.getD_some,zEp,zEp,List.set_append_right _ _ (by rw[List.length_map,List.length_take];omega),List.take_succ_eq_append_getElem hj,List.drop_eq_getElem_cons hj];simp only[List.length_map,List.length_take,Nat.min_eq_left (Nat.le_of_lt hj),Nat.sub_self,List.set_cons_zero,List.map_append,List.map_cons,List.map_nil,List.append_assoc,zlK,zlA]
theorem zNT(hj:j<R.length)(h:f (clAt R (j:Int))=clAt R (j:Int)):zEp f R (j+1)=zEp f R j:=by rw[<-zKl hj,h];have:=zMe (f:=f) hj;rw[<-this,zBE,List.getD,zgG (by rw[zOs];exact hj),Option.getD_some];exact List.set_getElem_self _
end
def hiLo(x y r:Int):Int:=if r=max x y then min x y else r
theorem zQS{R:List Int}{a b:Int}(h:clAt R a≠clAt R b):zCJ R a b=R.map (hiLo (clAt R a) (clAt R b)):=by rw[zCJ,if_neg h];rfl
theorem zKh{R:List Int}{a b:Int}(h:clAt R a=clAt R b):zCJ R a b=R:=by rw[zCJ,if_pos h]
def ArgD(g:Graph)(R:List Int)(a b:Int)(k:Nat):Prop:=
 ((zAA g a).kind=2->clAt R ((zAA g a).args.getD k 0)=clAt R ((zAA g b).args.getD k 0))∧
 ((zAA g a).kind=3->∀l,(zAA g a).labels[k]?=some l->((zAA g b).isOpen=false->l∈(zAA g b).labels)/\∀j,(zAA g b).labels[j]?=some l->clAt R ((zAA g a).args.getD k 0)=clAt R ((zAA g b).args.getD j 0))
structure StepI(g:Graph)(ps:List Pr)(a b:Int)(R:List Int)(i:Nat)(ch:Bool)(R':List Int):Prop where
 dj:DJ g ps R'
 mono:MonoR g R R'
 no:ch=false->R'=R
 yes:ch=true->cntR R'<cntR R
 done:∀k,k<i->ArgD g R' a b k
section
variable{g:Graph}{ps:List Pr}{R R' R'':List Int}{a b:Int}{i:Nat}{ch:Bool}
theorem StepI.start(I:DJ g ps R):StepI g ps a b R 0 false R:=⟨I,.refl,fun _=>rfl,fun h=>(by cases h),fun k h=>by omega⟩
theorem zPy(hc:zAB g=0)(ha:InG g a)(hb:InG g b){k:Nat}(hk:k<(zAA g a).args.length)(h2:(zAA g a).kind=2->(zAA g b).kind=2/\(zAA g a).name=(zAA g b).name)(M:MonoR g R R')(h:ArgD g R a b k):ArgD g R' a b k:=by
 refine⟨fun q=>?_,fun q l hl=>⟨(h.2 q l hl).1,fun j hj=>?_⟩⟩
 ·refine M _ _ (zEk hc ha hk) (zEk hc hb ?_) (h.1 q);rw[<-zEZ hc ha hb q (h2 q).1 (h2 q).2];exact hk
 ·refine M _ _ (zEk hc ha hk) (zEk hc hb ?_) ((h.2 q l hl).2 j hj);have hjl:=(zgS.1 hj).1;rcases zAH (zAV hc hb) with⟨_,q',_⟩|⟨_,q',_⟩|⟨_,_,q',_⟩
  ·rw[q'] at hjl;cases hjl
  ·rw[q'] at hjl;cases hjl
  ·omega
theorem StepI.put(hc:zAB g=0)(ha:InG g a)(hb:InG g b)(h2:(zAA g a).kind=2->(zAA g b).kind=2/\(zAA g a).name=(zAA g b).name)(S:StepI g ps a b R i ch R')(hi:i<(zAA g a).args.length){x y:Int}(hx:InG g x)(hy:InG g y)(hu:Uni g ps x y)(hd:∀R'',clAt R'' x=clAt R'' y->ArgD g R'' a b i):
  StepI g ps a b R (i+1) (ch||decide (clAt R' x≠clAt R' y)) (zCJ R' x y):=by
 obtain⟨k1,k2,k3⟩:=S.dj.join hx hy hu;have aa:∀k,k<i+1->ArgD g (zCJ R' x y) a b k:=fun k hk=>by
  by_cases h:k=i
  ·subst h;exact hd _ k3
  ·exact zPy hc ha hb (by omega) h2 k2 (S.done k (by omega))
 by_cases e:clAt R' x=clAt R' y
 ·have hj:=zKh e;refine⟨k1,S.mono.trans k2,fun h=>?_,fun h=>?_,aa⟩
  ·rw[hj];exact S.no (by simpa[e] using h)
  ·rw[hj];exact S.yes (by simpa[e] using h)
 ·have ac:=zPx S.dj hx hy e;refine⟨k1,S.mono.trans k2,fun h=>?_,fun h=>?_,aa⟩
  ·simp[e] at h
  ·cases ab:ch
   ·rw[S.no ab] at ac ⊢;exact ac
   ·have:=S.yes ab;omega
theorem StepI.skip(hc:zAB g=0)(S:StepI g ps a b R i ch R')(hd:ArgD g R' a b i):StepI g ps a b R (i+1) ch R':=
 ⟨S.dj,S.mono,S.no,S.yes,fun k hk=>by
  by_cases h:k=i
  ·subst h;exact hd
  ·exact S.done k (by omega)⟩
theorem StepI.fin(hc:zAB g=0)(ha:InG g a)(S:StepI g ps a b R (zAA g a).args.length ch R')(hk:(zAA g a).kind=(zAA g b).kind)(hn:(zAA g a).name=(zAA g b).name):DoneP g R' a b:=by
 refine .inr (.inr ⟨hk,hn,fun q i hi=>(S.done i hi).1 q,fun q=>?_⟩);have hl:(zAA g a).labels.length=(zAA g a).args.length:=by
  rcases zAH (zAV hc ha) with⟨q',_⟩|⟨q',_⟩|⟨_,_,q',_⟩
  ·omega
  ·omega
  ·exact q'
 refine⟨fun ho l hm=>?_,fun i j l hi hj=>?_⟩
 ·obtain⟨i,hi,rfl⟩:=List.mem_iff_getElem.1 hm;exact((S.done i (by omega)).2 q _ (zgG hi)).1 ho
 ·have:=(zgS.1 hi).1;exact((S.done i (by omega)).2 q _ hi).2 j hj
structure StepR(g:Graph)(ps:List Pr)(a b:Int)(R:List Int)(ch ok:Bool)(R':List Int):Prop where
 dj:DJ g ps R'
 mono:MonoR g R R'
 bad:ok=false->¬Consi g ps
 no:ok=true->ch=false->R'=R
 yes:ok=true->ch=true->cntR R'<cntR R
 done:ok=true->DoneP g R' a b
structure CloseI(g:Graph)(ps:List Pr)(R:List Int)(x y:Nat)(again:Bool)(R':List Int):Prop where
 dj:DJ g ps R'
 mono:MonoR g R R'
 no:again=false->R'=R/\∀a b:Nat,(a<x\/(a=x/\b<y))->a<g.nodes.length->b<g.nodes.length->clAt R' (a:Int)=clAt R' (b:Int)->DoneP g R' a b
 yes:again=true->cntR R'<cntR R
variable{x y:Nat}{again ok:Bool}
theorem CloseI.start(I:DJ g ps R):CloseI g ps R 0 0 false R:=⟨I,.refl,fun _=>⟨rfl,fun a b h=>by omega⟩,fun h=>by cases h⟩
theorem CloseI.skip(S:CloseI g ps R x y again R')(h:clAt R' (x:Int)≠clAt R' (y:Int)):CloseI g ps R x (y+1) again R':=
 ⟨S.dj,S.mono,fun q=>⟨(S.no q).1,fun a b aa la lb e=>by
  by_cases hh:a=x/\b=y
  ·obtain⟨rfl,rfl⟩:=hh;exact absurd e h
  ·exact(S.no q).2 a b (by omega) la lb e⟩,S.yes⟩
theorem CloseI.step(S:CloseI g ps R x y again R')(T:StepR g ps x y R' ch true R''):CloseI g ps R x (y+1) (again||ch) R'':=by
 refine⟨T.dj,S.mono.trans T.mono,fun q=>?_,fun q=>?_⟩
 ·simp only[Bool.or_eq_false_iff] at q;obtain⟨q1,q2⟩:=q;have hr:=T.no rfl q2;subst hr;exact⟨(S.no q1).1,fun a b ac la lb e=>by
   by_cases hh:a=x/\b=y
   ·obtain⟨rfl,rfl⟩:=hh;exact T.done rfl
   ·exact(S.no q1).2 a b (by omega) la lb e⟩
 ·cases aa:ch
  ·rw[aa,Bool.or_false] at q;rw[T.no rfl aa];exact S.yes q
  ·have h1:=T.yes rfl aa;cases ab:again
   ·rw[(S.no ab).1] at h1;exact h1
   ·have:=S.yes ab;omega
theorem CloseI.line(S:CloseI g ps R x g.nodes.length again R'):CloseI g ps R (x+1) 0 again R':=
 ⟨S.dj,S.mono,fun q=>⟨(S.no q).1,fun a b aa la lb e=>(S.no q).2 a b (by omega) la lb e⟩,S.yes⟩
theorem CloseI.fin(S:CloseI g ps R g.nodes.length 0 false R'):R'=R/\∀a b,InG g a->InG g b->clAt R' a=clAt R' b->DoneP g R' a b:=by obtain⟨h1,h2⟩:=S.no rfl;refine⟨h1,fun a b ha hb e=>?_⟩;obtain⟨i,rfl⟩:∃i:Nat,a=i:=⟨a.toNat,by have:=ha.1;omega⟩;obtain⟨j,rfl⟩:∃j:Nat,b=j:=⟨b.toNat,by have:=hb.1;omega⟩;have:=ha.2;have:=hb.2;exact h2 i j (by omega) (by omega) (by omega) e
structure CloseR(g:Graph)(ps:List Pr)(R:List Int)(ok:Bool)(R':List Int):Prop where
 dj:DJ g ps R'
 mono:MonoR g R R'
 bad:ok=false->¬Consi g ps
 done:ok=true->∀a b,InG g a->InG g b->clAt R' a=clAt R' b->DoneP g R' a b
end
end Go.Ab.S
end
section
namespace Go.Ab.S
open Go.Ab
section
variable{fns:FnsT}{summ:SumT}
variable(H:Has fns summ)
include H
theorem Equal_ok(g:Graph)(hg:GraphSm g)(v u:AVal)(h:AHeap)(hw:WF h)(hv:GraphAt h v g)(hu:GraphAt h u g):Cl fns summ 14 [v,u] h fun r h'=>r=.bool true/\Grow h h':=by
 obtain⟨nv,rfl,hN⟩:=hv;obtain⟨mv,rfl,hM⟩:=hu;have hlN:=hN.len;have hlM:=hM.len;have hsm:Hid (∀n∈g.nodes,NodeSm n):=⟨hg.all⟩;have hNN:=hg.nodes;refine H.go (fn:=F_Equal) rfl (by decide) rfl rfl ?_;unfold F_Equal;dsimp only[qQ,gQ,gE,tm,mt,lo,fa,jn,jv,jb,jl,ji,je,jd,jo,jt,jR,jS,jC,jL];refine zAu (zAz ?_);refine zAr e1 cc hw ?_;rintro b2 h2 hb2 g2 o2;refine zAr e1 cc g2.wf ?_;rintro b3 h3 hb3 g3 o3;replace o2:=g3.keep _ _ o2;have g03:=g2.trans g3;have z1:(g.root != g.root)=false:=by simp
 have z2:((Int.ofNat g.nodes.length:Int) != Int.ofNat g.nodes.length)=false:=by simp
 clear hb2 hb3 g2;repeat refine zR ?_
 refine zAp (N:=g.nodes.length) (fun j a hp=>Grow h3 hp/\a.defers=[]/\ev a (.tmp 2)=some (.ptr (some (b2,0)))/\ev a (.tmp 3)=some (.ptr (some (b3,0)))) ?_ ?_ ⟨Grow.refl g3.wf,n1,e1,e1⟩
 ·rintro j a hp hj ⟨gp,hd,e2',e3'⟩ hi hn;obtain⟨b,o,ver,ro,e,vs,av,lv,hix,hget,hvl,hvo,_,_,w2,_,_,ha,hl⟩:=(hN.mono (g03.trans gp)).at (zgG hj);obtain⟨b',o',ver',ro',e',vs',bv,mv',hix',aa,hvl',hvo',_,_,w2',_,_,hb,hm⟩:=(hM.mono (g03.trans gp)).at (zgG hj);have hpart:zAk (some 5) vs o=some (zBf g.nodes[j] av lv):=by rw[zAk,if_pos hvl,hvo];rfl
  have hpart':zAk (some 5) vs' o'=some (zBf g.nodes[j] bv mv'):=by rw[zAk,if_pos hvl',hvo'];rfl
  have o2p:=gp.keep _ _ o2;have o3p:=gp.keep _ _ o3;have hmem:=List.getElem_mem hj;have hsj:=hsm.out _ hmem;have hargs:=hsj.args;clear z1 z2 o2 o3;repeat refine zR ?_
  refine dr_e (zJb s1 ((Alike_ok H _ _ hsj av lv bv mv' hp gp.wf ha hl hb hm).mono ?_));rw[zNC];rintro _ h4 ⟨rfl,g4⟩;have k1:=g4.keep _ _ o2p;have k2:=g4.keep _ _ o3p;have k3:=g4.keep _ _ hget;have k4:=g4.keep _ _ aa;refine⟨by simp[zAJ,Nat.testBit,k1,k2,k3,k4],?_⟩;clear o2p o3p hget aa;repeat refine zR ?_
  refine dr_e (zJb s1 ((Ints_ok H _ _ hargs av bv h4 (ha.mono g4) (hb.mono g4)).mono ?_));rw[zKY];rintro _ _ ⟨rfl,rfl⟩;refine⟨by simp[zAJ,Nat.testBit,k1,k2,k3,k4],?_⟩;repeat refine zR ?_
  exact⟨⟨gp.trans g4,n1,e1,e1⟩,e1,e1⟩
 ·rintro a hp ⟨gp,hd,e2',e3'⟩;repeat refine zG ?_
  exact⟨rfl,g03.trans gp⟩
end
end Go.Ab.S
end
section
namespace Go.Ab.S
open Go Go.Ab
def ClsAt(h:AHeap)(b rb:Nat)(nv:AVal)(N:Nat)(R:List Int):Prop:=(∃ver,h.objs.get b=some (ver,.cells false 74 [nv,.slice (some (rb,0)) N]))/\RowI h rb N R
theorem RowI.len{h:AHeap}{b N:Nat}{l:List Int}(r:RowI h b N l):l.length=N:=by obtain⟨_,vs,_,q,hl⟩:=r;have:=congrArg List.length q;simp at this;omega
theorem ClsAt.ne{h:AHeap}{b rb N:Nat}{nv:AVal}{R:List Int}(k:ClsAt h b rb nv N R):b≠rb:=by obtain⟨⟨ver,hb⟩,vr,vs,ho,_⟩:=k;rintro rfl;rw[ho] at hb;cases hb
section
variable{fns:FnsT}{summ:SumT}
variable(H:Has fns summ)
include H
theorem zJE{N:Nat}{R:List Int}{b rb:Nat}{nv:AVal}(hN:N<=2 ^ 20)(h:AHeap)(hw:WF h)(hC:ClsAt h b rb nv N R){x y:Nat}(hx:x<N)(hy:y<N):
  Cl fns summ 33 [.ptr (some (b,0)),.int .i64 (x:Nat),.int .i64 (y:Nat)] h fun r h'=>r=.bool (decide (clAt R x≠clAt R y))/\But rb h h'/\ClsAt h' b rb nv N (zCJ R x y):=by
 have hne:=hC.ne;have hC':=Hid.mk hC;have hll:R.length=N:=hC.2.len;obtain⟨⟨ver,hb⟩,vr,vs,ho,aq,ak⟩:=hC;have hvx:=zCM aq hx ak;have hvy:=zCM aq hy ak;have hix:slA (.slice (some (rb,0)) N) 1 x=some (rb,x):=by simp[slA,hx]
 have hiy:slA (.slice (some (rb,0)) N) 1 y=some (rb,y):=by simp[slA,hy]
 obtain⟨u,hu⟩:∃u,clAt R (x:Int)=u:=⟨_,rfl⟩;obtain⟨v,hv⟩:∃v,clAt R (y:Int)=v:=⟨_,rfl⟩;rw[hu] at hvx;rw[hv] at hvy;have hlenr:lenO (.slice (some (rb,0)) N)=some N:=rfl;have aj:Hid (u≠v->zCJ R (x:Int) (y:Int)=R.map (hiLo u v)):=⟨fun h=>by rw[zQS (by rw[hu,hv];exact h),hu,hv]⟩;have an:Hid (u=v->zCJ R (x:Int) (y:Int)=R):=⟨fun h=>zKh (by rw[hu,hv,h])⟩;clear aq;refine H.go (fn:=F_rJoin08) rfl (by decide) rfl rfl ?_;unfold F_rJoin08;dsimp only[qQ,tm,mt,lo,fa,jn,jv,jb,js,ji,je,jR,jS,jC,jL];rw[hu,hv];clear hu hv;repeat refine zR ?_
 cases hz:(u==v)
 ·have ac:u≠v:=by simpa using hz
  have hmin:(if v<u then v else u)=min u v:=by split<;>omega
  have hmax:(if v>u then v else u)=max u v:=by split<;>omega
  replace aj:=Hid.mk (aj.out ac);have ab:decide (u≠v)=true:=by simpa using ac
  rw[ab];have hhl:Hid (∀r,hiLo u v r=if r=max u v then min u v else r):=⟨fun r=>rfl⟩;clear ac ab an;generalize hF:hiLo u v=F at*;generalize hlo:min u v=lo at*;generalize hhi:max u v=hh at*;clear hF hlo hhi hvx hvy;repeat refine zR ?_
  have R0:Hid (RowI h rb N (zEp F R 0)):=⟨by rw[zNU];exact hC'.out.2⟩;refine zAp (N:=N) (fun j a hp=>Hid (But rb h hp)/\Hid (RowI hp rb N (zEp F R j))/\a.defers=[]/\ev a (.tmp 0)=some (.ptr (some (b,0)))/\ev a (.tmp 9)=some (.int .i64 lo)/\ev a (.tmp 10)=some (.int .i64 hh)) ?_ ?_ ⟨⟨zES _ _⟩,R0,n1,e1,e1,e1⟩
  ·clear ho ak hmin hmax hix hiy hz;rintro j a hp hj ⟨B,Rw,hd,t0',t9',t10'⟩ hi hn;obtain⟨vp,vsp,hop,ai,al⟩:=Rw.out;have hbp:=B.out.keep _ hne _ hb;have ao:=zCM ai hj al;rw[zMe (by omega)] at ao;have ad:=Hid.mk (zKl (f:=F) (R:=R) (j:=j) (by omega));have aa:=Hid.mk (zNT (f:=F) (R:=R) (j:=j) (by omega));have ah:=Hid.mk (fun z=>zIO ai hj al z);have ae:=Hid.mk (hhl.out (clAt R (j:Int)));obtain⟨r,hr⟩:∃r,clAt R (j:Int)=r:=⟨_,rfl⟩;rw[hr] at ao ad aa ae;have hij:slA (.slice (some (rb,0)) N) 1 j=some (rb,j):=by simp[slA,hj]
   have w:=B.out.wf hw;clear ai hr;cases hq:(r==hh)
   ·have am:Hid (RowI hp rb N (zEp F R (j+1))):=⟨by
     rw[aa.out (by rw[ae.out,if_neg (by simpa using hq)])];exact Rw.out⟩
    clear ad aa ae ah;repeat refine zR ?_
    exact⟨⟨B,am,n1,e1,e1,e1⟩,e1,e1⟩
   ·have hFl:Hid (F r=lo):=⟨by rw[ae.out,if_pos (by simpa using hq)]⟩;clear ae aa;repeat refine zR ?_
    refine zAC e1 e1 (cs:=[.int .i64 lo]) rfl rfl w hop (by simp only[zlC,zlN];omega) rfl ?_;rintro v4 h4 p4 o4;have B':Hid (But rb h h4):=⟨B.out.trans p4⟩;have am:Hid (RowI h4 rb N (zEp F R (j+1))):=⟨by
     rw[<-ad.out,hFl.out];refine⟨v4,_,o4,ah.out lo,?_⟩;simp only[zgL,List.length_take,zlC,zlN,List.length_drop];omega⟩
    clear hbp hop ao hij ad ah o4 p4;repeat refine zR ?_
    exact⟨⟨B',am,n1,e1,e1,e1⟩,e1,e1⟩
  ·rintro a hp ⟨B,Rw,hd,t0',t9',t10'⟩;have af:Hid (But rb h hp/\ClsAt hp b rb nv N (zCJ R (x:Int) (y:Int))):=⟨B.out,⟨_,B.out.keep _ hne _ hb⟩,by
    rw[aj.out,<-zOr,hll];exact Rw.out⟩
   clear ho hb ak;repeat refine zG ?_
   exact⟨rfl,af.out⟩
 ·have ac:u=v:=by simpa using hz
  have ab:decide (u≠v)=false:=by simpa using ac
  have af:Hid (But rb h h/\ClsAt h b rb nv N (zCJ R (x:Int) (y:Int))):=⟨zES _ _,by rw[an.out ac];exact hC'.out⟩;rw[ab];clear ac ab an aj;repeat refine zG ?_
  exact⟨rfl,af.out⟩
theorem zKw(n:Node)(hn:NodeSm n)(hla:n.labels.length<=n.args.length)(s:List Nat)(hs:s.length<2 ^ 60)(av lv:AVal)(h:AHeap)(hw:WF h)(ha:IntsAt h av n.args)(hl:StrsAt h lv n.labels):
  Cl fns summ 60 [zBf n av lv,.str s] h fun r h'=>Grow h h'/\∃z,r=.int .i64 z/\((∃k,n.labels[k]?=some s/\z=n.args.getD k 0)\/(s∉n.labels/\z= -1)):=by
 have hlen:=hl.len;have hlsm:=hn.labels;unfold zBf;refine H.go (fn:=F_rArg08) rfl (by decide) rfl rfl ?_;unfold F_rArg08;dsimp only[mt,lo,fa,jn,jv,ji,je,jo,jR,jS,jC,jL];refine zAu (zAz ?_);refine zAr e1 cc hw ?_;rintro b2 h2 hb2 g2 o2;repeat refine zR ?_
 refine zAp (N:=n.labels.length) (fun j a hp=>hp=h2/\Hid (∀i,i<j->n.labels[i]?≠some s)/\a.defers=[]/\ev a (.tmp 1)=some (.str s)/\ev a (.tmp 2)=some (.ptr (some (b2,0)))/\ev a (.tmp 8)=some lv) ?_ ?_ ⟨rfl,⟨fun i hi=>by omega⟩,n1,e1,e1,e1⟩
 ·rintro j a hp hj ⟨rfl,ab,hd,t1',t2',t8'⟩ hi hn';obtain⟨bl,ol,verl,rl,el,vsl,hixl,hgl,hvl⟩:=(hl.mono g2).at (zgG hj);obtain⟨ba,oa,vera,ra,ea,vsa,hixa,hga,hva⟩:=(ha.mono g2).at (zgG (show j<n.args.length by omega));have aa:Hid (n.labels[j]=s->∃k,n.labels[k]?=some s/\n.args[j]=n.args.getD k 0):=⟨fun q=>⟨j,by rw[zgG hj,q],by rw[List.getD,zgG (show j<n.args.length by omega)];rfl⟩⟩;have ac:Hid (n.labels[j]≠s->∀i,i<j+1->n.labels[i]?≠some s):=⟨fun q i hi=>by
   by_cases hij:i=j
   ·subst hij;rw[zgG hj];simpa using q
   ·exact ab.out i (by omega)⟩
  cases hq:eqL n.labels[j] s
  ·have ad:n.labels[j]≠s:=fun k=>by rw[<-zAx] at k;rw[k] at hq;cases hq
   replace ac:=Hid.mk (ac.out ad);clear ad aa;repeat refine zR ?_
   exact⟨⟨rfl,ac,n1,e1,e1,e1⟩,e1,e1⟩
  ·replace aa:=Hid.mk (aa.out (zAx.1 hq));clear ac;repeat refine zG ?_
   exact⟨g2,_,rfl,.inl aa.out⟩
 ·rintro a hp ⟨rfl,ab,hd,t1',t2',t8'⟩;have hnm:Hid (s∉n.labels):=⟨fun hm=>by
   obtain⟨k,hk,rfl⟩:=List.mem_iff_getElem.1 hm;exact ab.out k hk (zgG hk)⟩
  clear ab;repeat refine zG ?_
  exact⟨g2,_,rfl,.inr ⟨hnm.out,rfl⟩⟩
end
end Go.Ab.S
end
