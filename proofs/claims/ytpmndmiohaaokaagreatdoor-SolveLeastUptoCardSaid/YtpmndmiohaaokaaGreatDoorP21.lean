import Derived.Test.YtpmndmiohaaokaaGreatDoorP14
import Derived.Test.YtpmndmiohaaokaaGreatDoorP19
import Derived.Test.YtpmndmiohaaokaaGreatDoorP20
/-
  Part 21 of the proof.
-/
set_option linter.all false
section
namespace Go.Ab.S
open Go Go.Ab
set_option maxHeartbeats 8000000
def LstF (f:Int->Int) (args:List Int) (i:Nat):List Int:=(args.take i).map f++args.drop i
theorem LstF_get {f:Int->Int} {args:List Int} {i:Nat} (h:i<args.length):(LstF f args i)[i]?=some args[i]:=by
 rw [LstF,List.getElem?_append_right (by simp;omega)]
 simp [Nat.min_eq_left (Nat.le_of_lt h),h]
theorem LstF_set {f:Int->Int} {args:List Int} {i:Nat} (h:i<args.length):(LstF f args i).set i (f args[i])=LstF f args (i+1):=by
 have hl:((args.take i).map f).length=i:=by simp;omega
 rw [LstF,List.set_append_right _ _ (by omega),hl,Nat.sub_self,List.drop_eq_getElem_cons h,List.set_cons_zero,LstF,List.take_succ_eq_append_getElem h,List.map_append,List.append_assoc]
 rfl
def NodeM (hA hp:AHeap) (c:List AVal) (n:Node):Prop:=∃av lv,c=[.int .i64 n.kind,.str n.name,av,lv,.bool n.isOpen]/\(IntsAt hA av n.args\/Built hp hA.next 3 1 av n.args.length (n.args.map (AVal.int .i64)))/\StrsAt hA lv n.labels
section
variable {hA hp hq:AHeap} {c:List AVal} {n:Node}
theorem NodeM.at (g:Grow hA hp) (k:NodeM hA hp c n):NodeAt hp c n:=by
 obtain ⟨av,lv,h1,h2,h3⟩:=k
 refine ⟨av,lv,h1,?_,h3.mono g⟩
 rcases h2 with h2|h2
 ·exact h2.mono g
 ·exact zDK h2
theorem NodeM.stay (k:NodeM hA hp c n) (hk:∀b p,hA.next<=b->hp.objs.get b=some p->(∃vs,p.2=.cells false 3 vs)->hq.objs.get b=some p):NodeM hA hq c n:=by
 obtain ⟨av,lv,h1,h2,h3⟩:=k
 refine ⟨av,lv,h1,?_,h3⟩
 rcases h2 with h2|h2
 ·exact .inl h2
 ·exact .inr (zAZ h2 hk)
end
structure MtInv (hA:AHeap) (b10:Nat) (root:Int) (ns:List Node) (hp:AHeap):Prop where
 grow:Grow hA hp
 low:hA.next<=b10
 o:∃(ver:Nat) (vo:AVal) (cs:List (List AVal)),hp.objs.get b10=some (ver,.cells false 24 [vo,.int .i64 root])/\Built hp hA.next 36 5 vo ns.length cs.flatten/\cs.length=ns.length/\∀(i:Nat) c n,cs[i]?=some c->ns[i]?=some n->NodeM hA hp c n
theorem MtInv.other {hA:AHeap} {b10:Nat} {root:Int} {ns:List Node} {hp hq:AHeap} (I:MtInv hA b10 root ns hp) (g:Grow hp hq):MtInv hA b10 root ns hq:=by
 obtain ⟨ver,vo,cs,h1,h2,h3,h4⟩:=I.o
 exact ⟨I.grow.trans g,I.low,ver,vo,cs,g.keep _ _ h1,h2.grow g,h3,fun i c n hc hn=>(h4 i c n hc hn).stay fun b p _ hb _=>g.keep _ _ hb⟩
theorem MtInv.nodes {hA:AHeap} {b10:Nat} {root:Int} {ns:List Node} {hp:AHeap} (I:MtInv hA b10 root ns hp):∃ver vo,hp.objs.get b10=some (ver,.cells false 24 [vo,.int .i64 root])/\NodesAt hp vo ns:=by
 obtain ⟨ver,vo,cs,h1,kB,kl,kn⟩:=I.o
 refine ⟨ver,vo,h1,cs,kB.sl (by decide) rfl (fun c hc=>?_) kl,kl,fun i n c hn hc=>(kn i c n hc hn).at I.grow⟩
 obtain ⟨i,hi,rfl⟩:=List.mem_iff_getElem.1 hc
 obtain ⟨_,_,hcs,_⟩:=kn i _ _ (zgG hi) (zgG (by omega))
 rw [hcs];rfl
def nsTo (g h:Graph) (j:Nat):List Node:=g.nodes++(h.nodes.take j).map (shN g.nodes.length)
theorem zFT (g h:Graph) {j:Nat} (hj:j<=h.nodes.length):(nsTo g h j).length=g.nodes.length+j:=by simp [nsTo];omega
theorem zPz (g h:Graph) {j:Nat} (hj:j<h.nodes.length):nsTo g h (j+1)=nsTo g h j++[shN g.nodes.length h.nodes[j]]:=by
 rw [nsTo,nsTo,List.take_succ_eq_append_getElem hj,List.map_append,List.append_assoc];rfl
theorem zPy (g h:Graph):nsTo g h h.nodes.length=(zBF g h).nodes:=by rw [nsTo,List.take_length];rfl
section
variable {fns:FnsT} {summ:SumT}
variable (H:Has fns summ) (HS:HasSort summ) (HA:HasAs summ)
include H HS HA
theorem Meet_ok (g h:Graph) (hg:GTi g) (hh:GTi h) (hb:GTi (zBF g h)) (hL:zAe [] (zBF g h).nodes 0<=2 ^ 20) (hsm:((zBF g h).nodes.length+1)*(zAe [] (zBF g h).nodes 0+1)+1<=2 ^ 30) {gv hv':AVal} {h0:AHeap} (w0:WF h0) (hv:GraphAt h0 gv g) (hu:GraphAt h0 hv' h):
  Cl fns summ 16 [gv,hv'] h0 fun r h'=>Grow h0 h'/\∃uv code,r=.tuple [uv,.int .i64 code]/\(code≠0->uv=.agg [.slice none 0,.int .i64 0])/\((zAF g≠0/\code=zAF g)\/(zAF g=0/\zAF h≠0/\code=zAF h)\/(zAF g=0/\zAF h=0/\code=8/\¬Consi (zBF g h) (zBo g h))\/(zAF g=0/\zAF h=0/\code=0/\∃U R,UOut (zBF g h) (zBo g h) U R/\OwnG h' h0.next uv (zCI U))):=by
 obtain ⟨gn,rfl,hN⟩:=hv
 obtain ⟨hn,rfl,hM⟩:=hu
 have hlen:=hN.len
 have hlenh:=hM.len
 have hpart:zBG (some 2) [gn,.int .i64 g.root] 0=some (.agg [gn,.int .i64 g.root]):=rfl
 have hpart':zBG (some 2) [hn,.int .i64 h.root] 0=some (.agg [hn,.int .i64 h.root]):=rfl
 refine H.go (fn:=F_SMeet) rfl (by decide) rfl rfl ?_
 unfold F_SMeet
 dsimp only [qQ,qE,qN,gQ,gE,vi,tm,mt,lo,fa]
 refine zAE (zAD ?_)
 refine zBZ (by exact e1) (by exact cc) w0 ?_
 rintro b2 h2 hb2 g2 o2
 refine zBZ (by exact e1) (by exact cc) g2.wf ?_
 rintro b3 h3 hb3 g3 o3
 refine zAb g3.wf ?_
 rintro b4 h4 hb4 g4 o4
 replace o2:=g4.keep _ _ (g3.keep _ _ o2)
 replace o3:=g4.keep _ _ o3
 have g04:=(g2.trans g3).trans g4
 have n2:=g2.next
 have n3:=g3.next
 have ht2:∀x y:AVal,List.take 2 [x,y]=[x,y]:=fun _ _=>rfl
 repeat with_reducible first|refine zAA ?_|refine zAC ?_|refine zAE ?_|refine zAD ?_|(apply st_q;exact q1)
 refine st_q (v:=.agg [gn,.int .i64 g.root,hn,.int .i64 h.root]) (b:=none) (by rw [zBl];simp only [zCy,zBD,zBI,zBM,if_true,if_false,Nat.reduceEqDiff,zAj];rfl) ?_
 repeat with_reducible first|refine zAA ?_|refine zAC ?_|(apply st_q;exact q1)
 have o2h:=Hid.mk o2
 have o3h:=Hid.mk o3
 have o4h:=Hid.mk o4
 have lb2:=g04.wf.lt o2
 have lb3:=g04.wf.lt o3
 have lb4:=g04.wf.lt o4
 refine zEZ (fun a hp=>Hid (Grow h4 hp)/\Hid (zAF g=0/\zAF h=0)/\a.defers=[]/\ev a (.tmp 2)=some (.ptr (some (b2,0)))/\ev a (.tmp 3)=some (.ptr (some (b3,0)))/\ev a (.tmp 4)=some (.ptr (some (b4,0)))) ?_ ?_
 ·refine zCD ?_
  refine zDP (fun m a hp=>∃j:Nat,Hid (m+j=2)/\Hid (Grow h4 hp)/\Hid ((1<=j->zAF g=0)/\(2<=j->zAF h=0))/\a.defers=[]/\ev a (.tmp 2)=some (.ptr (some (b2,0)))/\ev a (.tmp 3)=some (.ptr (some (b3,0)))/\ev a (.tmp 4)=some (.ptr (some (b4,0)))/\ev a (.tmp 19)=some (.agg [gn,.int .i64 g.root,hn,.int .i64 h.root])/\ev a (.tmp 20)=some (.int .i64 (j:Nat))) ?_ (n:=2) ⟨0,⟨rfl⟩,⟨Grow.refl g04.wf⟩,⟨fun h=>by omega,fun h=>by omega⟩,by exact n1,by exact e1,by exact e1,by exact e1,by exact e1,by exact e1⟩
  clear o2 o3 o4
  rintro m a hp ⟨j,hm,Gp,hck,hd,t2',t3',t4',t19',t20'⟩
  have wp:=Gp.out.wf
  have o4:=Gp.out.keep _ _ o4h.out
  rcases Nat.lt_or_ge j 2 with hj|hj
  ·have z0:decide (((j:Nat):Int)<2)=true:=by simp;omega
   obtain ⟨x,xn,hGx,hxN,hpx,hcx⟩:∃x xn,GTi x/\NodesAt h0 xn x.nodes/\zBG (some 2) [gn,.int .i64 g.root,hn,.int .i64 h.root] (j*2)=some (.agg [xn,.int .i64 x.root])/\((j=0/\x=g)\/(j=1/\x=h)):=by
    rcases (show j=0\/j=1 by omega) with rfl|rfl
    ·exact ⟨g,gn,hg,hN,rfl,.inl ⟨rfl,rfl⟩⟩
    ·exact ⟨h,hn,hh,hM,rfl,.inr ⟨rfl,rfl⟩⟩
   replace hcx:=Hid.mk hcx
   have lx:=hxN.len
   have hxN':=Hid.mk hxN
   have hGx':=Hid.mk hGx
   clear hxN hGx
   repeat with_reducible first|refine zAA ?_|refine zAC ?_|refine zAE ?_|refine zAD ?_|refine zAM ?_|refine zAS ?_|(apply st_q;exact q1)|(apply zAK;exact e1)
   refine st_q (v:=.agg [xn,.int .i64 x.root]) (b:=none) (by simp [zCN,zBD,t19',t20',zCZ,hj,hpx]) ?_
   refine zAb wp ?_
   rintro b7 h6 hb7 g6 o7
   refine zAG (by exact e1) (by exact e1) (by exact cc) rfl g6.wf o7 (by simp) (by simp only [List.all_cons,List.all_nil,zAR lx,Bool.true_and,Bool.and_true];rfl) ?_
   rintro v7 h7 p7 o7'
   simp only [zlY,zlA,zlC,zlN,zlD,zlZ,zlE,Nat.zero_add,Nat.reduceAdd,zlX,zlK] at o7'
   have g7:Grow hp h7:=p7.grow hp wp g6 hb7
   have G7:=Hid.mk (Gp.out.trans g7)
   have w7:=g7.wf
   have o47:=g7.keep _ _ o4
   clear g6 o7 p7 g7 o4
   repeat with_reducible first|refine zAA ?_|refine zAC ?_|refine zAE ?_|refine zAD ?_|(apply st_q;exact q1)
   refine zAc (by exact s1) ((Check_ok H x hGx'.out.toGraphSm _ h7 w7 ⟨xn,rfl,hxN'.out.mono (g04.trans G7.out)⟩).mono ?_)
   rintro _ h8 ⟨rfl,g8⟩
   have G8:=Hid.mk (G7.out.trans g8)
   have o48:=g8.keep _ _ o47
   have w8:=g8.wf
   clear o47 g8 o7'
   cases hz:(zAF x != 0)
   ·have hz0:Hid (zAF x=0):=⟨by simpa using hz⟩
    have hck':Hid ((1<=j+1->zAF g=0)/\(2<=j+1->zAF h=0)):=⟨by
     rcases hcx.out with ⟨rfl,rfl⟩|⟨rfl,rfl⟩
     ·exact ⟨fun _=>hz0.out,fun h=>by omega⟩
     ·exact ⟨fun _=>hck.out.1 (by omega),fun _=>hz0.out⟩⟩
    have hm':Hid (m - 1<m/\m - 1+(j+1)=2):=⟨by have:=hm.out;omega,by have:=hm.out;omega⟩
    have hwj:IntKind.i64.wrap (((j:Nat):Int)+1)=((j+1:Nat):Int):=by rw [zAq (by omega) (by omega)];rfl
    repeat with_reducible first|refine zAA ?_|refine zAN ?_|refine zAC ?_|refine zAE ?_|refine zAD ?_|refine zAS ?_|(apply st_q;exact q1)|(apply zAJ;exact e1)
    exact ⟨m - 1,hm'.out.1,j+1,⟨hm'.out.2⟩,G8,hck',by exact n1,by exact e1,by exact e1,by exact e1,by exact e1,by exact e1⟩
   ·have hz0:Hid (zAF x≠0):=⟨by simpa using hz⟩
    have hor:Hid ((zAF g≠0/\zAF x=zAF g)\/(zAF g=0/\zAF h≠0/\zAF x=zAF h)):=⟨by
     rcases hcx.out with ⟨rfl,rfl⟩|⟨rfl,rfl⟩
     ·exact .inl ⟨hz0.out,rfl⟩
     ·exact .inr ⟨hck.out.1 (by omega),hz0.out,rfl⟩⟩
    have hG8:=g04.trans G8.out
    repeat with_reducible first|refine zAA ?_|refine zAC ?_|refine zAE ?_|refine zAD ?_|(apply st_q;exact q1)|(apply zAK;exact e1)
    refine zAG (by exact e1) (by exact e1) (by exact cc) rfl w8 o48 (by simp) rfl ?_
    rintro v9 h9 p9 o9
    simp only [zlY,zlA,zlC,zlN,zlD,zlZ,zlE,Nat.zero_add,Nat.reduceAdd,zlX,zlK] at o9
    have g9:=p9.grow h0 w0 hG8 (by omega)
    clear o48 p9
    repeat' with_reducible first|refine zAA ?_|refine zAd ?_|refine zBQ ?_|refine zAC ?_|refine zAQ ?_|(apply st_q;exact q1)|(apply zAI;exact n1;exact r1)
    exact ⟨g9,_,_,rfl,fun _=>rfl,hor.out.elim .inl fun k=>.inr (.inl k)⟩
  ·obtain rfl:j=2:=by have:=hm.out;omega
   have z0:decide (((2:Nat):Int)<2)=false:=by decide
   have hck':Hid (zAF g=0/\zAF h=0):=⟨hck.out.1 (by omega),hck.out.2 (by omega)⟩
   repeat with_reducible first|refine zAA ?_|refine zBk ?_|refine zBj ?_|refine zAC ?_|refine zAE ?_|refine zAD ?_|refine zCJ ?_|(apply st_q;exact q1)|(apply zAJ;exact e1)
   exact ⟨Gp,hck',by exact n1,by exact e1,by exact e1,by exact e1⟩
 ·clear o2 o3 o4
  rintro a hp ⟨Gp,hck,hd,t2',t3',t4'⟩
  have o2:=Gp.out.keep _ _ o2h.out
  have o3:=Gp.out.keep _ _ o3h.out
  have o4:=Gp.out.keep _ _ o4h.out
  have hNM:g.nodes.length+h.nodes.length<=4096:=by have:=hb.tinyN;rw [zCP] at this;exact this
  have hw1:IntKind.i64.wrap (Int.ofNat g.nodes.length+Int.ofNat h.nodes.length)=((g.nodes.length+h.nodes.length:Nat):Int):=by
   rw [zAq (by simp only [Int.ofNat_eq_natCast];omega) (by simp only [Int.ofNat_eq_natCast];omega)];simp
  have z1:decide (((g.nodes.length+h.nodes.length:Nat):Int)>1048576)=false:=by simp;omega
  refine zAA ?_
  repeat with_reducible first|refine zAA ?_|refine zAC ?_|refine zAE ?_|refine zAD ?_|refine zAS ?_|refine zAx ?_|(apply dr_q;exact q1)|(apply zCK;exact q1;exact og1)|(apply st_q;exact q1)|(apply zAJ;exact e1)
  have wp:=Gp.out.wf
  have n4p:=Gp.out.next
  have Gh:=Hid.mk (g04.trans Gp.out)
  refine zBB (zAc (by exact s1) ((CloneNode_ok H g.nodes (le31 (by omega)) gn hp wp (hN.mono Gh.out)).mono ?_))
  rintro bv hA ⟨cs0,Bg,lcs0,hcs0,gA⟩
  have o2A:=gA.keep _ _ o2
  refine zAC ⟨by simp [zAa,Nat.testBit,o2A],?_⟩
  have lbv:=Bg.len
  have wA:=gA.wf
  refine dr_q (v:=.agg [bv,.int .i64 g.root]) (by rw [zBl];simp only [zCy,zBD,zBI,zBM,if_true,if_false,Nat.reduceEqDiff,zAh lbv];rfl) ?_
  refine zBB (zAb wA ?_)
  rintro b10 hB hb10 gB o10
  have o2B:=gB.keep _ _ o2A
  refine zAC ⟨by simp [zAa,Nat.testBit,o2B],?_⟩
  refine zBB (zAG (by exact e1) (by exact e1) (by exact cc) rfl gB.wf o10 (by simp) (by simp only [List.all_cons,List.all_nil,zAR lbv,Bool.true_and,Bool.and_true];rfl) ?_)
  rintro vC hC pC oC
  have gC:Grow hA hC:=pC.grow hA wA gB hb10
  have o2C:=gC.keep _ _ o2A
  refine zAC ⟨by simp [zAa,Nat.testBit,o2C],?_⟩
  simp only [zlY,zlA,zlC,zlN,zlD,zlZ,zlE,Nat.zero_add,Nat.reduceAdd,zlX,zlK] at oC
  have nA:=gA.next
  have I0:Hid (MtInv hp b10 g.root (nsTo g h 0) hC):=⟨⟨gA.trans gC,by omega,_,bv,cs0,oC,by rw [zFT g h (Nat.zero_le _)];exact Bg.grow gC,by rw [zFT g h (Nat.zero_le _)];exact lcs0,fun i c n hc hn=>by
   have hn':g.nodes[i]?=some n:=by simpa [nsTo] using hn
   obtain ⟨av,lv,h1,h2,h3⟩:=hcs0 i n c hn' hc
   exact ⟨av,lv,h1,.inl h2,h3⟩⟩⟩
  have o2p:=Hid.mk o2
  have o3p:=Hid.mk o3
  have o4p:=Hid.mk o4
  have o3C:=gC.keep _ _ (gA.keep _ _ o3)
  have lt2:=wp.lt o2
  have lt3:=wp.lt o3
  have lt4:=wp.lt o4
  have lb10:hp.next<=b10:=by omega
  clear o10 gB pC gC gA o2A o2B o2C Bg hcs0 oC o2 o3 o4
  repeat with_reducible first|refine zAA ?_|refine zAC ?_|refine zAE ?_|refine zAD ?_|refine zBU ?_|(apply st_q;exact q1)
  refine zAs (N:=h.nodes.length) (by omega) (fun j a hq=>Hid (MtInv hp b10 g.root (nsTo g h j) hq)/\a.defers=[]/\ev a (.tmp 2)=some (.ptr (some (b2,0)))/\ev a (.tmp 3)=some (.ptr (some (b3,0)))/\ev a (.tmp 4)=some (.ptr (some (b4,0)))/\ev a (.tmp 9)=some (.int .i64 (g.nodes.length:Nat))/\ev a (.tmp 10)=some (.ptr (some (b10,0)))/\ev a (.tmp 47)=some hn)
   (by rintro j a hq t w (rfl|rfl|rfl) ⟨m1,m2,m3,m4,m5,m6,m7,m8⟩<;>exact ⟨m1,by rw [zAY];exact m2,by exact e1,by exact e1,by exact e1,by exact e1,by exact e1,by exact e1⟩) (by decide) ?_ ?_ ⟨I0,by exact n1,by exact e1,by exact e1,by exact e1,by exact e1,by exact e1,by exact e1⟩ (by exact e1) (by exact e1)
  ·clear I0 o3C
   rintro j a hq hj ⟨I,hd,t2',t3',t4',t9',t10',t47'⟩ hi hn'
   have hmem:h.nodes[j]∈h.nodes:=List.getElem_mem hj
   have hA4:=hh.tinyA _ hmem
   obtain ⟨bn,on,vern,ron,en,vsn,av,lv,hixn,hgn0,hvl,hv5,_,_,_,_,_,ha,hl⟩:=(hM.mono Gh.out).at (zgG hj)
   have hgn:=I.out.grow.keep _ _ hgn0
   have hpart5:zBG (some 5) vsn on=some (zDI h.nodes[j] av lv):=by rw [zBG,if_pos hvl,hv5];rfl
   have hla:=ha.len
   have hll:=hl.len
   have hmay:=Hid.mk (zAt ((zBH hck.out.2).2 _ hmem))
   have ha':=Hid.mk ha
   have hl':=Hid.mk hl
   clear hgn0 ha hl
   repeat with_reducible first|refine zAE ?_|refine zAD ?_|refine zAM ?_|(apply st_q;exact q1)
   have wq:=I.out.grow.wf
   refine zAb wq ?_
   rintro b12 h6 hb12 g6 o12
   refine zAG (by exact e1) (by exact e1) (cs:=[.int .i64 h.nodes[j].kind,.str h.nodes[j].name,av,lv,.bool h.nodes[j].isOpen]) rfl rfl g6.wf o12 (by simp) (zCU hla hll) ?_
   rintro v7 h7 p7 o7
   simp only [zlY,zlA,zlC,zlN,zlD,zlZ,zlE,Nat.zero_add,Nat.reduceAdd,zlX,zlK] at o7
   have g7:Grow hq h7:=p7.grow hq wq g6 hb12
   have G7:=Hid.mk (Gh.out.trans (I.out.grow.trans g7))
   have w7:=g7.wf
   have n7:=g7.next
   have ng7:=Hid.mk g7
   have l12:=w7.lt o7
   clear o12 p7 g6 hixn hgn hpart5 hv5 hvl g7
   repeat with_reducible first|refine zAA ?_|refine zAC ?_|refine zAE ?_|refine zAD ?_|(apply st_q;exact q1)
   refine zAc (by exact s1) ((CloneInt_ok H h.nodes[j].args (le31 (by omega)) av h7 w7 (ha'.out.mono (I.out.grow.trans ng7.out))).mono ?_)
   rintro ci h8 ⟨B8,g8⟩
   have o8:=g8.keep _ _ o7
   have gg8:=Hid.mk (ng7.out.trans g8)
   have hci8:=B8.len
   repeat with_reducible (apply st_q;exact q1)
   refine zAG (by exact e1) (by exact e1) (zAh hci8) rfl g8.wf o8 (by simp) (by simp only [List.all_cons,List.all_nil,zAR hci8,Bool.and_true]) ?_
   rintro v9 h9 p9 o9
   simp only [zlT,zlY,zlA,zlC,zlN,zlD,zlZ,zlE,Nat.zero_add,Nat.reduceAdd,zlX,zlK] at o9
   have g9:=Hid.mk (p9.grow hq wq gg8.out (by omega))
   have C9:Built h9 hq.next 3 1 ci h.nodes[j].args.length (h.nodes[j].args.map (AVal.int .i64)):=zBK (zAT B8 p9 o8 (fun vs hh=>by cases hh)) (by omega)
   have hci:=C9.len
   have w9:=g9.out.wf
   have C9':=Hid.mk C9
   clear B8 p9 o7 o8 gg8 g8 hci8 C9
   repeat with_reducible first|refine zAA ?_|refine zAC ?_|refine zAE ?_|refine zAD ?_|(apply st_q;exact q1)
   have hlo:LstF (· +(g.nodes.length:Int)) h.nodes[j].args 0=h.nodes[j].args:=by simp [LstF]
   have hle:Hid (LstF (· +(g.nodes.length:Int)) h.nodes[j].args h.nodes[j].args.length=(shN g.nodes.length h.nodes[j]).args):=⟨by simp [LstF,shN]⟩
   refine zEZ (fun a' hr=>Hid (∀c p,h9.objs.get c=some p->(∀n,ci≠.slice (some (c,0)) n)->hr.objs.get c=some p)/\Hid (Grow hq hr/\h9.next<=hr.next)/\Hid (Built hr hq.next 3 1 ci h.nodes[j].args.length ((LstF (· +(g.nodes.length:Int)) h.nodes[j].args h.nodes[j].args.length).map (AVal.int .i64)))∧
    a'.defers=[]/\ev a' (.tmp 2)=some (.ptr (some (b2,0)))/\ev a' (.tmp 3)=some (.ptr (some (b3,0)))/\ev a' (.tmp 4)=some (.ptr (some (b4,0)))/\ev a' (.tmp 9)=some (.int .i64 (g.nodes.length:Nat))/\ev a' (.tmp 10)=some (.ptr (some (b10,0)))/\ev a' (.tmp 47)=some hn/\ev a' (.tmp 12)=some (.ptr (some (b12,0)))/\ev a' (.tmp 49)=some (.int .i64 (j:Nat))/\ev a' (.tmp 48)=some (.int .i64 (h.nodes.length:Nat))) ?_ ?_
   ·refine zAs (N:=h.nodes[j].args.length) (by omega) (fun i a' hr=>Hid (∀c p,h9.objs.get c=some p->(∀n,ci≠.slice (some (c,0)) n)->hr.objs.get c=some p)/\Hid (Grow hq hr/\h9.next<=hr.next)/\Hid (Built hr hq.next 3 1 ci h.nodes[j].args.length ((LstF (· +(g.nodes.length:Int)) h.nodes[j].args i).map (AVal.int .i64)))∧
     a'.defers=[]/\ev a' (.tmp 2)=some (.ptr (some (b2,0)))/\ev a' (.tmp 3)=some (.ptr (some (b3,0)))/\ev a' (.tmp 4)=some (.ptr (some (b4,0)))/\ev a' (.tmp 9)=some (.int .i64 (g.nodes.length:Nat))/\ev a' (.tmp 10)=some (.ptr (some (b10,0)))/\ev a' (.tmp 47)=some hn/\ev a' (.tmp 12)=some (.ptr (some (b12,0)))/\ev a' (.tmp 49)=some (.int .i64 (j:Nat))/\ev a' (.tmp 48)=some (.int .i64 (h.nodes.length:Nat)))
     (by rintro i a' hr t w (rfl|rfl|rfl) ⟨m1,m2,m3,m4,m5,m6,m7,m8,m9,m10,m11,m12,m13⟩<;>exact ⟨m1,m2,m3,by rw [zAY];exact m4,by exact e1,by exact e1,by exact e1,by exact e1,by exact e1,by exact e1,by exact e1,by exact e1,by exact e1⟩) (by decide) ?_ ?_
     ⟨⟨fun c p hc _=>hc⟩,⟨g9.out,Nat.le_refl _⟩,⟨by rw [hlo];exact C9'.out⟩,by exact n1,by exact e1,by exact e1,by exact e1,by exact e1,by exact e1,by exact e1,by exact e1,by exact e1,by exact e1⟩ (by exact e1) (by exact e1)
    ·clear hd t2' t3' t4' t9' t10' t47' hi hn' hlo
     rintro i a' hr hil ⟨hkp,gr,hBB,hd,t2',t3',t4',t9',t10',t47',t12',t49',t48'⟩ hi hn'
     have hB:=hBB.out
     rcases hB with ⟨_,hh,_⟩|⟨_,hh,_⟩|⟨ba,vsa,vera,hba,hcq,hga,hla',hta⟩
     ·omega
     ·omega
     rw [Nat.mul_one] at hla' hta
     have hixa:slA ci 1 i=some (ba,i):=by rw [hcq];simp [slA,hil]
     have hva:vsa[i]?=some (.int .i64 h.nodes[j].args[i]):=by
      have:=congrArg (fun l=>l[i]?) hta
      simp only [List.getElem?_take,if_pos hil,zgM,LstF_get hil,Option.map_some] at this
      exact this
     have o9r:=hkp.out _ _ o9 (zAL C9'.out o9 fun vs hh=>by cases hh)
     obtain ⟨a0,a1⟩:=hmay.out _ (List.getElem_mem hil)
     have hwa:IntKind.i64.wrap (h.nodes[j].args[i]+((g.nodes.length:Nat):Int))=h.nodes[j].args[i]+((g.nodes.length:Nat):Int):=zAq (by omega) (by omega)
     have hcq':=Hid.mk hcq
     have hta':=Hid.mk hta
     have wr:=gr.out.1.wf
     clear hcq hta hBB a0 a1
     repeat with_reducible first|refine zAA ?_|refine zAC ?_|refine zAE ?_|refine zAD ?_|refine zAM ?_|(apply st_q;exact q1)
     refine zAG (by exact e1) (by exact e1) (by exact cc) rfl wr hga (by simp;omega) rfl ?_
     rintro vz hz pz oz
     simp only [zlC,zlN,Nat.zero_add] at oz
     have K1:Hid (∀c p,h9.objs.get c=some p->(∀n,ci≠.slice (some (c,0)) n)->hz.objs.get c=some p):=⟨fun c p hc hne=>pz.keep c (by rintro rfl;exact hne _ hcq'.out) _ (hkp.out c p hc hne)⟩
     have K2:Hid (Grow hq hz/\h9.next<=hz.next):=⟨pz.grow hq wq gr.out.1 hba,Nat.le_trans gr.out.2 pz.next⟩
     have K3:Hid (Built hz hq.next 3 1 ci h.nodes[j].args.length ((LstF (· +(g.nodes.length:Int)) h.nodes[j].args (i+1)).map (AVal.int .i64))):=⟨.inr (.inr ⟨ba,_,_,hba,hcq'.out,oz,by simp;omega,by rw [Nat.mul_one,zKC hil hla',hta'.out,<-LstF_set hil,List.map_set]⟩)⟩
     clear oz pz hga hixa hva hkp o9r
     repeat with_reducible first|refine zAA ?_|refine zAN ?_|refine zAC ?_
     exact ⟨⟨K1,K2,K3,by exact n1,by exact e1,by exact e1,by exact e1,by exact e1,by exact e1,by exact e1,by exact e1,by exact e1,by exact e1⟩,by exact e1,by exact e1⟩
    ·rintro a' hr ⟨m1,m2,m3,m4,m5,m6,m7,m8,m9,m10,m11,m12,m13⟩
     exact ⟨m1,m2,m3,m4,m5,m6,m7,m8,m9,m10,m11,m12,m13⟩
   ·clear hd t2' t3' t4' t9' t10' t47' hi hn' hlo
    rintro a' hr ⟨hkp,gr,hBB,hd,t2',t3',t4',t9',t10',t47',t12',hi,hn'⟩
    rw [hle.out] at hBB
    have o9r:=hkp.out _ _ o9 (zAL C9'.out o9 fun vs hh=>by cases hh)
    have wr:=gr.out.1.wf
    have Ir:=Hid.mk (I.out.other gr.out.1)
    obtain ⟨ver10,vo,cs,o10,kB,kl,kn⟩:=Ir.out.o
    rw [zFT g h (by omega)] at kB kl
    have lvo:=kB.len
    have kB':=Hid.mk kB
    have kn':=Hid.mk kn
    have nr:=gr.out.2
    have nr':=gr.out.1.next
    have nq:=I.out.grow.next
    have n9:=g9.out.next
    clear kB kn
    refine zAA ?_
    repeat with_reducible first|refine zAD ?_|(apply st_q;exact q1)
    refine zAn (by exact e1) (cs:=[.int .i64 h.nodes[j].kind,.str h.nodes[j].name,ci,lv,.bool h.nodes[j].isOpen]) rfl rfl rfl wr ?_
    rintro bx h12 hbx g12 ox
    have kB12:=kB'.out.grow g12
    have n12:=g12.next
    refine zAv (by exact e1) (by exact e1) kB12 ox rfl (zCU hci hll) (zCh H (by decide) (le31 (by omega))) g12.wf (by omega) ?_
    rintro vo' h13 B13 f13 w13 n13 gr13 kp13
    have o10':=kp13 _ _ (g12.keep _ _ o10) (zAL kB12 (g12.keep _ _ o10) fun vs hh=>by cases hh)
    have lvo':=B13.len
    have g13:=Hid.mk (gr13 hp wp (Ir.out.grow.trans g12) (Nat.le_refl _))
    have B13':=Hid.mk B13
    have kpx:=Hid.mk (fun c p (hc:hr.objs.get c=some p) hn=>kp13 c p (g12.keep _ _ hc) hn)
    clear ox kB12 g12 f13 gr13 kp13 B13
    repeat with_reducible (apply st_q;exact q1)
    refine zAG (by exact e1) (by exact e1) (zAh lvo') rfl w13 o10' (by simp) (by simp only [List.all_cons,List.all_nil,zAR lvo',Bool.and_true]) ?_
    rintro v14 h14 p14 o14
    simp only [zlT,zlY,zlA,zlC,zlN,zlD,zlZ,zlE,Nat.zero_add,Nat.reduceAdd,zlX,zlK] at o14
    have I14:Hid (MtInv hp b10 g.root (nsTo g h (j+1)) h14):=⟨by
     have hstay:∀c p,hr.objs.get c=some p->(∀vs,p.2≠.cells false 36 vs)->c≠b10->h14.objs.get c=some p:=fun c p hc hp hne=>p14.keep c hne _ (kpx.out c p hc (zAL kB'.out hc hp))
     have h3:∀b p,hp.next<=b->hr.objs.get b=some p->(∃vs,p.2=.cells false 3 vs)->h14.objs.get b=some p:=fun b p _ hb ⟨vs,hp⟩=>hstay b p hb (fun vs' hh=>by rw [hp] at hh;cases hh) (by
      rintro rfl
      rw [o10] at hb
      simp only [oI] at hb
      rw [<-hb] at hp;cases hp)
     refine ⟨p14.grow hp wp g13.out lb10,lb10,_,vo',cs++[[.int .i64 h.nodes[j].kind,.str h.nodes[j].name,ci,lv,.bool h.nodes[j].isOpen]],o14,?_,?_,fun i c n hcc hnn=>?_⟩
     ·rw [zFT g h (by omega),List.flatten_append]
      have:=zAT B13'.out p14 o10' (fun vs hh=>by cases hh)
      simpa [Nat.add_assoc] using this
     ·rw [zFT g h (by omega),zgL,kl];simp;omega
     ·rw [zPz g h hj] at hnn
      have hnl:=zFT g h (show j<=h.nodes.length by omega)
      rcases Nat.lt_or_ge i (g.nodes.length+j) with hij|hij
      ·rw [List.getElem?_append_left (by omega)] at hcc
       rw [List.getElem?_append_left (by omega)] at hnn
       exact (kn'.out i c n hcc hnn).stay h3
      ·rw [List.getElem?_append_right (by omega),kl] at hcc
       rw [List.getElem?_append_right (by omega),hnl] at hnn
       obtain rfl:i=g.nodes.length+j:=by
        have:=(zgS.1 hcc).1
        simp only [zlC,zlN] at this
        omega
       rw [Nat.sub_self,zgZ,oI] at hcc hnn
       subst hcc;subst hnn
       refine ⟨ci,lv,rfl,.inr ?_,hl'.out⟩
       have hl2:(shN g.nodes.length h.nodes[j]).args.length=h.nodes[j].args.length:=by simp [shN]
       rw [hl2]
       exact zBK (zAZ hBB.out fun c p hc hp' ht=>h3 c p (by omega) hp' ht) (by omega)⟩
    clear o14 p14 o10' o10 g13 kpx o9r
    repeat with_reducible first|refine zAA ?_|refine zAN ?_|refine zAC ?_
    exact ⟨⟨I14,by exact n1,by exact e1,by exact e1,by exact e1,by exact e1,by exact e1,by exact e1⟩,by exact e1,by exact e1⟩
  ·clear I0 o3C
   rintro a hq ⟨I0,hd,t2',t3',t4',t9',t10',t47'⟩
   have I:Hid (MtInv hp b10 g.root (zBF g h).nodes hq):=⟨by rw [<-zPy];exact I0.out⟩
   obtain ⟨ver10,vo,o10,hNo⟩:=I.out.nodes
   have o2:=I.out.grow.keep _ _ o2p.out
   have o3:=I.out.grow.keep _ _ o3p.out
   have o4:=I.out.grow.keep _ _ o4p.out
   have lno:=hNo.len
   have cb:Hid (zAF (zBF g h)=0):=⟨zCp hck.out.1 hck.out.2 (by omega)⟩
   have hrg:=zAU hck.out.1
   have hrh:=zAU hck.out.2
   have hw2:IntKind.i64.wrap (((g.nodes.length:Nat):Int)+h.root)=((g.nodes.length:Nat):Int)+h.root:=zAq (by omega) (by omega)
   have hin:Hid (∀p∈zBo g h,zBq (zBF g h) p=true):=⟨fun p hp=>by
    simp only [zBo,List.mem_singleton] at hp
    subst hp
    simp only [zBq,decide_eq_true_eq,zCP]
    omega⟩
   have Gq:=Hid.mk (Gh.out.trans I.out.grow)
   have wq:=Gq.out.wf
   have hNo':=Hid.mk hNo
   clear I0 hNo hrg hrh
   refine zAA ?_
   repeat with_reducible first|refine zAE ?_|refine zAD ?_|(apply zIQ;exact e1;exact e1)|(apply st_q;exact q1)
   refine zAn (by exact e1) (cs:=[.int .i64 g.root,.int .i64 (((g.nodes.length:Nat):Int)+h.root)]) rfl rfl rfl wq ?_
   rintro bx hX hbx gX ox
   have hpr:PrsAt hX (.slice (some (bx,0)) 1) (zBo g h):=by
    have B:Built hX hq.next 40 2 (.slice (some (bx,0)) 1) 1 [.int .i64 g.root,.int .i64 (((g.nodes.length:Nat):Int)+h.root)]:=.inr (.inr ⟨bx,_,_,hbx,rfl,ox,by simp,rfl⟩)
    exact B.sl (by decide) (xs:=[zBS (g.root,(g.nodes.length:Int)+h.root)]) (by simp [zBS]) (by intro c hc;rw [List.mem_singleton.1 hc];rfl) (by simp)
   have o2X:=gX.keep _ _ o2
   have o4X:=gX.keep _ _ o4
   have wX:=gX.wf
   have GX:=Hid.mk (Gq.out.trans gX)
   have huni:=Hid.mk (Unify_ok H HS HA (zBF g h) hb (zBo g h) (by simp [zBo]) hL (by simpa [zBo] using hsm) wX (gv:=.agg [vo,.int .i64 g.root]) ⟨vo,rfl,hNo'.out.mono gX⟩ hpr)
   clear ox hpr gX o2 o3 o4 o10
   refine zAc (by exact s1) (huni.out.mono ?_)
   rintro _ hU ⟨gU,uv,rv,code,rfl,hz,hcases⟩
   have o4U:=gU.keep _ _ o4X
   have wU:=gU.wf
   have GU:=Hid.mk (GX.out.trans gU)
   have hu2:∃un ur,uv=.agg [un,.int .i64 ur]/\one un=true:=by
    by_cases hc0:code=0
    ·rcases hcases with ⟨_,k⟩|⟨_,k,_⟩|⟨_,k,_⟩|⟨_,_,_,U,R,O,own,_⟩
     ·omega
     ·omega
     ·omega
     ·obtain ⟨un,cs,rfl,kB,_⟩:=own
      exact ⟨un,U.root,rfl,zAR kB.len⟩
    ·exact ⟨_,_,(hz hc0).1,rfl⟩
   obtain ⟨un,ur,rfl,hone⟩:=hu2
   replace hcases:=Hid.mk hcases
   clear hz huni o2X o4X gU
   repeat with_reducible (apply st_q;exact q1)
   refine zAb wU ?_
   rintro b14 hV hb14 gV o14
   refine zAG (by exact e1) (by exact e1) (by exact cc) rfl gV.wf o14 (by simp) (by simp only [List.all_cons,List.all_nil,hone,Bool.true_and,Bool.and_true];rfl) ?_
   rintro vW hW pW oW
   simp only [zlY,zlA,zlC,zlN,zlD,zlZ,zlE,Nat.zero_add,Nat.reduceAdd,zlX,zlK] at oW
   have gW:Grow hU hW:=pW.grow hU wU gV hb14
   have o4W:=gW.keep _ _ o4U
   have GW:=Hid.mk (GU.out.trans gW)
   have wW:=gW.wf
   have gW':=Hid.mk gW
   have lW:=Hid.mk (wU.lt o4U)
   clear o14 pW gV o4U gW
   cases hzc:(code != 0)
   ·obtain rfl:code=0:=by simpa using hzc
    have hO:Hid (∃U R,UOut (zBF g h) (zBo g h) U R/\OwnG hU hX.next (.agg [un,.int .i64 ur]) U):=⟨by
     rcases hcases.out with ⟨_,k⟩|⟨_,k,_⟩|⟨_,k,_⟩|⟨_,_,_,U,R,O,own,_⟩
     ·omega
     ·omega
     ·omega
     ·exact ⟨U,R,O,own⟩⟩
    obtain ⟨U,R,O,own⟩:=hO.out
    have hOO:=Hid.mk O
    have hsU:=Hid.mk (O.gsm cb.out hb (by omega))
    have htrim:=Hid.mk (Trim_ok H U hsU.out (.agg [un,.int .i64 ur]) hW wW (own.grow gW'.out).graph)
    clear own O
    repeat with_reducible first|refine zAA ?_|refine zAC ?_|refine zAE ?_|refine zAD ?_|refine zAS ?_|(apply st_q;exact q1)|(apply zAJ;exact e1)
    refine zAc (by exact s1) (htrim.out.mono ?_)
    rintro tv hT ⟨hTo,gT⟩
    have o4T:=gT.keep _ _ o4W
    have ownT:=Hid.mk hTo
    obtain ⟨tn,cs,rfl,kB,_⟩:=hTo
    have lt1:=zAR kB.len
    have wT:=gT.wf
    have GT:=GW.out.trans gT
    have nUW:=gW'.out.next
    have nGW:=GW.out.next
    have lb4U:=lW.out
    clear htrim kB o4W gT
    refine zAG (by exact e1) (by exact e1) (by exact cc) rfl wT o4T (by simp) (by simp only [List.all_cons,List.all_nil,lt1,Bool.true_and,Bool.and_true];rfl) ?_
    rintro vY hY pY oY
    simp only [zlY,zlA,zlC,zlN,zlD,zlZ,zlE,Nat.zero_add,Nat.reduceAdd,zlX,zlK] at oY
    have gY:=pY.grow h0 w0 GT (by omega)
    have hfin:Hid (∃U R,UOut (zBF g h) (zBo g h) U R/\OwnG hY h0.next (.agg [tn,.int .i64 (zCI U).root]) (zCI U)):=⟨U,R,hOO.out,(ownT.out.stay fun c p hc hp _=>pY.keep c (by omega) _ hp).base (by omega)⟩
    clear pY o4T GT
    repeat' with_reducible first|refine zAA ?_|refine zAC ?_|refine zAQ ?_|(apply st_q;exact q1)|(apply zAI;exact n1;exact r1)
    exact ⟨gY,_,0,rfl,fun k=>absurd rfl k,.inr (.inr (.inr ⟨hck.out.1,hck.out.2,rfl,hfin.out⟩))⟩
   ·have hbad:Hid (code=8/\¬Consi (zBF g h) (zBo g h)):=⟨by
     have hc0:code≠0:=by simpa using hzc
     rcases hcases.out with ⟨k1,k2⟩|⟨_,_,p,hp1,hp2⟩|⟨_,k,_,k2⟩|⟨_,k,_⟩
     ·rw [cb.out] at k1;omega
     ·rw [hin.out p hp1] at hp2;cases hp2
     ·exact ⟨k,k2⟩
     ·omega⟩
    have z2:=Hid.mk hzc
    repeat with_reducible first|refine zAA ?_|refine zAC ?_|refine zAE ?_|refine zAD ?_|(apply st_q;exact q1)|(apply zAK;exact e1)
    refine zAG (by exact e1) (by exact e1) (by exact cc) rfl wW o4W (by simp) rfl ?_
    rintro vY hY pY oY
    simp only [zlY,zlA,zlC,zlN,zlD,zlZ,zlE,Nat.zero_add,Nat.reduceAdd,zlX,zlK] at oY
    have gY:=pY.grow h0 w0 GW.out (by omega)
    clear pY o4W
    repeat' with_reducible first|refine zAA ?_|refine zAd ?_|refine zAC ?_|refine zAQ ?_|(apply st_q;exact q1)|(apply zAI;exact n1;exact r1)
    exact ⟨gY,_,code,rfl,fun _=>rfl,.inr (.inr (.inl ⟨hck.out.1,hck.out.2,hbad.out.1,hbad.out.2⟩))⟩
end
end Go.Ab.S
end
section
namespace Go.Ab.S
open Go Go.Ab
set_option maxHeartbeats 1000000
def nV:Node:=⟨1,[],[],[],false⟩
def nI:Node:=⟨2,[105,110,116],[],[],false⟩
def gP:Graph:=⟨[⟨2,[45,62],[1,2],[],false⟩,nI,nV],0⟩
def gQb:Graph:=⟨[⟨2,[45,62],[1,1],[],false⟩,nV],0⟩
def gI:Graph:=⟨[⟨2,[45,62],[1,2],[],false⟩,nI,nI],0⟩
def gM:Graph:=⟨[⟨3,[],[1],[[109]],true⟩,nI],0⟩
def gN:Graph:=⟨[⟨3,[],[1],[[110]],false⟩,nI],0⟩
theorem ok_P:zAF gP=0:=by decide
theorem ok_Q:zAF gQb=0:=by decide
theorem ok_I:zAF gI=0:=by decide
theorem ok_M:zAF gM=0:=by decide
theorem ok_N:zAF gN=0:=by decide
theorem zOv:GTi gP:=zGv (by decide) (by decide)
theorem zOw:GTi gQb:=zGv (by decide) (by decide)
theorem zOu:GTi gI:=zGv (by decide) (by decide)
theorem zTG:GTi gM:=zGv (by decide) (by decide)
theorem zTH:GTi gN:=zGv (by decide) (by decide)
theorem zQh:Ins gP gI:=(zMO zOv zOu ok_P ok_I).1 (by decide+kernel)
theorem zQi:Ins gQb gI:=(zMO zOw zOu ok_Q ok_I).1 (by decide+kernel)
theorem zSE:Consi (zBF gP gQb) (zBo gP gQb):=zJm ok_P ok_Q (by decide) ok_I zQh zQi
theorem zNY {U:Graph} {R:List Int} (O:UOut (zBF gP gQb) (zBo gP gQb) U R):zFa (zCI U) gI=true/\1<(zCI U).nodes.length:=by
 have cm:=zKp ok_P ok_Q (by decide) O
 have hmi:=zKo ok_P ok_Q (by decide) ok_I zQh zQi O
 obtain ⟨⟨T1,K1⟩,⟨T2,K2⟩⟩:=zHv ok_P ok_Q (by decide) O
 generalize zCI U=m at*
 have r1:T1 0 m.root:=K1.root
 have r2:T2 0 m.root:=K2.root
 have f1:=K1.node 0 m.root r1
 have f2:=K2.node 0 m.root r2
 rw [show zAB gP 0=⟨2,[45,62],[1,2],[],false⟩ from rfl] at f1
 rw [show zAB gQb 0=⟨2,[45,62],[1,1],[],false⟩ from rfl] at f2
 rcases f1 with k|⟨_,k2,k3,k4,_,k6⟩
 ·exact absurd k (by decide)
 rcases f2 with l|⟨_,l2,l3,_,_,l6⟩
 ·exact absurd l (by decide)
 have s0:=k6 0 (by decide)
 have t0:=l6 0 (by decide)
 have t1:=l6 1 (by decide)
 have ix:∀(x y:Node) (i:Nat),x.kind=2->idxI x y i=i:=fun x y i h=>by simp [idxI,h]
 rw [ix _ _ _ rfl] at s0 t0 t1
 have s1:T1 1 ((zAB m m.root).args.getD 0 0):=s0.2
 have t01:T2 1 ((zAB m m.root).args.getD 0 0):=t0.2
 have t11:T2 1 ((zAB m m.root).args.getD 1 0):=t1.2
 have hlen:1<(zAB m m.root).args.length:=t1.1
 generalize hx:(zAB m m.root).args.getD 0 0=x at*
 generalize hy:(zAB m m.root).args.getD 1 0=y at*
 have ir:=(K1.range _ _ r1).2.ok cm
 have ixm:=(K1.range _ _ s1).2.ok cm
 have iym:=(K2.range _ _ t11).2.ok cm
 have hcl:=zHn ok_Q cm K2 t01 t11
 obtain ⟨c1,c2,c3,c4,_⟩:=zEd cm ixm iym hcl
 have fx:=K1.node 1 x s1
 rw [show zAB gP 1=nI from rfl] at fx
 rcases fx with q|⟨_,q2,q3,q4,_,_⟩
 ·exact absurd q (by decide)
 have q4':(zAB m x).isOpen=false/\nI.labels=(zAB m x).labels:=q4.resolve_left (by decide)
 have k4':(zAB m m.root).isOpen=false/\([]:List (List Nat))=(zAB m m.root).labels:=k4.resolve_left (by decide)
 refine ⟨(zQN cm ok_I).2 ⟨hmi,fun a b=>(a=0/\b=m.root)\/(a=1/\b=x)\/(a=2/\b=y),.inl ⟨rfl,rfl⟩,?_,?_,?_⟩,?_⟩
 ·rintro a b (⟨rfl,rfl⟩|⟨rfl,rfl⟩|⟨rfl,rfl⟩)
  ·exact ⟨⟨by decide,by decide⟩,.root⟩
  ·exact ⟨⟨by decide,by decide⟩,(K1.range _ _ s1).2⟩
  ·exact ⟨⟨by decide,by decide⟩,(K2.range _ _ t11).2⟩
 ·rintro a b (⟨rfl,rfl⟩|⟨rfl,rfl⟩|⟨rfl,rfl⟩)
  ·rw [show zAB gI 0=⟨2,[45,62],[1,2],[],false⟩ from rfl]
   refine .inr ⟨by decide,k2,k3,.inr k4',fun h=>absurd h (by decide),fun i hi=>?_⟩
   rw [ix _ _ _ rfl]
   have hi2:i<2:=hi
   rcases (show i=0\/i=1 by omega) with rfl|rfl
   ·exact ⟨by omega,.inr (.inl ⟨rfl,hx⟩)⟩
   ·exact ⟨by omega,.inr (.inr ⟨rfl,hy⟩)⟩
  ·rw [show zAB gI 1=nI from rfl]
   exact .inr ⟨by decide,q2,q3,.inr q4',fun h=>absurd h (by decide),fun i hi=>absurd hi (Nat.not_lt_zero _)⟩
  ·rw [show zAB gI 2=nI from rfl]
   exact .inr ⟨by decide,q2.trans c1,q3.trans c2,.inr ⟨c4.symm.trans q4'.1,q4'.2.trans c3⟩,fun h=>absurd h (by decide),fun i hi=>absurd hi (Nat.not_lt_zero _)⟩
 ·rintro a b c (⟨rfl,rfl⟩|⟨rfl,rfl⟩|⟨rfl,rfl⟩) _ hf
  ·exact absurd hf (by decide)
  ·exact absurd hf (by decide)
  ·exact absurd hf (by decide)
 ·rcases Nat.lt_or_ge 1 m.nodes.length with h|h
  ·exact h
  ·have e1':m.root=0:=by have:=ir.1;have:=ir.2;omega
   have e2':x=0:=by have:=ixm.1;have:=ixm.2;omega
   rw [e1'] at k3
   rw [e2'] at q3
   rw [<-k3] at q3
   exact absurd q3 (by decide)
theorem zSG:¬∃U R,UOut (zBF gM gN) (zBo gM gN) U R:=by
 rintro ⟨U,R,O⟩
 obtain ⟨⟨T1,K1⟩,⟨T2,K2⟩⟩:=zHv ok_M ok_N (by decide) O
 generalize zCI U=m at*
 have f1:=K1.node 0 m.root K1.root
 have f2:=K2.node 0 m.root K2.root
 rw [show zAB gM 0=⟨3,[],[1],[[109]],true⟩ from rfl] at f1
 rw [show zAB gN 0=⟨3,[],[1],[[110]],false⟩ from rfl] at f2
 rcases f1 with k|⟨_,_,_,_,k5,_⟩
 ·exact absurd k (by decide)
 rcases f2 with l|⟨_,_,_,l4,_,_⟩
 ·exact absurd l (by decide)
 have h1:=k5 rfl [109] (by simp)
 have h2:(zAB m m.root).isOpen=false/\[[110]]=(zAB m m.root).labels:=l4.resolve_left (by decide)
 rw [<-h2.2] at h1
 exact absurd h1 (by decide)
def MR (g h x:Graph):Prop:=∃U R,UOut (zBF g h) (zBo g h) U R/\x=zCI U
section
variable {g h k t x:Graph} (cg:zAF g=0) (ch:zAF h=0) (hs:g.nodes.length+h.nodes.length<=1048576)
include cg ch hs
theorem MR.check (m:MR g h x):zAF x=0:=by
 obtain ⟨U,R,O,rfl⟩:=m
 exact zKp cg ch hs O
theorem MR.both (m:MR g h x):Ins g x/\Ins h x:=by
 obtain ⟨U,R,O,rfl⟩:=m
 exact zHv cg ch hs O
theorem MR.most (m:MR g h x) (ct:zAF t=0) (h1:Ins g t) (h2:Ins h t):Ins x t:=by
 obtain ⟨U,R,O,rfl⟩:=m
 exact zKo cg ch hs ct h1 h2 O
end
theorem MR.bd {A:Nat} {S:List (List Nat)} {g h x:Graph} (cg:zAF g=0) (ch:zAF h=0) (hs:g.nodes.length+h.nodes.length<=1048576) (B:Bd A S g) (B':Bd A S h) (m:MR g h x):Bd A S x/\x.nodes.length<=g.nodes.length+h.nodes.length:=by
 obtain ⟨U,R,O,rfl⟩:=m
 have cb:=zCp cg ch hs
 refine ⟨((B.both B').uni cb O).trim (O.check cb),?_⟩
 have h1:=zRv U
 rw [O.lenU,zCP] at h1
 exact h1
structure MeetSm (g h:Graph):Prop where
 g1:GTi g
 h1:GTi h
 b:GTi (zBF g h)
 l:zAe [] (zBF g h).nodes 0<=2 ^ 20
 s:((zBF g h).nodes.length+1)*(zAe [] (zBF g h).nodes 0+1)+1<=2 ^ 30
theorem zPJ {g h:Graph} (hg:GTi g) (hh:GTi h) (hN:g.nodes.length+h.nodes.length<=4096) (hL:zAe [] (zBF g h).nodes 0<=2 ^ 20):GTi (zBF g h):=by
 have e30:(2:Nat) ^ 30=1073741824:=by decide
 have e20:(2:Nat) ^ 20=1048576:=by decide
 have hn:∀n∈(zBF g h).nodes,∃m,(m∈g.nodes\/m∈h.nodes)/\n.args.length=m.args.length/\n.labels=m.labels:=fun n hn=>by
  rcases List.mem_append.1 hn with hn|hn
  ·exact ⟨n,.inl hn,rfl,rfl⟩
  ·obtain ⟨m,hm,rfl⟩:=List.mem_map.1 hn
   exact ⟨m,.inr hm,by simp [shN],rfl⟩
 refine ⟨⟨⟨by rw [zCP];exact Nat.lt_of_le_of_lt hN (by decide),fun n h1=>?_⟩,by rw [zCP];omega,fun n h1=>?_⟩,by rw [zCP];exact hN,fun n h1=>?_⟩
 ·obtain ⟨m,hm,h2,h3⟩:=hn n h1
  have:NodeSm m:=hm.elim (hg.all m) (hh.all m)
  exact ⟨by rw [h2];exact this.args,by rw [h3];exact this.labels,by rw [h3];exact this.texts⟩
 ·obtain ⟨m,hm,h2,h3⟩:=hn n h1
  rw [h3]
  exact hm.elim (hg.labs m) (hh.labs m)
 ·obtain ⟨m,hm,h2,h3⟩:=hn n h1
  rw [h2]
  exact hm.elim (hg.tinyA m) (hh.tinyA m)
theorem zNe (g h:Graph):zAe [] (zBF g h).nodes 0=zAe [] g.nodes 0+zAe [] h.nodes 0:=by
 rw [zCf,zCf,zCf,zBF]
 simp only [List.map_append,List.sum_append,List.map_map]
 congr 2
 apply List.map_congr_left
 intro n _
 simp [shN]
theorem MeetSm.of {g h:Graph} (hg:GTi g) (hh:GTi h) {N L:Nat} (hN:g.nodes.length+h.nodes.length<=N) (hL:zAe [] g.nodes 0+zAe [] h.nodes 0<=L) (hN':N<=4096) (hL':L<=2 ^ 20) (hz:(N+1)*(L+1)+1<=2 ^ 30):MeetSm g h:=by
 have hl:zAe [] (zBF g h).nodes 0<=L:=by rw [zNe];exact hL
 refine ⟨hg,hh,zPJ hg hh (by omega) (by omega),by omega,?_⟩
 have:((zBF g h).nodes.length+1)*(zAe [] (zBF g h).nodes 0+1)<=(N+1)*(L+1):=Nat.mul_le_mul (by rw [zCP];omega) (by omega)
 omega
def All3 (g h k:Graph) (p:Bool) (a:Graph):Prop:=(p=true/\∃x,MR g h x/\MR x k a)\/(p=false/\(¬Consi (zBF g h) (zBo g h)\/∃x,MR g h x/\¬Consi (zBF x k) (zBo x k)))
section
variable {g h k a b:Graph} {p q:Bool} (cg:zAF g=0) (ch:zAF h=0) (ck:zAF k=0) (gh:g.nodes.length+h.nodes.length<=1048576) (hk:h.nodes.length+k.nodes.length<=1048576)
include cg ch ck gh
theorem All3.no (xk:∀x,MR g h x->x.nodes.length+k.nodes.length<=1048576) (A:All3 g h k false a) {t:Graph} (ct:zAF t=0) (h1:Ins g t) (h2:Ins h t) (h3:Ins k t):False:=by
 rcases A with ⟨h,_⟩|⟨_,A|⟨x,m,A⟩⟩
 ·cases h
 ·exact A (zJm cg ch gh ct h1 h2)
 ·exact A (zJm (m.check cg ch gh) ck (xk x m) ct (m.most cg ch gh ct h1 h2) h3)
include hk
end
theorem sm_PQ:MeetSm gP gQb:=.of (N:=10) (L:=10) zOv zOw (by decide) (by decide) (by decide) (by decide) (by decide)
theorem sm_MN:MeetSm gM gN:=.of (N:=10) (L:=10) zTG zTH (by decide) (by decide) (by decide) (by decide) (by decide)
theorem MR.gti {g h x:Graph} (cg:zAF g=0) (ch:zAF h=0) (hg:GTi g) (hh:GTi h) {N L:Nat} (hN:g.nodes.length+h.nodes.length<=N) (hL:zAe [] g.nodes 0+zAe [] h.nodes 0<=L) (hN':N<=4096) (hL':L<=4096) (m:MR g h x):GTi x:=by
 have hs:∀s,s∈zHp g++zHp h->s.length<2 ^ 60:=fun s hs=>(List.mem_append.1 hs).elim (zHR hg.toGraphSm s) (zHR hh.toGraphSm s)
 have l1:=zGO cg
 have l2:=zGO ch
 obtain ⟨B,hx⟩:=m.bd (A:=L) (S:=zHp g++zHp h) cg ch (by omega) ((Bd.self g).mono (by omega) fun s h=>List.mem_append.2 (.inl h)) ((Bd.self h).mono (by omega) fun s h=>List.mem_append.2 (.inr h))
 exact B.gti (m.check cg ch (by omega)) (by omega) hL' (by rw [zgL];omega) hs
theorem zSF {x:Graph} (m:MR gP gQb x):GTi x:=m.gti (N:=10) (L:=10) ok_P ok_Q zOv zOw (by decide) (by decide) (by decide) (by decide)
end Go.Ab.S
end
section
namespace Go.Ab.S
open Go.Ab
set_option maxHeartbeats 8000000
section
variable {fns:FnsT} {summ:SumT}
variable (H:Has fns summ)
include H
theorem Same_ok (g h:Graph) (hg:GTi g) (hh:GTi h) (v u:AVal) (h0:AHeap) (hw:WF h0) (hv:GraphAt h0 v g) (hu:GraphAt h0 u h):Cl fns summ 18 [v,u] h0 fun r h'=>r=.bool (zFa g h)/\Grow h0 h':=by
 obtain ⟨nv,rfl,hN⟩:=hv
 obtain ⟨mv,rfl,hM⟩:=hu
 have hlen:=hN.len
 have hlem:=hM.len
 refine H.go (fn:=F_Same) rfl (by decide) rfl rfl ?_
 unfold F_Same
 dsimp only [qQ,qE,qN,gQ,gE,vi,tm,mt,lo,fa]
 refine zAE (zAD ?_)
 refine zBZ (by exact e1) (by exact cc) hw ?_
 rintro b2 h2 hb2 g2 o2
 refine zBZ (by exact e1) (by exact cc) g2.wf ?_
 rintro b3 h3 hb3 g3 o3
 replace o2:=g3.keep _ _ o2
 have g03:=g2.trans g3
 have hpart:zBG (some 2) [nv,.int .i64 g.root] 0=some (.agg [nv,.int .i64 g.root]):=rfl
 have hpart':zBG (some 2) [mv,.int .i64 h.root] 0=some (.agg [mv,.int .i64 h.root]):=rfl
 repeat with_reducible first|refine zAA ?_|refine zAC ?_|refine zAE ?_|refine zAD ?_|(apply st_q;exact q1)
 refine zAc (by exact s1) ((Check_ok H g hg.toGraphSm _ h3 g3.wf ⟨nv,rfl,hN.mono g03⟩).mono ?_)
 rintro _ h4 ⟨rfl,g4⟩
 replace o2:=g4.keep _ _ o2
 replace o3:=g4.keep _ _ o3
 have g04:=g03.trans g4
 cases hck:(zAF g != 0)
 ·have hcg:zAF g=0:=by simpa using hck
  replace hcg:=Hid.mk hcg
  repeat with_reducible first|(apply st_q;exact q1)|(apply zBi;exact e1;exact q1)
  refine zBu (by exact e1) (by exact s1) ((Check_ok H h hh.toGraphSm _ h4 g4.wf ⟨mv,rfl,hM.mono g04⟩).mono ?_)
  rintro _ h5 ⟨rfl,g5⟩
  replace o2:=g5.keep _ _ o2
  replace o3:=g5.keep _ _ o3
  have g05:=g04.trans g5
  cases hch:(zAF h != 0)
  ·have hchh:zAF h=0:=by simpa using hch
   replace hchh:=Hid.mk hchh
   have hres:zFa g h=zEn (okS g h) (nxS g h) (badS g) (2+zDS (nxS g h) [] (zBr g h)) [(g.root,h.root)] []:=by
    have h1:(zAF g==0)=true:=by rw [hcg.out];rfl
    have h2:(zAF h==0)=true:=by rw [hchh.out];rfl
    rw [zFa,h1,h2];rfl
   replace hres:=Hid.mk hres
   repeat with_reducible first|refine zAA ?_|refine zAC ?_|refine zAE ?_|refine zAD ?_|refine zAS ?_|(apply st_q;exact q1)|(apply zBi;exact e1;exact q1)|(apply zAJ;exact e1)
   refine zFX (.inl rfl) g5.wf ?_
   rintro r5 h6 hr5 g6 o5
   replace o2:=g6.keep _ _ o2
   replace o3:=g6.keep _ _ o3
   have g06:=g05.trans g6
   have l5:=g6.wf.lt o5
   repeat with_reducible first|refine zAA ?_|refine zAC ?_|refine zAE ?_|refine zAD ?_|(apply st_q;exact q1)
   refine zFX (.inl rfl) g6.wf ?_
   rintro r6 h7 (hr6:h6.next<=r6) g7 o6
   replace o2:=g7.keep _ _ o2
   replace o3:=g7.keep _ _ o3
   replace o5:=g7.keep _ _ o5
   have l6:=g7.wf.lt o6
   refine zFX (.inl rfl) g7.wf ?_
   rintro r7 h8 (hr7:h7.next<=r7) g8 o7
   replace o2:=g8.keep _ _ o2
   replace o3:=g8.keep _ _ o3
   replace o5:=g8.keep _ _ o5
   replace o6:=g8.keep _ _ o6
   have g08:=(g06.trans g7).trans g8
   repeat with_reducible first|refine zAA ?_|refine zAC ?_|refine zAE ?_|refine zAD ?_|(apply zIQ;exact e1;exact e1)|(apply st_q;exact q1)
   refine zAn (v:=.agg [.int .i64 g.root,.int .i64 h.root]) (cs:=[.int .i64 g.root,.int .i64 h.root]) (by exact e1) rfl rfl rfl g8.wf ?_
   rintro b8 h9 (hb8:h8.next<=b8) g9 o8
   have nx5:=g05.next
   have nx6:=g06.next
   have nx8:=g08.next
   have nx67:=g7.next
   have I0:SInv h0 b2 b3 r5 r6 r7 nv mv g h [(g.root,h.root)] [] [] [] (.slice (some (b8,0)) 1) h9:=
    ⟨g08.trans g9,⟨_,g9.keep _ _ o2⟩,⟨_,g9.keep _ _ o3⟩,⟨_,_,_,g9.keep _ _ o5,MP.zero⟩,⟨_,_,_,g9.keep _ _ o6,FA.zero⟩,⟨_,_,_,g9.keep _ _ o7,FA.zero⟩,.inr (.inr ⟨b8,_,_,by omega,rfl,o8,by simp [zBS],rfl⟩),by omega,by omega,by omega,by omega,by omega,by omega⟩
   clear o2 o3 o5 o6 o7 o8 g2 g3 g4 g5 g6 g7 g8 g9 g03 g04 g05 g06 g08 hb2 hb3 hr5 hr6 hr7 hb8 nx5 nx6 nx8 nx67 l5 l6 hpart hpart' hck hch
   obtain ⟨hcg⟩:=hcg
   obtain ⟨hchh⟩:=hchh
   obtain ⟨hres⟩:=hres
   have hrg:=zAU hcg
   have hrh:=zAU hchh
   have hroot:(g.root,h.root)∈zBr g h:=zBO.2 ⟨⟨hrg.1,hrg.2.1⟩,hrh.1,hrh.2.1⟩
   have hsm:zDS (nxS g h) [] (zBr g h)<=2 ^ 36:=zND hg hh fun p _=>by simp [nxS];omega
   replace hcg:=Hid.mk hcg
   replace hchh:=Hid.mk hchh
   replace hres:=Hid.mk hres
   clear hrg hrh
   repeat with_reducible first|refine zAA ?_|refine zAC ?_|refine zAE ?_|(apply st_q;exact q1)
   with_reducible refine zCD ?_
   refine zDP (fun m a hp=>∃w met vw,SInv h0 b2 b3 r5 r6 r7 nv mv g h w met (flM g met) ((flM g met).map swP) vw hp/\w.length+zDS (nxS g h) met (zBr g h)<m/\w.length+zDS (nxS g h) met (zBr g h)<=1+zDS (nxS g h) [] (zBr g h)/\Hid (zFa g h=zEn (okS g h) (nxS g h) (badS g) m w met)/\(∀q∈w,q∈zBr g h)/\a.defers=[]∧
    ev a (.tmp 2)=some (.ptr (some (b2,0)))/\ev a (.tmp 3)=some (.ptr (some (b3,0)))/\ev a (.tmp 5)=some (.map (some r5))/\ev a (.tmp 6)=some (.map (some r6))/\ev a (.tmp 7)=some (.map (some r7))/\ev a (.tmp 8)=some vw) ?_ (n:=2+zDS (nxS g h) [] (zBr g h))
    ⟨_,_,_,I0,by simp,by simp,hres,by simpa using hroot,by exact n1,by exact e1,by exact e1,by exact e1,by exact e1,by exact e1,by exact e1⟩
   clear I0 hres hroot
   rintro m a hp ⟨w,met,vw,I,hm,hB,hres,hwp,hd,h2',h3',h5',h6',h7',h8'⟩
   have hlw:=I.bw.len
   obtain ⟨m,rfl⟩:∃m',m=m'+1:=⟨m - 1,by omega⟩
   cases w with
   |nil=>
    have hz:decide (Int.ofNat 0>0)=false:=rfl
    simp only [zlN] at hlw
    repeat' with_reducible first|refine zAA ?_|refine zBk ?_|refine zBj ?_|refine zAC ?_|refine zAE ?_|refine zAD ?_|refine zCJ ?_|refine zAQ ?_|(apply st_q;exact q1)|(apply zAJ;exact e1)|(apply zAI;exact n1;exact r1)
    exact ⟨by rw [hres.out];rfl,I.grow⟩
   |cons p w=>
    have hpp:=hwp p (by simp)
    have hwp':∀q∈w,q∈zBr g h:=fun q hq=>hwp q (by simp [hq])
    obtain ⟨⟨a0,a1⟩,b0,b1⟩:=zBO.1 hpp
    obtain ⟨ka,hka,hkaN,hna⟩:=zJp a0 a1
    obtain ⟨kb,hkb,hkbN,hnb⟩:=zJp b0 b1
    have hB36:w.length<=2 ^ 36:=by simp only [zlC] at hB;omega
    have e36:(2:Nat) ^ 36=68719476736:=by decide
    simp only [zlC] at hlw hm hB
    have hz:decide (Int.ofNat (w.length+1)>0)=true:=by simp
    have hw1:IntKind.i64.wrap (Int.ofNat (w.length+1) - 1)=(w.length:Int):=by
     simp only [Int.ofNat_eq_natCast]
     rw [zAq (by omega) (by omega)];omega
    obtain ⟨bw,verw,vsw,rfl,hgw,hbw,⟨hpl,hpw⟩,Bw⟩:=zOh I.bw
    have hix:slA (.slice (some (bw,0)) (w.length+1)) 2 w.length=some (bw,w.length*2):=by simp [slA]
    have hpc:zBS p=[.int .i64 (ka:Nat),.int .i64 (kb:Nat)]:=by rw [zBS,hka,hkb]
    have hpe:p=((ka:Int),(kb:Int)):=by ext<;>assumption
    rw [hpc] at hpw
    have ht2:∀x y:AVal,List.take 2 [x,y]=[x,y]:=fun _ _=>rfl
    clear a0 a1 b0 b1 hwp
    repeat with_reducible first|refine zAA ?_|refine zAC ?_|refine zAE ?_|refine zAD ?_|refine zAM ?_|refine zAS ?_|(apply st_q;exact q1)|(apply zAK;exact e1)
    refine zAb I.grow.wf ?_
    rintro b9 h6 hb9 g6 o9
    refine zAG (by exact e1) (by exact e1) (cs:=[.int .i64 (ka:Nat),.int .i64 (kb:Nat)]) rfl rfl g6.wf o9 (by simp) rfl ?_
    rintro v7 h7 p7 o9'
    simp only [zlY,zlA,zlC,zlN,zlD,zlZ,zlE,Nat.zero_add,Nat.reduceAdd,zlX,zlK] at o9'
    have g7:Grow hp h7:=p7.grow hp I.grow.wf g6 hb9
    have I7:=(I.row Bw).other g7
    have hp9:zBG (some 2) [AVal.int .i64 (ka:Nat),.int .i64 (kb:Nat)] 0=some (.agg [.int .i64 (ka:Nat),.int .i64 (kb:Nat)]):=rfl
    clear o9 p7 g6 I Bw hgw hpw hpl hix
    repeat with_reducible first|refine zAA ?_|refine zAC ?_|refine zAE ?_|refine zAD ?_|(apply st_q;exact q1)
    refine zJK (by exact e1) (by exact e1) (by omega) ?_
    obtain ⟨v5,es5,c5,o5,f5⟩:=I7.o5
    have hlk5:=f5.look o5 p
    rw [hpc] at hlk5
    cases hmet:met.contains p
    ·rw [hmet] at hlk5
     have hnm:p∉met:=by simpa using hmet
     repeat with_reducible first|refine zAA ?_|refine zAC ?_|refine zAE ?_|refine zAD ?_|refine zAS ?_|(apply st_q;exact q1)|(apply zAJ;exact e1)
     have hf5:=f5.none hnm
     rw [hpc] at hf5
     refine zIR (by exact e1) (by exact e1) (by exact e1) (by intro hh;cases hh) rfl g7.wf o5 hf5 ?_
     rintro vy h8 py oy
     have fy:=f5.put (c:=c5) hnm
     rw [hpc] at fy
     have I8:=I7.put5 hw py oy fy
     have o9y:=py.kp o5 o9' rfl
     obtain ⟨v2,o2⟩:=I8.o2
     obtain ⟨v3,o3⟩:=I8.o3
     obtain ⟨bn,on,vern,ron,en,vsn,av,lv,hixn,hgn0,hvl,hv5,_,_,_,_,_,hav,hlv⟩:=hN.at (zgG hkaN)
     obtain ⟨bm,om,verm,rom,em,vsm,bv,mv',hixm,hgm0,hvlm,hv5m,_,_,_,_,_,hbv,hmv⟩:=hM.at (zgG hkbN)
     have hgn:=I8.grow.keep _ _ hgn0
     have hgm:=I8.grow.keep _ _ hgm0
     have hmem:=List.getElem_mem hkaN
     have hmem':=List.getElem_mem hkbN
     have hla:=hav.len
     have hll:=hlv.len
     have hlb:=hbv.len
     have hlm:=hmv.len
     clear hlk5 hf5 o5 o9' hgn0 hgm0 py oy
     repeat with_reducible first|refine zAA ?_|refine zAC ?_|refine zAE ?_|refine zAx ?_|(apply dr_q;exact q1)|(apply zCK;exact q1;exact og1)
     refine zBB (zAb I8.grow.wf ?_)
     rintro b10 h10 hb10 g10 o10
     have w10:=g10.wf
     refine zAC ⟨by simp [zAa,g10.keep _ _ o2,g10.keep _ _ o9y,g10.keep _ _ hgn,g10.keep _ _ o3,g10.keep _ _ hgm],?_⟩
     refine zBB (zAb w10 ?_)
     rintro b11 h11 (hb11:h10.next<=b11) g11 o11
     have g811:=g10.trans g11
     refine zAC ⟨by simp [zAa,g811.keep _ _ o2,g811.keep _ _ o9y,g811.keep _ _ hgn,g811.keep _ _ o3,g811.keep _ _ hgm],?_⟩
     have l10:=g10.wf.lt o10
     replace o10:=g11.keep _ _ o10
     have nx8:=g10.next
     refine zBB (zAG (by exact e1) (by exact e1) (cs:=[.int .i64 g.nodes[ka].kind,.str g.nodes[ka].name,av,lv,.bool g.nodes[ka].isOpen]) rfl rfl g11.wf o10 (by simp) (zCU hla hll) ?_)
     rintro v12 h12 p12 o12
     simp only [zlY,zlA,zlC,zlN,zlD,zlZ,zlE,Nat.zero_add,Nat.reduceAdd,zlX,zlK] at o12
     have g12:Grow h8 h12:=p12.grow h8 I8.grow.wf g811 hb10
     have o11':=p12.keep b11 (by omega) _ o11
     refine zAC ⟨by simp [zAa,g12.keep _ _ o2,g12.keep _ _ o9y,g12.keep _ _ hgn,g12.keep _ _ o3,g12.keep _ _ hgm],?_⟩
     refine zBB (zAG (by exact e1) (by exact e1) (cs:=[.int .i64 h.nodes[kb].kind,.str h.nodes[kb].name,bv,mv',.bool h.nodes[kb].isOpen]) rfl rfl g12.wf o11' (by simp) (zCU hlb hlm) ?_)
     rintro v13 h13 p13 o13
     simp only [zlY,zlA,zlC,zlN,zlD,zlZ,zlE,Nat.zero_add,Nat.reduceAdd,zlX,zlK] at o13
     have g13:Grow h8 h13:=p13.grow h8 I8.grow.wf g12 (by omega)
     have o10':=p13.keep b10 (by omega) _ o12
     refine zAC ⟨by simp [zAa,Nat.testBit],?_⟩
     have o9z:=g13.keep _ _ o9y
     have I13:=I8.other g13
     have ha13:=hav.mono I13.grow
     have hl13:=hlv.mono I13.grow
     have hb13:=hbv.mono I13.grow
     have hm13:=hmv.mono I13.grow
     have hp10:zBG (some 5) [.int .i64 g.nodes[ka].kind,.str g.nodes[ka].name,av,lv,.bool g.nodes[ka].isOpen] 0=some (zDI g.nodes[ka] av lv):=rfl
     have hp11:zBG (some 5) [.int .i64 h.nodes[kb].kind,.str h.nodes[kb].name,bv,mv',.bool h.nodes[kb].isOpen] 0=some (zDI h.nodes[kb] bv mv'):=rfl
     clear o2 o3 hgn hgm o9y o10 o11 o12 o11' p12 p13 g10 g11 g12 g811 hixn hixm hvl hv5 hvlm hv5m w10 hb10 hb11 l10 nx8 I7 I8
     repeat with_reducible first|refine zAA ?_|refine zAE ?_|refine zAD ?_|refine zBU ?_|(apply st_q;exact q1)
     refine zAc (by exact s1) ((zPE H g.nodes[ka] h.nodes[kb] (hg.all _ hmem) av lv bv mv' h13 I13.grow.wf ha13 hl13 hb13 hm13).mono ?_)
     rintro _ h14 ⟨rfl,g14⟩
     have I14:=I13.other g14
     replace o9z:=g14.keep _ _ o9z
     replace o10':=g14.keep _ _ o10'
     replace o13:=g14.keep _ _ o13
     have hokp:okS g h p=zCm g.nodes[ka] h.nodes[kb]:=by rw [okS,hna,hnb]
     cases hal:zCm g.nodes[ka] h.nodes[kb]
     ·repeat' with_reducible first|refine zAA ?_|refine zAd ?_|refine zBQ ?_|refine zAC ?_|refine zAE ?_|refine zAD ?_|refine zAQ ?_|(apply st_q;exact q1)|(apply zAK;exact e1)|(apply zAI;exact n1;exact r1)
      refine ⟨?_,I14.grow⟩
      rw [hres.out,zEn,hmet,hokp,hal];rfl
     ·repeat with_reducible first|refine zAA ?_|refine zAC ?_|refine zAE ?_|refine zAD ?_|refine zAS ?_|(apply st_q;exact q1)|(apply zAJ;exact e1)
      refine zAc (by exact s1) ((zPf H g.nodes[ka] av lv h14 I14.grow.wf).mono ?_)
      rintro _ h15 ⟨rfl,g15⟩
      have I15:=I14.other g15
      replace o9z:=g15.keep _ _ o9z
      replace o10':=g15.keep _ _ o10'
      replace o13:=g15.keep _ _ o13
      have hxy:Hid (g.nodes[ka].args.length=h.nodes[kb].args.length):=⟨by
       simp only [zCm,Bool.and_eq_true,beq_iff_eq] at hal
       exact hal.1.2⟩
      have hokt:=Hid.mk (hokp.trans hal)
      clear I13 I14 g14 g15 ha13 hl13 hb13 hm13 hal hokp
      have hfre:zEs (zAB g p.1)=zEs g.nodes[ka]:=by rw [hna]
      refine zAC (zAA ?_)
      refine zEZ (fun a hq=>SInv h0 b2 b3 r5 r6 r7 nv mv g h w (met++[p]) (flM g (met++[p])) ((flM g (met++[p])).map swP) (.slice (some (bw,0)) w.length) hq/\met.any (badS g p)=false/\(∃ver,hq.objs.get b10=some (ver,.cells false 36 [.int .i64 g.nodes[ka].kind,.str g.nodes[ka].name,av,lv,.bool g.nodes[ka].isOpen]))/\(∃ver,hq.objs.get b11=some (ver,.cells false 36 [.int .i64 h.nodes[kb].kind,.str h.nodes[kb].name,bv,mv',.bool h.nodes[kb].isOpen]))/\a.defers=[]∧
       ev a (.tmp 2)=some (.ptr (some (b2,0)))/\ev a (.tmp 3)=some (.ptr (some (b3,0)))/\ev a (.tmp 5)=some (.map (some r5))/\ev a (.tmp 6)=some (.map (some r6))/\ev a (.tmp 7)=some (.map (some r7))/\ev a (.tmp 8)=some (.slice (some (bw,0)) w.length)/\ev a (.tmp 10)=some (.ptr (some (b10,0)))/\ev a (.tmp 11)=some (.ptr (some (b11,0)))) ?_ ?_
      ·cases hf:zEs g.nodes[ka]
       ·rw [hf] at hfre
        have hfl:flM g (met++[p])=flM g met:=by rw [zOE,hfre];simp
        have hbad:=zPI (met:=met) hfre
        repeat with_reducible first|refine zAA ?_|refine zAS ?_|(apply zAJ;exact e1)
        exact ⟨by rw [hfl];exact I15,hbad,⟨_,o10'⟩,⟨_,o13⟩,by exact n1,by exact e1,by exact e1,by exact e1,by exact e1,by exact e1,by exact e1,by exact e1,by exact e1⟩
       ·rw [hf] at hfre
        have hfl:flM g (met++[p])=flM g met++[p]:=by rw [zOE,hfre];simp
        have hany:=zRA hnm hfre
        obtain ⟨v6,es6,c6,o6,f6⟩:=I15.o6
        obtain ⟨v7',es7,c7,o7,f7⟩:=I15.o7
        obtain ⟨xb,hlk6,hxb⟩:=f6.look o6 p.1
        obtain ⟨xa,hlk7,hxa⟩:=f7.look o7 p.2
        cases hb1:(flM g met).any fun q=>q.1==p.1
        ·cases hb2:((flM g met).map swP).any fun q=>q.1==p.2
         ·rw [hb1,hka] at hlk6
          rw [hb2,hkb] at hlk7
          rw [hb1,hb2] at hany
          have hn6:=f6.none (a:=p.1) fun q hq hh=>by
           have:=List.any_eq_false.1 hb1 q hq
           simp [hh] at this
          have hn7:=f7.none (a:=p.2) fun q hq hh=>by
           have:=List.any_eq_false.1 hb2 q hq
           simp [hh] at this
          rw [hka] at hn6
          rw [hkb] at hn7
          have F6:=f6.put (c:=c6) (p:=p) fun q hq hh=>by
           have:=List.any_eq_false.1 hb1 q hq
           simp [hh] at this
          have F7:=f7.put (c:=c7) (p:=swP p) fun q hq hh=>by
           have:=List.any_eq_false.1 hb2 q hq
           simp [hh,swP] at this
          simp only [swP] at F7
          rw [hka,hkb] at F6 F7
          replace hany:=Hid.mk hany
          clear hb1 hb2 hxa hxb f6 f7
          repeat with_reducible first|refine zAA ?_|refine zAC ?_|refine zAE ?_|refine zAD ?_|refine zAS ?_|refine zAx ?_|(apply dr_q;exact q1)|(apply zCK;exact q1;exact og1)|(apply st_q;exact q1)|(apply zBi;exact e1;exact q1)|(apply zEm;exact e1)|(apply zAK;exact e1)|(apply zAJ;exact e1)
          refine zBB (zIR (by exact e1) (by exact e1) (by exact e1) (by intro hh;cases hh) rfl I15.grow.wf o6 hn6 ?_)
          rintro vy hy py oy
          have o7y:=py.keep _ (Ne.symm I15.low.2.2.2.2.2) _ o7
          have Iy:=I15.put6 hw py oy F6
          have o9q:=py.kp o6 o9z rfl
          refine zAC ⟨by simp [zAa,Nat.testBit,o9q],?_⟩
          refine zBB (zIR (by exact e1) (by exact e1) (by exact e1) (by intro hh;cases hh) rfl Iy.grow.wf o7y hn7 ?_)
          rintro vz hz' pz oz
          have Iz:=Iy.put7 hw pz oz F7
          refine zAC ⟨by simp [zAa,Nat.testBit],?_⟩
          have o10z:=pz.kp o7y (py.kp o6 o10' rfl) rfl
          have o13z:=pz.kp o7y (py.kp o6 o13 rfl) rfl
          clear o9q o7y py pz oy oz hn6 hn7 hlk6 hlk7 F6 F7
          repeat with_reducible first|refine zAA ?_|refine zBU ?_
          refine ⟨?_,by rw [hany.out];rfl,⟨_,o10z⟩,⟨_,o13z⟩,by exact n1,by exact e1,by exact e1,by exact e1,by exact e1,by exact e1,by exact e1,by exact e1,by exact e1⟩
          rw [hfl,List.map_append]
          have hps:List.map swP [p]=[((kb:Int),(ka:Int))]:=by rw [hpe];rfl
          rw [hps]
          exact Iz
         ·rw [hb1,hka] at hlk6
          rw [hb2,hkb] at hlk7
          have hne:(xa != (ka:Int))=true:=by
           obtain ⟨q,hq,hq1,hq2⟩:=hxa hb2
           obtain ⟨q',hq',rfl⟩:=List.mem_map.1 hq
           simp only [swP] at hq1 hq2
           rw [bne_iff_ne]
           rintro rfl
           refine hnm ?_
           have:q'=p:=by ext<;>simp_all
           rw [<-this];exact (List.mem_filter.1 hq').1
          have hne2:met.any (badS g p)=true:=by rw [hany,hb2];simp
          clear hany hb1 hb2 hxa hxb f6 f7
          replace hne2:=Hid.mk hne2
          repeat' with_reducible first|refine zAA ?_|refine zAd ?_|refine zBQ ?_|refine zAC ?_|refine zAE ?_|refine zAD ?_|refine zAQ ?_|(apply st_q;exact q1)|(apply zBi;exact e1;exact q1)|(apply zEm;exact e1)|(apply zAK;exact e1)|(apply zAI;exact n1;exact r1)
          refine ⟨?_,I15.grow⟩
          rw [hres.out,zEn,hmet,hne2.out];simp
        ·rw [hb1,hka] at hlk6
         rw [hkb] at hlk7
         have hne:(xb != (kb:Int))=true:=by
          obtain ⟨q,hq,hq1,hq2⟩:=hxb hb1
          rw [bne_iff_ne]
          rintro rfl
          refine hnm ?_
          have:q=p:=by ext<;>simp_all
          rw [<-this];exact (List.mem_filter.1 hq).1
         have hne2:met.any (badS g p)=true:=by rw [hany,hb1];simp
         clear hany hb1 hxa hxb f6 f7
         replace hne2:=Hid.mk hne2
         generalize (((flM g met).map swP).any fun q=>q.1==p.2)=hb2 at hlk7
         repeat' with_reducible first|refine zAA ?_|refine zAd ?_|refine zBQ ?_|refine zAC ?_|refine zAE ?_|refine zAD ?_|refine zAQ ?_|(apply st_q;exact q1)|(apply zBi;exact e1;exact q1)|(apply zEm;exact e1)|(apply zSz;exact e1)|(apply zAK;exact e1)|(apply zAI;exact n1;exact r1)
         refine ⟨?_,I15.grow⟩
         rw [hres.out,zEn,hmet,hne2.out];simp
      ·clear I15 o9z o10' o13 hd h2' h3' h5' h6' h7' h8'
       rintro a hq ⟨I,hbad,o10,o11,hd,h2',h3',h5',h6',h7',h8',h10',h11'⟩
       refine zAA ?_
       have hax:g.nodes[ka].args.length<=4096:=by
        have:=hg.tinyA _ hmem
        omega
       refine zRi hw I o10 o11 hav hbv hxy.out hax hB36 hd h2' h3' h5' h6' h7' h8' h10' h11' ?_
       clear I o10 o11 hd h2' h3' h5' h6' h7' h8' h10' h11' hax
       intro a hr vw' I hd h2' h3' h5' h6' h7' h8'
       have hnx:nxS g h p=(List.zip g.nodes[ka].args h.nodes[kb].args).reverse:=by rw [nxS,hna,hnb]
       have hput:=zHs (nxS g h) hmet hpp
       rw [<-hnx] at I
       repeat with_reducible first|refine zAA ?_|refine zAN ?_
       refine ⟨m,by omega,_,_,vw',I,by rw [zgL];omega,by rw [zgL];omega,⟨?_⟩,?_,by exact n1,by exact e1,by exact e1,by exact e1,by exact e1,by exact e1,by exact e1⟩
       ·rw [hres.out,zEn,hmet,hokt.out,hbad];rfl
       ·intro q hq'
        rcases List.mem_append.1 hq' with hq'|hq'
        ·exact zQo hcg.out hchh.out hpp q hq'
        ·exact hwp' q hq'
    ·rw [hmet] at hlk5
     repeat with_reducible first|refine zAA ?_|refine zBk ?_|refine zBj ?_|refine zAC ?_|refine zAE ?_|refine zAD ?_|refine zCJ ?_|(apply st_q;exact q1)|(apply zAK;exact e1)
     refine ⟨m,by omega,w,met,_,I7,by omega,by omega,⟨by rw [hres.out,zEn,hmet];rfl⟩,hwp',by exact n1,by exact e1,by exact e1,by exact e1,by exact e1,by exact e1,by exact e1⟩
  ·repeat' with_reducible first|refine zAA ?_|refine zAd ?_|refine zAC ?_|refine zAE ?_|refine zAD ?_|refine zAQ ?_|(apply st_q;exact q1)|(apply zBi;exact e1;exact q1)|(apply zAK;exact e1)|(apply zAI;exact n1;exact r1)
   refine ⟨?_,g05⟩
   have h2:(zAF h==0)=false:=by simpa using hch
   rw [zFa,h2];simp
 ·repeat' with_reducible first|refine zAA ?_|refine zAd ?_|refine zAC ?_|refine zAE ?_|refine zAD ?_|refine zAQ ?_|(apply st_q;exact q1)|(apply zEm;exact e1)|(apply zHL;exact e1)|(apply zAK;exact e1)|(apply zAI;exact n1;exact r1)
  refine ⟨?_,g04⟩
  have h1:(zAF g==0)=false:=by simpa using hck
  rw [zFa,h1];rfl
end
end Go.Ab.S
end
