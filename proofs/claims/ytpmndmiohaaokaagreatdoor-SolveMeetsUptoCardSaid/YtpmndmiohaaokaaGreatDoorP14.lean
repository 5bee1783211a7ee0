import Derived.Test.YtpmndmiohaaokaaGreatDoorP13
/-
  Part 14 of the proof.
-/
set_option linter.all false
set_option maxHeartbeats 8000000
section
namespace Go.Ab.S
open Go.Ab
section
variable{fns:FnsT}{summ:SumT}{ro:Option Nat}
theorem zMu{d:Option Tmp}{x:AOpd}{l:List Step}{a:AAct}{h:AHeap}{K:AAct->AHeap->Prop}{r ver c:Nat}{es:List (AVal×AVal×Nat)}(hx:ev a x=some (.map (some r)))(hr:h.objs.get r=some (ver,.map es c))(w:WF h)
  (k:∀b h',h.next<=b->Grow h h'->h'.objs.get b=some (b,.iter r c [] c)->St fns summ ro l (putA a d (.ptr (some (b,0)))) h' K):St fns summ ro (⟨d,none,.e (.range x)⟩::l) a h K:=
 st_t (by intro _ _ hh;cases hh) (by intro _ _ hh;cases hh) (v:=.ptr (some (h.next,0))) (h':=newA h (.iter r c [] c)) (by simp only[zBP,hx,hr]) (k _ _ (Nat.le_refl _) ((Grow.refl w).new _) (zAQ _ _))
theorem zPQ{d:Option Tmp}{x:AOpd}{l:List Step}{a:AAct}{h:AHeap}{K:AAct->AHeap->Prop}{b r ver verr c:Nat}{seen:List Nat}{es:List (AVal×AVal×Nat)}(hx:ev a x=some (.ptr (some (b,0))))(hb:h.objs.get b=some (ver,.iter r c seen c))(hr:h.objs.get r=some (verr,.map es c))(hes:∀e∈es,e.2.2<c)(w:WF h)
  (k0:(∀e∈es,e.2.2∈seen)->St fns summ ro l (putA a d (.tuple [.bool false])) h K)
  (k1:∀e∈es,e.2.2∉seen->∀ver' h',But b h h'->h'.objs.get b=some (ver',.iter r c (seen++[e.2.2]) c)->St fns summ ro l (putA a d (.tuple [.bool true,e.1,e.2.1])) h' K):St fns summ ro (⟨d,none,.e (.next x)⟩::l) a h K:=by
 refine st_e (zQF (by intro _ _ hh;cases hh) (by intro _ _ hh;cases hh) ?_);have ab:es.all (fun e=>Nat.blt e.2.2 c)=true:=List.all_eq_true.2 fun e he=>by simpa using hes e he
 simp only[zBP,hx,hb,hr,ab,and_self,if_true];have aa:∀e,e∈es.filter (fun e=> !seen.contains e.2.2)↔e∈es/\e.2.2∉seen:=fun e=>by simp
 generalize es.filter (fun e=> !seen.contains e.2.2)=left at aa;cases left with
 |nil=>
  refine k0 fun e he=>?_;by_cases hs:e.2.2∈seen
  ·exact hs
  ·exact absurd ((aa e).2 ⟨he,hs⟩) (by simp)
 |cons y rest=>
  refine⟨by simp,fun i hi=>?_⟩;obtain⟨k,v,born⟩:AVal×AVal×Nat:=(y::rest)[i];have ac:i<(y::rest).length:=hi;obtain⟨e,he⟩:∃e,(y::rest)[i]?=some e:=⟨_,zgG ac⟩;obtain⟨m1,m2⟩:=(aa e).1 (List.mem_of_getElem? he);simp only[he];exact k1 e m1 m2 _ _ (zER w hb _) (zAc _ _ _)
theorem zMt{d:Option Tmp}{x:AOpd}{l:List Step}{a:AAct}{h:AHeap}{K:AAct->AHeap->Prop}{b r ver verr c s:Nat}{seen:List Nat}{es:List (AVal×AVal×Nat)}{k v:AVal}{n:Nat}(hx:ev a x=some (.ptr (some (b,0))))(hb:h.objs.get b=some (ver,.iter r c (seen++[s]) c))(hr:h.objs.get r=some (verr,.map es c))(hf:es.find? (fun e=>Nat.beq e.2.2 s)=some (k,v,n))
  (kk:St fns summ ro l (putA a d (.tuple [k,v])) h K):St fns summ ro (⟨d,none,.e (.entry x)⟩::l) a h K:=
 st_t (by intro _ _ hh;cases hh) (by intro _ _ hh;cases hh) (v:=.tuple [k,v]) (h':=h) (by
  have hl:(seen++[s]).getLast?=some s:=by simp
  simp only[zBP,hx,hb,hr,hl,if_true,hf]) kk
end
end Go.Ab.S
end
section
namespace Go.Ab.S
open Go Go.Ab
def clzC(c:Clz)(av mv:AVal):List AVal:=[.int .i64 c.kind,.str c.name,av,mv,.bool c.isOpen]
def Kp(b r:Nat)(h h':AHeap):Prop:=∀c p,c≠b->c≠r->h.objs.get c=some p->(∀ro vs,p.2≠.cells ro 40 vs)->h'.objs.get c=some p
theorem Kp.trans{b r:Nat}{h h' h'':AHeap}(k:Kp b r h h')(l:Kp b r h' h''):Kp b r h h'':=fun c p h1 h2 h3 h4=>l c p h1 h2 (k c p h1 h2 h3 h4) h4
theorem Kp.grow{b r:Nat}{h h':AHeap}(g:Grow h h'):Kp b r h h':=fun c p _ _ h3 _=>g.keep c p h3
theorem Kp.but{b r c:Nat}{h h' h'':AHeap}(k:Kp b r h h')(p:But c h' h'')(w:WF h)(hc:c=b\/c=r\/h.next<=c):Kp b r h h'':=fun d q h1 h2 h3 h4=>p.keep d (by
 rintro rfl;rcases hc with rfl|rfl|hc
 ·exact h1 rfl
 ·exact h2 rfl
 ·have:=w.lt h3;omega) q (k d q h1 h2 h3 h4)
structure OInv(h0 h:AHeap)(b rY:Nat)(ov rv hv:AVal)(fX fY:List Fld)(ws:List Pr)(seen:List Nat)(wv:AVal)(hp:AHeap):Prop where
 grow:Grow h0 hp
 nx:h.next<=hp.next
 kp:Kp b rY h hp
 s:∃ver,hp.objs.get b=some (ver,.cells false 56 [ov,rv,hv,wv])
 w:Built hp h0.next 40 2 wv ((newW fX fY seen).reverse++ws).length (rowC ((newW fX fY seen).reverse++ws))
 y:∃ver,hp.objs.get rY=some (ver,.map (fEs 0 (fY++zCf fX fY seen)) (fY++zCf fX fY seen).length)
section
variable{h0 h:AHeap}{b rY:Nat}{ov rv hv wv:AVal}{fX fY:List Fld}{ws:List Pr}{seen:List Nat}{hp hq:AHeap}
theorem OInv.side{c:Nat}{p:Nat×AObj}(I:OInv h0 h b rY ov rv hv fX fY ws seen wv hp)(w0:WF h0)(w:WF h)(q:But c hp hq)(hc:hp.objs.get c=some p)(h1:∀ro e vs,p.2≠.cells ro e vs)(hr:c≠rY)(hl:h.next<=c)(h0l:h0.next<=c):OInv h0 h b rY ov rv hv fX fY ws seen wv hq:=by obtain⟨v1,aa⟩:=I.s;obtain⟨v2,y1⟩:=I.y;refine⟨q.grow h0 w0 I.grow h0l,Nat.le_trans I.nx q.next,I.kp.but q w (.inr (.inr hl)),⟨v1,q.keep _ ?_ _ aa⟩,zAG I.w q hc (fun vs hh=>h1 _ _ vs hh),⟨v2,q.keep _ (Ne.symm hr) _ y1⟩⟩;rintro rfl;rw[aa] at hc;cases hc;exact h1 _ _ _ rfl
theorem OInv.other(I:OInv h0 h b rY ov rv hv fX fY ws seen wv hp)(g:Grow hp hq):OInv h0 h b rY ov rv hv fX fY ws seen wv hq:=by obtain⟨v1,aa⟩:=I.s;obtain⟨v2,y1⟩:=I.y;exact⟨I.grow.trans g,Nat.le_trans I.nx g.next,I.kp.trans (.grow g),⟨v1,g.keep _ _ aa⟩,I.w.grow g,⟨v2,g.keep _ _ y1⟩⟩
theorem OInv.push{wv':AVal}{h13 h14:AHeap}{q:Pr}{v14:Nat}{seen':List Nat}(I:OInv h0 h b rY ov rv hv fX fY ws seen wv hp)(w0:WF h0)(w:WF h)(hb0:h0.next<=b){h12:AHeap}(g12:Grow hp h12)(B13:Built h13 h0.next 40 2 wv' (((newW fX fY seen).reverse++ws).length+1) (rowC ((newW fX fY seen).reverse++ws)++zCB q))
  (gr13:∀h,WF h->Grow h h12->h.next<=h0.next->Grow h h13) (n13:h12.next<=h13.next) (kp13:∀b p,h12.objs.get b=some p->(∀k,wv≠.slice (some (b,0)) k)->h13.objs.get b=some p) (p14:But b h13 h14) {pb:Nat×AObj} (hb13:h13.objs.get b=some pb) (hpb:∀vs,pb.2≠.cells false 40 vs) (o14:h14.objs.get b=some (v14,.cells false 56 [ov,rv,hv,wv']))
  (hN:newW fX fY seen'=newW fX fY seen++[q]) (hA:zCf fX fY seen'=zCf fX fY seen):OInv h0 h b rY ov rv hv fX fY ws seen' wv' h14:=by
 have aa:=I.other g12;obtain⟨v2,y1⟩:=aa.y;have ne:∀{c p},h12.objs.get c=some p->(∀vs,p.2≠.cells false 40 vs)->∀k,wv≠.slice (some (c,0)) k:=fun hc hp=>zAE aa.w hc hp;have hyb:rY≠b:=by rintro rfl;obtain⟨v1,s1'⟩:=aa.s;rw[s1'] at y1;cases y1
 refine⟨p14.grow h0 w0 (gr13 h0 w0 aa.grow (Nat.le_refl _)) hb0,by have:=aa.nx;have:=p14.next;omega,fun c p h1 h2 h3 h4=>p14.keep c h1 p (kp13 c p (aa.kp c p h1 h2 h3 h4) (ne (aa.kp c p h1 h2 h3 h4) fun vs hh=>h4 _ vs hh)),⟨v14,o14⟩,?_,⟨v2,by rw[hA];exact p14.keep _ hyb _ (kp13 _ _ y1 (ne y1 fun vs hh=>by cases hh))⟩⟩;rw[hN,List.reverse_append,List.reverse_singleton,List.singleton_append,zlK,zEJ,zlC];exact zAG B13 p14 hb13 hpb
theorem OInv.label{i:Nat}{v14:Nat}(I:OInv h0 h b rY ov rv hv fX fY ws seen wv hp)(w0:WF h0)(w:WF h)(hy0:h0.next<=rY)(p14:But rY hp hq)(hi:i<fX.length)(hf:zBl fY fX[i].1=none)(o14:hq.objs.get rY=some (v14,.map (fEs 0 (fY++zCf fX fY seen)++[(.str fX[i].1,.int .i64 fX[i].2,(fY++zCf fX fY seen).length)]) ((fY++zCf fX fY seen).length+1))):OInv h0 h b rY ov rv hv fX fY ws (seen++[i]) wv hq:=by
 obtain⟨v1,aa⟩:=I.s;obtain⟨v2,y1⟩:=I.y;obtain⟨hA,hN⟩:=zPh hi hf (seen:=seen);refine⟨p14.grow h0 w0 I.grow hy0,Nat.le_trans I.nx p14.next,I.kp.but p14 w (.inr (.inl rfl)),⟨v1,p14.keep _ ?_ _ aa⟩,by rw[hN];exact zAG I.w p14 y1 (fun vs hh=>by cases hh),⟨v14,?_⟩⟩
 ·rintro rfl;rw[aa] at y1;cases y1
 ·rw[hA,<-List.append_assoc,zLa,Nat.zero_add,zgL (as:=fY++zCf fX fY seen),List.length_singleton];exact o14
end
section
variable{fns:FnsT}{summ:SumT}
variable(H:Has fns summ)
include H
theorem zNW(cX cY:Clz)(kX:cX.kind=3)(kY:cY.kind=3)(hn:cX.name=cY.name)(nX:(cX.fields.map (·.1)).Nodup)(nY:(cY.fields.map (·.1)).Nodup)(aY:cY.args=[]){h0 h:AHeap}(w0:WF h0)(G:Grow h0 h){b rX rY ver vx vy:Nat}(hXY:rX≠rY)(lb:h0.next<=b)(ly:h0.next<=rY){ov rv hv wv:AVal}{ws:List Pr}
  (hs:h.objs.get b=some (ver,.cells false 56 [ov,rv,hv,wv])) (hB:Built h h0.next 40 2 wv ws.length (rowC ws)) (hx:h.objs.get rX=some (vx,.map (fEs 0 cX.fields) cX.fields.length)) (hy:h.objs.get rY=some (vy,.map (fEs 0 cY.fields) cY.fields.length))
  (hw:ws.length+cX.fields.length<=2 ^ 36) (ax ay:AVal) (h1a:one ax=true) (h1b:one ay=true):
  Cl fns summ 101 [.ptr (some (b,0)),.agg (clzC cX ax (.map (some rX))),.agg (clzC cY ay (.map (some rY)))] h fun r h'=>Grow h0 h'/\Kp b rY h h'/\((∃c new wv' ver',Merge cX cY c new/\new.length<=cX.fields.length/\r=.tuple [.agg (clzC c ay (.map (some rY))),.bool true]/\h'.objs.get b=some (ver',.cells false 56 [ov,rv,hv,wv'])/\Built h' h0.next 40 2 wv' (new.reverse++ws).length (rowC (new.reverse++ws))∧
   (∃vy',h'.objs.get rY=some (vy',.map (fEs 0 c.fields) c.fields.length))/\c.kind=3)\/(Clash cX cY/\∃cs,r=.tuple [.agg cs,.bool false]/\cs.length=5/\cs.all one=true)):=by
 unfold clzC;have w:=G.wf;refine H.go (fn:=F_sobjects) rfl (by decide) rfl rfl ?_;unfold F_sobjects;dsimp only[qQ,qE,qN,gQ,tm,mt,lo,fa,jb,jl,js,jx,jo,jt,jR,jS,jC];refine zAu (zAz ?_);refine zAr e1 cc w ?_;rintro b4 h1 hb4 g1' o4;have l41:=g1'.wf.lt o4;refine zAr e1 cc g1'.wf ?_;rintro b5 h2 hb5 g2' o5;have l52:=g2'.wf.lt o5;replace o4:=g2'.keep _ _ o4;refine zAM g2'.wf ?_;rintro b6 h3 hb6 g3' o6;replace o4:=g3'.keep _ _ o4;replace o5:=g3'.keep _ _ o5;have g03:=(g1'.trans g2').trans g3';have G3:=G.trans g03;have w3:=g3'.wf;have n01:=g1'.next;have n00:=G.next;have ht5:∀p q r s t:AVal,List.take 5 [p,q,r,s,t]=[p,q,r,s,t]:=fun _ _ _ _ _=>rfl;have n02:=g2'.next;have hx3:=g03.keep _ _ hx;have lx3:=w.lt hx;have ly3:=w.lt hy;have lb3:=w.lt hs;have l4:=w3.lt o4;have l5:=w3.lt o5;have l6:=w3.lt o6;have e36:(2:Nat) ^ 36=68719476736:=by decide
 have I0:OInv h0 h3 b rY ov rv hv cX.fields cY.fields ws [] wv h3:=by refine⟨G3,Nat.le_refl _,fun c p _ _ k _=>k,⟨ver,g03.keep _ _ hs⟩,by simpa[newW,zIf] using hB.grow g03,⟨vy,?_⟩⟩;have:zCf cX.fields cY.fields []=[]:=rfl;rw[this,zlE];exact g03.keep _ _ hy
 have hkx:Kp b rY h h3:=.grow g03;have hxe:=zLZ cX.fields 0;have hbxe:b≠rX:=by rintro rfl;rw[hs] at hx;cases hx
 have hbye:b≠rY:=by rintro rfl;rw[hs] at hy;cases hy
 clear hs hB hx hy;repeat refine zR ?_
 refine zMu e1 hx3 w3 ?_;rintro bi h4 hbi g4 oi;have I4:=I0.other g4;clear I0;repeat refine zR ?_
 refine zBT ?_;refine zCS (fun m a hp=>∃seen wv,Hid (m+seen.length=cX.fields.length/\seen.Nodup/\(∀i∈seen,i<cX.fields.length)/\(∀i∈seen,(hi:i<cX.fields.length)->cY.isOpen=true\/(zBl cY.fields cX.fields[i].1).isSome=true))/\OInv h0 h3 b rY ov rv hv cX.fields cY.fields ws seen wv hp/\(∃ver,hp.objs.get bi=some (ver,.iter rX cX.fields.length seen cX.fields.length))/\a.defers=[]/\ev a (.tmp 0)=some (.ptr (some (b,0)))/\ev a (.tmp 4)=some (.ptr (some (b4,0)))/\ev a (.tmp 5)=some (.ptr (some (b5,0)))/\ev a (.tmp 6)=some (.ptr (some (b6,0)))/\ev a (.tmp 14)=some (.ptr (some (bi,0)))) ?_ (n:=cX.fields.length)
  ⟨[],wv,⟨rfl,List.nodup_nil,fun i hi=>(by cases hi),fun i hi=>(by cases hi)⟩,I4,⟨_,oi⟩,n1,e1,e1,e1,e1,e1⟩
 clear I4 oi;rintro m a hp ⟨seen,wv,hS,I,⟨vi,oi⟩,hd,t0',t4',t5',t6',t14'⟩;obtain⟨vs,os⟩:=I.s;obtain⟨vy2,oy⟩:=I.y;have orx:=I.kp rX _ (Ne.symm hbxe) hXY hx3 (by intro _ _ hh;cases hh);have ah:=I.kp b4 _ (by omega) (by omega) o4 (by intro _ _ hh;cases hh);have ab:=I.kp b5 _ (by omega) (by omega) o5 (by intro _ _ hh;cases hh);have ac:=I.kp b6 _ (by omega) (by omega) o6 (by intro _ _ hh;cases hh);have hes:∀e∈fEs 0 cX.fields,e.2.2<cX.fields.length:=fun e he=>by obtain⟨k,hk,rfl⟩:=zHi he;show 0+k<_;omega
 have o4':=Hid.mk o4;have o5':=Hid.mk o5;have o6':=Hid.mk o6;have hx3':=Hid.mk hx3;clear o4 o5 o6 hx3;repeat refine zR ?_
 refine zPQ e1 oi orx hes I.grow.wf (fun hall=>?_) fun e he hns ver' h5 p5 o5n=>?_
 ·obtain⟨hm,hnd,hlt,hop⟩:=hS.out;have hall':∀i,i<cX.fields.length->i∈seen:=fun i hi=>by
   have:=hall _ (zOP (i:=0) hi);simpa using this
  obtain⟨mc,mm⟩:=zOy kX kY hn nX nY aY hnd hall' fun i hi=>hop i (hall' i hi) hi;have hye:=zLZ (cY.fields++zCf cX.fields cY.fields seen) 0;have hBw:=Hid.mk I.w;have hkp:=Hid.mk (hkx.trans I.kp);have gI:=I.grow;have wI:=gI.wf;have nI:=I.nx;have aa:∀(k:Int) (n:List Nat) (x:AVal) (r:Nat) (o:Bool),one x=true->([.int .i64 k,.str n,x,.map (some r),.bool o]:List AVal).all one=true:=fun k n x r o hx=>by simp only[List.all_cons,hx];rfl
  replace aa:=Hid.mk aa;have hWl:Hid ((newW cX.fields cY.fields seen).length<=cX.fields.length):=⟨by have:=zOv (fX:=cX.fields) (fY:=cY.fields) (seen:=seen);omega⟩;generalize hF:cY.fields++zCf cX.fields cY.fields seen=F at oy hye mc mm;generalize hW:newW cX.fields cY.fields seen=W at hBw mm hWl;clear hall hes oi hS hop hall' hlt hm I hF hW;by_cases ae:cX.isOpen=false/\cX.fields.length<F.length
  ·have hc:=Hid.mk (mc ae);have hdec:decide ((Int.ofNat cX.fields.length:Int)<Int.ofNat F.length)=true:=by simp[ae.2]
   rw[ae.1] at ah;clear mc mm ae;repeat refine zR ?_
   refine zAC e1 e1 cc rfl wI ac (by simp) (aa.out _ _ _ _ _ h1a) ?_;rintro v7 h7 p7 o7;simp only[lL,Nat.reduceAdd] at o7;clear ah ab ac oy os orx;repeat refine zG ?_
   exact⟨p7.grow h0 w0 gI (by omega),hkp.out.but p7 w (.inr (.inr (by omega))),.inr ⟨hc.out,_,rfl,rfl,aa.out _ _ _ _ _ h1a⟩⟩
  ·have hM:=Hid.mk (mm ae);cases hoX:cX.isOpen
   ·have hdec:decide ((Int.ofNat cX.fields.length:Int)<Int.ofNat F.length)=false:=by
     simp only[hoX,true_and] at ae;simpa using ae
    rw[hoX] at ah hM;clear mc mm ae hoX;repeat refine zR ?_
    refine zAC e1 e1 cc rfl wI ab (by simp) rfl ?_;rintro v7 h7 p7 o7;simp only[lL,Nat.reduceAdd] at o7;have w7:=p7.wf wI;have o6q:=p7.keep b6 (by omega) _ ac;have oyq:=p7.keep rY (by omega) _ oy;have osq:=p7.keep b (by omega) _ os;have hBq:Hid (Built h7 h0.next 40 2 wv (W.reverse++ws).length (rowC (W.reverse++ws))):=⟨zAG hBw.out p7 ab (fun vs hh=>by cases hh)⟩;have hkq:Hid (Kp b rY h h7):=⟨hkp.out.but p7 w (.inr (.inr (by omega)))⟩;have g7:=p7.grow h0 w0 gI (by omega);clear ah ab ac oy os orx hBw hkp;repeat refine zR ?_
    refine zAC e1 e1 cc rfl w7 o6q (by simp) (aa.out _ _ _ _ _ h1b) ?_;rintro v8 h8 p8 o8;simp only[lL,Nat.reduceAdd] at o8;have oyr:=p8.keep rY (by omega) _ oyq;have osr:=p8.keep b (by omega) _ osq;have hBr:=Hid.mk (zAG hBq.out p8 o6q (fun vs hh=>by cases hh));have hkr:=Hid.mk (hkq.out.but p8 w (.inr (.inr (by omega))));have g8:=p8.grow h0 w0 g7 (by omega);clear oyq osq hBq hkq o6q o7 aa;repeat refine zG ?_
    exact⟨g8,hkr.out,.inl ⟨_,W,wv,_,hM.out,hWl.out,by simp only[clzC,kY,Bool.and_true,Bool.and_false],osr,hBr.out,⟨_,oyr⟩,rfl⟩⟩
   ·rw[hoX] at ah hM;clear mc mm ae hoX;repeat refine zR ?_
    refine zAC e1 e1 cc rfl wI ab (by simp) rfl ?_;rintro v7 h7 p7 o7;simp only[lL,Nat.reduceAdd] at o7;have w7:=p7.wf wI;have o6q:=p7.keep b6 (by omega) _ ac;have oyq:=p7.keep rY (by omega) _ oy;have osq:=p7.keep b (by omega) _ os;have hBq:Hid (Built h7 h0.next 40 2 wv (W.reverse++ws).length (rowC (W.reverse++ws))):=⟨zAG hBw.out p7 ab (fun vs hh=>by cases hh)⟩;have hkq:Hid (Kp b rY h h7):=⟨hkp.out.but p7 w (.inr (.inr (by omega)))⟩;have g7:=p7.grow h0 w0 gI (by omega);clear ah ab ac oy os orx hBw hkp;repeat refine zR ?_
    refine zAC e1 e1 cc rfl w7 o6q (by simp) (aa.out _ _ _ _ _ h1b) ?_;rintro v8 h8 p8 o8;simp only[lL,Nat.reduceAdd] at o8;have oyr:=p8.keep rY (by omega) _ oyq;have osr:=p8.keep b (by omega) _ osq;have hBr:=Hid.mk (zAG hBq.out p8 o6q (fun vs hh=>by cases hh));have hkr:=Hid.mk (hkq.out.but p8 w (.inr (.inr (by omega))));have g8:=p8.grow h0 w0 g7 (by omega);clear oyq osq hBq hkq o6q o7 aa;repeat refine zG ?_
    exact⟨g8,hkr.out,.inl ⟨_,W,wv,_,hM.out,hWl.out,by simp only[clzC,kY,Bool.and_true,Bool.and_false],osr,hBr.out,⟨_,oyr⟩,rfl⟩⟩
 ·obtain⟨i,hi,he'⟩:=zHi he;rw[Nat.zero_add] at he';subst he';simp only at hns o5n;obtain⟨hm,hnd,hlt,hop⟩:=hS.out;have af:(fEs 0 cX.fields).find? (fun e=>Nat.beq e.2.2 i)=some (.str cX.fields[i].1,.int .i64 cX.fields[i].2,i):=by
   have:=zOO (i:=0) hi;rw[Nat.zero_add] at this;exact this
  have hgr:=zNK (fY:=cY.fields) nX hi hns;have ad:seen.length<cX.fields.length/\(seen++[i]).Nodup/\(∀j∈seen++[i],j<cX.fields.length):=by
   have h1:(seen++[i]).Nodup:=by rw[List.nodup_append];exact⟨hnd,by simp,fun a ha b hb=>by simp only[List.mem_singleton] at hb;subst hb;rintro rfl;exact hns ha⟩
   have h2:∀j∈seen++[i],j<cX.fields.length:=fun j hj=>by
    rcases List.mem_append.1 hj with hj|hj
    ·exact hlt j hj
    ·rw[List.mem_singleton.1 hj];exact hi
   have h3:=zBv (seen++[i]) (List.range cX.fields.length) h1 fun j hj=>List.mem_range.2 (h2 j hj);rw[List.length_range,zgL,List.length_singleton] at h3;exact⟨by omega,h1,h2⟩
  have I5:=I.side w0 w3 p5 oi (fun _ _ _ hh=>by cases hh) (by omega) hbi (by omega);replace ad:=Hid.mk ad;replace hop:=Hid.mk hop;replace hm:=Hid.mk hm;replace af:=Hid.mk af;clear hS hnd hlt he hes oi oy os orx ah ab ac hxe;obtain⟨vs5,os⟩:=I5.s;obtain⟨vy5,oy⟩:=I5.y;have orx:=I5.kp rX _ (Ne.symm hbxe) hXY hx3'.out (by intro _ _ hh;cases hh);have ah:=I5.kp b4 _ (by omega) (by omega) o4'.out (by intro _ _ hh;cases hh);have ab:=I5.kp b5 _ (by omega) (by omega) o5'.out (by intro _ _ hh;cases hh);have ac:=I5.kp b6 _ (by omega) (by omega) o6'.out (by intro _ _ hh;cases hh);have w5:=I5.grow.wf;have n5:=I5.nx;have hlk:=zQG oy cX.fields[i].1;rw[hgr] at hlk;generalize hl:cX.fields[i].1=l at af hlk;generalize ha:cX.fields[i].2=x at af;have hia:cX.fields[i]=(l,x):=by rw[<-hl,<-ha]
  repeat refine zR ?_
  refine zMt e1 o5n orx af.out ?_;clear orx;cases hf:zBl cY.fields l with
  |some y=>
   rw[hf] at hlk;simp only[Option.getD_some,Option.isSome_some] at hlk;have hroom:=zSe (k:=((newW cX.fields cY.fields seen).reverse++ws).length+1) (by
    have:=zOv (fX:=cX.fields) (fY:=cY.fields) (seen:=seen);have e37:(2:Nat) ^ 37=137438953472:=by decide
    have:=ad.out.1;simp only[zgL,List.length_reverse];omega)
   replace hroom:=Hid.mk hroom;clear ah ac;repeat refine zR ?_
   refine zAT e1 (cs:=[.int .i64 x,.int .i64 y]) rfl rfl rfl w5 ?_;rintro bx h12 hbx ai ox;refine zAZ e1 e1 (I5.w.grow ai) ox rfl rfl hroom.out ai.wf (by have:=I5.grow.next;have:=ai.next;omega) ?_;rintro wv' h13 B13 f13 w13 n13 gr13 kp13;have os13:=kp13 _ _ (ai.keep _ _ os) (zAE (I5.w.grow ai) (ai.keep _ _ os) fun vs hh=>by cases hh);have oi13:=kp13 _ _ (ai.keep _ _ o5n) (zAE (I5.w.grow ai) (ai.keep _ _ o5n) fun vs hh=>by cases hh);clear ox os oy ab hlk;repeat refine zR ?_
   refine zAC e1 e1 (zAO B13.len) rfl w13 os13 (by simp) (by simp only[List.all_cons,List.all_nil,zAD B13.len,Bool.and_true]) ?_;rintro v14 h14 p14 o14;simp only[lL,Nat.reduceAdd] at o14;obtain⟨hA,hN⟩:=zPi (fX:=cX.fields) (fY:=cY.fields) (seen:=seen) hi (b:=y) (by rw[hia];exact hf);have I14:=I5.push (seen':=seen++[i]) w0 w3 lb ai (q:=(x,y)) B13 gr13 n13 kp13 p14 os13 (fun vs hh=>by cases hh) o14 (by rw[hN,hia]) hA;have oi14:=p14.keep bi (by omega) _ oi13;clear os13 oi13 o14 B13 kp13 gr13 hA hN;repeat refine zR ?_
   exact⟨m - 1,by have:=hm.out;have:=ad.out.1;omega,seen++[i],wv',⟨by have:=hm.out;have:=ad.out.1;rw[zgL,List.length_singleton];omega,ad.out.2.1,ad.out.2.2,fun j hj hjl=>by
    rcases List.mem_append.1 hj with hj|hj
    ·exact hop.out j hj hjl
    ·obtain rfl:=List.mem_singleton.1 hj;exact .inr (by rw[hia,hf];rfl)⟩,I14,⟨_,oi14⟩,n1,e1,e1,e1,e1,e1⟩
  |none=>
   rw[hf] at hlk;simp only[Option.getD_none,Option.isSome_none] at hlk;cases hoY:cY.isOpen with
   |false=>
    rw[hoY] at ab;have ae:Hid (Clash cX cY):=⟨by omega,by omega,.inr (.inr ⟨kX,kY,.inl ⟨hoY,l,x,by rw[<-hia];exact List.getElem_mem hi,zCi.1 hf⟩⟩)⟩;have aa:([.int .i64 3,.str cY.name,ax,.map (some rX),.bool cX.isOpen]:List AVal).all one=true:=by simp only[List.all_cons,h1a];rfl
    have gI:=I5.grow;have hkp5:=Hid.mk (hkx.trans I5.kp);replace aa:=Hid.mk aa;clear hoY hf oy os;repeat refine zR ?_
    refine zAC e1 e1 cc rfl w5 ac (by simp) aa.out ?_;rintro v7 h7 p7 o7;simp only[lL,Nat.reduceAdd] at o7;clear ah ab ac o5n;repeat refine zG ?_
    exact⟨p7.grow h0 w0 gI (by omega),hkp5.out.but p7 w (.inr (.inr (by omega))),.inr ⟨ae.out,_,rfl,rfl,aa.out⟩⟩
   |true=>
    rw[hoY] at ab;have hgn:zBl (cY.fields++zCf cX.fields cY.fields seen) l=none:=by rw[<-hl,hgr,hl,hf]
    replace hgn:=Hid.mk hgn;clear hoY ah ac;repeat refine zR ?_
    refine zIT (kk:=.str) e1 e1 e1 (by intro hh;cases hh) rfl w5 oy (zMX hgn.out) ?_;rintro v14 h14 p14 o14;have I14:=I5.label w0 w3 ly p14 hi (by rw[hia];exact hf) (by rw[hia];exact o14);have hbiY:bi≠rY:=by omega
    have oi14:=p14.keep bi hbiY _ o5n;clear o14 oy os ab hlk o5n hf;repeat refine zR ?_
    exact⟨m - 1,by have:=hm.out;have:=ad.out.1;omega,seen++[i],wv,⟨by have:=hm.out;have:=ad.out.1;rw[zgL,List.length_singleton];omega,ad.out.2.1,ad.out.2.2,fun j _ _=>.inl rfl⟩,I14,⟨_,oi14⟩,n1,e1,e1,e1,e1,e1⟩
end
end Go.Ab.S
end
section
namespace Go.Ab.S
open Go Go.Ab
def ClzAt(h0 hp:AHeap)(cs:List AVal)(c:Clz):Prop:=∃av mv,cs=clzC c av mv/\IntsAt h0 av c.args/\(c.kind≠3->mv=.map none)/\(c.kind=3->∃r ver,mv=.map (some r)/\h0.next<=r/\hp.objs.get r=some (ver,.map (fEs 0 c.fields) c.fields.length))
structure CK(A:Nat)(c:Clz):Prop where
 kind:c.kind=1\/c.kind=2\/c.kind=3
 noargs:c.kind≠2->c.args=[]
 nodup:(c.fields.map (·.1)).Nodup
 args:c.args.length<=A
 fields:c.fields.length<=A
def Kq(b:Nat)(my:AVal)(h h':AHeap):Prop:=∀c p,c≠b->my≠.map (some c)->h.objs.get c=some p->(∀ro vs,p.2≠.cells ro 40 vs)->h'.objs.get c=some p
theorem Kq.trans{b:Nat}{my:AVal}{h h' h'':AHeap}(k:Kq b my h h')(l:Kq b my h' h''):Kq b my h h'':=fun c p h1 h2 h3 h4=>l c p h1 h2 (k c p h1 h2 h3 h4) h4
theorem Kq.grow{b:Nat}{my:AVal}{h h':AHeap}(g:Grow h h'):Kq b my h h':=fun c p _ _ h3 _=>g.keep c p h3
theorem Kq.of{b r:Nat}{h h':AHeap}(k:Kp b r h h'):Kq b (.map (some r)) h h':=fun c p h1 h2 h3 h4=>k c p h1 (by rintro rfl;exact h2 rfl) h3 h4
theorem Kq.but{b c:Nat}{my:AVal}{h h' h'':AHeap}(k:Kq b my h h')(p:But c h' h'')(w:WF h)(hc:c=b\/h.next<=c):Kq b my h h'':=fun d q h1 h2 h3 h4=>p.keep d (by
 rintro rfl;rcases hc with rfl|hc
 ·exact h1 rfl
 ·have:=w.lt h3;omega) q (k d q h1 h2 h3 h4)
theorem zGK{h0 hp:AHeap}{cs:List AVal}{c:Clz}(k:ClzAt h0 hp cs c):cs.all one=true/\cs.length=5:=by
 obtain⟨av,mv,rfl,h1,h2,h3⟩:=k;refine⟨?_,rfl⟩;have hm:one mv=true:=by
  by_cases hk:c.kind=3
  ·obtain⟨r,_,rfl,_⟩:=h3 hk;rfl
  ·rw[h2 hk];rfl
 simp only[clzC,List.all_cons,zAD h1.len,hm];rfl
theorem ClzAt.keep{h0 hp hq:AHeap}{cs:List AVal}{c:Clz}(k:ClzAt h0 hp cs c)(hk:∀r p,cs[3]?=some (.map (some r))->h0.next<=r->hp.objs.get r=some p->(∀ro e vs,p.2≠.cells ro e vs)->hq.objs.get r=some p):ClzAt h0 hq cs c:=by obtain⟨av,mv,rfl,h1,h2,h3⟩:=k;refine⟨av,mv,rfl,h1,h2,fun h=>?_⟩;obtain⟨r,ver,rfl,aa,ab⟩:=h3 h;exact⟨r,ver,rfl,aa,hk r _ rfl aa ab (fun _ _ _ hh=>by cases hh)⟩
def zIh(a b:List Int)(i:Nat):List Pr:=(List.range i).map fun j=>(a.getD j 0,b.getD j 0)
theorem zPe(a b:List Int)(i:Nat):zIh a b (i+1)=zIh a b i++[(a.getD i 0,b.getD i 0)]:=by simp[zIh,List.range_succ]
structure WInv(h0 h:AHeap)(b:Nat)(ov rv hv:AVal)(ws:List Pr)(wv:AVal)(hp:AHeap):Prop where
 grow:Grow h0 hp
 nx:h.next<=hp.next
 kq:Kq b (.map none) h hp
 s:∃ver,hp.objs.get b=some (ver,.cells false 56 [ov,rv,hv,wv])
 w:Built hp h0.next 40 2 wv ws.length (rowC ws)
theorem WInv.push{h0 h:AHeap}{b:Nat}{ov rv hv wv:AVal}{ws:List Pr}{hp:AHeap}{wv':AVal}{h13 h14:AHeap}{q:Pr}{v14:Nat}(I:WInv h0 h b ov rv hv ws wv hp)(w0:WF h0)(hb0:h0.next<=b){h12:AHeap}(g12:Grow hp h12)(B13:Built h13 h0.next 40 2 wv' (ws.length+1) (rowC ws++zCB q))
  (gr13:∀h,WF h->Grow h h12->h.next<=h0.next->Grow h h13) (n13:h12.next<=h13.next) (kp13:∀b p,h12.objs.get b=some p->(∀k,wv≠.slice (some (b,0)) k)->h13.objs.get b=some p) (p14:But b h13 h14) {pb:Nat×AObj} (hb13:h13.objs.get b=some pb) (hpb:∀vs,pb.2≠.cells false 40 vs) (o14:h14.objs.get b=some (v14,.cells false 56 [ov,rv,hv,wv'])):
  WInv h0 h b ov rv hv (q::ws) wv' h14:=by
 have ne:∀{c p},h12.objs.get c=some p->(∀vs,p.2≠.cells false 40 vs)->∀k,wv≠.slice (some (c,0)) k:=fun hc hp=>zAE (I.w.grow g12) hc hp;refine⟨p14.grow h0 w0 (gr13 h0 w0 (I.grow.trans g12) (Nat.le_refl _)) hb0,by have:=I.nx;have:=g12.next;have:=p14.next;omega,fun c p h1 h2 h3 h4=>?_,⟨v14,o14⟩,?_⟩
 ·have k:=g12.keep _ _ (I.kq c p h1 h2 h3 h4);exact p14.keep c h1 p (kp13 c p k (ne k fun vs hh=>h4 _ vs hh))
 ·rw[zEJ,zlC];exact zAG B13 p14 hb13 hpb
section
variable{fns:FnsT}{summ:SumT}
variable(H:Has fns summ)
include H
theorem zRs(A:Nat)(cX cY:Clz)(hX:CK A cX)(hY:CK A cY)(hlen:cX.kind=2->cY.kind=2->cX.name=cY.name->cX.args.length=cY.args.length){h0 h:AHeap}(w0:WF h0)(G:Grow h0 h){b ver:Nat}(lb:h0.next<=b){ov rv hv wv:AVal}{ws:List Pr}
  (hs:h.objs.get b=some (ver,.cells false 56 [ov,rv,hv,wv])) (hB:Built h h0.next 40 2 wv ws.length (rowC ws)) {ax mx ay my:AVal} (KX:ClzAt h0 h (clzC cX ax mx) cX) (KY:ClzAt h0 h (clzC cY ay my) cY) (hne:∀r,mx=.map (some r)->my≠.map (some r))
  (hw:ws.length+A<=2 ^ 30):
  Cl fns summ 79 [.ptr (some (b,0)),.agg (clzC cX ax mx),.agg (clzC cY ay my)] h fun r h'=>Grow h0 h'/\((∃c new wv' ver' cs,Merge cX cY c new/\new.length<=A/\r=.tuple [.agg cs,.bool true]/\ClzAt h0 h' cs c/\(cs[3]?=some mx\/cs[3]?=some my)/\h'.objs.get b=some (ver',.cells false 56 [ov,rv,hv,wv'])/\Built h' h0.next 40 2 wv' (new.reverse++ws).length (rowC (new.reverse++ws))∧
   Kq b my h h')\/(Clash cX cY/\∃cs,r=.tuple [.agg cs,.bool false]/\cs.length=5/\cs.all one=true/\Kq b my h h')):=by
 have onX:=(zGK KX).1;have onY:=(zGK KY).1;obtain⟨_,_,hq,iX,m3X,mX⟩:=KX;simp only[clzC,List.cons.injEq,and_true,true_and] at hq;obtain⟨rfl,rfl⟩:=hq;obtain⟨_,_,hq,iY,m3Y,mY⟩:=KY;simp only[clzC,List.cons.injEq,and_true,true_and] at hq;obtain⟨rfl,rfl⟩:=hq;have lX:=iX.len;have lY:=iY.len;have KX:Hid (ClzAt h0 h (clzC cX ax mx) cX):=⟨_,_,rfl,iX,m3X,mX⟩;have KY:Hid (ClzAt h0 h (clzC cY ay my) cY):=⟨_,_,rfl,iY,m3Y,mY⟩;unfold clzC at onX onY;unfold clzC;have w:=G.wf;have ht5:∀p q r s t:AVal,List.take 5 [p,q,r,s,t]=[p,q,r,s,t]:=fun _ _ _ _ _=>rfl;have kX:=Hid.mk hX.kind;have kY:=Hid.mk hY.kind;have n00:=G.next;refine H.go (fn:=F_sboth) rfl (by decide) rfl rfl ?_;unfold F_sboth;dsimp only[qQ,qE,gQ,tm,mt,lo,fa,jn,jk,jv,jb,jl,js,ji,je,jf,jx,jo,jR,jS,jC,jL];refine zAu (zAz ?_);refine zAr e1 cc w ?_;rintro b4 h1 hb4 g1' o4;have l41:=g1'.wf.lt o4;refine zAr e1 cc g1'.wf ?_;rintro b5 h2 hb5 g2' o5;have l52:=g2'.wf.lt o5;replace o4:=g2'.keep _ _ o4;refine zAM g2'.wf ?_;rintro b6 h3 hb6 g3' o6;replace o4:=g3'.keep _ _ o4;replace o5:=g3'.keep _ _ o5;have aa:=(g1'.trans g2').trans g3';have G3:=G.trans aa;have w3:=g3'.wf;have n01:=g1'.next;have n02:=g2'.next;have l4:=w3.lt o4;have l5:=w3.lt o5;have l6:=w3.lt o6;have lb3:=w.lt hs;have hs3:=aa.keep _ _ hs;have hB3:=Hid.mk (hB.grow aa);have fin:∀{v8:Nat} {h8:AHeap},But b6 h3 h8->Grow h0 h8/\(∀c p,h.objs.get c=some p->h8.objs.get c=some p)/\(h8.objs.get b=some (ver,.cells false 56 [ov,rv,hv,wv])/\Built h8 h0.next 40 2 wv ws.length (rowC ws)):=by intro v8 h8 p8;exact⟨p8.grow h0 w0 G3 (by omega),fun c p hc=>p8.keep c (by have:=w.lt hc;omega) _ (aa.keep _ _ hc),p8.keep _ (by omega) _ hs3,zAG hB3.out p8 o6 (fun vs hh=>by cases hh)⟩
 replace fin:=Hid.mk (@fin 0);by_cases k1:cX.kind=1
 ·have z1:(cX.kind==(1:Int))=true:=by simp[k1]
  replace k1:=Hid.mk k1;clear hs hB g1' g2' g3' aa;repeat refine zR ?_
  refine zAC e1 e1 cc rfl w3 o6 (by simp) onY ?_;rintro v8 h8 p8 o8;simp only[lL,Nat.reduceAdd] at o8;obtain⟨f1,f2,f3,f4⟩:=fin.out p8;replace f2:=Hid.mk f2;replace f4:=Hid.mk f4;clear fin hB3 hs3 o4 o5 o6;repeat refine zG ?_
  exact⟨f1,.inl ⟨cY,[],wv,_,clzC cY ay my,.varY k1.out,Nat.zero_le _,rfl,KY.out.keep fun r p _ _ hr _=>f2.out r p hr,.inr rfl,f3,f4.out,fun c p _ _ hc _=>f2.out c p hc⟩⟩
 by_cases k2:cY.kind=1
 ·have z1:(cX.kind==(1:Int))=false:=by simp[k1]
  have z2:(cY.kind==(1:Int))=true:=by simp[k2]
  replace k1:=Hid.mk k1;replace k2:=Hid.mk k2;clear hs hB g1' g2' g3' aa;repeat refine zR ?_
  refine zAC e1 e1 cc rfl w3 o6 (by simp) onX ?_;rintro v8 h8 p8 o8;simp only[lL,Nat.reduceAdd] at o8;obtain⟨f1,f2,f3,f4⟩:=fin.out p8;replace f2:=Hid.mk f2;replace f4:=Hid.mk f4;clear fin hB3 hs3 o4 o5 o6;repeat refine zG ?_
  exact⟨f1,.inl ⟨cX,[],wv,_,clzC cX ax mx,.varX k1.out k2.out,Nat.zero_le _,rfl,KX.out.keep fun r p _ _ hr _=>f2.out r p hr,.inl rfl,f3,f4.out,fun c p _ _ hc _=>f2.out c p hc⟩⟩
 have z1:(cX.kind==(1:Int))=false:=by simp[k1]
 have z2:(cY.kind==(1:Int))=false:=by simp[k2]
 by_cases k3:cX.kind≠cY.kind\/cX.name≠cY.name
 ·have hcl:Hid (Clash cX cY):=⟨k1,k2,by rcases k3 with h|h<;>simp[h]⟩;have hcase:((cX.kind != cY.kind)=true)\/((cX.kind != cY.kind)=false/\(!eqL cX.name cY.name)=true):=by
   by_cases hk:cX.kind=cY.kind
   ·rcases k3 with h|h
    ·exact absurd hk h
    ·refine .inr ⟨by simp[hk],?_⟩;cases he:eqL cX.name cY.name
     ·rfl
     ·exact absurd (zAx.1 he) h
   ·exact .inl (by simpa using hk)
  replace k1:=Hid.mk k1;replace k2:=Hid.mk k2;clear hs hB g1' g2' g3' aa k3;rcases hcase with hz|⟨hz,hz2⟩;all_goals
   repeat refine zR ?_
   refine zAC e1 e1 cc rfl w3 o6 (by simp) onX ?_;rintro v8 h8 p8 o8;simp only[lL,Nat.reduceAdd] at o8;obtain⟨f1,f2,_⟩:=fin.out p8;replace f2:=Hid.mk f2;clear fin hB3 hs3 o4 o5 o6;repeat refine zG ?_
   exact⟨f1,.inr ⟨hcl.out,_,rfl,rfl,onX,fun c p _ _ h3 _=>f2.out c p h3⟩⟩
 simp only[not_or,Classical.not_not] at k3;obtain⟨k3,k4⟩:=k3;have z3:(cX.kind != cY.kind)=false:=by simp[k3]
 have z4:(!eqL cX.name cY.name)=false:=by rw[zAx.2 k4];rfl
 by_cases k5:cX.kind=3
 ·have z5:(cX.kind==(3:Int))=true:=by simp[k5]
  obtain⟨rX,vX,rfl,lrX,hrX⟩:=mX k5;obtain⟨rY,vY,rfl,lrY,hrY⟩:=mY (by omega);have hXf:=hX.fields;have e36:(2:Nat) ^ 36=68719476736:=by decide
  have e30:(2:Nat) ^ 30=1073741824:=by decide
  have lrY':=w.lt hrY;have hob:=zNW H cX cY k5 (by omega) k4 hX.nodup hY.nodup (hY.noargs (by omega)) w0 G3 (b:=b) (rX:=rX) (rY:=rY) (fun e=>hne rX rfl (by rw[e])) lb lrY hs3 hB3.out (aa.keep _ _ hrX) (aa.keep _ _ hrY) (by omega) ax ay (zAD lX) (zAD lY);unfold clzC at hob;replace hob:=Hid.mk hob;have iY':=Hid.mk iY;have hk0:Hid (Kp b rY h h3):=⟨.grow aa⟩;have na:=Hid.mk (hY.noargs (by omega));replace k1:=Hid.mk k1;replace k2:=Hid.mk k2;replace k3:=Hid.mk k3;replace k4:=Hid.mk k4;replace k5:=Hid.mk k5;clear hs hB g1' g2' g3' aa fin KX KY hB3 hrX hrY mX mY iX iY m3X m3Y onX onY hne;repeat refine zR ?_
  refine zAL s1 (hob.out.mono ?_);rintro _ h7 ⟨G7,kp7,⟨c,new,wv',ver',hm,hnl,rfl,hs7,hB7,⟨vy',hy7⟩,kc⟩|⟨hcl,cs,rfl,hcs,hco⟩⟩
  ·have o6':=kp7 b6 _ (by omega) (by omega) o6 (by intro _ _ hh;cases hh);have hones:(clzC c ay (.map (some rY))).all one=true:=by simp only[clzC,List.all_cons,zAD lY];rfl
   have hac:c.args=[]:=by
    cases hm with
    |varY k=>exact absurd k k1.out
    |varX _ k=>exact absurd k k2.out
    |con k=>have:=k5.out;omega
    |obj _ _ _ _ _ k=>exact k
   unfold clzC at hones;replace hm:=Hid.mk hm;replace hac:=Hid.mk hac;replace kc:=Hid.mk kc;replace kp7:=Hid.mk kp7;replace hB7:=Hid.mk hB7;clear o4 o5 o6 hs3 hob;repeat refine zR ?_
   refine zAC e1 e1 cc rfl G7.wf o6' (by simp) hones ?_;rintro v8 h8 p8 o8;simp only[lL,Nat.reduceAdd] at o8;have hs8:=p8.keep b (by omega) _ hs7;have hy8:=p8.keep rY (by rintro rfl;rw[hy7] at o6';cases o6') _ hy7;have hB8:=Hid.mk (zAG hB7.out p8 o6' (fun vs hh=>by cases hh));have hk8:=Hid.mk ((Kq.of (hk0.out.trans kp7.out)).but p8 w (.inr (by omega)));have G8:=p8.grow h0 w0 G7 (by omega);clear o6' hs7 hy7 hB7;repeat refine zG ?_
   exact⟨G8,.inl ⟨c,new,wv',ver',clzC c ay (.map (some rY)),hm.out,by omega,rfl,⟨ay,_,rfl,by rw[hac.out,<-na.out];exact iY'.out,fun h=>absurd kc.out h,fun _=>⟨rY,_,rfl,lrY,hy8⟩⟩,.inr rfl,hs8,hB8.out,hk8.out⟩⟩
  ·have o6':=kp7 b6 _ (by omega) (by omega) o6 (by intro _ _ hh;cases hh);replace hcl:=Hid.mk hcl;replace kp7:=Hid.mk kp7;clear o4 o5 o6 hs3 hob;repeat refine zR ?_
   refine zAC e1 e1 cc hcs G7.wf o6' (by simp[hcs]) hco ?_;rintro v8 h8 p8 o8;rw[hcs] at o8;simp only[lL,Nat.reduceAdd] at o8;have G8:=p8.grow h0 w0 G7 (by omega);have hk8:=Hid.mk ((Kq.of (hk0.out.trans kp7.out)).but p8 w (.inr (by omega)));have hres:zAk (some 5) cs 0=some (.agg cs):=by rw[zAk,if_pos (by omega),zlZ,List.take_of_length_le (by omega)]
   clear o6';repeat refine zG ?_
   exact⟨G8,.inr ⟨hcl.out,cs,by rw[List.take_of_length_le (by omega)],hcs,hco,hk8.out⟩⟩
 ·have z5:(cX.kind==(3:Int))=false:=by simp[k5]
  have kX2:cX.kind=2:=by have:=kX.out;omega
  have kY2:cY.kind=2:=by omega
  have hl:=hlen kX2 kY2 k4;obtain rfl:=m3X k5;have hXa:=hX.args;have hcon:Hid (Merge cX cY cX ((List.range cX.args.length).map fun i=>(cX.args.getD i 0,cY.args.getD i 0))):=⟨.con kX2 kY2 k4⟩;have I0:WInv h0 h3 b ov rv hv ((zIh cX.args cY.args 0).reverse++ws) wv h3:=⟨G3,Nat.le_refl _,fun c p _ _ k _=>k,⟨ver,hs3⟩,hB3.out⟩;have hk0:Hid (Kq b my h h3):=⟨.grow aa⟩;have g0:=G.trans aa;replace k1:=Hid.mk k1;replace k2:=Hid.mk k2;replace k3:=Hid.mk k3;replace k4:=Hid.mk k4;replace k5:=Hid.mk k5;replace kX2:=Hid.mk kX2;replace kY2:=Hid.mk kY2;have e30:(2:Nat) ^ 30=1073741824:=by decide
  have e31:(2:Nat) ^ 31=2147483648:=by decide
  have o4':=Hid.mk o4;have o5':=Hid.mk o5;have o6':=Hid.mk o6;clear hs hB g1' g2' g3' aa fin KY hB3 hs3 mX mY m3X m3Y onY hne;repeat refine zR ?_
  clear o4 o5 o6;refine zAp (N:=cX.args.length) (fun j a hp=>(∃wv,WInv h0 h3 b ov rv hv ((zIh cX.args cY.args j).reverse++ws) wv hp)/\a.defers=[]/\ev a (.tmp 0)=some (.ptr (some (b,0)))/\ev a (.tmp 4)=some (.ptr (some (b4,0)))/\ev a (.tmp 5)=some (.ptr (some (b5,0)))/\ev a (.tmp 6)=some (.ptr (some (b6,0)))) ?_ ?_ ⟨⟨wv,I0⟩,n1,e1,e1,e1,e1⟩
  ·clear I0;rintro j a hp hj ⟨⟨wv,I⟩,hd,t0',t4',t5',t6'⟩ hi hn;obtain⟨vs,os⟩:=I.s;have o4p:=I.kq b4 _ (by omega) (by intro hh;cases hh) o4'.out (by intro _ _ hh;cases hh);have o5p:=I.kq b5 _ (by omega) (by intro hh;cases hh) o5'.out (by intro _ _ hh;cases hh);obtain⟨bb,ob,verb,rb,eb,vsb,hix,hget',hvo⟩:=iX.at (zgG hj);have hj':j<cY.args.length:=by omega
   obtain⟨bb',ob',verb',rb',eb',vsb',hix',ac,hvo'⟩:=iY.at (zgG hj');have hget:=I.grow.keep _ _ hget';have hgetb:=I.grow.keep _ _ ac;have hzl:(zIh cX.args cY.args j).length=j:=by simp[zIh]
   have hroom:=Hid.mk (zSe (k:=((zIh cX.args cY.args j).reverse++ws).length+1) (by
    have e37:(2:Nat) ^ 37=137438953472:=by decide
    simp only[zgL,List.length_reverse,hzl];omega))
   have hput:Hid ((zIh cX.args cY.args (j+1)).reverse++ws=(cX.args[j],cY.args[j])::((zIh cX.args cY.args j).reverse++ws)):=⟨by
    rw[zPe,List.reverse_append,List.reverse_singleton,List.singleton_append,zlK,List.getD,List.getD,zgG hj,zgG hj'];rfl⟩
   replace hget':=Hid.mk hget';replace ac:=Hid.mk ac;clear hzl;repeat refine zR ?_
   refine zAS (zAT e1 (cs:=[.int .i64 cX.args[j],.int .i64 cY.args[j]]) rfl rfl rfl I.grow.wf ?_);rintro bx h12 hbx ab ox;have k4:=ab.keep _ _ o4p;have k5:=ab.keep _ _ o5p;have k6:=ab.keep _ _ os;have k7:=ab.keep _ _ hget;have k8:=ab.keep _ _ hgetb;refine zAK ⟨by simp[zAJ,Nat.testBit,k4,k5,k6,k7,k8],?_⟩;refine zAS (zAZ e1 e1 (I.w.grow ab) ox rfl rfl hroom.out ab.wf (by have:=I.grow.next;have:=ab.next;omega) ?_);rintro wv' h13 B13 f13 w13 n13 gr13 kp13;have os13:=kp13 _ _ k6 (zAE (I.w.grow ab) k6 fun vs hh=>by cases hh);have k4':=kp13 _ _ k4 (zAE (I.w.grow ab) k4 fun vs hh=>by cases hh);have k5':=kp13 _ _ k5 (zAE (I.w.grow ab) k5 fun vs hh=>by cases hh);have k7':=(gr13 h0 w0 (I.grow.trans ab) (Nat.le_refl _)).keep _ _ hget'.out;have k8':=(gr13 h0 w0 (I.grow.trans ab) (Nat.le_refl _)).keep _ _ ac.out;refine zAK ⟨by simp[zAJ,Nat.testBit,os13,k4',k5',k7',k8'],?_⟩;clear os o4p o5p hget hgetb k4 k5 k6 k7 k8 k4' k5' k7' k8' ox hix hix' hvo hvo';repeat refine zR ?_
   refine zAS (zAC e1 e1 (zAO B13.len) rfl w13 os13 (by simp) (by simp only[List.all_cons,List.all_nil,zAD B13.len,Bool.and_true]) ?_);rintro v14 h14 p14 o14;simp only[lL,Nat.reduceAdd] at o14;refine zAK ⟨by simp[zAJ,Nat.testBit],?_⟩;have I14:=I.push w0 lb ab (q:=(cX.args[j],cY.args[j])) B13 gr13 n13 kp13 p14 os13 (fun vs hh=>by cases hh) o14;rw[<-hput.out] at I14;clear os13 o14 B13 kp13 gr13 I;repeat refine zR ?_
   exact⟨⟨⟨_,I14⟩,n1,e1,e1,e1,e1⟩,e1,e1⟩
  ·clear I0;rintro a hp ⟨⟨wv,I⟩,hd,t0',t4',t5',t6'⟩;obtain⟨vs,os⟩:=I.s;have o4p:=I.kq b4 _ (by omega) (by intro hh;cases hh) o4'.out (by intro _ _ hh;cases hh);have o6p:=I.kq b6 _ (by omega) (by intro hh;cases hh) o6'.out (by intro _ _ hh;cases hh);have w9:=I.grow.wf;have hB:=Hid.mk I.w;repeat refine zR ?_
   refine zAC e1 e1 cc rfl w9 o6p (by simp) onX ?_;rintro v8 h8 p8 o8;simp only[lL,Nat.reduceAdd] at o8;have os8:=p8.keep b (by omega) _ os;have hB8:=Hid.mk (zAG hB.out p8 o6p (fun vs hh=>by cases hh));have kq8:Hid (Kq b my h h8):=⟨(hk0.out.trans fun c p h1 _ h3 h4=>I.kq c p h1 (by intro hh;cases hh) h3 h4).but p8 w (.inr (by omega))⟩;have G8:=p8.grow h0 w0 I.grow (by omega);clear o4p o6p I hB os;repeat refine zG ?_
   exact⟨G8,.inl ⟨cX,_,wv,_,clzC cX ax (.map none),hcon.out,by rw[List.length_map,List.length_range];exact hXa,rfl,⟨ax,_,rfl,iX,fun _=>rfl,fun h=>absurd h k5.out⟩,.inl rfl,os8,hB8.out,kq8.out⟩⟩
end
end Go.Ab.S
end
section
namespace Go.Ab.S
open Go Go.Ab
def ErrAt(h:AHeap)(r:AVal):Prop:=∃bj vj be ve vs b1 b2,r=.iface 201 (.ptr (some (bj,0)))/\h.objs.get bj=some (vj,.cells false 203 [.slice (some (be,0)) 2])/\h.objs.get be=some (ve,.cells false 60 vs)/\vs.take 2=[.iface 204 (.ptr (some (b1,0))),.iface 57 (.ptr (some (b2,0)))]
section
variable{fns:FnsT}{summ:SumT}{ro:Option Nat}
theorem zLt{d:Option Tmp}{e:TypeId}{bytes n:Nat}{z:AVal}{y:AOpd}{l:List Step}{a:AAct}{h:AHeap}{K:AAct->AHeap->Prop}(hy:ev a y=some (.int .i64 (n:Nat)))(hn:n<=2 ^ 30)(hr:zCd bytes n=true)(w:WF h)
  (k:∀b h',h.next<=b->Grow h h'->h'.objs.get b=some (b,.cells false e (List.replicate n z))->St fns summ ro l (putA a d (.slice (some (b,0)) 0)) h' K):St fns summ ro (⟨d,none,.e (.mkslice e 1 bytes [z] (.val (.int .i64 0)) y)⟩::l) a h K:=by
 refine st_t (by intro _ _ hh;cases hh) (by intro _ _ hh;cases hh) (v:=.slice (some (h.next,0)) 0) (h':=newA h (.cells false e (List.replicate n z))) ?_ (k _ _ (Nat.le_refl _) ((Grow.refl w).new _) (zAQ _ _));have h1:zCC (.int .i64 (n:Nat))=some n:=by simp[zCC]
 have h2:zCC (.int .i64 0)=some 0:=by simp[zCC]
 have aa:(2:Nat) ^ 30<=2 ^ 40:=by decide
 have hc:0<=n/\n<=2 ^ 40/\zCd bytes n=true:=⟨Nat.zero_le _,Nat.le_trans hn aa,hr⟩;simp only[zBP,hy,zAw,h1,h2,if_pos hc,zLn]
variable(H:Has fns summ)
include H
theorem zON(s:List Nat)(h:AHeap)(hw:WF h):Cl fns summ 81 [.str s] h fun r h'=>∃b,r=.iface 204 (.ptr (some (b,0)))/\Grow h h':=by
 refine H.go (fn:=F_errNew) rfl (by decide) rfl rfl ?_;unfold F_errNew;dsimp only[qQ,tm,mt,jo,jR,jS];repeat refine zR ?_
 refine zAr e1 cc hw ?_;rintro b h1 hb aa o1;clear o1;repeat refine zG ?_
 exact⟨b,rfl,aa⟩
theorem zNI(x y:AVal)(hx:∃t v,x=.iface t v)(hy:∃t v,y=.iface t v)(ba ver:Nat)(rb:Bool)(eb:TypeId)(h:AHeap)(hw:WF h)(ha:h.objs.get ba=some (ver,.cells rb eb [x,y])):
  Cl fns summ 80 [.slice (some (ba,0)) 2] h fun r h'=>Grow h h'/\∃bj vj be ve vs,r=.iface 201 (.ptr (some (bj,0)))/\h'.objs.get bj=some (vj,.cells false 203 [.slice (some (be,0)) 2])/\h'.objs.get be=some (ve,.cells false 60 vs)/\vs.take 2=[x,y]:=by
 have ae:∀j:Nat,j<2->∃t v,([x,y]:List AVal)[j]?=some (.iface t v)/\([x,y]:List AVal).take (j+1)=([x,y]:List AVal).take j++[.iface t v]:=by
  obtain⟨t,v,rfl⟩:=hx;obtain⟨t',v',rfl⟩:=hy;intro j hj
  match j,hj with
  |0,_=>exact⟨t,v,rfl,rfl⟩
  |1,_=>exact⟨t',v',rfl,rfl⟩
 replace ae:=Hid.mk ae;have al:∀j:Nat,j<2->slA (.slice (some (ba,0)) 2) 1 j=some (ba,j):=fun j hj=>by simp[slA,hj]
 replace al:=Hid.mk al;generalize hvs:([x,y]:List AVal)=l at ha ae;have hln:lenO (.slice (some (ba,0)) 2)=some 2:=rfl;have hxo:(true ^^ false)=true:=rfl;refine H.go (fn:=F_errJoin) rfl (by decide) rfl rfl ?_;unfold F_errJoin;dsimp only[qQ,qE,vi,tm,mt,lo,fa,jk,jv,js,ji,je,jo,jR,jS,jC,jL];repeat refine zR ?_
 refine zAp (N:=2) (fun j a hp=>hp=h/\a.defers=[]/\ev a (.tmp 0)=some (.slice (some (ba,0)) 2)/\ev a (.tmp 9)=some (.slice (some (ba,0)) 2)/\ev a (.tmp 3)=some (.int .i64 (j:Nat))) ?_ ?_ ⟨rfl,n1,e1,e1,e1⟩ (hN:=by decide)
 ·rintro j a hp hj ⟨rfl,hd,ao,t9',aq⟩ hi hn;obtain⟨t,v,hlj,_⟩:=ae.out j hj;have hixj:=al.out j hj;have hw1:IntKind.i64.wrap (((j:Nat):Int)+1)=((j+1:Nat):Int):=by
   rw[zAa (by omega) (by omega)];simp
  repeat refine zR ?_
  exact⟨⟨rfl,n1,e1,e1,e1⟩,e1,e1⟩
 ·rintro a hp ⟨rfl,hd,ao,t9',aq⟩;clear t9';have z0:((((2:Nat):Int))==(0:Int))=false:=by decide
  have aa:=zBN H (b:=16) (k:=2) (by decide) (by decide);repeat refine zR ?_
  refine zLt e1 (by decide) aa hw ?_;rintro be h1 hbe ad o1
  skip
  refine st_q (v:=.agg [.slice (some (be,0)) 0]) (b:=none) (by rw[zBF];simp only[zCV,zAl,zAo,zAw,if_true,if_false,Nat.reduceEqDiff,zAb];rfl) ?_;refine zAr e1 cc ad.wf ?_;rintro bj h2 hbj ak o2;have aj:=ad.trans ak;have B0:Built h2 hp.next 60 1 (.slice (some (be,0)) 0) 0 (l.take 0):=.inr (.inr ⟨be,_,_,hbe,rfl,ak.keep _ _ o1,by simp,by simp⟩);have ha2:=aj.keep _ _ ha;have lbe:=ad.wf.lt o1;have lbj:=ak.wf.lt o2;have n01:=ad.next;clear o1 ad ak;repeat refine zR ?_
  refine zAp (N:=2) (fun j a hq=>Grow hp hq/\(∃ver ac,hq.objs.get bj=some (ver,.cells false 203 [ac])/\Built hq hp.next 60 1 ac j (l.take j))/\a.defers=[]/\ev a (.tmp 26)=some (.slice (some (ba,0)) 2)/\ev a (.tmp 6)=some (.ptr (some (bj,0)))) ?_ ?_ ⟨aj,⟨_,_,o2,B0⟩,n1,e1,e1⟩ (hN:=by decide)
  ·clear aj B0 ha2 o2 hd ao aq z0 aa;rintro j a hq hj ⟨gq,⟨ver,ac,oj,B⟩,hd,t26',t6'⟩ hi hn;obtain⟨t,v,hlj,htk⟩:=ae.out j hj;have hixj:=al.out j hj;have haq:=gq.keep _ _ ha;have e31:(2:Nat) ^ 31=2147483648:=by decide
   have aa:=zBN H (b:=16) (k:=j+1) (by decide) (by omega);repeat refine zR ?_
   refine zAT e1 (cs:=[.iface t v]) rfl rfl rfl gq.wf ?_;rintro bx h12 hbx ab ox;refine zAZ e1 e1 (B.grow ab) ox rfl rfl aa ab.wf (by have:=gq.next;have:=ab.next;omega) ?_;rintro ew h13 ai f13 w13 n13 am an;have ah:=an _ _ (ab.keep _ _ oj) (zAE (B.grow ab) (ab.keep _ _ oj) fun vs hh=>by cases hh);clear ox oj haq;repeat refine zR ?_
   refine zAC e1 e1 (zAO ai.len) rfl w13 ah (by simp) (by simp only[List.all_cons,List.all_nil,zAD ai.len,Bool.and_true]) ?_;rintro v14 h14 p14 o14;simp only[lL,Nat.reduceAdd] at o14;have G14:Grow hp h14:=p14.grow hp hw (am hp hw (gq.trans ab) (Nat.le_refl _)) (by omega);have B14:Built h14 hp.next 60 1 ew (j+1) (l.take (j+1)):=by rw[htk];exact zAG ai p14 ah fun vs hh=>by cases hh
   clear ah an am ai B;repeat refine zR ?_
   exact⟨⟨G14,⟨_,_,o14,B14⟩,n1,e1,e1⟩,e1,e1⟩
  ·clear aj B0 ha2 o2 hd ao aq z0 aa;rintro a hq ⟨gq,⟨ver,ac,oj,B⟩,hd,t26',t6'⟩;have af:∃be ve vs,ac=.slice (some (be,0)) 2/\hq.objs.get be=some (ve,.cells false 60 vs)/\vs.take 2=l:=by
    rcases B with⟨_,h0,_⟩|⟨_,h0,_⟩|⟨b,vs,ver,_,h1,h2,h3,h4⟩
    ·cases h0
    ·cases h0
    ·refine⟨b,ver,vs,h1,h2,?_⟩;rw[Nat.mul_one] at h4;rw[h4,<-hvs];rfl
   replace af:=Hid.mk af;clear B;repeat refine zG ?_
   obtain⟨be,ve,vs,rfl,k1,k2⟩:=af.out;exact⟨gq,bj,_,be,ve,vs,rfl,oj,k1,by rw[k2]⟩
end
end Go.Ab.S
end
section
namespace Go.Ab.S
open Go Go.Ab
theorem zMn{vs cs:List AVal}{o:Nat}(h:o+cs.length<=vs.length)(i:Nat):(vs.take o++cs++vs.drop (o+cs.length))[i]?=if o<=i/\i<o+cs.length then cs[i - o]? else vs[i]?:=by
 have ho:(vs.take o).length=o:=by rw[List.length_take];omega
 rcases Nat.lt_or_ge i o with h1|h1
 ·rw[if_neg (by omega),List.append_assoc,List.getElem?_append_left (by omega),List.getElem?_take,if_pos h1]
 ·rcases Nat.lt_or_ge i (o+cs.length) with h2|h2
  ·rw[if_pos ⟨h1,h2⟩,List.append_assoc,List.getElem?_append_right (by omega),ho,List.getElem?_append_left (by omega)]
  ·rw[if_neg (by omega),List.getElem?_append_right (by rw[zgL];omega),zgL,ho,List.getElem?_drop];congr 1;omega
theorem zQl{vs cs:List AVal}{o:Nat}(h:o+cs.length<=vs.length):(vs.take o++cs++vs.drop (o+cs.length)).length=vs.length:=by simp only[zgL,List.length_take,List.length_drop];omega
def RowK(h:AHeap)(b N:Nat)(hc:List (List AVal)):Prop:=hc.length=N/\∃ver vs,h.objs.get b=some (ver,.cells false 68 vs)/\N*5<=vs.length/\∀i c,hc[i]?=some c->c.length=5/\∀k,k<5->vs[i*5+k]?=c[k]?
theorem zJw{vs:List AVal}{c:List AVal}{o:Nat}(hc:c.length=5)(hk:∀k,k<5->vs[o+k]?=c[k]?):(vs.drop o).take 5=c:=by
 apply List.ext_getElem?;intro k;rw[List.getElem?_take];split
 ·rename_i h;rw[List.getElem?_drop];exact hk k h
 ·rename_i h;rw[List.getElem?_eq_none (by omega)]
theorem zQr{vs:List AVal}{hc:List (List AVal)}{N:Nat}{c':List AVal}{x:Nat}(hx:x<N)(hN:hc.length=N)(hl:N*5<=vs.length)(h:∀i c,hc[i]?=some c->c.length=5/\∀k,k<5->vs[i*5+k]?=c[k]?)(hc':c'.length=5):
  N*5<=(vs.take (x*5)++c'++vs.drop (x*5+c'.length)).length/\∀i c,(hc.set x c')[i]?=some c->c.length=5/\∀k,k<5->(vs.take (x*5)++c'++vs.drop (x*5+c'.length))[i*5+k]?=c[k]?:=by
 have aa:x*5+c'.length<=vs.length:=by omega
 refine⟨by rw[zQl aa];exact hl,fun i c hi=>?_⟩;rw[List.getElem?_set] at hi;by_cases ab:x=i
 ·subst ab;rw[if_pos rfl,if_pos (by omega),oI] at hi;subst hi;refine⟨hc',fun k hk=>?_⟩;rw[zMn aa,if_pos ⟨by omega,by omega⟩];congr 1;omega
 ·rw[if_neg ab] at hi;obtain⟨h1,h2⟩:=h i c hi;refine⟨h1,fun k hk=>?_⟩;rw[zMn aa,if_neg (by omega)];exact h2 k hk
structure SX(E:Nat->Prop)(h0:AHeap)(b N:Nat)(on rk:List Int)(rt:Int->Int)(has:Int->Clz)(ws:List Pr)(bo br bh:Nat)(wv:AVal)(hc:List (List AVal))(hp:AHeap):Prop where
 grow:Grow h0 hp
 low:h0.next<=b/\h0.next<=bo/\h0.next<=br/\h0.next<=bh
 ne:bo≠br
 s:∃ver,hp.objs.get b=some (ver,.cells false 56 [.slice (some (bo,0)) N,.slice (some (br,0)) N,.slice (some (bh,0)) N,wv])
 on:RowI hp bo N on
 rk:RowI hp br N rk
 hs:RowK hp bh N hc
 w:Built hp h0.next 40 2 wv ws.length (rowC ws)
 cls:∀i:Nat,i<N->rt (i:Int)=(i:Int)->¬E i->∃c,hc[i]?=some c/\ClzAt h0 hp c (has (i:Int))
 ap:∀i j:Nat,i<N->j<N->i≠j->rt (i:Int)=(i:Int)->rt (j:Int)=(j:Int)->∀c d r,hc[i]?=some c->hc[j]?=some d->c[3]?=some (.map (some r))->d[3]?≠some (.map (some r))
section
variable{E:Nat->Prop}{h0:AHeap}{b N:Nat}{on rk:List Int}{rt:Int->Int}{has:Int->Clz}{ws:List Pr}{bo br bh:Nat}{wv:AVal}{hc:List (List AVal)}{hp hq:AHeap}
theorem SX.bne(S:SX E h0 b N on rk rt has ws bo br bh wv hc hp):b≠bo/\b≠br/\b≠bh/\bo≠bh/\br≠bh:=by
 obtain⟨v,s⟩:=S.s;obtain⟨v1,aa,o1,_⟩:=S.on;obtain⟨v2,ab,o2,_⟩:=S.rk;obtain⟨_,v3,ac,o3,_⟩:=S.hs;refine⟨?_,?_,?_,?_,?_⟩<;>rintro rfl
 ·rw[s] at o1;cases o1
 ·rw[s] at o2;cases o2
 ·rw[s] at o3;cases o3
 ·rw[o1] at o3;cases o3
 ·rw[o2] at o3;cases o3
theorem SX.lt(S:SX E h0 b N on rk rt has ws bo br bh wv hc hp):b<hp.next/\bo<hp.next/\br<hp.next/\bh<hp.next:=by obtain⟨v,s⟩:=S.s;obtain⟨v1,aa,o1,_⟩:=S.on;obtain⟨v2,ab,o2,_⟩:=S.rk;obtain⟨_,v3,ac,o3,_⟩:=S.hs;exact⟨S.grow.wf.lt s,S.grow.wf.lt o1,S.grow.wf.lt o2,S.grow.wf.lt o3⟩
theorem SX.stay(S:SX E h0 b N on rk rt has ws bo br bh wv hc hp)(G:Grow h0 hq)(k:∀c p,h0.next<=c->hp.objs.get c=some p->(c=b\/c=bo\/c=br\/c=bh\/∀ro e vs,p.2=.cells ro e vs->e=40)->hq.objs.get c=some p):SX E h0 b N on rk rt has ws bo br bh wv hc hq:=by obtain⟨l1,l2,l3,l4⟩:=S.low;obtain⟨v,s⟩:=S.s;obtain⟨v1,ad,o1,aa⟩:=S.on;obtain⟨v2,ae,o2,ab⟩:=S.rk;obtain⟨kl,v3,af,o3,ac⟩:=S.hs;refine⟨G,S.low,S.ne,⟨v,k _ _ l1 s (.inl rfl)⟩,⟨v1,ad,k _ _ l2 o1 (.inr (.inl rfl)),aa⟩,⟨v2,ae,k _ _ l3 o2 (.inr (.inr (.inl rfl))),ab⟩,⟨kl,v3,af,k _ _ l4 o3 (.inr (.inr (.inr (.inl rfl)))),ac⟩,zAR S.w fun c p hb hc ⟨vs,hp⟩=>k c p hb hc (.inr (.inr (.inr (.inr fun ro e vs' hh=>by rw[hp] at hh;cases hh;rfl)))),fun i hi hr hE=>?_,S.ap⟩;obtain⟨c,h1,h2⟩:=S.cls i hi hr hE;exact⟨c,h1,h2.keep fun r p _ hl hp hn=>k r p hl hp (.inr (.inr (.inr (.inr fun ro e vs hh=>absurd hh (hn ro e vs)))))⟩
theorem SX.other(S:SX E h0 b N on rk rt has ws bo br bh wv hc hp)(g:Grow hp hq):SX E h0 b N on rk rt has ws bo br bh wv hc hq:=S.stay (S.grow.trans g) fun c p _ h _=>g.keep c p h
theorem SX.side{c:Nat}{p:Nat×AObj}(S:SX E h0 b N on rk rt has ws bo br bh wv hc hp)(w0:WF h0)(q:But c hp hq)(hcp:hp.objs.get c=some p)(hl:h0.next<=c)(hn:c≠b/\c≠bo/\c≠br/\c≠bh)(he:∃ro e vs,p.2=.cells ro e vs/\e≠40):SX E h0 b N on rk rt has ws bo br bh wv hc hq:=
 S.stay (q.grow h0 w0 S.grow hl) fun d x _ hd hx=>q.keep d (by
  rintro rfl;rw[hcp] at hd;cases hd;rcases hx with rfl|rfl|rfl|rfl|hx
  ·exact hn.1 rfl
  ·exact hn.2.1 rfl
  ·exact hn.2.2.1 rfl
  ·exact hn.2.2.2 rfl
  ·obtain⟨ro,e,vs,h1,h2⟩:=he;exact h2 (hx ro e vs h1)) x hd
theorem SX.onto(S:SX E h0 b N on rk rt has ws bo br bh wv hc hp)(w0:WF h0)(q:But bo hp hq){on':List Int}(ho:RowI hq bo N on'):SX E h0 b N on' rk rt has ws bo br bh wv hc hq:=by obtain⟨l1,l2,l3,l4⟩:=S.low;obtain⟨aa,n2',n3',ab,n5'⟩:=S.bne;obtain⟨v,s⟩:=S.s;obtain⟨v1,vs1,o1,q1'⟩:=S.on;obtain⟨v2,ae,o2,ac⟩:=S.rk;obtain⟨kl,v3,af,o3,ad⟩:=S.hs;refine⟨q.grow h0 w0 S.grow l2,S.low,S.ne,⟨v,q.keep _ aa _ s⟩,ho,⟨v2,ae,q.keep _ (Ne.symm S.ne) _ o2,ac⟩,⟨kl,v3,af,q.keep _ (Ne.symm ab) _ o3,ad⟩,zAG S.w q o1 (fun vs hh=>by cases hh),fun i hi hr hE=>?_,S.ap⟩;obtain⟨c,h1,h2⟩:=S.cls i hi hr hE;exact⟨c,h1,h2.keep fun r p _ hl hp hn=>q.keep r (by rintro rfl;rw[o1] at hp;cases hp;exact hn _ _ _ rfl) p hp⟩
theorem SX.ranks(S:SX E h0 b N on rk rt has ws bo br bh wv hc hp)(w0:WF h0)(q:But br hp hq){rk':List Int}(ho:RowI hq br N rk'):SX E h0 b N on rk' rt has ws bo br bh wv hc hq:=by obtain⟨l1,l2,l3,l4⟩:=S.low;obtain⟨n1',aa,n3',n4',ab⟩:=S.bne;obtain⟨v,s⟩:=S.s;obtain⟨v1,ae,o1,ac⟩:=S.on;obtain⟨v2,vs2,o2,q2'⟩:=S.rk;obtain⟨kl,v3,af,o3,ad⟩:=S.hs;refine⟨q.grow h0 w0 S.grow l3,S.low,S.ne,⟨v,q.keep _ aa _ s⟩,⟨v1,ae,q.keep _ S.ne _ o1,ac⟩,ho,⟨kl,v3,af,q.keep _ (Ne.symm ab) _ o3,ad⟩,zAG S.w q o2 (fun vs hh=>by cases hh),fun i hi hr hE=>?_,S.ap⟩;obtain⟨c,h1,h2⟩:=S.cls i hi hr hE;exact⟨c,h1,h2.keep fun r p _ hl hp hn=>q.keep r (by rintro rfl;rw[o2] at hp;cases hp;exact hn _ _ _ rfl) p hp⟩
theorem SX.both{x y:Nat}(S:SX (fun _=>False) h0 b N on rk rt has ws bo br bh wv hc hp)(G:Grow h0 hq){my wv':AVal}{ws':List Pr}{ver:Nat}(kq:Kq b my hp hq)(hs:hq.objs.get b=some (ver,.cells false 56 [.slice (some (bo,0)) N,.slice (some (br,0)) N,.slice (some (bh,0)) N,wv']))(hB:Built hq h0.next 40 2 wv' ws'.length (rowC ws'))
  {cx:List AVal} (hx:x<N) (kx:rt (x:Int)=x) (hcx:hc[x]?=some cx) (hmy:cx[3]?=some my):SX (fun i=>i=x\/i=y) h0 b N on rk rt has ws' bo br bh wv' hc hq:=by
 obtain⟨af,ah,ai,n4',n5'⟩:=S.bne;obtain⟨v1,am,o1,aj⟩:=S.on;obtain⟨v2,an,o2,ak⟩:=S.rk;obtain⟨kl,v3,ao,o3,al⟩:=S.hs;have nm:∀{c:Nat} {p:Nat×AObj},hp.objs.get c=some p->(∃ro e vs,p.2=.cells ro e vs)->my≠.map (some c):=by
  intro c p ae ⟨ro,e,vs,he⟩ hh;obtain⟨d,h1,h2⟩:=S.cls x hx kx (fun h=>h);rw[hcx] at h1;cases h1;obtain⟨av,mv,rfl,_,h3,h4⟩:=h2;have ac:mv=my:=by simpa[clzC] using hmy
  by_cases hk:(has x).kind=3
  ·obtain⟨r,v,hr,_,ad⟩:=h4 hk;rw[ac,hh] at hr;cases hr;rw[ae] at ad;cases ad;cases he
  ·rw[<-ac,h3 hk] at hh;cases hh
 have aa:∀{c v:Nat} {ro:Bool} {e:TypeId} {vs:List AVal},hp.objs.get c=some (v,.cells ro e vs)->c≠b->e≠40->hq.objs.get c=some (v,.cells ro e vs):=fun h hb he=>kq _ _ hb (nm h ⟨_,_,_,rfl⟩) h fun ro vs hh=>by cases hh;exact he rfl
 refine⟨G,S.low,S.ne,⟨ver,hs⟩,⟨v1,am,aa o1 (Ne.symm af) (by decide),aj⟩,⟨v2,an,aa o2 (Ne.symm ah) (by decide),ak⟩,⟨kl,v3,ao,aa o3 (Ne.symm ai) (by decide),al⟩,hB,fun i hi hr hE=>?_,S.ap⟩;obtain⟨c,h1,h2⟩:=S.cls i hi hr (fun h=>h);simp only[not_or] at hE;refine⟨c,h1,h2.keep fun r p hm hl ab hn=>kq r p ?_ ?_ ab fun ro vs hh=>hn _ _ _ hh⟩
 ·rintro rfl;obtain⟨v,s⟩:=S.s;rw[s] at ab;cases ab;exact hn _ _ _ rfl
 ·intro hh;exact S.ap i x hi hx hE.1 hr kx c cx r h1 hcx hm (by rw[hmy,hh])
theorem SX.link{x y:Nat}{hr:AHeap}(S:SX (fun i=>i=x\/i=y) h0 b N on rk rt has ws bo br bh wv hc hp)(w0:WF h0)(hx:x<N)(hy:y<N)(hxy:x≠y)(kx:rt (x:Int)=x)(ky:rt (y:Int)=y){on':List Int}(q:But bo hp hq)(ho:RowI hq bo N on')(q':But bh hq hr){cs cx cy:List AVal}{c:Clz}(hcx:hc[x]?=some cx)(hcy:hc[y]?=some cy)
  (hk:RowK hr bh N (hc.set x cs)) (hn:ClzAt h0 hp cs c) (hm:cs[3]?=cy[3]?\/cs[3]?=cx[3]?):SX (fun _=>False) h0 b N on' rk (fun a=>if rt a=(y:Int) then (x:Int) else rt a) (fun r=>if r=(x:Int) then c else has r) ws bo br bh wv (hc.set x cs) hr:=by
 have S1:=S.onto w0 q ho;obtain⟨l1,l2,l3,l4⟩:=S1.low;obtain⟨n1',n2',n3',n4',n5'⟩:=S1.bne;obtain⟨v,s⟩:=S1.s;obtain⟨v1,vs1,o1,q1'⟩:=S1.on;obtain⟨v2,vs2,o2,q2'⟩:=S1.rk;obtain⟨kl,v3,vs3,o3,q3'⟩:=S1.hs;obtain⟨_,_,o1p,_⟩:=S.on;have root:∀{i:Nat},(if rt (i:Int)=(y:Int) then (x:Int) else rt (i:Int))=(i:Int)->i≠x->rt (i:Int)=i/\i≠y:=fun {i} h hi=>by
  split at h
  ·omega
  ·rename_i h2;exact⟨h,fun e=>h2 (by rw[e];exact ky)⟩
 have xl:x<hc.length:=by rw[kl];exact hx
 refine⟨q'.grow h0 w0 S1.grow l4,S1.low,S1.ne,⟨v,q'.keep _ n3' _ s⟩,⟨v1,vs1,q'.keep _ n4' _ o1,q1'⟩,⟨v2,vs2,q'.keep _ n5' _ o2,q2'⟩,hk,zAG S1.w q' o3 (fun vs hh=>by cases hh),fun i hi hri _=>?_,fun i j hi hj hij hri hrj d e r hd he hm1=>?_⟩
 ·by_cases aa:i=x
  ·subst aa;refine⟨cs,by rw[List.getElem?_set,if_pos rfl,if_pos xl],?_⟩;rw[if_pos rfl];exact(hn.keep fun r p _ _ hp hne=>q.keep r (by rintro rfl;rw[o1p] at hp;cases hp;exact hne _ _ _ rfl) p hp).keep fun r p _ _ hp hne=>q'.keep r (by rintro rfl;rw[o3] at hp;cases hp;exact hne _ _ _ rfl) p hp
  ·obtain⟨h1,h2⟩:=root hri aa;obtain⟨d,k1,k2⟩:=S1.cls i hi h1 (by simp[aa,h2]);refine⟨d,by rw[List.getElem?_set,if_neg (Ne.symm aa)];exact k1,?_⟩;rw[if_neg (by omega)];exact k2.keep fun r p _ _ hp hne=>q'.keep r (by rintro rfl;rw[o3] at hp;cases hp;exact hne _ _ _ rfl) p hp
 ·rw[List.getElem?_set] at hd he;by_cases aa:i=x
  ·subst aa;rw[if_pos rfl,if_pos xl,oI] at hd;subst hd;rw[if_neg hij] at he;obtain⟨h1,h2⟩:=root hrj (Ne.symm hij);intro hm2;rcases hm with hm|hm
   ·exact S1.ap j y hj hy h2 h1 ky e cy r he hcy hm2 (by rw[<-hm,hm1])
   ·exact S1.ap j i hj hi (Ne.symm hij) h1 kx e cx r he hcx hm2 (by rw[<-hm,hm1])
  ·rw[if_neg (Ne.symm aa)] at hd;obtain⟨h1,h2⟩:=root hri aa;by_cases hjx:j=x
   ·subst hjx;rw[if_pos rfl,if_pos xl,oI] at he;subst he;intro hm2;rcases hm with hm|hm
    ·exact S1.ap i y hi hy h2 h1 ky d cy r hd hcy hm1 (by rw[<-hm,hm2])
    ·exact S1.ap i j hi hj hij h1 kx d cx r hd hcx hm1 (by rw[<-hm,hm2])
   ·rw[if_neg (Ne.symm hjx)] at he;obtain⟨h3,_⟩:=root hrj hjx;exact S1.ap i j hi hj hij h1 h3 d e r hd he hm1
end
theorem zOR{g:Graph}(hg:zAB g=0){rt:Int->Int}{r:Int}{c:Clz}(C:ClzOK g rt r c):c.fields.length<=zAU [] g.nodes 0:=by
 have h1:=zBv (c.fields.map (·.1)) (g.nodes.flatMap fun n=>if n.kind=3 then n.labels else []) C.nodup fun l hl=>by obtain⟨⟨k,a⟩,hp,rfl⟩:=List.mem_map.1 hl;obtain⟨m,m1,_,m3,m4⟩:=(C.keys k).1 ⟨a,hp⟩;refine List.mem_flatMap.2 ⟨_,zDe m1,?_⟩;rw[if_pos m3];exact m4
 rw[List.length_map] at h1;refine Nat.le_trans h1 ?_;rw[zCY,List.length_flatMap];have:∀ns:List Node,(∀n∈ns,mayF n g.nodes.length=true)->(ns.map fun n=>(if n.kind=3 then n.labels else []).length).sum<=(ns.map fun n=>n.args.length).sum:=by
  intro ns;induction ns with
  |nil=>intro _;exact Nat.le_refl _
  |cons n r ih=>
   intro h;have h2:=ih fun n hn=>h n (by simp[hn]);have h3:(if n.kind=3 then n.labels else []).length<=n.args.length:=by
    split
    ·rename_i hk;rcases zAH (h n (by simp)) with⟨q,_⟩|⟨q,_⟩|⟨_,_,q,_⟩<;>omega
    ·simp
   simp only[List.map_cons,List.sum_cons];omega
 exact this g.nodes (zAs hg).2
theorem zOC{g:Graph}(hg:zAB g=0){rt:Int->Int}{r:Int}{c:Clz}(C:ClzOK g rt r c):CK (zAU [] g.nodes 0) c:=by
 refine⟨?_,C.noargs,C.nodup,?_,zOR hg C⟩
 ·obtain⟨m,m1,_,m3,_⟩:=C.one;rw[<-m3];rcases zAH (zAV hg m1) with⟨q,_⟩|⟨q,_⟩|⟨q,_⟩<;>simp[q]
 ·by_cases hk:c.kind=2
  ·obtain⟨m,m1,_,_,m4⟩:=C.args hk;rw[m4];exact zDH _ _ _ (zDe m1)
  ·rw[C.noargs hk];simp
theorem zRu{g:Graph}(hg:zAB g=0){rt:Int->Int}{r s:Int}{c d:Clz}(C:ClzOK g rt r c)(D:ClzOK g rt s d)(kc:c.kind=2)(kd:d.kind=2)(hn:c.name=d.name):c.args.length=d.args.length:=by
 obtain⟨m,m1,m2,m3,m4⟩:=C.args kc;obtain⟨n,n1,n2,n3,n4⟩:=D.args kd;rw[m4,n4];refine zEZ hg m1 n1 m3 n3 ?_;rcases C.like m m1 m2 with q|⟨_,q⟩
 ·omega
 rcases D.like n n1 n2 with q'|⟨_,q'⟩
 ·omega
 rw[q,q',hn]
end Go.Ab.S
end
section
namespace Go.Ab.S
open Go Go.Ab
def solT(e:TypeId):Bool:=e==3||e==68||e==56||e==40
def Ky(h h':AHeap):Prop:=∀c ver ro e vs,solT e=false->h.objs.get c=some (ver,.cells ro e vs)->h'.objs.get c=some (ver,.cells ro e vs)
theorem Ky.refl(h:AHeap):Ky h h:=fun _ _ _ _ _ _ k=>k
theorem Ky.trans{h h' h'':AHeap}(k:Ky h h')(l:Ky h' h''):Ky h h'':=fun c v r e vs h1 h2=>l c v r e vs h1 (k c v r e vs h1 h2)
theorem Ky.grow{h h':AHeap}(g:Grow h h'):Ky h h':=fun c _ _ _ _ _ k=>g.keep c _ k
theorem Ky.but{c ver:Nat}{ro:Bool}{e:TypeId}{vs:List AVal}{h h':AHeap}(B:But c h h')(hc:h.objs.get c=some (ver,.cells ro e vs))(he:solT e=true):Ky h h':=fun d _ _ e' _ h1 h2=>B.keep d (by
 rintro rfl;rw[hc] at h2;simp only[oI,Prod.mk.injEq,AObj.cells.injEq] at h2;rw[h2.2.2.1,h1] at he;cases he) _ h2
theorem Ky.new{c:Nat}{h0 h h':AHeap}(w:WF h0)(k:Ky h0 h)(B:But c h h')(hc:h0.next<=c):Ky h0 h':=fun d _ _ e' _ h1 h2=>B.keep d (by
 rintro rfl;have:=w.lt h2;omega) _ (k d _ _ e' _ h1 h2)
end Go.Ab.S
end
