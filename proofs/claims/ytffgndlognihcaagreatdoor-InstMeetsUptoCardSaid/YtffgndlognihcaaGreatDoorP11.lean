import Derived.Test.YtffgndlognihcaaGreatDoorP10
/-
  Part 11 of the proof.
-/
set_option linter.all false
section
namespace Go.Ab.S
open Go.Ab
set_option maxHeartbeats 8000000
theorem zAn{h:AHeap}{b b' sz n:Nat}{e:TypeId}{v:AVal}{cells:List AVal}(k:Built h b e sz v n cells)(hb:b'<=b):Built h b' e sz v n cells:=by
 rcases k with k|k|⟨c,vs,ver,h0,h1⟩
 ·exact .inl k
 ·exact .inr (.inl k)
 ·exact .inr (.inr ⟨c,vs,ver,Nat.le_trans hb h0,h1⟩)
theorem zIT{h:AHeap}{base:Nat}{e:TypeId}{v:AVal}{l:List (List Nat)}(B:Built h base e 1 v l.length (l.map AVal.str)):StrsAt h v l:=
 B.sl (by decide) (xs:=l.map strC) (by rw[zJq]) (by intro c hc;obtain⟨a,_,rfl⟩:=List.mem_map.1 hc;rfl) (by simp)
def OwnN(h:AHeap)(base:Nat)(c:List AVal)(n:Node):Prop:=∃av lv,c=[.int .i64 n.kind,.str n.name,av,lv,.bool n.isOpen]/\Built h base 3 1 av n.args.length (n.args.map (AVal.int .i64))/\Built h base 9 1 lv n.labels.length (n.labels.map AVal.str)
theorem OwnN_at{h:AHeap}{base:Nat}{c:List AVal}{n:Node}(k:OwnN h base c n):NodeAt h c n:=by
 obtain⟨av,lv,h1,h2,h3⟩:=k
 exact⟨av,lv,h1,zBm h2,zIT h3⟩
theorem OwnN_stay{h h':AHeap}{base:Nat}{c:List AVal}{n:Node}(k:OwnN h base c n)(hk:∀b p,h.objs.get b=some p->((∃vs,p.2=.cells false 3 vs)\/∃vs,p.2=.cells false 9 vs)->h'.objs.get b=some p):OwnN h' base c n:=by
 obtain⟨av,lv,h1,h2,h3⟩:=k
 exact⟨av,lv,h1,zAw h2 fun b p hb hp _=>hk b p hb (.inl hp),zAw h3 fun b p hb hp _=>hk b p hb (.inr hp)⟩
theorem zCZ:∀(ns:List Node) (i:Nat) (n:Node),n∈ns->n.args.length<=zAY [] ns i
 |[],_,_,h=>by cases h
 |m::r,i,n,h=>by
  simp only[zAY]
  rcases List.mem_cons.1 h with rfl|h
  ·simp
  ·have:=zCZ r (i+1) n h;omega
theorem zJo{vs:List AVal}{i n:Nat}{x:AVal}(hi:i<n)(hv:n<=vs.length):(vs.take i++[x]++vs.drop (i+1)).take n=(vs.take n).set i x:=by
 rw[<-List.take_set,List.set_eq_take_append_cons_drop,if_pos (by omega),List.append_assoc];rfl
def Lst(l args:List Int)(i:Nat):List Int:=(args.take i).map (fun a=>(zBs l a:Int))++args.drop i
theorem Lst_get{l args:List Int}{i:Nat}(h:i<args.length):(Lst l args i)[i]?=some args[i]:=by
 rw[Lst,List.getElem?_append_right (by simp;omega)]
 simp[Nat.min_eq_left (Nat.le_of_lt h),h]
theorem Lst_set{l args:List Int}{i:Nat}(h:i<args.length):(Lst l args i).set i (zBs l args[i]:Int)=Lst l args (i+1):=by
 have hl:((args.take i).map (fun a=>(zBs l a:Int))).length=i:=by simp;omega
 rw[Lst,List.set_append_right _ _ (by omega),hl,Nat.sub_self,List.drop_eq_getElem_cons h,List.set_cons_zero,Lst,List.take_succ_eq_append_getElem h,List.map_append,List.append_assoc]
 rfl
theorem zAR{h h':AHeap}{base:Nat}{e:TypeId}{sz n:Nat}{v:AVal}{cells:List AVal}(B:Built h base e sz v n cells)(hk:∀c p,base<=c->h.objs.get c=some p->(∃vs,p.2=.cells false e vs)->h'.objs.get c=some p):Built h' base e sz v n cells:=by
 rcases B with B|B|⟨b,vs,ver,h0,h1,h2,h3⟩
 ·exact .inl B
 ·exact .inr (.inl B)
 ·exact .inr (.inr ⟨b,vs,ver,h0,h1,hk _ _ h0 h2 ⟨vs,rfl⟩,h3⟩)
def OwnG(h:AHeap)(base:Nat)(v:AVal)(g:Graph):Prop:=∃(nv:AVal) (cs:List (List AVal)),v=.agg [nv,.int .i64 g.root]/\Built h base 34 5 nv g.nodes.length cs.flatten/\cs.length=g.nodes.length/\∀(i:Nat) c n,cs[i]?=some c->g.nodes[i]?=some n->OwnN h base c n
theorem OwnG.graph{h:AHeap}{base:Nat}{v:AVal}{g:Graph}(k:OwnG h base v g):GraphAt h v g:=by
 obtain⟨nv,cs,rfl,kB,kl,kn⟩:=k
 refine⟨nv,rfl,cs,kB.sl (by decide) rfl (fun c hc=>?_) kl,kl,fun i n c hn hc=>OwnN_at (kn i c n hc hn)⟩
 obtain⟨i,hi,rfl⟩:=List.mem_iff_getElem.1 hc
 obtain⟨_,_,hcs,_⟩:=kn i _ _ (List.getElem?_eq_getElem hi) (List.getElem?_eq_getElem (by omega))
 rw[hcs];rfl
theorem OwnG.stay{h h':AHeap}{base:Nat}{v:AVal}{g:Graph}(k:OwnG h base v g)(hk:∀c p,base<=c->h.objs.get c=some p->((∃vs,p.2=.cells false 34 vs)\/(∃vs,p.2=.cells false 3 vs)\/∃vs,p.2=.cells false 9 vs)->h'.objs.get c=some p):OwnG h' base v g:=by
 obtain⟨nv,cs,rfl,kB,kl,kn⟩:=k
 refine⟨nv,cs,rfl,zAR kB fun c p hc hp ht=>hk c p hc hp (.inl ht),kl,fun i c n hc hn=>?_⟩
 obtain⟨av,lv,q1,q2,q3⟩:=kn i c n hc hn
 exact⟨av,lv,q1,zAR q2 fun c p hc hp ht=>hk c p hc hp (.inr (.inl ht)),zAR q3 fun c p hc hp ht=>hk c p hc hp (.inr (.inr ht))⟩
theorem OwnG.grow{h h':AHeap}{base:Nat}{v:AVal}{g:Graph}(k:OwnG h base v g)(gr:Grow h h'):OwnG h' base v g:=k.stay fun _ _ _ hp _=>gr.keep _ _ hp
theorem OwnG.base{h:AHeap}{base base':Nat}{v:AVal}{g:Graph}(k:OwnG h base v g)(hb:base'<=base):OwnG h base' v g:=by
 obtain⟨nv,cs,rfl,kB,kl,kn⟩:=k
 refine⟨nv,cs,rfl,zAn kB hb,kl,fun i c n hc hn=>?_⟩
 obtain⟨av,lv,q1,q2,q3⟩:=kn i c n hc hn
 exact⟨av,lv,q1,zAn q2 hb,zAn q3 hb⟩
structure TInv(h0:AHeap)(b1 b2 bm:Nat)(nv:AVal)(root:Int)(l:List Int)(ns:List Node)(hp:AHeap):Prop where
 grow:Grow h0 hp
 o1:∃ver,hp.objs.get b1=some (ver,.cells false 24 [nv,.int .i64 root])
 om:∃ver,hp.objs.get bm=some (ver,.map (toEs 0 l) l.length)
 o2:∃(ver:Nat) (vo:AVal) (cs:List (List AVal)),hp.objs.get b2=some (ver,.cells false 24 [vo,.int .i64 0])/\Built hp h0.next 34 5 vo ns.length cs.flatten/\cs.length=ns.length/\∀(i:Nat) c n,cs[i]?=some c->ns[i]?=some n->OwnN hp h0.next c n
 low:h0.next<=b1/\b1<b2/\b2<hp.next
theorem TInv.other{h0:AHeap}{b1 b2 bm:Nat}{nv:AVal}{root:Int}{l:List Int}{ns:List Node}{hp hq:AHeap}(I:TInv h0 b1 b2 bm nv root l ns hp)(g:Grow hp hq):TInv h0 b1 b2 bm nv root l ns hq:=by
 obtain⟨v1,k1⟩:=I.o1
 obtain⟨vm,km⟩:=I.om
 obtain⟨v2,vo,cs,k2,kB,kl,kn⟩:=I.o2
 exact⟨I.grow.trans g,⟨v1,g.keep _ _ k1⟩,⟨vm,g.keep _ _ km⟩,⟨v2,vo,cs,g.keep _ _ k2,kB.grow g,kl,fun i c n hc hn=>OwnN_stay (kn i c n hc hn) fun b p hb _=>g.keep _ _ hb⟩,I.low.1,I.low.2.1,Nat.lt_of_lt_of_le I.low.2.2 g.next⟩
section
variable{fns:FnsT}{summ:SumT}
theorem zKu{ro:Option Nat}{c:ACode}{a:AAct}{h:AHeap}{Q:AExit->AAct->AHeap->Prop}(I:AAct->AHeap->Prop)(k1:Cd fns summ ro c a h (nxt I fun _ _ _=>False))(k2:∀a h,I a h->Q .normal a h):Cd fns summ ro c a h Q:=
 k1.mono fun e a1 h1 hq=>by cases e with
  |normal=>exact k2 a1 h1 hq
  |ret=>exact hq.elim
  |exit i=>exact hq.elim
variable(H:Has fns summ)
include H
theorem Trim_ok(g:Graph)(hg:GSm g)(v:AVal)(h:AHeap)(hw:WF h)(hv:GraphAt h v g):Cl fns summ 29 [v] h fun r h'=>OwnG h' h.next r (zBd g)/\Grow h h':=by
 obtain⟨nv,rfl,hN⟩:=hv
 obtain⟨hOk,hNd⟩:=zCN g
 have hlen:=hN.len
 refine H.go (fn:=F_Trim) rfl (by decide) rfl rfl ?_
 unfold F_Trim
 dsimp only[qQ,qE,qN,tm,mt,lo,fa,jv,jl,js,ji,je,jc,jo,jG,jN,jR,jS,jL]
 refine zAv (zBC ?_)
 refine zAm e1 cc hw ?_
 rintro b1 h1 hb1 g1 o1
 refine zAS g1.wf ?_
 rintro b2 h2 hb2 g2 o2
 have l1:=g1.wf.lt o1
 replace o1:=g2.keep _ _ o1
 have g02:=g1.trans g2
 have hpart:zAl (some 2) [nv,.int .i64 g.root] 0=some (.agg [nv,.int .i64 g.root]):=rfl
 repeat refine zR ?_
 refine zAJ s1 ((Reach_ok H g hg _ h2 g2.wf ⟨nv,rfl,hN.mono g02⟩).mono ?_)
 rintro rv h3 ⟨hR,g3⟩
 replace o1:=g3.keep _ _ o1
 replace o2:=g3.keep _ _ o2
 have g03:=g02.trans g3
 have hrl:=hR.len
 repeat refine zR ?_
 refine zDD (.inr ⟨_,_,_,rfl,e1⟩) g3.wf ?_
 rintro bm h4 hbm g4 om
 have l2:=g3.wf.lt o2
 replace o1:=g4.keep _ _ o1
 replace o2:=g4.keep _ _ o2
 have hR4:=zBm (hR.grow g4)
 have hR4B:=zAn (hR.grow g4) (b':=h.next) g02.next
 have g04:=g03.trans g4
 have hlr:(zAG g).length<2 ^ 60:=by
  have:=zGc hg
  have e30:(2:Nat) ^ 30=1073741824:=by decide
  omega
 repeat refine zR ?_
 refine zBR (N:=(zAG g).length) (fun j a hp=>(∃ver,hp.objs.get bm=some (ver,.map (toEs 0 ((zAG g).take j)) j))/\(hp=h4\/But bm h4 hp)/\a.defers=[]/\ev a (.tmp 1)=some (.ptr (some (b1,0)))/\ev a (.tmp 2)=some (.ptr (some (b2,0)))/\ev a (.tmp 3)=some rv/\ev a (.tmp 4)=some (.map (some bm))/\ev a (.tmp 17)=some rv) ?_ ?_ ⟨⟨_,om⟩,.inl rfl,n1,e1,e1,e1,e1,e1⟩
 ·rintro j a hp hj ⟨⟨ver,o⟩,hb,hd,e1',e2',e3',e4',e17⟩ hi hn
  have hc:(zAG g)[j]?=some (zAG g)[j]:=List.getElem?_eq_getElem hj
  have hkp:∀c p,h4.objs.get c=some p->c≠bm->hp.objs.get c=some p:=fun c p h1 h2=>by
   rcases hb with rfl|hb
   ·exact h1
   ·exact hb.keep c h2 _ h1
  have hwp:WF hp:=by
   rcases hb with rfl|hb
   ·exact g4.wf
   ·exact hb.wf g4.wf
  obtain⟨bb,ob,verb,rb,eb,vsb,hix,hget',hvo⟩:=hR4.at hc
  have hget:=hkp _ _ hget' (by rintro rfl;rw[om] at hget';cases hget')
  have hnin:((zAG g).take j).contains (zAG g)[j]=false:=by
   rw[Bool.eq_false_iff]
   intro hh
   simp only[List.contains_eq_mem,decide_eq_true_eq] at hh
   obtain⟨i,hi',he⟩:=List.mem_iff_getElem.1 hh
   rw[List.getElem_take] at he
   have hij:=(List.getElem_inj hNd).1 he
   simp only[List.length_take] at hi'
   omega
  have hf:zBa .int (.int .i64 (zAG g)[j]) (toEs 0 ((zAG g).take j)) 0=some none:=by rw[zIJ,hnin];rfl
  clear hget' hkp
  repeat refine zR ?_
  refine zFb e1 e1 e1 (by intro hh;cases hh) rfl hwp o hf ?_
  rintro ver' h5 p5 o5
  have ht:toEs 0 ((zAG g).take j)++[(.int .i64 (zAG g)[j],.int .i64 (j:Nat),j)]=toEs 0 ((zAG g).take (j+1)):=by
   rw[List.take_succ_eq_append_getElem hj,zMg,Nat.zero_add,List.length_take,Nat.min_eq_left (Nat.le_of_lt hj)]
  rw[ht] at o5
  have hb5:But bm h4 h5:=by
   rcases hb with rfl|hb
   ·exact p5
   ·exact hb.trans p5
  repeat refine zR ?_
  exact⟨⟨⟨_,o5⟩,.inr hb5,n1,e1,e1,e1,e1,e1⟩,e1,e1⟩
 ·rintro a h5 ⟨⟨ver5,om5⟩,hb,hd,e1',e2',e3',e4',_⟩
  rw[List.take_length] at om5
  have hkp:∀c p,h4.objs.get c=some p->c≠bm->h5.objs.get c=some p:=fun c p h1 h2=>by
   rcases hb with rfl|hb
   ·exact h1
   ·exact hb.keep c h2 _ h1
  have g05:Grow h h5:=by
   rcases hb with rfl|hb
   ·exact g04
   ·exact hb.grow h hw g04 (by have:=g03.next;omega)
  have n4:h4.next<=h5.next:=by
   rcases hb with rfl|hb
   ·exact Nat.le_refl _
   ·exact hb.next
  have hR5:Built h5 h.next 3 1 rv (zAG g).length ((zAG g).map (AVal.int .i64)):=zAw hR4B fun c p hc ⟨vs,hp⟩ _=>hkp c p hc (by
   rintro rfl
   rw[om] at hc
   simp only[oI] at hc
   rw[<-hc] at hp;cases hp)
  have I0:TInv h b1 b2 bm nv g.root (zAG g) [] h5:=
   ⟨g05,⟨_,hkp _ _ o1 (by rintro rfl;rw[om] at o1;cases o1)⟩,⟨_,om5⟩,⟨_,_,[],hkp _ _ o2 (by rintro rfl;rw[om] at o2;cases o2),.inl ⟨rfl,rfl,rfl⟩,rfl,fun i c n hc=>by simp at hc⟩,hb1,by omega,by have:=g4.next;omega⟩
  clear o1 o2 om om5 hkp hR hR4 hR4B g1 g2 g3 g4 g02 g03 g04 hb n4
  have hsub:∀(p q:Nat×AObj) (hp:AHeap),True:=fun _ _ _=>trivial
  clear hsub
  repeat refine zR ?_
  refine zBR (N:=(zAG g).length) (fun j a hp=>TInv h b1 b2 bm nv g.root (zAG g) (((zAG g).take j).map fun i=>zEf (zAG g) (zAA g i)) hp/\Built hp h.next 3 1 rv (zAG g).length ((zAG g).map (AVal.int .i64))/\a.defers=[]/\ev a (.tmp 1)=some (.ptr (some (b1,0)))/\ev a (.tmp 2)=some (.ptr (some (b2,0)))/\ev a (.tmp 4)=some (.map (some bm))/\ev a (.tmp 28)=some rv) ?_ ?_ ⟨I0,hR5,n1,e1,e1,e1,e1⟩
  ·clear I0 hR5 hd e1' e2' e3' e4'
   rintro j a hp hj ⟨I,hRj,hd,e1',e2',e4',e28⟩ hi hn
   obtain⟨k0,k1⟩:=hOk _ (List.getElem_mem hj)
   obtain⟨k,hk⟩:∃k:Nat,(zAG g)[j]=(k:Int):=⟨_,(Int.toNat_of_nonneg k0).symm⟩
   have hkN:k<g.nodes.length:=by rw[hk] at k1;omega
   have hnd:zAA g (zAG g)[j]=g.nodes[k]:=by rw[hk];simp[zAA,List.getElem?_eq_getElem hkN]
   have hc:(zAG g)[j]?=some (k:Int):=by rw[List.getElem?_eq_getElem hj,hk]
   have hmem:=List.getElem_mem hkN
   have hlab:=hg.labs _ hmem
   have harg:g.nodes[k].args.length<=2 ^ 30:=by
    have h1:=zCZ g.nodes 0 _ hmem
    have h2:=hg.total
    omega
   have e30:(2:Nat) ^ 30=1073741824:=by decide
   have e31:(2:Nat) ^ 31=2147483648:=by decide
   obtain⟨bb,ob,verb,rb,eb,vsb,hix,hget,hvo⟩:=(zBm hRj).at hc
   obtain⟨bn,on,vern,ron,en,vsn,av,lv,hixn,hgn,hvl,hv5,_,_,_,_,_,ha,hl⟩:=(hN.mono I.grow).at (List.getElem?_eq_getElem hkN)
   have hpart5:zAl (some 5) vsn on=some (zCF g.nodes[k] av lv):=by rw[zAl,if_pos hvl,hv5];rfl
   obtain⟨ver1,o1⟩:=I.o1
   clear hk hnd
   have hnd:zAA g (zAG g)[j]=g.nodes[k]:=by
    have:(zAG g)[j]=(k:Int):=by
     rw[List.getElem?_eq_getElem hj] at hc;exact Option.some.inj hc
    rw[this];simp[zAA,List.getElem?_eq_getElem hkN]
   have hnd':=hnd
   clear hnd
   repeat refine zR ?_
   refine zAS I.grow.wf ?_
   rintro b9 h6 hb9 g6 o9
   refine zAE e1 e1 (cs:=[.int .i64 g.nodes[k].kind,.str g.nodes[k].name,av,lv,.bool g.nodes[k].isOpen]) rfl rfl g6.wf o9 (by simp) (zBN ha.len hl.len) ?_
   rintro v7 h7 p7 o7
   simp only[lL,Nat.reduceAdd] at o7
   have g7:Grow hp h7:=p7.grow hp I.grow.wf g6 hb9
   clear o9 p7 g6 hix hget hvo hixn hgn hpart5 hv5 o1
   repeat refine zR ?_
   refine zAJ s1 ((CloneStr_ok H g.nodes[k].labels (by omega) lv h7 g7.wf (hl.mono g7)).mono ?_)
   rintro cs1 h8 ⟨B8,g8⟩
   replace o7:=g8.keep _ _ o7
   have gg8:=g7.trans g8
   repeat refine zR ?_
   refine zAE e1 e1 (zAP B8.len) rfl g8.wf o7 (by simp) (by simp only[List.all_cons,List.all_nil,zAH B8.len,Bool.and_true]) ?_
   rintro v9 h9 p9 o9
   simp only[lL,Nat.reduceAdd] at o9
   have g9:Grow hp h9:=p9.grow hp I.grow.wf gg8 hb9
   have B9:=zAK B8 p9 o7 (fun vs hh=>by cases hh)
   have nx8:=gg8.next
   have nx9:=g9.next
   have nx7:=g7.next
   clear B8 g8 p9 o7 gg8 g7
   repeat refine zR ?_
   refine zAJ s1 ((CloneInt_ok H g.nodes[k].args (by omega) av h9 g9.wf (ha.mono g9)).mono ?_)
   rintro ci1 h10 ⟨B10,g10⟩
   replace o9:=g10.keep _ _ o9
   have gg10:=g9.trans g10
   replace B9:=B9.grow g10
   repeat refine zR ?_
   refine zAE e1 e1 (zAP B10.len) rfl g10.wf o9 (by simp) (by simp only[List.all_cons,List.all_nil,zAH B10.len,Bool.and_true]) ?_
   rintro v11 h11 p11 o11
   simp only[lL,Nat.reduceAdd] at o11
   have g11:Grow hp h11:=p11.grow hp I.grow.wf gg10 hb9
   have B11:Built h11 hp.next 9 1 cs1 g.nodes[k].labels.length (g.nodes[k].labels.map AVal.str):=zAn (zAK B9 p11 o9 (fun vs hh=>by cases hh)) nx7
   have C11:Built h11 hp.next 3 1 ci1 g.nodes[k].args.length (g.nodes[k].args.map (AVal.int .i64)):=zAn (zAK B10 p11 o9 (fun vs hh=>by cases hh)) nx9
   have hci:=C11.len
   clear B9 B10 g10 p11 o9 gg10 g9
   repeat refine zR ?_
   have hlo:Lst (zAG g) g.nodes[k].args 0=g.nodes[k].args:=by simp[Lst]
   have hle:Lst (zAG g) g.nodes[k].args g.nodes[k].args.length=(zEf (zAG g) g.nodes[k]).args:=by simp[Lst,zEf]
   refine zKu (fun a' hq=>(∀c p,h11.objs.get c=some p->(∀n,ci1≠.slice (some (c,0)) n)->hq.objs.get c=some p)/\Grow hp hq/\h11.next<=hq.next/\Built hq hp.next 3 1 ci1 g.nodes[k].args.length ((Lst (zAG g) g.nodes[k].args g.nodes[k].args.length).map (AVal.int .i64))∧
    a'.defers=[]/\ev a' (.tmp 1)=some (.ptr (some (b1,0)))/\ev a' (.tmp 2)=some (.ptr (some (b2,0)))/\ev a' (.tmp 4)=some (.map (some bm))/\ev a' (.tmp 28)=some rv/\ev a' (.tmp 9)=some (.ptr (some (b9,0)))/\ev a' (.tmp 30)=some (.int .i64 (j:Nat))/\ev a' (.tmp 29)=some (.int .i64 ((zAG g).length:Nat))) ?_ ?_
   ·refine zBR (N:=g.nodes[k].args.length) (fun i a' hq=>(∀c p,h11.objs.get c=some p->(∀n,ci1≠.slice (some (c,0)) n)->hq.objs.get c=some p)/\Grow hp hq/\h11.next<=hq.next/\Built hq hp.next 3 1 ci1 g.nodes[k].args.length ((Lst (zAG g) g.nodes[k].args i).map (AVal.int .i64))/\a'.defers=[]/\ev a' (.tmp 1)=some (.ptr (some (b1,0)))/\ev a' (.tmp 2)=some (.ptr (some (b2,0)))/\ev a' (.tmp 4)=some (.map (some bm))/\ev a' (.tmp 28)=some rv/\ev a' (.tmp 9)=some (.ptr (some (b9,0)))/\ev a' (.tmp 30)=some (.int .i64 (j:Nat))/\ev a' (.tmp 29)=some (.int .i64 ((zAG g).length:Nat))/\ev a' (.tmp 48)=some ci1) ?_ ?_ ⟨fun c p hc _=>hc,g11,Nat.le_refl _,by rw[hlo];exact C11,n1,e1,e1,e1,e1,e1,e1,e1,e1⟩
    ·obtain⟨verm,om⟩:=(I.other g11).om
     clear hd e1' e2' e4' e28 hi hn
     rintro i a' hq hil ⟨hkp,gq,nq,hB,hd,e1',e2',e4',e28,e9,e30',e29,e48⟩ hi hn
     rcases hB with⟨_,hh,_⟩|⟨_,hh,_⟩|⟨ba,vsa,vera,hba,hcq,hga,hla,hta⟩
     ·omega
     ·omega
     rw[Nat.mul_one] at hla hta
     have hixa:slA ci1 1 i=some (ba,i):=by rw[hcq];simp[slA,hil]
     have hva:vsa[i]?=some (.int .i64 g.nodes[k].args[i]):=by
      have:=congrArg (fun l=>l[i]?) hta
      simp only[List.getElem?_take,if_pos hil,List.getElem?_map,Lst_get hil,Option.map_some] at this
      exact this
     have o9q:=hkp _ _ o11 (zAF C11 o11 fun vs hh=>by cases hh)
     have hlk:=look_to (hkp _ _ om (zAF C11 om fun vs hh=>by cases hh)) g.nodes[k].args[i]
     clear hcq
     repeat refine zR ?_
     refine zAE e1 e1 cc rfl gq.wf hga (by simp;omega) rfl ?_
     rintro vz hz pz oz
     simp only[zlC,zlN,Nat.zero_add] at oz
     have hcq:ci1=.slice (some (ba,0)) g.nodes[k].args.length:=by
      rcases zGk hci with h1|⟨b,o,h1⟩|⟨_,hh⟩|⟨_,hh⟩
      ·rw[h1] at hixa;cases hixa
      ·rw[h1] at hixa
       simp only[slA,if_pos hil,oI,Prod.mk.injEq] at hixa
       obtain⟨rfl,h2⟩:=hixa
       rw[h1,show o=0 by omega]
      ·omega
      ·omega
     repeat refine zR ?_
     refine⟨⟨fun c p hc hne=>pz.keep c (by rintro rfl;exact hne _ hcq) _ (hkp c p hc hne),pz.grow hp I.grow.wf gq hba,Nat.le_trans nq pz.next,.inr (.inr ⟨ba,_,_,hba,hcq,oz,by simp;omega,?_⟩),n1,e1,e1,e1,e1,e1,e1,e1,e1⟩,e1,e1⟩
     rw[Nat.mul_one,zJo hil hla,hta,<-Lst_set hil,List.map_set]
    ·rintro a' hq ⟨m1,m2,m3,m4,m5,m6,m7,m8,m9,m10,m11,m12,_⟩
     exact⟨m1,m2,m3,m4,m5,m6,m7,m8,m9,m10,m11,m12⟩
   ·clear hd e1' e2' e4' e28 hi hn
    rintro a' hq ⟨hkp,gq,nq,hB,hd,e1',e2',e4',e28,e9,e30',e29⟩
    rw[hle] at hB
    have Iq:=I.other gq
    have o9q:=hkp _ _ o11 (zAF C11 o11 fun vs hh=>by cases hh)
    have B9q:Built hq hp.next 9 1 cs1 g.nodes[k].labels.length (g.nodes[k].labels.map AVal.str):=zAw B11 fun c p hc hcp _=>hkp c p hc (zAF C11 hc fun vs hh=>by
     obtain⟨vs',hcp⟩:=hcp
     rw[hcp] at hh;cases hh)
    obtain⟨ver2,vo,cs,o2,kB,kl,kn⟩:=Iq.o2
    have nl:(((zAG g).take j).map fun i=>zEf (zAG g) (zAA g i)).length=j:=by simp;omega
    rw[nl] at kB kl
    have hrf:=zGc hg
    repeat refine zR ?_
    refine zAW e1 (cs:=[.int .i64 g.nodes[k].kind,.str g.nodes[k].name,ci1,cs1,.bool g.nodes[k].isOpen]) rfl rfl rfl gq.wf ?_
    rintro bx h12 hbx g12 ox
    have kB':=kB.grow g12
    refine zAi e1 e1 kB' ox rfl (zBN hci B11.len) (zCO H (by decide) (by omega)) g12.wf (by have:=I.grow.next;have:=gq.next;have:=g12.next;omega) ?_
    rintro vo' h13 B13 f13 w13 n13 gr13 kp13
    have o2':=kp13 _ _ (g12.keep _ _ o2) (zAF kB' (g12.keep _ _ o2) fun vs hh=>by cases hh)
    have g13:Grow h h13:=gr13 h hw (Iq.grow.trans g12) (Nat.le_refl _)
    repeat refine zR ?_
    refine zAE e1 e1 (zAP B13.len) rfl w13 o2' (by simp) (by simp only[List.all_cons,List.all_nil,zAH B13.len,Bool.and_true]) ?_
    rintro v14 h14 p14 o14
    simp only[lL,Nat.reduceAdd] at o14
    have hstay:∀c p,hq.objs.get c=some p->(∀vs,p.2≠.cells false 34 vs)->c≠b2->h14.objs.get c=some p:=fun c p hc hp hne=>p14.keep c hne _ (kp13 _ _ (g12.keep _ _ hc) (zAF kB' (g12.keep _ _ hc) hp))
    obtain⟨vr1,k1'⟩:=Iq.o1
    obtain⟨vrm,km'⟩:=Iq.om
    have n14:=p14.next
    have n12:=g12.next
    have hns:((zAG g).take (j+1)).map (fun i=>zEf (zAG g) (zAA g i))=((zAG g).take j).map (fun i=>zEf (zAG g) (zAA g i))++[zEf (zAG g) g.nodes[k]]:=by
     rw[List.take_succ_eq_append_getElem hj,List.map_append]
     simp only[List.map_cons,List.map_nil,hnd']
    have hown:∀{c:List AVal} {n:Node},OwnN hq h.next c n->OwnN h14 h.next c n:=fun kk=>OwnN_stay kk fun b p hb hp=>hstay b p hb (fun vs hh=>by rcases hp with⟨vs',hp⟩|⟨vs',hp⟩<;>(rw[hp] at hh;cases hh)) (by
     rintro rfl
     rw[o2] at hb
     simp only[oI] at hb
     rcases hp with⟨vs',hp⟩|⟨vs',hp⟩<;>(rw[<-hb] at hp;cases hp))
    have I14:TInv h b1 b2 bm nv g.root (zAG g) (((zAG g).take (j+1)).map fun i=>zEf (zAG g) (zAA g i)) h14:=by
     refine⟨p14.grow h hw g13 (by have:=I.low;omega),⟨_,hstay _ _ k1' (fun vs hh=>by cases hh) (by have:=I.low;omega)⟩,⟨_,hstay _ _ km' (fun vs hh=>by cases hh) (by rintro rfl;rw[o2] at km';cases km')⟩,⟨_,vo',cs++[[.int .i64 g.nodes[k].kind,.str g.nodes[k].name,ci1,cs1,.bool g.nodes[k].isOpen]],o14,?_,?_,?_⟩,I.low.1,I.low.2.1,by have:=I.low;have:=gq.next;omega⟩
     ·have:(((zAG g).take (j+1)).map fun i=>zEf (zAG g) (zAA g i)).length=j+1:=by simp;omega
      rw[this,List.flatten_append]
      exact zAK (by simpa using B13) p14 o2' (fun vs hh=>by cases hh)
     ·simp[kl];omega
     ·intro i c n hcc hnn
      rw[hns] at hnn
      rcases Nat.lt_or_ge i j with hij|hij
      ·rw[List.getElem?_append_left (by omega)] at hcc
       rw[List.getElem?_append_left (by omega)] at hnn
       exact hown (kn i c n hcc hnn)
      ·rw[List.getElem?_append_right (by omega),kl] at hcc
       rw[List.getElem?_append_right (by omega),nl] at hnn
       obtain rfl:i=j:=by
        have:=(List.getElem?_eq_some_iff.1 hcc).1
        simp only[zlC,zlN] at this
        omega
       rw[Nat.sub_self,List.getElem?_cons_zero,oI] at hcc hnn
       subst hcc;subst hnn
       refine hown ⟨ci1,cs1,rfl,?_,zAn B9q (by have:=I.grow.next;omega)⟩
       have hl2:(zEf (zAG g) g.nodes[k]).args.length=g.nodes[k].args.length:=by simp[zEf]
       rw[hl2]
       exact zAn hB (by have:=I.grow.next;omega)
    have hR14:Built h14 h.next 3 1 rv (zAG g).length ((zAG g).map (AVal.int .i64)):=zAw (hRj.grow gq) fun c p hc' ⟨vs,hp'⟩ _=>hstay c p hc' (fun vs' hh=>by rw[hp'] at hh;cases hh) (by
     rintro rfl
     rw[o2] at hc'
     simp only[oI] at hc'
     rw[<-hc'] at hp';cases hp')
    repeat refine zR ?_
    exact⟨⟨I14,hR14,n1,e1,e1,e1,e1⟩,e1,e1⟩
  ·rintro a hp ⟨I,_,hd,e1',e2',_,_⟩
   rw[List.take_length] at I
   obtain⟨ver2,vo,cs,o2,kB,kl,kn⟩:=I.o2
   repeat refine zR ?_
   have hone:=zAH kB.len
   refine zAE e1 e1 (cs:=[vo,.int .i64 0]) rfl rfl I.grow.wf o2 (by simp) (by simp only[List.all_cons,List.all_nil,hone,Bool.true_and,Bool.and_true];rfl) ?_
   rintro v9 h9 p9 o9
   simp only[lL,Nat.reduceAdd] at o9
   repeat refine zR ?_
   have hl2:=I.low
   refine zLF (v:=.agg [vo,.int .i64 0]) n1 ?_ ⟨?_,p9.grow h hw I.grow (by omega)⟩
   ·have hp2:zAl (some 2) [vo,.int .i64 0] 0=some (.agg [vo,.int .i64 0]):=rfl
    simp only[zBi,mapO,zEt,zCQ,zCu,zBl,zAz,zBG,Nat.reduceEqDiff,if_false,e2',o9,hp2]
   ·have hB9:=zAK kB p9 o2 (fun vs hh=>by cases hh)
    have hlen0:(zBd g).nodes.length=((zAG g).map fun i=>zEf (zAG g) (zAA g i)).length:=rfl
    exact⟨vo,cs,rfl,hB9,by rw[hlen0];exact kl,fun i c n hc hn=>OwnN_stay (kn i c n hc hn) fun b p hb hp=>p9.keep b (by
     rintro rfl
     rw[o2] at hb
     simp only[oI] at hb
     rcases hp with⟨vs',hp⟩|⟨vs',hp⟩<;>(rw[<-hb] at hp;cases hp)) _ hb⟩
end
end Go.Ab.S
end
section
namespace Go.Ab.S
open Go.Ab
set_option maxHeartbeats 8000000
def eqLL:List (List Nat)->List (List Nat)->Bool
 |[],[]=>true
 |a::x,b::y=>eqL a b&&eqLL x y
 |_,_=>false
theorem zNp{x y:List (List Nat)}{i:Nat}(hx:i<x.length)(hy:i<y.length):eqLL (x.drop i) (y.drop i)=(eqL x[i] y[i]&&eqLL (x.drop (i+1)) (y.drop (i+1))):=by
 rw[List.drop_eq_getElem_cons hx,List.drop_eq_getElem_cons hy,eqLL]
theorem zMA:∀{x y:List (List Nat)},x.length≠y.length->eqLL x y=false
 |[],[],h=>absurd rfl h
 |[],_::_,_=>rfl
 |_::_,[],_=>rfl
 |a::x,b::y,h=>by
  rw[eqLL,zMA (x:=x) (y:=y) (by simpa using h),Bool.and_false]
def zCY(n:Node):Bool:=n.kind==1||(n.kind==3&&n.isOpen)
def zEg(a b:Node):Bool:=(((a.kind==b.kind&&eqL a.name b.name)&&a.isOpen==b.isOpen)&&a.args.length==b.args.length)&&eqLL a.labels b.labels
section
variable{fns:FnsT}{summ:SumT}
variable(H:Has fns summ)
include H
theorem EqualStr_ok(x y:List (List Nat))(hx:x.length<2 ^ 60)(v u:AVal)(h:AHeap)(hv:StrsAt h v x)(hu:StrsAt h u y):Cl fns summ 43 [v,u] h fun r h'=>r=.bool (eqLL x y)/\h'=h:=by
 refine H.go (fn:=F_EqualStr) rfl (by decide) rfl rfl ?_
 unfold F_EqualStr
 dsimp only[mt,lo,jn,jv,jb,ji,je,jR,jS,jC,jL]
 have hl1:=hv.len
 have hl2:=hu.len
 by_cases hne:x.length=y.length
 ·have hz:((Int.ofNat x.length:Int) != Int.ofNat y.length)=false:=by rw[hne];simp
  have hly:∀j,j<x.length->j<y.length:=fun j hj=>hne ▸ hj
  have hend:eqLL (x.drop x.length) (y.drop x.length)=true:=by rw[List.drop_length,hne,List.drop_length];rfl
  clear hne
  repeat refine zR ?_
  refine zBR (N:=x.length) (fun j a hp=>hp=h/\a.defers=[]/\ev a (.tmp 0)=some v/\ev a (.tmp 1)=some u/\eqLL x y=eqLL (x.drop j) (y.drop j)) ?_ ?_ ⟨rfl,n1,e1,e1,rfl⟩
  ·rintro j a hp hj ⟨rfl,hd,h0,h1,hr⟩ hi hn
   obtain⟨b,o,ver,ro,e,vs,hix,hget,hvo⟩:=hv.at (List.getElem?_eq_getElem hj)
   have hyj:=hly j hj
   obtain⟨b',o',ver',ro',e',vs',hix',hget',hvo'⟩:=hu.at (List.getElem?_eq_getElem hyj)
   rw[zNp hj hyj] at hr
   clear hend hly
   cases hc:eqL x[j] y[j]
   ·rw[hc,Bool.false_and] at hr
    repeat' first|refine zG ?_|(with_reducible apply zAD;exact e1;all_goals intro _)
    exact⟨by rw[hr],rfl⟩
   ·rw[hc,Bool.true_and] at hr
    repeat refine zR ?_
    exact⟨⟨rfl,n1,e1,e1,hr⟩,e1,e1⟩
  ·rintro a hp ⟨rfl,hd,h0,h1,hr⟩
   have hr':eqLL x y=true:=by rw[hr,hend]
   clear hr hend
   repeat' first|refine zG ?_|(with_reducible apply zAD;exact e1;all_goals intro _)
   exact⟨by rw[hr'],rfl⟩
 ·have hz:((Int.ofNat x.length:Int) != Int.ofNat y.length)=true:=by simp;omega
  have hr:=zMA hne
  repeat' first|refine zG ?_|(with_reducible apply zAD;exact e1;all_goals intro _)
  exact⟨by rw[hr],rfl⟩

theorem zMG(n:Node)(av lv:AVal)(h:AHeap)(hw:WF h):Cl fns summ 27 [zCF n av lv] h fun r h'=>r=.bool (zCY n)/\Grow h h':=by
 unfold zCF
 refine H.go (fn:=F_gfree) rfl (by decide) rfl rfl ?_
 unfold F_gfree
 dsimp only[qQ,gQ,vi,tm,mt,lo,fa,jk,jb,jo,jR,jS]
 refine zAv (zBC ?_)
 refine zAm e1 cc hw ?_
 rintro b1 h1 hb1 gr1 o1
 repeat' first|refine zG ?_|(with_reducible apply zAD;exact e1;all_goals intro _)
 exact⟨rfl,gr1⟩
theorem cfree_ok(n:Node)(av lv:AVal)(h:AHeap)(hw:WF h):Cl fns summ 90 [zCF n av lv] h fun r h'=>r=.bool (n.kind==1||n.isOpen)/\Grow h h':=by
 unfold zCF
 refine H.go (fn:=F_cfree) rfl (by decide) rfl rfl ?_
 unfold F_cfree
 dsimp only[qQ,gQ,tm,mt,lo,fa,jk,jb,jo,jR,jS]
 refine zAv (zBC ?_)
 refine zAm e1 cc hw ?_
 rintro b1 h1 hb1 gr1 o1
 repeat' first|refine zG ?_|(with_reducible apply zAD;exact e1;all_goals intro _)
 exact⟨rfl,gr1⟩
theorem alike_ok(x y:Node)(hx:NodeSm x)(av lv bv mv:AVal)(h:AHeap)(hw:WF h)(ha:IntsAt h av x.args)(hl:StrsAt h lv x.labels)(hb:IntsAt h bv y.args)(hm:StrsAt h mv y.labels):Cl fns summ 26 [zCF x av lv,zCF y bv mv] h fun r h'=>r=.bool (zEg x y)/\Grow h h':=by
 unfold zCF
 have e1':=ha.len
 have e2':=hb.len
 have hz:((Int.ofNat x.args.length:Int)==Int.ofNat y.args.length)=(x.args.length==y.args.length):=by rw[Bool.eq_iff_iff];simp;omega
 refine H.go (fn:=F_alike) rfl (by decide) rfl rfl ?_
 unfold F_alike
 dsimp only[qQ,gQ,gE,tm,mt,lo,fa,jn,jb,jo,jR,jS]
 refine zAv (zBC ?_)
 refine zAm e1 cc hw ?_
 rintro b1 h1 hb1 gr1 o1
 refine zAm e1 cc gr1.wf ?_
 rintro b2 h2 hb2 gr2 o2
 replace o1:=gr2.keep _ _ o1
 have gr:=gr1.trans gr2
 cases hc:(((x.kind==y.kind&&eqL x.name y.name)&&x.isOpen==y.isOpen)&&x.args.length==y.args.length)
 ·have hr:zEg x y=false:=by rw[zEg,hc,Bool.false_and]
  repeat' first|refine zG ?_|(with_reducible apply zAD;exact e1;all_goals intro _)
  exact⟨by rw[hr],gr⟩
 ·have hr:zEg x y=eqLL x.labels y.labels:=by rw[zEg,hc,Bool.true_and]
  repeat refine zR ?_
  refine zAr e1 s1 ((EqualStr_ok H x.labels y.labels hx.labels lv mv h2 (hl.mono gr) (hm.mono gr)).mono ?_)
  rintro _ _ ⟨rfl,rfl⟩
  repeat' first|refine zG ?_|(with_reducible apply zAD;exact e1;all_goals intro _)
  exact⟨by rw[hr],gr⟩
end
end Go.Ab.S
end
section
namespace Go.Ab.S
open Go.Ab
set_option maxHeartbeats 8000000
def eqII:List Int->List Int->Bool
 |[],[]=>true
 |a::x,b::y=>(a==b)&&eqII x y
 |_,_=>false
theorem zNo{x y:List Int}{i:Nat}(hx:i<x.length)(hy:i<y.length):eqII (x.drop i) (y.drop i)=((x[i]==y[i])&&eqII (x.drop (i+1)) (y.drop (i+1))):=by
 rw[List.drop_eq_getElem_cons hx,List.drop_eq_getElem_cons hy,eqII]
theorem zLz:∀{x y:List Int},x.length≠y.length->eqII x y=false
 |[],[],h=>absurd rfl h
 |[],_::_,_=>rfl
 |_::_,[],_=>rfl
 |a::x,b::y,h=>by
  rw[eqII,zLz (x:=x) (y:=y) (by simpa using h),Bool.and_false]
section
variable{fns:FnsT}{summ:SumT}
variable(H:Has fns summ)
include H
theorem EqualInt_ok(x y:List Int)(hx:x.length<2 ^ 60)(v u:AVal)(h:AHeap)(hv:IntsAt h v x)(hu:IntsAt h u y):Cl fns summ 65 [v,u] h fun r h'=>r=.bool (eqII x y)/\h'=h:=by
 refine H.go (fn:=F_EqualInt) rfl (by decide) rfl rfl ?_
 unfold F_EqualInt
 dsimp only[mt,lo,jn,jv,jb,ji,je,jR,jS,jC,jL]
 have hl1:=hv.len
 have hl2:=hu.len
 by_cases hne:x.length=y.length
 ·have hz:((Int.ofNat x.length:Int) != Int.ofNat y.length)=false:=by rw[hne];simp
  have hly:∀j,j<x.length->j<y.length:=fun j hj=>hne ▸ hj
  have hend:eqII (x.drop x.length) (y.drop x.length)=true:=by rw[List.drop_length,hne,List.drop_length];rfl
  clear hne
  repeat refine zR ?_
  refine zBR (N:=x.length) (fun j a hp=>hp=h/\a.defers=[]/\ev a (.tmp 0)=some v/\ev a (.tmp 1)=some u/\eqII x y=eqII (x.drop j) (y.drop j)) ?_ ?_ ⟨rfl,n1,e1,e1,rfl⟩
  ·rintro j a hp hj ⟨rfl,hd,h0,h1,hr⟩ hi hn
   obtain⟨b,o,ver,ro,e,vs,hix,hget,hvo⟩:=hv.at (List.getElem?_eq_getElem hj)
   have hyj:=hly j hj
   obtain⟨b',o',ver',ro',e',vs',hix',hget',hvo'⟩:=hu.at (List.getElem?_eq_getElem hyj)
   rw[zNo hj hyj] at hr
   clear hend hly
   cases hc:(x[j]==y[j])
   ·rw[hc,Bool.false_and] at hr
    have hcb:(x[j] != y[j])=true:=by simp only[bne,hc,Bool.not_false]
    repeat' first|refine zG ?_|(with_reducible apply zAD;exact e1;all_goals intro _)
    exact⟨by rw[hr],rfl⟩
   ·rw[hc,Bool.true_and] at hr
    have hcb:(x[j] != y[j])=false:=by simp only[bne,hc,Bool.not_true]
    repeat refine zR ?_
    exact⟨⟨rfl,n1,e1,e1,hr⟩,e1,e1⟩
  ·rintro a hp ⟨rfl,hd,h0,h1,hr⟩
   have hr':eqII x y=true:=by rw[hr,hend]
   clear hr hend
   repeat' first|refine zG ?_|(with_reducible apply zAD;exact e1;all_goals intro _)
   exact⟨by rw[hr'],rfl⟩
 ·have hz:((Int.ofNat x.length:Int) != Int.ofNat y.length)=true:=by simp;omega
  have hr:=zLz hne
  repeat' first|refine zG ?_|(with_reducible apply zAD;exact e1;all_goals intro _)
  exact⟨by rw[hr],rfl⟩

end
end Go.Ab.S
end
section
namespace Go.Ab.S
open Go.Ab
set_option maxHeartbeats 8000000
section
variable{fns:FnsT}{summ:SumT}
variable(H:Has fns summ)
include H
theorem zNI(cl:List Int)(i:Nat)(x:Int)(hi:cl[i]?=some x)(cv:AVal)(b ver:Nat)(rb:Bool)(eb:TypeId)(h:AHeap)(hb:h.objs.get b=some (ver,.cells rb eb [cv]))(hc:IntsAt h cv cl):Cl fns summ 92 [.int .i64 (i:Nat),.ptr (some (b,0))] h fun r h'=>r=.int .i64 x/\h'=h:=by
 obtain⟨b',o',ver',ro',e',vs',hix,hget,hvo⟩:=hc.at hi
 refine H.go (fn:=F_refine1) rfl (by decide) rfl rfl ?_
 unfold F_refine1
 dsimp only[mt,lo,jv,ji,jR,jS]
 repeat' first|refine zG ?_|(with_reducible apply zAD;exact e1;all_goals intro _)
 exact⟨rfl,rfl⟩
omit H
def zHS(l:List Nat):List AVal:=l.map fun x=>AVal.int .u8 (x:Nat)
def BAt(h:AHeap)(base b:Nat)(l:List Nat):Prop:=base<=b/\∃ver p v,h.objs.get b=some (ver,.cells false 225 [p,v])/\(p=.ptr none\/p=.ptr (some (b,0)))/\Built h base 5 1 v l.length (zHS l)
include H
theorem WriteString_ok(s l:List Nat)(hs0:s≠[])(hl:l.length+s.length<=1000000)(base b:Nat)(h h0:AHeap)(hb:BAt h base b l)(hw:WF h)(w0:WF h0)(hg:Grow h0 h)(hbase:h0.next<=base)(hbn:base<=h.next):
  Cl fns summ 118 [.ptr (some (b,0)),.str s] h fun _ h'=>BAt h' base b (l++s)/\Grow h0 h'/\base<=h'.next:=by
 obtain⟨hbb,ver,p,v,o,hp,B⟩:=hb
 have hone:=zAH B.len
 have key:∃h1 ver1,Cl fns summ 152 [.ptr (some (b,0))] h (fun _ h'=>h'=h1)/\h1.objs.get b=some (ver1,.cells false 225 [.ptr (some (b,0)),v])/\(h1=h\/But b h h1):=by
  rcases hp with rfl|rfl
  ·exact⟨_,_,zCH (H.checkNew b ver v h o hone) rfl,zAV _ _ _,.inr (zDa hw o _)⟩
  ·exact⟨h,ver,zCH (H.checkOld b ver v h o) rfl,o,.inl rfl⟩
 obtain⟨h1,ver1,hcall,o1,hb1⟩:=key
 have w1:WF h1:=by
  rcases hb1 with rfl|hb1
  ·exact hw
  ·exact hb1.wf hw
 have gr1:Grow h0 h1:=by
  rcases hb1 with rfl|hb1
  ·exact hg
  ·exact hb1.grow h0 w0 hg (Nat.le_trans hbase hbb)
 have nx1:h.next<=h1.next:=by
  rcases hb1 with rfl|hb1
  ·exact Nat.le_refl _
  ·exact hb1.next
 have kp1:∀c p,h.objs.get c=some p->c≠b->h1.objs.get c=some p:=fun c p hc hne=>by
  rcases hb1 with rfl|hb1
  ·exact hc
  ·exact hb1.keep c hne _ hc
 have B1:Built h1 base 5 1 v l.length (zHS l):=zAw B fun c p hc ⟨vs,hcp⟩ _=>kp1 c p hc (by
  rintro rfl
  rw[o] at hc
  simp only[oI] at hc
  rw[<-hc] at hcp;cases hcp)
 clear kp1 hb1 hp
 refine H.go (fn:=F_WriteString) rfl (by decide) rfl rfl ?_
 unfold F_WriteString
 dsimp only[qQ,qE,tm,mt,lo,fa,jv,js,jc,jR,jS]
 repeat refine zR ?_
 refine zAJ s1 (hcall.mono ?_)
 rintro _ _ rfl
 repeat refine zR ?_
 refine zIE (m:=s.length) (new:=zHS s) (xv:=.str s) e1 e1 B1 rfl (List.length_pos_iff.2 hs0) (by simp[zER,zHS]) ?_ ?_ (by simp[zHS]) w1 (by omega) ?_
 ·simp only[zHS,List.all_map,List.all_eq_true];intro x hx;rfl
 ·simp only[zCU];rw[Bool.and_eq_true,Nat.ble_eq,Nat.ble_eq];omega
 rintro v' h2 B2 hv2 w2 nx2 gr2 kp2
 have gr2:=gr2 h0 w0 gr1 hbase
 have o2:=kp2 _ _ o1 (zAF B1 o1 fun vs hh=>by cases hh)

 repeat refine zR ?_
 refine zAE e1 e1 (zAP B2.len) rfl w2 o2 (by simp) (by simp only[List.all_cons,List.all_nil,zAH B2.len,Bool.and_true]) ?_
 intro ver3 h3 bt3 o3
 have gr3:=bt3.grow h0 w0 gr2 (by omega)
 have B3:Built h3 base 5 1 v' (l.length+s.length) (zHS l++zHS s):=zAw B2 fun c p hc ⟨vs,hcp⟩ _=>bt3.keep c (by
  rintro rfl
  rw[o2] at hc
  simp only[oI] at hc
  rw[<-hc] at hcp;cases hcp) _ hc
 have nx3:=bt3.next
 clear B1 B2 bt3
 repeat' first|refine zG ?_|(with_reducible apply zAD;exact e1;all_goals intro _)
 refine⟨⟨hbb,ver3,_,v',o3,.inr rfl,?_⟩,gr3,by omega⟩
 have hbc:zHS (l++s)=zHS l++zHS s:=List.map_append
 rw[hbc,List.length_append];exact B3
end
end Go.Ab.S
end
section
namespace Go.Ab.S
open Go.Ab
set_option maxHeartbeats 8000000
theorem zLv:∀(f k n:Nat),0<k->n<10 ^ k->(digF f n).length<=k
 |0,k,n,hk,_=>by simp only[digF,List.length_singleton];omega
 |f+1,k,n,hk,hn=>by
  rw[digF]
  by_cases h10:n<10
  ·rw[if_pos h10];simp only[List.length_singleton];omega
  ·rw[if_neg h10,List.length_append]
   obtain⟨k',rfl⟩:∃k',k=k'+1:=⟨k - 1,by omega⟩
   have hk':0<k':=by
    rcases Nat.eq_zero_or_pos k' with rfl|h
    ·omega
    ·exact h
   have:=zLv f k' (n / 10) hk' (by rw[Nat.pow_succ] at hn;omega)
   simp only[zlC,zlN];omega
theorem zLw(k n:Nat)(hk:0<k)(hn:n<10 ^ k):(digN n).length<=k:=zLv _ k n hk hn
theorem zKz:∀(f n:Nat),digF f n≠[]
 |0,_=>by simp[digF]
 |f+1,n=>by rw[digF];split<;>simp
theorem digN_ne(n:Nat):digN n≠[]:=zKz _ _
theorem zJH:∀(f n:Nat),∀c∈digF f n,48<=c/\c<=57
 |0,n=>by intro c hc;simp only[digF,List.mem_singleton] at hc;omega
 |f+1,n=>by
  rw[digF]
  split
  ·intro c hc;simp only[List.mem_singleton] at hc;omega
  ·intro c hc
   rcases List.mem_append.1 hc with hc|hc
   ·exact zJH f _ c hc
   ·simp only[List.mem_singleton] at hc;omega
theorem zNg(n:Nat):∀c∈digN n,c<256:=fun c hc=>by have:=zJH 19 n c hc;omega
theorem zMK(n:Int):zAy n≠[]:=by
 unfold zAy;split
 ·simp
 ·exact digN_ne _
theorem zMJ(n:Int):∀c∈zAy n,c<256:=by
 unfold zAy;split
 ·intro c hc
  rcases List.mem_cons.1 hc with rfl|hc
  ·omega
  ·exact zNg _ c hc
 ·exact zNg _
theorem zGA{n:Int}(h0: -9223372036854775808<=n)(h1:n<=9223372036854775807):(zAy n).length<=20:=by
 unfold zAy;split
 ·have:=zLw 19 n.natAbs (by decide) (by omega)
  simp only[zlC];omega
 ·have:=zLw 19 n.toNat (by decide) (by omega)
  omega
def labS(l:List (List Nat)):List Nat:=(l.map fun x=>32::x).flatten
def argS(cl:Int->Int)(l:List Int):List Nat:=(l.map fun a=>44::zAy (cl a)).flatten
def zDx(n:Node):List Nat:=zAy n.kind++n.name
def zED(n:Node)(cl:Int->Int):List Nat:=zDx n++labS n.labels++argS cl n.args
theorem zKN{α:Type}(f:α->List Nat)(l:List α){j:Nat}(hj:j<l.length):((l.take (j+1)).map f).flatten=((l.take j).map f).flatten++f l[j]:=by
 rw[List.take_succ_eq_append_getElem hj,List.map_append,List.flatten_append];simp
theorem zOC{α:Type}(f:α->List Nat)(l:List α)(j:Nat):((l.take j).map f).flatten.length<=(l.map f).flatten.length:=by
 have:l.map f=(l.take j).map f++(l.drop j).map f:=by rw[<-List.map_append,List.take_append_drop]
 rw[this,List.flatten_append,List.length_append];omega
section
variable{fns:FnsT}{summ:SumT}
variable(H:Has fns summ)
include H
theorem look_ok(n:Node)(hs:NodeSm n)(cl:Int->Int)(fv av lv:AVal)(h:AHeap)(hw:WF h)(ha:IntsAt h av n.args)(hl:StrsAt h lv n.labels)
  (hk: -9223372036854775808<=n.kind/\n.kind<=9223372036854775807) (hc:∀a∈n.args,-9223372036854775808<=cl a/\cl a<=9223372036854775807)
  (hf:∀a∈n.args,∀h',Grow h h'->Cv fns summ fv [.int .i64 a] h' fun r h''=>r=.int .i64 (cl a)/\h''=h')
  (hlen:(zED n cl).length<=1000000) (hby:∀c∈zED n cl,c<256):Cl fns summ 91 [zCF n av lv,fv] h fun r h'=>r=.str (zED n cl)/\Grow h h':=by
 have hl1:=ha.len
 have hl2:=hl.len
 unfold zCF
 refine H.go (fn:=F_look) rfl (by decide) rfl rfl ?_
 unfold F_look
 dsimp only[qQ,qE,tm,mt,lo,fa,jn,jv,ji,je,jc,jd,jo,jR,jS,jL]
 refine zAv (zBC ?_)
 refine zAm e1 cc hw ?_
 intro bn h1 hbn gr1 on
 have w1:=gr1.wf
 repeat refine zR ?_
 refine zAS w1 ?_
 intro b h2 hb gr2 ob
 have w2:=gr2.wf
 have hbt:BAt h2 h1.next b []:=⟨hb,b,.ptr none,.slice none 0,ob,.inl rfl,.inl ⟨rfl,rfl,rfl⟩⟩
 have on2:=gr2.keep _ _ on
 repeat refine zR ?_
 have hlk:(zDx n++labS n.labels++argS cl n.args).length<=1000000:=hlen
 rw[List.length_append,List.length_append] at hlk
 have hki:(zAy n.kind).length+n.name.length<=1000000:=by
  have:(zDx n).length=(zAy n.kind).length+n.name.length:=List.length_append
  omega
 refine dr_e (zDA s1 (zCH (H.itoa n.kind h2 hk.1 hk.2) ?_))
 rw[D.sat_ret]
 refine⟨by simp[zAM,on2],?_⟩
 have hadd:(zAy n.kind).length+n.name.length<1000000000000:=by omega
 repeat refine zR ?_
 refine dr_e (zDA s1 ((WriteString_ok H (zAy n.kind++n.name) [] (by simp[zMK]) (by simp only[zlN,List.length_append];omega) h1.next b h2 h1 hbt w2 w1 gr2 (Nat.le_refl _) gr2.next).mono ?_))
 rintro _ h3 ⟨hb3,gr3,nx3⟩
 have on3:=gr3.keep _ _ on
 rw[zlA] at hb3
 refine⟨by simp[zAM,Nat.testBit,on3],?_⟩
 have hm1:bn<h1.next:=w1.lt on
 clear hbt on2
 repeat refine zR ?_
 refine zBR (N:=n.labels.length) (fun j a hp=>BAt hp h1.next b (zDx n++labS (n.labels.take j))/\Grow h1 hp/\h1.next<=hp.next/\a.defers=[]/\ev a (.tmp 2)=some (.ptr (some (bn,0)))/\ev a (.tmp 5)=some (.ptr (some (b,0)))/\ev a (.tmp 1)=some fv/\ev a (.tmp 18)=some lv) ?_ ?_ ⟨by simpa[labS,zDx] using hb3,gr3,nx3,n1,e1,e1,e1,e1⟩ (hN:=by have:=hs.labels;omega)
 ·rintro j a hp hj ⟨kb,kg,kn,hd,h2',h5,h1',h18⟩ hi hn
  obtain⟨b0,o0,ver0,ro0,e0,vs0,hix,hget,hvo⟩:=(hl.mono (gr1.trans kg)).at (List.getElem?_eq_getElem hj)
  have hw32:([32]++n.labels[j])=32::n.labels[j]:=rfl
  have htk:=zKN (fun x=>32::x) n.labels hj
  have hle:=zOC (fun x=>32::x) n.labels (j+1)
  have hlb:(labS (n.labels.take (j+1))).length=(labS (n.labels.take j)).length+(1+n.labels[j].length):=by
   simp only[labS,htk,List.length_append,zlC];omega
  have hle':(labS (n.labels.take (j+1))).length<=(labS n.labels).length:=hle
  have hadd:([32]:List Nat).length+n.labels[j].length<1000000000000:=by simp only[List.length_singleton];omega
  have hte:zDx n++labS (n.labels.take (j+1))=zDx n++labS (n.labels.take j)++([32]++n.labels[j]):=by
   simp only[labS,htk,List.append_assoc,hw32]
  clear hle htk hw32 on3
  repeat refine zR ?_
  refine zAJ s1 ((WriteString_ok H ([32]++n.labels[j]) (zDx n++labS (n.labels.take j)) (by simp) (by simp only[List.length_append,List.length_singleton];omega) h1.next b hp h1 kb kg.wf w1 kg (Nat.le_refl _) kn).mono ?_)
  rintro _ h4 ⟨hb4,gr4,nx4⟩
  rw[<-hte] at hb4
  clear hte hlb hle'
  repeat refine zR ?_
  exact⟨⟨hb4,gr4,nx4,n1,e1,e1,e1,e1⟩,e1,e1⟩
 ·rintro a hp ⟨kb,kg,kn,hd,h2',h5,h1',h18⟩
  rw[List.take_length] at kb
  have onp:=kg.keep _ _ on
  clear on3
  repeat refine zR ?_
  refine zBR (N:=n.args.length) (fun j a hp=>BAt hp h1.next b (zDx n++labS n.labels++argS cl (n.args.take j))/\Grow h1 hp/\h1.next<=hp.next/\a.defers=[]/\ev a (.tmp 5)=some (.ptr (some (b,0)))/\ev a (.tmp 1)=some fv/\ev a (.tmp 29)=some av) ?_ ?_ ⟨by simpa[argS] using kb,kg,kn,n1,e1,e1,e1⟩ (hN:=by have:=hs.args;omega)
  ·rintro j a hp hj ⟨kb,kg,kn,hd,h5,h1',h29⟩ hi hn
   obtain⟨b0,o0,ver0,ro0,e0,vs0,hix,hget,hvo⟩:=(ha.mono (gr1.trans kg)).at (List.getElem?_eq_getElem hj)
   have hmem:n.args[j]∈n.args:=List.getElem_mem hj
   have htk:=zKN (fun a=>44::zAy (cl a)) n.args hj
   have hle:=zOC (fun a=>44::zAy (cl a)) n.args (j+1)
   have hlb:(argS cl (n.args.take (j+1))).length=(argS cl (n.args.take j)).length+(1+(zAy (cl n.args[j])).length):=by
    simp only[argS,htk,List.length_append,zlC];omega
   have hle':(argS cl (n.args.take (j+1))).length<=(argS cl n.args).length:=hle
   have hadd:([44]:List Nat).length+(zAy (cl n.args[j])).length<1000000000000:=by simp only[List.length_singleton];omega
   have hte:zDx n++labS n.labels++argS cl (n.args.take (j+1))=zDx n++labS n.labels++argS cl (n.args.take j)++([44]++zAy (cl n.args[j])):=by
    simp only[argS,htk,List.append_assoc];rfl
   clear hle htk onp
   repeat refine zR ?_
   refine st_e (zEl e1 s1 ((hf _ hmem hp (gr1.trans kg)).mono ?_))
   rintro _ _ ⟨rfl,rfl⟩
   repeat refine zR ?_
   refine zAJ s1 (zCH (H.itoa _ _ (hc _ hmem).1 (hc _ hmem).2) ?_)
   rw[D.sat_ret]
   repeat refine zR ?_
   refine zAJ s1 ((WriteString_ok H ([44]++zAy (cl n.args[j])) (zDx n++labS n.labels++argS cl (n.args.take j)) (by simp) (by simp only[List.length_append,List.length_singleton];omega) h1.next b _ h1 kb kg.wf w1 kg (Nat.le_refl _) kn).mono ?_)
   rintro _ h4 ⟨hb4,gr4,nx4⟩
   rw[<-hte] at hb4
   clear hte hlb hle'
   repeat refine zR ?_
   exact⟨⟨hb4,gr4,nx4,n1,e1,e1,e1⟩,e1,e1⟩
  ·rintro a hp ⟨kb,kg,kn,hd,h5,h1',h29⟩
   rw[List.take_length] at kb
   have hS:zDx n++labS n.labels++argS cl n.args=zED n cl:=rfl
   rw[hS] at kb
   have hne:zED n cl≠[]:=by simp[zED,zDx,zMK]
   obtain⟨_,ver,p,v,o,_,B⟩:=kb
   rcases B with⟨_,h0,_⟩|⟨_,h0,_⟩|⟨c,vs,ver',hc',rfl,oc,hle,htk⟩
   ·exact absurd (List.length_eq_zero_iff.1 h0) hne
   ·exact absurd (List.length_eq_zero_iff.1 h0) hne
   rw[Nat.mul_one] at htk
   have ht:=H.text b ver p c ver' vs (zED n cl) hp o oc htk hne hby hlen
   clear onp hlk hki htk
   repeat refine zR ?_
   refine zAJ s1 (zCH ht ?_)
   rw[D.sat_ret]
   have gr9:Grow h (zCz hp c):=gr1.trans (kg.drop w1 hc')
   repeat' first|refine zG ?_|(with_reducible apply zAD;exact e1;all_goals intro _)
   exact⟨rfl,gr9⟩
end
end Go.Ab.S
end
section
namespace Go.Ab.S
section
variable{α:Type}[BEq α][LawfulBEq α](ok:α->Bool)(nx:α->List α)(bad:α->α->Bool)
def zDE:Nat->List α->List α->Bool
 |0,_,_=>false
 |_+1,[],_=>true
 |m+1,p::w,met=>if met.contains p then zDE m w met else if ok p&& !(met.any (bad p)) then zDE m (nx p++w) (met++[p]) else false
def zCb(met:List α):List α->Nat
 |[]=>0
 |p::r=>(if met.contains p then 0 else (nx p).length)+zCb met r
theorem zMM(met:List α)(p:α):∀ps:List α,zCb nx (met++[p]) ps<=zCb nx met ps
 |[]=>Nat.le_refl _
 |q::r=>by
  have ih:=zMM met p r
  simp only[zCb]
  cases h:met.contains q with
  |true=>
   have:(met++[p]).contains q=true:=by simp at h ⊢;exact .inl h
   rw[this];simpa using ih
  |false=>
   cases h2:(met++[p]).contains q<;>simp<;>omega
theorem zGC{met:List α}{p:α}(hp:met.contains p=false):∀{ps:List α},p∈ps->zCb nx (met++[p]) ps+(nx p).length<=zCb nx met ps
 |[],h=>by cases h
 |q::r,h=>by
  have hle:=zMM nx met p r
  simp only[zCb]
  by_cases hq:q=p
  ·subst hq
   have:(met++[q]).contains q=true:=by simp
   rw[this,hp];simp;omega
  ·have hr:p∈r:=by
    rcases List.mem_cons.1 h with h|h
    ·exact absurd h.symm hq
    ·exact h
   have ih:=zGC hp hr
   have:(met++[p]).contains q=met.contains q:=by
    rw[Bool.eq_iff_iff];simp[hq]
   rw[this];omega
theorem zGn(hsym:∀p q,bad p q=bad q p):∀(m:Nat) (w met:List α),zDE ok nx bad m w met=true->(∀p∈met,ok p=true/\∀q∈nx p,q∈met\/q∈w)->(∀p∈met,∀q∈met,p≠q->bad p q=false) →
  ∃S:List α,(∀p∈met,p∈S)/\(∀p∈w,p∈S)/\(∀p∈S,ok p=true/\∀q∈nx p,q∈S)/\∀p∈S,∀q∈S,p≠q->bad p q=false
 |0,_,_,h,_,_=>by simp[zDE] at h
 |m+1,[],met,h,h1,h2=>⟨met,fun _ h=>h,fun _ h=>(by cases h),fun p hp=>⟨(h1 p hp).1,fun q hq=>by
   rcases (h1 p hp).2 q hq with h|h
   ·exact h
   ·cases h⟩,h2⟩
 |m+1,p::w,met,h,h1,h2=>by
  rw[zDE] at h
  split at h
  ·rename_i hc
   have hc:p∈met:=by simpa using hc
   obtain⟨S,s1,s2,s3⟩:=zGn hsym m w met h (fun q hq=>⟨(h1 q hq).1,fun r hr=>by
    rcases (h1 q hq).2 r hr with h|h
    ·exact .inl h
    ·rcases List.mem_cons.1 h with rfl|h
     ·exact .inl hc
     ·exact .inr h⟩) h2
   exact⟨S,s1,fun q hq=>by
    rcases List.mem_cons.1 hq with rfl|hq
    ·exact s1 _ hc
    ·exact s2 q hq,s3⟩
  ·rename_i hc
   split at h
   ·rename_i hk
    simp only[Bool.and_eq_true,Bool.not_eq_true',List.any_eq_false] at hk
    obtain⟨S,s1,s2,s3⟩:=zGn hsym m (nx p++w) (met++[p]) h (fun q hq=>by
     rcases List.mem_append.1 hq with hq|hq
     ·refine⟨(h1 q hq).1,fun r hr=>?_⟩
      rcases (h1 q hq).2 r hr with h|h
      ·exact .inl (List.mem_append.2 (.inl h))
      ·rcases List.mem_cons.1 h with rfl|h
       ·exact .inl (by simp)
       ·exact .inr (List.mem_append.2 (.inr h))
     ·simp only[List.mem_singleton] at hq
      subst hq
      exact⟨hk.1,fun r hr=>.inr (List.mem_append.2 (.inl hr))⟩) (fun q hq r hr hne=>by
     rcases List.mem_append.1 hq with kq|kq<;>rcases List.mem_append.1 hr with kr|kr
     ·exact h2 q kq r kr hne
     ·simp only[List.mem_singleton] at kr;subst kr
      rw[hsym]
      exact Bool.eq_false_iff.2 (hk.2 q kq)
     ·simp only[List.mem_singleton] at kq;subst kq
      exact Bool.eq_false_iff.2 (hk.2 r kr)
     ·simp only[List.mem_singleton] at kq kr;subst kq;exact absurd kr.symm hne)
    exact⟨S,fun q hq=>s1 q (List.mem_append.2 (.inl hq)),fun q hq=>by
     rcases List.mem_cons.1 hq with rfl|hq
     ·exact s1 _ (by simp)
     ·exact s2 q (List.mem_append.2 (.inr hq)),s3⟩
   ·cases h
theorem zEZ{S:α->Prop}(hS:∀p,S p->ok p=true/\∀q∈nx p,S q)(hb:∀p q,S p->S q->p≠q->bad p q=false){ps:List α}(hps:∀p,S p->p∈ps):∀(m:Nat) (w met:List α),(∀p∈w,S p)->(∀p∈met,S p) →
  w.length+zCb nx met ps<m->zDE ok nx bad m w met=true
 |0,_,_,_,_,h=>by omega
 |m+1,[],_,_,_,_=>rfl
 |m+1,p::w,met,h1,h2,h=>by
  rw[zDE]
  have hp:=h1 p (by simp)
  have hw:∀q∈w,S q:=fun q hq=>h1 q (by simp[hq])
  cases hc:met.contains p with
  |true=>
   rw[if_pos rfl]
   exact zEZ hS hb hps m w met hw h2 (by simp only[zlC] at h;omega)
  |false=>
   have hnb:met.any (bad p)=false:=by
    rw[List.any_eq_false]
    intro q hq
    have hne:p≠q:=by rintro rfl;simp at hc;exact hc hq
    simp[hb p q hp (h2 q hq) hne]
   rw[if_neg (by simp),(hS p hp).1,hnb]
   simp only[Bool.not_false,Bool.and_self,if_true]
   refine zEZ hS hb hps m (nx p++w) (met++[p]) (fun q hq=>?_) (fun q hq=>?_) ?_
   ·rcases List.mem_append.1 hq with hq|hq
    ·exact(hS p hp).2 q hq
    ·exact hw q hq
   ·rcases List.mem_append.1 hq with hq|hq
    ·exact h2 q hq
    ·simp only[List.mem_singleton] at hq;subst hq;exact hp
   ·have:=zGC nx hc (hps p hp)
    simp only[List.length_append,zlC] at h ⊢
    omega
theorem zMj(hsym:∀p q,bad p q=bad q p){ps:List α}(r:α)(hr:r∈ps)(hps:∀p∈ps,ok p=true->∀q∈nx p,q∈ps):
  zDE ok nx bad (2+zCb nx [] ps) [r] []=true↔∃S:α->Prop,S r/\(∀p,S p->p∈ps/\ok p=true/\∀q∈nx p,S q)/\∀p q,S p->S q->p≠q->bad p q=false:=by
 constructor
 ·intro h
  obtain⟨S,_,s2,s3,s4⟩:=zGn ok nx bad hsym _ _ _ h (by intro p hp;cases hp) (by intro p hp;cases hp)
  exact⟨fun p=>p∈S/\p∈ps,⟨s2 r (by simp),hr⟩,fun p hp=>⟨hp.2,(s3 p hp.1).1,fun q hq=>⟨(s3 p hp.1).2 q hq,hps p hp.2 (s3 p hp.1).1 q hq⟩⟩,fun p q hp hq=>s4 p hp.1 q hq.1⟩
 ·rintro⟨S,h1,h2,h3⟩
  exact zEZ ok nx bad (S:=S) (fun p hp=>(h2 p hp).2) h3 (fun p hp=>(h2 p hp).1) _ _ _ (by simpa using h1) (by simp) (by simp only[zlC,zlN];omega)
end
end Go.Ab.S
end
section
namespace Go.Ab.S
open Go.Ab
set_option maxHeartbeats 1000000
theorem zFM(p:Nat->Bool):∀{a b r s:List Nat},(∀x∈a,p x=true)->(∀x∈b,p x=true)->(∀x,r.head?=some x->p x=false)->(∀x,s.head?=some x->p x=false)->a++r=b++s->a=b/\r=s
 |[],[],_,_,_,_,_,_,h=>⟨rfl,h⟩
 |[],y::b,r,s,_,hb,hr,_,h=>by
  have h:r=y::(b++s):=h
  have:=hr y (by rw[h];rfl)
  rw[hb y (by simp)] at this;cases this
 |x::a,[],r,s,ha,_,_,hs,h=>by
  have h:x::(a++r)=s:=h
  have:=hs x (by rw[<-h];rfl)
  rw[ha x (by simp)] at this;cases this
 |x::a,y::b,r,s,ha,hb,hr,hs,h=>by
  simp only[zlK,List.cons.injEq] at h
  obtain⟨h1,h2⟩:=zFM p (fun z hz=>ha z (by simp[hz])) (fun z hz=>hb z (by simp[hz])) hr hs h.2
  exact⟨by rw[h.1,h1],h2⟩
def zJR(c:Nat):Bool:=Nat.ble 48 c&&Nat.ble c 57
theorem dig_is{n c:Nat}(h:c∈digN n):zJR c=true:=by
 have:=zJH 19 n c h
 simp only[zJR,Bool.and_eq_true]
 exact⟨Nat.ble_eq_true_of_le this.1,Nat.ble_eq_true_of_le this.2⟩
theorem zLu:∀(f n m:Nat),n<10 ^ (f+1)->m<10 ^ (f+1)->digF f n=digF f m->n=m
 |0,n,m,hn,hm,h=>by simp only[digF,List.cons.injEq,and_true] at h;omega
 |f+1,n,m,hn,hm,h=>by
  rw[Nat.pow_succ] at hn hm
  rw[digF,digF] at h
  split at h<;>split at h
  ·simp only[List.cons.injEq,and_true] at h;omega
  ·have:=congrArg List.length h
   have h0:=zKz f (m / 10)
   have h1:(digF f (m / 10)).length≠0:=fun e=>h0 (List.length_eq_zero_iff.1 e)
   rw[List.length_append] at this
   simp only[List.length_singleton] at this
   omega
  ·have:=congrArg List.length h
   have h0:=zKz f (n / 10)
   have h1:(digF f (n / 10)).length≠0:=fun e=>h0 (List.length_eq_zero_iff.1 e)
   rw[List.length_append] at this
   simp only[List.length_singleton] at this
   omega
  ·have h2:=List.append_inj' h rfl
   have:=zLu f (n / 10) (m / 10) (by omega) (by omega) h2.1
   simp only[List.cons.injEq,and_true] at h2
   omega
theorem digN_inj{n m:Nat}(hn:n<2 ^ 60)(hm:m<2 ^ 60)(h:digN n=digN m):n=m:=by
 have e:(2:Nat) ^ 60<=10 ^ (19+1):=by decide
 exact zLu 19 n m (by omega) (by omega) h
def InR(x:Int):Prop:=0<=x/\x<2 ^ 60
theorem zFH{x:Int}(h:InR x):∀c∈zAy x,zJR c=true:=by
 unfold zAy
 rw[if_neg (by have:=h.1;omega)]
 intro c hc;exact dig_is hc
theorem zJS{x y:Int}(hx:InR x)(hy:InR y)(h:zAy x=zAy y):x=y:=by
 unfold zAy at h
 rw[if_neg (by have:=hx.1;omega),if_neg (by have:=hy.1;omega)] at h
 have h1:=hx.1;have h2:=hx.2;have h3:=hy.1;have h4:=hy.2
 have:=digN_inj (by omega) (by omega) h
 omega
theorem zBB:∀{a b:List Nat},eqL a b=true↔a=b
 |[],[]=>by simp[eqL]
 |[],_::_=>by simp[eqL]
 |_::_,[]=>by simp[eqL]
 |x::a,y::b=>by
  rw[eqL]
  cases h:Nat.beq x y with
  |true=>
   have:=Nat.eq_of_beq_eq_true h
   subst this
   simp[zBB (a:=a) (b:=b)]
  |false=>
   have:x≠y:=by rintro rfl;rw[Nat.beq_refl] at h;cases h
   simp[this]
theorem zHF:∀{a b:List (List Nat)},eqLL a b=true↔a=b
 |[],[]=>by simp[eqLL]
 |[],_::_=>by simp[eqLL]
 |_::_,[]=>by simp[eqLL]
 |x::a,y::b=>by simp[eqLL,zBB,zHF (a:=a) (b:=b)]
theorem zJK:∀{a b:List Int},eqII a b=true↔a=b
 |[],[]=>by simp[eqII]
 |[],_::_=>by simp[eqII]
 |_::_,[]=>by simp[eqII]
 |x::a,y::b=>by simp[eqII,zJK (a:=a) (b:=b)]
theorem zIz:∀(s:List Nat) (i:Nat),zGS i s=i+s.length->∀c∈s,zJN c false=true
 |[],_,_=>by intro c hc;cases hc
 |x::s,i,h=>by
  rw[zGS] at h
  split at h
  ·rename_i hg
   intro c hc
   rcases List.mem_cons.1 hc with rfl|hc
   ·revert hg;simp only[zJN]
    cases (i==0)<;>simp<;>omega
   ·exact zIz s (i+1) (by rw[h];simp only[zlC];omega) c hc
  ·simp only[zlC] at h;omega
theorem zGI{s:List Nat}(h:zCk s=true):∀c∈s,48<=c/\c<=122/\c≠58:=by
 simp only[zCk,Bool.and_eq_true,beq_iff_eq] at h
 intro c hc
 have:=zIz s 0 (by rw[Nat.zero_add];exact h.1.2) c hc
 simp only[zJN,Bool.or_eq_true,Bool.and_eq_true,decide_eq_true_eq,beq_iff_eq] at this
 omega
theorem zEu:∀{l:List (List Nat)} {p:Option (List Nat)},risG p l=true->∀s∈l,zCk s=true
 |[],_,_=>by intro s hs;cases hs
 |x::l,p,h=>by
  simp only[risG,Bool.and_eq_true] at h
  intro s hs
  rcases List.mem_cons.1 hs with rfl|hs
  ·exact h.1.1
  ·exact zEu h.2 s hs
theorem zON:∀{a b:List (List Nat)},(∀s∈a,∀c∈s,c≠32)->(∀s∈b,∀c∈s,c≠32)->labS a=labS b->a=b
 |[],[],_,_,_=>rfl
 |[],y::b,_,_,h=>by simp[labS] at h
 |x::a,[],_,_,h=>by simp[labS] at h
 |x::a,y::b,ha,hb,h=>by
  simp only[labS,List.map_cons,List.flatten_cons,zlK,List.cons.injEq,true_and] at h
  have hh:∀(l:List (List Nat)) z,((l.map fun x=>32::x).flatten).head?=some z->(z != 32)=false:=by
   intro l z hz
   cases l with
   |nil=>simp at hz
   |cons w l=>simp at hz;simp[<-hz]
  obtain⟨h1,h2⟩:=zFM (fun c=>c != 32) (fun c hc=>by simpa using ha x (by simp) c hc) (fun c hc=>by simpa using hb y (by simp) c hc) (hh a) (hh b) h
  rw[h1,zON (fun s hs=>ha s (by simp[hs])) (fun s hs=>hb s (by simp[hs])) h2]
theorem zNS{f g:Int->Int}:∀{a b:List Int},(∀x∈a,InR (f x))->(∀x∈b,InR (g x))->argS f a=argS g b->a.map f=b.map g
 |[],[],_,_,_=>rfl
 |[],y::b,_,_,h=>by simp[argS] at h
 |x::a,[],_,_,h=>by simp[argS] at h
 |x::a,y::b,ha,hb,h=>by
  simp only[argS,List.map_cons,List.flatten_cons,zlK,List.cons.injEq,true_and] at h
  have hh:∀(k:Int->Int) (l:List Int) z,((l.map fun a=>44::zAy (k a)).flatten).head?=some z->zJR z=false:=by
   intro k l z hz
   cases l with
   |nil=>simp at hz
   |cons w l=>simp at hz;rw[<-hz];rfl
  obtain⟨h1,h2⟩:=zFM zJR (zFH (ha x (by simp))) (zFH (hb y (by simp))) (hh f a) (hh g b) h
  rw[List.map_cons,List.map_cons,zJS (ha x (by simp)) (hb y (by simp)) h1,zNS (fun z hz=>ha z (by simp[hz])) (fun z hz=>hb z (by simp[hz])) h2]

def zAL(n:Node):Bool:=n.kind==1||n.isOpen
def clAt(cl:List Int)(a:Int):Int:=cl.getD a.toNat 0
def keyS(cl:List Int)(i:Nat)(n:Node):List Nat:=zAy (clAt cl i)++[58]++(if zAL n then 35::zAy i else [])++zED n (clAt cl)
theorem zAI{n:Node}{N:Int}(h:mayF n N=true):(n.kind=1/\n.labels=[]/\n.isOpen=false/\n.name=[]/\n.args=[])\/(n.kind=2/\n.labels=[]/\n.isOpen=false/\arIs n.name=true/\n.args.length=arK n.name)\/(n.kind=3/\n.name=[]/\n.labels.length=n.args.length/\zEw n.labels=true):=by
 unfold mayF at h
 split at h
 ·cases h
 split at h
 ·rename_i h1
  simp only[Bool.and_eq_true,beq_iff_eq,Bool.not_eq_true',zBB,List.length_eq_zero_iff] at h h1
  exact .inl ⟨h1,h.1.1.1,h.1.1.2,h.1.2,h.2⟩
 split at h
 ·rename_i h1
  simp only[Bool.and_eq_true,beq_iff_eq,Bool.not_eq_true',zBB,List.length_eq_zero_iff] at h h1
  exact .inr (.inl ⟨h1,h.1.1.1,h.1.1.2,h.1.2,h.2⟩)
 split at h
 ·rename_i h1
  simp only[Bool.and_eq_true,beq_iff_eq,zBB] at h h1
  exact .inr (.inr ⟨h1,h.1.1,h.1.2,h.2⟩)
 ·cases h
theorem ar_names{s:List Nat}(h:arIs s=true):∀c∈s,c≠44:=by
 simp only[arIs,Bool.or_eq_true,zBB] at h
 rcases h with ((((h|h)|h)|h)|h)|h<;>subst h<;>decide
theorem key_inj{cl:List Int}{i j:Nat}{n m:Node}{N:Int}(hcl:∀a,InR (clAt cl a))(hi:InR i)(hj:InR j)(hn:mayF n N=true)(hm:mayF m N=true)(h:keyS cl i n=keyS cl j m):
  clAt cl i=clAt cl j/\((zAL n=true\/zAL m=true)->i=j)/\n.kind=m.kind/\n.name=m.name/\n.labels=m.labels/\n.args.map (clAt cl)=m.args.map (clAt cl)/\zAL n=zAL m:=by
 unfold keyS at h
 simp only[List.append_assoc,List.singleton_append] at h
 obtain⟨h1,h2⟩:=zFM zJR (zFH (hcl _)) (zFH (hcl _)) (by intro x hx;simp at hx;rw[<-hx];rfl) (by intro x hx;simp at hx;rw[<-hx];rfl) h
 have e1:=zJS (hcl _) (hcl _) h1
 replace h2:=List.append_cancel_left (as:=[58]) h2
 simp only[List.append_eq] at h2
 have hd:∀{n:Node},mayF n N=true->∃d:Nat,d∈[49,50,51]/\∃r,zED n (clAt cl)=d::r/\n.kind=(d:Int) - 48/\r=n.name++labS n.labels++argS (clAt cl) n.args:=by
  intro n hn
  rcases zAI hn with⟨hk,_⟩|⟨hk,_⟩|⟨hk,_⟩
  ·exact⟨49,by simp,_,by simp only[zED,zDx,hk];rfl,by rw[hk];rfl,rfl⟩
  ·exact⟨50,by simp,_,by simp only[zED,zDx,hk];rfl,by rw[hk];rfl,rfl⟩
  ·exact⟨51,by simp,_,by simp only[zED,zDx,hk];rfl,by rw[hk];rfl,rfl⟩
 have hr:∀{n:Node},mayF n N=true->zAL n=true->∀x,(n.name++labS n.labels++argS (clAt cl) n.args).head?=some x->zJR x=false:=by
  intro n hn hf x hx
  rcases zAI hn with⟨hk,k1,k2,k3,k4⟩|⟨hk,k1,k2,k3,k4⟩|⟨hk,k1,k2,k3⟩
  ·rw[k1,k3,k4] at hx;simp[labS,argS] at hx
  ·simp[zAL,hk,k2] at hf
  ·rw[k1,zlA] at hx
   cases hl:n.labels with
   |nil=>
    rw[hl] at hx
    cases ha:n.args with
    |nil=>rw[ha] at hx;simp[labS,argS] at hx
    |cons a r=>rw[ha] at hx;simp[labS,argS] at hx;rw[<-hx];rfl
   |cons s r=>rw[hl] at hx;simp[labS] at hx;rw[<-hx];rfl
 obtain⟨d,hd1,r,hd2,hd3,hd4⟩:=hd hn
 obtain⟨d',hd1',r',hd2',hd3',hd4'⟩:=hd hm
 rw[hd2,hd2'] at h2
 have key:d::r=d'::r'/\(zAL n=true\/zAL m=true->i=j)/\zAL n=zAL m:=by
  cases hfn:zAL n<;>cases hfm:zAL m<;>rw[hfn,hfm] at h2
  ·simp only[Bool.false_eq_true,if_false,zlA] at h2
   exact⟨h2,by simp,rfl⟩
  ·simp only[Bool.false_eq_true,if_false,if_true,zlA,zlK,List.cons.injEq] at h2
   have:=h2.1;revert hd1;subst this;simp
  ·simp only[Bool.false_eq_true,if_false,if_true,zlA,zlK,List.cons.injEq] at h2
   have:=h2.1;revert hd1';subst this;simp
  ·simp only[if_true,zlK,List.cons.injEq,true_and] at h2
   have hdig:∀d,d∈([49,50,51]:List Nat)->zJR d=true:=by decide
   rw[hd4,hd4'] at h2
   obtain⟨h3,h4⟩:=zFM zJR (a:=zAy i++[d]) (b:=zAy j++[d']) (fun x hx=>by
     rcases List.mem_append.1 hx with hx|hx
     ·exact zFH hi x hx
     ·simp only[List.mem_singleton] at hx;subst hx;exact hdig _ hd1) (fun x hx=>by
     rcases List.mem_append.1 hx with hx|hx
     ·exact zFH hj x hx
     ·simp only[List.mem_singleton] at hx;subst hx;exact hdig _ hd1') (hr hn hfn) (hr hm hfm) (by simpa using h2)
   obtain⟨h5,h6⟩:=List.append_inj' h3 rfl
   have:=zJS hi hj h5
   simp only[List.cons.injEq,and_true] at h6
   rw[hd4,hd4',h4,h6]
   exact⟨rfl,fun _=>by omega,rfl⟩
 obtain⟨k1,k2,k3⟩:=key
 simp only[List.cons.injEq] at k1
 have hkind:n.kind=m.kind:=by rw[hd3,hd3',k1.1]
 have hrest:=k1.2
 rw[hd4,hd4'] at hrest
 have hno:∀{n:Node},mayF n N=true->(∀c∈n.name++labS n.labels,(c != 44)=true)/\(∀s∈n.labels,∀c∈s,c≠32):=by
  intro n hn
  have hlab:zEw n.labels=true->(∀c∈labS n.labels,c≠44)/\(∀s∈n.labels,∀c∈s,c≠32):=by
   intro hri
   have hnm:=zEu (p:=none) hri
   refine⟨fun c hc=>?_,fun s hs c hc=>?_⟩
   ·simp only[labS,List.mem_flatten,List.mem_map] at hc
    obtain⟨_,⟨s,hs,rfl⟩,hc⟩:=hc
    rcases List.mem_cons.1 hc with rfl|hc
    ·decide
    ·have:=zGI (hnm s hs) c hc;omega
   ·have:=zGI (hnm s hs) c hc;omega
  rcases zAI hn with⟨hk,k1,k2,k3,k4⟩|⟨hk,k1,k2,k3,k4⟩|⟨hk,k1,k2,k3⟩
  ·rw[k1,k3];exact⟨fun c hc=>by simp[labS] at hc,fun s hs=>by cases hs⟩
  ·rw[k1]
   refine⟨fun c hc=>?_,fun s hs=>by cases hs⟩
   simp[labS] at hc
   simpa using ar_names k3 c hc
  ·rw[k1,zlA]
   obtain⟨h1,h2⟩:=hlab k3
   exact⟨fun c hc=>by simpa using h1 c hc,h2⟩
 have hh:∀(l:List Int) z,(argS (clAt cl) l).head?=some z->(z != 44)=false:=by
  intro l z hz
  cases l with
  |nil=>simp[argS] at hz
  |cons w l=>simp[argS] at hz;simp[<-hz]
 obtain⟨h5,h6⟩:=zFM (fun c=>c != 44) (hno hn).1 (hno hm).1 (hh _) (hh _) hrest
 have hargs:=zNS (fun x _=>hcl x) (fun x _=>hcl x) h6
 have hnl:n.name=m.name/\n.labels=m.labels:=by
  rcases zAI hn with⟨hk,q1,_,q3,_⟩|⟨hk,q1,_⟩|⟨hk,q1,_⟩
  ·rcases zAI hm with⟨hk',q1',_,q3',_⟩|⟨hk',_⟩|⟨hk',_⟩
   ·rw[q1,q1',q3,q3'];exact⟨rfl,rfl⟩
   ·omega
   ·omega
  ·rcases zAI hm with⟨hk',_⟩|⟨hk',q1',_⟩|⟨hk',_⟩
   ·omega
   ·rw[q1,q1']
    rw[q1,q1'] at h5
    simp[labS] at h5
    exact⟨h5,rfl⟩
   ·omega
  ·rcases zAI hm with⟨hk',_⟩|⟨hk',_⟩|⟨hk',q1',_⟩
   ·omega
   ·omega
   ·rw[q1,q1'] at h5 ⊢
    exact⟨rfl,zON (hno hn).2 (hno hm).2 (by simpa using h5)⟩
 exact⟨e1,k2,hkind,hnl.1,hnl.2,hargs,k3⟩
end Go.Ab.S
end
