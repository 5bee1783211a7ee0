import Derived.Test.YtffgndlognihcaaGreatDoorP04
import Derived.Test.YtffgndlognihcaaGreatDoorP05
import Derived.Test.YtffgndlognihcaaGreatDoorP08
import Derived.Test.YtffgndlognihcaaGreatDoorP14
import Derived.Test.YtffgndlognihcaaGreatDoorP15
import Derived.Test.YtffgndlognihcaaGreatDoorP21
import Derived.Shelf.Strings.Search3
import Derived.Shelf.Strings.BuilderK
import Derived.Shelf.Strconv.Itoa3
import Derived.KernelRfl
import Derived.Test.YtffgndlognihcaaGreatDoorProg
import Derived.Shelf.Sort.Plain
import Derived.Sort.OwnSorted
import Derived.Shelf.Slices.In.SortNone
/-
  Part 22 of the proof.
-/
set_option linter.all false
section
namespace Go.Ab.S
open Go Go.Ab
set_option maxHeartbeats 8000000
theorem law_yes{g h A:Graph}(tg:GTi g)(th:GTi h)(cg:zAB g=0)(ch:zAB h=0)(hN:g.nodes.length+h.nodes.length<=400)(hL:zAY [] g.nodes 0+zAY [] h.nodes 0<=400)(m:MR g h A):GTi A/\isF g A=true/\isF h A=true/\isF g h=zGO A h:=by
 have hs:g.nodes.length+h.nodes.length<=1048576:=by omega
 have tA:=m.gti (N:=400) (L:=400) cg ch tg th hN hL (by decide) (by decide)
 have cA:=m.check cg ch hs
 obtain⟨i1,i2,i3⟩:=zOJ cg ch hs m
 refine⟨tA,(zFz tg tA cg cA).2 i1,(zFz th tA ch cA).2 i2,?_⟩
 rw[Bool.eq_iff_iff,zFz tg th cg ch]
 exact i3
theorem law_no{g h:Graph}(tg:GTi g)(th:GTi h)(cg:zAB g=0)(ch:zAB h=0)(hN:g.nodes.length+h.nodes.length<=400)(n:¬Consi (zBA g h) (zBw g h)):isF g h=false/\isF h g=false:=by
 have hs:g.nodes.length+h.nodes.length<=1048576:=by omega
 obtain⟨n1,n2⟩:=zOK cg ch hs n
 exact⟨by rw[<-Bool.not_eq_true,zFz tg th cg ch];exact n1,by rw[<-Bool.not_eq_true,zFz th tg ch cg];exact n2⟩
def zeroG:Graph:=⟨[],0⟩
theorem zero_at(h:AHeap):GraphAt h (.agg [.slice none 0,.int .i64 0]) zeroG:=⟨.slice none 0,rfl,⟨[],⟨rfl,fun i x hx=>by simp at hx⟩,rfl,fun i n c hn=>by simp[zeroG] at hn⟩⟩
section
variable{fns:FnsT}{summ:SumT}
variable(H:Has fns summ)(HS:HasSort summ)(HA:HasAs summ)
include H HS HA
theorem MeetB(g h:Graph)(cg:zAB g=0)(ch:zAB h=0)(sm:MeetSm g h){gv hv':AVal}{h0:AHeap}(w0:WF h0)(hv:GraphAt h0 gv g)(hu:GraphAt h0 hv' h):
  Cl fns summ 17 [gv,hv'] h0 fun r h'=>Grow h0 h'/\∃un ur code A,r=.tuple [.agg [un,.int .i64 ur],.int .i64 code]/\one un=true/\Hid (GraphAt h' (.agg [un,.int .i64 ur]) A)/\Hid ((code=0/\MR g h A)\/(code≠0/\¬Consi (zBA g h) (zBw g h))):=by
 refine(Meet_ok H HS HA g h sm.g1 sm.h1 sm.b sm.l sm.s w0 hv hu).mono ?_
 rintro _ h' ⟨g1,uv,code,rfl,hz,hc⟩
 refine⟨g1,?_⟩
 rcases hc with⟨k1,_⟩|⟨_,k1,_⟩|⟨_,_,k2,k3⟩|⟨_,_,k2,U,R,O,own⟩
 ·exact absurd cg k1
 ·exact absurd ch k1
 ·have hne:code≠0:=by omega
  obtain rfl:=hz hne
  exact⟨_,_,_,zeroG,rfl,rfl,⟨zero_at _⟩,⟨.inr ⟨hne,k3⟩⟩⟩
 ·obtain⟨un,cs,rfl,kB,kl,kn⟩:=own
  have own:OwnG h' h0.next (.agg [un,.int .i64 (zBd U).root]) (zBd U):=⟨un,cs,rfl,kB,kl,kn⟩
  exact⟨un,_,code,zBd U,rfl,zAH kB.len,⟨own.graph⟩,⟨.inl ⟨k2,U,R,O,rfl⟩⟩⟩
variable(HR:HasRead summ)
include HR
theorem InstMeets_ok(g h:Graph)(hg:Sane g)(hh:Sane h)(v u:AVal)(h0:AHeap)(hw:WF h0)(hv:GraphAt h0 v g)(hu:GraphAt h0 u h):Cl fns summ 6 [v,u] h0 fun r h'=>r=.bool true/\Grow h0 h':=by
 obtain⟨nv,rfl,hN⟩:=hv
 obtain⟨mv,rfl,hM⟩:=hu
 have p3:zAl (some 2) [nv,.int .i64 g.root] 0=some (.agg [nv,.int .i64 g.root]):=rfl
 have p4:zAl (some 2) [mv,.int .i64 h.root] 0=some (.agg [mv,.int .i64 h.root]):=rfl
 have ht2:∀x y:AVal,List.take 2 [x,y]=[x,y]:=fun _ _=>rfl
 refine H.go (fn:=F_InstMeets) rfl (by decide) rfl rfl ?_
 unfold F_InstMeets
 dsimp only[qQ,qE,gQ,gE,vi,tm,mt,jk,jb,jl,js,jd,jx,jo,jt,jG,jR,jS,jC]
 refine zAv (zBC ?_)
 refine zAm e1 cc hw ?_
 rintro b3 h1 hb3 g1 o3
 refine zAm e1 cc g1.wf ?_
 rintro b4 h2 hb4 g2 o4
 replace o3:=g2.keep _ _ o3
 have G:=g1.trans g2
 clear g1 g2 hb3 hb4
 repeat refine zR ?_
 refine zAJ s1 ((zMk H HR h2 G.wf).mono ?_)
 rintro _ h4 ⟨rfl,g4⟩
 replace o3:=g4.keep _ _ o3
 replace o4:=g4.keep _ _ o4
 replace G:=G.trans g4
 clear g4
 repeat refine zR ?_
 refine zAJ s1 ((good_ok H g h hg.great hh.great 200 _ _ h4 G.wf ⟨nv,rfl,hN.mono G⟩ ⟨mv,rfl,hM.mono G⟩).mono ?_)
 rintro _ h5 ⟨rfl,g5⟩
 replace o3:=g5.keep _ _ o3
 replace o4:=g5.keep _ _ o4
 replace G:=G.trans g5
 clear g5
 cases c1:(decide ((zCv g:Int)<=200)&&decide ((zCv h:Int)<=200))
 ·repeat' first|refine zG ?_|(with_reducible apply zAD;exact e1;all_goals intro _)
  exact⟨rfl,G⟩
 have F:Hid (GTi g/\GTi h/\MeetSm g h/\g.nodes.length+h.nodes.length<=400/\zAY [] g.nodes 0+zAY [] h.nodes 0<=400):=⟨by
  simp only[Bool.and_eq_true,decide_eq_true_eq] at c1
  have l1:=zHf g
  have l2:=zHf h
  have tg:GTi g:=hg.tiny (by omega)
  have th:GTi h:=hh.tiny (by omega)
  exact⟨tg,th,.of (N:=400) (L:=400) tg th (by omega) (by omega) (by decide) (by decide) (by decide),by omega,by omega⟩⟩
 repeat refine zR ?_
 refine zAr e1 s1 ((Check_ok H g hg.sm _ h5 G.wf ⟨nv,rfl,hN.mono G⟩).mono ?_)
 rintro _ h7 ⟨rfl,g7⟩
 replace o3:=g7.keep _ _ o3
 replace o4:=g7.keep _ _ o4
 replace G:=G.trans g7
 clear g7
 cases c3:(zAB g != 0)
 rotate_left
 ·repeat' first|refine zG ?_|(with_reducible apply zAD;exact e1;all_goals intro _)
  exact⟨rfl,G⟩
 have cg:Hid (zAB g=0):=⟨by simpa using c3⟩
 repeat refine zR ?_
 refine zAr e1 s1 ((Check_ok H h hh.sm _ h7 G.wf ⟨mv,rfl,hM.mono G⟩).mono ?_)
 rintro _ h8 ⟨rfl,g8⟩
 replace o3:=g8.keep _ _ o3
 replace o4:=g8.keep _ _ o4
 replace G:=G.trans g8
 clear g8
 cases c4:(zAB h != 0)
 rotate_left
 ·repeat' first|refine zG ?_|(with_reducible apply zAD;exact e1;all_goals intro _)
  exact⟨rfl,G⟩
 have ch:Hid (zAB h=0):=⟨by simpa using c4⟩
 repeat refine zR ?_
 refine zAJ s1 ((MeetB H HS HA g h cg.out ch.out F.out.2.2.1 G.wf ⟨nv,rfl,hN.mono G⟩ ⟨mv,rfl,hM.mono G⟩).mono ?_)
 rintro _ h9 ⟨g9,un,ur,code,A,rfl,hone,at9,law⟩
 replace o3:=g9.keep _ _ o3
 replace o4:=g9.keep _ _ o4
 replace G:=G.trans g9
 clear g9 c1 c3 c4
 repeat refine zR ?_
 refine zAS G.wf ?_
 rintro b5 h10 hb5 g10 o5
 refine zAE (v:=.agg [un,.int .i64 ur]) e1 e1 (cs:=[un,.int .i64 ur]) rfl rfl g10.wf o5 (by simp) (by simp only[List.all_cons,List.all_nil,hone,Bool.true_and,Bool.and_true];rfl) ?_
 rintro v11 h11 p11 o5'
 simp only[lL,Nat.reduceAdd] at o5'
 have g11:Grow h9 h11:=p11.grow h9 G.wf g10 hb5
 replace o3:=g11.keep _ _ o3
 replace o4:=g11.keep _ _ o4
 replace G:=G.trans g11
 have at11:Hid (GraphAt h11 (.agg [un,.int .i64 ur]) A):=⟨by
  obtain⟨q,hq,hn⟩:=at9.out
  exact⟨q,hq,hn.mono g11⟩⟩
 have hpu:zAl (some 2) [un,.int .i64 ur] 0=some (.agg [un,.int .i64 ur]):=rfl
 clear o5 p11 g10 g11 at9
 cases hz:(code != 0)
 rotate_left
 ·have hc:code≠0:=by simpa using hz
  have ln:=Hid.mk (law_no F.out.1 F.out.2.1 cg.out ch.out F.out.2.2.2.1 (by
   rcases law.out with⟨q,_⟩|⟨_,q⟩
   ·exact absurd q hc
   ·exact q))
  clear law hc
  repeat refine zR ?_
  refine zAJ s1 ((Is_ok H g h F.out.1 F.out.2.1 _ _ h11 G.wf ⟨nv,rfl,hN.mono G⟩ ⟨mv,rfl,hM.mono G⟩).mono ?_)
  rw[ln.out.1]
  rintro _ h12 ⟨rfl,g12⟩
  replace o3:=g12.keep _ _ o3
  replace o4:=g12.keep _ _ o4
  replace G:=G.trans g12
  clear g12
  repeat refine zR ?_
  refine zAr e1 s1 ((Is_ok H h g F.out.2.1 F.out.1 _ _ h12 G.wf ⟨mv,rfl,hM.mono G⟩ ⟨nv,rfl,hN.mono G⟩).mono ?_)
  rw[ln.out.2]
  rintro _ h13 ⟨rfl,g13⟩
  repeat' first|refine zG ?_|(with_reducible apply zAD;exact e1;all_goals intro _)
  exact⟨rfl,G.trans g13⟩
 have hc:code=0:=by simpa using hz
 have ly:=Hid.mk (law_yes F.out.1 F.out.2.1 cg.out ch.out F.out.2.2.2.1 F.out.2.2.2.2 (by
  rcases law.out with⟨_,q⟩|⟨q,_⟩
  ·exact q
  ·exact absurd hc q))
 clear law hc
 obtain⟨q,hq,hA0⟩:=at11.out
 have hA:=Hid.mk hA0
 cases hq
 clear hA0
 repeat refine zR ?_
 refine dr_e (zDA s1 ((Is_ok H g A F.out.1 ly.out.1 _ _ h11 G.wf ⟨nv,rfl,hN.mono G⟩ at11.out).mono ?_))
 rw[ly.out.2.1]
 rintro _ h12 ⟨rfl,g12⟩
 replace o3:=g12.keep _ _ o3
 replace o4:=g12.keep _ _ o4
 replace o5':=g12.keep _ _ o5'
 replace G:=G.trans g12
 have at12:Hid (GraphAt h12 (.agg [un,.int .i64 A.root]) A):=⟨⟨un,rfl,hA.out.mono g12⟩⟩
 refine⟨by simp[zAM,Nat.testBit,o3,o4,o5'],?_⟩
 clear g12 at11
 repeat refine zR ?_
 refine dr_e (zDA s1 ((Is_ok H h A F.out.2.1 ly.out.1 _ _ h12 G.wf ⟨mv,rfl,hM.mono G⟩ at12.out).mono ?_))
 rw[ly.out.2.2.1]
 rintro _ h13 ⟨rfl,g13⟩
 replace o3:=g13.keep _ _ o3
 replace o4:=g13.keep _ _ o4
 replace o5':=g13.keep _ _ o5'
 replace G:=G.trans g13
 have at13:Hid (GraphAt h13 (.agg [un,.int .i64 A.root]) A):=⟨by
  obtain⟨q,hq,hn⟩:=at12.out
  exact⟨q,hq,hn.mono g13⟩⟩
 refine⟨by simp[zAM,zEj,Nat.testBit,o3,o4,o5'],?_⟩
 clear g13 at12 hA
 have sm:=Hid.mk ly.out.2.2.2
 repeat refine zR ?_
 refine dr_e (zDA s1 ((Is_ok H g h F.out.1 F.out.2.1 _ _ h13 G.wf ⟨nv,rfl,hN.mono G⟩ ⟨mv,rfl,hM.mono G⟩).mono ?_))
 rw[sm.out]
 rintro _ h14 ⟨rfl,g14⟩
 replace o3:=g14.keep _ _ o3
 replace o4:=g14.keep _ _ o4
 replace o5':=g14.keep _ _ o5'
 replace G:=G.trans g14
 have at14:Hid (GraphAt h14 (.agg [un,.int .i64 A.root]) A):=⟨by
  obtain⟨q,hq,hn⟩:=at13.out
  exact⟨q,hq,hn.mono g14⟩⟩
 refine⟨by simp[zAM,zEj,Nat.testBit,o3,o4,o5'],?_⟩
 clear g14 at13
 repeat refine zR ?_
 refine dr_e (zDA s1 ((Same_ok H A h ly.out.1 F.out.2.1 _ _ h14 G.wf at14.out ⟨mv,rfl,hM.mono G⟩).mono ?_))
 rintro _ h15 ⟨rfl,g15⟩
 replace o3:=g15.keep _ _ o3
 replace o4:=g15.keep _ _ o4
 replace o5':=g15.keep _ _ o5'
 replace G:=G.trans g15
 refine⟨by simp[zAM,zEj,Nat.testBit,o3,o4,o5'],?_⟩
 clear g15 at14
 have hbb:(zGO A h==zGO A h)=true:=by simp
 repeat' first|refine zG ?_|(with_reducible apply zAD;exact e1;all_goals intro _)
 exact⟨rfl,G⟩
end
end Go.Ab.S
end
section
namespace Go.Ab
open Go.RowKit (Below)

mutual
def mapV(f:Nat->Nat):AVal->AVal
 | .ptr (some p)=>.ptr (some (f p.1,p.2))
 | .slice (some p) n=>.slice (some (f p.1,p.2)) n
 | .agg l=>.agg (zEe f l)
 | .tuple l=>.tuple (zEe f l)
 | .iface t v=>.iface t (mapV f v)
 |v=>v
def zEe(f:Nat->Nat):List AVal->List AVal
 |[]=>[]
 |x::r=>mapV f x::zEe f r
end
mutual
def zGK(k:Nat):AVal->Bool
 | .ptr (some p)=>Nat.blt p.1 k
 | .slice (some p) _=>Nat.blt p.1 k
 | .agg l=>zDN k l
 | .tuple l=>zDN k l
 | .iface _ v=>zGK k v
 | .map (some _)=>false
 | .func _ _ _=>false
 | .yield _=>false
 |_=>true
def zDN(k:Nat):List AVal->Bool
 |[]=>true
 |x::r=>zGK k x&&zDN k r
end
theorem zDV(f:Nat->Nat):∀l:List AVal,(zEe f l).length=l.length
 |[]=>rfl
 |_::r=>congrArg (· +1) (zDV f r)

section
variable{P:Program}{G G':GM}{f g:Nat->Nat}{k:Nat}
mutual
theorem VR.ren(hG:∀i,i<k->∀gi,G (f i)=some gi->G' (g i)=some gi):∀{x:AVal} {v:Value},zGK k x=true->VR P G (mapV f x) v->VR P G' (mapV g x) v
 | .bool _,_,_,e=>e
 | .int _ _,_,_,e=>e
 | .str _,_,_,e=>e
 | .ptr none,_,_,e=>e
 | .ptr (some p),_,h,⟨gi,e,r⟩=>⟨gi,hG _ (Nat.blt_eq.mp h) _ e,r⟩
 | .slice none _,_,_,e=>e
 | .slice (some p) _,_,h,⟨gi,c,e,r⟩=>⟨gi,c,hG _ (Nat.blt_eq.mp h) _ e,r⟩
 | .slice0,_,_,e=>e
 | .sliceE,_,_,e=>e
 | .map none,_,_,e=>e
 | .map (some _),_,h,_=>by cases h
 | .func _ _ _,_,h,_=>by cases h
 | .yield _,_,h,_=>by cases h
 | .nilFunc,_,_,e=>e
 | .iface _ _,_,h,⟨y,e,r⟩=>⟨y,e,VR.ren hG h r⟩
 | .nilIface,_,_,e=>e
 | .agg _,_,h,⟨L,e,r⟩=>⟨L,e,VsR.ren hG h r⟩
 | .tuple _,_,h,⟨L,e,r⟩=>⟨L,e,VsR.ren hG h r⟩
theorem VsR.ren(hG:∀i,i<k->∀gi,G (f i)=some gi->G' (g i)=some gi):∀{xs:List AVal} {vs:List Value},zDN k xs=true->VsR P G (zEe f xs) vs->VsR P G' (zEe g xs) vs
 |[],_,_,e=>e
 |_::_,_,h,⟨y,ys,e,a,b⟩=>by
  simp only[zDN,Bool.and_eq_true] at h
  exact⟨y,ys,e,VR.ren hG h.1 a,VsR.ren hG h.2 b⟩
end
end

def layH(n:Nat):List (TypeId×List AVal)->AHeap->AHeap
 |[],h=>h
 |(e,vs)::r,h=>layH n r (newA h (.cells false e (zEe (n+ ·) vs)))
theorem zEp(n:Nat):∀(os:List (TypeId×List AVal)) (h:AHeap),(layH n os h).next=h.next+os.length
 |[],h=>rfl
 |(e,vs)::r,h=>by rw[layH,zEp n r];simp only[newA,zlC];omega
theorem zJV(n:Nat):∀(os:List (TypeId×List AVal)) (h:AHeap) (b:Nat),b<h.next\/h.next+os.length<=b->(layH n os h).objs.get b=h.objs.get b
 |[],h,_,_=>rfl
 |(e,vs)::r,h,b,hb=>by
  simp only[zlC] at hb
  rw[layH,zJV n r _ b (by simp only[newA];omega)]
  simp only[newA,T.get_set]
  rw[if_neg (by omega)]
theorem zCP(n:Nat):∀(os:List (TypeId×List AVal)) (h:AHeap) (i:Nat) (e:TypeId) (vs:List AVal),os[i]?=some (e,vs)->(layH n os h).objs.get (h.next+i)=some (h.next+i,.cells false e (zEe (n+ ·) vs))
 |[],h,_,_,_,hi=>by simp at hi
 |(e,vs)::r,h,0,e',vs',hi=>by
  simp only[List.getElem?_cons_zero,oI,Prod.mk.injEq] at hi
  obtain⟨rfl,rfl⟩:=hi
  rw[layH,zJV n r _ _ (by simp only[newA];omega)]
  simp only[newA,T.get_set,Nat.add_zero,if_true]
 |(e,vs)::r,h,i+1,e',vs',hi=>by
  simp only[List.getElem?_cons_succ] at hi
  have:=zCP n r (newA h (.cells false e (zEe (n+ ·) vs))) i e' vs' hi
  rw[layH,show h.next+(i+1)=(newA h (.cells false e (zEe (n+ ·) vs))).next+i by simp only[newA];omega]
  exact this

section
variable{P:Program}{N:Nat}{w0 w w':World}{G GA GA':GM}{h hA hA':AHeap}

theorem Rel.beside(R1:Rel P N w0 G h w)(R2:Rel P N w0 GA' hA' w')(E2:Ext GA hA w GA' hA' w')(hro:∀id x,hA.objs.get id=some x->x.2.ro=true)
  {os:List (TypeId×List AVal)} {keep:List Nat} (hk:keep.length=os.length) (hnd:keep.Nodup) (hpl:∀o∈os,zDN os.length o.2=true)
  (hos:∀(i:Nat) e vs,os[i]?=some (e,vs)->∃ver,hA'.objs.get (keep.getD i 0)=some (ver,.cells false e (zEe (fun j=>keep.getD j 0) vs))) {v0:AVal} {cv:Value} (hv0:zGK os.length v0=true) (hv:VR P GA' (mapV (fun j=>keep.getD j 0) v0) cv):
  ∃G'',Rel P N w0 G'' (layH h.next os h) w'/\Ext G h w G'' (layH h.next os h) w'/\VR P G'' (mapV (h.next+ ·) v0) cv:=by
 have hfr:∀b,b<w.heap.size->w'.heap[b]?=w.heap[b]?:=fun b hb=>E2.frame b hb fun id x gi hx hf _=>by rw[hro id x hx] at hf;cases hf
 have hnew:∀(i:Nat) e vs,os[i]?=some (e,vs)->∃ver gi ob,hA'.objs.get (keep.getD i 0)=some (ver,.cells false e (zEe (fun j=>keep.getD j 0) vs))/\GA' (keep.getD i 0)=some gi/\w'.heap[gi.blk]?=some ob/\OR P GA' gi (.cells false e (zEe (fun j=>keep.getD j 0) vs)) ob/\w.heap.size<=gi.blk:=by
  intro i e vs hi
  obtain⟨ver,h1⟩:=hos i e vs hi
  obtain⟨gi,h2,ob,h3,h4⟩:=R2.obj _ _ _ h1
  refine⟨ver,gi,ob,h1,h2,h3,h4,?_⟩
  rcases E2.owned _ _ gi h1 rfl h2 with h5|⟨id0,x0,_,h5,h6,_⟩
  ·exact h5
  ·rw[hro id0 x0 h5] at h6;cases h6
 let G'':GM:=fun i=>if h.next<=i/\i<h.next+os.length then GA' (keep.getD (i - h.next) 0) else G i
 have hG1:∀i,i<os.length->G'' (h.next+i)=GA' (keep.getD i 0):=fun i hi=>by
  show (if _ then _ else _)=_
  rw[if_pos (by omega),show h.next+i - h.next=i by omega]
 have hG2:∀i,i<h.next->G'' i=G i:=fun i hi=>by
  show (if _ then _ else _)=_
  rw[if_neg (by omega)]
 have hle:GLe G G'':=fun i gi hi=>by
  rcases Nat.lt_or_ge i h.next with hl|hl
  ·rw[hG2 i hl];exact hi
  ·rw[R1.fresh i hl] at hi;cases hi
 have hren:∀i,i<os.length->∀gi,GA' (keep.getD i 0)=some gi->G'' (h.next+i)=some gi:=fun i hi gi hg=>by rw[hG1 i hi];exact hg
 have hcase:∀id x,(layH h.next os h).objs.get id=some x->(id<h.next/\h.objs.get id=some x)\/∃i e vs,id=h.next+i/\i<os.length/\os[i]?=some (e,vs)/\x=(h.next+i,.cells false e (zEe (h.next+ ·) vs)):=by
  intro id x hx
  by_cases hr:h.next<=id/\id<h.next+os.length
  ·obtain⟨i,rfl⟩:∃i,id=h.next+i:=⟨id - h.next,by omega⟩
   have hi:i<os.length:=by omega
   have:=zCP h.next os h i os[i].1 os[i].2 (List.getElem?_eq_getElem hi)
   rw[this] at hx
   simp only[oI] at hx
   exact .inr ⟨i,os[i].1,os[i].2,rfl,hi,List.getElem?_eq_getElem hi,hx.symm⟩
  ·rw[zJV _ _ _ _ (by omega)] at hx
   rcases Nat.lt_or_ge id h.next with hl|hl
   ·exact .inl ⟨hl,hx⟩
   ·obtain⟨gi,hgi,_⟩:=R1.obj id x.1 x.2 hx
    rw[R1.fresh id hl] at hgi;cases hgi
 have hblk:∀id x gi,h.objs.get id=some x->G id=some gi->gi.blk<w.heap.size:=fun id x gi hx hg=>by
  obtain⟨gi',h1,ob,h2,_⟩:=R1.obj id x.1 x.2 hx
  rw[hg] at h1;cases h1
  exact zAt h2
 have hown:∀(id:Nat) (x:Nat×AObj) gi,(layH h.next os h).objs.get id=some x->x.2.ro=false->G'' id=some gi->w.heap.size<=gi.blk\/∃id0 x0 gi0,h.objs.get id0=some x0/\x0.2.ro=false/\G id0=some gi0/\gi0.blk=gi.blk:=by
  intro id x gi hx hf hg
  rcases hcase id x hx with⟨hl,h1⟩|⟨i,e,vs,rfl,hi,h1,rfl⟩
  ·rw[hG2 id hl] at hg
   exact .inr ⟨id,x,gi,h1,hf,hg,rfl⟩
  ·obtain⟨ver,gi',ob,k1,k2,k3,k4,k5⟩:=hnew i e vs h1
   rw[hG1 i hi,k2] at hg;cases hg
   exact .inl k5
 refine⟨G'',⟨?_,?_,?_,?_,?_,?_,?_,R2.below,R2.size,?_⟩,⟨hle,?_,?_,?_,hown,E2.size⟩,VR.ren hren hv0 hv⟩
 ·intro id ver o hx
  rcases hcase id _ hx with⟨hl,h1⟩|⟨i,e,vs,rfl,hi,h1,h2⟩
  ·obtain⟨gi,k1,ob,k2,k3⟩:=R1.obj id ver o h1
   exact⟨gi,hle _ _ k1,ob,by rw[hfr _ (zAt k2)];exact k2,k3.mono hle⟩
  ·simp only[Prod.mk.injEq] at h2
   obtain⟨rfl,rfl⟩:=h2
   obtain⟨ver,gi',ob,k1,k2,k3,k4,k5⟩:=hnew i e vs h1
   refine⟨gi',hren i hi _ k2,ob,k3,?_⟩
   obtain⟨c,t,fr,q1,q2,q3,q4,q5,q6⟩:=k4
   rw[zDV] at q5 q6
   refine⟨c,t,fr,q1,q2,q3,q4,by rw[zDV];exact q5,?_⟩
   rw[zDV]
   exact VsR.ren hren (hpl (e,vs) (List.mem_of_getElem? h1)) q6
 ·intro id id' x x' gi gi' hx hx' hf hg hg' hb
  rcases hcase id _ hx with⟨hl,h1⟩|⟨i,e,vs,rfl,hi,h1,rfl⟩
  ·rw[hG2 id hl] at hg
   have hlt:=hblk id x gi h1 hg
   rcases hcase id' _ hx' with⟨hl',h1'⟩|⟨i',e',vs',rfl,hi',h1',rfl⟩
   ·rw[hG2 id' hl'] at hg'
    exact R1.inj id id' x x' gi gi' h1 h1' hf hg hg' hb
   ·obtain⟨ver,gi2,ob,k1,k2,k3,k4,k5⟩:=hnew i' e' vs' h1'
    rw[hG1 i' hi',k2] at hg';cases hg'
    omega
  ·obtain⟨ver,gi1,ob,k1,k2,k3,k4,k5⟩:=hnew i e vs h1
   rw[hG1 i hi,k2] at hg;cases hg
   rcases hcase id' _ hx' with⟨hl',h1'⟩|⟨i',e',vs',rfl,hi',h1',rfl⟩
   ·rw[hG2 id' hl'] at hg'
    have hlt:=hblk id' x' gi' h1' hg'
    omega
   ·obtain⟨ver',gi2,ob',k1',k2',k3',k4',k5'⟩:=hnew i' e' vs' h1'
    rw[hG1 i' hi',k2'] at hg';cases hg'
    have he:=R2.inj _ _ _ _ gi gi' k1 k1' rfl k2 k2' hb
    have e1:keep.getD i 0=keep[i]'(by omega):=by simp[List.getD,List.getElem?_eq_getElem (show i<keep.length by omega)]
    have e2:keep.getD i' 0=keep[i']'(by omega):=by simp[List.getD,List.getElem?_eq_getElem (show i'<keep.length by omega)]
    rw[e1,e2] at he
    have:=(List.getElem_inj hnd).1 he
    rw[this]
 ·intro id ver o gi hx hg hf
  rcases hcase id _ hx with⟨hl,h1⟩|⟨i,e,vs,rfl,hi,h1,h2⟩
  ·rw[hG2 id hl] at hg
   exact R1.own id ver o gi h1 hg hf
  ·obtain⟨ver',gi1,ob,k1,k2,k3,k4,k5⟩:=hnew i e vs h1
   rw[hG1 i hi,k2] at hg;cases hg
   exact R2.own _ _ _ _ k1 k2 rfl
 ·intro id hid
  rw[zEp] at hid
  show (if _ then _ else _)=_
  rw[if_neg (by omega)]
  exact R1.fresh id (by omega)
 ·intro id ver o hx
  rw[zEp]
  rcases hcase id _ hx with⟨hl,h1⟩|⟨i,e,vs,rfl,hi,h1,h2⟩
  ·have:=R1.vers id ver o h1;omega
  ·simp only[Prod.mk.injEq] at h2;omega
 ·intro g hg
  have:=R1.low
  rw[hG2 g (by omega)];exact R1.glob g hg
 ·rw[zEp];have:=R1.low;omega
 ·intro id ver o gi hx hg hr
  rcases hcase id _ hx with⟨hl,h1⟩|⟨i,e,vs,rfl,hi,h1,h2⟩
  ·rw[hG2 id hl] at hg
   exact R1.rolow id ver o gi h1 hg hr
  ·simp only[Prod.mk.injEq] at h2
   rw[h2.2] at hr;cases hr
 ·rw[zEp];omega
 ·intro id ver o hx
  rcases hcase id _ hx with⟨hl,h1⟩|⟨i,e,vs,rfl,hi,h1,h2⟩
  ·refine .inr ⟨h1,fun gi hg=>hfr _ (hblk id _ gi h1 hg)⟩
  ·simp only[Prod.mk.injEq] at h2;exact .inl (by omega)
 ·intro b hb _
  exact hfr b hb
end
end Go.Ab
end
section
namespace Go.Ab
open Go.RowKit (Below)

def eqO:Option (Nat×Nat)->Option (Nat×Nat)->Bool
 |none,none=>true
 |some p,some q=>Nat.beq p.1 q.1&&Nat.beq p.2 q.2
 |_,_=>false
theorem zKL:∀{a b:Option (Nat×Nat)},eqO a b=true->a=b
 |none,none,_=>rfl
 |some (p1,p2),some (q1,q2),h=>by
  simp only[eqO,Bool.and_eq_true] at h
  rw[Nat.eq_of_beq_eq_true h.1,Nat.eq_of_beq_eq_true h.2]
 |none,some _,h=>by cases h
 |some _,none,h=>by cases h
mutual
def eqV:AVal->AVal->Bool
 | .bool a,.bool b=>a==b
 | .int k a,.int k' b=>decide (k=k')&&a==b
 | .str s,.str t=>decide (s=t)
 | .ptr x,.ptr y=>eqO x y
 | .slice x n,.slice y m=>eqO x y&&Nat.beq n m
 | .slice0,.slice0=>true
 | .sliceE,.sliceE=>true
 | .agg l,.agg m=>eqVs l m
 | .tuple l,.tuple m=>eqVs l m
 |_,_=>false
def eqVs:List AVal->List AVal->Bool
 |[],[]=>true
 |x::r,y::s=>eqV x y&&eqVs r s
 |_,_=>false
end
mutual
theorem zKM:∀{a b:AVal},eqV a b=true->a=b:=by
 intro a b h
 cases a with
 |bool x=>cases b<;>simp[eqV] at h;rw[h]
 |int k x=>cases b<;>simp[eqV] at h;rw[h.1,h.2]
 |str x=>cases b<;>simp[eqV] at h;rw[h]
 |ptr x=>cases b<;>simp only[eqV,Bool.false_eq_true] at h;rw[zKL h]
 |slice x n=>cases b<;>simp only[eqV,Bool.false_eq_true,Bool.and_eq_true] at h;rw[zKL h.1,Nat.eq_of_beq_eq_true h.2]
 |slice0=>cases b<;>first|rfl|cases h
 |sliceE=>cases b<;>first|rfl|cases h
 |agg l=>cases b<;>simp only[eqV,Bool.false_eq_true] at h;rw[zFD h]
 |tuple l=>cases b<;>simp only[eqV,Bool.false_eq_true] at h;rw[zFD h]
 |map x=>cases b<;>simp[eqV] at h
 |func f l m=>cases b<;>simp[eqV] at h
 |yield l=>cases b<;>simp[eqV] at h
 |nilFunc=>cases b<;>simp[eqV] at h
 |iface t x=>cases b<;>simp[eqV] at h
 |nilIface=>cases b<;>simp[eqV] at h
theorem zFD:∀{a b:List AVal},eqVs a b=true->a=b:=by
 intro a b h
 cases a with
 |nil=>cases b with
  |nil=>rfl
  |cons _ _=>simp[eqVs] at h
 |cons x r=>cases b with
  |nil=>simp[eqVs] at h
  |cons y s=>
   simp only[eqVs,Bool.and_eq_true] at h
   rw[zKM h.1,zFD h.2]
end

def D.all{α:Type}(p:α->Bool):D α->Bool
 | .ret a=>p a
 | .fail=>false
 | .ask n k=>Nat.blt 0 n&&(List.range n).all fun i=>(k i).all p
theorem D.all_sat{α:Type}{p:α->Bool}:∀{d:D α},d.all p=true->d.sat fun a=>p a=true
 | .ret _,h=>h
 | .fail,h=>by cases h
 | .ask n k,h=>by
  simp only[D.all,Bool.and_eq_true,List.all_eq_true,List.mem_range] at h
  exact⟨Nat.blt_eq.mp h.1,fun i hi=>D.all_sat (h.2 i hi)⟩

def isAt(keep:List Nat)(v0:AVal)(os:List (TypeId×List AVal))(r:AVal×AHeap):Bool:=
 eqV r.1 (mapV (fun j=>keep.getD j 0) v0)&&(List.range os.length).all fun i=>match os[i]?,r.2.objs.get (keep.getD i 0) with
  |some (e,vs),some (_,.cells false e' vs')=>Nat.beq e e'&&eqVs vs' (zEe (fun j=>keep.getD j 0) vs)
  |_,_=>false
theorem zMz{keep:List Nat}{v0:AVal}{os:List (TypeId×List AVal)}{r:AVal×AHeap}(h:isAt keep v0 os r=true):
  r.1=mapV (fun j=>keep.getD j 0) v0/\∀(i:Nat) e vs,os[i]?=some (e,vs)->∃ver,r.2.objs.get (keep.getD i 0)=some (ver,.cells false e (zEe (fun j=>keep.getD j 0) vs)):=by
 simp only[isAt,Bool.and_eq_true,List.all_eq_true,List.mem_range] at h
 refine⟨zKM h.1,fun i e vs hi=>?_⟩
 have:=h.2 i (List.getElem?_eq_some_iff.1 hi).1
 rw[hi] at this
 split at this
 ·rename_i e1 vs1 ver e' vs' h1 h2
  simp only[oI,Prod.mk.injEq] at h1
  obtain⟨rfl,rfl⟩:=h1
  simp only[Bool.and_eq_true] at this
  obtain⟨h4,h3⟩:=this
  exact⟨ver,by rw[h2,Nat.eq_of_beq_eq_true h4,zFD h3]⟩
 ·cases this

mutual
theorem zIn{f:Nat->Nat}:∀{x:AVal},zGK 0 x=true->mapV f x=x
 | .bool _,_=>rfl
 | .int _ _,_=>rfl
 | .str _,_=>rfl
 | .ptr none,_=>rfl
 | .ptr (some p),h=>by simp[zGK,Nat.blt] at h
 | .slice none _,_=>rfl
 | .slice (some p) _,h=>by simp[zGK,Nat.blt] at h
 | .slice0,_=>rfl
 | .sliceE,_=>rfl
 | .map none,_=>rfl
 | .map (some _),h=>by cases h
 | .func _ _ _,h=>by cases h
 | .yield _,h=>by cases h
 | .nilFunc,_=>rfl
 | .iface t v,h=>congrArg (AVal.iface t) (zIn (x:=v) h)
 | .nilIface,_=>rfl
 | .agg _,h=>by simp only[mapV];rw[zDL h]
 | .tuple _,h=>by simp only[mapV];rw[zDL h]
theorem zDL{f:Nat->Nat}:∀{x:List AVal},zDN 0 x=true->zEe f x=x
 |[],_=>rfl
 |_::_,h=>by
  simp only[zDN,Bool.and_eq_true] at h
  simp only[zEe]
  rw[zIn h.1,zDL h.2]
end

section
variable{P:Program}{fns:FnsT}{summ:SumT}{N:Nat}{w0:World}

def tblH(t nx:Nat)(tab:List AVal):AHeap:={objs:=(T.leaf:T (Nat×AObj)).set t (some (0,.cells true 0 tab)),next:=nx}
theorem zFO{t nx:Nat}{tab:List AVal}{id:Nat}{x:Nat×AObj}(h:(tblH t nx tab).objs.get id=some x):id=t/\x=(0,.cells true 0 tab):=by
 simp only[tblH,T.get_set,T.get_leaf] at h
 split at h
 ·rename_i e;simp only[oI] at h;exact⟨e,h.symm⟩
 ·cases h
def TblOK(P:Program)(N:Nat)(w0:World)(t nx:Nat)(tab:List AVal):Prop:=
 t<P.globals.size/\P.globals.size<=nx/\P.globals.size<=N/\0<nx/\∃c e fr,w0.heap[t]?=some (.cells c e fr)/\tab.length<=c.size/\VsR P (fun _=>none) tab (c.toList.take tab.length)

theorem rel_tbl{G:GM}{h:AHeap}{w:World}{t nx:Nat}{tab:List AVal}(R:Rel P N w0 G h w)(T:TblOK P N w0 t nx tab):∃GA,Rel P N w0 GA (tblH t nx tab) w:=by
 obtain⟨ht,hn,hN,hp,c,e,fr,hc,hl,hv⟩:=T
 have hw:w.heap[t]?=some (.cells c e fr):=by rw[R.below.block t (by omega)];exact hc
 refine⟨fun i=>if i=t then some ⟨t,c.size,0,0⟩ else if i<P.globals.size then some ⟨i,0,0,0⟩ else none,?_,?_,?_,?_,?_,?_,hn,R.below,R.size,?_⟩
 ·intro id ver o hx
  obtain⟨rfl,h1⟩:=zFO hx
  simp only[Prod.mk.injEq] at h1
  obtain⟨rfl,rfl⟩:=h1
  exact⟨_,if_pos rfl,_,hw,c,e,fr,rfl,(fun hh=>by cases hh),by simp,rfl,hl,by rw[zlZ];exact hv.mono (fun _ _ hh=>by cases hh)⟩
 ·intro id id' x x' gi gi' hx _ hf
  obtain⟨_,rfl⟩:=zFO hx
  cases hf
 ·intro id ver o gi hx _ hf
  obtain⟨_,h1⟩:=zFO hx
  simp only[Prod.mk.injEq] at h1
  rw[h1.2] at hf;cases hf
 ·intro id hid
  have:nx<=id:=hid
  show (if _ then _ else _)=_
  rw[if_neg (by omega),if_neg (by omega)]
 ·intro id ver o hx
  obtain⟨_,h1⟩:=zFO hx
  simp only[Prod.mk.injEq] at h1
  show ver<nx
  omega
 ·intro g hg
  by_cases hgt:g=t
  ·exact⟨_,if_pos hgt,by rw[hgt],rfl⟩
  ·exact⟨⟨g,0,0,0⟩,by simp[hgt,hg],rfl,rfl⟩
 ·intro id ver o gi hx hg _
  obtain⟨rfl,_⟩:=zFO hx
  simp only[if_true,oI] at hg
  subst hg
  show id<N
  omega

theorem summ_run{n:Nat}{f:FuncId}{args:List AVal}{t nx:Nat}{tab:List AVal}{keep:List Nat}{v0:AVal}{os:List (TypeId×List AVal)}(hm:P.follows .mixedOrders=true)(hF:FnsOK P fns)(hM:SummOK P N w0 summ)(hT:TblOK P N w0 t nx tab)
  (hpa:zDN 0 args=true) (hk:keep.length=os.length) (hnd:keep.Nodup) (hpl:∀o∈os,zDN os.length o.2=true) (hv0:zGK os.length v0=true)
  (he:((run fns summ n).call f args (tblH t nx tab)).all (isAt keep v0 os)=true) {G:GM} {h:AHeap} {w:World} {argsV:Array Value} {Q:AVal×AHeap->Prop} (R:Rel P N w0 G h w) (hv:VsR P G args argsV.toList) (hq:Q (mapV (h.next+ ·) v0,layH h.next os h)):
  CallsIn (FR none) 0 P f argsV w (PostC P N w0 G h w Q):=by
 obtain⟨GA,RA⟩:=rel_tbl R hT
 have hvA:VsR P GA args argsV.toList:=by
  have:=VsR.ren (G:=G) (G':=GA) (f:=id) (g:=id) (k:=0) (fun i hi=>absurd hi (Nat.not_lt_zero i)) hpa (by rw[zDL hpa];exact hv)
  rwa [zDL hpa] at this
 refine((zKj hF hM (fun _ hS=>zIX hm hS) n).call f args _ GA w argsV _ RA hvA (D.all_sat he)).mono fun e w' hp=>?_
 obtain⟨v,h',G',cv,rfl,h1,h2,h3,h4⟩:=hp
 obtain⟨h5,h6⟩:=zMz h1
 simp only at h5 h6
 subst h5
 obtain⟨G'',k1,k2,k3⟩:=R.beside h2 h3 (fun id x hx=>by obtain⟨_,rfl⟩:=zFO hx;rfl) hk hnd hpl h6 hv0 h4
 exact⟨_,_,G'',cv,rfl,hq,k1,k2,k3⟩
end
end Go.Ab
end
section
namespace Go.Ab
open Go.RowKit (Below)
open Go.Shelf Go.Proofs

section
variable{P:Program}{ρ:Ren}{N:Nat}{w0:World}

theorem zGL{f:FuncId}{G:GM}{h:AHeap}{w:World}{argsV:Array Value}{v:AVal}{cv:Value}{Q:AVal×AHeap->Prop}(hR:Rel P N w0 G h w)(hv:VR P G v cv)(hq:Q (v,h))(hc:Calls P f argsV w fun e w'=>e=.returned cv/\w'=w):
  CallsIn (FR none) 0 P f argsV w (PostC P N w0 G h w Q):=
 callsIn_wide.2 (hc.mono fun e w' hp=>⟨v,h,G,cv,hp.1,hq,by rw[hp.2];exact hR,by rw[hp.2];exact Ext.refl _ _ _,hv⟩)

def zAh(l:List UInt8):List Nat:=l.map UInt8.toNat
theorem zIq:∀{a b:List UInt8},zAh a=zAh b->a=b
 |[],[],_=>rfl
 |[],_::_,h=>by simp[zAh] at h
 |_::_,[],h=>by simp[zAh] at h
 |x::a,y::b,h=>by
  simp only[zAh,List.map_cons,List.cons.injEq] at h
  rw[UInt8.toNat_inj.1 h.1,zIq h.2]

def zKc:List Nat->List Nat->Bool
 |[],_=>true
 |_::_,[]=>false
 |a::x,b::y=>match Nat.beq a b with |true=>zKc x y|false=>false
def inN:List Nat->List Nat->Bool
 |[],t=>zKc t []
 |a::s,t=>match zKc t (a::s) with |true=>true|false=>inN s t
theorem zKd:∀(a b:List UInt8),zKc (zAh a) (zAh b)=a.isPrefixOf b
 |[],_=>rfl
 |_::_,[]=>rfl
 |x::a,y::b=>by
  simp only[zAh,List.map_cons,zKc,List.isPrefixOf]
  cases hxy:Nat.beq x.toNat y.toNat with
  |true=>
   have:x=y:=UInt8.toNat_inj.1 (Nat.eq_of_beq_eq_true hxy)
   rw[this]
   simp only[beq_self_eq_true,Bool.true_and]
   exact zKd a b
  |false=>
   have:(x==y)=false:=by
    rw[Bool.eq_false_iff]
    intro h
    have:=eq_of_beq h
    rw[this,Nat.beq_refl] at hxy;cases hxy
   rw[this];rfl
theorem zOI:∀(s t:List UInt8),inN (zAh s) (zAh t)=Lib.contains s t
 |[],t=>by
  simp only[zAh,List.map_nil,inN,Lib.contains,Lib.index]
  cases t<;>rfl
 |a::s,t=>by
  have ih:=zOI s t
  have hp:=zKd t (a::s)
  simp only[Lib.contains,Lib.index] at ih ⊢
  simp only[zAh,List.map_cons,inN] at hp ih ⊢
  rw[hp]
  rcases Bool.eq_false_or_eq_true (t.isPrefixOf (a::s)) with h|h
  ·simp[h]
  ·simp only[h,Bool.false_eq_true,if_false]
   rw[ih]
   have:=Lib.index_ge s t
   by_cases hm:Lib.index s t= -1
   ·simp[hm]
   ·have h2:(Lib.index s t== -1)=false:=by simpa using hm
    rw[h2]
    simp only[Bool.false_eq_true,if_false,decide_eq_decide]
    omega

theorem str_of{G:GM}{s:List Nat}{v:Value}(h:VR P G (.str s) v):∃b:ByteArray,v=.string b/\zAh b.data.toList=s:=h
theorem zMl{G:GM}{a:AVal}{argsV:Array Value}(h:VsR P G [a] argsV.toList):∃x,argsV= #[x]/\VR P G a x:=by
 obtain⟨y,ys,h1,h2,h3⟩:=h
 have h3:ys=[]:=h3
 subst h3
 exact⟨y,by cases argsV;simp_all,h2⟩
theorem args2{G:GM}{a b:AVal}{argsV:Array Value}(h:VsR P G [a,b] argsV.toList):∃x y,argsV= #[x,y]/\VR P G a x/\VR P G b y:=by
 obtain⟨x,xs,h1,h2,y,ys,h4,h5,h6⟩:=h
 have h6:ys=[]:=h6
 subst h6;subst h4
 exact⟨x,y,by cases argsV;simp_all,h2,h5⟩

theorem zIv(L:Lays.n144 P ρ)(hc:∃m,w0.cell? ⟨ρ.g 1,0,none⟩=some (.int .i64 m))(hg:ρ.g 1<N){s t:List Nat}{h:AHeap}(hs:s.length<4294967281){G:GM}{argsV:Array Value}{w:World}{Q:AVal×AHeap->Prop}(hR:Rel P N w0 G h w)(hv:VsR P G [.str s,.str t] argsV.toList)
  (hq:Q (.bool (inN s t),h)):CallsIn (FR none) 0 P (ρ.f 144) argsV w (PostC P N w0 G h w Q):=by
 obtain⟨x,y,rfl,h1,h2⟩:=args2 hv
 obtain⟨b1,rfl,rfl⟩:=str_of h1
 obtain⟨b2,rfl,rfl⟩:=str_of h2
 obtain⟨m,hm⟩:=hc
 have hm':w.cell? ⟨ρ.g 1,0,none⟩=some (.int .i64 m):=by
  simp only[World.cell?] at hm ⊢
  rw[hR.below.block _ hg];exact hm
 have hs':b1.size<4294967281:=by
  have:(zAh b1.data.toList).length=b1.size:=by simp only[zAh,List.length_map];rfl
  omega
 exact zGL hR (v:=.bool (inN _ _)) rfl hq ((Any.strings_Contains L b1 b2 m w hs' hm').mono fun e w' hp=>⟨by rw[hp.1,zOI],hp.2⟩)

theorem zKk(L:Lays.n240 P ρ)(X:Builder.X72 P ρ){h:AHeap}{b ver:Nat}{ro:Bool}{e:TypeId}{r:List AVal}(hb:h.objs.get b=some (ver,.cells false e (.ptr (some (b,0))::r))){G:GM}{argsV:Array Value}{w:World}{Q:AVal×AHeap->Prop}(hR:Rel P N w0 G h w)(hv:VsR P G [.ptr (some (b,0))] argsV.toList)
  (hq:Q (.tuple [],h)):CallsIn (FR none) 0 P (ρ.f 240) argsV w (PostC P N w0 G h w Q):=by
 obtain⟨x,rfl,gi,hg,rfl⟩:=zMl hv
 obtain⟨gi',h1,ob,h2,c,t,fr,rfl,hf,hfit,_,hl,hvs⟩:=hR.obj b _ _ hb
 have hg':G b=some gi:=hg
 rw[hg'] at h1;cases h1
 obtain⟨hsz,hoff,ht,hfr⟩:=hf rfl
 rw[hoff,zlZ] at hvs
 obtain⟨y,ys,e1,⟨gi2,k1,rfl⟩,_⟩:=hvs
 have k1:G b=some gi2:=k1
 rw[hg'] at k1;cases k1
 have hc0:c[0]?=some (.pointer (some ⟨gi.blk,0,none⟩)):=by
  have:=congrArg (fun l=>l[0]?) e1
  simp only[List.getElem?_cons_zero] at this
  rw[List.getElem?_take,if_pos (by simp)] at this
  simpa[hoff] using this
 have hcell:w.cell? ⟨gi.blk,0,none⟩=some (.pointer (some ⟨gi.blk,0,none⟩)):=by simp[World.cell?,h2,hc0]
 simp only[hoff,Nat.add_zero]
 exact zGL hR (v:=.tuple []) ⟨#[],rfl,rfl⟩ hq (Any.Builder_copyCheck_used L X gi.blk w hcell)

theorem zOQ{T:TypeId}(hc:P.cellsOf T=2){c:Nat}(h:1<=c):liesAt P P.depth T c 0 T 1=true:=by
 have hd:P.depth=(2*(P.types.size+Made.depth)+1)+1:=rfl
 have hs:sameLayout P P.depth T T=true:=by
  rw[hd,sameLayout];simp
 rw[hd] at hs ⊢
 rw[liesAt]
 have:rowAt P (sameLayout P P.depth · T) P.depth T c 0 1=true:=by
  rw[hd] at*
  rw[rowAt]
  simp[hc,hs,h]
 rw[this];rfl

set_option maxHeartbeats 1000000 in
set_option maxRecDepth 100000 in
theorem zHY(L:Lays.n240 P ρ)(X:Builder.X72 P ρ)(b m:Nat)(hm:2<=m)(w:World)(h0:w.cell? ⟨b,0,none⟩=some (.pointer none))(hsh:w.shape? b=some ((ρ.t 72),m))(hfz:w.frozen? ⟨b,0,none⟩=false):
  Calls P (ρ.f 240) #[.pointer (some ⟨b,0,none⟩)] w fun e w'=>e=.returned (.tuple #[])/\w'=w.setCell ⟨b,0,none⟩ (.pointer (some ⟨b,0,none⟩)):=by
 obtain⟨j,hj,hjs⟩:=Option.map_eq_some_iff.1 X.sizeBuilder
 have hc2:P.cellsOf (ρ.t 72)=2:=by simp[Program.cellsOf,hj,hjs]
 have hlies:liesAt P P.depth (ρ.t 72) (m / P.cellsOf (ρ.t 72)) 0 (ρ.t 72) 1=true:=zOQ hc2 (by rw[hc2];omega)
 have mixed:=L.mixed
 have t72:=L.t72;have a72:=L.a72;have z72:=L.z72;have v72:=L.v72;have u72:=run_underlying L.t72
 have t70:=L.t70;have a70:=L.a70;have z70:=L.z70;have v70:=L.v70;have u70:=run_underlying L.t70
 have t9:=L.t9;have a9:=L.a9;have z9:=L.z9;have v9:=L.v9;have u9:=run_underlying L.t9
 have t4:=L.t4;have a4:=L.a4;have z4:=L.z4;have v4:=L.v4;have u4:=run_underlying L.t4
 have t164:=L.t164;have a164:=L.a164;have z164:=L.z164;have v164:=L.v164;have u164:=run_underlying L.t164
 go_enter L.f240,Body.n240_ntmps ρ
 go_wp2
 rw[Lib.run_to_unsafe w ⟨b,0,none⟩ L.t70 L.t164 hj (by rw[hjs];decide) hsh (show 0<m by omega)]
 simp only[Result.andThen]
 rw[Oper.upon_value]
 go_wp2
 rw[run_callFunc_extern L.f276 (by kernel_rfl) (by kernel_rfl) (by kernel_rfl) (e:=Extern.AbiNoEscape.same) (by kernel_rfl)]
 rw[Lib.run_noEscape]
 simp only[Result.andThen]
 rw[Oper.upon_value]
 go_wp2
 rw[Lib.run_from_unsafe w ⟨b,0,none⟩ L.t164 L.t70 hj hsh hlies]
 simp only[Result.andThen]
 rw[Oper.upon_value]
 go_wp2
 go_end0
 exact⟨rfl,rfl⟩

theorem zJn(L:Lays.n240 P ρ)(X:Builder.X72 P ρ){h:AHeap}{b ver:Nat}{s:AVal}(hs:one s=true)(hb:h.objs.get b=some (ver,.cells false (ρ.t 72) [.ptr none,s])){G:GM}{argsV:Array Value}{w:World}{Q:AVal×AHeap->Prop}(hR:Rel P N w0 G h w)(hv:VsR P G [.ptr (some (b,0))] argsV.toList)
  (hq:Q (.tuple [],zAT h b (.cells false (ρ.t 72) [.ptr (some (b,0)),s]))):CallsIn (FR none) 0 P (ρ.f 240) argsV w (PostC P N w0 G h w Q):=by
 obtain⟨x,rfl,gi,hg,rfl⟩:=zMl hv
 obtain⟨gi',h1,ob,h2,c,t,fr,rfl,hf,hfit,hel,hl,hvs⟩:=hR.obj b _ _ hb
 have hg':G b=some gi:=hg
 rw[hg'] at h1;cases h1
 obtain⟨hsz,hoff,ht,hfr⟩:=hf rfl
 subst ht;subst hfr
 rw[hoff,zlZ] at hvs
 have hc2:2<=c.size:=by rw[hsz];simpa using hl
 obtain⟨y,ys,e1,hy,z,zs,e2,hz,e3⟩:=hvs
 have e3:zs=[]:=e3
 subst e3;subst e2
 have hy:y=.pointer none:=hy
 subst hy
 have hg0:∀i:Nat,i<2->c[i]?=([.pointer none,z]:List Value)[i]?:=fun i hi=>by
  have:=congrArg (fun l=>l[i]?) e1
  simp only[List.getElem?_take] at this
  rw[if_pos (by simpa using hi)] at this
  simpa using this
 have hcell:w.cell? ⟨gi.blk,0,none⟩=some (.pointer none):=by simp[World.cell?,h2,hg0 0 (by decide)]
 have hsh:w.shape? gi.blk=some (ρ.t 72,c.size):=by simp[World.shape?,h2]
 have hfz:w.frozen? ⟨gi.blk,0,none⟩=false:=zBb h2
 have hN:N<=gi.blk:=hR.own b _ _ gi hb hg' rfl
 simp only[hoff,Nat.add_zero]
 refine callsIn_wide.2 ((zHY L X gi.blk c.size hc2 w hcell hsh hfz).mono fun e w' hp=>?_)
 obtain⟨rfl,rfl⟩:=hp
 have hset:(w.setCell ⟨gi.blk,0,none⟩ (.pointer (some ⟨gi.blk,0,none⟩))).heap[gi.blk]?=some (.cells (c.setIfInBounds 0 (.pointer (some ⟨gi.blk,0,none⟩))) (ρ.t 72) (0,0)):=by
  show (w.heap.modify gi.blk _)[gi.blk]?=_
  rw[Array.getElem?_modify];simp[h2]
 have hoth:∀k,k≠gi.blk->(w.setCell ⟨gi.blk,0,none⟩ (.pointer (some ⟨gi.blk,0,none⟩))).heap[k]?=w.heap[k]?:=fun k hk=>by
  show (w.heap.modify gi.blk _)[k]?=_
  rw[Array.getElem?_modify];simp[Ne.symm hk]
 have hput:=hR.put (w':=w.setCell ⟨gi.blk,0,none⟩ (.pointer (some ⟨gi.blk,0,none⟩))) (o':=.cells false (ρ.t 72) [.ptr (some (b,0)),s]) (ob':=.cells (c.setIfInBounds 0 (.pointer (some ⟨gi.blk,0,none⟩))) (ρ.t 72) (0,0)) hb rfl rfl hg' hset hoth
  ⟨rfl,rfl,rfl,by simp[World.setCell],fun k hk=>hoth k (by omega)⟩
  ⟨_,_,(0,0),rfl,fun _=>⟨by simp[hsz],hoff,rfl,rfl⟩,by simpa using hfit,hel,by simpa using hl,by
   rw[hoff,zlZ]
   have:(c.setIfInBounds 0 (.pointer (some ⟨gi.blk,0,none⟩))).toList.take 2=[.pointer (some ⟨gi.blk,0,none⟩),z]:=by
    rw[Array.toList_setIfInBounds]
    have e1':c.toList.take 2=[.pointer none,z]:=e1
    match hl:c.toList,e1' with
    |x::y::r,e=>simp at e ⊢;exact e.2
   show VsR P G _ (List.take 2 _)
   rw[this]
   exact⟨_,_,rfl,⟨gi,hg',by simp[hoff]⟩,z,[],rfl,hz,rfl⟩⟩
 exact⟨.tuple [],_,G,.tuple #[],rfl,hq,hput.1,hput.2,⟨#[],rfl,rfl⟩⟩

theorem Rel.aside{G:GM}{h:AHeap}{w w':World}(hR:Rel P N w0 G h w)(hb:Below N w w')(hk:∀id x gi,h.objs.get id=some x->G id=some gi->w'.heap[gi.blk]?=w.heap[gi.blk]?):Rel P N w0 G h w':=
 ⟨fun id ver o hx=>by
   obtain⟨gi,h1,ob,h2,h3⟩:=hR.obj id ver o hx
   exact⟨gi,h1,ob,by rw[hk id _ gi hx h1];exact h2,h3⟩,
  hR.inj,hR.own,hR.fresh,hR.vers,hR.glob,hR.low,hR.below.trans hb,Nat.le_trans hR.size hb.size,hR.rolow⟩
theorem Rel.grown{G:GM}{h:AHeap}{w w':World}(hR:Rel P N w0 G h w)(hb:Below w.heap.size w w'):Rel P N w0 G h w'/\Ext G h w G h w':=by
 have hlt:∀id x gi,h.objs.get id=some x->G id=some gi->gi.blk<w.heap.size:=fun id x gi hx hg=>by
  obtain⟨gi',h1,ob,h2,_⟩:=hR.obj id x.1 x.2 hx
  rw[hg] at h1;cases h1
  exact zAt h2
 refine⟨hR.aside ⟨hb.os,hb.tape,hb.output,hb.size,fun k hk=>hb.block k (Nat.lt_of_lt_of_le hk hR.size)⟩ fun id x gi hx hg=>hb.block _ (hlt id x gi hx hg),?_⟩
 exact⟨GLe.refl G,Nat.le_refl _,fun i v o e=>.inr ⟨e,fun gi hg=>hb.block _ (hlt i _ gi e hg)⟩,fun k hk _=>hb.block k hk,fun i x g e hr hgi=>.inr ⟨i,x,g,e,hr,hgi,rfl⟩,hb.size⟩

set_option maxHeartbeats 2000000 in
set_option maxRecDepth 100000 in
theorem zIL(L:Lays.n169 P ρ)(X:Builder.Extra P ρ)(b g cap:Nat)(cur:Array Value)(fz:Nat×Nat)(l:List UInt8)(w:World)(h0:l≠[])(hcap:l.length<=cap)(hc:w.cell? ⟨b,1,none⟩=some (.slice (some ⟨g,0,none⟩) l.length cap))(hg:w.heap[g]?=some (.cells cur (ρ.t 5) fz))(hcur:l.length<=cur.size)(hmax:l.length<=9223372036854775807)
  (hcells:∀(j:Nat) x,l[j]?=some x->w.cell? ⟨g,j,none⟩=some (.int .u8 x.toNat)):
  Calls P (ρ.f 169) #[.pointer (some ⟨b,0,none⟩)] w fun e w'=>e=.returned (.string ⟨l.toArray⟩)/\w'=w.drew.freeze ⟨g,0,none⟩ l.length:=by
 have hl0:l.length≠0:=by simpa using h0
 have c1:w.drew.cell? ⟨b,1,none⟩=some (.slice (some ⟨g,0,none⟩) l.length cap):=hc
 have hSD:(Builtin.unsafeSliceData_ #[(ρ.t 37)] (ρ.t 127) #[.slice (some ⟨g,0,none⟩) l.length cap]).run P w.drew=.ok (.pointer (some ⟨g,0,none⟩)) w.drew:=
  Lib.run_unsafeSliceData_row _ _ _ _ _ _ (by omega)
 have hUS:(Builtin.unsafeString_ #[(ρ.t 127),(ρ.t 3)] (ρ.t 9) #[.pointer (some ⟨g,0,none⟩),.int .i64 l.length]).run P w.drew=.ok (.string ⟨l.toArray⟩) (w.drew.freeze ⟨g,0,none⟩ l.length):=by
  refine Lib.run_unsafeString_row w.drew (ρ.t 127) (ρ.t 3) (ρ.t 9) (ρ.t 5) L.t127 X.cellsByte g cur.size (by have hg':w.drew.heap[g]?=some (.cells cur (ρ.t 5) fz):=hg;simp[World.shape?,hg']) l h0 hcur hmax ?_
  intro j x hx
  rw[zCx,Nat.zero_add]
  exact hcells j x hx
 have mixed:=L.mixed
 have t72:=L.t72;have a72:=L.a72;have z72:=L.z72;have v72:=L.v72;have u72:=run_underlying L.t72
 have t70:=L.t70;have a70:=L.a70;have z70:=L.z70;have v70:=L.v70;have u70:=run_underlying L.t70
 have t37:=L.t37;have a37:=L.a37;have z37:=L.z37;have v37:=L.v37;have u37:=run_underlying L.t37
 have t127:=L.t127;have a127:=L.a127;have z127:=L.z127;have v127:=L.v127;have u127:=run_underlying L.t127
 have t3:=L.t3;have a3:=L.a3;have z3:=L.z3;have v3:=L.v3;have u3:=run_underlying L.t3
 have t9:=L.t9;have a9:=L.a9;have z9:=L.z9;have v9:=L.v9;have u9:=run_underlying L.t9
 have t5:=X.t5;have a5:=X.a5;have z5:=X.z5;have v5:=X.v5;have u5:=run_underlying X.t5
 go_enter L.f169,Body.n169_ntmps ρ
 go_wp2
 go_region_o
 all_goals (go_wp2;go_ret;exact⟨rfl,rfl⟩)

theorem s_string(L:Lays.n169 P ρ)(X:Builder.Extra P ρ){h:AHeap}{b c ver ver':Nat}{e:TypeId}{x0:AVal}{r vs:List AVal}{l:List UInt8}(hl:l≠[])(hb:h.objs.get b=some (ver,.cells false e (x0::.slice (some (c,0)) l.length::r)))(hc:h.objs.get c=some (ver',.cells false (ρ.t 5) vs))
  (hvs:vs.take l.length=l.map fun x=>.int .u8 (x.toNat:Nat)) (hmax:l.length<=1000000) {G:GM} {argsV:Array Value} {w:World} {Q:AVal×AHeap->Prop} (hR:Rel P N w0 G h w) (hv:VsR P G [.ptr (some (b,0))] argsV.toList)
  (hq:Q (.str (zAh l),zCz h c)):CallsIn (FR none) 0 P (ρ.f 169) argsV w (PostC P N w0 G h w Q):=by
 obtain⟨x,rfl,gi,hg,rfl⟩:=zMl hv
 obtain⟨gi',h1,ob,h2,cb,tb,fr,rfl,hf,hfit,hel,hlb,hvb⟩:=hR.obj b _ _ hb
 have hg':G b=some gi:=hg
 rw[hg'] at h1;cases h1
 obtain⟨hsz,hoff,ht,hfr⟩:=hf rfl
 rw[hoff,zlZ] at hvb
 obtain⟨y,ys,e1,hy,z,zs,e2,⟨gc,cap,k1,rfl,k2,k3⟩,e3⟩:=hvb
 have k1:G c=some gc:=k1
 subst e2
 obtain⟨gi2,q1,ob2,q2,cc,tc,frc,rfl,qf,qfit,qel,qlb,qvb⟩:=hR.obj c _ _ hc
 rw[k1] at q1;cases q1
 obtain⟨qsz,qoff,qt,qfr⟩:=qf rfl
 subst qt;subst qfr
 rw[qoff,zlZ] at qvb
 have hll:l.length<=vs.length:=by
  have:=congrArg List.length hvs
  rw[List.length_take,List.length_map] at this;omega
 have hcell1:w.cell? ⟨gi.blk,1,none⟩=some (.slice (some ⟨gc.blk,0,none⟩) l.length cap):=by
  have:=congrArg (fun q=>q[1]?) e1
  simp only[List.getElem?_take,List.getElem?_cons_succ,List.getElem?_cons_zero] at this
  rw[if_pos (by simp)] at this
  have:cb[1]?=some (.slice (some ⟨gc.blk,0,none⟩) l.length cap):=by simpa[qoff] using this
  simp[World.cell?,h2,this]
 have hcells:∀(j:Nat) u,l[j]?=some u->w.cell? ⟨gc.blk,j,none⟩=some (.int .u8 u.toNat):=fun j u hj=>by
  have hlt:j<l.length:=(List.getElem?_eq_some_iff.1 hj).1
  have hvj:vs[j]?=some (.int .u8 (u.toNat:Nat)):=by
   have:=congrArg (fun q=>q[j]?) hvs
   simp only[List.getElem?_take,if_pos hlt,List.getElem?_map,hj,Option.map_some] at this
   exact this
  obtain⟨cv,r1,r2⟩:=qvb.get hvj
  have r2:cv=.int .u8 (u.toNat:Nat):=r2
  subst r2
  rw[List.getElem?_take] at r1
  split at r1
  ·have r1':cc[j]?=some (.int .u8 (u.toNat:Nat)):=by simpa using r1
   simp[World.cell?,q2,r1']
  ·cases r1
 have hcsz:l.length<=cc.size:=by omega
 simp only[hoff,Nat.add_zero]
 refine callsIn_wide.2 ((zIL L X gi.blk gc.blk cap cc (0,0) l w hl k2 hcell1 q2 hcsz (by omega) hcells).mono fun e' w' hp=>?_)
 obtain⟨rfl,rfl⟩:=hp
 have hN:N<=gc.blk:=hR.own c _ _ gc hc k1 rfl
 have hoth:∀k,k≠gc.blk->(w.drew.freeze ⟨gc.blk,0,none⟩ l.length).heap[k]?=w.heap[k]?:=fun k hk=>by
  unfold World.freeze
  split
  ·rfl
  ·show (w.heap.modify gc.blk _)[k]?=_
   rw[Array.getElem?_modify];simp[Ne.symm hk]
 have hsize:(w.drew.freeze ⟨gc.blk,0,none⟩ l.length).heap.size=w.heap.size:=by
  unfold World.freeze
  split
  ·rfl
  ·simp
 obtain⟨hD,hE⟩:=hR.drop c
 have hne:∀id x gi',(zCz h c).objs.get id=some x->G id=some gi'->gi'.blk≠gc.blk:=by
  intro id x gi' hx hgi hh
  have hx':id≠c/\h.objs.get id=some x:=by
   simp only[zCz,T.get_set] at hx
   by_cases hi:id=c
   ·rw[if_pos hi] at hx;cases hx
   ·rw[if_neg hi] at hx;exact⟨hi,hx⟩
  exact hx'.1 (hR.inj c id _ x gc gi' hc hx'.2 rfl k1 hgi hh.symm).symm
 have hB:Below N w (w.drew.freeze ⟨gc.blk,0,none⟩ l.length):=Lib.below_freeze (Below.drew (Below.refl N w)) (p:=⟨gc.blk,0,none⟩) hN _
 refine⟨.str (zAh l),zCz h c,G,.string ⟨l.toArray⟩,rfl,hq,hD.aside hB fun id x gi' hx hgi=>hoth _ (hne id x gi' hx hgi),?_,⟨⟨l.toArray⟩,rfl,by simp[zAh]⟩⟩
 refine⟨hE.gle,hE.nle,fun id ver o hx=>?_,fun k hk hno=>hoth k fun hkk=>hno c _ gc hc rfl k1 hkk.symm,hE.owned,by rw[hsize];exact Nat.le_refl _⟩
 rcases hE.same id ver o hx with h3|⟨h3,_⟩
 ·exact .inl h3
 ·exact .inr ⟨h3,fun gi' hgi=>hoth _ (hne id _ gi' hx hgi)⟩

theorem s_itoa(L:LaysM.n171 P ρ)(n:Int)(hn0: -9223372036854775808<=n)(hn1:n<=9223372036854775807)(htab:∀w,Below N w0 w->Lib.TabIs P w "internal/strconv.uint64pow10" .u64 Lib.pow10Tab){h:AHeap}{G:GM}{argsV:Array Value}{w:World}{Q:AVal×AHeap->Prop}(hR:Rel P N w0 G h w)(hv:VsR P G [.int .i64 n] argsV.toList)
  (hq:Q (.str (zAh (Lib.itoa n)),h)):CallsIn (FR none) 0 P (ρ.f 171) argsV w (PostC P N w0 G h w Q):=by
 obtain⟨x,rfl,h1⟩:=zMl hv
 have h1:x=.int .i64 n:=h1
 subst h1
 refine callsIn_wide.2 ((Any.strconv_Itoa L n hn0 hn1 w (htab w hR.below)).mono fun e' w' hp=>?_)
 obtain⟨rfl,k,os,rfl⟩:=hp
 obtain⟨h2,h3⟩:=hR.grown (w':=Go.Sort.grow (w.drewN k) os) ⟨rfl,rfl,rfl,by simp[Go.Sort.grow],fun i hi=>by
  show (w.heap++os)[i]?=_
  rw[Array.getElem?_append_left hi]⟩
 exact⟨_,h,G,_,rfl,hq,h2,h3,⟨⟨(Lib.itoa n).toArray⟩,rfl,by simp[zAh]⟩⟩
end
end Go.Ab
end
section
namespace Go.Proofs
open Go Go.Ab Go.Ab.S
def fnsP(P:Program):FuncId->Option AFunc:=fun f=>(P.funcs[f]?).bind (cFn P)
theorem fnsP_ok(P:Program):FnsOK P (fnsP P):=fun _ _ h=>Option.bind_eq_some_iff.1 h
def zLc:FuncId->List AVal->AHeap->Option (D (AVal×AHeap)):=fun f args h=>
 match Nat.beq f 116 with
 |true=>(match args with
  |[.str s,.str t]=>(match Nat.ble s.length 2000 with |true=>some (.ret (.bool (inN s t),h))|false=>none)
  |_=>none)
 |false=>none
def tabA:List AVal:=(List.range 256).map fun i=>.int .u8 (if i==32||(9<=i&&i<=13) then 1 else 0)
def vR(n:Nat):AVal:=.tuple [.agg [.slice (some (0,0)) n,.int .i64 0],.int .i64 0]
def keepA:List Nat:=[510,491]
def osA:List (TypeId×List AVal):=[(34,[(.int .i64 2),(.str [45,62]),(.slice (some (1,0)) 2),(.slice none 0),(.bool false),(.int .i64 2),(.str [105,110,116]),(.slice none 0),(.slice none 0),(.bool false),(.int .i64 2),(.str [105,110,116]),(.slice none 0),(.slice none 0),(.bool false)]),(3,[(.int .i64 1),(.int .i64 2)])]
def keepB:List Nat:=[475,463]
def osB:List (TypeId×List AVal):=[(34,[(.int .i64 2),(.str [45,62]),(.slice (some (1,0)) 2),(.slice none 0),(.bool false),(.int .i64 1),(.str []),(.slice none 0),(.slice none 0),(.bool false)]),(3,[(.int .i64 1),(.int .i64 1)])]
def keepC:List Nat:=[865,846,844]
def osC:List (TypeId×List AVal):=[(34,[(.int .i64 3),(.str []),(.slice (some (1,0)) 2),(.slice (some (2,0)) 2),(.bool false),(.int .i64 2),(.str [105,110,116]),(.slice none 0),(.slice none 0),(.bool false),(.int .i64 2),(.str [105,110,116]),(.slice none 0),(.slice none 0),(.bool false)]),(3,[(.int .i64 1),(.int .i64 2)]),(9,[(.str [109]),(.str [110])])]
def keepD:List Nat:=[713,702,700]
def osD:List (TypeId×List AVal):=[(34,[(.int .i64 3),(.str []),(.slice (some (1,0)) 1),(.slice (some (2,0)) 1),(.bool true),(.int .i64 1),(.str []),(.slice none 0),(.slice none 0),(.bool false)]),(3,[(.int .i64 1)]),(9,[(.str [109])])]
end Go.Proofs
end
section
namespace Go.Proofs
open Go Go.Ab Go.Ab.S
theorem readA:((run (fnsP Tryz.prog) zLc 4000).call 18 [.str sA] (tblH 1 200 tabA)).all (isAt keepA (vR 3) osA)=true:=by kernel_rfl
end Go.Proofs
end
section
namespace Go.Proofs
open Go Go.Ab Go.Ab.S
theorem readB:((run (fnsP Tryz.prog) zLc 4000).call 18 [.str sB] (tblH 1 200 tabA)).all (isAt keepB (vR 2) osB)=true:=by kernel_rfl
end Go.Proofs
end
section
namespace Go.Proofs
open Go Go.Ab Go.Ab.S
theorem readC:((run (fnsP Tryz.prog) zLc 4000).call 18 [.str sC] (tblH 1 200 tabA)).all (isAt keepC (vR 3) osC)=true:=by kernel_rfl
end Go.Proofs
end
section
namespace Go.Proofs
open Go Go.Ab Go.Ab.S
theorem readD:((run (fnsP Tryz.prog) zLc 4000).call 18 [.str sD] (tblH 1 200 tabA)).all (isAt keepD (vR 2) osD)=true:=by kernel_rfl
end Go.Proofs
end
section
namespace Go.Ab
open Go Go.Proofs Go.Shelf Go.Sort Go.RowKit
theorem less_u:∀x y:List UInt8,zAs (zAh x) (zAh y)=decide (x<y)
 |_,[]=>by simp[zAh,zAs]
 |[],_::_=>by simp[zAh,zAs]
 |a::x,b::y=>by
  have ih:=less_u x y
  simp only[zAh,List.map_cons,zAs] at ih ⊢
  rw[ih]
  have h1:Nat.blt a.toNat b.toNat=decide (a<b):=by
   rw[Bool.eq_iff_iff,Nat.blt_eq,decide_eq_true_eq];exact Iff.rfl
  have h2:Nat.beq a.toNat b.toNat=decide (a=b):=by
   rw[Bool.eq_iff_iff,Nat.beq_eq,decide_eq_true_eq];exact UInt8.toNat_inj
  rw[h1,h2]
  by_cases hab:a<b
  ·simp[hab,List.cons_lt_cons_iff]
  ·by_cases he:a=b
   ·simp[he,List.cons_lt_cons_iff]
   ·simp[hab,he,List.cons_lt_cons_iff]
theorem le_u(x y:List UInt8):decide (x<=y)= !zAs (zAh y) (zAh x):=by
 rw[less_u,Bool.eq_iff_iff]
 simp
theorem sort_u(ss:List (List UInt8)):(ss.mergeSort fun x y=>decide (x<=y)).map zAh=(ss.map zAh).mergeSort fun x y=> !zAs y x:=
 List.map_mergeSort fun a _ b _=>le_u a b
theorem zLm:∀l:List Nat,(∀x∈l,x<256)->∃b:List UInt8,zAh b=l
 |[],_=>⟨[],rfl⟩
 |x::l,h=>by
  obtain⟨b,hb⟩:=zLm l fun y hy=>h y (by simp[hy])
  exact⟨UInt8.ofNat x::b,by simp only[zAh,List.map_cons] at hb ⊢;rw[hb,UInt8.toNat_ofNat',Nat.mod_eq_of_lt (h x (by simp))]⟩
theorem zMd:∀l:List (List Nat),(∀s∈l,∀c∈s,c<256)->∃b:List (List UInt8),b.map zAh=l
 |[],_=>⟨[],rfl⟩
 |x::l,h=>by
  obtain⟨b,hb⟩:=zMd l fun y hy=>h y (by simp[hy])
  obtain⟨c,hc⟩:=zLm x (h x (by simp))
  exact⟨c::b,by rw[List.map_cons,hb,hc]⟩
section
variable{P:Program}{ρ:Ren}{N:Nat}{w0:World}
theorem zID(L:Lays.n190 P ρ){h:AHeap}{G:GM}{argsV:Array Value}{w:World}{Q:AVal×AHeap->Prop}{v:AVal}(hv0:v=.slice none 0\/v=.slice0)(hR:Rel P N w0 G h w)(hv:VsR P G [v] argsV.toList)
  (hq:Q (.tuple [],h)):CallsIn (FR none) 0 P (ρ.f 190) argsV w (PostC P N w0 G h w Q):=by
 obtain⟨x,rfl,h1⟩:=zMl hv
 obtain⟨p,cap,rfl⟩:∃p cap,x=.slice p 0 cap:=by
  rcases hv0 with rfl|rfl
  ·exact⟨none,0,(show (0:Nat)=0/\x=.slice none 0 0 from h1).2⟩
  ·obtain⟨a,h1⟩:=(show ∃a:Addr,x=.slice (some a) 0 0 from h1)
   exact⟨some a,0,h1⟩
 exact zGL hR (v:=.tuple []) ⟨#[],rfl,rfl⟩ hq (Any.slices_Sort_string_none L p cap w)
theorem s_sort(L:Lays.n190 P ρ){h:AHeap}{b ver:Nat}{vs:List AVal}{l:List (List Nat)}(hl:∀s∈l,∀c∈s,c<256)(hn:l.length<=2147483648)(hb:h.objs.get b=some (ver,.cells false (ρ.t 9) vs))(hvl:vs.take l.length=l.map AVal.str)
  {G:GM} {argsV:Array Value} {w:World} {Q:AVal×AHeap->Prop} (hR:Rel P N w0 G h w) (hv:VsR P G [.slice (some (b,0)) l.length] argsV.toList)
  (hq:Q (.tuple [],zAT h b (.cells false (ρ.t 9) (((l.mergeSort fun x y=> !zAs y x).map AVal.str)++vs.drop l.length)))):CallsIn (FR none) 0 P (ρ.f 190) argsV w (PostC P N w0 G h w Q):=by
 obtain⟨x,rfl,gi,cap,hg,rfl,hcap,hcap2⟩:=zMl hv
 obtain⟨gi',h1,ob,h2,c,t,fr,rfl,hf,hfit,hel,hlb,hvb⟩:=hR.obj b _ _ hb
 have hg':G b=some gi:=hg
 rw[hg'] at h1;cases h1
 obtain⟨hsz,hoff,ht,hfr⟩:=hf rfl
 subst ht;subst hfr
 rw[hoff,zlZ] at hvb
 obtain⟨ss,rfl⟩:=zMd l hl
 have hll:ss.length<=vs.length:=by
  have:=congrArg List.length hvl
  simp only[List.length_take,List.length_map] at this;omega
 have htake:c.toList.take ss.length=ss.map encStr:=by
  apply List.ext_getElem?
  intro j
  by_cases hj:j<ss.length
  ·have hvj:vs[j]?=some (.str (zAh ss[j])):=by
    have:=congrArg (fun q=>q[j]?) hvl
    simp only[List.getElem?_take,List.length_map,if_pos hj,List.getElem?_map,List.getElem?_eq_getElem hj,Option.map_some] at this
    exact this
   obtain⟨cv,r1,r2⟩:=hvb.get hvj
   obtain⟨ba,rfl,r3⟩:=(show ∃b:ByteArray,cv=.string b/\b.data.toList.map UInt8.toNat=zAh ss[j] from r2)
   rw[List.getElem?_take,if_pos (by omega)] at r1
   rw[List.getElem?_take_of_lt hj,r1,List.getElem?_map,List.getElem?_eq_getElem hj,Option.map_some]
   have:ba.data.toList=ss[j]:=zIq r3
   show some (Value.string ba)=some (Value.string ⟨ss[j].toArray⟩)
   rw[<-this]
  ·rw[List.getElem?_take_eq_none (by omega),List.getElem?_eq_none (by simp;omega)]
 have hN:N<=gi.blk:=hR.own b _ _ gi hb hg' rfl
 have hlt:gi.blk<w.heap.size:=(Array.getElem?_eq_some_iff.1 h2).1
 simp only[hoff,Nat.add_zero,List.length_map]
 refine callsIn_wide.2 ((Any.slices_Sort_string L gi.blk 0 cap ss w (holds_of_block h2 htake) hlt (by rw[List.length_map] at hn;omega)).mono fun e' w' hp=>?_)
 obtain⟨rfl,n,os,rfl⟩:=hp
 generalize hts:(ss.mergeSort fun x y=>decide (x<=y))=ts
 have htl:ts.length=ss.length:=by rw[<-hts,List.length_mergeSort]
 have hset:(putRow encStr (Sort.ahead w n) gi.blk 0 ts.toArray).heap[gi.blk]?=some (.cells (putCells encStr 0 ts.toArray c) (ρ.t 9) (0,0)):=by
  simp[putRow,mapBlock,Sort.ahead,Array.getElem?_modify,h2,onCells]
 have hoth:∀k,k≠gi.blk->(putRow encStr (Sort.ahead w n) gi.blk 0 ts.toArray).heap[k]?=w.heap[k]?:=fun k hk=>by
  simp[putRow,mapBlock,Sort.ahead,Array.getElem?_modify,Ne.symm hk]
 have hput:=hR.put (w':=putRow encStr (Sort.ahead w n) gi.blk 0 ts.toArray) (o':=.cells false (ρ.t 9) ((((ss.map zAh).mergeSort fun x y=> !zAs y x).map AVal.str)++vs.drop (ss.map zAh).length)) hb rfl rfl hg' hset hoth
  ⟨rfl,rfl,rfl,by simp[putRow,mapBlock,Sort.ahead],fun k hk=>hoth k (by omega)⟩
  ⟨_,_,(0,0),rfl,fun _=>⟨by simp[putCells,hsz],hoff,rfl,rfl⟩,by simpa[putCells] using hfit,hel,by simp only[List.length_append,List.length_map,List.length_mergeSort,List.length_drop];omega,by
   rw[hoff,zlZ,<-sort_u,hts]
   have hlen:((ts.map zAh).map AVal.str++vs.drop (ss.map zAh).length).length=vs.length:=by simp only[List.length_append,List.length_map,List.length_drop];omega
   rw[hlen]
   have:(putCells encStr 0 ts.toArray c).toList.take vs.length=ts.map encStr++(c.toList.take vs.length).drop (ss.map zAh).length:=by
    have hcl:vs.length<=c.size:=by omega
    apply List.ext_getElem?
    intro j
    simp only[List.getElem?_take,List.getElem?_append,List.length_map,List.getElem?_drop,htl]
    by_cases h1:j<ss.length
    ·rw[if_pos h1,if_pos (by omega)]
     simp[putCells,show j<c.size by omega,show j<ts.length by omega]
    ·rw[if_neg h1,show ss.length+(j - ss.length)=j by omega]
     by_cases h2:j<vs.length
     ·rw[if_pos h2,if_pos h2]
      simp[putCells,show j<c.size by omega,show ¬j<ts.length by omega]
     ·rw[if_neg h2,if_neg h2]
   rw[this,List.map_map]
   exact VsR.append (VsR.map_mk (P:=P) (G:=G) (fun x=>AVal.str (zAh x)) encStr (fun a=>⟨⟨a.toArray⟩,rfl,by simp[zAh]⟩) ts) (hvb.drop _)⟩
 obtain⟨h2',h3'⟩:=hput.1.grown (w':=grow (putRow encStr (Sort.ahead w n) gi.blk 0 ts.toArray) os) ⟨rfl,rfl,rfl,by simp[grow],fun i hi=>by
  show (_++os)[i]?=_
  rw[Array.getElem?_append_left hi]⟩
 exact⟨.tuple [],_,G,.tuple #[],rfl,hq,h2',hput.2.trans h3',⟨#[],rfl,rfl⟩⟩
end
end Go.Ab
end
section
namespace Go.Proofs
open Go Go.Ab Go.Ab.S
noncomputable def tbP(n:Nat):Option AFunc:=(Tryz.prog.funcs[n]?).bind (cFn Tryz.prog)
theorem tb_115:tbP 115=some F_goes:=by kernel_rfl
theorem tb_87:tbP 87=some F_word:=by kernel_rfl
theorem tb_88:tbP 88=some F_IsKey:=by kernel_rfl
theorem tb_63:tbP 63=some F_IsName:=by kernel_rfl
theorem tb_40:tbP 40=some F_grising:=by kernel_rfl
theorem tb_20:tbP 20=some F_arity:=by kernel_rfl
theorem tb_22:tbP 22=some F_may:=by kernel_rfl
theorem tb_39:tbP 39=some F_may1:=by kernel_rfl
theorem tb_10:tbP 10=some F_Check:=by kernel_rfl
theorem tb_21:tbP 21=some F_Check1:=by kernel_rfl
theorem tb_38:tbP 38=some F_CFint:=by kernel_rfl
theorem tb_62:tbP 62=some F_IFint:=by kernel_rfl
theorem tb_23:tbP 23=some F_CFnode:=by kernel_rfl
theorem tb_41:tbP 41=some F_IFnode:=by kernel_rfl
theorem tb_9:tbP 9=some F_Great:=by kernel_rfl
theorem tb_45:tbP 45=some F_Reach:=by kernel_rfl
theorem tb_29:tbP 29=some F_Trim:=by kernel_rfl
theorem tb_12:tbP 12=some F_Same:=by kernel_rfl
theorem tb_26:tbP 26=some F_alike:=by kernel_rfl
theorem tb_27:tbP 27=some F_gfree:=by kernel_rfl
theorem tb_30:tbP 30=some F_Free:=by kernel_rfl
theorem tb_46:tbP 46=some F_CloneStr:=by kernel_rfl
theorem tb_33:tbP 33=some F_CloneInt:=by kernel_rfl
theorem tb_67:tbP 67=some F_Backward:=by kernel_rfl
theorem tb_95:tbP 95=some F_Backward1:=by kernel_rfl
theorem tb_42:tbP 42=some F_Classes:=by kernel_rfl
theorem tb_64:tbP 64=some F_refine:=by kernel_rfl
theorem tb_92:tbP 92=some F_refine1:=by kernel_rfl
theorem tb_91:tbP 91=some F_look:=by kernel_rfl
theorem tb_90:tbP 90=some F_cfree:=by kernel_rfl
theorem tb_24:tbP 24=some F_Least:=by kernel_rfl
theorem tb_43:tbP 43=some F_EqualStr:=by kernel_rfl
theorem tb_65:tbP 65=some F_EqualInt:=by kernel_rfl
theorem tb_118:tbP 118=some F_WriteString:=by kernel_rfl
theorem tb_66:tbP 66=some F_BinarySearch:=by kernel_rfl
theorem tb_93:tbP 93=some F_cmpLess:=by kernel_rfl
theorem tb_94:tbP 94=some F_isNaNs:=by kernel_rfl
theorem tb_120:tbP 120=some F_cisNaN:=by kernel_rfl
theorem tb_25:tbP 25=some F_match:=by kernel_rfl
theorem tb_44:tbP 44=some F_margs:=by kernel_rfl
theorem tb_11:tbP 11=some F_Is:=by kernel_rfl
theorem tb_19:tbP 19=some F_More:=by kernel_rfl
theorem tb_14:tbP 14=some F_Closed:=by kernel_rfl
theorem tb_8:tbP 8=some F_good:=by kernel_rfl
theorem tb_7:tbP 7=some F_alive11:=by kernel_rfl
theorem tb_6:tbP 6=some F_InstMeets:=by kernel_rfl
theorem tb_28:tbP 28=some F_CloneNode:=by kernel_rfl
theorem tb_34:tbP 34=some F_SUnify:=by kernel_rfl
theorem tb_53:tbP 53=some F_SUnify1:=by kernel_rfl
theorem tb_17:tbP 17=some F_SMeet:=by kernel_rfl
theorem tb_48:tbP 48=some F_sstart:=by kernel_rfl
theorem tb_52:tbP 52=some F_sfind:=by kernel_rfl
theorem tb_51:tbP 51=some F_srun:=by kernel_rfl
theorem tb_72:tbP 72=some F_sjoin:=by kernel_rfl
theorem tb_98:tbP 98=some F_sboth:=by kernel_rfl
theorem tb_121:tbP 121=some F_sobjects:=by kernel_rfl
theorem tb_54:tbP 54=some F_snode:=by kernel_rfl
theorem tb_100:tbP 100=some F_errNew:=by kernel_rfl
theorem tb_99:tbP 99=some F_errJoin:=by kernel_rfl
theorem tb_49:tbP 49=some F_ClonePr:=by kernel_rfl
def tbR(f:Nat)(g:AFunc):Prop:=∃fn,Tryz.prog.funcs[f]?=some fn/\cFn Tryz.prog fn=some g
theorem tbS{f n:Nat}{fn g:AFunc}{r:Option AFunc}(hg:tbP n=some g)(h:(if f=n then some g else r)=some fn)(k:r=some fn->tbR f fn):tbR f fn:=by
 by_cases e:f=n
 ·rw[if_pos e] at h;cases h;rw[e];exact Option.bind_eq_some_iff.1 hg
 ·rw[if_neg e] at h;exact k h
theorem tab_ok:FnsOK Tryz.prog tab:=by
 intro f fn h
 refine tbS tb_115 h fun h=>?_
 refine tbS tb_87 h fun h=>?_
 refine tbS tb_88 h fun h=>?_
 refine tbS tb_63 h fun h=>?_
 refine tbS tb_40 h fun h=>?_
 refine tbS tb_20 h fun h=>?_
 refine tbS tb_22 h fun h=>?_
 refine tbS tb_39 h fun h=>?_
 refine tbS tb_10 h fun h=>?_
 refine tbS tb_21 h fun h=>?_
 refine tbS tb_38 h fun h=>?_
 refine tbS tb_62 h fun h=>?_
 refine tbS tb_23 h fun h=>?_
 refine tbS tb_41 h fun h=>?_
 refine tbS tb_9 h fun h=>?_
 refine tbS tb_45 h fun h=>?_
 refine tbS tb_29 h fun h=>?_
 refine tbS tb_12 h fun h=>?_
 refine tbS tb_26 h fun h=>?_
 refine tbS tb_27 h fun h=>?_
 refine tbS tb_30 h fun h=>?_
 refine tbS tb_46 h fun h=>?_
 refine tbS tb_33 h fun h=>?_
 refine tbS tb_67 h fun h=>?_
 refine tbS tb_95 h fun h=>?_
 refine tbS tb_42 h fun h=>?_
 refine tbS tb_64 h fun h=>?_
 refine tbS tb_92 h fun h=>?_
 refine tbS tb_91 h fun h=>?_
 refine tbS tb_90 h fun h=>?_
 refine tbS tb_24 h fun h=>?_
 refine tbS tb_43 h fun h=>?_
 refine tbS tb_65 h fun h=>?_
 refine tbS tb_118 h fun h=>?_
 refine tbS tb_66 h fun h=>?_
 refine tbS tb_93 h fun h=>?_
 refine tbS tb_94 h fun h=>?_
 refine tbS tb_120 h fun h=>?_
 refine tbS tb_25 h fun h=>?_
 refine tbS tb_44 h fun h=>?_
 refine tbS tb_11 h fun h=>?_
 refine tbS tb_19 h fun h=>?_
 refine tbS tb_14 h fun h=>?_
 refine tbS tb_8 h fun h=>?_
 refine tbS tb_7 h fun h=>?_
 refine tbS tb_6 h fun h=>?_
 refine tbS tb_28 h fun h=>?_
 refine tbS tb_34 h fun h=>?_
 refine tbS tb_53 h fun h=>?_
 refine tbS tb_17 h fun h=>?_
 refine tbS tb_48 h fun h=>?_
 refine tbS tb_52 h fun h=>?_
 refine tbS tb_51 h fun h=>?_
 refine tbS tb_72 h fun h=>?_
 refine tbS tb_98 h fun h=>?_
 refine tbS tb_121 h fun h=>?_
 refine tbS tb_54 h fun h=>?_
 refine tbS tb_100 h fun h=>?_
 refine tbS tb_99 h fun h=>?_
 refine tbS tb_49 h fun h=>?_
 cases h
end Go.Proofs
end
