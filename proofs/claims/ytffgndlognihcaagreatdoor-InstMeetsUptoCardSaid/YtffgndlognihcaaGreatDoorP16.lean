import Derived.Test.YtffgndlognihcaaGreatDoorP13
import Derived.Test.YtffgndlognihcaaGreatDoorP14
import Derived.Test.YtffgndlognihcaaGreatDoorP15
/-
  Part 16 of the proof.
-/
set_option linter.all false
section
namespace Go.Ab.S
open Go Go.Ab
set_option maxHeartbeats 1000000
def zDe:List (List Nat×Int)->List Nat->Int
 |[],_=>0
 |(k,a)::r,l=>if k=l then a else zDe r l
theorem zEC:∀{fs:List (List Nat×Int)} {l:List Nat} {a:Int},(fs.map (·.1)).Nodup->(l,a)∈fs->zDe fs l=a
 |(k,b)::r,l,a,hn,h=>by
  simp only[List.map_cons,List.nodup_cons] at hn
  rw[zDe]
  rcases List.mem_cons.1 h with h|h
  ·cases h;rw[if_pos rfl]
  ·rw[if_neg,zEC hn.2 h]
   rintro rfl
   exact hn.1 (List.mem_map.2 ⟨_,h,rfl⟩)
def zGb(c:Clz)(f:Int->Int)(ls:List (List Nat)):Node:=⟨c.kind,c.name,c.args.map f++ls.map fun l=>f (zDe c.fields l),ls,c.isOpen⟩
structure ObjOut(g:Graph)(ps:List Pr)(R:List Int)(i:Int)(N:Node):Prop where
 kind:N.kind=3
 name:N.name=[]
 len:N.labels.length=N.args.length
 rises:zEw N.labels=true
 labels:∀l,l∈N.labels↔∃m,Uni g ps i m/\(zAA g m).kind=3/\l∈(zAA g m).labels
 args:∀(k:Nat) l,N.labels[k]?=some l->∀m (j:Nat),Uni g ps i m->(zAA g m).kind=3->(zAA g m).labels[j]?=some l->N.args.getD k 0=clAt R ((zAA g m).args.getD j 0)
 isOpen:N.isOpen=true↔∀m,Uni g ps i m->(zAA g m).kind=3->(zAA g m).isOpen=true
structure UOut(g:Graph)(ps:List Pr)(U:Graph)(R:List Int):Prop where
 consi:Consi g ps
 lenR:R.length=g.nodes.length
 lenU:U.nodes.length=g.nodes.length
 root:U.root=clAt R g.root
 rep:∀i,InG g i->Uni g ps i (clAt R i)/\∀j,Uni g ps i j->clAt R i<=j
 var:∀i,InG g i->(∀m,Uni g ps i m->(zAA g m).kind=1)->zAA U i=⟨1,[],[],[],false⟩
 con:∀i m,Uni g ps i m->(zAA g m).kind=2->zAA U i=⟨2,(zAA g m).name,(zAA g m).args.map (clAt R),[],false⟩
 obj:∀i m,Uni g ps i m->(zAA g m).kind=3->ObjOut g ps R i (zAA U i)
theorem zKh:∀{l:List (List Nat)} {p:Option (List Nat)},(∀s∈l,zCk s=true)->Rises l->(∀q,p=some q->∀s,l.head?=some s->zAs q s=true)->risG p l=true
 |[],_,_,_,_=>rfl
 |x::l,p,h,hr,hp=>by
  have h1:=h x (by simp)
  have h3:risG (some x) l=true:=zKh (fun s hs=>h s (by simp[hs])) (fun i j hij a b ha hb=>hr (i+1) (j+1) (by omega) a b (by simpa using ha) (by simpa using hb)) fun q hq s hs=>by
   cases hq
   refine hr 0 1 (by omega) x s rfl ?_
   cases l with
   |nil=>cases hs
   |cons y l=>simpa using hs
  simp only[risG,h1,h3,Bool.true_and,Bool.and_true]
  cases p with
  |none=>rfl
  |some q=>exact hp q rfl x rfl
section
variable{g:Graph}{ps:List Pr}{rt:Int->Int}{has:Int->Clz}
theorem UInv.out(hc:zAB g=0)(I:UInv g ps rt has []){U:Graph}{R:List Int}(lenR:R.length=g.nodes.length)(lenU:U.nodes.length=g.nodes.length)(root:U.root=clAt R g.root)
  (rep:∀i,InG g i->InG g (clAt R i)/\rt (clAt R i)=rt i/\∀j,InG g j->rt j=rt i->clAt R i<=j)
  (nodes:∀i,InG g i->∃ls,Rises ls/\(∀l,l∈ls↔∃a,(l,a)∈(has (rt i)).fields)/\zAA U i=zGb (has (rt i)) (clAt R) ls):UOut g ps U R:=by
 obtain⟨hU,hC⟩:=I.fin hc
 have hto:∀{a b},Uni g ps a b->rt a=rt b:=fun h=>(hU _ _ (h.inG hc).1 (h.inG hc).2).2 h
 have hrep:∀i,InG g i->Uni g ps i (clAt R i)/\∀j,Uni g ps i j->clAt R i<=j:=fun i hi=>by
  obtain⟨h1,h2,h3⟩:=rep i hi
  exact⟨(hU i _ hi h1).1 h2.symm,fun j hj=>h3 j (hj.inG hc).2 (hto hj).symm⟩
 have heq:∀{a b},Uni g ps a b->clAt R a=clAt R b:=fun {a b} h=>by
  have h1:=(hrep a (h.inG hc).1)
  have h2:=(hrep b (h.inG hc).2)
  have h3:=h1.2 _ (h.trans h2.1)
  have h4:=h2.2 _ (h.symm.trans h1.1)
  omega
 refine⟨hC,lenR,lenU,root,hrep,fun i hi hv=>?_,fun i m him hk=>?_,fun i m him hk=>?_⟩
 ·obtain⟨ls,h1,h2,h3⟩:=nodes i hi
  obtain⟨hr,hrr⟩:=I.rng i hi
  have C:=I.cls _ hr hrr
  obtain⟨m,m1,m2,m3,m4⟩:=C.one
  have hm:=hv m ((hU i m hi m1).1 m2.symm)
  have hn:(zAA g m).name=[]:=by
   rcases zAI (zAd hc m1) with⟨_,_,_,q,_⟩|⟨q,_⟩|⟨q,_⟩
   ·exact q
   ·omega
   ·omega
  obtain⟨f1,f2⟩:=C.nofields (by omega)
  have hl:ls=[]:=by
   cases ls with
   |nil=>rfl
   |cons x r=>obtain⟨a,ha⟩:=(h2 x).1 (by simp);rw[f1] at ha;cases ha
  rw[h3,zGb,hl,<-m3,hm,<-m4,hn,C.noargs (by omega),f2];rfl
 ·have hin:=him.inG hc
  obtain⟨ls,h1,h2,h3⟩:=nodes i hin.1
  obtain⟨hr,hrr⟩:=I.rng i hin.1
  have C:=I.cls _ hr hrr
  have hck:(has (rt i)).kind=2/\(has (rt i)).name=(zAA g m).name:=by
   rcases C.like m hin.2 (hto him).symm with q|⟨q,w⟩
   ·omega
   ·exact⟨by rw[<-q,hk],w.symm⟩
  obtain⟨f1,f2⟩:=C.nofields (by omega)
  have hl:ls=[]:=by
   cases ls with
   |nil=>rfl
   |cons x r=>obtain⟨a,ha⟩:=(h2 x).1 (by simp);rw[f1] at ha;cases ha
  obtain⟨m',m1,m2,m3,m4⟩:=C.args hck.1
  have hmm:Uni g ps m' m:=((hU i m' hin.1 m1).1 m2.symm).symm.trans him
  have hnm:(zAA g m').name=(zAA g m).name:=by
   rcases C.like m' m1 m2 with q|⟨_,w⟩
   ·omega
   ·rw[w,hck.2]
  have hlen:=zGX hc m1 hin.2 m3 hk hnm
  have hargs:(zAA g m').args.map (clAt R)=(zAA g m).args.map (clAt R):=by
   apply List.ext_getElem
   ·simpa using hlen
   ·intro k k1 k2
    simp only[List.length_map] at k1 k2
    have:=heq (.con hmm m3 hk hnm k1)
    simp only[List.getD,List.getElem?_eq_getElem k1,List.getElem?_eq_getElem k2,Option.getD_some] at this
    simpa using this
  rw[h3,zGb,hl,hck.1,hck.2,m4,f2,hargs]
  simp
 ·have hin:=him.inG hc
  obtain⟨ls,h1,h2,h3⟩:=nodes i hin.1
  obtain⟨hr,hrr⟩:=I.rng i hin.1
  have C:=I.cls _ hr hrr
  have hck:(has (rt i)).kind=3/\(has (rt i)).name=(zAA g m).name:=by
   rcases C.like m hin.2 (hto him).symm with q|⟨q,w⟩
   ·omega
   ·exact⟨by rw[<-q,hk],w.symm⟩
  have hna:=C.noargs (by omega)
  have hmem:∀m,InG g m->(rt m=rt i↔Uni g ps i m):=fun m hm=>⟨fun h=>(hU i m hin.1 hm).1 h.symm,fun h=>(hto h).symm⟩
  have hlab:∀l,l∈ls↔∃m,Uni g ps i m/\(zAA g m).kind=3/\l∈(zAA g m).labels:=fun l=>by
   rw[h2,C.keys]
   constructor
   ·rintro⟨m,q1,q2,q3⟩;exact⟨m,(hmem m q1).1 q2,q3⟩
   ·rintro⟨m,q1,q3⟩;exact⟨m,(q1.inG hc).2,(hmem m (q1.inG hc).2).2 q1,q3⟩
  rw[h3]
  refine⟨hck.1,?_,?_,?_,hlab,fun k l hkl m' j hm' hk' hj=>?_,?_⟩
  ·show (has (rt i)).name=[]
   rw[hck.2];exact(zCR hc hin.2 hk).2.2
  ·show ls.length=((has (rt i)).args.map (clAt R)++ls.map fun l=>clAt R (zDe (has (rt i)).fields l)).length
   rw[hna];simp
  ·refine zKh (fun s hs=>?_) h1 fun q hq=>by cases hq
   obtain⟨m',q1,q2,q3⟩:=(hlab s).1 hs
   rcases zAI (zAd hc (q1.inG hc).2) with⟨q,_⟩|⟨q,_⟩|⟨_,_,_,hr⟩
   ·omega
   ·omega
   ·exact zEu hr s q3
  ·change ls[k]?=some l at hkl
   show ((has (rt i)).args.map (clAt R)++ls.map fun l=>clAt R (zDe (has (rt i)).fields l)).getD k 0=_
   rw[hna,List.map_nil,zlA,List.getD,List.getElem?_map,hkl]
   show clAt R (zDe (has (rt i)).fields l)=_
   obtain⟨a,ha⟩:=(h2 l).1 (List.mem_of_getElem? hkl)
   rw[zEC C.nodup ha]
   have hin':=(hm'.inG hc).2
   have hd:=(I.obj m' j l a hin' hk' hj (by rw[(hmem m' hin').2 hm'];exact ha)).done
   obtain⟨n,q,n1,n2,n3,n4,n5⟩:=C.vals l a ha
   have:Uni g ps ((zAA g n).args.getD q 0) ((zAA g m').args.getD j 0):=.obj (((hmem n n1).1 n2).symm.trans hm') n3 hk' n4 hj
   rw[<-n5]
   exact heq this
  ·refine(C.opn hck.1).trans ⟨fun h m' hm'=>h m' (hm'.inG hc).2 ((hmem m' (hm'.inG hc).2).2 hm'),fun h m' q1 q2=>h m' ((hmem m' q1).1 q2)⟩
end
section
variable{g:Graph}{ps:List Pr}{U:Graph}{R:List Int}
theorem UOut.eq(hc:zAB g=0)(O:UOut g ps U R){a b:Int}(h:Uni g ps a b):clAt R a=clAt R b:=by
 have h1:=O.rep a (h.inG hc).1
 have h2:=O.rep b (h.inG hc).2
 have h3:=h1.2 _ (h.trans h2.1)
 have h4:=h2.2 _ (h.symm.trans h1.1)
 omega
theorem UOut.inR(hc:zAB g=0)(O:UOut g ps U R){a:Int}(h:InG g a):InG g (clAt R a):=((O.rep a h).1.inG hc).2
theorem UOut.check(hc:zAB g=0)(O:UOut g ps U R):zAB U=0:=by
 obtain⟨g0,g1,g2,g3⟩:=zAQ hc
 have hr:=O.inR hc (a:=g.root) ⟨g0,g1⟩
 refine zFr (by rw[O.root];exact hr.1) (by rw[O.root,O.lenU];exact hr.2) (by rw[O.lenU];exact g2) fun n hn=>?_
 rw[<-zFm U] at hn
 obtain⟨i,hi,rfl⟩:=List.mem_map.1 hn
 have hi:=zHK.1 hi
 rw[O.lenU] at hi ⊢
 by_cases h2:∃m,Uni g ps i m/\(zAA g m).kind=2
 ·obtain⟨m,h2,h3⟩:=h2
  have hm:=zAd hc (h2.inG hc).2
  rw[O.con i m h2 h3]
  have:=zJY hm (clAt R) fun a ha=>O.inR hc (zAo hm a ha)
  rcases zAI hm with⟨q,_⟩|⟨_,q1,q2,_⟩|⟨q,_⟩
  ·omega
  ·rw[h3,q1,q2] at this;exact this
  ·omega
 ·by_cases h3:∃m,Uni g ps i m/\(zAA g m).kind=3
  ·obtain⟨m,h3,h4⟩:=h3
   have Q:=O.obj i m h3 h4
   generalize zAA U i=N at Q
   have hargs:N.args.any (fun a=>decide (a<0)||decide (a>=(g.nodes.length:Int)))=false:=by
    rw[List.any_eq_false]
    intro a ha
    obtain⟨k,hk,rfl⟩:=List.mem_iff_getElem.1 ha
    have hkl:k<N.labels.length:=by rw[Q.len];exact hk
    obtain⟨m',m1,m2,m3⟩:=(Q.labels _).1 (List.getElem_mem hkl)
    obtain⟨j,hj,hje⟩:=List.mem_iff_getElem.1 m3
    have hval:=Q.args k _ (List.getElem?_eq_getElem hkl) m' j m1 m2 (by rw[List.getElem?_eq_getElem hj,hje])
    rw[List.getD,List.getElem?_eq_getElem hk,Option.getD_some] at hval
    have hin:=(m1.inG hc).2
    have hjl:j<(zAA g m').args.length:=by rw[<-(zCR hc hin m2).1];exact hj
    have hrange:=O.inR hc (zAo (zAd hc hin) _ (zCD hjl))
    simp only[InG] at hrange
    rw[hval]
    simp only[Bool.or_eq_true,decide_eq_true_eq,not_or]
    omega
   obtain⟨k,nm,ar,ls,op⟩:=N
   have e1:=Q.kind;have e2:=Q.name;have e3:=Q.len;have e4:=Q.rises
   simp only at e1 e2 e3 e4 hargs
   subst e1;subst e2
   simp only[mayF,hargs,Bool.false_eq_true,if_false,e4,e3]
   have z:(ar.length==ar.length)=true:=by simp
   rw[z];rfl
  ·have hv:=O.var i hi fun m hm=>by
    rcases zAI (zAd hc (hm.inG hc).2) with⟨q,_⟩|⟨q,_⟩|⟨q,_⟩
    ·exact q
    ·exact absurd ⟨m,hm,q⟩ h2
    ·exact absurd ⟨m,hm,q⟩ h3
   rw[hv];rfl
theorem UOut.one(hc:zAB g=0){ps':List Pr}{U':Graph}{R':List Int}(O:UOut g ps U R)(O':UOut g ps' U' R')(h:∀a b,Uni g ps a b↔Uni g ps' a b):R=R'/\U=U':=by
 have hR:∀i,InG g i->clAt R i=clAt R' i:=fun i hi=>by
  have h1:=O.rep i hi
  have h2:=O'.rep i hi
  have h3:=h1.2 _ ((h _ _).2 h2.1)
  have h4:=h2.2 _ ((h _ _).1 h1.1)
  omega
 have eR:R=R':=by
  apply List.ext_getElem
  ·rw[O.lenR,O'.lenR]
  ·intro k k1 k2
   have:=hR (k:Int) ⟨by omega,by rw[O.lenR] at k1;omega⟩
   rw[zBt,zBt,List.getD,List.getD,List.getElem?_eq_getElem k1,List.getElem?_eq_getElem k2] at this
   simpa using this
 refine⟨eR,?_⟩
 subst eR
 have hroot:U.root=U'.root:=by rw[O.root,O'.root]
 have hnodes:U.nodes=U'.nodes:=by
  rw[<-zFm U,<-zFm U',O.lenU,O'.lenU]
  refine List.map_congr_left fun i hi=>?_
  have hi:InG g i:=zHK.1 hi
  by_cases h2:∃m,Uni g ps i m/\(zAA g m).kind=2
  ·obtain⟨m,h2,h3⟩:=h2
   rw[O.con i m h2 h3,O'.con i m ((h _ _).1 h2) h3]
  ·by_cases h3:∃m,Uni g ps i m/\(zAA g m).kind=3
   ·obtain⟨m,h3,h4⟩:=h3
    have Q:=O.obj i m h3 h4
    have Q':=O'.obj i m ((h _ _).1 h3) h4
    have hl:(zAA U i).labels=(zAA U' i).labels:=zEv (zBE Q.rises) (zBE Q'.rises) fun l=>by
     rw[Q.labels,Q'.labels]
     exact⟨fun ⟨m,k1,k2⟩=>⟨m,(h _ _).1 k1,k2⟩,fun ⟨m,k1,k2⟩=>⟨m,(h _ _).2 k1,k2⟩⟩
    have ho:(zAA U i).isOpen=(zAA U' i).isOpen:=by
     rw[Bool.eq_iff_iff,Q.isOpen,Q'.isOpen]
     exact⟨fun q m hm=>q m ((h _ _).2 hm),fun q m hm=>q m ((h _ _).1 hm)⟩
    have ha:(zAA U i).args=(zAA U' i).args:=by
     apply List.ext_getElem
     ·rw[<-Q.len,<-Q'.len,hl]
     ·intro k k1 k2
      have hkl:k<(zAA U i).labels.length:=by rw[Q.len];exact k1
      obtain⟨m',m1,m2,m3⟩:=(Q.labels _).1 (List.getElem_mem hkl)
      obtain⟨j,hj,hje⟩:=List.mem_iff_getElem.1 m3
      have a1:=Q.args k _ (List.getElem?_eq_getElem hkl) m' j m1 m2 (by rw[List.getElem?_eq_getElem hj,hje])
      have a2:=Q'.args k _ (by rw[<-hl];exact List.getElem?_eq_getElem hkl) m' j ((h _ _).1 m1) m2 (by rw[List.getElem?_eq_getElem hj,hje])
      rw[<-a2,List.getD,List.getD,List.getElem?_eq_getElem k1,List.getElem?_eq_getElem k2] at a1
      simpa using a1
    have hk:=Q.kind.trans Q'.kind.symm
    have hn:=Q.name.trans Q'.name.symm
    generalize zAA U i=N at hl ho ha hk hn
    generalize zAA U' i=N' at hl ho ha hk hn
    cases N;cases N'
    simp only at hl ho ha hk hn
    subst hl;subst ho;subst ha;subst hk;subst hn;rfl
   ·have hv:∀m,Uni g ps i m->(zAA g m).kind=1:=fun m hm=>by
     rcases zAI (zAd hc (hm.inG hc).2) with⟨q,_⟩|⟨q,_⟩|⟨q,_⟩
     ·exact q
     ·exact absurd ⟨m,hm,q⟩ h2
     ·exact absurd ⟨m,hm,q⟩ h3
    rw[O.var i hi hv,O'.var i hi fun m hm=>hv m ((h _ _).2 hm)]
 cases U;cases U'
 simp only at hroot hnodes
 subst hroot;subst hnodes;rfl
end
end Go.Ab.S
end
section
namespace Go.Ab.S
open Go Go.Ab
set_option maxHeartbeats 1000000
def InN(N:Nat)(a:Int):Prop:=0<=a/\a<N
theorem zHD{l:List Int}{i:Nat}(hi:i<l.length)(v a:Int)(ha:0<=a):clAt (l.set i v) a=if a=(i:Int) then v else clAt l a:=by
 simp only[clAt,List.getD,List.getElem?_set]
 by_cases h:a=(i:Int)
 ·subst h;simp[hi]
 ·rw[if_neg h,if_neg (by omega)]
structure UF(N:Nat)(on rk:List Int)(rt:Int->Int)(K:Nat):Prop where
 lo:on.length=N
 lr:rk.length=N
 rng:∀a,InN N a->InN N (clAt on a)
 same:∀a,InN N a->rt (clAt on a)=rt a
 fix:∀a,InN N a->(clAt on a=a↔rt a=a)
 up:∀a,InN N a->clAt on a≠a->clAt rk a<clAt rk (clAt on a)
 rk:∀a,InN N a->0<=clAt rk a/\clAt rk a<=K
section
variable{N K:Nat}{on rk:List Int}{rt:Int->Int}
theorem UF.squash(u:UF N on rk rt K){i:Nat}(hi:i<N)(hne:clAt on (i:Int)≠i):UF N (on.set i (clAt on (clAt on (i:Int)))) rk rt K:=by
 have ha:InN N (i:Int):=⟨by omega,by omega⟩
 have hc:=u.rng _ ha
 have hu:=u.up _ ha hne
 have hil:i<on.length:=by rw[u.lo];exact hi
 have hup:clAt on (clAt on (i:Int))≠i/\clAt rk (i:Int)<clAt rk (clAt on (clAt on (i:Int))):=by
  by_cases h:clAt on (clAt on (i:Int))=clAt on (i:Int)
  ·rw[h];exact⟨hne,hu⟩
  ·have:=u.up _ hc h
   refine⟨fun h2=>?_,by omega⟩
   rw[h2] at this;omega
 have e:∀a,InN N a->clAt (on.set i (clAt on (clAt on (i:Int)))) a=if a=(i:Int) then clAt on (clAt on (i:Int)) else clAt on a:=fun a h=>zHD hil _ a h.1
 refine⟨by rw[List.length_set,u.lo],u.lr,fun a h=>?_,fun a h=>?_,fun a h=>?_,fun a h=>?_,u.rk⟩
 ·rw[e a h];split
  ·exact u.rng _ hc
  ·exact u.rng _ h
 ·rw[e a h];split
  ·rename_i q;rw[q,u.same _ hc,u.same _ ha]
  ·exact u.same _ h
 ·rw[e a h];split
  ·rename_i q;rw[q]
   exact⟨fun h2=>absurd h2 hup.1,fun h2=>absurd ((u.fix _ ha).2 h2) hne⟩
  ·exact u.fix _ h
 ·rw[e a h];split
  ·rename_i q;rw[q];exact fun _=>hup.2
  ·exact u.up _ h
theorem UF.link(u:UF N on rk rt K){x y:Nat}(hx:x<N)(hy:y<N)(kx:rt (x:Int)=x)(ky:rt (y:Int)=y)(hne:x≠y){rk':List Int}(hr:(clAt rk (y:Int)<clAt rk (x:Int)/\rk'=rk)\/(clAt rk (y:Int)=clAt rk (x:Int)/\rk'=rk.set x (clAt rk (x:Int)+1))):
  UF N (on.set y x) rk' (fun a=>if rt a=y then x else rt a) (K+1):=by
 have ix:InN N (x:Int):=⟨by omega,by omega⟩
 have iy:InN N (y:Int):=⟨by omega,by omega⟩
 have e:∀a,InN N a->clAt (on.set y (x:Int)) a=if a=(y:Int) then (x:Int) else clAt on a:=fun a h=>zHD (by rw[u.lo];exact hy) _ a h.1
 have fx:clAt on (x:Int)=x:=(u.fix _ ix).2 kx
 have fy:clAt on (y:Int)=y:=(u.fix _ iy).2 ky
 have er:rk'.length=N/\∀a,InN N a->(a=(x:Int)->clAt rk a<=clAt rk' a/\clAt rk (y:Int)<clAt rk' a/\clAt rk' a<=clAt rk a+1)/\(a≠(x:Int)->clAt rk' a=clAt rk a):=by
  rcases hr with⟨h1,rfl⟩|⟨h1,rfl⟩
  ·exact⟨u.lr,fun a _=>⟨fun h=>by subst h;omega,fun _=>rfl⟩⟩
  ·refine⟨by rw[List.length_set,u.lr],fun a h=>?_⟩
   rw[zHD (by rw[u.lr];exact hx) _ a h.1]
   refine⟨fun h2=>?_,fun h2=>by rw[if_neg h2]⟩
   subst h2;rw[if_pos rfl];omega
 obtain⟨lr,er⟩:=er
 refine⟨by rw[List.length_set,u.lo],lr,fun a h=>?_,fun a h=>?_,fun a h=>?_,fun a h=>?_,fun a h=>?_⟩
 ·rw[e a h];split
  ·exact ix
  ·exact u.rng _ h
 ·rw[e a h]
  by_cases q:a=(y:Int)
  ·rw[if_pos q,q,ky,if_pos rfl,kx,if_neg (by omega)]
  ·rw[if_neg q,u.same _ h]
 ·rw[e a h]
  by_cases q:a=(y:Int)
  ·rw[if_pos q,q,ky,if_pos rfl]
  ·rw[if_neg q]
   show _↔(if rt a=(y:Int) then (x:Int) else rt a)=a
   by_cases q2:rt a=(y:Int)
   ·rw[if_pos q2]
    constructor
    ·intro h2
     have:=(u.fix _ h).1 h2;omega
    ·intro h2
     have h3:a=(x:Int):=h2.symm
     rw[h3,kx] at q2;omega
   ·rw[if_neg q2];exact u.fix _ h
 ·rw[e a h]
  by_cases q:a=(y:Int)
  ·rw[if_pos q,q]
   intro _
   rw[(er _ iy).2 (by omega)]
   exact((er _ ix).1 rfl).2.1
  ·rw[if_neg q]
   intro h2
   have h3:=u.up _ h h2
   have h4:a≠(x:Int):=fun h5=>h2 (by rw[h5,fx])
   rw[(er _ h).2 h4]
   by_cases h5:clAt on a=(x:Int)
   ·rw[h5] at h3 ⊢
    have:=((er _ ix).1 rfl).1;omega
   ·rw[(er _ (u.rng _ h)).2 h5];exact h3
 ·have h1:=u.rk _ h
  by_cases q:a=(x:Int)
  ·have h2:=(er _ h).1 q
   omega
  ·rw[(er _ h).2 q];omega
def zFy(n:Nat):List Int:=(List.range n).map fun (i:Nat)=>(i:Int)
theorem zJP{n:Nat}{a:Int}(h:InN n a):clAt (zFy n) a=a:=by
 have h1:=h.1;have h2:=h.2
 simp only[clAt,zFy,List.getD,List.getElem?_map]
 rw[List.getElem?_range (by omega)]
 simp;omega
theorem UF.start(n:Nat):UF n (zFy n) (List.replicate n 0) id 0:=by
 have hz:∀a,clAt (List.replicate n (0:Int)) a=0:=fun a=>by
  simp only[clAt,List.getD,List.getElem?_replicate];split<;>rfl
 refine⟨by simp[zFy],by simp,fun a h=>by rw[zJP h];exact h,fun a h=>by rw[zJP h],fun a h=>by rw[zJP h];simp,fun a h h2=>absurd (zJP h) h2,fun a h=>by rw[hz];omega⟩
def zDX(N:Nat)(rt:Int->Int):Nat:=(List.range N).countP fun i:Nat=>rt (i:Int)==(i:Int)
theorem zNK{x y:Nat}(hy:y<N)(ky:rt (y:Int)=y)(kx:rt (x:Int)=x)(hne:x≠y):zDX N (fun a=>if rt a=(y:Int) then (x:Int) else rt a)<zDX N rt:=by
 refine zHZ (fun i _ h=>?_) ⟨y,List.mem_range.2 hy,?_,by simpa using ky⟩
 ·simp only[beq_iff_eq] at h ⊢
  by_cases q:rt (i:Int)=(y:Int)
  ·rw[if_pos q] at h
   rw[<-h,kx]
  ·rwa [if_neg q] at h
 ·simp only[ky,if_true]
  simpa using fun h:(x:Int)=(y:Int)=>hne (by omega)
theorem zHz(n:Nat):zDX n id<=n:=by
 have:=List.countP_le_length (p:=fun i:Nat=>(id (i:Int))==(i:Int)) (l:=List.range n)
 rw[List.length_range] at this;exact this
end
abbrev Fld:=List Nat×Int
def fEs:Nat->List Fld->List (AVal×AVal×Nat)
 |_,[]=>[]
 |i,p::r=>(.str p.1,.int .i64 p.2,i)::fEs (i+1) r
theorem zLD:∀(l:List Fld) (i:Nat),(fEs i l).length=l.length
 |[],_=>rfl
 |_::l,i=>by simp only[fEs,zlC,zLD l (i+1)]
theorem zLE:∀(l:List Fld) (i:Nat) (p:Fld),fEs i (l++[p])=fEs i l++[(.str p.1,.int .i64 p.2,i+l.length)]
 |[],i,p=>rfl
 |b::l,i,p=>by simp only[zlK,fEs,zLE l (i+1) p,zlC,show i+1+l.length=i+(l.length+1) by omega]
def zBj:List Fld->List Nat->Option Int
 |[],_=>none
 |p::r,s=>if p.1=s then some p.2 else zBj r s
theorem eqL_dec(a b:List Nat):eqL a b=decide (a=b):=by
 rw[Bool.eq_iff_iff,zBB,decide_eq_true_eq]
theorem zHG(s:List Nat):∀(l:List Fld) (i j:Nat),∃k,zBa .str (.str s) (fEs i l) j=some ((zBj l s).map fun a=>(k,.int .i64 a))
 |[],_,_=>⟨0,rfl⟩
 |p::l,i,j=>by
  simp only[fEs,zBa,keyA,eqL_dec,zBj]
  by_cases h:p.1=s
  ·subst h;exact⟨j,by simp⟩
  ·obtain⟨k,hk⟩:=zHG s l (i+1) (j+1)
   refine⟨k,?_⟩
   rw[decide_eq_false (fun e=>h e.symm),if_neg h]
   exact hk
theorem fEs_look{h:AHeap}{r ver c:Nat}{l:List Fld}(hg:h.objs.get r=some (ver,.map (fEs 0 l) c))(s:List Nat):zCl h .str (.int .i64 0) true (.map (some r)) (.str s)=some (.tuple [.int .i64 ((zBj l s).getD 0),.bool (zBj l s).isSome],some r):=by
 obtain⟨k,hk⟩:=zHG s l 0 0
 simp only[zCl,zEA,hg,hk]
 cases zBj l s<;>rfl
theorem zNu{h:AHeap}{r ver c:Nat}{l:List Fld}(hg:h.objs.get r=some (ver,.map (fEs 0 l) c))(s:List Nat):zCl h .str (.int .i64 0) false (.map (some r)) (.str s)=some (.int .i64 ((zBj l s).getD 0),some r):=by
 obtain⟨k,hk⟩:=zHG s l 0 0
 simp only[zCl,zEA,hg,hk]
 cases zBj l s<;>rfl
theorem zMD{l:List Fld}{s:List Nat}(h:zBj l s=none):zBa .str (.str s) (fEs 0 l) 0=some none:=by
 obtain⟨k,hk⟩:=zHG s l 0 0
 rw[hk,h];rfl
theorem zHb:∀{l:List Fld} {i:Nat} {e:AVal×AVal×Nat},e∈fEs i l->∃k,∃hk:k<l.length,e=(.str l[k].1,.int .i64 l[k].2,i+k)
 |p::l,i,e,h=>by
  simp only[fEs,List.mem_cons] at h
  rcases h with rfl|h
  ·exact⟨0,by simp,rfl⟩
  ·obtain⟨k,hk,rfl⟩:=zHb h
   exact⟨k+1,by simpa using hk,by simp only[List.getElem_cons_succ];congr 2;omega⟩
theorem zNs:∀{l:List Fld} {i k:Nat} (hk:k<l.length),(fEs i l).find? (fun e=>Nat.beq e.2.2 (i+k))=some (.str l[k].1,.int .i64 l[k].2,i+k)
 |p::l,i,0,_=>by simp[fEs,List.find?]
 |p::l,i,k+1,hk=>by
  have hne:Nat.beq i (i+(k+1))=false:=by
   cases h:Nat.beq i (i+(k+1))
   ·rfl
   ·have:=Nat.eq_of_beq_eq_true h;omega
  have ih:=zNs (l:=l) (i:=i+1) (k:=k) (by simpa using hk)
  rw[show i+1+k=i+(k+1) by omega] at ih
  simp only[fEs,List.find?,hne]
  exact ih
theorem zNt:∀{l:List Fld} {i k:Nat} (hk:k<l.length),(.str l[k].1,.int .i64 l[k].2,i+k)∈fEs i l
 |p::l,i,0,_=>by simp[fEs]
 |p::l,i,k+1,hk=>by
  have:=zNt (l:=l) (i:=i+1) (k:=k) (by simpa using hk)
  rw[show i+1+k=i+(k+1) by omega] at this
  simp only[fEs,List.getElem_cons_succ]
  exact List.mem_cons_of_mem _ this
theorem zFG:∀{l:List Fld} {s:List Nat} {a:Int},zBj l s=some a->(s,a)∈l
 |p::l,s,a,h=>by
  rw[zBj] at h
  split at h
  ·rename_i q;cases h;subst q;exact List.mem_cons_self ..
  ·exact List.mem_cons_of_mem _ (zFG h)
theorem zCj:∀{l:List Fld} {s:List Nat},zBj l s=none↔∀a,(s,a)∉l
 |[],s=>by simp[zBj]
 |p::l,s=>by
  rw[zBj]
  split
  ·rename_i q;subst q
   simp only[reduceCtorEq,false_iff,Classical.not_forall,Classical.not_not]
   exact⟨p.2,List.mem_cons_self ..⟩
  ·rename_i q
   rw[zCj]
   constructor
   ·intro h a ha
    rcases List.mem_cons.1 ha with ha|ha
    ·exact q (by rw[<-ha])
    ·exact h a ha
   ·intro h a ha;exact h a (List.mem_cons_of_mem _ ha)
theorem findF_in{l:List Fld}(hn:(l.map (·.1)).Nodup){s:List Nat}{a:Int}(h:(s,a)∈l):zBj l s=some a:=by
 cases hf:zBj l s with
 |none=>exact absurd h (zCj.1 hf a)
 |some b=>
  have hb:=zFG hf
  have h1:=zEC hn h
  have h2:=zEC hn hb
  rw[<-h1,h2]
theorem zIm:∀(l:List Fld) (s:List Nat),zDe l s=(zBj l s).getD 0
 |[],_=>rfl
 |(k,a)::l,s=>by
  rw[zDe,zBj]
  split
  ·rfl
  ·exact zIm l s
theorem zNw(l r:List Fld)(s:List Nat):zBj (l++r) s=(zBj l s).or (zBj r s):=by
 induction l with
 |nil=>rfl
 |cons p l ih=>
  rw[zlK,zBj,zBj]
  split
  ·rfl
  ·exact ih
def zIP(fX:List Fld)(seen:List Nat):List Fld:=seen.filterMap fun i=>fX[i]?
def zCe(fX fY:List Fld)(seen:List Nat):List Fld:=(zIP fX seen).filter fun p=>(zBj fY p.1).isNone
def newW(fX fY:List Fld)(seen:List Nat):List Pr:=(zIP fX seen).filterMap fun p=>(zBj fY p.1).map fun b=>(p.2,b)
section
variable{fX fY:List Fld}{seen:List Nat}{i:Nat}
theorem zMS(hi:i<fX.length):zIP fX (seen++[i])=zIP fX seen++[fX[i]]:=by
 simp[zIP,hi]
theorem zGG{p:Fld}:p∈zIP fX seen↔∃i∈seen,fX[i]?=some p:=by simp[zIP]
theorem adds_new(hi:i<fX.length)(h:zBj fY fX[i].1=none):zCe fX fY (seen++[i])=zCe fX fY seen++[fX[i]]/\newW fX fY (seen++[i])=newW fX fY seen:=by
 simp[zCe,newW,zMS hi,h]
theorem adds_old(hi:i<fX.length){b:Int}(h:zBj fY fX[i].1=some b):zCe fX fY (seen++[i])=zCe fX fY seen/\newW fX fY (seen++[i])=newW fX fY seen++[(fX[i].2,b)]:=by
 simp[zCe,newW,zMS hi,h]
theorem zMw(hn:(fX.map (·.1)).Nodup)(hi:i<fX.length)(hs:i∉seen):zBj (fY++zCe fX fY seen) fX[i].1=zBj fY fX[i].1:=by
 rw[zNw]
 have:zBj (zCe fX fY seen) fX[i].1=none:=zCj.2 fun a ha=>by
  obtain⟨j,hj,hp⟩:=zGG.1 (List.mem_filter.1 ha).1
  obtain⟨hjl,hje⟩:=List.getElem?_eq_some_iff.1 hp
  have h1:(fX.map (·.1))[j]'(by simpa using hjl)=(fX.map (·.1))[i]'(by simpa using hi):=by simp[hje]
  have h2:=(List.getElem_inj hn).1 h1
  exact hs (h2 ▸ hj)
 rw[this];cases zBj fY fX[i].1<;>rfl
theorem zOX:(newW fX fY seen).length<=seen.length:=by
 refine Nat.le_trans (List.length_filterMap_le ..) (List.length_filterMap_le ..)
theorem zLG(hX:(fX.map (·.1)).Nodup)(hY:(fY.map (·.1)).Nodup):∀(seen:List Nat),seen.Nodup->((fY++zCe fX fY seen).map (·.1)).Nodup:=by
 intro seen hs
 rw[List.map_append,List.nodup_append]
 refine⟨hY,?_,?_⟩
 ·have hp:((zIP fX seen).map (·.1)).Nodup:=by
   induction seen with
   |nil=>exact List.nodup_nil
   |cons i r ih=>
    have hs':=List.nodup_cons.1 hs
    simp only[zIP,List.filterMap_cons]
    cases hi:fX[i]? with
    |none=>exact ih hs'.2
    |some p=>
     simp only[List.map_cons,List.nodup_cons]
     refine⟨fun hm=>?_,ih hs'.2⟩
     obtain⟨q,hq,he⟩:=List.mem_map.1 hm
     obtain⟨j,hj,hjq⟩:=zGG.1 hq
     obtain⟨hil,hie⟩:=List.getElem?_eq_some_iff.1 hi
     obtain⟨hjl,hje⟩:=List.getElem?_eq_some_iff.1 hjq
     have h1:(fX.map (·.1))[j]'(by simpa using hjl)=(fX.map (·.1))[i]'(by simpa using hil):=by simp[hje,hie,he]
     have h2:=(List.getElem_inj hX).1 h1
     exact hs'.1 (h2 ▸ hj)
  exact hp.sublist (List.Sublist.map _ (List.filter_sublist ..))
 ·intro a ha b hb hab
  subst hab
  obtain⟨p,hp,rfl⟩:=List.mem_map.1 ha
  obtain⟨q,hq,he⟩:=List.mem_map.1 hb
  have h1:=(List.mem_filter.1 hq).2
  simp only[Option.isNone_iff_eq_none] at h1
  exact zCj.1 h1 p.2 (by rw[he];exact hp)
theorem zOW{s:List Nat}{a:Int}(hall:∀i,i<fX.length->i∈seen):(s,a)∈fY++zCe fX fY seen↔(s,a)∈fY\/((s,a)∈fX/\∀b,(s,b)∉fY):=by
 rw[List.mem_append]
 refine or_congr_right ?_
 rw[zCe,List.mem_filter,zGG,Option.isNone_iff_eq_none,zCj]
 refine and_congr_left fun _=>⟨fun ⟨i,_,hi⟩=>List.mem_of_getElem? hi,fun h=>?_⟩
 obtain⟨i,hi,he⟩:=List.mem_iff_getElem.1 h
 exact⟨i,hall i hi,by rw[List.getElem?_eq_getElem hi,he]⟩
theorem mem_new(hX:(fX.map (·.1)).Nodup)(hY:(fY.map (·.1)).Nodup)(hall:∀i,i<fX.length->i∈seen){q:Pr}:q∈newW fX fY seen↔∃l,(l,q.1)∈fX/\(l,q.2)∈fY:=by
 rw[newW,List.mem_filterMap]
 constructor
 ·rintro⟨p,hp,h⟩
  obtain⟨i,_,hi⟩:=zGG.1 hp
  cases hf:zBj fY p.1 with
  |none=>rw[hf] at h;cases h
  |some b=>rw[hf] at h;cases h;exact⟨p.1,List.mem_of_getElem? hi,zFG hf⟩
 ·rintro⟨l,h1,h2⟩
  obtain⟨i,hi,he⟩:=List.mem_iff_getElem.1 h1
  refine⟨(l,q.1),zGG.2 ⟨i,hall i hi,by rw[List.getElem?_eq_getElem hi,he]⟩,?_⟩
  rw[findF_in hY h2];rfl
end
theorem zCm{α:Type}[BEq α][LawfulBEq α]:∀(a b:List α),a.Nodup->(∀x∈a,x∈b)->a.length<=b.length
 |[],b,_,_=>Nat.zero_le _
 |y::a,b,hn,hs=>by
  have hn':=List.nodup_cons.1 hn
  have hy:y∈b:=hs y (by simp)
  have ih:=zCm a (b.erase y) hn'.2 fun x hx=>(List.mem_erase_of_ne (by rintro rfl;exact hn'.1 hx)).2 (hs x (by simp[hx]))
  rw[List.length_erase_of_mem hy] at ih
  have:=List.length_pos_of_mem hy
  simp only[zlC];omega
theorem zNO{α:Type}[BEq α][LawfulBEq α]{a b:List α}(hn:a.Nodup)(hs:∀x∈a,x∈b)(hl:b.length<=a.length)(hb:b.Nodup):∀x∈b,x∈a:=by
 intro x hx
 apply Classical.byContradiction
 intro h
 have:=zCm (x::a) b (List.nodup_cons.2 ⟨h,hn⟩) fun y hy=>by
  rcases List.mem_cons.1 hy with rfl|hy
  ·exact hx
  ·exact hs y hy
 simp only[zlC] at this;omega
theorem zOY{cX cY:Clz}{seen:List Nat}(kX:cX.kind=3)(kY:cY.kind=3)(hn:cX.name=cY.name)(nX:(cX.fields.map (·.1)).Nodup)(nY:(cY.fields.map (·.1)).Nodup)(aY:cY.args=[])(hs:seen.Nodup)(hall:∀i,i<cX.fields.length->i∈seen)
  (hopen:∀i,(hi:i<cX.fields.length)->cY.isOpen=true\/(zBj cY.fields cX.fields[i].1).isSome=true):
  (cX.isOpen=false/\cX.fields.length<(cY.fields++zCe cX.fields cY.fields seen).length->Clash cX cY)∧
  (¬(cX.isOpen=false/\cX.fields.length<(cY.fields++zCe cX.fields cY.fields seen).length)->Merge cX cY ⟨3,cY.name,[],cY.fields++zCe cX.fields cY.fields seen,cY.isOpen&&cX.isOpen⟩ (newW cX.fields cY.fields seen)):=by
 have hnd:=zLG nX nY seen hs
 have hmem:=fun s a=> @zOW cX.fields cY.fields seen s a hall
 generalize hF:cY.fields++zCe cX.fields cY.fields seen=F at hnd hmem
 have hsub:∀s∈cX.fields.map (·.1),s∈F.map (·.1):=fun s h=>by
  obtain⟨p,hp,rfl⟩:=List.mem_map.1 h
  by_cases hq:∃b,(p.1,b)∈cY.fields
  ·obtain⟨b,hb⟩:=hq
   exact List.mem_map.2 ⟨(p.1,b),(hmem _ _).2 (.inl hb),rfl⟩
  ·exact List.mem_map.2 ⟨p,(hmem p.1 p.2).2 (.inr ⟨hp,fun b hb=>hq ⟨b,hb⟩⟩),rfl⟩
 constructor
 ·rintro⟨ho,hl⟩
  have:¬∀s∈F.map (·.1),s∈cX.fields.map (·.1):=fun h=>by
   have:=zCm _ _ hnd h
   rw[List.length_map,List.length_map] at this;omega
  simp only[Classical.not_forall] at this
  obtain⟨s,hsF,hsX⟩:=this
  obtain⟨p,hp,rfl⟩:=List.mem_map.1 hsF
  refine⟨by omega,by omega,.inr (.inr ⟨kX,kY,.inr ⟨ho,p.1,p.2,?_,fun b hb=>hsX (List.mem_map.2 ⟨_,hb,rfl⟩)⟩⟩)⟩
  rcases (hmem p.1 p.2).1 hp with h|⟨h,_⟩
  ·exact h
  ·exact absurd (List.mem_map.2 ⟨_,h,rfl⟩) hsX
 ·intro hno
  refine .obj kX kY hn rfl rfl rfl (fun l a=>hmem l a) hnd rfl (fun ho l a hla=>?_) (fun ho l a hla=>?_) fun q=>mem_new nX nY hall
  ·obtain⟨i,hi,he⟩:=List.mem_iff_getElem.1 hla
   rcases hopen i hi with h|h
   ·rw[ho] at h;cases h
   ·rw[he] at h
    obtain⟨b,hb⟩:=Option.isSome_iff_exists.1 h
    exact⟨b,zFG hb⟩
  ·have hl:F.length<=cX.fields.length:=by
    rcases Nat.lt_or_ge cX.fields.length F.length with h|h
    ·exact absurd ⟨ho,h⟩ hno
    ·exact h
   have:=zNO nX hsub (by rw[List.length_map,List.length_map];exact hl) hnd l (List.mem_map.2 ⟨(l,a),(hmem l a).2 (.inl hla),rfl⟩)
   obtain⟨p,hp,rfl⟩:=List.mem_map.1 this
   exact⟨p.2,hp⟩
end Go.Ab.S
end
section
namespace Go.Ab.S
open Go Go.Ab
set_option maxHeartbeats 4000000
theorem zLl(b:Nat)(h:AHeap):But b h h:=⟨Nat.le_refl _,fun _ _ _ k=>k,fun _ _ g _=>g,fun w=>w⟩
def RowI(h:AHeap)(b N:Nat)(l:List Int):Prop:=∃ver vs,h.objs.get b=some (ver,.cells false 3 vs)/\vs.take N=l.map (AVal.int .i64)/\N<=vs.length
theorem zFk{vs:List AVal}{N:Nat}{l:List Int}(h:vs.take N=l.map (AVal.int .i64)){i:Nat}(hi:i<N)(hl:N<=vs.length):vs[i]?=some (.int .i64 (clAt l (i:Int))):=by
 have e:(vs.take N)[i]?=vs[i]?:=by rw[List.getElem?_take,if_pos hi]
 have hll:l.length=N:=by have:=congrArg List.length h;simp at this;omega
 rw[<-e,h,List.getElem?_map,zBt,List.getD,List.getElem?_eq_getElem (by omega)];rfl
theorem zLQ{vs:List AVal}{N:Nat}{l:List Int}(h:vs.take N=l.map (AVal.int .i64)){i:Nat}(hi:i<N)(hl:N<=vs.length)(x:Int):(vs.take i++[AVal.int .i64 x]++vs.drop (i+1)).take N=(l.set i x).map (AVal.int .i64):=by
 rw[zJo hi hl,h,List.map_set]
section
variable{fns:FnsT}{summ:SumT}
variable(H:Has fns summ)
include H
theorem zGZ{N K:Nat}{on rk:List Int}{rt:Int->Int}(u:UF N on rk rt K){i:Nat}(hi:i<N){b bo:Nat}(hne:b≠bo){e:TypeId}{rest:List AVal}{ver:Nat}(h:AHeap)(hw:WF h)(hb:h.objs.get b=some (ver,.cells false e (.slice (some (bo,0)) N::rest)))(ho:RowI h bo N on):
  Cl fns summ 52 [.ptr (some (b,0)),.int .i64 (i:Nat)] h fun r h'=>r=.int .i64 (rt i)/\But bo h h'/\∃on',RowI h' bo N on'/\UF N on' rk rt K:=by
 obtain⟨vo,vs,ho,hvs,hvl⟩:=ho
 refine H.go (fn:=F_sfind) rfl (by decide) rfl rfl ?_
 unfold F_sfind
 dsimp only[qQ,tm,mt,lo,fa,jn,jv,js,ji,jR,jS]
 repeat refine zR ?_
 refine zBS ?_
 refine zCV (fun m a hp=>∃(j:Nat) (on:List Int) (vo:Nat) (vs:List AVal),Hid (j<N/\rt j=rt i/\((K:Int) - clAt rk j).toNat<=m)/\UF N on rk rt K/\But bo h hp/\hp.objs.get b=some (ver,.cells false e (.slice (some (bo,0)) N::rest))/\hp.objs.get bo=some (vo,.cells false 3 vs)/\vs.take N=on.map (AVal.int .i64)/\N<=vs.length/\a.defers=[]/\ev a (.tmp 0)=some (.ptr (some (b,0)))/\ev a (.tmp 1)=some (.int .i64 (j:Nat))) ?_ (n:=((K:Int) - clAt rk i).toNat)
  ⟨i,on,vo,vs,⟨hi,rfl,Nat.le_refl _⟩,u,zLl _ _,hb,ho,hvs,hvl,n1,e1,e1⟩
 clear u hb ho hvs hvl
 rintro m a hp ⟨j,on,vo,vs,hj,u,B,hb,ho,hvs,hvl,hd,h0',h1'⟩
 obtain⟨hjN,hjr,hjm⟩:=hj.out
 have inj:InN N (j:Int):=⟨by omega,by omega⟩
 have r1':=u.rng _ inj
 obtain⟨k,hk⟩:∃k:Nat,clAt on (j:Int)=k:=⟨(clAt on (j:Int)).toNat,by have:=r1'.1;omega⟩
 have hvj:=zFk hvs hjN hvl
 rw[hk] at hvj r1'
 have hij:slA (.slice (some (bo,0)) N) 1 j=some (bo,j):=by simp[slA,hjN]
 by_cases hz:k=j
 ·subst hz
  have hbn:(((k:Nat):Int) != ((k:Nat):Int))=false:=by simp
  have hroot:=(u.fix _ inj).1 hk
  have hres:rt (i:Int)=(k:Int):=by rw[<-hjr,hroot]
  have hfin:But bo h hp/\∃on',RowI hp bo N on'/\UF N on' rk rt K:=⟨B,on,⟨vo,vs,ho,hvs,hvl⟩,u⟩
  replace hfin:=Hid.mk hfin
  replace hres:=Hid.mk hres
  clear hj hjr hjm inj r1' hk hroot u B hvs
  repeat' first|refine zG ?_|(with_reducible apply zAD;exact e1;all_goals intro _)
  exact⟨by rw[hres.out],hfin.out⟩
 ·have hbn:(((k:Nat):Int) != ((j:Nat):Int))=true:=by simp;omega
  have hkN:k<N:=by have:=r1'.2;omega
  have ink:InN N (k:Int):=⟨by omega,by omega⟩
  have r2':=u.rng _ ink
  obtain⟨l,hl⟩:∃l:Nat,clAt on (k:Int)=l:=⟨(clAt on (k:Int)).toNat,by have:=r2'.1;omega⟩
  have hvk:=zFk hvs hkN hvl
  rw[hl] at hvk r2'
  have hik:slA (.slice (some (bo,0)) N) 1 k=some (bo,k):=by simp[slA,hkN]
  have hlN:l<N:=by have:=r2'.2;omega
  have hne1:clAt on (j:Int)≠j:=by rw[hk];omega
  have u':=u.squash hjN hne1
  rw[hk,hl] at u'
  have hset:=zLQ hvs hjN hvl (l:Int)
  have hup:(((K:Int) - clAt rk (l:Int)).toNat<=m - 1/\m - 1<m)/\rt l=rt i:=by
   have inl':InN N (l:Int):=⟨by omega,by omega⟩
   have s1':=u.up _ inj hne1
   rw[hk] at s1'
   refine⟨?_,?_⟩
   ·have hlt:clAt rk (j:Int)<clAt rk (l:Int):=by
     by_cases hq:(l:Int)=k
     ·rw[hq];exact s1'
     ·have:=u.up _ ink (by rw[hl];exact hq)
      rw[hl] at this;omega
    have:=(u.rk _ inl').2
    omega
   ·rw[<-hl,u.same _ ink,<-hk,u.same _ inj,hjr]
  have w:=B.wf hw
  replace hup:=Hid.mk hup
  replace u':=Hid.mk u'
  replace hset:=Hid.mk hset
  have hlen:(vs.take j++[AVal.int .i64 (l:Int)]++vs.drop (j+1)).length=vs.length:=by
   simp only[List.length_append,List.length_take,zlC,zlN,List.length_drop];omega
  have hgl:(vs.take j++[AVal.int .i64 (l:Int)]++vs.drop (j+1))[j]?=some (.int .i64 (l:Nat)):=by
   rw[zFk hset.out hjN (by omega),zHD (by rw[u.lo];exact hjN) _ _ (by omega),if_pos rfl]
  replace hgl:=Hid.mk hgl
  replace hlen:=Hid.mk hlen
  clear hj hjr hk hl hne1 u hvs r1' r2' inj ink hz
  repeat refine zR ?_
  refine zAk (zAE e1 e1 (cs:=[.int .i64 (l:Nat)]) rfl rfl w ho (by simp only[zlC,zlN];omega) rfl ?_)
  rintro v4 h4 p4 o4
  refine zAN ⟨by simp[zAM,Nat.testBit],?_⟩
  have hb4:=p4.keep _ hne _ hb
  simp only[Nat.zero_add,Nat.mul_one,zlC,zlN] at o4
  have hgl:=hgl.out
  clear hb ho hvj hvk hik
  generalize hV:(vs.take j++[AVal.int .i64 (l:Int)]++vs.drop (j+1))=V at*
  repeat refine zR ?_
  exact⟨m - 1,hup.out.1.2,l,_,v4,V,⟨hlN,hup.out.2,hup.out.1.1⟩,u'.out,B.trans p4,hb4,o4,hset.out,by have:=hlen.out;omega,n1,e1,e1⟩
end
end Go.Ab.S
end
section
namespace Go.Ab.S
open Go.Ab
set_option maxHeartbeats 4000000
section
variable{fns:FnsT}{summ:SumT}{ro:Option Nat}
theorem zMa{d:Option Tmp}{x:AOpd}{l:List Step}{a:AAct}{h:AHeap}{K:AAct->AHeap->Prop}{r ver c:Nat}{es:List (AVal×AVal×Nat)}(hx:ev a x=some (.map (some r)))(hr:h.objs.get r=some (ver,.map es c))(w:WF h)
  (k:∀b h',h.next<=b->Grow h h'->h'.objs.get b=some (b,.iter r c [] c)->St fns summ ro l (putA a d (.ptr (some (b,0)))) h' K):St fns summ ro (⟨d,none,.e (.range x)⟩::l) a h K:=
 st_t (by intro _ _ hh;cases hh) (by intro _ _ hh;cases hh) (v:=.ptr (some (h.next,0))) (h':=newA h (.iter r c [] c)) (by simp only[zBO,hx,hr]) (k _ _ (Nat.le_refl _) ((Grow.refl w).new _) (zAO _ _))
theorem zOn{d:Option Tmp}{x:AOpd}{l:List Step}{a:AAct}{h:AHeap}{K:AAct->AHeap->Prop}{b r ver verr c:Nat}{seen:List Nat}{es:List (AVal×AVal×Nat)}(hx:ev a x=some (.ptr (some (b,0))))(hb:h.objs.get b=some (ver,.iter r c seen c))(hr:h.objs.get r=some (verr,.map es c))(hes:∀e∈es,e.2.2<c)(w:WF h)
  (k0:(∀e∈es,e.2.2∈seen)->St fns summ ro l (putA a d (.tuple [.bool false])) h K)
  (k1:∀e∈es,e.2.2∉seen->∀ver' h',But b h h'->h'.objs.get b=some (ver',.iter r c (seen++[e.2.2]) c)->St fns summ ro l (putA a d (.tuple [.bool true,e.1,e.2.1])) h' K):St fns summ ro (⟨d,none,.e (.next x)⟩::l) a h K:=by
 refine st_e (ex_turns (by intro _ _ hh;cases hh) (by intro _ _ hh;cases hh) ?_)
 have hall:es.all (fun e=>Nat.blt e.2.2 c)=true:=List.all_eq_true.2 fun e he=>by simpa using hes e he
 simp only[zBO,hx,hb,hr,hall,and_self,if_true]
 have hmem:∀e,e∈es.filter (fun e=> !seen.contains e.2.2)↔e∈es/\e.2.2∉seen:=fun e=>by simp
 generalize es.filter (fun e=> !seen.contains e.2.2)=left at hmem
 cases left with
 |nil=>
  refine k0 fun e he=>?_
  by_cases hs:e.2.2∈seen
  ·exact hs
  ·exact absurd ((hmem e).2 ⟨he,hs⟩) (by simp)
 |cons y rest=>
  refine⟨by simp,fun i hi=>?_⟩
  obtain⟨k,v,born⟩:AVal×AVal×Nat:=(y::rest)[i]
  have hi':i<(y::rest).length:=hi
  obtain⟨e,he⟩:∃e,(y::rest)[i]?=some e:=⟨_,List.getElem?_eq_getElem hi'⟩
  obtain⟨m1,m2⟩:=(hmem e).1 (List.mem_of_getElem? he)
  simp only[he]
  exact k1 e m1 m2 _ _ (zDa w hb _) (zAV _ _ _)
theorem zMZ{d:Option Tmp}{x:AOpd}{l:List Step}{a:AAct}{h:AHeap}{K:AAct->AHeap->Prop}{b r ver verr c s:Nat}{seen:List Nat}{es:List (AVal×AVal×Nat)}{k v:AVal}{n:Nat}(hx:ev a x=some (.ptr (some (b,0))))(hb:h.objs.get b=some (ver,.iter r c (seen++[s]) c))(hr:h.objs.get r=some (verr,.map es c))(hf:es.find? (fun e=>Nat.beq e.2.2 s)=some (k,v,n))
  (kk:St fns summ ro l (putA a d (.tuple [k,v])) h K):St fns summ ro (⟨d,none,.e (.entry x)⟩::l) a h K:=
 st_t (by intro _ _ hh;cases hh) (by intro _ _ hh;cases hh) (v:=.tuple [k,v]) (h':=h) (by
  have hl:(seen++[s]).getLast?=some s:=by simp
  simp only[zBO,hx,hb,hr,hl,if_true,hf]) kk
end
end Go.Ab.S
end
section
namespace Go.Ab.S
open Go Go.Ab
set_option maxHeartbeats 8000000
def clzC(c:Clz)(av mv:AVal):List AVal:=[.int .i64 c.kind,.str c.name,av,mv,.bool c.isOpen]
def Kp(b r:Nat)(h h':AHeap):Prop:=∀c p,c≠b->c≠r->h.objs.get c=some p->(∀ro vs,p.2≠.cells ro 74 vs)->h'.objs.get c=some p
theorem Kp.trans{b r:Nat}{h h' h'':AHeap}(k:Kp b r h h')(l:Kp b r h' h''):Kp b r h h'':=fun c p h1 h2 h3 h4=>l c p h1 h2 (k c p h1 h2 h3 h4) h4
theorem Kp.grow{b r:Nat}{h h':AHeap}(g:Grow h h'):Kp b r h h':=fun c p _ _ h3 _=>g.keep c p h3
theorem Kp.but{b r c:Nat}{h h' h'':AHeap}(k:Kp b r h h')(p:But c h' h'')(w:WF h)(hc:c=b\/c=r\/h.next<=c):Kp b r h h'':=fun d q h1 h2 h3 h4=>p.keep d (by
 rintro rfl
 rcases hc with rfl|rfl|hc
 ·exact h1 rfl
 ·exact h2 rfl
 ·have:=w.lt h3;omega) q (k d q h1 h2 h3 h4)
structure OInv(h0 h:AHeap)(b rY:Nat)(ov rv hv:AVal)(fX fY:List Fld)(ws:List Pr)(seen:List Nat)(wv:AVal)(hp:AHeap):Prop where
 grow:Grow h0 hp
 nx:h.next<=hp.next
 kp:Kp b rY h hp
 s:∃ver,hp.objs.get b=some (ver,.cells false 98 [ov,rv,hv,wv])
 w:Built hp h0.next 74 2 wv ((newW fX fY seen).reverse++ws).length (rowC ((newW fX fY seen).reverse++ws))
 y:∃ver,hp.objs.get rY=some (ver,.map (fEs 0 (fY++zCe fX fY seen)) (fY++zCe fX fY seen).length)
section
variable{h0 h:AHeap}{b rY:Nat}{ov rv hv wv:AVal}{fX fY:List Fld}{ws:List Pr}{seen:List Nat}{hp hq:AHeap}
theorem OInv.side{c:Nat}{p:Nat×AObj}(I:OInv h0 h b rY ov rv hv fX fY ws seen wv hp)(w0:WF h0)(w:WF h)(q:But c hp hq)(hc:hp.objs.get c=some p)(h1:∀ro e vs,p.2≠.cells ro e vs)(hr:c≠rY)(hl:h.next<=c)(h0l:h0.next<=c):OInv h0 h b rY ov rv hv fX fY ws seen wv hq:=by
 obtain⟨v1,s1'⟩:=I.s
 obtain⟨v2,y1⟩:=I.y
 refine⟨q.grow h0 w0 I.grow h0l,Nat.le_trans I.nx q.next,I.kp.but q w (.inr (.inr hl)),⟨v1,q.keep _ ?_ _ s1'⟩,zAK I.w q hc (fun vs hh=>h1 _ _ vs hh),⟨v2,q.keep _ (Ne.symm hr) _ y1⟩⟩
 rintro rfl
 rw[s1'] at hc;cases hc
 exact h1 _ _ _ rfl
theorem OInv.other(I:OInv h0 h b rY ov rv hv fX fY ws seen wv hp)(g:Grow hp hq):OInv h0 h b rY ov rv hv fX fY ws seen wv hq:=by
 obtain⟨v1,s1'⟩:=I.s
 obtain⟨v2,y1⟩:=I.y
 exact⟨I.grow.trans g,Nat.le_trans I.nx g.next,I.kp.trans (.grow g),⟨v1,g.keep _ _ s1'⟩,I.w.grow g,⟨v2,g.keep _ _ y1⟩⟩
theorem OInv.push{wv':AVal}{h13 h14:AHeap}{q:Pr}{v14:Nat}{seen':List Nat}(I:OInv h0 h b rY ov rv hv fX fY ws seen wv hp)(w0:WF h0)(w:WF h)(hb0:h0.next<=b){h12:AHeap}(g12:Grow hp h12)(B13:Built h13 h0.next 74 2 wv' (((newW fX fY seen).reverse++ws).length+1) (rowC ((newW fX fY seen).reverse++ws)++zBQ q))
  (gr13:∀h,WF h->Grow h h12->h.next<=h0.next->Grow h h13) (n13:h12.next<=h13.next) (kp13:∀b p,h12.objs.get b=some p->(∀k,wv≠.slice (some (b,0)) k)->h13.objs.get b=some p) (p14:But b h13 h14) {pb:Nat×AObj} (hb13:h13.objs.get b=some pb) (hpb:∀vs,pb.2≠.cells false 74 vs) (o14:h14.objs.get b=some (v14,.cells false 98 [ov,rv,hv,wv']))
  (hN:newW fX fY seen'=newW fX fY seen++[q]) (hA:zCe fX fY seen'=zCe fX fY seen):OInv h0 h b rY ov rv hv fX fY ws seen' wv' h14:=by
 have I12:=I.other g12
 obtain⟨v2,y1⟩:=I12.y
 have ne:∀{c p},h12.objs.get c=some p->(∀vs,p.2≠.cells false 74 vs)->∀k,wv≠.slice (some (c,0)) k:=fun hc hp=>zAF I12.w hc hp
 have hyb:rY≠b:=by
  rintro rfl
  obtain⟨v1,s1'⟩:=I12.s
  rw[s1'] at y1;cases y1
 refine⟨p14.grow h0 w0 (gr13 h0 w0 I12.grow (Nat.le_refl _)) hb0,by have:=I12.nx;have:=p14.next;omega,fun c p h1 h2 h3 h4=>p14.keep c h1 p (kp13 c p (I12.kp c p h1 h2 h3 h4) (ne (I12.kp c p h1 h2 h3 h4) fun vs hh=>h4 _ vs hh)),⟨v14,o14⟩,?_,⟨v2,by rw[hA];exact p14.keep _ hyb _ (kp13 _ _ y1 (ne y1 fun vs hh=>by cases hh))⟩⟩
 rw[hN,List.reverse_append,List.reverse_singleton,List.singleton_append,zlK,zDP,zlC]
 exact zAK B13 p14 hb13 hpb
theorem OInv.label{i:Nat}{v14:Nat}(I:OInv h0 h b rY ov rv hv fX fY ws seen wv hp)(w0:WF h0)(w:WF h)(hy0:h0.next<=rY)(p14:But rY hp hq)(hi:i<fX.length)(hf:zBj fY fX[i].1=none)(o14:hq.objs.get rY=some (v14,.map (fEs 0 (fY++zCe fX fY seen)++[(.str fX[i].1,.int .i64 fX[i].2,(fY++zCe fX fY seen).length)]) ((fY++zCe fX fY seen).length+1))):OInv h0 h b rY ov rv hv fX fY ws (seen++[i]) wv hq:=by
 obtain⟨v1,s1'⟩:=I.s
 obtain⟨v2,y1⟩:=I.y
 obtain⟨hA,hN⟩:=adds_new hi hf (seen:=seen)
 refine⟨p14.grow h0 w0 I.grow hy0,Nat.le_trans I.nx p14.next,I.kp.but p14 w (.inr (.inl rfl)),⟨v1,p14.keep _ ?_ _ s1'⟩,by rw[hN];exact zAK I.w p14 y1 (fun vs hh=>by cases hh),⟨v14,?_⟩⟩
 ·rintro rfl
  rw[s1'] at y1;cases y1
 ·rw[hA,<-List.append_assoc,zLE,Nat.zero_add,List.length_append (as:=fY++zCe fX fY seen),List.length_singleton];exact o14
end
section
variable{fns:FnsT}{summ:SumT}
variable(H:Has fns summ)
include H
theorem zND(cX cY:Clz)(kX:cX.kind=3)(kY:cY.kind=3)(hn:cX.name=cY.name)(nX:(cX.fields.map (·.1)).Nodup)(nY:(cY.fields.map (·.1)).Nodup)(aY:cY.args=[]){h0 h:AHeap}(w0:WF h0)(G:Grow h0 h){b rX rY ver vx vy:Nat}(hXY:rX≠rY)(lb:h0.next<=b)(ly:h0.next<=rY){ov rv hv wv:AVal}{ws:List Pr}
  (hs:h.objs.get b=some (ver,.cells false 98 [ov,rv,hv,wv])) (hB:Built h h0.next 74 2 wv ws.length (rowC ws)) (hx:h.objs.get rX=some (vx,.map (fEs 0 cX.fields) cX.fields.length)) (hy:h.objs.get rY=some (vy,.map (fEs 0 cY.fields) cY.fields.length))
  (hw:ws.length+cX.fields.length<=2 ^ 36) (ax ay:AVal) (h1a:one ax=true) (h1b:one ay=true):
  Cl fns summ 121 [.ptr (some (b,0)),.agg (clzC cX ax (.map (some rX))),.agg (clzC cY ay (.map (some rY)))] h fun r h'=>Grow h0 h'/\Kp b rY h h'/\((∃c new wv' ver',Merge cX cY c new/\new.length<=cX.fields.length/\r=.tuple [.agg (clzC c ay (.map (some rY))),.bool true]/\h'.objs.get b=some (ver',.cells false 98 [ov,rv,hv,wv'])/\Built h' h0.next 74 2 wv' (new.reverse++ws).length (rowC (new.reverse++ws))∧
   (∃vy',h'.objs.get rY=some (vy',.map (fEs 0 c.fields) c.fields.length))/\c.kind=3)\/(Clash cX cY/\∃cs,r=.tuple [.agg cs,.bool false]/\cs.length=5/\cs.all one=true)):=by
 unfold clzC
 have w:=G.wf
 refine H.go (fn:=F_sobjects) rfl (by decide) rfl rfl ?_
 unfold F_sobjects
 dsimp only[qQ,qE,qN,gQ,tm,mt,lo,fa,jb,jl,js,jx,jo,jt,jR,jS,jC]
 refine zAv (zBC ?_)
 refine zAm e1 cc w ?_
 rintro b4 h1 hb4 g1' o4
 have l41:=g1'.wf.lt o4
 refine zAm e1 cc g1'.wf ?_
 rintro b5 h2 hb5 g2' o5
 have l52:=g2'.wf.lt o5
 replace o4:=g2'.keep _ _ o4
 refine zAS g2'.wf ?_
 rintro b6 h3 hb6 g3' o6
 replace o4:=g3'.keep _ _ o4
 replace o5:=g3'.keep _ _ o5
 have g03:=(g1'.trans g2').trans g3'
 have G3:=G.trans g03
 have w3:=g3'.wf
 have n01:=g1'.next
 have n00:=G.next
 have ht5:∀p q r s t:AVal,List.take 5 [p,q,r,s,t]=[p,q,r,s,t]:=fun _ _ _ _ _=>rfl
 have n02:=g2'.next
 have hx3:=g03.keep _ _ hx
 have lx3:=w.lt hx
 have ly3:=w.lt hy
 have lb3:=w.lt hs
 have l4:=w3.lt o4
 have l5:=w3.lt o5
 have l6:=w3.lt o6
 have e36:(2:Nat) ^ 36=68719476736:=by decide
 have I0:OInv h0 h3 b rY ov rv hv cX.fields cY.fields ws [] wv h3:=by
  refine⟨G3,Nat.le_refl _,fun c p _ _ k _=>k,⟨ver,g03.keep _ _ hs⟩,by simpa[newW,zIP] using hB.grow g03,⟨vy,?_⟩⟩
  have:zCe cX.fields cY.fields []=[]:=rfl
  rw[this,zlE];exact g03.keep _ _ hy
 have hkx:Kp b rY h h3:=.grow g03
 have hxe:=zLD cX.fields 0
 have hbxe:b≠rX:=by rintro rfl;rw[hs] at hx;cases hx
 have hbye:b≠rY:=by rintro rfl;rw[hs] at hy;cases hy
 clear hs hB hx hy
 repeat refine zR ?_
 refine zMa e1 hx3 w3 ?_
 rintro bi h4 hbi g4 oi
 have I4:=I0.other g4
 clear I0
 repeat refine zR ?_
 refine zBS ?_
 refine zCV (fun m a hp=>∃seen wv,Hid (m+seen.length=cX.fields.length/\seen.Nodup/\(∀i∈seen,i<cX.fields.length)/\(∀i∈seen,(hi:i<cX.fields.length)->cY.isOpen=true\/(zBj cY.fields cX.fields[i].1).isSome=true))/\OInv h0 h3 b rY ov rv hv cX.fields cY.fields ws seen wv hp/\(∃ver,hp.objs.get bi=some (ver,.iter rX cX.fields.length seen cX.fields.length))/\a.defers=[]/\ev a (.tmp 0)=some (.ptr (some (b,0)))/\ev a (.tmp 4)=some (.ptr (some (b4,0)))/\ev a (.tmp 5)=some (.ptr (some (b5,0)))/\ev a (.tmp 6)=some (.ptr (some (b6,0)))/\ev a (.tmp 14)=some (.ptr (some (bi,0)))) ?_ (n:=cX.fields.length)
  ⟨[],wv,⟨rfl,List.nodup_nil,fun i hi=>(by cases hi),fun i hi=>(by cases hi)⟩,I4,⟨_,oi⟩,n1,e1,e1,e1,e1,e1⟩
 clear I4 oi
 rintro m a hp ⟨seen,wv,hS,I,⟨vi,oi⟩,hd,t0',t4',t5',t6',t14'⟩
 obtain⟨vs,os⟩:=I.s
 obtain⟨vy2,oy⟩:=I.y
 have orx:=I.kp rX _ (Ne.symm hbxe) hXY hx3 (by intro _ _ hh;cases hh)
 have o4p:=I.kp b4 _ (by omega) (by omega) o4 (by intro _ _ hh;cases hh)
 have o5p:=I.kp b5 _ (by omega) (by omega) o5 (by intro _ _ hh;cases hh)
 have o6p:=I.kp b6 _ (by omega) (by omega) o6 (by intro _ _ hh;cases hh)
 have hes:∀e∈fEs 0 cX.fields,e.2.2<cX.fields.length:=fun e he=>by
  obtain⟨k,hk,rfl⟩:=zHb he
  show 0+k<_;omega
 have o4':=Hid.mk o4
 have o5':=Hid.mk o5
 have o6':=Hid.mk o6
 have hx3':=Hid.mk hx3
 clear o4 o5 o6 hx3
 repeat refine zR ?_
 refine zOn e1 oi orx hes I.grow.wf (fun hall=>?_) fun e he hns ver' h5 p5 o5n=>?_
 ·obtain⟨hm,hnd,hlt,hop⟩:=hS.out
  have hall':∀i,i<cX.fields.length->i∈seen:=fun i hi=>by
   have:=hall _ (zNt (i:=0) hi)
   simpa using this
  obtain⟨mc,mm⟩:=zOY kX kY hn nX nY aY hnd hall' fun i hi=>hop i (hall' i hi) hi
  have hye:=zLD (cY.fields++zCe cX.fields cY.fields seen) 0
  have hBw:=Hid.mk I.w
  have hkp:=Hid.mk (hkx.trans I.kp)
  have gI:=I.grow
  have wI:=gI.wf
  have nI:=I.nx
  have hones:∀(k:Int) (n:List Nat) (x:AVal) (r:Nat) (o:Bool),one x=true->([.int .i64 k,.str n,x,.map (some r),.bool o]:List AVal).all one=true:=fun k n x r o hx=>by simp only[List.all_cons,hx];rfl
  replace hones:=Hid.mk hones
  have hWl:Hid ((newW cX.fields cY.fields seen).length<=cX.fields.length):=⟨by have:=zOX (fX:=cX.fields) (fY:=cY.fields) (seen:=seen);omega⟩
  generalize hF:cY.fields++zCe cX.fields cY.fields seen=F at oy hye mc mm
  generalize hW:newW cX.fields cY.fields seen=W at hBw mm hWl
  clear hall hes oi hS hop hall' hlt hm I hF hW
  by_cases hcl:cX.isOpen=false/\cX.fields.length<F.length
  ·have hc:=Hid.mk (mc hcl)
   have hdec:decide ((Int.ofNat cX.fields.length:Int)<Int.ofNat F.length)=true:=by simp[hcl.2]
   rw[hcl.1] at o4p
   clear mc mm hcl
   repeat refine zR ?_
   refine zAE e1 e1 cc rfl wI o6p (by simp) (hones.out _ _ _ _ _ h1a) ?_
   rintro v7 h7 p7 o7
   simp only[lL,Nat.reduceAdd] at o7
   clear o4p o5p o6p oy os orx
   repeat' first|refine zG ?_|(with_reducible apply zAD;exact e1;all_goals intro _)
   exact⟨p7.grow h0 w0 gI (by omega),hkp.out.but p7 w (.inr (.inr (by omega))),.inr ⟨hc.out,_,rfl,rfl,hones.out _ _ _ _ _ h1a⟩⟩
  ·have hM:=Hid.mk (mm hcl)
   cases hoX:cX.isOpen
   ·have hdec:decide ((Int.ofNat cX.fields.length:Int)<Int.ofNat F.length)=false:=by
     simp only[hoX,true_and] at hcl
     simpa using hcl
    rw[hoX] at o4p hM
    clear mc mm hcl hoX
    repeat refine zR ?_
    refine zAE e1 e1 cc rfl wI o5p (by simp) rfl ?_
    rintro v7 h7 p7 o7
    simp only[lL,Nat.reduceAdd] at o7
    have w7:=p7.wf wI
    have o6q:=p7.keep b6 (by omega) _ o6p
    have oyq:=p7.keep rY (by omega) _ oy
    have osq:=p7.keep b (by omega) _ os
    have hBq:Hid (Built h7 h0.next 74 2 wv (W.reverse++ws).length (rowC (W.reverse++ws))):=⟨zAK hBw.out p7 o5p (fun vs hh=>by cases hh)⟩
    have hkq:Hid (Kp b rY h h7):=⟨hkp.out.but p7 w (.inr (.inr (by omega)))⟩
    have g7:=p7.grow h0 w0 gI (by omega)
    clear o4p o5p o6p oy os orx hBw hkp
    repeat refine zR ?_
    refine zAE e1 e1 cc rfl w7 o6q (by simp) (hones.out _ _ _ _ _ h1b) ?_
    rintro v8 h8 p8 o8
    simp only[lL,Nat.reduceAdd] at o8
    have oyr:=p8.keep rY (by omega) _ oyq
    have osr:=p8.keep b (by omega) _ osq
    have hBr:=Hid.mk (zAK hBq.out p8 o6q (fun vs hh=>by cases hh))
    have hkr:=Hid.mk (hkq.out.but p8 w (.inr (.inr (by omega))))
    have g8:=p8.grow h0 w0 g7 (by omega)
    clear oyq osq hBq hkq o6q o7 hones
    repeat' first|refine zG ?_|(with_reducible apply zAD;exact e1;all_goals intro _)
    exact⟨g8,hkr.out,.inl ⟨_,W,wv,_,hM.out,hWl.out,by simp only[clzC,kY,Bool.and_true,Bool.and_false],osr,hBr.out,⟨_,oyr⟩,rfl⟩⟩
   ·rw[hoX] at o4p hM
    clear mc mm hcl hoX
    repeat refine zR ?_
    refine zAE e1 e1 cc rfl wI o5p (by simp) rfl ?_
    rintro v7 h7 p7 o7
    simp only[lL,Nat.reduceAdd] at o7
    have w7:=p7.wf wI
    have o6q:=p7.keep b6 (by omega) _ o6p
    have oyq:=p7.keep rY (by omega) _ oy
    have osq:=p7.keep b (by omega) _ os
    have hBq:Hid (Built h7 h0.next 74 2 wv (W.reverse++ws).length (rowC (W.reverse++ws))):=⟨zAK hBw.out p7 o5p (fun vs hh=>by cases hh)⟩
    have hkq:Hid (Kp b rY h h7):=⟨hkp.out.but p7 w (.inr (.inr (by omega)))⟩
    have g7:=p7.grow h0 w0 gI (by omega)
    clear o4p o5p o6p oy os orx hBw hkp
    repeat refine zR ?_
    refine zAE e1 e1 cc rfl w7 o6q (by simp) (hones.out _ _ _ _ _ h1b) ?_
    rintro v8 h8 p8 o8
    simp only[lL,Nat.reduceAdd] at o8
    have oyr:=p8.keep rY (by omega) _ oyq
    have osr:=p8.keep b (by omega) _ osq
    have hBr:=Hid.mk (zAK hBq.out p8 o6q (fun vs hh=>by cases hh))
    have hkr:=Hid.mk (hkq.out.but p8 w (.inr (.inr (by omega))))
    have g8:=p8.grow h0 w0 g7 (by omega)
    clear oyq osq hBq hkq o6q o7 hones
    repeat' first|refine zG ?_|(with_reducible apply zAD;exact e1;all_goals intro _)
    exact⟨g8,hkr.out,.inl ⟨_,W,wv,_,hM.out,hWl.out,by simp only[clzC,kY,Bool.and_true,Bool.and_false],osr,hBr.out,⟨_,oyr⟩,rfl⟩⟩
 ·obtain⟨i,hi,he'⟩:=zHb he
  rw[Nat.zero_add] at he'
  subst he'
  simp only at hns o5n
  obtain⟨hm,hnd,hlt,hop⟩:=hS.out
  have hfind:(fEs 0 cX.fields).find? (fun e=>Nat.beq e.2.2 i)=some (.str cX.fields[i].1,.int .i64 cX.fields[i].2,i):=by
   have:=zNs (i:=0) hi
   rw[Nat.zero_add] at this;exact this
  have hgr:=zMw (fY:=cY.fields) nX hi hns
  have hS2:seen.length<cX.fields.length/\(seen++[i]).Nodup/\(∀j∈seen++[i],j<cX.fields.length):=by
   have h1:(seen++[i]).Nodup:=by
    rw[List.nodup_append]
    exact⟨hnd,by simp,fun a ha b hb=>by simp only[List.mem_singleton] at hb;subst hb;rintro rfl;exact hns ha⟩
   have h2:∀j∈seen++[i],j<cX.fields.length:=fun j hj=>by
    rcases List.mem_append.1 hj with hj|hj
    ·exact hlt j hj
    ·rw[List.mem_singleton.1 hj];exact hi
   have h3:=zCm (seen++[i]) (List.range cX.fields.length) h1 fun j hj=>List.mem_range.2 (h2 j hj)
   rw[List.length_range,List.length_append,List.length_singleton] at h3
   exact⟨by omega,h1,h2⟩
  have I5:=I.side w0 w3 p5 oi (fun _ _ _ hh=>by cases hh) (by omega) hbi (by omega)
  replace hS2:=Hid.mk hS2
  replace hop:=Hid.mk hop
  replace hm:=Hid.mk hm
  replace hfind:=Hid.mk hfind
  clear hS hnd hlt he hes oi oy os orx o4p o5p o6p hxe
  obtain⟨vs5,os⟩:=I5.s
  obtain⟨vy5,oy⟩:=I5.y
  have orx:=I5.kp rX _ (Ne.symm hbxe) hXY hx3'.out (by intro _ _ hh;cases hh)
  have o4p:=I5.kp b4 _ (by omega) (by omega) o4'.out (by intro _ _ hh;cases hh)
  have o5p:=I5.kp b5 _ (by omega) (by omega) o5'.out (by intro _ _ hh;cases hh)
  have o6p:=I5.kp b6 _ (by omega) (by omega) o6'.out (by intro _ _ hh;cases hh)
  have w5:=I5.grow.wf
  have n5:=I5.nx
  have hlk:=fEs_look oy cX.fields[i].1
  rw[hgr] at hlk
  generalize hl:cX.fields[i].1=l at hfind hlk
  generalize ha:cX.fields[i].2=x at hfind
  have hia:cX.fields[i]=(l,x):=by rw[<-hl,<-ha]
  repeat refine zR ?_
  refine zMZ e1 o5n orx hfind.out ?_
  clear orx
  cases hf:zBj cY.fields l with
  |some y=>
   rw[hf] at hlk
   simp only[Option.getD_some,Option.isSome_some] at hlk
   have hroom:=roomP (k:=((newW cX.fields cY.fields seen).reverse++ws).length+1) (by
    have:=zOX (fX:=cX.fields) (fY:=cY.fields) (seen:=seen)
    have e37:(2:Nat) ^ 37=137438953472:=by decide
    have:=hS2.out.1
    simp only[List.length_append,List.length_reverse];omega)
   replace hroom:=Hid.mk hroom
   clear o4p o6p
   repeat refine zR ?_
   refine zAW e1 (cs:=[.int .i64 x,.int .i64 y]) rfl rfl rfl w5 ?_
   rintro bx h12 hbx g12 ox
   refine zAi e1 e1 (I5.w.grow g12) ox rfl rfl hroom.out g12.wf (by have:=I5.grow.next;have:=g12.next;omega) ?_
   rintro wv' h13 B13 f13 w13 n13 gr13 kp13
   have os13:=kp13 _ _ (g12.keep _ _ os) (zAF (I5.w.grow g12) (g12.keep _ _ os) fun vs hh=>by cases hh)
   have oi13:=kp13 _ _ (g12.keep _ _ o5n) (zAF (I5.w.grow g12) (g12.keep _ _ o5n) fun vs hh=>by cases hh)
   clear ox os oy o5p hlk
   repeat refine zR ?_
   refine zAE e1 e1 (zAP B13.len) rfl w13 os13 (by simp) (by simp only[List.all_cons,List.all_nil,zAH B13.len,Bool.and_true]) ?_
   rintro v14 h14 p14 o14
   simp only[lL,Nat.reduceAdd] at o14
   obtain⟨hA,hN⟩:=adds_old (fX:=cX.fields) (fY:=cY.fields) (seen:=seen) hi (b:=y) (by rw[hia];exact hf)
   have I14:=I5.push (seen':=seen++[i]) w0 w3 lb g12 (q:=(x,y)) B13 gr13 n13 kp13 p14 os13 (fun vs hh=>by cases hh) o14 (by rw[hN,hia]) hA
   have oi14:=p14.keep bi (by omega) _ oi13
   clear os13 oi13 o14 B13 kp13 gr13 hA hN
   repeat refine zR ?_
   exact⟨m - 1,by have:=hm.out;have:=hS2.out.1;omega,seen++[i],wv',⟨by have:=hm.out;have:=hS2.out.1;rw[List.length_append,List.length_singleton];omega,hS2.out.2.1,hS2.out.2.2,fun j hj hjl=>by
    rcases List.mem_append.1 hj with hj|hj
    ·exact hop.out j hj hjl
    ·obtain rfl:=List.mem_singleton.1 hj
     exact .inr (by rw[hia,hf];rfl)⟩,I14,⟨_,oi14⟩,n1,e1,e1,e1,e1,e1⟩
  |none=>
   rw[hf] at hlk
   simp only[Option.getD_none,Option.isSome_none] at hlk
   cases hoY:cY.isOpen with
   |false=>
    rw[hoY] at o5p
    have hcl:Hid (Clash cX cY):=⟨by omega,by omega,.inr (.inr ⟨kX,kY,.inl ⟨hoY,l,x,by rw[<-hia];exact List.getElem_mem hi,zCj.1 hf⟩⟩)⟩
    have hones:([.int .i64 3,.str cY.name,ax,.map (some rX),.bool cX.isOpen]:List AVal).all one=true:=by simp only[List.all_cons,h1a];rfl
    have gI:=I5.grow
    have hkp5:=Hid.mk (hkx.trans I5.kp)
    replace hones:=Hid.mk hones
    clear hoY hf oy os
    repeat refine zR ?_
    refine zAE e1 e1 cc rfl w5 o6p (by simp) hones.out ?_
    rintro v7 h7 p7 o7
    simp only[lL,Nat.reduceAdd] at o7
    clear o4p o5p o6p o5n
    repeat' first|refine zG ?_|(with_reducible apply zAD;exact e1;all_goals intro _)
    exact⟨p7.grow h0 w0 gI (by omega),hkp5.out.but p7 w (.inr (.inr (by omega))),.inr ⟨hcl.out,_,rfl,rfl,hones.out⟩⟩
   |true=>
    rw[hoY] at o5p
    have hgn:zBj (cY.fields++zCe cX.fields cY.fields seen) l=none:=by rw[<-hl,hgr,hl,hf]
    replace hgn:=Hid.mk hgn
    clear hoY o4p o6p
    repeat refine zR ?_
    refine zFb (kk:=.str) e1 e1 e1 (by intro hh;cases hh) rfl w5 oy (zMD hgn.out) ?_
    rintro v14 h14 p14 o14
    have I14:=I5.label w0 w3 ly p14 hi (by rw[hia];exact hf) (by rw[hia];exact o14)
    have hbiY:bi≠rY:=by omega
    have oi14:=p14.keep bi hbiY _ o5n
    clear o14 oy os o5p hlk o5n hf
    repeat refine zR ?_
    exact⟨m - 1,by have:=hm.out;have:=hS2.out.1;omega,seen++[i],wv,⟨by have:=hm.out;have:=hS2.out.1;rw[List.length_append,List.length_singleton];omega,hS2.out.2.1,hS2.out.2.2,fun j _ _=>.inl rfl⟩,I14,⟨_,oi14⟩,n1,e1,e1,e1,e1,e1⟩
end
end Go.Ab.S
end
