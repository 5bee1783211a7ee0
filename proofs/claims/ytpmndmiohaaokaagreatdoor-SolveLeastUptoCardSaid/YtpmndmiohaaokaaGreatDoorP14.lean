import Derived.Test.YtpmndmiohaaokaaGreatDoorP12
import Derived.Test.YtpmndmiohaaokaaGreatDoorP13
/-
  Part 14 of the proof.
-/
set_option linter.all false
section
namespace Go.Ab.S
open Go Go.Ab
set_option maxHeartbeats 1000000
def zDl:List (List Nat×Int)->List Nat->Int
 |[],_=>0
 |(k,a)::r,l=>if k=l then a else zDl r l
theorem zEJ:∀{fs:List (List Nat×Int)} {l:List Nat} {a:Int},(fs.map (·.1)).Nodup->(l,a)∈fs->zDl fs l=a
 |(k,b)::r,l,a,hn,h=>by
  simp only [List.map_cons,List.nodup_cons] at hn
  rw [zDl]
  rcases List.mem_cons.1 h with h|h
  ·cases h;rw [if_pos rfl]
  ·rw [if_neg,zEJ hn.2 h]
   rintro rfl
   exact hn.1 (List.mem_map.2 ⟨_,h,rfl⟩)
def zGm (c:Clz) (f:Int->Int) (ls:List (List Nat)):Node:=⟨c.kind,c.name,c.args.map f++ls.map fun l=>f (zDl c.fields l),ls,c.isOpen⟩
structure ObjOut (g:Graph) (ps:List Pr) (R:List Int) (i:Int) (N:Node):Prop where
 kind:N.kind=3
 name:N.name=[]
 len:N.labels.length=N.args.length
 rises:zFG N.labels=true
 labels:∀l,l∈N.labels↔∃m,Uni g ps i m/\(zAB g m).kind=3/\l∈(zAB g m).labels
 args:∀(k:Nat) l,N.labels[k]?=some l->∀m (j:Nat),Uni g ps i m->(zAB g m).kind=3->(zAB g m).labels[j]?=some l->N.args.getD k 0=clAt R ((zAB g m).args.getD j 0)
 isOpen:N.isOpen=true↔∀m,Uni g ps i m->(zAB g m).kind=3->(zAB g m).isOpen=true
structure UOut (g:Graph) (ps:List Pr) (U:Graph) (R:List Int):Prop where
 consi:Consi g ps
 lenR:R.length=g.nodes.length
 lenU:U.nodes.length=g.nodes.length
 root:U.root=clAt R g.root
 rep:∀i,InG g i->Uni g ps i (clAt R i)/\∀j,Uni g ps i j->clAt R i<=j
 var:∀i,InG g i->(∀m,Uni g ps i m->(zAB g m).kind=1)->zAB U i=⟨1,[],[],[],false⟩
 con:∀i m,Uni g ps i m->(zAB g m).kind=2->zAB U i=⟨2,(zAB g m).name,(zAB g m).args.map (clAt R),[],false⟩
 obj:∀i m,Uni g ps i m->(zAB g m).kind=3->ObjOut g ps R i (zAB U i)
theorem zKz:∀{l:List (List Nat)} {p:Option (List Nat)},(∀s∈l,zDA s=true)->Rises l->(∀q,p=some q->∀s,l.head?=some s->zBJ q s=true)->risG p l=true
 |[],_,_,_,_=>rfl
 |x::l,p,h,hr,hp=>by
  have h1:=h x (by simp)
  have h3:risG (some x) l=true:=zKz (fun s hs=>h s (by simp [hs])) (fun i j hij a b ha hb=>hr (i+1) (j+1) (by omega) a b (by simpa using ha) (by simpa using hb)) fun q hq s hs=>by
   cases hq
   refine hr 0 1 (by omega) x s rfl ?_
   cases l with
   |nil=>cases hs
   |cons y l=>simpa using hs
  simp only [risG,h1,h3,Bool.true_and,Bool.and_true]
  cases p with
  |none=>rfl
  |some q=>exact hp q rfl x rfl
section
variable {g:Graph} {ps:List Pr} {rt:Int->Int} {has:Int->Clz}
theorem UInv.out (hc:zAF g=0) (I:UInv g ps rt has []) {U:Graph} {R:List Int} (lenR:R.length=g.nodes.length) (lenU:U.nodes.length=g.nodes.length) (root:U.root=clAt R g.root)
  (rep:∀i,InG g i->InG g (clAt R i)/\rt (clAt R i)=rt i/\∀j,InG g j->rt j=rt i->clAt R i<=j)
  (nodes:∀i,InG g i->∃ls,Rises ls/\(∀l,l∈ls↔∃a,(l,a)∈(has (rt i)).fields)/\zAB U i=zGm (has (rt i)) (clAt R) ls):UOut g ps U R:=by
 obtain ⟨hU,hC⟩:=I.fin hc
 have hto:∀{a b},Uni g ps a b->rt a=rt b:=fun h=>(hU _ _ (h.inG hc).1 (h.inG hc).2).2 h
 have hrep:∀i,InG g i->Uni g ps i (clAt R i)/\∀j,Uni g ps i j->clAt R i<=j:=fun i hi=>by
  obtain ⟨h1,h2,h3⟩:=rep i hi
  exact ⟨(hU i _ hi h1).1 h2.symm,fun j hj=>h3 j (hj.inG hc).2 (hto hj).symm⟩
 have heq:∀{a b},Uni g ps a b->clAt R a=clAt R b:=fun {a b} h=>by
  have h1:=(hrep a (h.inG hc).1)
  have h2:=(hrep b (h.inG hc).2)
  have h3:=h1.2 _ (h.trans h2.1)
  have h4:=h2.2 _ (h.symm.trans h1.1)
  omega
 refine ⟨hC,lenR,lenU,root,hrep,fun i hi hv=>?_,fun i m him hk=>?_,fun i m him hk=>?_⟩
 ·obtain ⟨ls,h1,h2,h3⟩:=nodes i hi
  obtain ⟨hr,hrr⟩:=I.rng i hi
  have C:=I.cls _ hr hrr
  obtain ⟨m,m1,m2,m3,m4⟩:=C.one
  have hm:=hv m ((hU i m hi m1).1 m2.symm)
  have hn:(zAB g m).name=[]:=by
   rcases zAP (zAk hc m1) with ⟨_,_,_,q,_⟩|⟨q,_⟩|⟨q,_⟩
   ·exact q
   ·omega
   ·omega
  obtain ⟨f1,f2⟩:=C.nofields (by omega)
  have hl:ls=[]:=by
   cases ls with
   |nil=>rfl
   |cons x r=>obtain ⟨a,ha⟩:=(h2 x).1 (by simp);rw [f1] at ha;cases ha
  rw [h3,zGm,hl,<-m3,hm,<-m4,hn,C.noargs (by omega),f2];rfl
 ·have hin:=him.inG hc
  obtain ⟨ls,h1,h2,h3⟩:=nodes i hin.1
  obtain ⟨hr,hrr⟩:=I.rng i hin.1
  have C:=I.cls _ hr hrr
  have hck:(has (rt i)).kind=2/\(has (rt i)).name=(zAB g m).name:=by
   rcases C.like m hin.2 (hto him).symm with q|⟨q,w⟩
   ·omega
   ·exact ⟨by rw [<-q,hk],w.symm⟩
  obtain ⟨f1,f2⟩:=C.nofields (by omega)
  have hl:ls=[]:=by
   cases ls with
   |nil=>rfl
   |cons x r=>obtain ⟨a,ha⟩:=(h2 x).1 (by simp);rw [f1] at ha;cases ha
  obtain ⟨m',m1,m2,m3,m4⟩:=C.args hck.1
  have hmm:Uni g ps m' m:=((hU i m' hin.1 m1).1 m2.symm).symm.trans him
  have hnm:(zAB g m').name=(zAB g m).name:=by
   rcases C.like m' m1 m2 with q|⟨_,w⟩
   ·omega
   ·rw [w,hck.2]
  have hlen:=zEx hc m1 hin.2 m3 hk hnm
  have hargs:(zAB g m').args.map (clAt R)=(zAB g m).args.map (clAt R):=by
   apply List.ext_getElem
   ·simpa using hlen
   ·intro k k1 k2
    simp only [List.length_map] at k1 k2
    have:=heq (.con hmm m3 hk hnm k1)
    simp only [List.getD,zgG k1,zgG k2,Option.getD_some] at this
    simpa using this
  rw [h3,zGm,hl,hck.1,hck.2,m4,f2,hargs]
  simp
 ·have hin:=him.inG hc
  obtain ⟨ls,h1,h2,h3⟩:=nodes i hin.1
  obtain ⟨hr,hrr⟩:=I.rng i hin.1
  have C:=I.cls _ hr hrr
  have hck:(has (rt i)).kind=3/\(has (rt i)).name=(zAB g m).name:=by
   rcases C.like m hin.2 (hto him).symm with q|⟨q,w⟩
   ·omega
   ·exact ⟨by rw [<-q,hk],w.symm⟩
  have hna:=C.noargs (by omega)
  have hmem:∀m,InG g m->(rt m=rt i↔Uni g ps i m):=fun m hm=>⟨fun h=>(hU i m hin.1 hm).1 h.symm,fun h=>(hto h).symm⟩
  have hlab:∀l,l∈ls↔∃m,Uni g ps i m/\(zAB g m).kind=3/\l∈(zAB g m).labels:=fun l=>by
   rw [h2,C.keys]
   constructor
   ·rintro ⟨m,q1,q2,q3⟩;exact ⟨m,(hmem m q1).1 q2,q3⟩
   ·rintro ⟨m,q1,q3⟩;exact ⟨m,(q1.inG hc).2,(hmem m (q1.inG hc).2).2 q1,q3⟩
  rw [h3]
  refine ⟨hck.1,?_,?_,?_,hlab,fun k l hkl m' j hm' hk' hj=>?_,?_⟩
  ·show (has (rt i)).name=[]
   rw [hck.2];exact (zCM hc hin.2 hk).2.2
  ·show ls.length=((has (rt i)).args.map (clAt R)++ls.map fun l=>clAt R (zDl (has (rt i)).fields l)).length
   rw [hna];simp
  ·refine zKz (fun s hs=>?_) h1 fun q hq=>by cases hq
   obtain ⟨m',q1,q2,q3⟩:=(hlab s).1 hs
   rcases zAP (zAk hc (q1.inG hc).2) with ⟨q,_⟩|⟨q,_⟩|⟨_,_,_,hr⟩
   ·omega
   ·omega
   ·exact zGX hr s q3
  ·change ls[k]?=some l at hkl
   show ((has (rt i)).args.map (clAt R)++ls.map fun l=>clAt R (zDl (has (rt i)).fields l)).getD k 0=_
   rw [hna,List.map_nil,zlA,List.getD,zgM,hkl]
   show clAt R (zDl (has (rt i)).fields l)=_
   obtain ⟨a,ha⟩:=(h2 l).1 (List.mem_of_getElem? hkl)
   rw [zEJ C.nodup ha]
   have hin':=(hm'.inG hc).2
   have hd:=(I.obj m' j l a hin' hk' hj (by rw [(hmem m' hin').2 hm'];exact ha)).done
   obtain ⟨n,q,n1,n2,n3,n4,n5⟩:=C.vals l a ha
   have:Uni g ps ((zAB g n).args.getD q 0) ((zAB g m').args.getD j 0):=.obj (((hmem n n1).1 n2).symm.trans hm') n3 hk' n4 hj
   rw [<-n5]
   exact heq this
  ·refine (C.opn hck.1).trans ⟨fun h m' hm'=>h m' (hm'.inG hc).2 ((hmem m' (hm'.inG hc).2).2 hm'),fun h m' q1 q2=>h m' ((hmem m' q1).1 q2)⟩
end
section
variable {g:Graph} {ps:List Pr} {U:Graph} {R:List Int}
theorem UOut.eq (hc:zAF g=0) (O:UOut g ps U R) {a b:Int} (h:Uni g ps a b):clAt R a=clAt R b:=by
 have h1:=O.rep a (h.inG hc).1
 have h2:=O.rep b (h.inG hc).2
 have h3:=h1.2 _ (h.trans h2.1)
 have h4:=h2.2 _ (h.symm.trans h1.1)
 omega
theorem UOut.inR (hc:zAF g=0) (O:UOut g ps U R) {a:Int} (h:InG g a):InG g (clAt R a):=((O.rep a h).1.inG hc).2
theorem UOut.check (hc:zAF g=0) (O:UOut g ps U R):zAF U=0:=by
 obtain ⟨g0,g1,g2,g3⟩:=zAU hc
 have hr:=O.inR hc (a:=g.root) ⟨g0,g1⟩
 refine zGE (by rw [O.root];exact hr.1) (by rw [O.root,O.lenU];exact hr.2) (by rw [O.lenU];exact g2) fun n hn=>?_
 rw [<-zFy U] at hn
 obtain ⟨i,hi,rfl⟩:=List.mem_map.1 hn
 have hi:=zHT.1 hi
 rw [O.lenU] at hi ⊢
 by_cases h2:∃m,Uni g ps i m/\(zAB g m).kind=2
 ·obtain ⟨m,h2,h3⟩:=h2
  have hm:=zAk hc (h2.inG hc).2
  rw [O.con i m h2 h3]
  have:=zJl hm (clAt R) fun a ha=>O.inR hc (zAt hm a ha)
  rcases zAP hm with ⟨q,_⟩|⟨_,q1,q2,_⟩|⟨q,_⟩
  ·omega
  ·rw [h3,q1,q2] at this;exact this
  ·omega
 ·by_cases h3:∃m,Uni g ps i m/\(zAB g m).kind=3
  ·obtain ⟨m,h3,h4⟩:=h3
   have Q:=O.obj i m h3 h4
   generalize zAB U i=N at Q
   have hargs:N.args.any (fun a=>decide (a<0)||decide (a>=(g.nodes.length:Int)))=false:=by
    rw [List.any_eq_false]
    intro a ha
    obtain ⟨k,hk,rfl⟩:=List.mem_iff_getElem.1 ha
    have hkl:k<N.labels.length:=by rw [Q.len];exact hk
    obtain ⟨m',m1,m2,m3⟩:=(Q.labels _).1 (List.getElem_mem hkl)
    obtain ⟨j,hj,hje⟩:=List.mem_iff_getElem.1 m3
    have hval:=Q.args k _ (zgG hkl) m' j m1 m2 (by rw [zgG hj,hje])
    rw [List.getD,zgG hk,Option.getD_some] at hval
    have hin:=(m1.inG hc).2
    have hjl:j<(zAB g m').args.length:=by rw [<-(zCM hc hin m2).1];exact hj
    have hrange:=O.inR hc (zAt (zAk hc hin) _ (zBN hjl))
    simp only [InG] at hrange
    rw [hval]
    simp only [Bool.or_eq_true,decide_eq_true_eq,not_or]
    omega
   obtain ⟨k,nm,ar,ls,op⟩:=N
   have e1:=Q.kind;have e2:=Q.name;have e3:=Q.len;have e4:=Q.rises
   simp only at e1 e2 e3 e4 hargs
   subst e1;subst e2
   simp only [mayF,hargs,Bool.false_eq_true,if_false,e4,e3]
   have z:(ar.length==ar.length)=true:=by simp
   rw [z];rfl
  ·have hv:=O.var i hi fun m hm=>by
    rcases zAP (zAk hc (hm.inG hc).2) with ⟨q,_⟩|⟨q,_⟩|⟨q,_⟩
    ·exact q
    ·exact absurd ⟨m,hm,q⟩ h2
    ·exact absurd ⟨m,hm,q⟩ h3
   rw [hv];rfl
theorem UOut.one (hc:zAF g=0) {ps':List Pr} {U':Graph} {R':List Int} (O:UOut g ps U R) (O':UOut g ps' U' R') (h:∀a b,Uni g ps a b↔Uni g ps' a b):R=R'/\U=U':=by
 have hR:∀i,InG g i->clAt R i=clAt R' i:=fun i hi=>by
  have h1:=O.rep i hi
  have h2:=O'.rep i hi
  have h3:=h1.2 _ ((h _ _).2 h2.1)
  have h4:=h2.2 _ ((h _ _).1 h1.1)
  omega
 have eR:R=R':=by
  apply List.ext_getElem
  ·rw [O.lenR,O'.lenR]
  ·intro k k1 k2
   have:=hR (k:Int) ⟨by omega,by rw [O.lenR] at k1;omega⟩
   rw [zCY,zCY,List.getD,List.getD,zgG k1,zgG k2] at this
   simpa using this
 refine ⟨eR,?_⟩
 subst eR
 have hroot:U.root=U'.root:=by rw [O.root,O'.root]
 have hnodes:U.nodes=U'.nodes:=by
  rw [<-zFy U,<-zFy U',O.lenU,O'.lenU]
  refine List.map_congr_left fun i hi=>?_
  have hi:InG g i:=zHT.1 hi
  by_cases h2:∃m,Uni g ps i m/\(zAB g m).kind=2
  ·obtain ⟨m,h2,h3⟩:=h2
   rw [O.con i m h2 h3,O'.con i m ((h _ _).1 h2) h3]
  ·by_cases h3:∃m,Uni g ps i m/\(zAB g m).kind=3
   ·obtain ⟨m,h3,h4⟩:=h3
    have Q:=O.obj i m h3 h4
    have Q':=O'.obj i m ((h _ _).1 h3) h4
    have hl:(zAB U i).labels=(zAB U' i).labels:=zEO (zBE Q.rises) (zBE Q'.rises) fun l=>by
     rw [Q.labels,Q'.labels]
     exact ⟨fun ⟨m,k1,k2⟩=>⟨m,(h _ _).1 k1,k2⟩,fun ⟨m,k1,k2⟩=>⟨m,(h _ _).2 k1,k2⟩⟩
    have ho:(zAB U i).isOpen=(zAB U' i).isOpen:=by
     rw [Bool.eq_iff_iff,Q.isOpen,Q'.isOpen]
     exact ⟨fun q m hm=>q m ((h _ _).2 hm),fun q m hm=>q m ((h _ _).1 hm)⟩
    have ha:(zAB U i).args=(zAB U' i).args:=by
     apply List.ext_getElem
     ·rw [<-Q.len,<-Q'.len,hl]
     ·intro k k1 k2
      have hkl:k<(zAB U i).labels.length:=by rw [Q.len];exact k1
      obtain ⟨m',m1,m2,m3⟩:=(Q.labels _).1 (List.getElem_mem hkl)
      obtain ⟨j,hj,hje⟩:=List.mem_iff_getElem.1 m3
      have a1:=Q.args k _ (zgG hkl) m' j m1 m2 (by rw [zgG hj,hje])
      have a2:=Q'.args k _ (by rw [<-hl];exact zgG hkl) m' j ((h _ _).1 m1) m2 (by rw [zgG hj,hje])
      rw [<-a2,List.getD,List.getD,zgG k1,zgG k2] at a1
      simpa using a1
    have hk:=Q.kind.trans Q'.kind.symm
    have hn:=Q.name.trans Q'.name.symm
    generalize zAB U i=N at hl ho ha hk hn
    generalize zAB U' i=N' at hl ho ha hk hn
    cases N;cases N'
    simp only at hl ho ha hk hn
    subst hl;subst ho;subst ha;subst hk;subst hn;rfl
   ·have hv:∀m,Uni g ps i m->(zAB g m).kind=1:=fun m hm=>by
     rcases zAP (zAk hc (hm.inG hc).2) with ⟨q,_⟩|⟨q,_⟩|⟨q,_⟩
     ·exact q
     ·exact absurd ⟨m,hm,q⟩ h2
     ·exact absurd ⟨m,hm,q⟩ h3
    rw [O.var i hi hv,O'.var i hi fun m hm=>hv m ((h _ _).2 hm)]
 cases U;cases U'
 simp only at hroot hnodes
 subst hroot;subst hnodes;rfl
end
end Go.Ab.S
end
section
namespace Go.Ab.S
open Go Go.Ab
set_option maxHeartbeats 1000000
def InN (N:Nat) (a:Int):Prop:=0<=a/\a<N
theorem zHN {l:List Int} {i:Nat} (hi:i<l.length) (v a:Int) (ha:0<=a):clAt (l.set i v) a=if a=(i:Int) then v else clAt l a:=by
 simp only [clAt,List.getD,List.getElem?_set]
 by_cases h:a=(i:Int)
 ·subst h;simp [hi]
 ·rw [if_neg h,if_neg (by omega)]
structure UF (N:Nat) (on rk:List Int) (rt:Int->Int) (K:Nat):Prop where
 lo:on.length=N
 lr:rk.length=N
 rng:∀a,InN N a->InN N (clAt on a)
 same:∀a,InN N a->rt (clAt on a)=rt a
 fix:∀a,InN N a->(clAt on a=a↔rt a=a)
 up:∀a,InN N a->clAt on a≠a->clAt rk a<clAt rk (clAt on a)
 rk:∀a,InN N a->0<=clAt rk a/\clAt rk a<=K
section
variable {N K:Nat} {on rk:List Int} {rt:Int->Int}
theorem UF.squash (u:UF N on rk rt K) {i:Nat} (hi:i<N) (hne:clAt on (i:Int)≠i):UF N (on.set i (clAt on (clAt on (i:Int)))) rk rt K:=by
 have ha:InN N (i:Int):=⟨by omega,by omega⟩
 have hc:=u.rng _ ha
 have hu:=u.up _ ha hne
 have hil:i<on.length:=by rw [u.lo];exact hi
 have hup:clAt on (clAt on (i:Int))≠i/\clAt rk (i:Int)<clAt rk (clAt on (clAt on (i:Int))):=by
  by_cases h:clAt on (clAt on (i:Int))=clAt on (i:Int)
  ·rw [h];exact ⟨hne,hu⟩
  ·have:=u.up _ hc h
   refine ⟨fun h2=>?_,by omega⟩
   rw [h2] at this;omega
 have e:∀a,InN N a->clAt (on.set i (clAt on (clAt on (i:Int)))) a=if a=(i:Int) then clAt on (clAt on (i:Int)) else clAt on a:=fun a h=>zHN hil _ a h.1
 refine ⟨by rw [List.length_set,u.lo],u.lr,fun a h=>?_,fun a h=>?_,fun a h=>?_,fun a h=>?_,u.rk⟩
 ·rw [e a h];split
  ·exact u.rng _ hc
  ·exact u.rng _ h
 ·rw [e a h];split
  ·rename_i q;rw [q,u.same _ hc,u.same _ ha]
  ·exact u.same _ h
 ·rw [e a h];split
  ·rename_i q;rw [q]
   exact ⟨fun h2=>absurd h2 hup.1,fun h2=>absurd ((u.fix _ ha).2 h2) hne⟩
  ·exact u.fix _ h
 ·rw [e a h];split
  ·rename_i q;rw [q];exact fun _=>hup.2
  ·exact u.up _ h
theorem UF.link (u:UF N on rk rt K) {x y:Nat} (hx:x<N) (hy:y<N) (kx:rt (x:Int)=x) (ky:rt (y:Int)=y) (hne:x≠y) {rk':List Int} (hr:(clAt rk (y:Int)<clAt rk (x:Int)/\rk'=rk)\/(clAt rk (y:Int)=clAt rk (x:Int)/\rk'=rk.set x (clAt rk (x:Int)+1))):
  UF N (on.set y x) rk' (fun a=>if rt a=y then x else rt a) (K+1):=by
 have ix:InN N (x:Int):=⟨by omega,by omega⟩
 have iy:InN N (y:Int):=⟨by omega,by omega⟩
 have e:∀a,InN N a->clAt (on.set y (x:Int)) a=if a=(y:Int) then (x:Int) else clAt on a:=fun a h=>zHN (by rw [u.lo];exact hy) _ a h.1
 have fx:clAt on (x:Int)=x:=(u.fix _ ix).2 kx
 have fy:clAt on (y:Int)=y:=(u.fix _ iy).2 ky
 have er:rk'.length=N/\∀a,InN N a->(a=(x:Int)->clAt rk a<=clAt rk' a/\clAt rk (y:Int)<clAt rk' a/\clAt rk' a<=clAt rk a+1)/\(a≠(x:Int)->clAt rk' a=clAt rk a):=by
  rcases hr with ⟨h1,rfl⟩|⟨h1,rfl⟩
  ·exact ⟨u.lr,fun a _=>⟨fun h=>by subst h;omega,fun _=>rfl⟩⟩
  ·refine ⟨by rw [List.length_set,u.lr],fun a h=>?_⟩
   rw [zHN (by rw [u.lr];exact hx) _ a h.1]
   refine ⟨fun h2=>?_,fun h2=>by rw [if_neg h2]⟩
   subst h2;rw [if_pos rfl];omega
 obtain ⟨lr,er⟩:=er
 refine ⟨by rw [List.length_set,u.lo],lr,fun a h=>?_,fun a h=>?_,fun a h=>?_,fun a h=>?_,fun a h=>?_⟩
 ·rw [e a h];split
  ·exact ix
  ·exact u.rng _ h
 ·rw [e a h]
  by_cases q:a=(y:Int)
  ·rw [if_pos q,q,ky,if_pos rfl,kx,if_neg (by omega)]
  ·rw [if_neg q,u.same _ h]
 ·rw [e a h]
  by_cases q:a=(y:Int)
  ·rw [if_pos q,q,ky,if_pos rfl]
  ·rw [if_neg q]
   show _↔(if rt a=(y:Int) then (x:Int) else rt a)=a
   by_cases q2:rt a=(y:Int)
   ·rw [if_pos q2]
    constructor
    ·intro h2
     have:=(u.fix _ h).1 h2;omega
    ·intro h2
     have h3:a=(x:Int):=h2.symm
     rw [h3,kx] at q2;omega
   ·rw [if_neg q2];exact u.fix _ h
 ·rw [e a h]
  by_cases q:a=(y:Int)
  ·rw [if_pos q,q]
   intro _
   rw [(er _ iy).2 (by omega)]
   exact ((er _ ix).1 rfl).2.1
  ·rw [if_neg q]
   intro h2
   have h3:=u.up _ h h2
   have h4:a≠(x:Int):=fun h5=>h2 (by rw [h5,fx])
   rw [(er _ h).2 h4]
   by_cases h5:clAt on a=(x:Int)
   ·rw [h5] at h3 ⊢
    have:=((er _ ix).1 rfl).1;omega
   ·rw [(er _ (u.rng _ h)).2 h5];exact h3
 ·have h1:=u.rk _ h
  by_cases q:a=(x:Int)
  ·have h2:=(er _ h).1 q
   omega
  ·rw [(er _ h).2 q];omega
def zGN (n:Nat):List Int:=(List.range n).map fun (i:Nat)=>(i:Int)
theorem zJd {n:Nat} {a:Int} (h:InN n a):clAt (zGN n) a=a:=by
 have h1:=h.1;have h2:=h.2
 simp only [clAt,zGN,List.getD,zgM]
 rw [List.getElem?_range (by omega)]
 simp;omega
theorem UF.start (n:Nat):UF n (zGN n) (List.replicate n 0) id 0:=by
 have hz:∀a,clAt (List.replicate n (0:Int)) a=0:=fun a=>by
  simp only [clAt,List.getD,List.getElem?_replicate];split<;>rfl
 refine ⟨by simp [zGN],by simp,fun a h=>by rw [zJd h];exact h,fun a h=>by rw [zJd h],fun a h=>by rw [zJd h];simp,fun a h h2=>absurd (zJd h) h2,fun a h=>by rw [hz];omega⟩
def zDd (N:Nat) (rt:Int->Int):Nat:=(List.range N).countP fun i:Nat=>rt (i:Int)==(i:Int)
theorem zNN {x y:Nat} (hy:y<N) (ky:rt (y:Int)=y) (kx:rt (x:Int)=x) (hne:x≠y):zDd N (fun a=>if rt a=(y:Int) then (x:Int) else rt a)<zDd N rt:=by
 refine zHf (fun i _ h=>?_) ⟨y,List.mem_range.2 hy,?_,by simpa using ky⟩
 ·simp only [beq_iff_eq] at h ⊢
  by_cases q:rt (i:Int)=(y:Int)
  ·rw [if_pos q] at h
   rw [<-h,kx]
  ·rwa [if_neg q] at h
 ·simp only [ky,if_true]
  simpa using fun h:(x:Int)=(y:Int)=>hne (by omega)
theorem zIK (n:Nat):zDd n id<=n:=by
 have:=List.countP_le_length (p:=fun i:Nat=>(id (i:Int))==(i:Int)) (l:=List.range n)
 rw [List.length_range] at this;exact this
end
abbrev Fld:=List Nat×Int
def fEs:Nat->List Fld->List (AVal×AVal×Nat)
 |_,[]=>[]
 |i,p::r=>(.str p.1,.int .i64 p.2,i)::fEs (i+1) r
theorem zLS:∀(l:List Fld) (i:Nat),(fEs i l).length=l.length
 |[],_=>rfl
 |_::l,i=>by simp only [fEs,zlC,zLS l (i+1)]
theorem zLT:∀(l:List Fld) (i:Nat) (p:Fld),fEs i (l++[p])=fEs i l++[(.str p.1,.int .i64 p.2,i+l.length)]
 |[],i,p=>rfl
 |b::l,i,p=>by simp only [zlK,fEs,zLT l (i+1) p,zlC,show i+1+l.length=i+(l.length+1) by omega]
def zBv:List Fld->List Nat->Option Int
 |[],_=>none
 |p::r,s=>if p.1=s then some p.2 else zBv r s
theorem zRJ (a b:List Nat):eqL a b=decide (a=b):=by
 rw [Bool.eq_iff_iff,zBR,decide_eq_true_eq]
theorem zHQ (s:List Nat):∀(l:List Fld) (i j:Nat),∃k,zBp .str (.str s) (fEs i l) j=some ((zBv l s).map fun a=>(k,.int .i64 a))
 |[],_,_=>⟨0,rfl⟩
 |p::l,i,j=>by
  simp only [fEs,zBp,keyA,zRJ,zBv]
  by_cases h:p.1=s
  ·subst h;exact ⟨j,by simp⟩
  ·obtain ⟨k,hk⟩:=zHQ s l (i+1) (j+1)
   refine ⟨k,?_⟩
   rw [decide_eq_false (fun e=>h e.symm),if_neg h]
   exact hk
theorem zPY {h:AHeap} {r ver c:Nat} {l:List Fld} (hg:h.objs.get r=some (ver,.map (fEs 0 l) c)) (s:List Nat):zDB h .str (.int .i64 0) true (.map (some r)) (.str s)=some (.tuple [.int .i64 ((zBv l s).getD 0),.bool (zBv l s).isSome],some r):=by
 obtain ⟨k,hk⟩:=zHQ s l 0 0
 simp only [zDB,zEh,hg,hk]
 cases zBv l s<;>rfl
theorem zNy {h:AHeap} {r ver c:Nat} {l:List Fld} (hg:h.objs.get r=some (ver,.map (fEs 0 l) c)) (s:List Nat):zDB h .str (.int .i64 0) false (.map (some r)) (.str s)=some (.int .i64 ((zBv l s).getD 0),some r):=by
 obtain ⟨k,hk⟩:=zHQ s l 0 0
 simp only [zDB,zEh,hg,hk]
 cases zBv l s<;>rfl
theorem zMK {l:List Fld} {s:List Nat} (h:zBv l s=none):zBp .str (.str s) (fEs 0 l) 0=some none:=by
 obtain ⟨k,hk⟩:=zHQ s l 0 0
 rw [hk,h];rfl
theorem zHi:∀{l:List Fld} {i:Nat} {e:AVal×AVal×Nat},e∈fEs i l->∃k,∃hk:k<l.length,e=(.str l[k].1,.int .i64 l[k].2,i+k)
 |p::l,i,e,h=>by
  simp only [fEs,List.mem_cons] at h
  rcases h with rfl|h
  ·exact ⟨0,by simp,rfl⟩
  ·obtain ⟨k,hk,rfl⟩:=zHi h
   exact ⟨k+1,by simpa using hk,by simp only [List.getElem_cons_succ];congr 2;omega⟩
theorem zNw:∀{l:List Fld} {i k:Nat} (hk:k<l.length),(fEs i l).find? (fun e=>Nat.beq e.2.2 (i+k))=some (.str l[k].1,.int .i64 l[k].2,i+k)
 |p::l,i,0,_=>by simp [fEs,List.find?]
 |p::l,i,k+1,hk=>by
  have hne:Nat.beq i (i+(k+1))=false:=by
   cases h:Nat.beq i (i+(k+1))
   ·rfl
   ·have:=Nat.eq_of_beq_eq_true h;omega
  have ih:=zNw (l:=l) (i:=i+1) (k:=k) (by simpa using hk)
  rw [show i+1+k=i+(k+1) by omega] at ih
  simp only [fEs,List.find?,hne]
  exact ih
theorem zNx:∀{l:List Fld} {i k:Nat} (hk:k<l.length),(.str l[k].1,.int .i64 l[k].2,i+k)∈fEs i l
 |p::l,i,0,_=>by simp [fEs]
 |p::l,i,k+1,hk=>by
  have:=zNx (l:=l) (i:=i+1) (k:=k) (by simpa using hk)
  rw [show i+1+k=i+(k+1) by omega] at this
  simp only [fEs,List.getElem_cons_succ]
  exact List.mem_cons_of_mem _ this
theorem zFQ:∀{l:List Fld} {s:List Nat} {a:Int},zBv l s=some a->(s,a)∈l
 |p::l,s,a,h=>by
  rw [zBv] at h
  split at h
  ·rename_i q;cases h;subst q;exact List.mem_cons_self ..
  ·exact List.mem_cons_of_mem _ (zFQ h)
theorem zCr:∀{l:List Fld} {s:List Nat},zBv l s=none↔∀a,(s,a)∉l
 |[],s=>by simp [zBv]
 |p::l,s=>by
  rw [zBv]
  split
  ·rename_i q;subst q
   simp only [reduceCtorEq,false_iff,Classical.not_forall,Classical.not_not]
   exact ⟨p.2,List.mem_cons_self ..⟩
  ·rename_i q
   rw [zCr]
   constructor
   ·intro h a ha
    rcases List.mem_cons.1 ha with ha|ha
    ·exact q (by rw [<-ha])
    ·exact h a ha
   ·intro h a ha;exact h a (List.mem_cons_of_mem _ ha)
theorem zPb {l:List Fld} (hn:(l.map (·.1)).Nodup) {s:List Nat} {a:Int} (h:(s,a)∈l):zBv l s=some a:=by
 cases hf:zBv l s with
 |none=>exact absurd h (zCr.1 hf a)
 |some b=>
  have hb:=zFQ hf
  have h1:=zEJ hn h
  have h2:=zEJ hn hb
  rw [<-h1,h2]
theorem zIz:∀(l:List Fld) (s:List Nat),zDl l s=(zBv l s).getD 0
 |[],_=>rfl
 |(k,a)::l,s=>by
  rw [zDl,zBv]
  split
  ·rfl
  ·exact zIz l s
theorem zOA (l r:List Fld) (s:List Nat):zBv (l++r) s=(zBv l s).or (zBv r s):=by
 induction l with
 |nil=>rfl
 |cons p l ih=>
  rw [zlK,zBv,zBv]
  split
  ·rfl
  ·exact ih
def zIe (fX:List Fld) (seen:List Nat):List Fld:=seen.filterMap fun i=>fX[i]?
def zCn (fX fY:List Fld) (seen:List Nat):List Fld:=(zIe fX seen).filter fun p=>(zBv fY p.1).isNone
def newW (fX fY:List Fld) (seen:List Nat):List Pr:=(zIe fX seen).filterMap fun p=>(zBv fY p.1).map fun b=>(p.2,b)
section
variable {fX fY:List Fld} {seen:List Nat} {i:Nat}
theorem zMW (hi:i<fX.length):zIe fX (seen++[i])=zIe fX seen++[fX[i]]:=by
 simp [zIe,hi]
theorem zGT {p:Fld}:p∈zIe fX seen↔∃i∈seen,fX[i]?=some p:=by simp [zIe]
theorem zPC (hi:i<fX.length) (h:zBv fY fX[i].1=none):zCn fX fY (seen++[i])=zCn fX fY seen++[fX[i]]/\newW fX fY (seen++[i])=newW fX fY seen:=by
 simp [zCn,newW,zMW hi,h]
theorem zPD (hi:i<fX.length) {b:Int} (h:zBv fY fX[i].1=some b):zCn fX fY (seen++[i])=zCn fX fY seen/\newW fX fY (seen++[i])=newW fX fY seen++[(fX[i].2,b)]:=by
 simp [zCn,newW,zMW hi,h]
theorem zMy (hn:(fX.map (·.1)).Nodup) (hi:i<fX.length) (hs:i∉seen):zBv (fY++zCn fX fY seen) fX[i].1=zBv fY fX[i].1:=by
 rw [zOA]
 have:zBv (zCn fX fY seen) fX[i].1=none:=zCr.2 fun a ha=>by
  obtain ⟨j,hj,hp⟩:=zGT.1 (List.mem_filter.1 ha).1
  obtain ⟨hjl,hje⟩:=zgS.1 hp
  have h1:(fX.map (·.1))[j]'(by simpa using hjl)=(fX.map (·.1))[i]'(by simpa using hi):=by simp [hje]
  have h2:=(List.getElem_inj hn).1 h1
  exact hs (h2 ▸ hj)
 rw [this];cases zBv fY fX[i].1<;>rfl
theorem zOa:(newW fX fY seen).length<=seen.length:=by
 refine Nat.le_trans (List.length_filterMap_le ..) (List.length_filterMap_le ..)
theorem zLU (hX:(fX.map (·.1)).Nodup) (hY:(fY.map (·.1)).Nodup):∀(seen:List Nat),seen.Nodup->((fY++zCn fX fY seen).map (·.1)).Nodup:=by
 intro seen hs
 rw [List.map_append,List.nodup_append]
 refine ⟨hY,?_,?_⟩
 ·have hp:((zIe fX seen).map (·.1)).Nodup:=by
   induction seen with
   |nil=>exact List.nodup_nil
   |cons i r ih=>
    have hs':=List.nodup_cons.1 hs
    simp only [zIe,List.filterMap_cons]
    cases hi:fX[i]? with
    |none=>exact ih hs'.2
    |some p=>
     simp only [List.map_cons,List.nodup_cons]
     refine ⟨fun hm=>?_,ih hs'.2⟩
     obtain ⟨q,hq,he⟩:=List.mem_map.1 hm
     obtain ⟨j,hj,hjq⟩:=zGT.1 hq
     obtain ⟨hil,hie⟩:=zgS.1 hi
     obtain ⟨hjl,hje⟩:=zgS.1 hjq
     have h1:(fX.map (·.1))[j]'(by simpa using hjl)=(fX.map (·.1))[i]'(by simpa using hil):=by simp [hje,hie,he]
     have h2:=(List.getElem_inj hX).1 h1
     exact hs'.1 (h2 ▸ hj)
  exact hp.sublist (List.Sublist.map _ (List.filter_sublist ..))
 ·intro a ha b hb hab
  subst hab
  obtain ⟨p,hp,rfl⟩:=List.mem_map.1 ha
  obtain ⟨q,hq,he⟩:=List.mem_map.1 hb
  have h1:=(List.mem_filter.1 hq).2
  simp only [Option.isNone_iff_eq_none] at h1
  exact zCr.1 h1 p.2 (by rw [he];exact hp)
theorem zOZ {s:List Nat} {a:Int} (hall:∀i,i<fX.length->i∈seen):(s,a)∈fY++zCn fX fY seen↔(s,a)∈fY\/((s,a)∈fX/\∀b,(s,b)∉fY):=by
 rw [List.mem_append]
 refine or_congr_right ?_
 rw [zCn,List.mem_filter,zGT,Option.isNone_iff_eq_none,zCr]
 refine and_congr_left fun _=>⟨fun ⟨i,_,hi⟩=>List.mem_of_getElem? hi,fun h=>?_⟩
 obtain ⟨i,hi,he⟩:=List.mem_iff_getElem.1 h
 exact ⟨i,hall i hi,by rw [zgG hi,he]⟩
theorem zRa (hX:(fX.map (·.1)).Nodup) (hY:(fY.map (·.1)).Nodup) (hall:∀i,i<fX.length->i∈seen) {q:Pr}:q∈newW fX fY seen↔∃l,(l,q.1)∈fX/\(l,q.2)∈fY:=by
 rw [newW,List.mem_filterMap]
 constructor
 ·rintro ⟨p,hp,h⟩
  obtain ⟨i,_,hi⟩:=zGT.1 hp
  cases hf:zBv fY p.1 with
  |none=>rw [hf] at h;cases h
  |some b=>rw [hf] at h;cases h;exact ⟨p.1,List.mem_of_getElem? hi,zFQ hf⟩
 ·rintro ⟨l,h1,h2⟩
  obtain ⟨i,hi,he⟩:=List.mem_iff_getElem.1 h1
  refine ⟨(l,q.1),zGT.2 ⟨i,hall i hi,by rw [zgG hi,he]⟩,?_⟩
  rw [zPb hY h2];rfl
end
theorem zCs {α:Type} [BEq α] [LawfulBEq α]:∀(a b:List α),a.Nodup->(∀x∈a,x∈b)->a.length<=b.length
 |[],b,_,_=>Nat.zero_le _
 |y::a,b,hn,hs=>by
  have hn':=List.nodup_cons.1 hn
  have hy:y∈b:=hs y (by simp)
  have ih:=zCs a (b.erase y) hn'.2 fun x hx=>(List.mem_erase_of_ne (by rintro rfl;exact hn'.1 hx)).2 (hs x (by simp [hx]))
  rw [List.length_erase_of_mem hy] at ih
  have:=List.length_pos_of_mem hy
  simp only [zlC];omega
theorem zNT {α:Type} [BEq α] [LawfulBEq α] {a b:List α} (hn:a.Nodup) (hs:∀x∈a,x∈b) (hl:b.length<=a.length) (hb:b.Nodup):∀x∈b,x∈a:=by
 intro x hx
 apply Classical.byContradiction
 intro h
 have:=zCs (x::a) b (List.nodup_cons.2 ⟨h,hn⟩) fun y hy=>by
  rcases List.mem_cons.1 hy with rfl|hy
  ·exact hx
  ·exact hs y hy
 simp only [zlC] at this;omega
theorem zOc {cX cY:Clz} {seen:List Nat} (kX:cX.kind=3) (kY:cY.kind=3) (hn:cX.name=cY.name) (nX:(cX.fields.map (·.1)).Nodup) (nY:(cY.fields.map (·.1)).Nodup) (aY:cY.args=[]) (hs:seen.Nodup) (hall:∀i,i<cX.fields.length->i∈seen)
  (hopen:∀i,(hi:i<cX.fields.length)->cY.isOpen=true\/(zBv cY.fields cX.fields[i].1).isSome=true):
  (cX.isOpen=false/\cX.fields.length<(cY.fields++zCn cX.fields cY.fields seen).length->Clash cX cY)∧
  (¬(cX.isOpen=false/\cX.fields.length<(cY.fields++zCn cX.fields cY.fields seen).length)->Merge cX cY ⟨3,cY.name,[],cY.fields++zCn cX.fields cY.fields seen,cY.isOpen&&cX.isOpen⟩ (newW cX.fields cY.fields seen)):=by
 have hnd:=zLU nX nY seen hs
 have hmem:=fun s a=> @zOZ cX.fields cY.fields seen s a hall
 generalize hF:cY.fields++zCn cX.fields cY.fields seen=F at hnd hmem
 have hsub:∀s∈cX.fields.map (·.1),s∈F.map (·.1):=fun s h=>by
  obtain ⟨p,hp,rfl⟩:=List.mem_map.1 h
  by_cases hq:∃b,(p.1,b)∈cY.fields
  ·obtain ⟨b,hb⟩:=hq
   exact List.mem_map.2 ⟨(p.1,b),(hmem _ _).2 (.inl hb),rfl⟩
  ·exact List.mem_map.2 ⟨p,(hmem p.1 p.2).2 (.inr ⟨hp,fun b hb=>hq ⟨b,hb⟩⟩),rfl⟩
 constructor
 ·rintro ⟨ho,hl⟩
  have:¬∀s∈F.map (·.1),s∈cX.fields.map (·.1):=fun h=>by
   have:=zCs _ _ hnd h
   rw [List.length_map,List.length_map] at this;omega
  simp only [Classical.not_forall] at this
  obtain ⟨s,hsF,hsX⟩:=this
  obtain ⟨p,hp,rfl⟩:=List.mem_map.1 hsF
  refine ⟨by omega,by omega,.inr (.inr ⟨kX,kY,.inr ⟨ho,p.1,p.2,?_,fun b hb=>hsX (List.mem_map.2 ⟨_,hb,rfl⟩)⟩⟩)⟩
  rcases (hmem p.1 p.2).1 hp with h|⟨h,_⟩
  ·exact h
  ·exact absurd (List.mem_map.2 ⟨_,h,rfl⟩) hsX
 ·intro hno
  refine .obj kX kY hn rfl rfl rfl (fun l a=>hmem l a) hnd rfl (fun ho l a hla=>?_) (fun ho l a hla=>?_) fun q=>zRa nX nY hall
  ·obtain ⟨i,hi,he⟩:=List.mem_iff_getElem.1 hla
   rcases hopen i hi with h|h
   ·rw [ho] at h;cases h
   ·rw [he] at h
    obtain ⟨b,hb⟩:=Option.isSome_iff_exists.1 h
    exact ⟨b,zFQ hb⟩
  ·have hl:F.length<=cX.fields.length:=by
    rcases Nat.lt_or_ge cX.fields.length F.length with h|h
    ·exact absurd ⟨ho,h⟩ hno
    ·exact h
   have:=zNT nX hsub (by rw [List.length_map,List.length_map];exact hl) hnd l (List.mem_map.2 ⟨(l,a),(hmem l a).2 (.inl hla),rfl⟩)
   obtain ⟨p,hp,rfl⟩:=List.mem_map.1 this
   exact ⟨p.2,hp⟩
end Go.Ab.S
end
section
namespace Go.Ab.S
open Go.Ab
set_option maxHeartbeats 8000000
def swP (q:Pr):Pr:=(q.2,q.1)
def flM (g:Graph) (met:List Pr):List Pr:=met.filter fun q=>zEs (zAB g q.1)
structure SInv (h0:AHeap) (b2 b3 r5 r6 r7:Nat) (nv mv:AVal) (g h:Graph) (w met fl fl':List Pr) (vw:AVal) (hp:AHeap):Prop where
 grow:Grow h0 hp
 o2:∃ver,hp.objs.get b2=some (ver,.cells false 24 [nv,.int .i64 g.root])
 o3:∃ver,hp.objs.get b3=some (ver,.cells false 24 [mv,.int .i64 h.root])
 o5:∃ver es c,hp.objs.get r5=some (ver,.map es c)/\MP es met
 o6:∃ver es c,hp.objs.get r6=some (ver,.map es c)/\FA es fl
 o7:∃ver es c,hp.objs.get r7=some (ver,.map es c)/\FA es fl'
 bw:Built hp h0.next 83 2 vw w.length (rowC w)
 low:h0.next<=r5/\h0.next<=r6/\h0.next<=r7/\r5≠r6/\r5≠r7/\r6≠r7
section
variable {h0:AHeap} {b2 b3 r5 r6 r7:Nat} {nv mv:AVal} {g h:Graph} {w w' met fl fl':List Pr} {vw vw':AVal} {hp hq:AHeap} (I:SInv h0 b2 b3 r5 r6 r7 nv mv g h w met fl fl' vw hp)
include I
theorem SInv.other (gr:Grow hp hq):SInv h0 b2 b3 r5 r6 r7 nv mv g h w met fl fl' vw hq:=by
 obtain ⟨v2,k2⟩:=I.o2
 obtain ⟨v3,k3⟩:=I.o3
 obtain ⟨v5,e5,c5,k5,f5⟩:=I.o5
 obtain ⟨v6,e6,c6,k6,f6⟩:=I.o6
 obtain ⟨v7,e7,c7,k7,f7⟩:=I.o7
 exact ⟨I.grow.trans gr,⟨v2,gr.keep _ _ k2⟩,⟨v3,gr.keep _ _ k3⟩,⟨_,_,_,gr.keep _ _ k5,f5⟩,⟨_,_,_,gr.keep _ _ k6,f6⟩,⟨_,_,_,gr.keep _ _ k7,f7⟩,I.bw.grow gr,I.low⟩
theorem SInv.row (B:Built hp h0.next 83 2 vw' w'.length (rowC w')):SInv h0 b2 b3 r5 r6 r7 nv mv g h w' met fl fl' vw' hp:=
 ⟨I.grow,I.o2,I.o3,I.o5,I.o6,I.o7,B,I.low⟩
theorem SInv.push (gr:Grow h0 hq) (kp:∀c p,hp.objs.get c=some p->(∀n,vw≠.slice (some (c,0)) n)->hq.objs.get c=some p) (B:Built hq h0.next 83 2 vw' w'.length (rowC w')):SInv h0 b2 b3 r5 r6 r7 nv mv g h w' met fl fl' vw' hq:=by
 obtain ⟨v2,k2⟩:=I.o2
 obtain ⟨v3,k3⟩:=I.o3
 obtain ⟨v5,e5,c5,k5,f5⟩:=I.o5
 obtain ⟨v6,e6,c6,k6,f6⟩:=I.o6
 obtain ⟨v7,e7,c7,k7,f7⟩:=I.o7
 have kk:∀c p,hp.objs.get c=some p->(∀vs,p.2≠.cells false 83 vs)->hq.objs.get c=some p:=fun c p hc hne=>kp c p hc (zAL I.bw hc hne)
 exact ⟨gr,⟨v2,kk _ _ k2 (fun vs hh=>by cases hh)⟩,⟨v3,kk _ _ k3 (fun vs hh=>by cases hh)⟩,⟨_,_,_,kk _ _ k5 (fun vs hh=>by cases hh),f5⟩,⟨_,_,_,kk _ _ k6 (fun vs hh=>by cases hh),f6⟩,⟨_,_,_,kk _ _ k7 (fun vs hh=>by cases hh),f7⟩,B,I.low⟩
theorem SInv.put5 (w0:WF h0) {ver:Nat} {es:List (AVal×AVal×Nat)} {c:Nat} {met':List Pr} (p:But r5 hp hq) (o:hq.objs.get r5=some (ver,.map es c)) (f:MP es met'):SInv h0 b2 b3 r5 r6 r7 nv mv g h w met' fl fl' vw hq:=by
 obtain ⟨v2,k2⟩:=I.o2
 obtain ⟨v3,k3⟩:=I.o3
 obtain ⟨v5,e5,c5,k5,f5⟩:=I.o5
 obtain ⟨v6,e6,c6,k6,f6⟩:=I.o6
 obtain ⟨v7,e7,c7,k7,f7⟩:=I.o7
 obtain ⟨l5,l6,l7,n56,n57,n67⟩:=I.low
 exact ⟨p.grow h0 w0 I.grow l5,⟨_,p.kp k5 k2 rfl⟩,⟨_,p.kp k5 k3 rfl⟩,⟨_,_,_,o,f⟩,⟨_,_,_,p.keep _ (Ne.symm n56) _ k6,f6⟩,⟨_,_,_,p.keep _ (Ne.symm n57) _ k7,f7⟩,zAT I.bw p k5 (fun vs hh=>by cases hh),l5,l6,l7,n56,n57,n67⟩
theorem SInv.put6 (w0:WF h0) {ver:Nat} {es:List (AVal×AVal×Nat)} {c:Nat} {fl2:List Pr} (p:But r6 hp hq) (o:hq.objs.get r6=some (ver,.map es c)) (f:FA es fl2):SInv h0 b2 b3 r5 r6 r7 nv mv g h w met fl2 fl' vw hq:=by
 obtain ⟨v2,k2⟩:=I.o2
 obtain ⟨v3,k3⟩:=I.o3
 obtain ⟨v5,e5,c5,k5,f5⟩:=I.o5
 obtain ⟨v6,e6,c6,k6,f6⟩:=I.o6
 obtain ⟨v7,e7,c7,k7,f7⟩:=I.o7
 obtain ⟨l5,l6,l7,n56,n57,n67⟩:=I.low
 exact ⟨p.grow h0 w0 I.grow l6,⟨_,p.kp k6 k2 rfl⟩,⟨_,p.kp k6 k3 rfl⟩,⟨_,_,_,p.keep _ n56 _ k5,f5⟩,⟨_,_,_,o,f⟩,⟨_,_,_,p.keep _ (Ne.symm n67) _ k7,f7⟩,zAT I.bw p k6 (fun vs hh=>by cases hh),l5,l6,l7,n56,n57,n67⟩
theorem SInv.put7 (w0:WF h0) {ver:Nat} {es:List (AVal×AVal×Nat)} {c:Nat} {fl2:List Pr} (p:But r7 hp hq) (o:hq.objs.get r7=some (ver,.map es c)) (f:FA es fl2):SInv h0 b2 b3 r5 r6 r7 nv mv g h w met fl fl2 vw hq:=by
 obtain ⟨v2,k2⟩:=I.o2
 obtain ⟨v3,k3⟩:=I.o3
 obtain ⟨v5,e5,c5,k5,f5⟩:=I.o5
 obtain ⟨v6,e6,c6,k6,f6⟩:=I.o6
 obtain ⟨v7,e7,c7,k7,f7⟩:=I.o7
 obtain ⟨l5,l6,l7,n56,n57,n67⟩:=I.low
 exact ⟨p.grow h0 w0 I.grow l7,⟨_,p.kp k7 k2 rfl⟩,⟨_,p.kp k7 k3 rfl⟩,⟨_,_,_,p.keep _ n57 _ k5,f5⟩,⟨_,_,_,p.keep _ n67 _ k6,f6⟩,⟨_,_,_,o,f⟩,zAT I.bw p k7 (fun vs hh=>by cases hh),l5,l6,l7,n56,n57,n67⟩
end
theorem zEZ {fns:FnsT} {summ:SumT} {ro:Option Nat} {c:ACode} {a:AAct} {h:AHeap} {Q:AExit->AAct->AHeap->Prop} (I:AAct->AHeap->Prop) (k1:Cd fns summ ro c a h (nxt I Q)) (k2:∀a h,I a h->Q .normal a h):Cd fns summ ro c a h Q:=
 k1.mono fun e a1 h1 hq=>by cases e with
  |normal=>exact k2 a1 h1 hq
  |ret=>exact hq
  |exit i=>exact hq
theorem zOE (g:Graph) (met:List Pr) (p:Pr):flM g (met++[p])=flM g met++(if zEs (zAB g p.1) then [p] else []):=by
 simp only [flM,List.filter_append]
 congr 1
 cases h:zEs (zAB g p.1)<;>simp [h]
theorem zRA {g:Graph} {met:List Pr} {p:Pr} (hp:p∉met) (hf:zEs (zAB g p.1)=true):met.any (badS g p)=(((flM g met).any fun q=>q.1==p.1)||(((flM g met).map swP).any fun q=>q.1==p.2)):=by
 unfold flM
 rw [Bool.eq_iff_iff]
 simp only [List.any_eq_true,badS,hf,Bool.true_and,Bool.and_eq_true,Bool.or_eq_true,List.mem_filter,List.mem_map,beq_iff_eq,swP]
 constructor
 ·rintro ⟨q,hq,hq2,h|h⟩
  ·exact .inl ⟨q,⟨hq,hq2⟩,h.symm⟩
  ·exact .inr ⟨_,⟨q,⟨hq,hq2⟩,rfl⟩,h.symm⟩
 ·rintro (⟨q,⟨hq,hq2⟩,h⟩|⟨_,⟨q,⟨hq,hq2⟩,rfl⟩,h⟩)
  ·exact ⟨q,hq,hq2,.inl h.symm⟩
  ·exact ⟨q,hq,hq2,.inr h.symm⟩
theorem zPI {g:Graph} {met:List Pr} {p:Pr} (hf:zEs (zAB g p.1)=false):met.any (badS g p)=false:=by
 rw [List.any_eq_false];intro q _;simp [badS,hf]
def zMY:ACode:=
 .seq (
 .ops [
 ⟨(some 111),none,.q (.fieldA 2 (.tmp 10))⟩,
 ⟨(some 112),none,.q (.load none (.tmp 111))⟩,
 ⟨(some 113),none,.q (.lenV (.tmp 112))⟩,
 ⟨(some 114),none,.q (.mov (.val (.int .i64 0)))⟩]) (
 .block 2 (
 .loop (
 .seq (
 .ops [
 ⟨(some 115),none,.q (.num .lss (.tmp 114) (.tmp 113))⟩]) (
 .seq (
 .cond (.tmp 115) (
 .skip) (
 .exit 2)) (
 .seq (
 .block 3 (
 .seq (
 .ops [
 ⟨(some 116),none,.q (.mov (.tmp 114))⟩,
 ⟨(some 16),none,.q (.mov (.tmp 116))⟩]) (
 .draw [
 ⟨0,0,⟨(some 117),none,.q (.mov (.tmp 8))⟩⟩,
 ⟨1,0,⟨(some 118),none,.q (.fieldA 2 (.tmp 10))⟩⟩,
 ⟨2,2,⟨(some 119),none,.q (.load none (.tmp 118))⟩⟩,
 ⟨3,0,⟨(some 120),none,.q (.mov (.tmp 16))⟩⟩,
 ⟨4,14,⟨(some 121),none,.q (.indexA 1 (.tmp 119) (.tmp 120))⟩⟩,
 ⟨5,30,⟨(some 122),none,.q (.load none (.tmp 121))⟩⟩,
 ⟨6,0,⟨(some 123),none,.q (.fieldA 2 (.tmp 11))⟩⟩,
 ⟨7,64,⟨(some 124),none,.q (.load none (.tmp 123))⟩⟩,
 ⟨8,0,⟨(some 125),none,.q (.mov (.tmp 16))⟩⟩,
 ⟨9,448,⟨(some 126),none,.q (.indexA 1 (.tmp 124) (.tmp 125))⟩⟩,
 ⟨10,960,⟨(some 127),none,.q (.load none (.tmp 126))⟩⟩,
 ⟨11,2046,⟨(some 128),none,.q (.build [(.int .i64 0),(.int .i64 0)] [(0,1,(.tmp 122)),(1,1,(.tmp 127))])⟩⟩,
 ⟨12,4094,⟨(some 129),none,.e (.bslice 83 2 1 [(.int .i64 0),(.int .i64 0)] [(0,(.tmp 128))])⟩⟩,
 ⟨13,8191,⟨(some 130),none,.e (.append 83 2 16 (.tmp 117) (.tmp 129))⟩⟩,
 ⟨14,16383,⟨(some 8),none,.q (.mov (.tmp 130))⟩⟩]))) (
 .ops [
 ⟨(some 131),none,.q (.num .add (.tmp 114) (.val (.int .i64 1)))⟩,
 ⟨(some 114),none,.q (.mov (.tmp 131))⟩]))))))
section
variable {fns:FnsT} {summ:SumT}
theorem zRi {h0:AHeap} {b2 b3 r5 r6 r7 b10 b11:Nat} {nv mv:AVal} {g h:Graph} {w met fl fl':List Pr} {vw:AVal} {hq:AHeap} {a:AAct} {Q:AExit->AAct->AHeap->Prop} (w0:WF h0) (I:SInv h0 b2 b3 r5 r6 r7 nv mv g h w met fl fl' vw hq) {x y:Node} {av lv bv mv':AVal}
  (o10:∃ver,hq.objs.get b10=some (ver,.cells false 36 [.int .i64 x.kind,.str x.name,av,lv,.bool x.isOpen])) (o11:∃ver,hq.objs.get b11=some (ver,.cells false 36 [.int .i64 y.kind,.str y.name,bv,mv',.bool y.isOpen]))
  (ha:IntsAt h0 av x.args) (hb:IntsAt h0 bv y.args) (hxy:x.args.length=y.args.length) (hx:x.args.length<=4096) (hw:w.length<=2 ^ 36) (hd:a.defers=[])
  (h2':ev a (.tmp 2)=some (.ptr (some (b2,0)))) (h3':ev a (.tmp 3)=some (.ptr (some (b3,0)))) (h5':ev a (.tmp 5)=some (.map (some r5))) (h6':ev a (.tmp 6)=some (.map (some r6))) (h7':ev a (.tmp 7)=some (.map (some r7))) (h8':ev a (.tmp 8)=some vw) (h10':ev a (.tmp 10)=some (.ptr (some (b10,0)))) (h11':ev a (.tmp 11)=some (.ptr (some (b11,0))))
  (k:∀a hr vw',SInv h0 b2 b3 r5 r6 r7 nv mv g h ((List.zip x.args y.args).reverse++w) met fl fl' vw' hr->a.defers=[]->ev a (.tmp 2)=some (.ptr (some (b2,0)))->ev a (.tmp 3)=some (.ptr (some (b3,0)))->ev a (.tmp 5)=some (.map (some r5))->ev a (.tmp 6)=some (.map (some r6))->ev a (.tmp 7)=some (.map (some r7))->ev a (.tmp 8)=some vw'->Q .normal a hr):Cd fns summ none zMY a hq Q:=by
 have hla:=ha.len
 have hlb:=hb.len
 have e36:(2:Nat) ^ 36=68719476736:=by decide
 have e37:(2:Nat) ^ 37=137438953472:=by decide
 obtain ⟨v10,o10⟩:=o10
 obtain ⟨v11,o11⟩:=o11
 unfold zMY
 repeat with_reducible first|refine zAA ?_|refine zAC ?_|refine zAE ?_|refine zAD ?_|(apply st_q;exact q1)
 refine zAs (N:=x.args.length) (by omega) (fun j a hr=>∃vx,SInv h0 b2 b3 r5 r6 r7 nv mv g h (((List.zip x.args y.args).take j).reverse++w) met fl fl' vx hr/\(∃ver,hr.objs.get b10=some (ver,.cells false 36 [.int .i64 x.kind,.str x.name,av,lv,.bool x.isOpen]))/\(∃ver,hr.objs.get b11=some (ver,.cells false 36 [.int .i64 y.kind,.str y.name,bv,mv',.bool y.isOpen]))/\a.defers=[]∧
   ev a (.tmp 2)=some (.ptr (some (b2,0)))/\ev a (.tmp 3)=some (.ptr (some (b3,0)))/\ev a (.tmp 5)=some (.map (some r5))/\ev a (.tmp 6)=some (.map (some r6))/\ev a (.tmp 7)=some (.map (some r7))/\ev a (.tmp 8)=some vx/\ev a (.tmp 10)=some (.ptr (some (b10,0)))/\ev a (.tmp 11)=some (.ptr (some (b11,0))))
  (by rintro j a hp t w (rfl|rfl|rfl) ⟨vx,k1,k2,k3,k4,k5,k6,k7,k8,k9,k10,k11,k12⟩<;>exact ⟨vx,k1,k2,k3,by rw [zAY];exact k4,by exact e1,by exact e1,by exact e1,by exact e1,by exact e1,by exact e1,by exact e1,by exact e1⟩) (by decide) ?_ ?_ ⟨vw,by simpa using I,⟨_,o10⟩,⟨_,o11⟩,by exact n1,by exact e1,by exact e1,by exact e1,by exact e1,by exact e1,by exact e1,by exact e1,by exact e1⟩ (by exact e1) (by exact e1)
 ·clear I o10 o11 hd h2' h3' h5' h6' h7' h8' h10' h11'
  rintro j a hr hj ⟨vx,I,⟨v10,o10⟩,⟨v11,o11⟩,hd,h2',h3',h5',h6',h7',h8',h10',h11'⟩ hi hn
  have hjy:j<y.args.length:=by omega
  obtain ⟨ba,oa,vera,ra,ea,vsa,hixa,hga0,hva⟩:=ha.at (zgG hj)
  obtain ⟨bb,ob,verb,rb,eb,vsb,hixb,hgb0,hvb⟩:=hb.at (zgG hjy)
  have hga:=I.grow.keep _ _ hga0
  have hgb:=I.grow.keep _ _ hgb0
  have hzl:j<(List.zip x.args y.args).length:=by rw [List.length_zip];omega
  have hwl:(((List.zip x.args y.args).take j).reverse++w).length<=2 ^ 36+4096:=by
   rw [zgL,List.length_reverse,List.length_take];omega
  have hst:((List.zip x.args y.args).take (j+1)).reverse++w=(x.args[j],y.args[j])::(((List.zip x.args y.args).take j).reverse++w):=by
   rw [List.take_succ_eq_append_getElem hzl,List.reverse_append,List.getElem_zip];rfl
  have hroom:zCl 16 ((((List.zip x.args y.args).take j).reverse++w).length+1)=true:=zRm (by omega)
  clear hla hlb hx hw hwl hzl
  replace hxy:=Hid.mk hxy
  repeat with_reducible first|refine zAA ?_|refine zAC ?_|refine zAE ?_|refine zAD ?_|refine zAM ?_|refine zAx ?_|(apply zLO;exact e1;exact e1)|(apply dr_q;exact q1)|(apply zCK;exact q1;exact og1)|(apply st_q;exact q1)
  refine zBB (zAn (v:=.agg (zBS (x.args[j],y.args[j]))) (cs:=zBS (x.args[j],y.args[j])) (by exact e1) rfl rfl rfl I.grow.wf ?_)
  rintro bx h9 hbx g9 ox
  refine zAC ⟨by simp [zAa,Nat.testBit,g9.keep _ _ o10,g9.keep _ _ o11,g9.keep _ _ hga,g9.keep _ _ hgb],?_⟩
  have B9:=I.bw.grow g9
  have I9:=I.other g9
  refine zBB (zAv (by exact e1) (by exact e1) B9 ox rfl rfl hroom g9.wf (by have:=I9.grow.next;omega) ?_)
  rintro vx' h10 B10 f10 w10 n10 gr10 kp10
  have G10:=gr10 h0 w0 I9.grow (Nat.le_refl _)
  rw [<-zEP,<-hst] at B10
  have hll:(((List.zip x.args y.args).take (j+1)).reverse++w).length=(((List.zip x.args y.args).take j).reverse++w).length+1:=by rw [hst];rfl
  rw [<-hll] at B10
  have I10:=I9.push G10 kp10 B10
  have o10':=kp10 _ _ (g9.keep _ _ o10) (zAL B9 (g9.keep _ _ o10) fun vs hh=>by cases hh)
  have o11':=kp10 _ _ (g9.keep _ _ o11) (zAL B9 (g9.keep _ _ o11) fun vs hh=>by cases hh)
  refine zAC ⟨by simp [zAa,Nat.testBit,o10',o11',G10.keep _ _ hga0,G10.keep _ _ hgb0],?_⟩
  clear I I9 B9 B10 kp10 gr10 f10 ox o10 o11 hga hgb hga0 hgb0 hixa hixb hva hvb g9 hst hll
  repeat with_reducible first|refine zAA ?_|refine zAN ?_|refine zBU ?_|(apply dr_q;exact q1)
  exact ⟨⟨vx',I10,⟨_,o10'⟩,⟨_,o11'⟩,by exact n1,by exact e1,by exact e1,by exact e1,by exact e1,by exact e1,by exact e1,by exact e1,by exact e1⟩,by exact e1,by exact e1⟩
 ·rintro a hr ⟨vx,I,_,_,k4,k5,k6,k7,k8,k9,k10,_,_⟩
  rw [List.take_of_length_le (by rw [List.length_zip];omega)] at I
  exact k a hr vx I k4 k5 k6 k7 k8 k9 k10
end
end Go.Ab.S
end
section
namespace Go.Ab.S
open Go Go.Ab
set_option maxHeartbeats 4000000
theorem zLx (b:Nat) (h:AHeap):But b h h:=⟨Nat.le_refl _,fun _ _ _ k=>k,fun _ _ g _=>g,fun w=>w⟩
def RowI (h:AHeap) (b N:Nat) (l:List Int):Prop:=∃ver vs,h.objs.get b=some (ver,.cells false 3 vs)/\vs.take N=l.map (AVal.int .i64)/\N<=vs.length
theorem zFv {vs:List AVal} {N:Nat} {l:List Int} (h:vs.take N=l.map (AVal.int .i64)) {i:Nat} (hi:i<N) (hl:N<=vs.length):vs[i]?=some (.int .i64 (clAt l (i:Int))):=by
 have e:(vs.take N)[i]?=vs[i]?:=by rw [List.getElem?_take,if_pos hi]
 have hll:l.length=N:=by have:=congrArg List.length h;simp at this;omega
 rw [<-e,h,zgM,zCY,List.getD,zgG (by omega)];rfl
theorem zLf {vs:List AVal} {N:Nat} {l:List Int} (h:vs.take N=l.map (AVal.int .i64)) {i:Nat} (hi:i<N) (hl:N<=vs.length) (x:Int):(vs.take i++[AVal.int .i64 x]++vs.drop (i+1)).take N=(l.set i x).map (AVal.int .i64):=by
 rw [zKC hi hl,h,List.map_set]
section
variable {fns:FnsT} {summ:SumT}
variable (H:Has fns summ)
include H
theorem zGl {N K:Nat} {on rk:List Int} {rt:Int->Int} (u:UF N on rk rt K) {i:Nat} (hi:i<N) {b bo:Nat} (hne:b≠bo) {e:TypeId} {rest:List AVal} {ver:Nat} (h:AHeap) (hw:WF h) (hb:h.objs.get b=some (ver,.cells false e (.slice (some (bo,0)) N::rest))) (ho:RowI h bo N on):
  Cl fns summ 28 [.ptr (some (b,0)),.int .i64 (i:Nat)] h fun r h'=>r=.int .i64 (rt i)/\But bo h h'/\∃on',RowI h' bo N on'/\UF N on' rk rt K:=by
 obtain ⟨vo,vs,ho,hvs,hvl⟩:=ho
 refine H.go (fn:=F_sfind) rfl (by decide) rfl rfl ?_
 unfold F_sfind
 dsimp only [qQ,qE,qN,gQ,gE,vi,tm,mt,lo,fa]
 repeat with_reducible first|refine zAA ?_|refine zAC ?_|refine zAE ?_|refine zAD ?_|(apply st_q;exact q1)
 refine zCD ?_
 refine zDP (fun m a hp=>∃(j:Nat) (on:List Int) (vo:Nat) (vs:List AVal),Hid (j<N/\rt j=rt i/\((K:Int) - clAt rk j).toNat<=m)/\UF N on rk rt K/\But bo h hp/\hp.objs.get b=some (ver,.cells false e (.slice (some (bo,0)) N::rest))/\hp.objs.get bo=some (vo,.cells false 3 vs)/\vs.take N=on.map (AVal.int .i64)/\N<=vs.length/\a.defers=[]/\ev a (.tmp 0)=some (.ptr (some (b,0)))/\ev a (.tmp 1)=some (.int .i64 (j:Nat))) ?_ (n:=((K:Int) - clAt rk i).toNat)
  ⟨i,on,vo,vs,⟨hi,rfl,Nat.le_refl _⟩,u,zLx _ _,hb,ho,hvs,hvl,by exact n1,by exact e1,by exact e1⟩
 clear u hb ho hvs hvl
 rintro m a hp ⟨j,on,vo,vs,hj,u,B,hb,ho,hvs,hvl,hd,h0',h1'⟩
 obtain ⟨hjN,hjr,hjm⟩:=hj.out
 have inj:InN N (j:Int):=⟨by omega,by omega⟩
 have r1':=u.rng _ inj
 obtain ⟨k,hk⟩:∃k:Nat,clAt on (j:Int)=k:=⟨(clAt on (j:Int)).toNat,by have:=r1'.1;omega⟩
 have hvj:=zFv hvs hjN hvl
 rw [hk] at hvj r1'
 have hij:slA (.slice (some (bo,0)) N) 1 j=some (bo,j):=by simp [slA,hjN]
 by_cases hz:k=j
 ·subst hz
  have hbn:(((k:Nat):Int) != ((k:Nat):Int))=false:=by simp
  have hroot:=(u.fix _ inj).1 hk
  have hres:rt (i:Int)=(k:Int):=by rw [<-hjr,hroot]
  have hfin:But bo h hp/\∃on',RowI hp bo N on'/\UF N on' rk rt K:=⟨B,on,⟨vo,vs,ho,hvs,hvl⟩,u⟩
  replace hfin:=Hid.mk hfin
  replace hres:=Hid.mk hres
  clear hj hjr hjm inj r1' hk hroot u B hvs
  repeat' with_reducible first|refine zAA ?_|refine zBk ?_|refine zBj ?_|refine zAC ?_|refine zAE ?_|refine zAD ?_|refine zCJ ?_|refine zAQ ?_|(apply st_q;exact q1)|(apply zAJ;exact e1)|(apply zAI;exact n1;exact r1)
  exact ⟨by rw [hres.out],hfin.out⟩
 ·have hbn:(((k:Nat):Int) != ((j:Nat):Int))=true:=by simp;omega
  have hkN:k<N:=by have:=r1'.2;omega
  have ink:InN N (k:Int):=⟨by omega,by omega⟩
  have r2':=u.rng _ ink
  obtain ⟨l,hl⟩:∃l:Nat,clAt on (k:Int)=l:=⟨(clAt on (k:Int)).toNat,by have:=r2'.1;omega⟩
  have hvk:=zFv hvs hkN hvl
  rw [hl] at hvk r2'
  have hik:slA (.slice (some (bo,0)) N) 1 k=some (bo,k):=by simp [slA,hkN]
  have hlN:l<N:=by have:=r2'.2;omega
  have hne1:clAt on (j:Int)≠j:=by rw [hk];omega
  have u':=u.squash hjN hne1
  rw [hk,hl] at u'
  have hset:=zLf hvs hjN hvl (l:Int)
  have hup:(((K:Int) - clAt rk (l:Int)).toNat<=m - 1/\m - 1<m)/\rt l=rt i:=by
   have inl':InN N (l:Int):=⟨by omega,by omega⟩
   have s1':=u.up _ inj hne1
   rw [hk] at s1'
   refine ⟨?_,?_⟩
   ·have hlt:clAt rk (j:Int)<clAt rk (l:Int):=by
     by_cases hq:(l:Int)=k
     ·rw [hq];exact s1'
     ·have:=u.up _ ink (by rw [hl];exact hq)
      rw [hl] at this;omega
    have:=(u.rk _ inl').2
    omega
   ·rw [<-hl,u.same _ ink,<-hk,u.same _ inj,hjr]
  have w:=B.wf hw
  replace hup:=Hid.mk hup
  replace u':=Hid.mk u'
  replace hset:=Hid.mk hset
  have hlen:(vs.take j++[AVal.int .i64 (l:Int)]++vs.drop (j+1)).length=vs.length:=by
   simp only [zgL,List.length_take,zlC,zlN,List.length_drop];omega
  have hgl:(vs.take j++[AVal.int .i64 (l:Int)]++vs.drop (j+1))[j]?=some (.int .i64 (l:Nat)):=by
   rw [zFv hset.out hjN (by omega),zHN (by rw [u.lo];exact hjN) _ _ (by omega),if_pos rfl]
  replace hgl:=Hid.mk hgl
  replace hlen:=Hid.mk hlen
  clear hj hjr hk hl hne1 u hvs r1' r2' inj ink hz
  repeat with_reducible first|refine zAA ?_|refine zAC ?_|refine zAE ?_|refine zAD ?_|refine zAM ?_|refine zAS ?_|refine zAx ?_|(apply dr_q;exact q1)|(apply zCK;exact q1;exact og1)|(apply st_q;exact q1)|(apply zAK;exact e1)
  refine zBB (zAG (by exact e1) (by exact e1) (cs:=[.int .i64 (l:Nat)]) rfl rfl w ho (by simp only [zlC,zlN];omega) rfl ?_)
  rintro v4 h4 p4 o4
  refine zAC ⟨by simp [zAa,Nat.testBit],?_⟩
  have hb4:=p4.keep _ hne _ hb
  simp only [Nat.zero_add,Nat.mul_one,zlC,zlN] at o4
  have hgl:=hgl.out
  clear hb ho hvj hvk hik
  generalize hV:(vs.take j++[AVal.int .i64 (l:Int)]++vs.drop (j+1))=V at*
  repeat with_reducible first|refine zAA ?_|refine zAN ?_|refine zAC ?_|refine zAD ?_|refine zBU ?_|(apply st_q;exact q1)
  exact ⟨m - 1,hup.out.1.2,l,_,v4,V,⟨hlN,hup.out.2,hup.out.1.1⟩,u'.out,B.trans p4,hb4,o4,hset.out,by have:=hlen.out;omega,by exact n1,by exact e1,by exact e1⟩
end
end Go.Ab.S
end
section
namespace Go.Ab.S
open Go.Ab
set_option maxHeartbeats 4000000
section
variable {fns:FnsT} {summ:SumT} {ro:Option Nat}
theorem zMf {d:Option Tmp} {x:AOpd} {l:List Step} {a:AAct} {h:AHeap} {K:AAct->AHeap->Prop} {r ver c:Nat} {es:List (AVal×AVal×Nat)} (hx:ev a x=some (.map (some r))) (hr:h.objs.get r=some (ver,.map es c)) (w:WF h)
  (k:∀b h',h.next<=b->Grow h h'->h'.objs.get b=some (b,.iter r c [] c)->St fns summ ro l (putA a d (.ptr (some (b,0)))) h' K):St fns summ ro (⟨d,none,.e (.range x)⟩::l) a h K:=
 st_t (by intro _ _ hh;cases hh) (by intro _ _ hh;cases hh) (v:=.ptr (some (h.next,0))) (h':=newA h (.iter r c [] c)) (by simp only [zBW,hx,hr]) (k _ _ (Nat.le_refl _) ((Grow.refl w).new _) (zAX _ _))
theorem zOo {d:Option Tmp} {x:AOpd} {l:List Step} {a:AAct} {h:AHeap} {K:AAct->AHeap->Prop} {b r ver verr c:Nat} {seen:List Nat} {es:List (AVal×AVal×Nat)} (hx:ev a x=some (.ptr (some (b,0)))) (hb:h.objs.get b=some (ver,.iter r c seen c)) (hr:h.objs.get r=some (verr,.map es c)) (hes:∀e∈es,e.2.2<c) (w:WF h)
  (k0:(∀e∈es,e.2.2∈seen)->St fns summ ro l (putA a d (.tuple [.bool false])) h K)
  (k1:∀e∈es,e.2.2∉seen->∀ver' h',But b h h'->h'.objs.get b=some (ver',.iter r c (seen++[e.2.2]) c)->St fns summ ro l (putA a d (.tuple [.bool true,e.1,e.2.1])) h' K):St fns summ ro (⟨d,none,.e (.next x)⟩::l) a h K:=by
 refine st_e (zPX (by intro _ _ hh;cases hh) (by intro _ _ hh;cases hh) ?_)
 have hall:es.all (fun e=>Nat.blt e.2.2 c)=true:=List.all_eq_true.2 fun e he=>by simpa using hes e he
 simp only [zBW,hx,hb,hr,hall,and_self,if_true]
 have hmem:∀e,e∈es.filter (fun e=> !seen.contains e.2.2)↔e∈es/\e.2.2∉seen:=fun e=>by simp
 generalize es.filter (fun e=> !seen.contains e.2.2)=left at hmem
 cases left with
 |nil=>
  refine k0 fun e he=>?_
  by_cases hs:e.2.2∈seen
  ·exact hs
  ·exact absurd ((hmem e).2 ⟨he,hs⟩) (by simp)
 |cons y rest=>
  refine ⟨by simp,fun i hi=>?_⟩
  obtain ⟨k,v,born⟩:AVal×AVal×Nat:=(y::rest)[i]
  have hi':i<(y::rest).length:=hi
  obtain ⟨e,he⟩:∃e,(y::rest)[i]?=some e:=⟨_,zgG hi'⟩
  obtain ⟨m1,m2⟩:=(hmem e).1 (List.mem_of_getElem? he)
  simp only [he]
  exact k1 e m1 m2 _ _ (zEX w hb _) (zAi _ _ _)
theorem zMe {d:Option Tmp} {x:AOpd} {l:List Step} {a:AAct} {h:AHeap} {K:AAct->AHeap->Prop} {b r ver verr c s:Nat} {seen:List Nat} {es:List (AVal×AVal×Nat)} {k v:AVal} {n:Nat} (hx:ev a x=some (.ptr (some (b,0)))) (hb:h.objs.get b=some (ver,.iter r c (seen++[s]) c)) (hr:h.objs.get r=some (verr,.map es c)) (hf:es.find? (fun e=>Nat.beq e.2.2 s)=some (k,v,n))
  (kk:St fns summ ro l (putA a d (.tuple [k,v])) h K):St fns summ ro (⟨d,none,.e (.entry x)⟩::l) a h K:=
 st_t (by intro _ _ hh;cases hh) (by intro _ _ hh;cases hh) (v:=.tuple [k,v]) (h':=h) (by
  have hl:(seen++[s]).getLast?=some s:=by simp
  simp only [zBW,hx,hb,hr,hl,if_true,hf]) kk
end
end Go.Ab.S
end
