import Derived.Test.YtffgndlognihcaaGreatDoorP16
import Derived.Test.YtffgndlognihcaaGreatDoorP17
import Derived.Test.YtffgndlognihcaaGreatDoorP20
/-
  Part 21 of the proof.
-/
set_option linter.all false
section
namespace Go.Ab.S
open Go Go.Ab
set_option maxHeartbeats 1000000
section
variable{G X t:Graph}{T:Int->Int->Prop}{o a b:Int}
theorem zOj(K:InstB X t T)(hn:zAA G (a+o)=shN o (zAA X a))(t1:T a b):(zAA G (a+o)).kind=1\/((zAA G (a+o)).kind=(zAA t b).kind/\(zAA G (a+o)).name=(zAA t b).name/\((zAA G (a+o)).kind=3->∀l∈(zAA G (a+o)).labels,l∈(zAA t b).labels)/\((zAA G (a+o)).isOpen=false->(zAA G (a+o)).labels=(zAA t b).labels/\(zAA t b).isOpen=false)):=by
 rw[hn]
 rcases K.node _ _ t1 with q|⟨_,q2,q3,q4,q5,_⟩
 ·exact .inl q
 ·refine .inr ⟨q2,q3,q5,fun ho=>?_⟩
  rcases q4 with q4|⟨q4,q6⟩
  ·exact absurd q4 (by show ¬(zAA X a).isOpen=true;rw[show (zAA X a).isOpen=false from ho];decide)
  ·exact⟨q6,q4⟩
theorem sd_con(K:InstB X t T)(hn:zAA G (a+o)=shN o (zAA X a))(t1:T a b)(hk:(zAA G (a+o)).kind=2){i:Nat}(hi:i<(zAA G (a+o)).args.length):∃a',(zAA G (a+o)).args.getD i 0=a'+o/\InG X a'/\T a' ((zAA t b).args.getD i 0):=by
 rw[hn] at hk hi ⊢
 have hi':i<(zAA X a).args.length:=by simpa[shN] using hi
 have hk':(zAA X a).kind=2:=hk
 rcases K.node _ _ t1 with q|⟨_,_,_,_,_,q5⟩
 ·omega
 have:=(q5 i hi').2
 rw[idxI,if_neg (by simp;omega)] at this
 exact⟨_,zLg hi',(K.range _ _ this).1,this⟩
theorem sd_obj(cX:zAB X=0)(ct:zAB t=0)(K:InstB X t T)(hn:zAA G (a+o)=shN o (zAA X a))(t1:T a b)(hk:(zAA G (a+o)).kind=3){i:Nat}{l:List Nat}(hi:(zAA G (a+o)).labels[i]?=some l):∃i':Nat,(zAA t b).labels[i']?=some l/\∃a',(zAA G (a+o)).args.getD i 0=a'+o/\InG X a'/\T a' ((zAA t b).args.getD i' 0):=by
 rw[hn] at hk hi ⊢
 have ha:=(K.range _ _ t1).1
 have i1:=(K.range _ _ t1).2.ok ct
 have hk':(zAA X a).kind=3:=hk
 have hi':(zAA X a).labels[i]?=some l:=hi
 have hil:=(List.getElem?_eq_some_iff.1 hi').1
 have hia:i<(zAA X a).args.length:=by rw[<-(zCR cX ha hk').1];exact hil
 rcases K.node _ _ t1 with q|⟨_,q2,_,_,q4,q5⟩
 ·omega
 have hu:(zAA t b).kind=3:=by omega
 obtain⟨i',hi2,he⟩:=List.mem_iff_getElem.1 (q4 hk' l (List.mem_of_getElem? hi'))
 have hget:(zAA t b).labels[i']?=some l:=by rw[List.getElem?_eq_getElem hi2,he]
 have hidx:idxI (zAA X a) (zAA t b) i=i':=by
  rw[idxI,if_pos (by simp;omega),List.getD,hi',Option.getD_some]
  exact(zJA (zCR ct i1 hu).2.1 hget).1
 have:=(q5 i hia).2
 rw[hidx] at this
 exact⟨i',hget,_,zLg hia,(K.range _ _ this).1,this⟩
end
def Mtt(g h:Graph)(k j:Int)(T1 T2:Int->Int->Prop)(x b:Int):Prop:=(∃a,x=a+k/\InG g a/\T1 a b)\/∃a,x=a+j/\InG h a/\T2 a b
section
variable{G g h t U:Graph}{k j:Int}{T1 T2:Int->Int->Prop}{ps:List Pr}{R:List Int}
variable(cG:zAB G=0)(cg:zAB g=0)(ch:zAB h=0)(ct:zAB t=0)(e:Emb G g h k j)(K1:InstB g t T1)(K2:InstB h t T2)
include cG cg ch ct e K1 K2
theorem Mtt.inT{x b:Int}(m:Mtt g h k j T1 T2 x b):InG t b:=by
 rcases m with⟨a,_,_,t1⟩|⟨a,_,_,t1⟩
 ·exact(K1.range _ _ t1).2.ok ct
 ·exact(K2.range _ _ t1).2.ok ct
theorem Mtt.inX{x b:Int}(m:Mtt g h k j T1 T2 x b):InG G x:=by
 rcases m with⟨a,rfl,ha,_⟩|⟨a,rfl,ha,_⟩
 ·exact e.inl a ha
 ·exact e.inr a ha
theorem Mtt.uniq{x b c:Int}(m:Mtt g h k j T1 T2 x b)(n:Mtt g h k j T1 T2 x c):clAt (zAC t) b=clAt (zAC t) c:=by
 rcases m with⟨a,rfl,ha,t1⟩|⟨a,rfl,ha,t1⟩
 ·rcases n with⟨a',he,ha',t2⟩|⟨a',he,ha',t2⟩
  ·obtain rfl:a=a':=by omega
   exact zKR cg ct K1 t1 t2
  ·exact absurd he (e.dis a a' ha ha')
 ·rcases n with⟨a',he,ha',t2⟩|⟨a',he,ha',t2⟩
  ·exact absurd he.symm (e.dis a' a ha' ha)
  ·obtain rfl:a=a':=by omega
   exact zKR ch ct K2 t1 t2
theorem Mtt.node{x u:Int}(m:Mtt g h k j T1 T2 x u):(zAA G x).kind=1\/((zAA G x).kind=(zAA t u).kind/\(zAA G x).name=(zAA t u).name/\((zAA G x).kind=3->∀l∈(zAA G x).labels,l∈(zAA t u).labels)/\((zAA G x).isOpen=false->(zAA G x).labels=(zAA t u).labels/\(zAA t u).isOpen=false)):=by
 rcases m with⟨a,rfl,ha,t1⟩|⟨a,rfl,ha,t1⟩
 ·exact zOj K1 (e.nl a ha) t1
 ·exact zOj K2 (e.nr a ha) t1
theorem Mtt.con{x u:Int}(m:Mtt g h k j T1 T2 x u)(hk:(zAA G x).kind=2){i:Nat}(hi:i<(zAA G x).args.length):Mtt g h k j T1 T2 ((zAA G x).args.getD i 0) ((zAA t u).args.getD i 0):=by
 rcases m with⟨a,rfl,ha,t1⟩|⟨a,rfl,ha,t1⟩
 ·exact .inl (sd_con K1 (e.nl a ha) t1 hk hi)
 ·exact .inr (sd_con K2 (e.nr a ha) t1 hk hi)
theorem Mtt.obj{x u:Int}(m:Mtt g h k j T1 T2 x u)(hk:(zAA G x).kind=3){i:Nat}{l:List Nat}(hi:(zAA G x).labels[i]?=some l):∃i':Nat,(zAA t u).labels[i']?=some l/\Mtt g h k j T1 T2 ((zAA G x).args.getD i 0) ((zAA t u).args.getD i' 0):=by
 rcases m with⟨a,rfl,ha,t1⟩|⟨a,rfl,ha,t1⟩
 ·obtain⟨i',h1,h2⟩:=sd_obj cg ct K1 (e.nl a ha) t1 hk hi
  exact⟨i',h1,.inl h2⟩
 ·obtain⟨i',h1,h2⟩:=sd_obj ch ct K2 (e.nr a ha) t1 hk hi
  exact⟨i',h1,.inr h2⟩
theorem Mtt.conlen{x u:Int}(m:Mtt g h k j T1 T2 x u)(hk:(zAA G x).kind=2):(zAA t u).kind=2/\(zAA t u).args.length=(zAA G x).args.length/\(zAA t u).labels=[]/\(zAA t u).isOpen=false:=by
 rcases m.node cG cg ch ct e K1 K2 with q|⟨q1,q2,_⟩
 ·omega
 rcases zAI (zAd cG (m.inX cG cg ch ct e K1 K2)) with⟨z,_⟩|⟨_,_,_,_,z⟩|⟨z,_⟩
 ·omega
 ·rcases zAI (zAd ct (m.inT cG cg ch ct e K1 K2)) with⟨w,_⟩|⟨w0,w1,w2,_,w⟩|⟨w,_⟩
  ·omega
  ·exact⟨w0,by rw[w,z,q2],w1,w2⟩
  ·omega
 ·omega
theorem zMi(hps:∀p∈ps,p=(g.root+k,h.root+j)\/p=(h.root+j,g.root+k)){x y:Int}(hu:Uni G ps x y):(x=y/\InG G x)\/∃b c,Mtt g h k j T1 T2 x b/\Mtt g h k j T1 T2 y c/\clAt (zAC t) b=clAt (zAC t) c:=by
 have rg:=zAQ cg
 have rh:=zAQ ch
 have m1:Mtt g h k j T1 T2 (g.root+k) t.root:=.inl ⟨_,rfl,⟨rg.1,rg.2.1⟩,K1.root⟩
 have m2:Mtt g h k j T1 T2 (h.root+j) t.root:=.inr ⟨_,rfl,⟨rh.1,rh.2.1⟩,K2.root⟩
 induction hu with
 |refl hz=>exact .inl ⟨rfl,hz⟩
 |symm _ ih=>
  rcases ih with⟨rfl,hz⟩|⟨b,c,h1,h2,h3⟩
  ·exact .inl ⟨rfl,hz⟩
  ·exact .inr ⟨c,b,h2,h1,h3.symm⟩
 |trans _ _ ih1 ih2=>
  rcases ih1 with⟨rfl,hz⟩|⟨b,c,h1,h2,h3⟩
  ·exact ih2
  ·rcases ih2 with⟨rfl,hz⟩|⟨b',c',h1',h2',h3'⟩
   ·exact .inr ⟨b,c,h1,h2,h3⟩
   ·exact .inr ⟨b,c',h1,h2',by rw[h3,Mtt.uniq cG cg ch ct e K1 K2 h2 h1',h3']⟩
 |pair hp _ _=>
  rcases hps _ hp with h1|h1
  ·cases h1;exact .inr ⟨_,_,m1,m2,rfl⟩
  ·cases h1;exact .inr ⟨_,_,m2,m1,rfl⟩
 | @con a b i hab ka kb hn hi ih=>
  rcases ih with⟨rfl,hz⟩|⟨u,w,h1,h2,h3⟩
  ·exact .inl ⟨rfl,zAo (zAd cG hz) _ (zCD hi)⟩
  ·have hin:=hab.inG cG
   have n1:=Mtt.con cG cg ch ct e K1 K2 h1 ka hi
   have n2:=Mtt.con cG cg ch ct e K1 K2 h2 kb (i:=i) (by rw[<-zGX cG hin.1 hin.2 ka kb hn];exact hi)
   obtain⟨_,l1,_⟩:=Mtt.conlen cG cg ch ct e K1 K2 h1 ka
   exact .inr ⟨_,_,n1,n2,(zFB ct (h1.inT cG cg ch ct e K1 K2) (h2.inT cG cg ch ct e K1 K2) h3).2.2.2.2.2.1 i (by omega)⟩
 | @obj a b i i2 l hab ka kb hi hj ih=>
  rcases ih with⟨rfl,hz⟩|⟨u,w,h1,h2,h3⟩
  ·obtain⟨z1,z2,_⟩:=zCR cG hz ka
   obtain rfl:=zEX z2 hi hj
   exact .inl ⟨rfl,zAo (zAd cG hz) _ (zCD (by rw[<-z1];exact(List.getElem?_eq_some_iff.1 hi).1))⟩
  ·obtain⟨i',l1,n1⟩:=Mtt.obj cG cg ch ct e K1 K2 h1 ka hi
   obtain⟨j',l2,n2⟩:=Mtt.obj cG cg ch ct e K1 K2 h2 kb hj
   have hu1:=h1.inT cG cg ch ct e K1 K2
   obtain⟨q1,_,q3,_,_,q6,_⟩:=zFB ct hu1 (h2.inT cG cg ch ct e K1 K2) h3
   have ku:(zAA t u).kind=3:=by
    rcases Mtt.node cG cg ch ct e K1 K2 h1 with q|⟨q,_⟩<;>omega
   obtain⟨z1,z2,_⟩:=zCR ct hu1 ku
   rw[<-q3] at l2
   obtain rfl:=zEX z2 l1 l2
   exact .inr ⟨_,_,n1,n2,q6 i' (by rw[<-z1];exact(List.getElem?_eq_some_iff.1 l1).1)⟩
theorem uni_move(hps:∀p∈ps,p=(g.root+k,h.root+j)\/p=(h.root+j,g.root+k)){x y b:Int}(hu:Uni G ps x y)(m:Mtt g h k j T1 T2 x b):∃c,Mtt g h k j T1 T2 y c/\clAt (zAC t) c=clAt (zAC t) b:=by
 rcases zMi cG cg ch ct e K1 K2 hps hu with⟨rfl,_⟩|⟨b',c,h1,h2,h3⟩
 ·exact⟨b,m,rfl⟩
 ·exact⟨c,h2,by rw[<-h3];exact Mtt.uniq cG cg ch ct e K1 K2 h1 m⟩
theorem zNP(hps:∀p∈ps,p=(g.root+k,h.root+j)\/p=(h.root+j,g.root+k)):Consi G ps:=by
 intro x y hu
 rcases zMi cG cg ch ct e K1 K2 hps hu with⟨rfl,_⟩|⟨b,c,h1,h2,h3⟩
 ·exact .inr (.inr ⟨rfl,rfl,fun _=>⟨fun _ l hl=>hl,fun _ l hl=>hl⟩⟩)
 ·obtain⟨q1,q2,q3,q4,_⟩:=zFB ct (h1.inT cG cg ch ct e K1 K2) (h2.inT cG cg ch ct e K1 K2) h3
  rcases Mtt.node cG cg ch ct e K1 K2 h1 with z|⟨z1,z2,z3,z4⟩
  ·exact .inl z
  rcases Mtt.node cG cg ch ct e K1 K2 h2 with w|⟨w1,w2,w3,w4⟩
  ·exact .inr (.inl w)
  refine .inr (.inr ⟨by omega,by rw[z2,w2,q2],fun hk=>⟨fun ho l hl=>?_,fun ho l hl=>?_⟩⟩)
  ·rw[(z4 ho).1,q3];exact w3 (by omega) l hl
  ·rw[(w4 ho).1,<-q3];exact z3 hk l hl
theorem uni_most(O:UOut G ps U R)(hps:∀p∈ps,p=(g.root+k,h.root+j)\/p=(h.root+j,g.root+k))(hroot:Uni G ps (g.root+k) G.root):∃S,InstB (zBd U) t S:=by
 have cU:=O.check cG
 have Q:=zHO cU
 have rg:=zAQ cg
 have m1:Mtt g h k j T1 T2 (g.root+k) t.root:=.inl ⟨_,rfl,⟨rg.1,rg.2.1⟩,K1.root⟩
 have mv:= @uni_move G g h t k j T1 T2 ps cG cg ch ct e K1 K2 hps
 have inG:∀{x},Rch U x->InG G x:=fun hx=>by have:=hx.ok cU;rw[O.lenU] at this;exact this
 have inT:= @Mtt.inT G g h t k j T1 T2 cG cg ch ct e K1 K2
 have hin:∀{x y},Uni G ps x y->InG G y:=fun hu=>(hu.inG cG).2
 refine⟨fun z b=>Rch t b/\∃x b',Rch U x/\z=qT U x/\Mtt g h k j T1 T2 x b'/\clAt (zAC t) b'=clAt (zAC t) b,⟨.root,?_⟩,?_,?_,?_⟩
 ·obtain⟨c,mc,hc⟩:=mv (hroot.trans (O.rep _ (hin hroot)).1) m1
  exact⟨_,c,.root,Q.root,by rw[O.root];exact mc,hc⟩
 ·rintro _ b ⟨hb,x,b',hx,rfl,_⟩
  exact⟨Q.range _ hx,hb⟩
 ·rintro _ b ⟨hb,x,b',hx,rfl,mx,hbb⟩
  have hib:=hb.ok ct
  have hn:=Q.node x hx
  change zAA (zBd U) (qT U x)=_ at hn
  rw[hn]
  have harg:∀{y c d:Int},y∈(zAA U x).args->∀{z:Int},InG G z->y=clAt R z->Mtt g h k j T1 T2 z c->clAt (zAC t) c=clAt (zAC t) d->Rch t d->Rch t d/\∃x' b',Rch U x'/\qT U y=qT U x'/\Mtt g h k j T1 T2 x' b'/\clAt (zAC t) b'=clAt (zAC t) d:=by
   intro y c d hy z hz hyz mz hcd hd
   obtain⟨c',m',e'⟩:=mv (O.rep z hz).1 mz
   exact⟨hd,y,c',.step hx hy,rfl,by rw[hyz];exact m',by rw[e',hcd]⟩
  by_cases h2:∃m,Uni G ps x m/\(zAA G m).kind=2
  ·obtain⟨m,hxm,hk⟩:=h2
   obtain⟨c,mc,hcb⟩:=mv hxm mx
   rw[hbb] at hcb
   obtain⟨t1,t2,t3,t4⟩:=mc.conlen cG cg ch ct e K1 K2 hk
   obtain⟨f1,f2,f3,f4,f5,f6,_⟩:=zFB ct (inT mc) hib hcb
   have hname:(zAA G m).name=(zAA t c).name:=by
    rcases mc.node cG cg ch ct e K1 K2 with q|⟨_,q,_⟩
    ·omega
    ·exact q
   rw[O.con x m hxm hk]
   refine .inr ⟨by show (2:Int)≠1;decide,by show (2:Int)=_;rw[<-f1,t1],by show (zAA G m).name=_;rw[hname,f2],.inr ⟨by rw[<-f4,t4],by show []=_;rw[<-f3,t3]⟩,fun h3=>absurd h3 (by show ¬(2:Int)=3;decide),fun i hi=>?_⟩
   have hi':i<(zAA G m).args.length:=by simpa using hi
   rw[idxI,if_neg (by simp)]
   refine⟨by omega,?_⟩
   have hget:(((zAA G m).args.map (clAt R)).map fun a=>(zBs (zAG U) a:Int)).getD i 0=qT U (clAt R ((zAA G m).args.getD i 0)):=by
    simp only[List.getD,List.getElem?_map,List.getElem?_eq_getElem hi'];rfl
   show (fun z b=>Rch t b/\∃x b',Rch U x/\z=qT U x/\Mtt g h k j T1 T2 x b'/\clAt (zAC t) b'=clAt (zAC t) b) ((((zAA G m).args.map (clAt R)).map fun a=>(zBs (zAG U) a:Int)).getD i 0) _
   rw[hget]
   exact harg (by rw[O.con x m hxm hk];exact List.mem_map.2 ⟨_,zCD hi',rfl⟩) (zAo (zAd cG (hin hxm)) _ (zCD hi')) rfl (mc.con cG cg ch ct e K1 K2 hk hi') (f6 i (by omega)) (zCt hb (by omega))
  ·by_cases h3:∃m,Uni G ps x m/\(zAA G m).kind=3
   ·obtain⟨m,hxm,hk⟩:=h3
    have P:=O.obj x m hxm hk
    have look:∀m',Uni G ps x m'->(zAA G m').kind=3->∃c,Mtt g h k j T1 T2 m' c/\(zAA t c).kind=3/\clAt (zAC t) c=clAt (zAC t) b/\(zAA t c).labels=(zAA t b).labels/\(zAA t c).isOpen=(zAA t b).isOpen/\(zAA t b).kind=3:=fun m' hm' hk'=>by
     obtain⟨c,mc,hcb⟩:=mv hm' mx
     rw[hbb] at hcb
     obtain⟨f1,_,f3,f4,_⟩:=zFB ct (inT mc) hib hcb
     rcases mc.node cG cg ch ct e K1 K2 with q|⟨q,_⟩
     ·omega
     ·exact⟨c,mc,by omega,hcb,f3,f4,by omega⟩
    obtain⟨_,_,_,_,_,_,kb⟩:=look m hxm hk
    obtain⟨lb,rb,nb⟩:=zCR ct hib kb
    have hsub:∀l∈(zAA U x).labels,l∈(zAA t b).labels:=fun l hl=>by
     obtain⟨m',m1,m2,m3⟩:=(P.labels l).1 hl
     obtain⟨c,mc,_,_,f3,_⟩:=look m' m1 m2
     rcases mc.node cG cg ch ct e K1 K2 with q|⟨_,_,q,_⟩
     ·omega
     ·rw[<-f3];exact q m2 l m3
    refine .inr ⟨by show (zAA U x).kind≠1;rw[P.kind];decide,by show (zAA U x).kind=_;rw[P.kind,kb],by show (zAA U x).name=_;rw[P.name,nb],?_,fun _=>hsub,fun i hi=>?_⟩
    ·cases ho:(zAA U x).isOpen
     ·have:¬∀m,Uni G ps x m->(zAA G m).kind=3->(zAA G m).isOpen=true:=fun hh=>by
       have:=P.isOpen.2 hh
       rw[ho] at this;cases this
      simp only[Classical.not_forall] at this
      obtain⟨m',m1,m2,m3⟩:=this
      have m3:(zAA G m').isOpen=false:=by simpa using m3
      obtain⟨c,mc,_,_,f3,f4,_⟩:=look m' m1 m2
      rcases mc.node cG cg ch ct e K1 K2 with q|⟨_,_,_,q⟩
      ·omega
      obtain⟨q1,q2⟩:=q m3
      refine .inr ⟨by rw[<-f4,q2],zEv (zBE P.rises) rb fun l=>⟨hsub l,fun hl=>(P.labels l).2 ⟨m',m1,m2,by rw[q1,f3];exact hl⟩⟩⟩
     ·exact .inl rfl
    ·have hi':i<(zAA U x).args.length:=by simpa using hi
     have hil:i<(zAA U x).labels.length:=by rw[P.len];exact hi'
     obtain⟨m',m1,m2,m3⟩:=(P.labels _).1 (List.getElem_mem hil)
     obtain⟨p,hp,hpe⟩:=List.mem_iff_getElem.1 m3
     have hpl:(zAA G m').labels[p]?=some (zAA U x).labels[i]:=by rw[List.getElem?_eq_getElem hp,hpe]
     have hval:=P.args i _ (List.getElem?_eq_getElem hil) m' p m1 m2 hpl
     obtain⟨c,mc,kc,hcb,f3,_⟩:=look m' m1 m2
     obtain⟨i',hi1,hm⟩:=mc.obj cG cg ch ct e K1 K2 m2 hpl
     have hi1b:(zAA t b).labels[i']?=some (zAA U x).labels[i]:=by rw[<-f3];exact hi1
     have hidx:idxI {zAA U x with args:=(zAA U x).args.map fun a=>(zBs (zAG U) a:Int)} (zAA t b) i=i':=by
      rw[idxI,if_pos (by show ((zAA U x).kind==3)=true;rw[P.kind];rfl),List.getD]
      show bsAt _ (((zAA U x).labels[i]?).getD [])=i'
      rw[List.getElem?_eq_getElem hil,Option.getD_some]
      exact(zJA rb hi1b).1
     have hib':i'<(zAA t b).args.length:=by rw[<-lb];exact(List.getElem?_eq_some_iff.1 hi1b).1
     rw[hidx]
     refine⟨hib',?_⟩
     have hget:((zAA U x).args.map fun a=>(zBs (zAG U) a:Int)).getD i 0=qT U ((zAA U x).args.getD i 0):=by
      simp only[List.getD,List.getElem?_map,List.getElem?_eq_getElem hi'];rfl
     show (fun z b=>Rch t b/\∃x b',Rch U x/\z=qT U x/\Mtt g h k j T1 T2 x b'/\clAt (zAC t) b'=clAt (zAC t) b) (((zAA U x).args.map fun a=>(zBs (zAG U) a:Int)).getD i 0) _
     rw[hget]
     have hpa:p<(zAA G m').args.length:=by rw[<-(zCR cG (hin m1) m2).1];exact hp
     refine harg (zCD hi') (zAo (zAd cG (hin m1)) _ (zCD hpa)) hval hm ?_ (zCt hb hib')
     obtain⟨_,_,_,_,_,f6,_⟩:=zFB ct (inT mc) hib hcb
     exact f6 i' (by rw[<-(zCR ct (inT mc) kc).1];exact(List.getElem?_eq_some_iff.1 hi1).1)
   ·have hv:=O.var x (inG hx) fun m hm=>by
     rcases zAI (zAd cG (hin hm)) with⟨q,_⟩|⟨q,_⟩|⟨q,_⟩
     ·exact q
     ·exact absurd ⟨m,hm,q⟩ h2
     ·exact absurd ⟨m,hm,q⟩ h3
    rw[hv];exact .inl rfl
 ·rintro _ b c ⟨hb,x,b',hx,rfl,mx,hbb⟩ ⟨hc,x',c',hx',he,mx',hcc⟩ hf
  have hfU:zAL (zAA U x)=true:=by
   have hn:=Q.node x hx
   change zAA (zBd U) (qT U x)=_ at hn
   rw[hn] at hf;exact hf
  obtain rfl:=Q.inj _ _ hx hx' hfU he
  rw[<-hbb,<-hcc]
  exact Mtt.uniq cG cg ch ct e K1 K2 mx mx'
end
def Ins(g h:Graph):Prop:=∃S,InstB g h S
def zBw(g h:Graph):List Pr:=[(g.root,(g.nodes.length:Int)+h.root)]
section
variable{g h k t U:Graph}{R:List Int}
theorem Ins.refl(cg:zAB g=0):Ins g g:=by
 obtain⟨_,K⟩:=zOh g cg
 exact(zFx cg cg).1 (zEn cg cg K)
theorem Ins.trans(cg:zAB g=0)(ch:zAB h=0)(ck:zAB k=0)(h1:Ins g h)(h2:Ins h k):Ins g k:=by
 obtain⟨_,K⟩:=(zFx cg ch).2 h1
 obtain⟨_,J⟩:=(zFx ch ck).2 h2
 exact(zFx cg ck).1 (zMy cg ch ck K J)
theorem zMY(cg:zAB g=0)(ch:zAB h=0):zGO g h=true↔Ins g h/\Ins h g:=by
 rw[zOg cg ch]
 constructor
 ·rintro⟨R,K⟩;exact⟨(zFx cg ch).1 (zEn cg ch K),(zFx ch cg).1 (zEn ch cg K.flip)⟩
 ·rintro⟨h1,h2⟩
  obtain⟨S,K⟩:=(zFx cg ch).2 h1
  obtain⟨T,J⟩:=(zFx ch cg).2 h2
  exact zKl cg ch K J
variable(cg:zAB g=0)(ch:zAB h=0)(hs:g.nodes.length+h.nodes.length<=1048576)
include cg ch hs
theorem zGi:Uni (zBA g h) (zBw g h) (g.root+0) (zBA g h).root/\Uni (zBA g h) (zBw g h) (h.root+g.nodes.length) (zBA g h).root:=by
 have rg:=zAQ cg
 have rh:=zAQ ch
 have i1:InG (zBA g h) g.root:=zLi ⟨rg.1,rg.2.1⟩
 have i2:InG (zBA g h) (h.root+g.nodes.length):=zLj ⟨rh.1,rh.2.1⟩
 refine⟨by rw[Int.add_zero];exact .refl i1,.symm (.pair ?_ i1 i2)⟩
 rw[zBw,Int.add_comm];exact List.mem_singleton.2 rfl
theorem zHJ(ct:zAB t=0)(h1:Ins g t)(h2:Ins h t):Consi (zBA g h) (zBw g h):=by
 obtain⟨_,K1⟩:=h1
 obtain⟨_,K2⟩:=h2
 refine zNP (zCh cg ch hs) cg ch ct (zJI g h) K1 K2 fun p hp=>.inl ?_
 rw[List.mem_singleton.1 hp,Int.add_zero,Int.add_comm]
theorem zOU(ct:zAB t=0)(h1:Ins g t)(h2:Ins h t)(O:UOut (zBA g h) (zBw g h) U R):Ins (zBd U) t:=by
 obtain⟨_,K1⟩:=h1
 obtain⟨_,K2⟩:=h2
 refine uni_most (zCh cg ch hs) cg ch ct (zJI g h) K1 K2 O (fun p hp=>.inl ?_) (zGi cg ch hs).1
 rw[List.mem_singleton.1 hp,Int.add_zero,Int.add_comm]
theorem zOT(O:UOut (zBA g h) (zBw g h) U R):Ins g (zBd U)/\Ins h (zBd U):=by
 have E:=zJI g h
 exact⟨zKY (zCh cg ch hs) cg O E.inl E.nl (zGi cg ch hs).1,zKY (zCh cg ch hs) ch O E.inr E.nr (zGi cg ch hs).2⟩
omit hs in
theorem zOV(hs:g.nodes.length+h.nodes.length<=1048576)(O:UOut (zBA g h) (zBw g h) U R):zAB (zBd U)=0:=(zHO (O.check (zCh cg ch hs))).check
end
end Go.Ab.S
end
section
namespace Go.Ab.S
open Go Go.Ab
set_option maxHeartbeats 1000000
section
variable{g U:Graph}{ps:List Pr}{R:List Int}
theorem Uni.mono{ps':List Pr}(h:∀p∈ps,p∈ps'){a b:Int}(u:Uni g ps a b):Uni g ps' a b:=by
 induction u with
 |refl h1=>exact .refl h1
 |symm _ ih=>exact .symm ih
 |trans _ _ h1 h2=>exact .trans h1 h2
 |pair hp h1 h2=>exact .pair (h _ hp) h1 h2
 |con _ ka kb hn hi ih=>exact .con ih ka kb hn hi
 |obj _ ka kb hi hj ih=>exact .obj ih ka kb hi hj
theorem kinds(hc:zAB g=0){a:Int}(ha:InG g a):(zAA g a).kind=1\/(zAA g a).kind=2\/(zAA g a).kind=3:=by
 rcases zAI (zAd hc ha) with⟨q,_⟩|⟨q,_⟩|⟨q,_⟩
 ·exact .inl q
 ·exact .inr (.inl q)
 ·exact .inr (.inr q)
theorem UOut.cases(hc:zAB g=0)(O:UOut g ps U R){a:Int}(h:InG g a):((zAA U a).kind=1/\∀m,Uni g ps a m->(zAA g m).kind=1)\/((zAA U a).kind=2/\∃m,Uni g ps a m/\(zAA g m).kind=2)\/((zAA U a).kind=3/\∃m,Uni g ps a m/\(zAA g m).kind=3):=by
 by_cases h2:∃m,Uni g ps a m/\(zAA g m).kind=2
 ·obtain⟨m,h3,h4⟩:=h2
  exact .inr (.inl ⟨by rw[O.con a m h3 h4],m,h3,h4⟩)
 ·by_cases h3:∃m,Uni g ps a m/\(zAA g m).kind=3
  ·obtain⟨m,h3,h4⟩:=h3
   exact .inr (.inr ⟨(O.obj a m h3 h4).kind,m,h3,h4⟩)
  ·have hv:∀m,Uni g ps a m->(zAA g m).kind=1:=fun m hm=>by
    rcases kinds hc (hm.inG hc).2 with q|q|q
    ·exact q
    ·exact absurd ⟨m,hm,q⟩ h2
    ·exact absurd ⟨m,hm,q⟩ h3
   exact .inl ⟨by rw[O.var a h hv],hv⟩
end
structure Stage(g:Graph)(ps1 ps:List Pr)(D:Graph)(R1:List Int)(rest:List Pr):Prop where
 sub:∀p∈ps1,p∈ps
 sound:∀p∈rest,Uni g ps p.1 p.2
 full:∀p∈ps,InG g p.1->InG g p.2->Uni D rest (clAt R1 p.1) (clAt R1 p.2)
section
variable{g D U X:Graph}{ps1 ps rest:List Pr}{R1 R RX:List Int}(hc:zAB g=0)(O1:UOut g ps1 D R1)(S:Stage g ps1 ps D R1 rest)
include hc O1 S
end
end Go.Ab.S
end
section
namespace Go.Ab.S
open Go Go.Ab
set_option maxHeartbeats 1000000
section
variable{g U:Graph}{R:List Int}{x y:Int}(hc:zAB g=0)(hx:InG g x)(hy:InG g y)(hv:(zAA g x).kind=1)
include hc hx hy hv
end
end Go.Ab.S
end
section
namespace Go.Ab.S
open Go Go.Ab
set_option maxHeartbeats 1000000
def Bd(A:Nat)(S:List (List Nat))(g:Graph):Prop:=∀n∈g.nodes,(n.kind=2->n.args.length<=A)/\∀l∈n.labels,l∈S
section
variable{A:Nat}{S:List (List Nat)}{g h U:Graph}{ps:List Pr}{R:List Int}
theorem Bd.row(hc:zAB g=0)(B:Bd A S g){n:Node}(hn:n∈g.nodes):n.args.length<=max A S.length/\n.labels.length<=S.length:=by
 obtain⟨b1,b2⟩:=B n hn
 rcases zAI ((zAu hc).2 n hn) with⟨_,q2,_,_,q5⟩|⟨q1,q2,_⟩|⟨_,_,q3,q4⟩
 ·rw[q2,q5];simp
 ·rw[q2];have:=b1 q1;simp;omega
 ·have h1:=zCm n.labels S (zGg (zBE q4)) b2
  omega
theorem Bd.node(B:Bd A S g){a:Int}(ha:InG g a):((zAA g a).kind=2->(zAA g a).args.length<=A)/\∀l∈(zAA g a).labels,l∈S:=B _ (zEr ha)
theorem Bd.left(hc:zAB g=0)(B:Bd A S g):zAY [] g.nodes 0<=g.nodes.length*max A S.length:=by
 rw[zCa]
 have:∀ns:List Node,(∀n∈ns,n.args.length<=max A S.length)->(ns.map fun n=>n.args.length).sum<=ns.length*max A S.length:=by
  intro ns
  induction ns with
  |nil=>intro _;simp
  |cons n r ih=>
   intro h
   have h1:=ih fun m hm=>h m (by simp[hm])
   have h2:=h n (by simp)
   simp only[List.map_cons,List.sum_cons,zlC,Nat.succ_mul];omega
 exact this g.nodes fun n hn=>(B.row hc hn).1
theorem Bd.gsm(hc:zAB g=0)(B:Bd A S g)(hS:S.length<=2 ^ 30)(hT:∀s∈S,s.length<2 ^ 60)(hz:g.nodes.length+g.nodes.length*max A S.length<=2 ^ 30):GSm g:=by
 have e30:(2:Nat) ^ 30=1073741824:=by decide
 have e60:(2:Nat) ^ 60=1152921504606846976:=by decide
 have hL:=B.left hc
 refine⟨⟨by omega,fun n hn=>?_⟩,by omega,fun n hn=>?_⟩
 ·obtain⟨h1,h2⟩:=B.row hc hn
  have h3:=zCZ g.nodes 0 n hn
  exact⟨by omega,by omega,fun s hs=>hT s ((B n hn).2 s hs)⟩
 ·have:=(B.row hc hn).2;omega
theorem Bd.gti(hc:zAB g=0)(B:Bd A S g)(hN:g.nodes.length<=4096)(hA:A<=4096)(hS:S.length<=4096)(hT:∀s∈S,s.length<2 ^ 60):GTi g:=by
 have e30:(2:Nat) ^ 30=1073741824:=by decide
 have h1:g.nodes.length*max A S.length<=4096*4096:=Nat.mul_le_mul hN (by omega)
 exact⟨B.gsm hc (by omega) hT (by omega),hN,fun n hn=>by have:=(B.row hc hn).1;omega⟩
theorem Bd.mono{A':Nat}{S':List (List Nat)}(B:Bd A S g)(hA:A<=A')(hS:∀s∈S,s∈S'):Bd A' S' g:=fun n hn=>⟨fun k=>Nat.le_trans ((B n hn).1 k) hA,fun l hl=>hS l ((B n hn).2 l hl)⟩
theorem Bd.uni(hc:zAB g=0)(B:Bd A S g)(O:UOut g ps U R):Bd A S U:=by
 intro n hn
 obtain⟨k,hk,rfl⟩:=List.mem_iff_getElem.1 hn
 have ha:InG g (k:Int):=⟨by omega,by rw[O.lenU] at hk;omega⟩
 have hnd:zAA U (k:Int)=U.nodes[k]:=by simp[zAA,hk]
 rw[<-hnd]
 rcases O.cases hc ha with⟨q,hv⟩|⟨q,m,h1,h2⟩|⟨q,m,h1,h2⟩
 ·rw[O.var _ ha hv]
  exact⟨fun h=>by simp at h,fun l hl=>by simp at hl⟩
 ·rw[O.con _ m h1 h2]
  exact⟨fun _=>by rw[List.length_map];exact(B.node (h1.inG hc).2).1 h2,fun l hl=>by simp at hl⟩
 ·refine⟨fun h=>by omega,fun l hl=>?_⟩
  obtain⟨m',k1,k2,k3⟩:=((O.obj _ m h1 h2).labels l).1 hl
  exact(B.node (k1.inG hc).2).2 l k3
theorem Bd.both(B:Bd A S g)(B':Bd A S h):Bd A S (zBA g h):=by
 intro n hn
 rcases List.mem_append.1 hn with hn|hn
 ·exact B n hn
 ·obtain⟨m,hm,rfl⟩:=List.mem_map.1 hn
  exact⟨fun k=>by have:=(B' m hm).1 k;simpa[shN] using this,fun l hl=>(B' m hm).2 l hl⟩
theorem Bd.trim(hc:zAB g=0)(B:Bd A S g):Bd A S (zBd g):=by
 intro n hn
 obtain⟨i,hi,rfl⟩:=List.mem_map.1 hn
 obtain⟨k1,k2⟩:=(zCN g).1 i hi
 have hb:=B.node (a:=i) ⟨k1,k2⟩
 exact⟨fun k=>by have:=hb.1 k;simpa[zEf] using this,fun l hl=>hb.2 l hl⟩
def zJT(g:Graph):List (List Nat):=g.nodes.flatMap (·.labels)
theorem Bd.self(g:Graph):Bd (zAY [] g.nodes 0) (zJT g) g:=fun n hn=>⟨fun _=>zCZ _ _ n hn,fun l hl=>List.mem_flatMap.2 ⟨n,hn,hl⟩⟩
theorem zHh(hc:zAB g=0):(zJT g).length<=zAY [] g.nodes 0:=by
 rw[zCa,zJT,List.length_flatMap]
 have:∀ns:List Node,(∀n∈ns,mayF n g.nodes.length=true)->(ns.map fun n=>n.labels.length).sum<=(ns.map fun n=>n.args.length).sum:=by
  intro ns
  induction ns with
  |nil=>intro _;exact Nat.le_refl _
  |cons n r ih=>
   intro h
   have h2:=ih fun n hn=>h n (by simp[hn])
   have h3:n.labels.length<=n.args.length:=by
    rcases zAI (h n (by simp)) with⟨_,q,_⟩|⟨_,q,_⟩|⟨_,_,q,_⟩
    ·rw[q];simp
    ·rw[q];simp
    ·omega
   simp only[List.map_cons,List.sum_cons];omega
 exact this g.nodes (zAu hc).2
theorem zJU(hg:GraphSm g):∀s∈zJT g,s.length<2 ^ 60:=fun s hs=>by
 obtain⟨n,hn,hl⟩:=List.mem_flatMap.1 hs
 exact(hg.all n hn).texts s hl
theorem UOut.gsm(hc:zAB g=0)(hg:GTi g)(hz:(g.nodes.length+1)*(zAY [] g.nodes 0+1)<=2 ^ 30)(O:UOut g ps U R):GSm U:=by
 have h1:=zHh hc
 have h2:=(Bd.self g).uni hc O
 have hm:max (zAY [] g.nodes 0) (zJT g).length=zAY [] g.nodes 0:=by omega
 have e30:(2:Nat) ^ 30=1073741824:=by decide
 have ht:=hg.total
 refine h2.gsm (O.check hc) (by omega) (zJU hg.toGraphSm) ?_
 rw[hm,O.lenU]
 rw[Nat.succ_mul,Nat.mul_succ] at hz
 omega
end
theorem reach_le(g:Graph):(zAG g).length<=g.nodes.length:=by
 have h:=zCm (zAG g) (zFy g.nodes.length) (zCN g).2 fun a ha=>by
  obtain⟨h1,h2⟩:=(zCN g).1 a ha
  exact List.mem_map.2 ⟨a.toNat,List.mem_range.2 (by omega),by omega⟩
 simpa[zFy] using h
theorem trim_le(g:Graph):(zBd g).nodes.length<=g.nodes.length:=by
 have:=reach_le g
 simpa[zBd] using this
end Go.Ab.S
end
section
namespace Go.Ab.S
open Go Go.Ab
set_option maxHeartbeats 8000000
def LstF(f:Int->Int)(args:List Int)(i:Nat):List Int:=(args.take i).map f++args.drop i
theorem LstF_get{f:Int->Int}{args:List Int}{i:Nat}(h:i<args.length):(LstF f args i)[i]?=some args[i]:=by
 rw[LstF,List.getElem?_append_right (by simp;omega)]
 simp[Nat.min_eq_left (Nat.le_of_lt h),h]
theorem LstF_set{f:Int->Int}{args:List Int}{i:Nat}(h:i<args.length):(LstF f args i).set i (f args[i])=LstF f args (i+1):=by
 have hl:((args.take i).map f).length=i:=by simp;omega
 rw[LstF,List.set_append_right _ _ (by omega),hl,Nat.sub_self,List.drop_eq_getElem_cons h,List.set_cons_zero,LstF,List.take_succ_eq_append_getElem h,List.map_append,List.append_assoc]
 rfl
def NodeM(hA hp:AHeap)(c:List AVal)(n:Node):Prop:=∃av lv,c=[.int .i64 n.kind,.str n.name,av,lv,.bool n.isOpen]/\(IntsAt hA av n.args\/Built hp hA.next 3 1 av n.args.length (n.args.map (AVal.int .i64)))/\StrsAt hA lv n.labels
section
variable{hA hp hq:AHeap}{c:List AVal}{n:Node}
theorem NodeM.at(g:Grow hA hp)(k:NodeM hA hp c n):NodeAt hp c n:=by
 obtain⟨av,lv,h1,h2,h3⟩:=k
 refine⟨av,lv,h1,?_,h3.mono g⟩
 rcases h2 with h2|h2
 ·exact h2.mono g
 ·exact zBm h2
theorem NodeM.stay(k:NodeM hA hp c n)(hk:∀b p,hA.next<=b->hp.objs.get b=some p->(∃vs,p.2=.cells false 3 vs)->hq.objs.get b=some p):NodeM hA hq c n:=by
 obtain⟨av,lv,h1,h2,h3⟩:=k
 refine⟨av,lv,h1,?_,h3⟩
 rcases h2 with h2|h2
 ·exact .inl h2
 ·exact .inr (zAR h2 hk)
end
structure MtInv(hA:AHeap)(b10:Nat)(root:Int)(ns:List Node)(hp:AHeap):Prop where
 grow:Grow hA hp
 low:hA.next<=b10
 o:∃(ver:Nat) (vo:AVal) (cs:List (List AVal)),hp.objs.get b10=some (ver,.cells false 24 [vo,.int .i64 root])/\Built hp hA.next 34 5 vo ns.length cs.flatten/\cs.length=ns.length/\∀(i:Nat) c n,cs[i]?=some c->ns[i]?=some n->NodeM hA hp c n
theorem MtInv.other{hA:AHeap}{b10:Nat}{root:Int}{ns:List Node}{hp hq:AHeap}(I:MtInv hA b10 root ns hp)(g:Grow hp hq):MtInv hA b10 root ns hq:=by
 obtain⟨ver,vo,cs,h1,h2,h3,h4⟩:=I.o
 exact⟨I.grow.trans g,I.low,ver,vo,cs,g.keep _ _ h1,h2.grow g,h3,fun i c n hc hn=>(h4 i c n hc hn).stay fun b p _ hb _=>g.keep _ _ hb⟩
theorem MtInv.nodes{hA:AHeap}{b10:Nat}{root:Int}{ns:List Node}{hp:AHeap}(I:MtInv hA b10 root ns hp):∃ver vo,hp.objs.get b10=some (ver,.cells false 24 [vo,.int .i64 root])/\NodesAt hp vo ns:=by
 obtain⟨ver,vo,cs,h1,kB,kl,kn⟩:=I.o
 refine⟨ver,vo,h1,cs,kB.sl (by decide) rfl (fun c hc=>?_) kl,kl,fun i n c hn hc=>(kn i c n hc hn).at I.grow⟩
 obtain⟨i,hi,rfl⟩:=List.mem_iff_getElem.1 hc
 obtain⟨_,_,hcs,_⟩:=kn i _ _ (List.getElem?_eq_getElem hi) (List.getElem?_eq_getElem (by omega))
 rw[hcs];rfl
def nsTo(g h:Graph)(j:Nat):List Node:=g.nodes++(h.nodes.take j).map (shN g.nodes.length)
theorem zFJ(g h:Graph){j:Nat}(hj:j<=h.nodes.length):(nsTo g h j).length=g.nodes.length+j:=by simp[nsTo];omega
theorem nsTo_put(g h:Graph){j:Nat}(hj:j<h.nodes.length):nsTo g h (j+1)=nsTo g h j++[shN g.nodes.length h.nodes[j]]:=by
 rw[nsTo,nsTo,List.take_succ_eq_append_getElem hj,List.map_append,List.append_assoc];rfl
theorem nsTo_all(g h:Graph):nsTo g h h.nodes.length=(zBA g h).nodes:=by rw[nsTo,List.take_length];rfl
section
variable{fns:FnsT}{summ:SumT}
variable(H:Has fns summ)(HS:HasSort summ)(HA:HasAs summ)
include H HS HA
theorem Meet_ok(g h:Graph)(hg:GTi g)(hh:GTi h)(hb:GTi (zBA g h))(hL:zAY [] (zBA g h).nodes 0<=2 ^ 20)(hsm:((zBA g h).nodes.length+1)*(zAY [] (zBA g h).nodes 0+1)+1<=2 ^ 30){gv hv':AVal}{h0:AHeap}(w0:WF h0)(hv:GraphAt h0 gv g)(hu:GraphAt h0 hv' h):
  Cl fns summ 17 [gv,hv'] h0 fun r h'=>Grow h0 h'/\∃uv code,r=.tuple [uv,.int .i64 code]/\(code≠0->uv=.agg [.slice none 0,.int .i64 0])/\((zAB g≠0/\code=zAB g)\/(zAB g=0/\zAB h≠0/\code=zAB h)\/(zAB g=0/\zAB h=0/\code=8/\¬Consi (zBA g h) (zBw g h))\/(zAB g=0/\zAB h=0/\code=0/\∃U R,UOut (zBA g h) (zBw g h) U R/\OwnG h' h0.next uv (zBd U))):=by
 obtain⟨gn,rfl,hN⟩:=hv
 obtain⟨hn,rfl,hM⟩:=hu
 have hlen:=hN.len
 have hlenh:=hM.len
 have hpart:zAl (some 2) [gn,.int .i64 g.root] 0=some (.agg [gn,.int .i64 g.root]):=rfl
 have hpart':zAl (some 2) [hn,.int .i64 h.root] 0=some (.agg [hn,.int .i64 h.root]):=rfl
 refine H.go (fn:=F_SMeet) rfl (by decide) rfl rfl ?_
 unfold F_SMeet
 dsimp only[qQ,qE,tm,mt,lo,fa,jn,jk,jv,jl,js,ji,je,jc,jd,jx,jo,jG,jN,jR,jS,jC,jL]
 refine zAv (zBC ?_)
 refine zAm e1 cc w0 ?_
 rintro b2 h2 hb2 g2 o2
 refine zAm e1 cc g2.wf ?_
 rintro b3 h3 hb3 g3 o3
 refine zAS g3.wf ?_
 rintro b4 h4 hb4 g4 o4
 replace o2:=g4.keep _ _ (g3.keep _ _ o2)
 replace o3:=g4.keep _ _ o3
 have g04:=(g2.trans g3).trans g4
 have n2:=g2.next
 have n3:=g3.next
 have ht2:∀x y:AVal,List.take 2 [x,y]=[x,y]:=fun _ _=>rfl
 repeat refine zR ?_
 refine st_q (v:=.agg [gn,.int .i64 g.root,hn,.int .i64 h.root]) (b:=none) (by rw[zBU];simp only[zCX,zAz,zBG,zBM,if_true,if_false,Nat.reduceEqDiff,zAX];rfl) ?_
 repeat refine zR ?_
 have o2h:=Hid.mk o2
 have o3h:=Hid.mk o3
 have o4h:=Hid.mk o4
 have lb2:=g04.wf.lt o2
 have lb3:=g04.wf.lt o3
 have lb4:=g04.wf.lt o4
 refine zEP (fun a hp=>Hid (Grow h4 hp)/\Hid (zAB g=0/\zAB h=0)/\a.defers=[]/\ev a (.tmp 2)=some (.ptr (some (b2,0)))/\ev a (.tmp 3)=some (.ptr (some (b3,0)))/\ev a (.tmp 4)=some (.ptr (some (b4,0)))) ?_ ?_
 ·refine zBS ?_
  refine zCV (fun m a hp=>∃j:Nat,Hid (m+j=2)/\Hid (Grow h4 hp)/\Hid ((1<=j->zAB g=0)/\(2<=j->zAB h=0))/\a.defers=[]/\ev a (.tmp 2)=some (.ptr (some (b2,0)))/\ev a (.tmp 3)=some (.ptr (some (b3,0)))/\ev a (.tmp 4)=some (.ptr (some (b4,0)))/\ev a (.tmp 19)=some (.agg [gn,.int .i64 g.root,hn,.int .i64 h.root])/\ev a (.tmp 20)=some (.int .i64 (j:Nat))) ?_ (n:=2) ⟨0,⟨rfl⟩,⟨Grow.refl g04.wf⟩,⟨fun h=>by omega,fun h=>by omega⟩,n1,e1,e1,e1,e1,e1⟩
  clear o2 o3 o4
  rintro m a hp ⟨j,hm,Gp,hck,hd,t2',t3',t4',t19',t20'⟩
  have wp:=Gp.out.wf
  have o4:=Gp.out.keep _ _ o4h.out
  rcases Nat.lt_or_ge j 2 with hj|hj
  ·have z0:decide (((j:Nat):Int)<2)=true:=by simp;omega
   obtain⟨x,xn,hGx,hxN,hpx,hcx⟩:∃x xn,GTi x/\NodesAt h0 xn x.nodes/\zAl (some 2) [gn,.int .i64 g.root,hn,.int .i64 h.root] (j*2)=some (.agg [xn,.int .i64 x.root])/\((j=0/\x=g)\/(j=1/\x=h)):=by
    rcases (show j=0\/j=1 by omega) with rfl|rfl
    ·exact⟨g,gn,hg,hN,rfl,.inl ⟨rfl,rfl⟩⟩
    ·exact⟨h,hn,hh,hM,rfl,.inr ⟨rfl,rfl⟩⟩
   replace hcx:=Hid.mk hcx
   have lx:=hxN.len
   have hxN':=Hid.mk hxN
   have hGx':=Hid.mk hGx
   clear hxN hGx
   repeat refine zR ?_
   refine st_q (v:=.agg [xn,.int .i64 x.root]) (b:=none) (by simp[zBz,zAz,t19',t20',zCA,hj,hpx]) ?_
   refine zAS wp ?_
   rintro b7 h6 hb7 g6 o7
   refine zAE e1 e1 cc rfl g6.wf o7 (by simp) (by simp only[List.all_cons,List.all_nil,zAH lx,Bool.true_and,Bool.and_true];rfl) ?_
   rintro v7 h7 p7 o7'
   simp only[lL,Nat.reduceAdd] at o7'
   have g7:Grow hp h7:=p7.grow hp wp g6 hb7
   have G7:=Hid.mk (Gp.out.trans g7)
   have w7:=g7.wf
   have o47:=g7.keep _ _ o4
   clear g6 o7 p7 g7 o4
   repeat refine zR ?_
   refine zAJ s1 ((Check_ok H x hGx'.out.toGraphSm _ h7 w7 ⟨xn,rfl,hxN'.out.mono (g04.trans G7.out)⟩).mono ?_)
   rintro _ h8 ⟨rfl,g8⟩
   have G8:=Hid.mk (G7.out.trans g8)
   have o48:=g8.keep _ _ o47
   have w8:=g8.wf
   clear o47 g8 o7'
   cases hz:(zAB x != 0)
   ·have hz0:Hid (zAB x=0):=⟨by simpa using hz⟩
    have hck':Hid ((1<=j+1->zAB g=0)/\(2<=j+1->zAB h=0)):=⟨by
     rcases hcx.out with⟨rfl,rfl⟩|⟨rfl,rfl⟩
     ·exact⟨fun _=>hz0.out,fun h=>by omega⟩
     ·exact⟨fun _=>hck.out.1 (by omega),fun _=>hz0.out⟩⟩
    have hm':Hid (m - 1<m/\m - 1+(j+1)=2):=⟨by have:=hm.out;omega,by have:=hm.out;omega⟩
    have hwj:IntKind.i64.wrap (((j:Nat):Int)+1)=((j+1:Nat):Int):=by rw[zAc (by omega) (by omega)];rfl
    repeat refine zR ?_
    exact⟨m - 1,hm'.out.1,j+1,⟨hm'.out.2⟩,G8,hck',n1,e1,e1,e1,e1,e1⟩
   ·have hz0:Hid (zAB x≠0):=⟨by simpa using hz⟩
    have hor:Hid ((zAB g≠0/\zAB x=zAB g)\/(zAB g=0/\zAB h≠0/\zAB x=zAB h)):=⟨by
     rcases hcx.out with⟨rfl,rfl⟩|⟨rfl,rfl⟩
     ·exact .inl ⟨hz0.out,rfl⟩
     ·exact .inr ⟨hck.out.1 (by omega),hz0.out,rfl⟩⟩
    have hG8:=g04.trans G8.out
    repeat refine zR ?_
    refine zAE e1 e1 cc rfl w8 o48 (by simp) rfl ?_
    rintro v9 h9 p9 o9
    simp only[lL,Nat.reduceAdd] at o9
    have g9:=p9.grow h0 w0 hG8 (by omega)
    clear o48 p9
    repeat' first|refine zG ?_|(with_reducible apply zAD;exact e1;all_goals intro _)
    exact⟨g9,_,_,rfl,fun _=>rfl,hor.out.elim .inl fun k=>.inr (.inl k)⟩
  ·obtain rfl:j=2:=by have:=hm.out;omega
   have z0:decide (((2:Nat):Int)<2)=false:=by decide
   have hck':Hid (zAB g=0/\zAB h=0):=⟨hck.out.1 (by omega),hck.out.2 (by omega)⟩
   repeat refine zR ?_
   exact⟨Gp,hck',n1,e1,e1,e1⟩
 ·clear o2 o3 o4
  rintro a hp ⟨Gp,hck,hd,t2',t3',t4'⟩
  have o2:=Gp.out.keep _ _ o2h.out
  have o3:=Gp.out.keep _ _ o3h.out
  have o4:=Gp.out.keep _ _ o4h.out
  have hNM:g.nodes.length+h.nodes.length<=4096:=by have:=hb.tinyN;rw[zCB] at this;exact this
  have hw1:IntKind.i64.wrap (Int.ofNat g.nodes.length+Int.ofNat h.nodes.length)=((g.nodes.length+h.nodes.length:Nat):Int):=by
   rw[zAc (by simp only[Int.ofNat_eq_natCast];omega) (by simp only[Int.ofNat_eq_natCast];omega)];simp
  have z1:decide (((g.nodes.length+h.nodes.length:Nat):Int)>1048576)=false:=by simp;omega
  refine zAf ?_
  repeat refine zR ?_
  have wp:=Gp.out.wf
  have n4p:=Gp.out.next
  have Gh:=Hid.mk (g04.trans Gp.out)
  refine zAk (zAJ s1 ((CloneNode_ok H g.nodes (le31 (by omega)) gn hp wp (hN.mono Gh.out)).mono ?_))
  rintro bv hA ⟨cs0,Bg,lcs0,hcs0,gA⟩
  have o2A:=gA.keep _ _ o2
  refine zAN ⟨by simp[zAM,Nat.testBit,o2A],?_⟩
  have lbv:=Bg.len
  have wA:=gA.wf
  refine dr_q (v:=.agg [bv,.int .i64 g.root]) (by rw[zBU];simp only[zCX,zAz,zBG,zBM,if_true,if_false,Nat.reduceEqDiff,zAP lbv];rfl) ?_
  refine zAk (zAS wA ?_)
  rintro b10 hB hb10 gB o10
  have o2B:=gB.keep _ _ o2A
  refine zAN ⟨by simp[zAM,Nat.testBit,o2B],?_⟩
  refine zAk (zAE e1 e1 cc rfl gB.wf o10 (by simp) (by simp only[List.all_cons,List.all_nil,zAH lbv,Bool.true_and,Bool.and_true];rfl) ?_)
  rintro vC hC pC oC
  have gC:Grow hA hC:=pC.grow hA wA gB hb10
  have o2C:=gC.keep _ _ o2A
  refine zAN ⟨by simp[zAM,Nat.testBit,o2C],?_⟩
  simp only[lL,Nat.reduceAdd] at oC
  have nA:=gA.next
  have I0:Hid (MtInv hp b10 g.root (nsTo g h 0) hC):=⟨⟨gA.trans gC,by omega,_,bv,cs0,oC,by rw[zFJ g h (Nat.zero_le _)];exact Bg.grow gC,by rw[zFJ g h (Nat.zero_le _)];exact lcs0,fun i c n hc hn=>by
   have hn':g.nodes[i]?=some n:=by simpa[nsTo] using hn
   obtain⟨av,lv,h1,h2,h3⟩:=hcs0 i n c hn' hc
   exact⟨av,lv,h1,.inl h2,h3⟩⟩⟩
  have o2p:=Hid.mk o2
  have o3p:=Hid.mk o3
  have o4p:=Hid.mk o4
  have o3C:=gC.keep _ _ (gA.keep _ _ o3)
  have lt2:=wp.lt o2
  have lt3:=wp.lt o3
  have lt4:=wp.lt o4
  have lb10:hp.next<=b10:=by omega
  clear o10 gB pC gC gA o2A o2B o2C Bg hcs0 oC o2 o3 o4
  repeat refine zR ?_
  refine zBR (N:=h.nodes.length) (fun j a hq=>Hid (MtInv hp b10 g.root (nsTo g h j) hq)/\a.defers=[]/\ev a (.tmp 2)=some (.ptr (some (b2,0)))/\ev a (.tmp 3)=some (.ptr (some (b3,0)))/\ev a (.tmp 4)=some (.ptr (some (b4,0)))/\ev a (.tmp 9)=some (.int .i64 (g.nodes.length:Nat))/\ev a (.tmp 10)=some (.ptr (some (b10,0)))/\ev a (.tmp 47)=some hn) ?_ ?_ ⟨I0,n1,e1,e1,e1,e1,e1,e1⟩
  ·clear I0 o3C
   rintro j a hq hj ⟨I,hd,t2',t3',t4',t9',t10',t47'⟩ hi hn'
   have hmem:h.nodes[j]∈h.nodes:=List.getElem_mem hj
   have hA4:=hh.tinyA _ hmem
   obtain⟨bn,on,vern,ron,en,vsn,av,lv,hixn,hgn0,hvl,hv5,_,_,_,_,_,ha,hl⟩:=(hM.mono Gh.out).at (List.getElem?_eq_getElem hj)
   have hgn:=I.out.grow.keep _ _ hgn0
   have hpart5:zAl (some 5) vsn on=some (zCF h.nodes[j] av lv):=by rw[zAl,if_pos hvl,hv5];rfl
   have hla:=ha.len
   have hll:=hl.len
   have hmay:=Hid.mk (zAo ((zAu hck.out.2).2 _ hmem))
   have ha':=Hid.mk ha
   have hl':=Hid.mk hl
   clear hgn0 ha hl
   repeat refine zR ?_
   have wq:=I.out.grow.wf
   refine zAS wq ?_
   rintro b12 h6 hb12 g6 o12
   refine zAE e1 e1 (cs:=[.int .i64 h.nodes[j].kind,.str h.nodes[j].name,av,lv,.bool h.nodes[j].isOpen]) rfl rfl g6.wf o12 (by simp) (zBN hla hll) ?_
   rintro v7 h7 p7 o7
   simp only[lL,Nat.reduceAdd] at o7
   have g7:Grow hq h7:=p7.grow hq wq g6 hb12
   have G7:=Hid.mk (Gh.out.trans (I.out.grow.trans g7))
   have w7:=g7.wf
   have n7:=g7.next
   have ng7:=Hid.mk g7
   have l12:=w7.lt o7
   clear o12 p7 g6 hixn hgn hpart5 hv5 hvl g7
   repeat refine zR ?_
   refine zAJ s1 ((CloneInt_ok H h.nodes[j].args (le31 (by omega)) av h7 w7 (ha'.out.mono (I.out.grow.trans ng7.out))).mono ?_)
   rintro ci h8 ⟨B8,g8⟩
   have o8:=g8.keep _ _ o7
   have gg8:=Hid.mk (ng7.out.trans g8)
   have hci8:=B8.len
   repeat refine zR ?_
   refine zAE e1 e1 (zAP hci8) rfl g8.wf o8 (by simp) (by simp only[List.all_cons,List.all_nil,zAH hci8,Bool.and_true]) ?_
   rintro v9 h9 p9 o9
   simp only[lL,Nat.reduceAdd] at o9
   have g9:=Hid.mk (p9.grow hq wq gg8.out (by omega))
   have C9:Built h9 hq.next 3 1 ci h.nodes[j].args.length (h.nodes[j].args.map (AVal.int .i64)):=zAn (zAK B8 p9 o8 (fun vs hh=>by cases hh)) (by omega)
   have hci:=C9.len
   have w9:=g9.out.wf
   have C9':=Hid.mk C9
   clear B8 p9 o7 o8 gg8 g8 hci8 C9
   repeat refine zR ?_
   have hlo:LstF (· +(g.nodes.length:Int)) h.nodes[j].args 0=h.nodes[j].args:=by simp[LstF]
   have hle:Hid (LstF (· +(g.nodes.length:Int)) h.nodes[j].args h.nodes[j].args.length=(shN g.nodes.length h.nodes[j]).args):=⟨by simp[LstF,shN]⟩
   refine zEP (fun a' hr=>Hid (∀c p,h9.objs.get c=some p->(∀n,ci≠.slice (some (c,0)) n)->hr.objs.get c=some p)/\Hid (Grow hq hr/\h9.next<=hr.next)/\Hid (Built hr hq.next 3 1 ci h.nodes[j].args.length ((LstF (· +(g.nodes.length:Int)) h.nodes[j].args h.nodes[j].args.length).map (AVal.int .i64)))∧
    a'.defers=[]/\ev a' (.tmp 2)=some (.ptr (some (b2,0)))/\ev a' (.tmp 3)=some (.ptr (some (b3,0)))/\ev a' (.tmp 4)=some (.ptr (some (b4,0)))/\ev a' (.tmp 9)=some (.int .i64 (g.nodes.length:Nat))/\ev a' (.tmp 10)=some (.ptr (some (b10,0)))/\ev a' (.tmp 47)=some hn/\ev a' (.tmp 12)=some (.ptr (some (b12,0)))/\ev a' (.tmp 49)=some (.int .i64 (j:Nat))/\ev a' (.tmp 48)=some (.int .i64 (h.nodes.length:Nat))) ?_ ?_
   ·refine zBR (N:=h.nodes[j].args.length) (fun i a' hr=>Hid (∀c p,h9.objs.get c=some p->(∀n,ci≠.slice (some (c,0)) n)->hr.objs.get c=some p)/\Hid (Grow hq hr/\h9.next<=hr.next)/\Hid (Built hr hq.next 3 1 ci h.nodes[j].args.length ((LstF (· +(g.nodes.length:Int)) h.nodes[j].args i).map (AVal.int .i64)))/\a'.defers=[]/\ev a' (.tmp 2)=some (.ptr (some (b2,0)))/\ev a' (.tmp 3)=some (.ptr (some (b3,0)))/\ev a' (.tmp 4)=some (.ptr (some (b4,0)))/\ev a' (.tmp 9)=some (.int .i64 (g.nodes.length:Nat))/\ev a' (.tmp 10)=some (.ptr (some (b10,0)))/\ev a' (.tmp 47)=some hn/\ev a' (.tmp 12)=some (.ptr (some (b12,0)))/\ev a' (.tmp 49)=some (.int .i64 (j:Nat))/\ev a' (.tmp 48)=some (.int .i64 (h.nodes.length:Nat))) ?_ ?_ ⟨⟨fun c p hc _=>hc⟩,⟨g9.out,Nat.le_refl _⟩,⟨by rw[hlo];exact C9'.out⟩,n1,e1,e1,e1,e1,e1,e1,e1,e1,e1⟩
    ·clear hd t2' t3' t4' t9' t10' t47' hi hn' hlo
     rintro i a' hr hil ⟨hkp,gr,hBB,hd,t2',t3',t4',t9',t10',t47',t12',t49',t48'⟩ hi hn'
     have hB:=hBB.out
     rcases hB with⟨_,hh,_⟩|⟨_,hh,_⟩|⟨ba,vsa,vera,hba,hcq,hga,hla',hta⟩
     ·omega
     ·omega
     rw[Nat.mul_one] at hla' hta
     have hixa:slA ci 1 i=some (ba,i):=by rw[hcq];simp[slA,hil]
     have hva:vsa[i]?=some (.int .i64 h.nodes[j].args[i]):=by
      have:=congrArg (fun l=>l[i]?) hta
      simp only[List.getElem?_take,if_pos hil,List.getElem?_map,LstF_get hil,Option.map_some] at this
      exact this
     have o9r:=hkp.out _ _ o9 (zAF C9'.out o9 fun vs hh=>by cases hh)
     obtain⟨a0,a1⟩:=hmay.out _ (List.getElem_mem hil)
     have hwa:IntKind.i64.wrap (h.nodes[j].args[i]+((g.nodes.length:Nat):Int))=h.nodes[j].args[i]+((g.nodes.length:Nat):Int):=zAc (by omega) (by omega)
     have hcq':=Hid.mk hcq
     have hta':=Hid.mk hta
     have wr:=gr.out.1.wf
     clear hcq hta hBB a0 a1
     repeat refine zR ?_
     refine zAE e1 e1 cc rfl wr hga (by simp;omega) rfl ?_
     rintro vz hz pz oz
     simp only[zlC,zlN,Nat.zero_add] at oz
     have K1:Hid (∀c p,h9.objs.get c=some p->(∀n,ci≠.slice (some (c,0)) n)->hz.objs.get c=some p):=⟨fun c p hc hne=>pz.keep c (by rintro rfl;exact hne _ hcq'.out) _ (hkp.out c p hc hne)⟩
     have K2:Hid (Grow hq hz/\h9.next<=hz.next):=⟨pz.grow hq wq gr.out.1 hba,Nat.le_trans gr.out.2 pz.next⟩
     have K3:Hid (Built hz hq.next 3 1 ci h.nodes[j].args.length ((LstF (· +(g.nodes.length:Int)) h.nodes[j].args (i+1)).map (AVal.int .i64))):=⟨.inr (.inr ⟨ba,_,_,hba,hcq'.out,oz,by simp;omega,by rw[Nat.mul_one,zJo hil hla',hta'.out,<-LstF_set hil,List.map_set]⟩)⟩
     clear oz pz hga hixa hva hkp o9r
     repeat refine zR ?_
     exact⟨⟨K1,K2,K3,n1,e1,e1,e1,e1,e1,e1,e1,e1,e1⟩,e1,e1⟩
    ·rintro a' hr ⟨m1,m2,m3,m4,m5,m6,m7,m8,m9,m10,m11,m12,m13⟩
     exact⟨m1,m2,m3,m4,m5,m6,m7,m8,m9,m10,m11,m12,m13⟩
   ·clear hd t2' t3' t4' t9' t10' t47' hi hn' hlo
    rintro a' hr ⟨hkp,gr,hBB,hd,t2',t3',t4',t9',t10',t47',t12',hi,hn'⟩
    rw[hle.out] at hBB
    have o9r:=hkp.out _ _ o9 (zAF C9'.out o9 fun vs hh=>by cases hh)
    have wr:=gr.out.1.wf
    have Ir:=Hid.mk (I.out.other gr.out.1)
    obtain⟨ver10,vo,cs,o10,kB,kl,kn⟩:=Ir.out.o
    rw[zFJ g h (by omega)] at kB kl
    have lvo:=kB.len
    have kB':=Hid.mk kB
    have kn':=Hid.mk kn
    have nr:=gr.out.2
    have nr':=gr.out.1.next
    have nq:=I.out.grow.next
    have n9:=g9.out.next
    clear kB kn
    refine zAf ?_
    repeat refine zR ?_
    refine zAW e1 (cs:=[.int .i64 h.nodes[j].kind,.str h.nodes[j].name,ci,lv,.bool h.nodes[j].isOpen]) rfl rfl rfl wr ?_
    rintro bx h12 hbx g12 ox
    have kB12:=kB'.out.grow g12
    have n12:=g12.next
    refine zAi e1 e1 kB12 ox rfl (zBN hci hll) (zCO H (by decide) (le31 (by omega))) g12.wf (by omega) ?_
    rintro vo' h13 B13 f13 w13 n13 gr13 kp13
    have o10':=kp13 _ _ (g12.keep _ _ o10) (zAF kB12 (g12.keep _ _ o10) fun vs hh=>by cases hh)
    have lvo':=B13.len
    have g13:=Hid.mk (gr13 hp wp (Ir.out.grow.trans g12) (Nat.le_refl _))
    have B13':=Hid.mk B13
    have kpx:=Hid.mk (fun c p (hc:hr.objs.get c=some p) hn=>kp13 c p (g12.keep _ _ hc) hn)
    clear ox kB12 g12 f13 gr13 kp13 B13
    repeat refine zR ?_
    refine zAE e1 e1 (zAP lvo') rfl w13 o10' (by simp) (by simp only[List.all_cons,List.all_nil,zAH lvo',Bool.and_true]) ?_
    rintro v14 h14 p14 o14
    simp only[lL,Nat.reduceAdd] at o14
    have I14:Hid (MtInv hp b10 g.root (nsTo g h (j+1)) h14):=⟨by
     have hstay:∀c p,hr.objs.get c=some p->(∀vs,p.2≠.cells false 34 vs)->c≠b10->h14.objs.get c=some p:=fun c p hc hp hne=>p14.keep c hne _ (kpx.out c p hc (zAF kB'.out hc hp))
     have h3:∀b p,hp.next<=b->hr.objs.get b=some p->(∃vs,p.2=.cells false 3 vs)->h14.objs.get b=some p:=fun b p _ hb ⟨vs,hp⟩=>hstay b p hb (fun vs' hh=>by rw[hp] at hh;cases hh) (by
      rintro rfl
      rw[o10] at hb
      simp only[oI] at hb
      rw[<-hb] at hp;cases hp)
     refine⟨p14.grow hp wp g13.out lb10,lb10,_,vo',cs++[[.int .i64 h.nodes[j].kind,.str h.nodes[j].name,ci,lv,.bool h.nodes[j].isOpen]],o14,?_,?_,fun i c n hcc hnn=>?_⟩
     ·rw[zFJ g h (by omega),List.flatten_append]
      have:=zAK B13'.out p14 o10' (fun vs hh=>by cases hh)
      simpa[Nat.add_assoc] using this
     ·rw[zFJ g h (by omega),List.length_append,kl];simp;omega
     ·rw[nsTo_put g h hj] at hnn
      have hnl:=zFJ g h (show j<=h.nodes.length by omega)
      rcases Nat.lt_or_ge i (g.nodes.length+j) with hij|hij
      ·rw[List.getElem?_append_left (by omega)] at hcc
       rw[List.getElem?_append_left (by omega)] at hnn
       exact(kn'.out i c n hcc hnn).stay h3
      ·rw[List.getElem?_append_right (by omega),kl] at hcc
       rw[List.getElem?_append_right (by omega),hnl] at hnn
       obtain rfl:i=g.nodes.length+j:=by
        have:=(List.getElem?_eq_some_iff.1 hcc).1
        simp only[zlC,zlN] at this
        omega
       rw[Nat.sub_self,List.getElem?_cons_zero,oI] at hcc hnn
       subst hcc;subst hnn
       refine⟨ci,lv,rfl,.inr ?_,hl'.out⟩
       have hl2:(shN g.nodes.length h.nodes[j]).args.length=h.nodes[j].args.length:=by simp[shN]
       rw[hl2]
       exact zAn (zAR hBB.out fun c p hc hp' ht=>h3 c p (by omega) hp' ht) (by omega)⟩
    clear o14 p14 o10' o10 g13 kpx o9r
    repeat refine zR ?_
    exact⟨⟨I14,n1,e1,e1,e1,e1,e1,e1⟩,e1,e1⟩
  ·clear I0 o3C
   rintro a hq ⟨I0,hd,t2',t3',t4',t9',t10',t47'⟩
   have I:Hid (MtInv hp b10 g.root (zBA g h).nodes hq):=⟨by rw[<-nsTo_all];exact I0.out⟩
   obtain⟨ver10,vo,o10,hNo⟩:=I.out.nodes
   have o2:=I.out.grow.keep _ _ o2p.out
   have o3:=I.out.grow.keep _ _ o3p.out
   have o4:=I.out.grow.keep _ _ o4p.out
   have lno:=hNo.len
   have cb:Hid (zAB (zBA g h)=0):=⟨zCh hck.out.1 hck.out.2 (by omega)⟩
   have hrg:=zAQ hck.out.1
   have hrh:=zAQ hck.out.2
   have hw2:IntKind.i64.wrap (((g.nodes.length:Nat):Int)+h.root)=((g.nodes.length:Nat):Int)+h.root:=zAc (by omega) (by omega)
   have hin:Hid (∀p∈zBw g h,zEm (zBA g h) p=true):=⟨fun p hp=>by
    simp only[zBw,List.mem_singleton] at hp
    subst hp
    simp only[zEm,decide_eq_true_eq,zCB]
    omega⟩
   have Gq:=Hid.mk (Gh.out.trans I.out.grow)
   have wq:=Gq.out.wf
   have hNo':=Hid.mk hNo
   clear I0 hNo hrg hrh
   refine zAf ?_
   repeat refine zR ?_
   refine zAW e1 (cs:=[.int .i64 g.root,.int .i64 (((g.nodes.length:Nat):Int)+h.root)]) rfl rfl rfl wq ?_
   rintro bx hX hbx gX ox
   have hpr:PrsAt hX (.slice (some (bx,0)) 1) (zBw g h):=by
    have B:Built hX hq.next 74 2 (.slice (some (bx,0)) 1) 1 [.int .i64 g.root,.int .i64 (((g.nodes.length:Nat):Int)+h.root)]:=.inr (.inr ⟨bx,_,_,hbx,rfl,ox,by simp,rfl⟩)
    exact B.sl (by decide) (xs:=[zBQ (g.root,(g.nodes.length:Int)+h.root)]) (by simp[zBQ]) (by intro c hc;rw[List.mem_singleton.1 hc];rfl) (by simp)
   have o2X:=gX.keep _ _ o2
   have o4X:=gX.keep _ _ o4
   have wX:=gX.wf
   have GX:=Hid.mk (Gq.out.trans gX)
   have huni:=Hid.mk (Unify_ok H HS HA (zBA g h) hb (zBw g h) (by simp[zBw]) hL (by simpa[zBw] using hsm) wX (gv:=.agg [vo,.int .i64 g.root]) ⟨vo,rfl,hNo'.out.mono gX⟩ hpr)
   clear ox hpr gX o2 o3 o4 o10
   refine zAJ s1 (huni.out.mono ?_)
   rintro _ hU ⟨gU,uv,rv,code,rfl,hz,hcases⟩
   have o4U:=gU.keep _ _ o4X
   have wU:=gU.wf
   have GU:=Hid.mk (GX.out.trans gU)
   have hu2:∃un ur,uv=.agg [un,.int .i64 ur]/\one un=true:=by
    by_cases hc0:code=0
    ·rcases hcases with⟨_,k⟩|⟨_,k,_⟩|⟨_,k,_⟩|⟨_,_,_,U,R,O,own,_⟩
     ·omega
     ·omega
     ·omega
     ·obtain⟨un,cs,rfl,kB,_⟩:=own
      exact⟨un,U.root,rfl,zAH kB.len⟩
    ·exact⟨_,_,(hz hc0).1,rfl⟩
   obtain⟨un,ur,rfl,hone⟩:=hu2
   replace hcases:=Hid.mk hcases
   clear hz huni o2X o4X gU
   repeat refine zR ?_
   refine zAS wU ?_
   rintro b14 hV hb14 gV o14
   refine zAE e1 e1 cc rfl gV.wf o14 (by simp) (by simp only[List.all_cons,List.all_nil,hone,Bool.true_and,Bool.and_true];rfl) ?_
   rintro vW hW pW oW
   simp only[lL,Nat.reduceAdd] at oW
   have gW:Grow hU hW:=pW.grow hU wU gV hb14
   have o4W:=gW.keep _ _ o4U
   have GW:=Hid.mk (GU.out.trans gW)
   have wW:=gW.wf
   have gW':=Hid.mk gW
   have lW:=Hid.mk (wU.lt o4U)
   clear o14 pW gV o4U gW
   cases hzc:(code != 0)
   ·obtain rfl:code=0:=by simpa using hzc
    have hO:Hid (∃U R,UOut (zBA g h) (zBw g h) U R/\OwnG hU hX.next (.agg [un,.int .i64 ur]) U):=⟨by
     rcases hcases.out with⟨_,k⟩|⟨_,k,_⟩|⟨_,k,_⟩|⟨_,_,_,U,R,O,own,_⟩
     ·omega
     ·omega
     ·omega
     ·exact⟨U,R,O,own⟩⟩
    obtain⟨U,R,O,own⟩:=hO.out
    have hOO:=Hid.mk O
    have hsU:=Hid.mk (O.gsm cb.out hb (by omega))
    have htrim:=Hid.mk (Trim_ok H U hsU.out (.agg [un,.int .i64 ur]) hW wW (own.grow gW'.out).graph)
    clear own O
    repeat refine zR ?_
    refine zAJ s1 (htrim.out.mono ?_)
    rintro tv hT ⟨hTo,gT⟩
    have o4T:=gT.keep _ _ o4W
    have ownT:=Hid.mk hTo
    obtain⟨tn,cs,rfl,kB,_⟩:=hTo
    have lt1:=zAH kB.len
    have wT:=gT.wf
    have GT:=GW.out.trans gT
    have nUW:=gW'.out.next
    have nGW:=GW.out.next
    have lb4U:=lW.out
    clear htrim kB o4W gT
    refine zAE e1 e1 cc rfl wT o4T (by simp) (by simp only[List.all_cons,List.all_nil,lt1,Bool.true_and,Bool.and_true];rfl) ?_
    rintro vY hY pY oY
    simp only[lL,Nat.reduceAdd] at oY
    have gY:=pY.grow h0 w0 GT (by omega)
    have hfin:Hid (∃U R,UOut (zBA g h) (zBw g h) U R/\OwnG hY h0.next (.agg [tn,.int .i64 (zBd U).root]) (zBd U)):=⟨U,R,hOO.out,(ownT.out.stay fun c p hc hp _=>pY.keep c (by omega) _ hp).base (by omega)⟩
    clear pY o4T GT
    repeat' first|refine zG ?_|(with_reducible apply zAD;exact e1;all_goals intro _)
    exact⟨gY,_,0,rfl,fun k=>absurd rfl k,.inr (.inr (.inr ⟨hck.out.1,hck.out.2,rfl,hfin.out⟩))⟩
   ·have hbad:Hid (code=8/\¬Consi (zBA g h) (zBw g h)):=⟨by
     have hc0:code≠0:=by simpa using hzc
     rcases hcases.out with⟨k1,k2⟩|⟨_,_,p,hp1,hp2⟩|⟨_,k,_,k2⟩|⟨_,k,_⟩
     ·rw[cb.out] at k1;omega
     ·rw[hin.out p hp1] at hp2;cases hp2
     ·exact⟨k,k2⟩
     ·omega⟩
    have z2:=Hid.mk hzc
    repeat refine zR ?_
    refine zAE e1 e1 cc rfl wW o4W (by simp) rfl ?_
    rintro vY hY pY oY
    simp only[lL,Nat.reduceAdd] at oY
    have gY:=pY.grow h0 w0 GW.out (by omega)
    clear pY o4W
    repeat' first|refine zG ?_|(with_reducible apply zAD;exact e1;all_goals intro _)
    exact⟨gY,_,code,rfl,fun _=>rfl,.inr (.inr (.inl ⟨hck.out.1,hck.out.2,hbad.out.1,hbad.out.2⟩))⟩
end
end Go.Ab.S
end
section
namespace Go.Ab.S
open Go Go.Ab
set_option maxHeartbeats 1000000
def nI:Node:=⟨2,[105,110,116],[],[],false⟩
def gI:Graph:=⟨[⟨2,[45,62],[1,2],[],false⟩,nI,nI],0⟩
def MR(g h x:Graph):Prop:=∃U R,UOut (zBA g h) (zBw g h) U R/\x=zBd U
section
variable{g h k t x:Graph}(cg:zAB g=0)(ch:zAB h=0)(hs:g.nodes.length+h.nodes.length<=1048576)
include cg ch hs
theorem MR.check(m:MR g h x):zAB x=0:=by
 obtain⟨U,R,O,rfl⟩:=m
 exact zOV cg ch hs O
theorem MR.both(m:MR g h x):Ins g x/\Ins h x:=by
 obtain⟨U,R,O,rfl⟩:=m
 exact zOT cg ch hs O
theorem MR.most(m:MR g h x)(ct:zAB t=0)(h1:Ins g t)(h2:Ins h t):Ins x t:=by
 obtain⟨U,R,O,rfl⟩:=m
 exact zOU cg ch hs ct h1 h2 O
end
theorem MR.bd{A:Nat}{S:List (List Nat)}{g h x:Graph}(cg:zAB g=0)(ch:zAB h=0)(hs:g.nodes.length+h.nodes.length<=1048576)(B:Bd A S g)(B':Bd A S h)(m:MR g h x):Bd A S x/\x.nodes.length<=g.nodes.length+h.nodes.length:=by
 obtain⟨U,R,O,rfl⟩:=m
 have cb:=zCh cg ch hs
 refine⟨((B.both B').uni cb O).trim (O.check cb),?_⟩
 have h1:=trim_le U
 rw[O.lenU,zCB] at h1
 exact h1
structure MeetSm(g h:Graph):Prop where
 g1:GTi g
 h1:GTi h
 b:GTi (zBA g h)
 l:zAY [] (zBA g h).nodes 0<=2 ^ 20
 s:((zBA g h).nodes.length+1)*(zAY [] (zBA g h).nodes 0+1)+1<=2 ^ 30
theorem both_gti{g h:Graph}(hg:GTi g)(hh:GTi h)(hN:g.nodes.length+h.nodes.length<=4096)(hL:zAY [] (zBA g h).nodes 0<=2 ^ 20):GTi (zBA g h):=by
 have e30:(2:Nat) ^ 30=1073741824:=by decide
 have e20:(2:Nat) ^ 20=1048576:=by decide
 have hn:∀n∈(zBA g h).nodes,∃m,(m∈g.nodes\/m∈h.nodes)/\n.args.length=m.args.length/\n.labels=m.labels:=fun n hn=>by
  rcases List.mem_append.1 hn with hn|hn
  ·exact⟨n,.inl hn,rfl,rfl⟩
  ·obtain⟨m,hm,rfl⟩:=List.mem_map.1 hn
   exact⟨m,.inr hm,by simp[shN],rfl⟩
 refine⟨⟨⟨by rw[zCB];exact Nat.lt_of_le_of_lt hN (by decide),fun n h1=>?_⟩,by rw[zCB];omega,fun n h1=>?_⟩,by rw[zCB];exact hN,fun n h1=>?_⟩
 ·obtain⟨m,hm,h2,h3⟩:=hn n h1
  have:NodeSm m:=hm.elim (hg.all m) (hh.all m)
  exact⟨by rw[h2];exact this.args,by rw[h3];exact this.labels,by rw[h3];exact this.texts⟩
 ·obtain⟨m,hm,h2,h3⟩:=hn n h1
  rw[h3]
  exact hm.elim (hg.labs m) (hh.labs m)
 ·obtain⟨m,hm,h2,h3⟩:=hn n h1
  rw[h2]
  exact hm.elim (hg.tinyA m) (hh.tinyA m)
theorem zNX(g h:Graph):zAY [] (zBA g h).nodes 0=zAY [] g.nodes 0+zAY [] h.nodes 0:=by
 rw[zCa,zCa,zCa,zBA]
 simp only[List.map_append,List.sum_append,List.map_map]
 congr 2
 apply List.map_congr_left
 intro n _
 simp[shN]
theorem MeetSm.of{g h:Graph}(hg:GTi g)(hh:GTi h){N L:Nat}(hN:g.nodes.length+h.nodes.length<=N)(hL:zAY [] g.nodes 0+zAY [] h.nodes 0<=L)(hN':N<=4096)(hL':L<=2 ^ 20)(hz:(N+1)*(L+1)+1<=2 ^ 30):MeetSm g h:=by
 have hl:zAY [] (zBA g h).nodes 0<=L:=by rw[zNX];exact hL
 refine⟨hg,hh,both_gti hg hh (by omega) (by omega),by omega,?_⟩
 have:((zBA g h).nodes.length+1)*(zAY [] (zBA g h).nodes 0+1)<=(N+1)*(L+1):=Nat.mul_le_mul (by rw[zCB];omega) (by omega)
 omega
def All3(g h k:Graph)(p:Bool)(a:Graph):Prop:=(p=true/\∃x,MR g h x/\MR x k a)\/(p=false/\(¬Consi (zBA g h) (zBw g h)\/∃x,MR g h x/\¬Consi (zBA x k) (zBw x k)))
section
variable{g h k a b:Graph}{p q:Bool}(cg:zAB g=0)(ch:zAB h=0)(ck:zAB k=0)(gh:g.nodes.length+h.nodes.length<=1048576)(hk:h.nodes.length+k.nodes.length<=1048576)
include cg ch ck gh
theorem All3.no(xk:∀x,MR g h x->x.nodes.length+k.nodes.length<=1048576)(A:All3 g h k false a){t:Graph}(ct:zAB t=0)(h1:Ins g t)(h2:Ins h t)(h3:Ins k t):False:=by
 rcases A with⟨h,_⟩|⟨_,A|⟨x,m,A⟩⟩
 ·cases h
 ·exact A (zHJ cg ch gh ct h1 h2)
 ·exact A (zHJ (m.check cg ch gh) ck (xk x m) ct (m.most cg ch gh ct h1 h2) h3)
include hk
end
theorem MR.gti{g h x:Graph}(cg:zAB g=0)(ch:zAB h=0)(hg:GTi g)(hh:GTi h){N L:Nat}(hN:g.nodes.length+h.nodes.length<=N)(hL:zAY [] g.nodes 0+zAY [] h.nodes 0<=L)(hN':N<=4096)(hL':L<=4096)(m:MR g h x):GTi x:=by
 have hs:∀s,s∈zJT g++zJT h->s.length<2 ^ 60:=fun s hs=>(List.mem_append.1 hs).elim (zJU hg.toGraphSm s) (zJU hh.toGraphSm s)
 have l1:=zHh cg
 have l2:=zHh ch
 obtain⟨B,hx⟩:=m.bd (A:=L) (S:=zJT g++zJT h) cg ch (by omega) ((Bd.self g).mono (by omega) fun s h=>List.mem_append.2 (.inl h)) ((Bd.self h).mono (by omega) fun s h=>List.mem_append.2 (.inr h))
 exact B.gti (m.check cg ch (by omega)) (by omega) hL' (by rw[List.length_append];omega) hs
end Go.Ab.S
end
section
namespace Go.Ab.S
open Go Go.Ab
set_option maxHeartbeats 1000000
structure Few(n:Nat)(g:Graph):Prop where
 t:GTi g
 c:zAB g=0
 s:g.nodes.length+zAY [] g.nodes 0<=n
end Go.Ab.S
end
section
namespace Go.Ab.S
open Go Go.Ab
set_option maxHeartbeats 1000000
section
variable{g h x:Graph}(cg:zAB g=0)(ch:zAB h=0)(hs:g.nodes.length+h.nodes.length<=1048576)
include cg ch hs
theorem zOJ(m:MR g h x):Ins g x/\Ins h x/\(Ins g h↔zGO x h=true):=by
 have cx:=m.check cg ch hs
 obtain⟨i1,i2⟩:=m.both cg ch hs
 refine⟨i1,i2,fun k=>(zMY cx ch).2 ⟨m.most cg ch hs ch k (Ins.refl ch),i2⟩,fun k=>?_⟩
 exact Ins.trans cg cx ch i1 ((zMY cx ch).1 k).1
theorem zOK(n:¬Consi (zBA g h) (zBw g h)):¬Ins g h/\¬Ins h g:=
 ⟨fun k=>n (zHJ cg ch hs ch k (Ins.refl ch)),fun k=>n (zHJ cg ch hs cg (Ins.refl cg) k)⟩
end
end Go.Ab.S
end
