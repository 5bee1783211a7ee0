import Derived.Test.YtpmndmiohaaokaaGreatDoorP14
import Derived.Test.YtpmndmiohaaokaaGreatDoorP16
import Derived.Test.YtpmndmiohaaokaaGreatDoorP19
/-
  Part 20 of the proof.
-/
set_option linter.all false
section
namespace Go.Ab.S
open Go Go.Ab
set_option maxHeartbeats 1000000
section
variable {G X t:Graph} {T:Int->Int->Prop} {o a b:Int}
theorem zOm (K:InstB X t T) (hn:zAB G (a+o)=shN o (zAB X a)) (t1:T a b):(zAB G (a+o)).kind=1\/((zAB G (a+o)).kind=(zAB t b).kind/\(zAB G (a+o)).name=(zAB t b).name/\((zAB G (a+o)).kind=3->∀l∈(zAB G (a+o)).labels,l∈(zAB t b).labels)/\((zAB G (a+o)).isOpen=false->(zAB G (a+o)).labels=(zAB t b).labels/\(zAB t b).isOpen=false)):=by
 rw [hn]
 rcases K.node _ _ t1 with q|⟨_,q2,q3,q4,q5,_⟩
 ·exact .inl q
 ·refine .inr ⟨q2,q3,q5,fun ho=>?_⟩
  rcases q4 with q4|⟨q4,q6⟩
  ·exact absurd q4 (by show ¬(zAB X a).isOpen=true;rw [show (zAB X a).isOpen=false from ho];decide)
  ·exact ⟨q6,q4⟩
theorem zQt (K:InstB X t T) (hn:zAB G (a+o)=shN o (zAB X a)) (t1:T a b) (hk:(zAB G (a+o)).kind=2) {i:Nat} (hi:i<(zAB G (a+o)).args.length):∃a',(zAB G (a+o)).args.getD i 0=a'+o/\InG X a'/\T a' ((zAB t b).args.getD i 0):=by
 rw [hn] at hk hi ⊢
 have hi':i<(zAB X a).args.length:=by simpa [shN] using hi
 have hk':(zAB X a).kind=2:=hk
 rcases K.node _ _ t1 with q|⟨_,_,_,_,_,q5⟩
 ·omega
 have:=(q5 i hi').2
 rw [idxI,if_neg (by simp;omega)] at this
 exact ⟨_,zLt hi',(K.range _ _ this).1,this⟩
theorem zQu (cX:zAF X=0) (ct:zAF t=0) (K:InstB X t T) (hn:zAB G (a+o)=shN o (zAB X a)) (t1:T a b) (hk:(zAB G (a+o)).kind=3) {i:Nat} {l:List Nat} (hi:(zAB G (a+o)).labels[i]?=some l):∃i':Nat,(zAB t b).labels[i']?=some l/\∃a',(zAB G (a+o)).args.getD i 0=a'+o/\InG X a'/\T a' ((zAB t b).args.getD i' 0):=by
 rw [hn] at hk hi ⊢
 have ha:=(K.range _ _ t1).1
 have i1:=(K.range _ _ t1).2.ok ct
 have hk':(zAB X a).kind=3:=hk
 have hi':(zAB X a).labels[i]?=some l:=hi
 have hil:=(zgS.1 hi').1
 have hia:i<(zAB X a).args.length:=by rw [<-(zCM cX ha hk').1];exact hil
 rcases K.node _ _ t1 with q|⟨_,q2,_,_,q4,q5⟩
 ·omega
 have hu:(zAB t b).kind=3:=by omega
 obtain ⟨i',hi2,he⟩:=List.mem_iff_getElem.1 (q4 hk' l (List.mem_of_getElem? hi'))
 have hget:(zAB t b).labels[i']?=some l:=by rw [zgG hi2,he]
 have hidx:idxI (zAB X a) (zAB t b) i=i':=by
  rw [idxI,if_pos (by simp;omega),List.getD,hi',Option.getD_some]
  exact (zJP (zCM ct i1 hu).2.1 hget).1
 have:=(q5 i hia).2
 rw [hidx] at this
 exact ⟨i',hget,_,zLt hia,(K.range _ _ this).1,this⟩
end
def Mtt (g h:Graph) (k j:Int) (T1 T2:Int->Int->Prop) (x b:Int):Prop:=(∃a,x=a+k/\InG g a/\T1 a b)\/∃a,x=a+j/\InG h a/\T2 a b
section
variable {G g h t U:Graph} {k j:Int} {T1 T2:Int->Int->Prop} {ps:List Pr} {R:List Int}
variable (cG:zAF G=0) (cg:zAF g=0) (ch:zAF h=0) (ct:zAF t=0) (e:Emb G g h k j) (K1:InstB g t T1) (K2:InstB h t T2)
include cG cg ch ct e K1 K2
theorem Mtt.inT {x b:Int} (m:Mtt g h k j T1 T2 x b):InG t b:=by
 rcases m with ⟨a,_,_,t1⟩|⟨a,_,_,t1⟩
 ·exact (K1.range _ _ t1).2.ok ct
 ·exact (K2.range _ _ t1).2.ok ct
theorem Mtt.inX {x b:Int} (m:Mtt g h k j T1 T2 x b):InG G x:=by
 rcases m with ⟨a,rfl,ha,_⟩|⟨a,rfl,ha,_⟩
 ·exact e.inl a ha
 ·exact e.inr a ha
theorem Mtt.uniq {x b c:Int} (m:Mtt g h k j T1 T2 x b) (n:Mtt g h k j T1 T2 x c):clAt (zAH t) b=clAt (zAH t) c:=by
 rcases m with ⟨a,rfl,ha,t1⟩|⟨a,rfl,ha,t1⟩
 ·rcases n with ⟨a',he,ha',t2⟩|⟨a',he,ha',t2⟩
  ·obtain rfl:a=a':=by omega
   exact zHn cg ct K1 t1 t2
  ·exact absurd he (e.dis a a' ha ha')
 ·rcases n with ⟨a',he,ha',t2⟩|⟨a',he,ha',t2⟩
  ·exact absurd he.symm (e.dis a' a ha' ha)
  ·obtain rfl:a=a':=by omega
   exact zHn ch ct K2 t1 t2
theorem Mtt.node {x u:Int} (m:Mtt g h k j T1 T2 x u):(zAB G x).kind=1\/((zAB G x).kind=(zAB t u).kind/\(zAB G x).name=(zAB t u).name/\((zAB G x).kind=3->∀l∈(zAB G x).labels,l∈(zAB t u).labels)/\((zAB G x).isOpen=false->(zAB G x).labels=(zAB t u).labels/\(zAB t u).isOpen=false)):=by
 rcases m with ⟨a,rfl,ha,t1⟩|⟨a,rfl,ha,t1⟩
 ·exact zOm K1 (e.nl a ha) t1
 ·exact zOm K2 (e.nr a ha) t1
theorem Mtt.con {x u:Int} (m:Mtt g h k j T1 T2 x u) (hk:(zAB G x).kind=2) {i:Nat} (hi:i<(zAB G x).args.length):Mtt g h k j T1 T2 ((zAB G x).args.getD i 0) ((zAB t u).args.getD i 0):=by
 rcases m with ⟨a,rfl,ha,t1⟩|⟨a,rfl,ha,t1⟩
 ·exact .inl (zQt K1 (e.nl a ha) t1 hk hi)
 ·exact .inr (zQt K2 (e.nr a ha) t1 hk hi)
theorem Mtt.obj {x u:Int} (m:Mtt g h k j T1 T2 x u) (hk:(zAB G x).kind=3) {i:Nat} {l:List Nat} (hi:(zAB G x).labels[i]?=some l):∃i':Nat,(zAB t u).labels[i']?=some l/\Mtt g h k j T1 T2 ((zAB G x).args.getD i 0) ((zAB t u).args.getD i' 0):=by
 rcases m with ⟨a,rfl,ha,t1⟩|⟨a,rfl,ha,t1⟩
 ·obtain ⟨i',h1,h2⟩:=zQu cg ct K1 (e.nl a ha) t1 hk hi
  exact ⟨i',h1,.inl h2⟩
 ·obtain ⟨i',h1,h2⟩:=zQu ch ct K2 (e.nr a ha) t1 hk hi
  exact ⟨i',h1,.inr h2⟩
theorem Mtt.conlen {x u:Int} (m:Mtt g h k j T1 T2 x u) (hk:(zAB G x).kind=2):(zAB t u).kind=2/\(zAB t u).args.length=(zAB G x).args.length/\(zAB t u).labels=[]/\(zAB t u).isOpen=false:=by
 rcases m.node cG cg ch ct e K1 K2 with q|⟨q1,q2,_⟩
 ·omega
 rcases zAP (zAk cG (m.inX cG cg ch ct e K1 K2)) with ⟨z,_⟩|⟨_,_,_,_,z⟩|⟨z,_⟩
 ·omega
 ·rcases zAP (zAk ct (m.inT cG cg ch ct e K1 K2)) with ⟨w,_⟩|⟨w0,w1,w2,_,w⟩|⟨w,_⟩
  ·omega
  ·exact ⟨w0,by rw [w,z,q2],w1,w2⟩
  ·omega
 ·omega
theorem zMm (hps:∀p∈ps,p=(g.root+k,h.root+j)\/p=(h.root+j,g.root+k)) {x y:Int} (hu:Uni G ps x y):(x=y/\InG G x)\/∃b c,Mtt g h k j T1 T2 x b/\Mtt g h k j T1 T2 y c/\clAt (zAH t) b=clAt (zAH t) c:=by
 have rg:=zAU cg
 have rh:=zAU ch
 have m1:Mtt g h k j T1 T2 (g.root+k) t.root:=.inl ⟨_,rfl,⟨rg.1,rg.2.1⟩,K1.root⟩
 have m2:Mtt g h k j T1 T2 (h.root+j) t.root:=.inr ⟨_,rfl,⟨rh.1,rh.2.1⟩,K2.root⟩
 induction hu with
 |refl hz=>exact .inl ⟨rfl,hz⟩
 |symm _ ih=>
  rcases ih with ⟨rfl,hz⟩|⟨b,c,h1,h2,h3⟩
  ·exact .inl ⟨rfl,hz⟩
  ·exact .inr ⟨c,b,h2,h1,h3.symm⟩
 |trans _ _ ih1 ih2=>
  rcases ih1 with ⟨rfl,hz⟩|⟨b,c,h1,h2,h3⟩
  ·exact ih2
  ·rcases ih2 with ⟨rfl,hz⟩|⟨b',c',h1',h2',h3'⟩
   ·exact .inr ⟨b,c,h1,h2,h3⟩
   ·exact .inr ⟨b,c',h1,h2',by rw [h3,Mtt.uniq cG cg ch ct e K1 K2 h2 h1',h3']⟩
 |pair hp _ _=>
  rcases hps _ hp with h1|h1
  ·cases h1;exact .inr ⟨_,_,m1,m2,rfl⟩
  ·cases h1;exact .inr ⟨_,_,m2,m1,rfl⟩
 | @con a b i hab ka kb hn hi ih=>
  rcases ih with ⟨rfl,hz⟩|⟨u,w,h1,h2,h3⟩
  ·exact .inl ⟨rfl,zAt (zAk cG hz) _ (zBN hi)⟩
  ·have hin:=hab.inG cG
   have n1:=Mtt.con cG cg ch ct e K1 K2 h1 ka hi
   have n2:=Mtt.con cG cg ch ct e K1 K2 h2 kb (i:=i) (by rw [<-zEx cG hin.1 hin.2 ka kb hn];exact hi)
   obtain ⟨_,l1,_⟩:=Mtt.conlen cG cg ch ct e K1 K2 h1 ka
   exact .inr ⟨_,_,n1,n2,(zEd ct (h1.inT cG cg ch ct e K1 K2) (h2.inT cG cg ch ct e K1 K2) h3).2.2.2.2.2.1 i (by omega)⟩
 | @obj a b i i2 l hab ka kb hi hj ih=>
  rcases ih with ⟨rfl,hz⟩|⟨u,w,h1,h2,h3⟩
  ·obtain ⟨z1,z2,_⟩:=zCM cG hz ka
   obtain rfl:=zEk z2 hi hj
   exact .inl ⟨rfl,zAt (zAk cG hz) _ (zBN (by rw [<-z1];exact (zgS.1 hi).1))⟩
  ·obtain ⟨i',l1,n1⟩:=Mtt.obj cG cg ch ct e K1 K2 h1 ka hi
   obtain ⟨j',l2,n2⟩:=Mtt.obj cG cg ch ct e K1 K2 h2 kb hj
   have hu1:=h1.inT cG cg ch ct e K1 K2
   obtain ⟨q1,_,q3,_,_,q6,_⟩:=zEd ct hu1 (h2.inT cG cg ch ct e K1 K2) h3
   have ku:(zAB t u).kind=3:=by
    rcases Mtt.node cG cg ch ct e K1 K2 h1 with q|⟨q,_⟩<;>omega
   obtain ⟨z1,z2,_⟩:=zCM ct hu1 ku
   rw [<-q3] at l2
   obtain rfl:=zEk z2 l1 l2
   exact .inr ⟨_,_,n1,n2,q6 i' (by rw [<-z1];exact (zgS.1 l1).1)⟩
theorem zQb (hps:∀p∈ps,p=(g.root+k,h.root+j)\/p=(h.root+j,g.root+k)) {x y b:Int} (hu:Uni G ps x y) (m:Mtt g h k j T1 T2 x b):∃c,Mtt g h k j T1 T2 y c/\clAt (zAH t) c=clAt (zAH t) b:=by
 rcases zMm cG cg ch ct e K1 K2 hps hu with ⟨rfl,_⟩|⟨b',c,h1,h2,h3⟩
 ·exact ⟨b,m,rfl⟩
 ·exact ⟨c,h2,by rw [<-h3];exact Mtt.uniq cG cg ch ct e K1 K2 h1 m⟩
theorem zNU (hps:∀p∈ps,p=(g.root+k,h.root+j)\/p=(h.root+j,g.root+k)):Consi G ps:=by
 intro x y hu
 rcases zMm cG cg ch ct e K1 K2 hps hu with ⟨rfl,_⟩|⟨b,c,h1,h2,h3⟩
 ·exact .inr (.inr ⟨rfl,rfl,fun _=>⟨fun _ l hl=>hl,fun _ l hl=>hl⟩⟩)
 ·obtain ⟨q1,q2,q3,q4,_⟩:=zEd ct (h1.inT cG cg ch ct e K1 K2) (h2.inT cG cg ch ct e K1 K2) h3
  rcases Mtt.node cG cg ch ct e K1 K2 h1 with z|⟨z1,z2,z3,z4⟩
  ·exact .inl z
  rcases Mtt.node cG cg ch ct e K1 K2 h2 with w|⟨w1,w2,w3,w4⟩
  ·exact .inr (.inl w)
  refine .inr (.inr ⟨by omega,by rw [z2,w2,q2],fun hk=>⟨fun ho l hl=>?_,fun ho l hl=>?_⟩⟩)
  ·rw [(z4 ho).1,q3];exact w3 (by omega) l hl
  ·rw [(w4 ho).1,<-q3];exact z3 hk l hl
theorem zQa (O:UOut G ps U R) (hps:∀p∈ps,p=(g.root+k,h.root+j)\/p=(h.root+j,g.root+k)) (hroot:Uni G ps (g.root+k) G.root):∃S,InstB (zCI U) t S:=by
 have cU:=O.check cG
 have Q:=zHW cU
 have rg:=zAU cg
 have m1:Mtt g h k j T1 T2 (g.root+k) t.root:=.inl ⟨_,rfl,⟨rg.1,rg.2.1⟩,K1.root⟩
 have mv:= @zQb G g h t k j T1 T2 ps cG cg ch ct e K1 K2 hps
 have inG:∀{x},Rch U x->InG G x:=fun hx=>by have:=hx.ok cU;rw [O.lenU] at this;exact this
 have inT:= @Mtt.inT G g h t k j T1 T2 cG cg ch ct e K1 K2
 have hin:∀{x y},Uni G ps x y->InG G y:=fun hu=>(hu.inG cG).2
 refine ⟨fun z b=>Rch t b/\∃x b',Rch U x/\z=qT U x/\Mtt g h k j T1 T2 x b'/\clAt (zAH t) b'=clAt (zAH t) b,⟨.root,?_⟩,?_,?_,?_⟩
 ·obtain ⟨c,mc,hc⟩:=mv (hroot.trans (O.rep _ (hin hroot)).1) m1
  exact ⟨_,c,.root,Q.root,by rw [O.root];exact mc,hc⟩
 ·rintro _ b ⟨hb,x,b',hx,rfl,_⟩
  exact ⟨Q.range _ hx,hb⟩
 ·rintro _ b ⟨hb,x,b',hx,rfl,mx,hbb⟩
  have hib:=hb.ok ct
  have hn:=Q.node x hx
  change zAB (zCI U) (qT U x)=_ at hn
  rw [hn]
  -- what an argument stands for
  have harg:∀{y c d:Int},y∈(zAB U x).args->∀{z:Int},InG G z->y=clAt R z->Mtt g h k j T1 T2 z c->clAt (zAH t) c=clAt (zAH t) d->Rch t d->Rch t d/\∃x' b',Rch U x'/\qT U y=qT U x'/\Mtt g h k j T1 T2 x' b'/\clAt (zAH t) b'=clAt (zAH t) d:=by
   intro y c d hy z hz hyz mz hcd hd
   obtain ⟨c',m',e'⟩:=mv (O.rep z hz).1 mz
   exact ⟨hd,y,c',.step hx hy,rfl,by rw [hyz];exact m',by rw [e',hcd]⟩
  by_cases h2:∃m,Uni G ps x m/\(zAB G m).kind=2
  ·obtain ⟨m,hxm,hk⟩:=h2
   obtain ⟨c,mc,hcb⟩:=mv hxm mx
   rw [hbb] at hcb
   obtain ⟨t1,t2,t3,t4⟩:=mc.conlen cG cg ch ct e K1 K2 hk
   obtain ⟨f1,f2,f3,f4,f5,f6,_⟩:=zEd ct (inT mc) hib hcb
   have hname:(zAB G m).name=(zAB t c).name:=by
    rcases mc.node cG cg ch ct e K1 K2 with q|⟨_,q,_⟩
    ·omega
    ·exact q
   rw [O.con x m hxm hk]
   refine .inr ⟨by show (2:Int)≠1;decide,by show (2:Int)=_;rw [<-f1,t1],by show (zAB G m).name=_;rw [hname,f2],.inr ⟨by rw [<-f4,t4],by show []=_;rw [<-f3,t3]⟩,fun h3=>absurd h3 (by show ¬(2:Int)=3;decide),fun i hi=>?_⟩
   have hi':i<(zAB G m).args.length:=by simpa using hi
   rw [idxI,if_neg (by simp)]
   refine ⟨by omega,?_⟩
   have hget:(((zAB G m).args.map (clAt R)).map fun a=>(zCC (zAO U) a:Int)).getD i 0=qT U (clAt R ((zAB G m).args.getD i 0)):=by
    simp only [List.getD,zgM,zgG hi'];rfl
   show (fun z b=>Rch t b/\∃x b',Rch U x/\z=qT U x/\Mtt g h k j T1 T2 x b'/\clAt (zAH t) b'=clAt (zAH t) b) ((((zAB G m).args.map (clAt R)).map fun a=>(zCC (zAO U) a:Int)).getD i 0) _
   rw [hget]
   exact harg (by rw [O.con x m hxm hk];exact List.mem_map.2 ⟨_,zBN hi',rfl⟩) (zAt (zAk cG (hin hxm)) _ (zBN hi')) rfl (mc.con cG cg ch ct e K1 K2 hk hi') (f6 i (by omega)) (zDC hb (by omega))
  ·by_cases h3:∃m,Uni G ps x m/\(zAB G m).kind=3
   ·obtain ⟨m,hxm,hk⟩:=h3
    have P:=O.obj x m hxm hk
    have look:∀m',Uni G ps x m'->(zAB G m').kind=3->∃c,Mtt g h k j T1 T2 m' c/\(zAB t c).kind=3/\clAt (zAH t) c=clAt (zAH t) b/\(zAB t c).labels=(zAB t b).labels/\(zAB t c).isOpen=(zAB t b).isOpen/\(zAB t b).kind=3:=fun m' hm' hk'=>by
     obtain ⟨c,mc,hcb⟩:=mv hm' mx
     rw [hbb] at hcb
     obtain ⟨f1,_,f3,f4,_⟩:=zEd ct (inT mc) hib hcb
     rcases mc.node cG cg ch ct e K1 K2 with q|⟨q,_⟩
     ·omega
     ·exact ⟨c,mc,by omega,hcb,f3,f4,by omega⟩
    obtain ⟨_,_,_,_,_,_,kb⟩:=look m hxm hk
    obtain ⟨lb,rb,nb⟩:=zCM ct hib kb
    have hsub:∀l∈(zAB U x).labels,l∈(zAB t b).labels:=fun l hl=>by
     obtain ⟨m',m1,m2,m3⟩:=(P.labels l).1 hl
     obtain ⟨c,mc,_,_,f3,_⟩:=look m' m1 m2
     rcases mc.node cG cg ch ct e K1 K2 with q|⟨_,_,q,_⟩
     ·omega
     ·rw [<-f3];exact q m2 l m3
    refine .inr ⟨by show (zAB U x).kind≠1;rw [P.kind];decide,by show (zAB U x).kind=_;rw [P.kind,kb],by show (zAB U x).name=_;rw [P.name,nb],?_,fun _=>hsub,fun i hi=>?_⟩
    ·cases ho:(zAB U x).isOpen
     ·have:¬∀m,Uni G ps x m->(zAB G m).kind=3->(zAB G m).isOpen=true:=fun hh=>by
       have:=P.isOpen.2 hh
       rw [ho] at this;cases this
      simp only [Classical.not_forall] at this
      obtain ⟨m',m1,m2,m3⟩:=this
      have m3:(zAB G m').isOpen=false:=by simpa using m3
      obtain ⟨c,mc,_,_,f3,f4,_⟩:=look m' m1 m2
      rcases mc.node cG cg ch ct e K1 K2 with q|⟨_,_,_,q⟩
      ·omega
      obtain ⟨q1,q2⟩:=q m3
      refine .inr ⟨by rw [<-f4,q2],zEO (zBE P.rises) rb fun l=>⟨hsub l,fun hl=>(P.labels l).2 ⟨m',m1,m2,by rw [q1,f3];exact hl⟩⟩⟩
     ·exact .inl rfl
    ·have hi':i<(zAB U x).args.length:=by simpa using hi
     have hil:i<(zAB U x).labels.length:=by rw [P.len];exact hi'
     obtain ⟨m',m1,m2,m3⟩:=(P.labels _).1 (List.getElem_mem hil)
     obtain ⟨p,hp,hpe⟩:=List.mem_iff_getElem.1 m3
     have hpl:(zAB G m').labels[p]?=some (zAB U x).labels[i]:=by rw [zgG hp,hpe]
     have hval:=P.args i _ (zgG hil) m' p m1 m2 hpl
     obtain ⟨c,mc,kc,hcb,f3,_⟩:=look m' m1 m2
     obtain ⟨i',hi1,hm⟩:=mc.obj cG cg ch ct e K1 K2 m2 hpl
     have hi1b:(zAB t b).labels[i']?=some (zAB U x).labels[i]:=by rw [<-f3];exact hi1
     have hidx:idxI {zAB U x with args:=(zAB U x).args.map fun a=>(zCC (zAO U) a:Int)} (zAB t b) i=i':=by
      rw [idxI,if_pos (by show ((zAB U x).kind==3)=true;rw [P.kind];rfl),List.getD]
      show bsAt _ (((zAB U x).labels[i]?).getD [])=i'
      rw [zgG hil,Option.getD_some]
      exact (zJP rb hi1b).1
     have hib':i'<(zAB t b).args.length:=by rw [<-lb];exact (zgS.1 hi1b).1
     rw [hidx]
     refine ⟨hib',?_⟩
     have hget:((zAB U x).args.map fun a=>(zCC (zAO U) a:Int)).getD i 0=qT U ((zAB U x).args.getD i 0):=by
      simp only [List.getD,zgM,zgG hi'];rfl
     show (fun z b=>Rch t b/\∃x b',Rch U x/\z=qT U x/\Mtt g h k j T1 T2 x b'/\clAt (zAH t) b'=clAt (zAH t) b) (((zAB U x).args.map fun a=>(zCC (zAO U) a:Int)).getD i 0) _
     rw [hget]
     have hpa:p<(zAB G m').args.length:=by rw [<-(zCM cG (hin m1) m2).1];exact hp
     refine harg (zBN hi') (zAt (zAk cG (hin m1)) _ (zBN hpa)) hval hm ?_ (zDC hb hib')
     obtain ⟨_,_,_,_,_,f6,_⟩:=zEd ct (inT mc) hib hcb
     exact f6 i' (by rw [<-(zCM ct (inT mc) kc).1];exact (zgS.1 hi1).1)
   ·have hv:=O.var x (inG hx) fun m hm=>by
     rcases zAP (zAk cG (hin hm)) with ⟨q,_⟩|⟨q,_⟩|⟨q,_⟩
     ·exact q
     ·exact absurd ⟨m,hm,q⟩ h2
     ·exact absurd ⟨m,hm,q⟩ h3
    rw [hv];exact .inl rfl
 ·rintro _ b c ⟨hb,x,b',hx,rfl,mx,hbb⟩ ⟨hc,x',c',hx',he,mx',hcc⟩ hf
  have hfU:zAW (zAB U x)=true:=by
   have hn:=Q.node x hx
   change zAB (zCI U) (qT U x)=_ at hn
   rw [hn] at hf;exact hf
  obtain rfl:=Q.inj _ _ hx hx' hfU he
  rw [<-hbb,<-hcc]
  exact Mtt.uniq cG cg ch ct e K1 K2 mx mx'
end
def Ins (g h:Graph):Prop:=∃S,InstB g h S
def zBo (g h:Graph):List Pr:=[(g.root,(g.nodes.length:Int)+h.root)]
section
variable {g h k t U:Graph} {R:List Int}
theorem Ins.refl (cg:zAF g=0):Ins g g:=by
 obtain ⟨_,K⟩:=zOl g cg
 exact (zGM cg cg).1 (zFA cg cg K)
theorem Ins.trans (cg:zAF g=0) (ch:zAF h=0) (ck:zAF k=0) (h1:Ins g h) (h2:Ins h k):Ins g k:=by
 obtain ⟨_,K⟩:=(zGM cg ch).2 h1
 obtain ⟨_,J⟩:=(zGM ch ck).2 h2
 exact (zGM cg ck).1 (zNA cg ch ck K J)
theorem zQN (cg:zAF g=0) (ch:zAF h=0):zFa g h=true↔Ins g h/\Ins h g:=by
 rw [zIO cg ch]
 constructor
 ·rintro ⟨R,K⟩;exact ⟨(zGM cg ch).1 (zFA cg ch K),(zGM ch cg).1 (zFA ch cg K.flip)⟩
 ·rintro ⟨h1,h2⟩
  obtain ⟨S,K⟩:=(zGM cg ch).2 h1
  obtain ⟨T,J⟩:=(zGM ch cg).2 h2
  exact zLD cg ch K J
variable (cg:zAF g=0) (ch:zAF h=0) (hs:g.nodes.length+h.nodes.length<=1048576)
include cg ch hs
theorem zGs:Uni (zBF g h) (zBo g h) (g.root+0) (zBF g h).root/\Uni (zBF g h) (zBo g h) (h.root+g.nodes.length) (zBF g h).root:=by
 have rg:=zAU cg
 have rh:=zAU ch
 have i1:InG (zBF g h) g.root:=zLv ⟨rg.1,rg.2.1⟩
 have i2:InG (zBF g h) (h.root+g.nodes.length):=zLw ⟨rh.1,rh.2.1⟩
 refine ⟨by rw [Int.add_zero];exact .refl i1,.symm (.pair ?_ i1 i2)⟩
 rw [zBo,Int.add_comm];exact List.mem_singleton.2 rfl
theorem zJm (ct:zAF t=0) (h1:Ins g t) (h2:Ins h t):Consi (zBF g h) (zBo g h):=by
 obtain ⟨_,K1⟩:=h1
 obtain ⟨_,K2⟩:=h2
 refine zNU (zCp cg ch hs) cg ch ct (zJX g h) K1 K2 fun p hp=>.inl ?_
 rw [List.mem_singleton.1 hp,Int.add_zero,Int.add_comm]
theorem zKo (ct:zAF t=0) (h1:Ins g t) (h2:Ins h t) (O:UOut (zBF g h) (zBo g h) U R):Ins (zCI U) t:=by
 obtain ⟨_,K1⟩:=h1
 obtain ⟨_,K2⟩:=h2
 refine zQa (zCp cg ch hs) cg ch ct (zJX g h) K1 K2 O (fun p hp=>.inl ?_) (zGs cg ch hs).1
 rw [List.mem_singleton.1 hp,Int.add_zero,Int.add_comm]
theorem zHv (O:UOut (zBF g h) (zBo g h) U R):Ins g (zCI U)/\Ins h (zCI U):=by
 have E:=zJX g h
 exact ⟨zKn (zCp cg ch hs) cg O E.inl E.nl (zGs cg ch hs).1,zKn (zCp cg ch hs) ch O E.inr E.nr (zGs cg ch hs).2⟩
omit hs in
theorem zKp (hs:g.nodes.length+h.nodes.length<=1048576) (O:UOut (zBF g h) (zBo g h) U R):zAF (zCI U)=0:=(zHW (O.check (zCp cg ch hs))).check
end
end Go.Ab.S
end
section
namespace Go.Ab.S
open Go Go.Ab
set_option maxHeartbeats 1000000
section
variable {g U:Graph} {ps:List Pr} {R:List Int}
theorem Uni.mono {ps':List Pr} (h:∀p∈ps,p∈ps') {a b:Int} (u:Uni g ps a b):Uni g ps' a b:=by
 induction u with
 |refl h1=>exact .refl h1
 |symm _ ih=>exact .symm ih
 |trans _ _ h1 h2=>exact .trans h1 h2
 |pair hp h1 h2=>exact .pair (h _ hp) h1 h2
 |con _ ka kb hn hi ih=>exact .con ih ka kb hn hi
 |obj _ ka kb hi hj ih=>exact .obj ih ka kb hi hj
theorem kinds (hc:zAF g=0) {a:Int} (ha:InG g a):(zAB g a).kind=1\/(zAB g a).kind=2\/(zAB g a).kind=3:=by
 rcases zAP (zAk hc ha) with ⟨q,_⟩|⟨q,_⟩|⟨q,_⟩
 ·exact .inl q
 ·exact .inr (.inl q)
 ·exact .inr (.inr q)
theorem UOut.inU (O:UOut g ps U R) {a:Int}:InG U a↔InG g a:=by rw [InG,InG,O.lenU]
theorem UOut.idem (hc:zAF g=0) (O:UOut g ps U R) {a:Int} (h:InG g a):clAt R (clAt R a)=clAt R a:=(O.eq hc (O.rep a h).1).symm
theorem UOut.cases (hc:zAF g=0) (O:UOut g ps U R) {a:Int} (h:InG g a):((zAB U a).kind=1/\∀m,Uni g ps a m->(zAB g m).kind=1)\/((zAB U a).kind=2/\∃m,Uni g ps a m/\(zAB g m).kind=2)\/((zAB U a).kind=3/\∃m,Uni g ps a m/\(zAB g m).kind=3):=by
 by_cases h2:∃m,Uni g ps a m/\(zAB g m).kind=2
 ·obtain ⟨m,h3,h4⟩:=h2
  exact .inr (.inl ⟨by rw [O.con a m h3 h4],m,h3,h4⟩)
 ·by_cases h3:∃m,Uni g ps a m/\(zAB g m).kind=3
  ·obtain ⟨m,h3,h4⟩:=h3
   exact .inr (.inr ⟨(O.obj a m h3 h4).kind,m,h3,h4⟩)
  ·have hv:∀m,Uni g ps a m->(zAB g m).kind=1:=fun m hm=>by
    rcases kinds hc (hm.inG hc).2 with q|q|q
    ·exact q
    ·exact absurd ⟨m,hm,q⟩ h2
    ·exact absurd ⟨m,hm,q⟩ h3
   exact .inl ⟨by rw [O.var a h hv],hv⟩
theorem UOut.oarg (hc:zAF g=0) (O:UOut g ps U R) {a m:Int} (h:Uni g ps a m) (hk:(zAB g m).kind=3) {i:Nat} {l:List Nat} (hl:(zAB U a).labels[i]?=some l):∃m' p,Uni g ps a m'/\(zAB g m').kind=3/\(zAB g m').labels[p]?=some l/\(zAB U a).args.getD i 0=clAt R ((zAB g m').args.getD p 0)/\InG g ((zAB g m').args.getD p 0):=by
 have P:=O.obj a m h hk
 obtain ⟨m',m1,m2,m3⟩:=(P.labels l).1 (List.mem_of_getElem? hl)
 obtain ⟨p,hp,hpe⟩:=List.mem_iff_getElem.1 m3
 have hpl:(zAB g m').labels[p]?=some l:=by rw [zgG hp,hpe]
 have hin:=(m1.inG hc).2
 exact ⟨m',p,m1,m2,hpl,P.args i l hl m' p m1 m2 hpl,zAt (zAk hc hin) _ (zBN (by rw [<-(zCM hc hin m2).1];exact hp))⟩
theorem UOut.arg (hc:zAF g=0) (O:UOut g ps U R) {a b:Int} (h:InG g a) (hb:b∈(zAB U a).args):∃z,InG g z/\b=clAt R z:=by
 rcases O.cases hc h with ⟨_,hv⟩|⟨_,m,h1,h2⟩|⟨_,m,h1,h2⟩
 ·rw [O.var a h hv] at hb;cases hb
 ·rw [O.con a m h1 h2] at hb
  obtain ⟨z,hz,rfl⟩:=List.mem_map.1 hb
  exact ⟨z,zAt (zAk hc (h1.inG hc).2) _ hz,rfl⟩
 ·obtain ⟨i,hi,rfl⟩:=List.mem_iff_getElem.1 hb
  have hil:i<(zAB U a).labels.length:=by rw [(O.obj a m h1 h2).len];exact hi
  obtain ⟨m',p,_,_,_,h3,h4⟩:=O.oarg hc h1 h2 (zgG hil)
  rw [List.getD,zgG hi,Option.getD_some] at h3
  exact ⟨_,h4,h3⟩
theorem UOut.rch (hc:zAF g=0) (O:UOut g ps U R) {a:Int} (h:Rch U a):∃z,InG g z/\a=clAt R z:=by
 have cU:=O.check hc
 cases h with
 |root=>exact ⟨g.root,⟨(zAU hc).1,(zAU hc).2.1⟩,O.root⟩
 |step hr hb=>exact O.arg hc (O.inU.1 (hr.ok cU)) hb
theorem UOut.rch' (hc:zAF g=0) (O:UOut g ps U R) {a:Int} (h:Rch U a):clAt R a=a:=by
 obtain ⟨z,hz,rfl⟩:=O.rch hc h
 exact O.idem hc hz
end
structure Stage (g:Graph) (ps1 ps:List Pr) (D:Graph) (R1:List Int) (rest:List Pr):Prop where
 sub:∀p∈ps1,p∈ps
 sound:∀p∈rest,Uni g ps p.1 p.2
 full:∀p∈ps,InG g p.1->InG g p.2->Uni D rest (clAt R1 p.1) (clAt R1 p.2)
section
variable {g D U X:Graph} {ps1 ps rest:List Pr} {R1 R RX:List Int} (hc:zAF g=0) (O1:UOut g ps1 D R1) (S:Stage g ps1 ps D R1 rest)
include hc O1 S
theorem zMg {x y:Int} (h:Uni D rest x y):Uni g ps x y:=by
 have up:∀{a b},Uni g ps1 a b->Uni g ps a b:=fun h=>h.mono S.sub
 have cD:=O1.check hc
 induction h with
 |refl h=>exact .refl (O1.inU.1 h)
 |symm _ ih=>exact .symm ih
 |trans _ _ h1 h2=>exact .trans h1 h2
 |pair hp _ _=>exact S.sound _ hp
 | @con a b i hab ka kb hn hi ih=>
  have hin:=hab.inG cD
  rcases O1.cases hc (O1.inU.1 hin.1) with ⟨q,_⟩|⟨_,m,m1,m2⟩|⟨q,_⟩
  ·omega
  ·rcases O1.cases hc (O1.inU.1 hin.2) with ⟨q,_⟩|⟨_,n,n1,n2⟩|⟨q,_⟩
   ·omega
   ·rw [O1.con a m m1 m2] at hn hi ⊢
    rw [O1.con b n n1 n2] at hn ⊢
    have hi':i<(zAB g m).args.length:=by simpa using hi
    have hmn:Uni g ps m n:=(up m1).symm.trans (ih.trans (up n1))
    have hu:=Uni.con hmn m2 n2 hn hi'
    have hin2:=hu.inG hc
    have hl:=zEx hc (hmn.inG hc).1 (hmn.inG hc).2 m2 n2 hn
    have g1:((zAB g m).args.map (clAt R1)).getD i 0=clAt R1 ((zAB g m).args.getD i 0):=by simp only [List.getD,zgM,zgG hi'];rfl
    have g2:((zAB g n).args.map (clAt R1)).getD i 0=clAt R1 ((zAB g n).args.getD i 0):=by simp only [List.getD,zgM,zgG (hl ▸ hi':i<(zAB g n).args.length)];rfl
    show Uni g ps (((zAB g m).args.map (clAt R1)).getD i 0) (((zAB g n).args.map (clAt R1)).getD i 0)
    rw [g1,g2]
    exact (up (O1.rep _ hin2.1).1).symm.trans (hu.trans (up (O1.rep _ hin2.2).1))
   ·omega
  ·omega
 | @obj a b i j l hab ka kb hi hj ih=>
  have hin:=hab.inG cD
  rcases O1.cases hc (O1.inU.1 hin.1) with ⟨q,_⟩|⟨q,_⟩|⟨_,m,m1,m2⟩
  ·omega
  ·omega
  ·rcases O1.cases hc (O1.inU.1 hin.2) with ⟨q,_⟩|⟨q,_⟩|⟨_,n,n1,n2⟩
   ·omega
   ·omega
   ·obtain ⟨m',p,q1,q2,q3,q4,q5⟩:=O1.oarg hc m1 m2 hi
    obtain ⟨n',r,r1,r2,r3,r4,r5⟩:=O1.oarg hc n1 n2 hj
    rw [q4,r4]
    have hu:=Uni.obj ((up q1).symm.trans (ih.trans (up r1))) q2 r2 q3 r3
    exact (up (O1.rep _ q5).1).symm.trans (hu.trans (up (O1.rep _ r5).1))
theorem zRr {a b:Int} (h:Uni g ps a b):Uni D rest (clAt R1 a) (clAt R1 b):=by
 have cD:=O1.check hc
 induction h with
 |refl h=>exact .refl (O1.inU.2 (O1.inR hc h))
 |symm _ ih=>exact .symm ih
 |trans _ _ h1 h2=>exact .trans h1 h2
 |pair hp h1 h2=>exact S.full _ hp h1 h2
 | @con a b i hab ka kb hn hi ih=>
  have hin:=hab.inG hc
  have e1:=O1.con _ a (O1.rep a hin.1).1.symm ka
  have e2:=O1.con _ b (O1.rep b hin.2).1.symm kb
  have hib:i<(zAB g b).args.length:=by rw [<-zEx hc hin.1 hin.2 ka kb hn];exact hi
  have:=Uni.con (i:=i) ih (by rw [e1]) (by rw [e2]) (by rw [e1,e2];exact hn) (by rw [e1];simpa using hi)
  rw [e1,e2] at this
  simpa only [List.getD,zgM,zgG hi,zgG hib,Option.map_some,Option.getD_some] using this
 | @obj a b i j l hab ka kb hi hj ih=>
  have hin:=hab.inG hc
  have h1:=(O1.rep a hin.1).1.symm
  have h2:=(O1.rep b hin.2).1.symm
  have P:=O1.obj _ a h1 ka
  have Q:=O1.obj _ b h2 kb
  obtain ⟨i',hi',he⟩:=List.mem_iff_getElem.1 ((P.labels l).2 ⟨a,h1,ka,List.mem_of_getElem? hi⟩)
  obtain ⟨j',hj',hf⟩:=List.mem_iff_getElem.1 ((Q.labels l).2 ⟨b,h2,kb,List.mem_of_getElem? hj⟩)
  have k1:(zAB D (clAt R1 a)).labels[i']?=some l:=by rw [zgG hi',he]
  have k2:(zAB D (clAt R1 b)).labels[j']?=some l:=by rw [zgG hj',hf]
  have:=Uni.obj ih P.kind Q.kind k1 k2
  rw [P.args i' l k1 a i h1 ka hi,Q.args j' l k2 b j h2 kb hj] at this
  exact this
theorem zMd (K:Consi g ps):Consi D rest:=by
 have up:∀{a b},Uni g ps1 a b->Uni g ps a b:=fun h=>h.mono S.sub
 have cD:=O1.check hc
 intro a b hab
 have hin:=hab.inG cD
 have hu:=zMg hc O1 S hab
 have key:∀{m n},Uni g ps1 a m->Uni g ps1 b n->okP (zAB g m) (zAB g n):=fun h1 h2=>K _ _ ((up h1).symm.trans (hu.trans (up h2)))
 rcases O1.cases hc (O1.inU.1 hin.1) with ⟨q,_⟩|⟨qa,m,m1,m2⟩|⟨qa,m,m1,m2⟩
 ·exact .inl q
 ·rcases O1.cases hc (O1.inU.1 hin.2) with ⟨q,_⟩|⟨qb,n,n1,n2⟩|⟨qb,n,n1,n2⟩
  ·exact .inr (.inl q)
  ·rcases key m1 n1 with q|q|⟨_,q,_⟩
   ·omega
   ·omega
   ·refine .inr (.inr ⟨by omega,by rw [O1.con a m m1 m2,O1.con b n n1 n2];exact q,fun h=>by omega⟩)
  ·rcases key m1 n1 with q|q|⟨q,_⟩<;>omega
 ·rcases O1.cases hc (O1.inU.1 hin.2) with ⟨q,_⟩|⟨qb,n,n1,n2⟩|⟨qb,n,n1,n2⟩
  ·exact .inr (.inl q)
  ·rcases key m1 n1 with q|q|⟨q,_⟩<;>omega
  ·have P:=O1.obj a m m1 m2
   have Q:=O1.obj b n n1 n2
   have half:∀{N N':Node} {a b:Int},ObjOut g ps1 R1 a N->ObjOut g ps1 R1 b N'->(∀{m n},Uni g ps1 a m->Uni g ps1 b n->(zAB g m).kind=3->(zAB g n).kind=3->(zAB g m).isOpen=false->∀l∈(zAB g n).labels,l∈(zAB g m).labels)->N.isOpen=false->∀l∈N'.labels,l∈N.labels:=by
    intro N N' a b P Q key ho l hl
    have:¬∀m,Uni g ps1 a m->(zAB g m).kind=3->(zAB g m).isOpen=true:=fun hh=>by
     have:=P.isOpen.2 hh
     rw [ho] at this;cases this
    simp only [Classical.not_forall] at this
    obtain ⟨m',q1,q2,q3⟩:=this
    have q3:(zAB g m').isOpen=false:=by simpa using q3
    obtain ⟨n',r1,r2,r3⟩:=(Q.labels l).1 hl
    exact (P.labels l).2 ⟨m',q1,q2,key q1 r1 q2 r2 q3 l r3⟩
   refine .inr (.inr ⟨by omega,by rw [P.name,Q.name],fun _=>⟨half P Q fun h1 h2 k1 k2=>?_,half Q P fun h1 h2 k1 k2=>?_⟩⟩)
   ·rcases key h1 h2 with q|q|⟨_,_,q⟩
    ·omega
    ·omega
    ·exact (q k1).1
   ·rcases key h2 h1 with q|q|⟨_,_,q⟩
    ·omega
    ·omega
    ·exact (q k2).2
theorem zOq (O:UOut g ps U R) (OX:UOut D rest X RX):∃T,SameR X U T:=by
 have up:∀{a b},Uni g ps1 a b->Uni g ps a b:=fun h=>h.mono S.sub
 have cD:=O1.check hc
 have cU:=O.check hc
 have cX:=OX.check cD
 have snd:∀{x y},Uni D rest x y->Uni g ps x y:=fun h=>zMg hc O1 S h
 have ful:∀{x y},Uni g ps x y->Uni D rest (clAt R1 x) (clAt R1 y):=fun h=>zRr hc O1 S h
 have hroot:InG g g.root:=⟨(zAU hc).1,(zAU hc).2.1⟩
 have gin:∀{x y},Uni g ps x y->InG g y:=fun h=>(h.inG hc).2
 -- what is reached there stands for what is reached once
 have rx:∀{x},Rch X x->∃r,InG g r/\clAt R1 r=r/\x=clAt RX r/\Uni D rest r x:=by
  intro x hx
  have:∃r,InG g r/\clAt R1 r=r/\x=clAt RX r:=by
   cases hx with
   |root=>exact ⟨D.root,by rw [O1.root];exact O1.inR hc hroot,by rw [O1.root];exact O1.idem hc hroot,OX.root⟩
   | @step a b hr hb=>
    have hia:=OX.inU.1 (hr.ok cX)
    have argD:∀{n z},InG D n->z∈(zAB D n).args->InG g z/\clAt R1 z=z:=fun hn hz=>by
     obtain ⟨y,hy,rfl⟩:=O1.arg hc (O1.inU.1 hn) hz
     exact ⟨O1.inR hc hy,O1.idem hc hy⟩
    rcases OX.cases cD hia with ⟨_,hv⟩|⟨_,m,m1,m2⟩|⟨_,m,m1,m2⟩
    ·rw [OX.var a hia hv] at hb;cases hb
    ·rw [OX.con a m m1 m2] at hb
     obtain ⟨z,hz,rfl⟩:=List.mem_map.1 hb
     obtain ⟨z1,z2⟩:=argD (m1.inG cD).2 hz
     exact ⟨z,z1,z2,rfl⟩
    ·obtain ⟨i,hi,rfl⟩:=List.mem_iff_getElem.1 hb
     have hil:i<(zAB X a).labels.length:=by rw [(OX.obj a m m1 m2).len];exact hi
     obtain ⟨m',p,q1,q2,q3,q4,_⟩:=OX.oarg cD m1 m2 (zgG hil)
     rw [List.getD,zgG hi,Option.getD_some] at q4
     have hin:=(q1.inG cD).2
     have hpl:p<(zAB D m').args.length:=by rw [<-(zCM cD hin q2).1];exact (zgS.1 q3).1
     obtain ⟨z1,z2⟩:=argD hin (zBN hpl)
     exact ⟨_,z1,z2,q4⟩
  obtain ⟨r,h1,h2,rfl⟩:=this
  exact ⟨r,h1,h2,rfl,(OX.rep r (O1.inU.2 h1)).1⟩
 have key:∀{x},Rch X x->∀{m},Uni g ps x m->Uni D rest x (clAt R1 m):=by
  intro x hx m hm
  obtain ⟨r,h1,h2,rfl,h4⟩:=rx hx
  have:=ful ((snd h4).trans hm)
  rw [h2] at this
  exact h4.symm.trans this
 have argS:∀{x y z u v:Int},Rch X x->Rch U y->u∈(zAB X x).args->v∈(zAB U y).args->InG g z->u=clAt RX (clAt R1 z)->v=clAt R z->Rch X u/\Rch U v/\Uni g ps u v:=by
  intro x y z u v hx hy hu hv hz h1 h2
  refine ⟨.step hx hu,.step hy hv,?_⟩
  rw [h1,h2]
  have i1:=O1.inR hc hz
  exact (snd (OX.rep _ (O1.inU.2 i1)).1).symm.trans ((up (O1.rep z hz).1).symm.trans (O.rep z hz).1)
 refine ⟨fun x y=>Rch X x/\Rch U y/\Uni g ps x y,⟨.root,.root,?_⟩,fun x y h=>⟨h.1.ok cX,h.2.1.ok cU⟩,?_,?_,?_⟩
 ·rw [OX.root,O1.root,O.root]
  exact (snd (OX.rep _ (O1.inU.2 (O1.inR hc hroot))).1).symm.trans ((up (O1.rep _ hroot).1).symm.trans (O.rep _ hroot).1)
 ·rintro x y ⟨hx,hy,hxy⟩
  have hiy:=O.inU.1 (hy.ok cU)
  have hix:=OX.inU.1 (hx.ok cX)
  rcases O.cases hc hiy with ⟨_,hv⟩|⟨_,m,m1,m2⟩|⟨_,m,m1,m2⟩
  ·have hvx:∀d,Uni D rest x d->(zAB D d).kind=1:=fun d hd=>by
    rcases O1.cases hc (O1.inU.1 (hd.inG cD).2) with ⟨q,_⟩|⟨_,m,m1,m2⟩|⟨_,m,m1,m2⟩
    ·exact q
    ·have:=hv m (hxy.symm.trans ((snd hd).trans (up m1)));omega
    ·have:=hv m (hxy.symm.trans ((snd hd).trans (up m1)));omega
   rw [O.var y hiy hv,OX.var x hix hvx]
   exact ⟨rfl,rfl,rfl,rfl,rfl,fun i hi=>by cases hi⟩
  ·have hd:=key hx (hxy.trans m1)
   have hm:=gin m1
   have eD:=O1.con _ m (O1.rep m hm).1.symm m2
   have eX:=OX.con x _ hd (by rw [eD])
   have eU:=O.con y m m1 m2
   rw [eD] at eX
   refine ⟨by rw [eX,eU],by rw [eX,eU],by rw [eX,eU],by rw [eX,eU],by rw [eX,eU];simp,fun i hi=>?_⟩
   have hi':i<(zAB g m).args.length:=by rw [eX] at hi;simpa using hi
   have hiU:i<(zAB U y).args.length:=by rw [eU];simpa using hi'
   refine argS hx hy (zBN hi) (zBN hiU) (zAt (zAk hc hm) _ (zBN hi')) ?_ ?_
   ·rw [eX];simp only [List.getD,zgM,zgG hi'];rfl
   ·rw [eU];simp only [List.getD,zgM,zgG hi'];rfl
  ·have hd:=key hx (hxy.trans m1)
   have hm:=gin m1
   have PD:=O1.obj _ m (O1.rep m hm).1.symm m2
   have PX:=OX.obj x _ hd PD.kind
   have PU:=O.obj y m m1 m2
   have hlab:(zAB X x).labels=(zAB U y).labels:=zEO (zBE PX.rises) (zBE PU.rises) fun l=>by
    rw [PX.labels,PU.labels]
    constructor
    ·rintro ⟨d,d1,d2,d3⟩
     rcases O1.cases hc (O1.inU.1 (d1.inG cD).2) with ⟨q,_⟩|⟨q,_⟩|⟨_,n,n1,n2⟩
     ·omega
     ·omega
     ·obtain ⟨n',r1,r2,r3⟩:=((O1.obj d n n1 n2).labels l).1 d3
      exact ⟨n',hxy.symm.trans ((snd d1).trans (up r1)),r2,r3⟩
    ·rintro ⟨n,n1,n2,n3⟩
     have hn:=(O1.rep n (gin n1)).1.symm
     have P:=O1.obj _ n hn n2
     exact ⟨_,key hx (hxy.trans n1),P.kind,(P.labels l).2 ⟨n,hn,n2,n3⟩⟩
   refine ⟨by rw [PX.kind,PU.kind],by rw [PX.name,PU.name],?_,hlab,by rw [<-PX.len,<-PU.len,hlab],fun i hi=>?_⟩
   ·rw [Bool.eq_iff_iff,PX.isOpen,PU.isOpen]
    constructor
    ·intro hh n n1 n2
     have hn:=(O1.rep n (gin n1)).1.symm
     have P:=O1.obj _ n hn n2
     exact P.isOpen.1 (hh _ (key hx (hxy.trans n1)) P.kind) n hn n2
    ·intro hh d d1 d2
     rcases O1.cases hc (O1.inU.1 (d1.inG cD).2) with ⟨q,_⟩|⟨q,_⟩|⟨_,n,n1,n2⟩
     ·omega
     ·omega
     ·exact (O1.obj d n n1 n2).isOpen.2 fun n' r1 r2=>hh n' (hxy.symm.trans ((snd d1).trans (up r1))) r2
   ·have hil:i<(zAB U y).labels.length:=by rw [<-hlab,PX.len];exact hi
    have hiU:i<(zAB U y).args.length:=by rw [<-PU.len];exact hil
    obtain ⟨n,p,n1,n2,n3,n4,n5⟩:=O.oarg hc m1 m2 (zgG hil)
    have hn:=(O1.rep n (gin n1)).1.symm
    have P:=O1.obj _ n hn n2
    obtain ⟨p',hp',hpe⟩:=List.mem_iff_getElem.1 ((P.labels _).2 ⟨n,hn,n2,List.mem_of_getElem? n3⟩)
    have hpl:(zAB D (clAt R1 n)).labels[p']?=some (zAB U y).labels[i]:=by rw [zgG hp',hpe]
    have hX:=PX.args i _ (by rw [hlab];exact zgG hil) _ p' (key hx (hxy.trans n1)) P.kind hpl
    rw [P.args p' _ hpl n p hn n2 n3] at hX
    exact argS hx hy (zBN hi) (zBN hiU) n5 hX n4
 ·rintro x y y' ⟨_,hy,h1⟩ ⟨_,hy',h2⟩ _
  have:=O.eq hc (h1.symm.trans h2)
  rwa [O.rch' hc hy,O.rch' hc hy'] at this
 ·rintro x x' y ⟨hx,_,h1⟩ ⟨hx',_,h2⟩ _
  obtain ⟨r,_,e1,rfl,u1⟩:=rx hx
  obtain ⟨r',_,e2,rfl,u2⟩:=rx hx'
  have:=ful ((snd u1).trans (h1.trans (h2.symm.trans (snd u2).symm)))
  rw [e1,e2] at this
  exact OX.eq cD this
end
theorem zIS {g U:Graph} {ps:List Pr} {R:List Int} (hc:zAF g=0) (hps:∀p∈ps,InG g p.1/\InG g p.2) (O:UOut g ps U R):Stage g ps ps U R ps:=
 ⟨fun _ h=>h,fun p hp=>.pair hp (hps p hp).1 (hps p hp).2,fun p hp h1 h2=>by
  rw [O.eq hc (.pair hp h1 h2)];exact .refl (O.inU.2 (O.inR hc h2))⟩
theorem zNR {g D:Graph} {ps1 ps2:List Pr} {R1:List Int} (hc:zAF g=0) (hps:∀p∈ps1++ps2,InG g p.1/\InG g p.2) (O:UOut g ps1 D R1):Stage g ps1 (ps1++ps2) D R1 (ps2.map fun p=>(clAt R1 p.1,clAt R1 p.2)):=by
 have sub:∀p∈ps1,p∈ps1++ps2:=fun p hp=>List.mem_append_left _ hp
 refine ⟨sub,fun p hp=>?_,fun p hp h1 h2=>?_⟩
 ·obtain ⟨q,hq,rfl⟩:=List.mem_map.1 hp
  obtain ⟨q1,q2⟩:=hps q (List.mem_append_right _ hq)
  exact (((O.rep _ q1).1.mono sub).symm).trans ((Uni.pair (List.mem_append_right _ hq) q1 q2).trans ((O.rep _ q2).1.mono sub))
 ·rcases List.mem_append.1 hp with hp|hp
  ·rw [O.eq hc (.pair hp h1 h2)];exact .refl (O.inU.2 (O.inR hc h2))
  ·exact .pair (List.mem_map.2 ⟨p,hp,rfl⟩) (O.inU.2 (O.inR hc h1)) (O.inU.2 (O.inR hc h2))
theorem zJN {g:Graph} {ps qs:List Pr} (h1:∀p∈ps,p∈qs\/(p.2,p.1)∈qs) {a b:Int} (u:Uni g ps a b):Uni g qs a b:=by
 induction u with
 |refl h1=>exact .refl h1
 |symm _ ih=>exact .symm ih
 |trans _ _ h1 h2=>exact .trans h1 h2
 | @pair a b hp i1 i2=>
  rcases h1 _ hp with h|h
  ·exact .pair h i1 i2
  ·exact .symm (.pair h i2 i1)
 |con _ ka kb hn hi ih=>exact .con ih ka kb hn hi
 |obj _ ka kb hi hj ih=>exact .obj ih ka kb hi hj
end Go.Ab.S
end
section
namespace Go.Ab.S
open Go Go.Ab
set_option maxHeartbeats 1000000
section
variable {g U:Graph} {R:List Int} {x y:Int} (hc:zAF g=0) (hx:InG g x) (hy:InG g y) (hv:(zAB g x).kind=1)
include hc hx hy hv
end
end Go.Ab.S
end
section
namespace Go.Ab.S
open Go Go.Ab
set_option maxHeartbeats 1000000
def Bd (A:Nat) (S:List (List Nat)) (g:Graph):Prop:=∀n∈g.nodes,(n.kind=2->n.args.length<=A)/\∀l∈n.labels,l∈S
section
variable {A:Nat} {S:List (List Nat)} {g h U:Graph} {ps:List Pr} {R:List Int}
theorem Bd.row (hc:zAF g=0) (B:Bd A S g) {n:Node} (hn:n∈g.nodes):n.args.length<=max A S.length/\n.labels.length<=S.length:=by
 obtain ⟨b1,b2⟩:=B n hn
 rcases zAP ((zBH hc).2 n hn) with ⟨_,q2,_,_,q5⟩|⟨q1,q2,_⟩|⟨_,_,q3,q4⟩
 ·rw [q2,q5];simp
 ·rw [q2];have:=b1 q1;simp;omega
 ·have h1:=zCs n.labels S (zGq (zBE q4)) b2
  omega
theorem Bd.node (B:Bd A S g) {a:Int} (ha:InG g a):((zAB g a).kind=2->(zAB g a).args.length<=A)/\∀l∈(zAB g a).labels,l∈S:=B _ (zFE ha)
theorem Bd.left (hc:zAF g=0) (B:Bd A S g):zAe [] g.nodes 0<=g.nodes.length*max A S.length:=by
 rw [zCf]
 have:∀ns:List Node,(∀n∈ns,n.args.length<=max A S.length)->(ns.map fun n=>n.args.length).sum<=ns.length*max A S.length:=by
  intro ns
  induction ns with
  |nil=>intro _;simp
  |cons n r ih=>
   intro h
   have h1:=ih fun m hm=>h m (by simp [hm])
   have h2:=h n (by simp)
   simp only [List.map_cons,List.sum_cons,zlC,Nat.succ_mul];omega
 exact this g.nodes fun n hn=>(B.row hc hn).1
theorem Bd.gsm (hc:zAF g=0) (B:Bd A S g) (hS:S.length<=2 ^ 30) (hT:∀s∈S,s.length<2 ^ 60) (hz:g.nodes.length+g.nodes.length*max A S.length<=2 ^ 30):GSm g:=by
 have e30:(2:Nat) ^ 30=1073741824:=by decide
 have e60:(2:Nat) ^ 60=1152921504606846976:=by decide
 have hL:=B.left hc
 refine ⟨⟨by omega,fun n hn=>?_⟩,by omega,fun n hn=>?_⟩
 ·obtain ⟨h1,h2⟩:=B.row hc hn
  have h3:=zDR g.nodes 0 n hn
  exact ⟨by omega,by omega,fun s hs=>hT s ((B n hn).2 s hs)⟩
 ·have:=(B.row hc hn).2;omega
theorem Bd.gti (hc:zAF g=0) (B:Bd A S g) (hN:g.nodes.length<=4096) (hA:A<=4096) (hS:S.length<=4096) (hT:∀s∈S,s.length<2 ^ 60):GTi g:=by
 have e30:(2:Nat) ^ 30=1073741824:=by decide
 have h1:g.nodes.length*max A S.length<=4096*4096:=Nat.mul_le_mul hN (by omega)
 exact ⟨B.gsm hc (by omega) hT (by omega),hN,fun n hn=>by have:=(B.row hc hn).1;omega⟩
theorem Bd.mono {A':Nat} {S':List (List Nat)} (B:Bd A S g) (hA:A<=A') (hS:∀s∈S,s∈S'):Bd A' S' g:=fun n hn=>⟨fun k=>Nat.le_trans ((B n hn).1 k) hA,fun l hl=>hS l ((B n hn).2 l hl)⟩
theorem Bd.uni (hc:zAF g=0) (B:Bd A S g) (O:UOut g ps U R):Bd A S U:=by
 intro n hn
 obtain ⟨k,hk,rfl⟩:=List.mem_iff_getElem.1 hn
 have ha:InG g (k:Int):=⟨by omega,by rw [O.lenU] at hk;omega⟩
 have hnd:zAB U (k:Int)=U.nodes[k]:=by simp [zAB,hk]
 rw [<-hnd]
 rcases O.cases hc ha with ⟨q,hv⟩|⟨q,m,h1,h2⟩|⟨q,m,h1,h2⟩
 ·rw [O.var _ ha hv]
  exact ⟨fun h=>by simp at h,fun l hl=>by simp at hl⟩
 ·rw [O.con _ m h1 h2]
  exact ⟨fun _=>by rw [List.length_map];exact (B.node (h1.inG hc).2).1 h2,fun l hl=>by simp at hl⟩
 ·refine ⟨fun h=>by omega,fun l hl=>?_⟩
  obtain ⟨m',k1,k2,k3⟩:=((O.obj _ m h1 h2).labels l).1 hl
  exact (B.node (k1.inG hc).2).2 l k3
theorem Bd.both (B:Bd A S g) (B':Bd A S h):Bd A S (zBF g h):=by
 intro n hn
 rcases List.mem_append.1 hn with hn|hn
 ·exact B n hn
 ·obtain ⟨m,hm,rfl⟩:=List.mem_map.1 hn
  exact ⟨fun k=>by have:=(B' m hm).1 k;simpa [shN] using this,fun l hl=>(B' m hm).2 l hl⟩
theorem Bd.trim (hc:zAF g=0) (B:Bd A S g):Bd A S (zCI g):=by
 intro n hn
 obtain ⟨i,hi,rfl⟩:=List.mem_map.1 hn
 obtain ⟨k1,k2⟩:=(zCg g).1 i hi
 have hb:=B.node (a:=i) ⟨k1,k2⟩
 exact ⟨fun k=>by have:=hb.1 k;simpa [zEv] using this,fun l hl=>hb.2 l hl⟩
def zHp (g:Graph):List (List Nat):=g.nodes.flatMap (·.labels)
theorem Bd.self (g:Graph):Bd (zAe [] g.nodes 0) (zHp g) g:=fun n hn=>⟨fun _=>zDR _ _ n hn,fun l hl=>List.mem_flatMap.2 ⟨n,hn,hl⟩⟩
theorem zGO (hc:zAF g=0):(zHp g).length<=zAe [] g.nodes 0:=by
 rw [zCf,zHp,List.length_flatMap]
 have:∀ns:List Node,(∀n∈ns,mayF n g.nodes.length=true)->(ns.map fun n=>n.labels.length).sum<=(ns.map fun n=>n.args.length).sum:=by
  intro ns
  induction ns with
  |nil=>intro _;exact Nat.le_refl _
  |cons n r ih=>
   intro h
   have h2:=ih fun n hn=>h n (by simp [hn])
   have h3:n.labels.length<=n.args.length:=by
    rcases zAP (h n (by simp)) with ⟨_,q,_⟩|⟨_,q,_⟩|⟨_,_,q,_⟩
    ·rw [q];simp
    ·rw [q];simp
    ·omega
   simp only [List.map_cons,List.sum_cons];omega
 exact this g.nodes (zBH hc).2
theorem zHR (hg:GraphSm g):∀s∈zHp g,s.length<2 ^ 60:=fun s hs=>by
 obtain ⟨n,hn,hl⟩:=List.mem_flatMap.1 hs
 exact (hg.all n hn).texts s hl
theorem UOut.gsm (hc:zAF g=0) (hg:GTi g) (hz:(g.nodes.length+1)*(zAe [] g.nodes 0+1)<=2 ^ 30) (O:UOut g ps U R):GSm U:=by
 have h1:=zGO hc
 have h2:=(Bd.self g).uni hc O
 have hm:max (zAe [] g.nodes 0) (zHp g).length=zAe [] g.nodes 0:=by omega
 have e30:(2:Nat) ^ 30=1073741824:=by decide
 have ht:=hg.total
 refine h2.gsm (O.check hc) (by omega) (zHR hg.toGraphSm) ?_
 rw [hm,O.lenU]
 rw [Nat.succ_mul,Nat.mul_succ] at hz
 omega
end
theorem zQC (g:Graph):(zAO g).length<=g.nodes.length:=by
 have h:=zCs (zAO g) (zGN g.nodes.length) (zCg g).2 fun a ha=>by
  obtain ⟨h1,h2⟩:=(zCg g).1 a ha
  exact List.mem_map.2 ⟨a.toNat,List.mem_range.2 (by omega),by omega⟩
 simpa [zGN] using h
theorem zRv (g:Graph):(zCI g).nodes.length<=g.nodes.length:=by
 have:=zQC g
 simpa [zCI] using this
end Go.Ab.S
end
