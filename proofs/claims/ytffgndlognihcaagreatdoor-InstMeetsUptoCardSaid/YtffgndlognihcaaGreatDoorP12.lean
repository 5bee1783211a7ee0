import Derived.Test.YtffgndlognihcaaGreatDoorP11
/-
  Part 12 of the proof.
-/
set_option linter.all false
section
namespace Go.Ab.S
open Go.Ab
set_option maxHeartbeats 1000000
def zBy(k:List Nat):List (List Nat)->Nat
 |[]=>0
 |x::r=>if eqL k x then 0 else zBy k r+1
theorem zCS{k:List Nat}:∀{l:List (List Nat)},k∈l->l[zBy k l]?=some k/\∀j,j<zBy k l->l[j]?≠some k
 |[],h=>by cases h
 |x::r,h=>by
  rw[zBy]
  by_cases hk:k=x
  ·rw[if_pos (zBB.2 hk)]
   exact⟨by rw[hk];rfl,fun j hj=>by omega⟩
  ·rw[if_neg (by rw[zBB];exact hk)]
   have hr:k∈r:=by
    rcases List.mem_cons.1 h with h|h
    ·exact absurd h hk
    ·exact h
   obtain⟨h1,h2⟩:=zCS hr
   refine⟨by simpa using h1,fun j hj=>?_⟩
   cases j with
   |zero=>simp;exact fun e=>hk e.symm
   |succ j=>simpa using h2 j (by omega)
theorem zIc{k:List Nat}{l:List (List Nat)}{i:Nat}(h:l[i]?=some k):zBy k l<=i:=by
 rcases Nat.lt_or_ge i (zBy k l) with hlt|hge
 ·exact absurd h ((zCS (List.mem_of_getElem? h)).2 i hlt)
 ·exact hge
def zCT(ns:List Node)(cl:List Int):List (List Nat):=(List.range ns.length).map fun i=>keyS cl i (ns.getD i zAg)
def zAZ(ns:List Node)(cl:List Int):List Int:=(zCT ns cl).map fun k=>(zBy k (zCT ns cl):Int)
def zBu(ns:List Node):Nat->List Int->List Int
 |0,cl=>cl
 |m+1,cl=>if eqII (zAZ ns cl) cl then zAZ ns cl else zBu ns m (zAZ ns cl)
def zAC(g:Graph):List Int:=zBu g.nodes (g.nodes.length+1) (List.replicate g.nodes.length 0)
def mapN(cl:List Int)(n:Node):Node:={n with args:=n.args.map (clAt cl)}
def zAb(g:Graph):Graph:=if zAB g=0 then zBd ⟨g.nodes.map (mapN (zAC g)),clAt (zAC g) g.root⟩ else ⟨[],0⟩

theorem zKU(ns:List Node)(cl:List Int):(zCT ns cl).length=ns.length:=by simp[zCT]
theorem zDK{ns:List Node}{cl:List Int}{i:Nat}(h:i<ns.length):(zCT ns cl)[i]?=some (keyS cl i (ns.getD i zAg)):=by
 simp[zCT,h]
theorem zBY(ns:List Node)(cl:List Int):(zAZ ns cl).length=ns.length:=by simp[zAZ,zKU]
theorem zBt(cl:List Int)(i:Nat):clAt cl (i:Int)=cl.getD i 0:=rfl
theorem zGf{ns:List Node}{cl:List Int}{i:Nat}(h:i<ns.length):clAt (zAZ ns cl) (i:Int)=(zBy (keyS cl i (ns.getD i zAg)) (zCT ns cl):Int):=by
 rw[zBt,List.getD,zAZ,List.getElem?_map,zDK h];rfl
structure ClsOK(N:Nat)(cl:List Int):Prop where
 len:cl.length=N
 le:∀i:Nat,i<N->∃j:Nat,clAt cl i=j/\j<=i/\clAt cl j=j
theorem ClsOK.inR{N:Nat}{cl:List Int}(k:ClsOK N cl)(hN:N<2 ^ 60)(a:Int):InR (clAt cl a):=by
 by_cases h:a.toNat<N
 ·obtain⟨j,h1,h2,_⟩:=k.le a.toNat h
  have:clAt cl a=j:=h1
  rw[this];exact⟨by omega,by omega⟩
 ·have:clAt cl a=0:=by unfold clAt;rw[List.getD,List.getElem?_eq_none (by rw[k.len];omega)];rfl
  rw[this];exact⟨by decide,by decide⟩
theorem ClsOK.zero(N:Nat):ClsOK N (List.replicate N 0):=by
 refine⟨by simp,fun i hi=>⟨0,?_,by omega,?_⟩⟩
 ·rw[zBt,List.getD,List.getElem?_replicate,if_pos hi];rfl
 ·rw[zBt,List.getD,List.getElem?_replicate];split<;>rfl
theorem zHv{ns:List Node}{cl:List Int}{i j:Nat}(hi:i<ns.length)(hj:j<ns.length):clAt (zAZ ns cl) i=clAt (zAZ ns cl) j↔keyS cl i (ns.getD i zAg)=keyS cl j (ns.getD j zAg):=by
 rw[zGf hi,zGf hj]
 have mi:=List.mem_of_getElem? (zDK (cl:=cl) hi)
 have mj:=List.mem_of_getElem? (zDK (cl:=cl) hj)
 constructor
 ·intro h
  have h:zBy (keyS cl i (ns.getD i zAg)) (zCT ns cl)=zBy (keyS cl j (ns.getD j zAg)) (zCT ns cl):=by omega
  have h1:=(zCS mi).1
  rw[h,(zCS mj).1] at h1
  exact(Option.some.inj h1).symm
 ·intro h;rw[h]
theorem zHw{ns:List Node}{cl:List Int}{i:Nat}(hi:i<ns.length):∃j:Nat,clAt (zAZ ns cl) i=j/\j<=i/\keyS cl j (ns.getD j zAg)=keyS cl i (ns.getD i zAg):=by
 have mi:=List.mem_of_getElem? (zDK (cl:=cl) hi)
 have hle:=zIc (zDK (cl:=cl) hi)
 refine⟨_,zGf hi,hle,?_⟩
 have h1:=(zCS mi).1
 rw[zDK (by omega)] at h1
 exact Option.some.inj h1
theorem ClsOK.refine(ns:List Node)(cl:List Int):ClsOK ns.length (zAZ ns cl):=by
 refine⟨zBY _ _,fun i hi=>?_⟩
 obtain⟨j,h1,h2,h3⟩:=zHw (cl:=cl) hi
 exact⟨j,h1,h2,by rw[(zHv (i:=j) (by omega) hi).2 h3];exact h1⟩

theorem zHZ{α:Type}{p q:α->Bool}:∀{l:List α},(∀x∈l,p x=true->q x=true)->(∃x∈l,p x=false/\q x=true)->l.countP p<l.countP q
 |[],_,h=>by obtain⟨x,hx,_⟩:=h;cases hx
 |y::l,h,hx=>by
  have hle:l.countP p<=l.countP q:=List.countP_mono_left fun x hx=>h x (by simp[hx])
  obtain⟨x,hx,h1,h2⟩:=hx
  rcases List.mem_cons.1 hx with rfl|hx
  ·simp only[List.countP_cons,h1,h2];simp;omega
  ·have ih:=zHZ (l:=l) (fun x hx=>h x (by simp[hx])) ⟨x,hx,h1,h2⟩
   simp only[List.countP_cons]
   have:=h y (by simp)
   cases hp:p y<;>cases hq:q y<;>simp<;>first|omega|(rw[this hp] at hq;cases hq)
def fixc(N:Nat)(cl:List Int):Nat:=(List.range N).countP fun i:Nat=>clAt cl (i:Int)==(i:Int)
theorem zNz(N:Nat)(cl:List Int):fixc N cl<=N:=by
 have:=List.countP_le_length (p:=fun i:Nat=>clAt cl i==(i:Int)) (l:=List.range N)
 rwa [List.length_range] at this
def NsOK(ns:List Node):Prop:=ns.length<2 ^ 60/\∀n∈ns,mayF n ns.length=true
theorem NsOK.at{ns:List Node}(h:NsOK ns){i:Nat}(hi:i<ns.length):mayF (ns.getD i zAg) ns.length=true:=by
 rw[List.getD,List.getElem?_eq_getElem hi];exact h.2 _ (List.getElem_mem hi)
theorem zOM{ns:List Node}(hns:NsOK ns){cl:List Int}(k:ClsOK ns.length cl){i j:Nat}(hi:i<ns.length)(hj:j<ns.length)(h:keyS cl i (ns.getD i zAg)=keyS cl j (ns.getD j zAg)):
  clAt cl i=clAt cl j/\((zAL (ns.getD i zAg)=true\/zAL (ns.getD j zAg)=true)->i=j)/\(ns.getD i zAg).kind=(ns.getD j zAg).kind/\(ns.getD i zAg).name=(ns.getD j zAg).name/\(ns.getD i zAg).labels=(ns.getD j zAg).labels/\(ns.getD i zAg).args.map (clAt cl)=(ns.getD j zAg).args.map (clAt cl)/\zAL (ns.getD i zAg)=zAL (ns.getD j zAg):=
 key_inj (k.inR hns.1) ⟨by omega,by have:=hns.1;omega⟩ ⟨by omega,by have:=hns.1;omega⟩ (hns.at hi) (hns.at hj) h
theorem zHx{ns:List Node}(hns:NsOK ns){cl:List Int}(k:ClsOK ns.length cl)(hne:eqII (zAZ ns cl) cl=false):fixc ns.length cl<fixc ns.length (zAZ ns cl):=by
 refine zHZ (fun i hi hp=>?_) ?_
 ·have hi:=List.mem_range.1 hi
  have hp:clAt cl i=(i:Int):=by simpa using hp
  obtain⟨j,h1,h2,h3⟩:=zHw (cl:=cl) hi
  have h4:=(zOM hns k (by omega) hi h3).1
  obtain⟨j',h5,h6,_⟩:=k.le j (by omega)
  have:j=i:=by omega
  subst this
  simpa using h1
 ·apply Classical.byContradiction
  intro hno
  have hall:∀i:Nat,i<ns.length->clAt (zAZ ns cl) i=clAt cl i:=by
   intro i hi
   obtain⟨j,h1,h2,h3⟩:=zHw (cl:=cl) hi
   have hj:j<ns.length:=by omega
   have h4:=(zOM hns k hj hi h3).1
   obtain⟨j',q1,q2,q3⟩:=(ClsOK.refine ns cl).le i hi
   have:j'=j:=by omega
   subst this
   have hfix:clAt cl j'=(j':Int):=by
    apply Classical.byContradiction
    intro hc
    exact hno ⟨j',List.mem_range.2 hj,by simpa using hc,by simpa using q3⟩
   omega
  have:zAZ ns cl=cl:=by
   apply List.ext_getElem?
   intro i
   by_cases hi:i<ns.length
   ·have h:=hall i hi
    rw[zBt,zBt,List.getD,List.getD,List.getElem?_eq_getElem (by rw[zBY];exact hi),List.getElem?_eq_getElem (by rw[k.len];exact hi)] at h
    rw[List.getElem?_eq_getElem (by rw[zBY];exact hi),List.getElem?_eq_getElem (by rw[k.len];exact hi)]
    simpa using h
   ·rw[List.getElem?_eq_none (by rw[zBY];omega),List.getElem?_eq_none (by rw[k.len];omega)]
  rw[zJK.2 this] at hne;cases hne
theorem zHW{ns:List Node}(hns:NsOK ns):∀(m:Nat) (cl:List Int),ClsOK ns.length cl->ns.length - fixc ns.length cl<m->zAZ ns (zBu ns m cl)=zBu ns m cl/\ClsOK ns.length (zBu ns m cl)
 |0,_,_,h=>by omega
 |m+1,cl,k,h=>by
  rw[zBu]
  cases he:eqII (zAZ ns cl) cl with
  |true=>
   have:=zJK.1 he
   simp only[if_true]
   exact⟨by rw[this];exact this,ClsOK.refine ns cl⟩
  |false=>
   simp only[Bool.false_eq_true,if_false]
   have h1:=zHx hns k he
   have h2:=zNz ns.length (zAZ ns cl)
   exact zHW hns m _ (ClsOK.refine ns cl) (by omega)
def Bis(ns:List Node)(E:Nat->Nat->Prop):Prop:=∀i j,E i j->i<ns.length/\j<ns.length/\(i=j\/(zAL (ns.getD i zAg)=false/\zAL (ns.getD j zAg)=false/\(ns.getD i zAg).kind=(ns.getD j zAg).kind/\(ns.getD i zAg).name=(ns.getD j zAg).name/\(ns.getD i zAg).labels=(ns.getD j zAg).labels/\(ns.getD i zAg).args.length=(ns.getD j zAg).args.length∧
 ∀(k:Nat) (a b:Int),(ns.getD i zAg).args[k]?=some a->(ns.getD j zAg).args[k]?=some b->E a.toNat b.toNat))
theorem bis_key{ns:List Node}{E:Nat->Nat->Prop}(hE:Bis ns E){cl:List Int}(hc:∀i j,E i j->clAt cl i=clAt cl j){i j:Nat}(h:E i j):keyS cl i (ns.getD i zAg)=keyS cl j (ns.getD j zAg):=by
 obtain⟨hi,hj,rfl|⟨h1,h2,h3,h4,h5,h6,h7⟩⟩:=hE i j h
 ·rfl
 ·have ha:(ns.getD i zAg).args.map (clAt cl)=(ns.getD j zAg).args.map (clAt cl):=by
   apply List.ext_getElem?
   intro k
   rw[List.getElem?_map,List.getElem?_map]
   by_cases hk:k<(ns.getD i zAg).args.length
   ·have hk':k<(ns.getD j zAg).args.length:=by omega
    rw[List.getElem?_eq_getElem hk,List.getElem?_eq_getElem hk']
    exact congrArg some (hc _ _ (h7 k _ _ (List.getElem?_eq_getElem hk) (List.getElem?_eq_getElem hk')))
   ·rw[List.getElem?_eq_none (by omega),List.getElem?_eq_none (by omega)]
  have hargs:argS (clAt cl) (ns.getD i zAg).args=argS (clAt cl) (ns.getD j zAg).args:=by
   have:∀l:List Int,argS (clAt cl) l=((l.map (clAt cl)).map fun x=>44::zAy x).flatten:=fun l=>by simp[argS,List.map_map];rfl
   rw[this,this,ha]
  unfold keyS
  rw[hc i j h,h1,h2]
  simp only[zED,zDx,h3,h4,h5,hargs,Bool.false_eq_true,if_false]
theorem zGq{ns:List Node}{E:Nat->Nat->Prop}(hE:Bis ns E):∀(m:Nat) (cl:List Int),(∀i j,E i j->clAt cl i=clAt cl j)->∀i j,E i j->clAt (zBu ns m cl) i=clAt (zBu ns m cl) j
 |0,_,h=>h
 |m+1,cl,h=>by
  have hr:∀i j,E i j->clAt (zAZ ns cl) i=clAt (zAZ ns cl) j:=fun i j hij=>(zHv (hE i j hij).1 (hE i j hij).2.1).2 (bis_key hE h hij)
  rw[zBu]
  split
  ·exact hr
  ·exact zGq hE m _ hr
theorem zAu{g:Graph}(h:zAB g=0):NsOK g.nodes:=by
 obtain⟨_,_,h1,h2⟩:=zAQ h
 exact⟨Nat.lt_of_le_of_lt h1 (by decide),h2⟩
theorem zGV{g:Graph}(h:zAB g=0):zAZ g.nodes (zAC g)=zAC g/\ClsOK g.nodes.length (zAC g):=
 zHW (zAu h) _ _ (ClsOK.zero _) (by omega)
theorem zES{g:Graph}(h:zAB g=0){i j:Nat}(hi:i<g.nodes.length)(hj:j<g.nodes.length)(he:clAt (zAC g) i=clAt (zAC g) j):
  ((zAL (g.nodes.getD i zAg)=true\/zAL (g.nodes.getD j zAg)=true)->i=j)/\(g.nodes.getD i zAg).kind=(g.nodes.getD j zAg).kind/\(g.nodes.getD i zAg).name=(g.nodes.getD j zAg).name/\(g.nodes.getD i zAg).labels=(g.nodes.getD j zAg).labels/\(g.nodes.getD i zAg).args.map (clAt (zAC g))=(g.nodes.getD j zAg).args.map (clAt (zAC g))/\zAL (g.nodes.getD i zAg)=zAL (g.nodes.getD j zAg):=by
 obtain⟨h1,h2⟩:=zGV h
 rw[<-h1] at he
 exact(zOM (zAu h) h2 hi hj ((zHv hi hj).1 he)).2
theorem zGr{g:Graph}{E:Nat->Nat->Prop}(hE:Bis g.nodes E){i j:Nat}(h:E i j):clAt (zAC g) i=clAt (zAC g) j:=
 zGq hE _ _ (fun i j hij=>by
  obtain⟨i',h1,h2,h3⟩:=(ClsOK.zero g.nodes.length).le i (hE i j hij).1
  have z:∀k:Nat,clAt (List.replicate g.nodes.length 0) k=0:=fun k=>by
   rw[zBt,List.getD,List.getElem?_replicate];split<;>rfl
  rw[z,z]) _ _ h
end Go.Ab.S
end
section
namespace Go.Ab.S
open Go.Ab
set_option maxHeartbeats 8000000
theorem le31{n:Nat}(h:n<=100000):n<=2 ^ 31:=Nat.le_trans h (by decide)
theorem le30{n:Nat}(h:n<=100000):n<=2 ^ 30:=Nat.le_trans h (by decide)
structure Hid(p:Prop):Prop where
 out:p
def tagO:AObj->Nat
 | .cells _ e _=>e+5
 | .map _ _=>0
 | .loop _ _ _ _ _ _ _=>1
 | .dfr _=>2
 | .iter _ _ _ _=>3
 | .iter0=>4
theorem _root_.Go.Ab.But.kp{b:Nat}{h h':AHeap}{p q:Nat×AObj}(P:But b h h')(hb:h.objs.get b=some p){c:Nat}(hc:h.objs.get c=some q)(hne:(tagO p.2==tagO q.2)=false):h'.objs.get c=some q:=
 P.keep c (by rintro rfl;rw[hb] at hc;simp only[oI] at hc;rw[hc] at hne;simp at hne) _ hc
section
variable{fns:FnsT}{summ:SumT}{ro:Option Nat}
theorem zAk{i p:Nat}{d:Option Tmp}{op:EOp}{l:List DStep}{hs:List Held}{a:AAct}{h:AHeap}{K:AAct->AHeap->Prop}(k:St fns summ ro [⟨d,none,.e op⟩] a h fun a h=>zAM h p hs=true/\Dr fns summ ro l (zEj p hs) a h K):Dr fns summ ro (⟨i,p,⟨d,none,.e op⟩⟩::l) hs a h K:=by
 refine dr_e ?_
 unfold St StepsW Ev at k
 unfold Ex EW Ev
 obtain⟨n,hn⟩:=k
 refine⟨n,fun m hm=>?_⟩
 have:=hn m hm
 simp only[zGQ,zFQ,zDS] at this
 rw[D.sat_bind] at this
 exact D.sat_mono this fun p hp=>hp
theorem zGm{d:Option Tmp}{x y:AOpd}{l:List Step}{a:AAct}{h:AHeap}{K:AAct->AHeap->Prop}{u v:Int}(hx:ev a x=some (.int .i64 u))(hy:ev a y=some (.int .i64 v))(k:St fns summ ro l (putA a d (.agg [.int .i64 u,.int .i64 v])) h K):
  St fns summ ro (⟨d,none,.q (.build [.int .i64 0,.int .i64 0] [(0,1,x),(1,1,y)])⟩::l) a h K:=by
 refine st_q (v:=.agg [.int .i64 u,.int .i64 v]) (b:=none) ?_ k
 simp[qA,zCX,hx,hy,zAX]
theorem zGY{i p:Nat}{d:Option Tmp}{x y:AOpd}{l:List DStep}{hs:List Held}{a:AAct}{h:AHeap}{K:AAct->AHeap->Prop}{u v:Int}(hx:ev a x=some (.int .i64 u))(hy:ev a y=some (.int .i64 v))(k:Dr fns summ ro l hs (putA a d (.agg [.int .i64 u,.int .i64 v])) h K):
  Dr fns summ ro (⟨i,p,⟨d,none,.q (.build [.int .i64 0,.int .i64 0] [(0,1,x),(1,1,y)])⟩⟩::l) hs a h K:=by
 refine dr_q (v:=.agg [.int .i64 u,.int .i64 v]) ?_ k
 simp[qA,zCX,hx,hy,zAX]
theorem zLU{d:Option Tmp}{e:TypeId}{bytes n:Nat}{z:AVal}{x y:AOpd}{l:List Step}{a:AAct}{h:AHeap}{K:AAct->AHeap->Prop}(hx:ev a x=some (.int .i64 0))(hy:ev a y=some (.int .i64 (Int.ofNat n)))(hn:n<=2 ^ 30)(hr:zCU bytes n=true)(w:WF h)
  (k:∀r h',Built h' h.next e 1 r 0 []->(∀c j,r=.slice (some (c,0)) j->h.next<=c)->Grow h h'->St fns summ ro l (putA a d r) h' K):St fns summ ro (⟨d,none,.e (.mkslice e 1 bytes [z] x y)⟩::l) a h K:=by
 refine st_t (by intro _ _ hh;cases hh) (by intro _ _ hh;cases hh) (v:=.slice (some (h.next,0)) 0) (h':=newA h (.cells false e (List.replicate n z))) ?_ (k _ _ (.inr (.inr ⟨h.next,_,_,Nat.le_refl _,rfl,zAO _ _,by omega,by simp⟩)) (fun c j hc=>by simp only[AVal.slice.injEq,oI,Prod.mk.injEq] at hc;omega) ((Grow.refl w).new _))
 have h1:zCA (.int .i64 (Int.ofNat n))=some n:=by simp[zCA]
 have h0:zCA (.int .i64 0)=some 0:=rfl
 have h30:(2:Nat) ^ 30<=2 ^ 40:=by decide
 have hc:0<=n/\n<=2 ^ 40/\zCU bytes n=true:=⟨Nat.zero_le _,Nat.le_trans hn h30,hr⟩
 simp only[zBO,hx,hy,h1,h0,if_pos hc,zJg]
end
theorem zFF{kk:KeyK}{x y v:AVal}{c:Nat}:∀(es:List (AVal×AVal×Nat)) (i:Nat),zBa kk x es i=some none->∀b,keyA kk x y=some b->zBa kk x (es++[(y,v,c)]) i=some (if b then some (i+es.length,v) else none)
 |[],i,_,b,hk=>by
  simp only[zlA,zBa,hk,zlN,Nat.add_zero]
  cases b<;>rfl
 |(y',v',c')::es,i,h,b,hk=>by
  rw[zBa] at h
  rw[zlK,zBa]
  cases hy:keyA kk x y' with
  |none=>rw[hy] at h;cases h
  |some t=>
   cases t with
   |true=>rw[hy] at h;cases h
   |false=>
    rw[hy] at h
    simp only
    rw[zFF es (i+1) h b hk,zlC]
    congr 2
    rw[show i+1+es.length=i+(es.length+1) by omega]
theorem zFE{kk:KeyK}{x:AVal}{p:Nat×AVal}{e:AVal×AVal×Nat}:∀(es:List (AVal×AVal×Nat)) (i:Nat),zBa kk x es i=some (some p)->zBa kk x (es++[e]) i=some (some p)
 |[],i,h=>by cases h
 |(y',v',c')::es,i,h=>by
  rw[zBa] at h
  rw[zlK,zBa]
  cases hy:keyA kk x y' with
  |none=>rw[hy] at h;cases h
  |some t=>
   cases t with
   |true=>rw[hy] at h;exact h
   |false=>rw[hy] at h;exact zFE es (i+1) h
def FI(es:List (AVal×AVal×Nat))(keys:List (List Nat))(j:Nat):Prop:=∀k,∃i,zBa .str (.str k) es 0=some (if k∈keys.take j then some (i,.int .i64 (zBy k keys:Nat)) else none)
theorem FI.zero(keys:List (List Nat)):FI [] keys 0:=fun k=>⟨0,by simp[zBa]⟩
theorem FI.stay{es:List (AVal×AVal×Nat)}{keys:List (List Nat)}{j:Nat}(hj:j<keys.length)(h:FI es keys j)(hm:keys[j]∈keys.take j):FI es keys (j+1):=fun k=>by
 obtain⟨i,hi⟩:=h k
 refine⟨i,?_⟩
 rw[hi]
 have:k∈keys.take (j+1)↔k∈keys.take j:=by
  rw[List.take_succ_eq_append_getElem hj,List.mem_append,List.mem_singleton]
  exact⟨fun h=>h.elim id (fun h=>h ▸ hm),.inl⟩
 simp only[this]
theorem zNx{keys:List (List Nat)}{j:Nat}(hj:j<keys.length)(hm:keys[j]∉keys.take j):zBy keys[j] keys=j:=by
 have h1:=zIc (List.getElem?_eq_getElem hj)
 have h2:=(zCS (List.getElem_mem hj)).1
 rcases Nat.lt_or_ge (zBy keys[j] keys) j with hlt|hge
 ·rw[List.getElem?_eq_getElem (by omega)] at h2
  exact absurd (List.mem_take_iff_getElem.2 ⟨zBy keys[j] keys,by omega,Option.some.inj h2⟩) hm
 ·omega
theorem FI.put{es:List (AVal×AVal×Nat)}{keys:List (List Nat)}{j c:Nat}(hj:j<keys.length)(h:FI es keys j)(hm:keys[j]∉keys.take j):FI (es++[(.str keys[j],.int .i64 (j:Nat),c)]) keys (j+1):=fun k=>by
 obtain⟨i,hi⟩:=h k
 by_cases hk:k∈keys.take j
 ·rw[if_pos hk] at hi
  refine⟨i,?_⟩
  rw[zFE es 0 hi,if_pos (by rw[List.take_succ_eq_append_getElem hj];exact List.mem_append.2 (.inl hk))]
 ·rw[if_neg hk] at hi
  refine⟨0+es.length,?_⟩
  rw[zFF es 0 hi (eqL k keys[j]) rfl]
  by_cases he:k=keys[j]
  ·subst he
   have hin:keys[j]∈keys.take (j+1):=by rw[List.take_succ_eq_append_getElem hj];exact List.mem_append.2 (.inr (List.mem_singleton.2 rfl))
   rw[if_pos (zBB.2 rfl),if_pos hin,zNx hj hm]
  ·rw[if_neg (by rw[zBB];exact he),if_neg (by
    rw[List.take_succ_eq_append_getElem hj,List.mem_append,List.mem_singleton]
    exact fun h=>h.elim hk he)]
theorem FI.look{h:AHeap}{r ver c:Nat}{es:List (AVal×AVal×Nat)}{keys:List (List Nat)}{j:Nat}(hg:h.objs.get r=some (ver,.map es c))(f:FI es keys j)(k:List Nat):zCl h .str (.int .i64 0) true (.map (some r)) (.str k)=some (.tuple [.int .i64 (if k∈keys.take j then (zBy k keys:Nat) else 0),.bool (decide (k∈keys.take j))],some r):=by
 obtain⟨i,hi⟩:=f k
 simp only[zCl,zEA,hg,hi]
 by_cases hk:k∈keys.take j
 ·simp[hk]
 ·simp[hk]
theorem FI.look1{h:AHeap}{r ver c:Nat}{es:List (AVal×AVal×Nat)}{keys:List (List Nat)}{j:Nat}(hg:h.objs.get r=some (ver,.map es c))(f:FI es keys j){k:List Nat}(hk:k∈keys.take j):zCl h .str (.int .i64 0) false (.map (some r)) (.str k)=some (.int .i64 (zBy k keys:Nat),some r):=by
 obtain⟨i,hi⟩:=f k
 simp only[zCl,zEA,hg,hi]
 simp[hk]
structure FInv(h0:AHeap)(b2 b3 r5 b6:Nat)(nv cv:AVal)(root:Int)(keys:List (List Nat))(out:List Int)(j:Nat)(hp:AHeap):Prop where
 grow:Grow h0 hp
 o2:∃ver,hp.objs.get b2=some (ver,.cells false 24 [nv,.int .i64 root])
 o3:∃ver,hp.objs.get b3=some (ver,.cells false 31 [cv])
 o5:∃ver es c,hp.objs.get r5=some (ver,.map es c)/\FI es keys j
 o6:∃ver vs,hp.objs.get b6=some (ver,.cells false 3 vs)/\vs.length=out.length/\vs.take j=(out.take j).map (AVal.int .i64)
 low:h0.next<=r5/\h0.next<=b6
theorem FInv.other{h0:AHeap}{b2 b3 r5 b6:Nat}{nv cv:AVal}{root:Int}{keys:List (List Nat)}{out:List Int}{j:Nat}{hp hq:AHeap}(I:FInv h0 b2 b3 r5 b6 nv cv root keys out j hp)(g:Grow hp hq):FInv h0 b2 b3 r5 b6 nv cv root keys out j hq:=by
 obtain⟨v2,k2⟩:=I.o2
 obtain⟨v3,k3⟩:=I.o3
 obtain⟨v5,es,c,k5,kf⟩:=I.o5
 obtain⟨v6,vs,k6,kl,kt⟩:=I.o6
 exact⟨I.grow.trans g,⟨v2,g.keep _ _ k2⟩,⟨v3,g.keep _ _ k3⟩,⟨v5,es,c,g.keep _ _ k5,kf⟩,⟨v6,vs,g.keep _ _ k6,kl,kt⟩,I.low⟩
structure GTi(g:Graph):Prop extends GSm g where
 tinyN:g.nodes.length<=4096
 tinyA:∀n∈g.nodes,n.args.length<=4096
theorem zGa{α:Type}(f:α->List Nat)(c:Nat):∀(l:List α),(∀x∈l,(f x).length<=c)->((l.map f).flatten).length<=l.length*c
 |[],_=>by simp
 |x::l,h=>by
  have h1:=zGa f c l fun y hy=>h y (by simp[hy])
  have h2:=h x (by simp)
  simp only[List.map_cons,List.flatten_cons,List.length_append,zlC,Nat.add_mul]
  omega
theorem zNB{g:Graph}(hg:GTi g)(hok:NsOK g.nodes){cl:List Int}(hc:∀a,InR (clAt cl a)){n:Node}(hn:n∈g.nodes):(zED n (clAt cl)).length<=900000/\(∀c∈zED n (clAt cl),c<256)/\(zAy n.kind).length<=20/\n.name.length<=10/\(n.kind=1\/n.kind=2\/n.kind=3):=by
 have hm:=hok.2 n hn
 have hl1:=zCZ g.nodes 0 n hn
 have ht:=hg.tinyA n hn
 have hkind:n.kind=1\/n.kind=2\/n.kind=3:=by rcases zAI hm with h|h|h<;>simp[h.1]
 have hk20:(zAy n.kind).length<=20:=zGA (by omega) (by omega)
 have hargs:(argS (clAt cl) n.args).length<=n.args.length*21:=zGa _ 21 _ fun a _=>by
  have:=zGA (n:=clAt cl a) (by have:=(hc a).1;omega) (by have:=(hc a).2;omega)
  simp only[zlC];omega
 have hargc:∀c∈argS (clAt cl) n.args,c<256:=by
  intro c hcc
  simp only[argS,List.mem_flatten,List.mem_map] at hcc
  obtain⟨_,⟨a,_,rfl⟩,hcc⟩:=hcc
  rcases List.mem_cons.1 hcc with rfl|hcc
  ·decide
  ·exact zMJ _ c hcc
 have hkc:∀c∈zAy n.kind,c<256:=zMJ _
 have hrest:(labS n.labels).length<=n.args.length*101/\(∀c∈labS n.labels,c<256)/\n.name.length<=10/\(∀c∈n.name,c<256):=by
  rcases zAI hm with⟨_,k1,_,k3,_⟩|⟨_,k1,_,k3,_⟩|⟨_,k1,k2,k3⟩
  ·rw[k1,k3];simp[labS]
  ·rw[k1]
   refine⟨by simp[labS],by simp[labS],?_⟩
   simp only[arIs,Bool.or_eq_true,zBB] at k3
   rcases k3 with ((((h|h)|h)|h)|h)|h<;>rw[h]<;>decide
  ·have hnm:=zEu (p:=none) k3
   rw[k1,<-k2]
   refine⟨zGa _ 101 _ fun s hs=>?_,fun c hcc=>?_,by simp,by simp⟩
   ·have:=hnm s hs
    simp only[zCk,Bool.and_eq_true,decide_eq_true_eq] at this
    simp only[zlC];omega
   ·simp only[labS,List.mem_flatten,List.mem_map] at hcc
    obtain⟨_,⟨s,hs,rfl⟩,hcc⟩:=hcc
    rcases List.mem_cons.1 hcc with rfl|hcc
    ·decide
    ·have:=zGI (hnm s hs) c hcc;omega
 obtain⟨q1,q2,q3,q4⟩:=hrest
 refine⟨?_,?_,hk20,q3,hkind⟩
 ·simp only[zED,zDx,List.length_append];omega
 ·intro c hcc
  simp only[zED,zDx,List.mem_append] at hcc
  rcases hcc with ((h|h)|h)|h
  ·exact hkc c h
  ·exact q4 c h
  ·exact q2 c h
  ·exact hargc c h
section
variable{fns:FnsT}{summ:SumT}
variable(H:Has fns summ)
include H
theorem zOd(g:Graph)(cl:List Int)(hg:GTi g)(hok:NsOK g.nodes)(hcl:cl.length=g.nodes.length)(hc:∀a,InR (clAt cl a))(v cv:AVal)(h:AHeap)(hw:WF h)(hv:GraphAt h v g)(hcv:IntsAt h cv cl):
  Cl fns summ 64 [v,cv] h fun r h'=>Built h' h.next 3 1 r g.nodes.length ((zAZ g.nodes cl).map (AVal.int .i64))/\Grow h h':=by
 obtain⟨nv,rfl,hN⟩:=hv
 have hlen:=hN.len
 have hcl1:=hcv.len
 have htiny:=hg.tinyN
 refine H.go (fn:=F_refine) rfl (by decide) rfl rfl ?_
 unfold F_refine
 dsimp only[qQ,qE,qN,tm,mt,lo,fa,jn,jv,jl,js,ji,je,jc,jd,jx,jo,jt,jN,jR,jS,jC,jL]
 refine zAv (zBC ?_)
 refine zAm e1 cc hw ?_
 rintro b2 h2 hb2 g2 o2
 refine zAm e1 (zAP hcl1) g2.wf ?_
 rintro b3 h3 hb3 g3 o3
 replace o2:=g3.keep _ _ o2
 have g03:=g2.trans g3
 repeat refine zR ?_
 refine zDD (.inl rfl) g3.wf ?_
 rintro r5 h4 hr5 g4 o5
 replace o2:=g4.keep _ _ o2
 replace o3:=g4.keep _ _ o3
 have g04:=g03.trans g4
 have hroom:=zCO H (b:=8) (by decide) (k:=g.nodes.length) (le31 (by omega))
 repeat refine zR ?_
 refine zGl e1 e1 (le30 (by omega)) hroom g4.wf ?_
 rintro b6 h5 hb6 g5 o6
 have g05:=g04.trans g5
 have n2:=g2.next
 have n3:=g03.next
 have n4:=g04.next
 have I0:FInv h b2 b3 r5 b6 nv cv g.root (zCT g.nodes cl) (zAZ g.nodes cl) 0 h5:=
  ⟨g05,⟨_,g5.keep _ _ o2⟩,⟨_,g5.keep _ _ o3⟩,⟨_,_,_,g5.keep _ _ o5,FI.zero _⟩,⟨_,_,o6,by rw[List.length_replicate,zBY],rfl⟩,by omega,by omega⟩
 replace o2:=g5.keep _ _ o2
 clear o3 o5 o6 hroom g2 g3 g4 g5 g03 g04 g05 hb2 hb3 hr5 hb6 n2 n3 n4
 repeat refine zR ?_
 refine zBR (N:=g.nodes.length) (fun j a hp=>FInv h b2 b3 r5 b6 nv cv g.root (zCT g.nodes cl) (zAZ g.nodes cl) j hp/\a.defers=[]/\ev a (.tmp 2)=some (.ptr (some (b2,0)))/\ev a (.tmp 3)=some (.ptr (some (b3,0)))/\ev a (.tmp 5)=some (.map (some r5))/\ev a (.tmp 6)=some (.slice (some (b6,0)) g.nodes.length)/\ev a (.tmp 18)=some nv) ?_ ?_ ⟨I0,n1,e1,e1,e1,e1,e1⟩
 ·clear I0 o2
  rintro j a hp hj ⟨I,hd,h2',h3',h5',h6',h18⟩ hi hn
  have hkl:j<(zCT g.nodes cl).length:=by rw[zKU];exact hj
  have hnj:g.nodes.getD j zAg=g.nodes[j]:=by rw[List.getD,List.getElem?_eq_getElem hj];rfl
  have hkj:(zCT g.nodes cl)[j]=keyS cl j g.nodes[j]:=by
   have:=zDK (cl:=cl) hj
   rw[List.getElem?_eq_getElem hkl,hnj] at this
   exact Option.some.inj this
  have hmem:g.nodes[j]∈g.nodes:=List.getElem_mem hj
  obtain⟨hs1,hs2,hs3,hs4,hs5⟩:=zNB hg hok hc hmem
  obtain⟨bn,on,vern,ron,en,vsn,av,lv,hixn,hgn,hvl,hv5,_,_,_,_,_,ha,hl⟩:=(hN.mono I.grow).at (List.getElem?_eq_getElem hj)
  have hpart5:zAl (some 5) vsn on=some (zCF g.nodes[j] av lv):=by rw[zAl,if_pos hvl,hv5];rfl
  have hcj:cl[j]?=some (clAt cl j):=by
   rw[zBt,List.getD,List.getElem?_eq_getElem (by omega)];rfl
  have hcin:=hc j
  have hci20:(zAy (clAt cl j)).length<=20:=zGA (by have:=hcin.1;omega) (by have:=hcin.2;omega)
  have hj20:(zAy (j:Nat)).length<=20:=zGA (by omega) (by omega)
  repeat refine zR ?_
  refine zAS I.grow.wf ?_
  rintro b8 h6 hb8 g6 o8
  repeat refine zR ?_
  refine zAE e1 e1 (cs:=[.int .i64 g.nodes[j].kind,.str g.nodes[j].name,av,lv,.bool g.nodes[j].isOpen]) rfl rfl g6.wf o8 (by simp) (zBN ha.len hl.len) ?_
  rintro v7 h7 p7 o7
  simp only[lL,Nat.reduceAdd] at o7
  have g7:Grow hp h7:=p7.grow hp I.grow.wf g6 hb8
  have ha7:=ha.mono g7
  have hl7:=hl.mono g7
  have hpart7:zAl (some 5) [.int .i64 g.nodes[j].kind,.str g.nodes[j].name,av,lv,.bool g.nodes[j].isOpen] 0=some (zCF g.nodes[j] av lv):=rfl
  have I7:=I.other g7
  obtain⟨v3,o3⟩:=I7.o3
  obtain⟨bc,oc,verc,roc,ec,vsc,hixc,hgc,hvc⟩:=(hcv.mono I7.grow).at hcj
  clear p7 g6 o8 hixn hgn hpart5 hv5 hvl ha hl hb8
  repeat refine zR ?_
  refine zAJ s1 (zCH (H.itoa _ h7 (by have:=hcin.1;omega) (by have:=hcin.2;omega)) ?_)
  rw[D.sat_ret]
  have hadd:(zAy (clAt cl j)).length+([58]:List Nat).length<1000000000000:=by simp only[List.length_singleton];omega
  repeat refine zR ?_
  refine zAJ s1 ((cfree_ok H g.nodes[j] av lv h7 g7.wf).mono ?_)
  rintro _ h8 ⟨rfl,g8⟩
  have I8:=I7.other g8
  replace o7:=g8.keep _ _ o7
  replace ha7:=ha7.mono g8
  replace hl7:=hl7.mono g8
  have hfr:(g.nodes[j].kind==1||g.nodes[j].isOpen)=zAL g.nodes[j]:=rfl
  clear o3 hixc hgc hvc I7 hadd
  refine zAN (zAf ?_)
  refine zKu (fun a hq=>hq=h8/\a.defers=[]/\ev a (.tmp 2)=some (.ptr (some (b2,0)))/\ev a (.tmp 3)=some (.ptr (some (b3,0)))/\ev a (.tmp 5)=some (.map (some r5))/\ev a (.tmp 6)=some (.slice (some (b6,0)) g.nodes.length)/\ev a (.tmp 18)=some nv/\ev a (.tmp 20)=some (.int .i64 (j:Nat))/\ev a (.tmp 19)=some (.int .i64 (g.nodes.length:Nat))/\ev a (.tmp 7)=some (.int .i64 (j:Nat))/\ev a (.tmp 8)=some (.ptr (some (b8,0)))/\ev a (.tmp 9)=some (.str (zAy (clAt cl j)++[58]++(if zAL g.nodes[j] then 35::zAy (j:Nat) else [])))) ?_ ?_
  ·cases hf:zAL g.nodes[j]
   ·rw[hf] at hfr
    have hap:zAy (clAt cl j)++[58]++(if false=true then 35::zAy (j:Nat) else [])=zAy (clAt cl j)++[58]:=by simp
    repeat refine zR ?_
    exact⟨rfl,n1,e1,e1,e1,e1,e1,e1,e1,e1,e1,by rw[hap];exact e1⟩
   ·rw[hf] at hfr
    have hap:zAy (clAt cl j)++[58]++(if true=true then 35::zAy (j:Nat) else [])=zAy (clAt cl j)++[58]++([35]++zAy (j:Nat)):=by simp
    have hadd1:([35]:List Nat).length+(zAy (j:Nat)).length<1000000000000:=by simp only[List.length_singleton];omega
    have hadd2:(zAy (clAt cl j)++[58]).length+(([35]:List Nat)++zAy (j:Nat)).length<1000000000000:=by simp only[List.length_append,List.length_singleton];omega
    repeat refine zR ?_
    refine zAJ s1 (zCH (H.itoa _ h8 (by omega) (by omega)) ?_)
    rw[D.sat_ret]
    repeat refine zR ?_
    exact⟨rfl,n1,e1,e1,e1,e1,e1,e1,e1,e1,e1,by rw[hap];exact e1⟩
  clear hi hn hd h2' h3' h5' h6' h18 hfr
  rintro a _ ⟨rfl,hd,h2',h3',h5',h6',h18,hi,hn,h7',h8',h9'⟩
  refine zAf ?_
  repeat refine zR ?_
  obtain⟨v3,o3⟩:=I8.o3
  refine zAJ s1 ((look_ok H g.nodes[j] (hg.all _ hmem) (clAt cl) (.func 92 [] [.ptr (some (b3,0))]) av lv _ g8.wf ha7 hl7 (by omega) (fun a _=>⟨by have:=(hc a).1;omega,by have:=(hc a).2;omega⟩) (fun a haa h' g'=>?_) (by omega) hs2).mono ?_)
  ·obtain⟨a0,a1⟩:=zAo (hok.2 _ hmem) a haa
   obtain⟨i,rfl⟩:∃i:Nat,a=(i:Int):=⟨a.toNat,by omega⟩
   have hci:cl[i]?=some (clAt cl i):=by rw[zBt,List.getD,List.getElem?_eq_getElem (by omega)];rfl
   exact zFh (zNI H cl i _ hci cv b3 v3 false _ h' (g'.keep _ _ o3) (hcv.mono (I8.grow.trans g')))
  rintro _ h9 ⟨rfl,g9⟩
  have I9:=I8.other g9
  have hkey:zAy (clAt cl j)++[58]++(if zAL g.nodes[j] then 35::zAy (j:Nat) else [])++zED g.nodes[j] (clAt cl)=(zCT g.nodes cl)[j]:=hkj.symm
  have hadd3:(zAy (clAt cl j)++[58]++(if zAL g.nodes[j] then 35::zAy (j:Nat) else [])).length+(zED g.nodes[j] (clAt cl)).length<1000000000000:=by
   have:(if zAL g.nodes[j] then 35::zAy (j:Nat) else []).length<=21:=by split<;>simp<;>omega
   simp only[List.length_append,List.length_singleton];omega
  have g79:=g8.trans g9
  obtain⟨v5,es,c5,o5,hfi⟩:=I9.o5
  have hlk:=hfi.look o5 (zCT g.nodes cl)[j]
  clear o3 I8 g8 g9 ha7 hl7 o7 hkj hs2 hcj hpart7
  have hadd4:=hadd3
  rw[<-List.length_append,hkey] at hadd4
  have hsa:zEd .add (zAy (clAt cl j)++[58]++(if zAL g.nodes[j] then 35::zAy (j:Nat) else [])) (zED g.nodes[j] (clAt cl))=some (.str (zCT g.nodes cl)[j]):=by rw[zDR hadd3,hkey]
  clear hadd3 hadd4 hkey
  repeat refine zR ?_
  obtain⟨v6,vs6,o6,hl6,ht6⟩:=I9.o6
  have hout:(zAZ g.nodes cl)[j]?=some (zBy (zCT g.nodes cl)[j] (zCT g.nodes cl):Nat):=by
   rw[zAZ,List.getElem?_map,List.getElem?_eq_getElem hkl];rfl
  have hlo:j<(zAZ g.nodes cl).length:=by rw[zBY];exact hj
  have hix6:slA (.slice (some (b6,0)) g.nodes.length) 1 j=some (b6,j):=by simp[slA,hj]
  have hrow:∀x:Int,(zAZ g.nodes cl)[j]?=some x->(vs6.take j++[AVal.int .i64 x]++vs6.drop (j+1)).take (j+1)=((zAZ g.nodes cl).take (j+1)).map (AVal.int .i64):=by
   intro x hx
   rw[List.getElem?_eq_getElem hlo] at hx
   have hx:=Option.some.inj hx
   rw[List.take_succ_eq_append_getElem hlo,List.map_append,<-ht6,hx,List.take_append_of_le_length (by simp;omega),List.take_of_length_le (by simp;omega)]
   rfl
  by_cases hm:(zCT g.nodes cl)[j]∈(zCT g.nodes cl).take j
  ·have hdec:decide ((zCT g.nodes cl)[j]∈(zCT g.nodes cl).take j)=true:=decide_eq_true hm
   have hlk1:=hfi.look1 o5 hm
   rw[hdec] at hlk
   repeat refine zR ?_
   refine zAE e1 e1 cc rfl I9.grow.wf o6 (by simp;omega) rfl ?_
   rintro vz hz pz oz
   simp only[zlC,zlN,Nat.zero_add] at oz
   have Iz:FInv h b2 b3 r5 b6 nv cv g.root (zCT g.nodes cl) (zAZ g.nodes cl) (j+1) hz:=by
    obtain⟨u2,k2⟩:=I9.o2
    obtain⟨u3,k3⟩:=I9.o3
    exact⟨pz.grow h hw I9.grow I9.low.2,⟨_,pz.kp o6 k2 rfl⟩,⟨_,pz.kp o6 k3 rfl⟩,⟨_,_,_,pz.kp o6 o5 rfl,hfi.stay hkl hm⟩,⟨_,_,oz,by simp;omega,hrow _ hout⟩,I9.low⟩
   clear oz pz hlk hlk1 hdec o5 o6
   repeat refine zR ?_
   exact⟨⟨Iz,n1,e1,e1,e1,e1,e1⟩,e1,e1⟩
  ·have hdec:decide ((zCT g.nodes cl)[j]∈(zCT g.nodes cl).take j)=false:=decide_eq_false hm
   rw[hdec] at hlk
   have hf0:zBa .str (.str (zCT g.nodes cl)[j]) es 0=some none:=by
    obtain⟨i,hi⟩:=hfi (zCT g.nodes cl)[j]
    rw[hi,if_neg hm]
   repeat refine zR ?_
   refine zFb e1 e1 e1 (by intro hh;cases hh) rfl I9.grow.wf o5 hf0 ?_
   rintro vy hy py oy
   have fy:=hfi.put (c:=c5) hkl hm
   have hmem1:(zCT g.nodes cl)[j]∈(zCT g.nodes cl).take (j+1):=by rw[List.take_succ_eq_append_getElem hkl];exact List.mem_append.2 (.inr (List.mem_singleton.2 rfl))
   have hlk1:=fy.look1 oy hmem1
   have o6y:=py.kp o5 o6 rfl
   have gy:=py.grow h hw I9.grow I9.low.1
   clear hlk hdec
   repeat refine zR ?_
   refine zAE e1 e1 cc rfl gy.wf o6y (by simp;omega) rfl ?_
   rintro vz hz pz oz
   simp only[zlC,zlN,Nat.zero_add] at oz
   have Iz:FInv h b2 b3 r5 b6 nv cv g.root (zCT g.nodes cl) (zAZ g.nodes cl) (j+1) hz:=by
    obtain⟨u2,k2⟩:=I9.o2
    obtain⟨u3,k3⟩:=I9.o3
    exact⟨pz.grow h hw gy I9.low.2,⟨_,pz.kp o6y (py.kp o5 k2 rfl) rfl⟩,⟨_,pz.kp o6y (py.kp o5 k3 rfl) rfl⟩,⟨_,_,_,pz.kp o6y oy rfl,fy⟩,⟨_,_,oz,by simp;omega,hrow _ hout⟩,I9.low⟩
   clear oz pz oy py hlk1 o5 o6 o6y hf0
   repeat refine zR ?_
   exact⟨⟨Iz,n1,e1,e1,e1,e1,e1⟩,e1,e1⟩
 ·rintro a hp ⟨I,hd,h2',h3',h5',h6',h18⟩
  obtain⟨v6,vs6,o6,hl6,ht6⟩:=I.o6
  rw[zBY] at hl6
  have e1':(zAZ g.nodes cl).take g.nodes.length=zAZ g.nodes cl:=List.take_of_length_le (by rw[zBY];exact Nat.le_refl _)
  rw[e1'] at ht6
  repeat' first|refine zG ?_|(with_reducible apply zAD;exact e1;all_goals intro _)
  exact⟨.inr (.inr ⟨b6,vs6,v6,I.low.2,rfl,o6,by omega,by rw[Nat.mul_one];exact ht6⟩),I.grow⟩
end
end Go.Ab.S
end
section
namespace Go.Ab.S
open Go.Ab
set_option maxHeartbeats 8000000
theorem zJD(ns:List Node)(hns:NsOK ns){m:Nat}{cl:List Int}(k:ClsOK ns.length cl)(hm:ns.length - fixc ns.length cl<m)(hne:eqII (zAZ ns cl) cl=false):∃m',m=m'+1/\zBu ns m cl=zBu ns m' (zAZ ns cl)/\ns.length - fixc ns.length (zAZ ns cl)<m':=by
 obtain⟨m',rfl⟩:∃m',m=m'+1:=⟨m - 1,by omega⟩
 refine⟨m',rfl,by rw[zBu,hne];rfl,?_⟩
 have h1:=zHx hns k hne
 have h2:=zNz ns.length (zAZ ns cl)
 omega
theorem zNR(n:Nat):List.replicate n (AVal.int .i64 0)=(List.replicate n (0:Int)).map (AVal.int .i64):=by simp
section
variable{fns:FnsT}{summ:SumT}
variable(H:Has fns summ)
include H
theorem Classes_ok(g:Graph)(hg:GTi g)(hok:zAB g=0)(v:AVal)(h:AHeap)(hw:WF h)(hv:GraphAt h v g):
  Cl fns summ 42 [v] h fun r h'=>Built h' h.next 3 1 r g.nodes.length ((zAC g).map (AVal.int .i64))/\Grow h h':=by
 obtain⟨nv,rfl,hN⟩:=hv
 have hlen:=hN.len
 have hns:=zAu hok
 have htiny:=hg.tinyN
 refine H.go (fn:=F_Classes) rfl (by decide) rfl rfl ?_
 unfold F_Classes
 dsimp only[qQ,qE,tm,mt,lo,fa,jk,jl,je,jc,jd,jo,jR,jS,jC]
 refine zAv (zBC ?_)
 refine zAm e1 cc hw ?_
 rintro b1 h1 hb1 g1 o1
 have hpart:zAl (some 2) [nv,.int .i64 g.root] 0=some (.agg [nv,.int .i64 g.root]):=rfl
 repeat refine zR ?_
 refine zAJ s1 ((Check_ok H g hg.toGraphSm _ h1 g1.wf ⟨nv,rfl,hN.mono g1⟩).mono ?_)
 rintro _ h2 ⟨rfl,g2⟩
 replace o1:=g2.keep _ _ o1
 have g02:=g1.trans g2
 have hck:(zAB g != 0)=false:=by rw[hok];rfl
 replace hok:=Hid.mk hok
 have hroom:=zCO H (b:=8) (by decide) (k:=g.nodes.length) (le31 (by omega))
 repeat refine zR ?_
 refine zGl e1 e1 (le30 (by omega)) hroom g2.wf ?_
 rintro b3 h3 hb3 g3 o3
 replace o1:=g3.keep _ _ o1
 have g03:=g02.trans g3
 have n2:=g02.next
 rw[zNR] at o3
 have B0:Built h3 h.next 3 1 (.slice (some (b3,0)) g.nodes.length) g.nodes.length ((List.replicate g.nodes.length 0).map (AVal.int .i64)):=.inr (.inr ⟨b3,_,_,by omega,rfl,o3,by simp,by simp⟩)
 clear o3 hck hroom hb3 hb1
 repeat refine zR ?_
 refine zBS ?_
 refine zCV (fun m a hp=>∃cl cv,Built hp h.next 3 1 cv g.nodes.length (cl.map (AVal.int .i64))/\ClsOK g.nodes.length cl/\g.nodes.length - fixc g.nodes.length cl<m/\zAC g=zBu g.nodes m cl/\Grow h hp/\(∃ver,hp.objs.get b1=some (ver,.cells false 24 [nv,.int .i64 g.root]))/\a.defers=[]/\ev a (.tmp 1)=some (.ptr (some (b1,0)))/\ev a (.tmp 3)=some cv) ?_ (n:=g.nodes.length+1)
  ⟨_,_,B0,ClsOK.zero _,by omega,rfl,g03,⟨_,o1⟩,n1,e1,e1⟩
 clear B0 o1 g1 g2 g3 g02 g03 n2
 rintro m a hp ⟨cl,cv,B,kc,hm,hcl,gp,⟨ver,o1⟩,hd,h1',h3'⟩
 have hcv:IntsAt hp cv cl:=zBm (by rw[kc.len];exact B)
 repeat refine zR ?_
 refine zAJ s1 ((zOd H g cl hg hns kc.len (fun a=>kc.inR hns.1 a) _ cv hp gp.wf ⟨nv,rfl,hN.mono gp⟩ hcv).mono ?_)
 rintro nx h4 ⟨B4,g4⟩
 replace o1:=g4.keep _ _ o1
 have g04:=gp.trans g4
 have hnx:IntsAt h4 nx (zAZ g.nodes cl):=zBm (by rw[zBY];exact B4)
 have n4:=gp.next
 repeat refine zR ?_
 refine zAJ s1 ((EqualInt_ok H (zAZ g.nodes cl) cl (by rw[zBY];omega) nx cv h4 hnx (hcv.mono g4)).mono ?_)
 rintro _ _ ⟨rfl,rfl⟩
 cases he:eqII (zAZ g.nodes cl) cl
 ·obtain⟨m',rfl,hs1,hs2⟩:=zJD g.nodes hns kc hm he
  rw[hs1] at hcl
  clear hs1 hm
  repeat refine zR ?_
  exact⟨m',by omega,_,nx,zAn B4 n4,ClsOK.refine _ _,hs2,hcl,g04,⟨_,o1⟩,n1,e1,e1⟩
 ·have hcl':zAC g=zAZ g.nodes cl:=by
   obtain⟨m',rfl⟩:∃m',m=m'+1:=⟨m - 1,by omega⟩
   rw[hcl,zBu,he];rfl
  clear hcl
  have B5:=zAn B4 n4
  rw[<-hcl'] at B5
  clear B4 hcl' hnx hcv
  repeat' first|refine zG ?_|(with_reducible apply zAD;exact e1;all_goals intro _)
  exact⟨B5,g04⟩
end
end Go.Ab.S
end
section
namespace Go.Ab.S
open Go.Ab
set_option maxHeartbeats 8000000
structure LInv(h0:AHeap)(b1 b2 b4:Nat)(nv cv:AVal)(root root':Int)(cl:List Int)(ns:List Node)(hp:AHeap):Prop where
 grow:Grow h0 hp
 o1:∃ver,hp.objs.get b1=some (ver,.cells false 24 [nv,.int .i64 root])
 o2:∃ver,hp.objs.get b2=some (ver,.cells false 24 [.slice none 0,.int .i64 0])
 o4:∃(ver:Nat) (vo:AVal) (cs:List (List AVal)),hp.objs.get b4=some (ver,.cells false 24 [vo,.int .i64 root'])/\Built hp h0.next 34 5 vo ns.length cs.flatten/\cs.length=ns.length∧
  ∀(i:Nat) c n,cs[i]?=some c->ns[i]?=some n->∃av lv,c=[.int .i64 n.kind,.str n.name,av,lv,.bool n.isOpen]/\Built hp h0.next 3 1 av n.args.length (n.args.map (AVal.int .i64))/\StrsAt h0 lv n.labels
 bcl:Built hp h0.next 3 1 cv cl.length (cl.map (AVal.int .i64))
 low:h0.next<=b1/\h0.next<=b2/\h0.next<=b4/\b1≠b4/\b2≠b4
theorem LInv.other{h0:AHeap}{b1 b2 b4:Nat}{nv cv:AVal}{root root':Int}{cl:List Int}{ns:List Node}{hp hq:AHeap}(I:LInv h0 b1 b2 b4 nv cv root root' cl ns hp)(g:Grow hp hq):LInv h0 b1 b2 b4 nv cv root root' cl ns hq:=by
 obtain⟨v1,k1⟩:=I.o1
 obtain⟨v2,k2⟩:=I.o2
 obtain⟨v4,vo,cs,k4,kB,kl,kn⟩:=I.o4
 exact⟨I.grow.trans g,⟨v1,g.keep _ _ k1⟩,⟨v2,g.keep _ _ k2⟩,⟨v4,vo,cs,g.keep _ _ k4,kB.grow g,kl,fun i c n hc hn=>by
  obtain⟨av,lv,q1,q2,q3⟩:=kn i c n hc hn
  exact⟨av,lv,q1,q2.grow g,q3⟩⟩,I.bcl.grow g,I.low⟩
theorem LInv.graph{h0:AHeap}{b1 b2 b4:Nat}{nv cv:AVal}{root root':Int}{cl:List Int}{ns:List Node}{hp:AHeap}(I:LInv h0 b1 b2 b4 nv cv root root' cl ns hp):∃ver vo,hp.objs.get b4=some (ver,.cells false 24 [vo,.int .i64 root'])/\NodesAt hp vo ns:=by
 obtain⟨v4,vo,cs,k4,kB,kl,kn⟩:=I.o4
 have h5:∀c∈cs,c.length=5:=by
  intro c hc
  obtain⟨i,hi,rfl⟩:=List.mem_iff_getElem.1 hc
  obtain⟨av,lv,q1,_⟩:=kn i _ _ (List.getElem?_eq_getElem hi) (List.getElem?_eq_getElem (by omega))
  rw[q1];rfl
 refine⟨v4,vo,k4,cs,kB.sl (by decide) rfl h5 kl,kl,fun i n c hn hc=>?_⟩
 obtain⟨av,lv,q1,q2,q3⟩:=kn i c n hc hn
 exact⟨av,lv,q1,zBm q2,q3.mono I.grow⟩
section
variable{fns:FnsT}{summ:SumT}
variable(H:Has fns summ)
include H
omit H in
theorem GTi.map{g:Graph}(hg:GTi g)(cl:List Int)(root:Int):GTi ⟨g.nodes.map (mapN cl),root⟩:=by
 have hlf:zAY [] (g.nodes.map (mapN cl)) 0=zAY [] g.nodes 0:=by
  have:∀(ns:List Node) (i:Nat),zAY [] (ns.map (mapN cl)) i=zAY [] ns i:=by
   intro ns
   induction ns with
   |nil=>intro i;rfl
   |cons n r ih=>intro i;simp only[List.map_cons,zAY,ih,mapN,List.length_map]
  exact this _ _
 refine⟨⟨⟨by simpa using hg.nodes,fun n hn=>?_⟩,by simpa[hlf] using hg.total,fun n hn=>?_⟩,by simpa using hg.tinyN,fun n hn=>?_⟩
 ·obtain⟨m,hm,rfl⟩:=List.mem_map.1 hn
  have:=hg.all m hm
  exact⟨by simpa[mapN] using this.args,this.labels,this.texts⟩
 ·obtain⟨m,hm,rfl⟩:=List.mem_map.1 hn
  exact hg.labs m hm
 ·obtain⟨m,hm,rfl⟩:=List.mem_map.1 hn
  simpa[mapN] using hg.tinyA m hm
theorem Least_ok(g:Graph)(hg:GTi g)(hok:zAB g=0)(v:AVal)(h:AHeap)(hw:WF h)(hv:GraphAt h v g):
  Cl fns summ 24 [v] h fun r h'=>OwnG h' h.next r (zAb g)/\Grow h h':=by
 obtain⟨nv,rfl,hN⟩:=hv
 have hlen:=hN.len
 have hns:=zAu hok
 have htiny:=hg.tinyN
 have hcls:=(zGV hok).2
 have hroot:=zAQ hok
 have hleast:zAb g=zBd ⟨g.nodes.map (mapN (zAC g)),clAt (zAC g) g.root⟩:=by rw[zAb,if_pos hok]
 have hcl0:=hcls.len
 refine H.go (fn:=F_Least) rfl (by decide) rfl rfl ?_
 unfold F_Least
 dsimp only[qQ,qE,vi,tm,mt,lo,fa,jv,jl,js,ji,je,jc,jo,jG,jN,jR,jS,jC,jL]
 refine zAv (zBC ?_)
 refine zAm e1 cc hw ?_
 rintro b1 h1 hb1 g1 o1
 refine zAS g1.wf ?_
 rintro b2 h2 hb2 g2 o2
 have hne12:=g1.wf.lt o1
 replace o1:=g2.keep _ _ o1
 have g02:=g1.trans g2
 have hpart:zAl (some 2) [nv,.int .i64 g.root] 0=some (.agg [nv,.int .i64 g.root]):=rfl
 repeat refine zR ?_
 refine zAJ s1 ((Classes_ok H g hg hok _ h2 g02.wf ⟨nv,rfl,hN.mono g02⟩).mono ?_)
 rintro cv h3 ⟨B3,g3⟩
 replace o1:=g3.keep _ _ o1
 replace o2:=g3.keep _ _ o2
 have g03:=g02.trans g3
 have hcvl:=B3.len
 have heq:eqA .slice cv (.slice none 0)=some false:=by
  rcases B3 with⟨_,hh,_⟩|⟨rfl,hh,_⟩|⟨b,vs,ver,_,rfl,_⟩
  ·have:=hroot.1;have:=hroot.2.1;omega
  ·rfl
  ·rfl
 replace hok:=Hid.mk hok
 repeat refine zR ?_
 refine st_q (v:=.bool false) (b:=none) (by simp only[zDO,zAz,zBe,zBM,Nat.reduceEqDiff,if_true,if_false,heq];rfl) ?_
 obtain⟨kr,hkr⟩:∃k:Nat,g.root=(k:Int):=⟨g.root.toNat,by have:=hroot.1;omega⟩
 have hkN:kr<g.nodes.length:=by have:=hroot.2.1;omega
 have hcr:(zAC g)[kr]?=some (clAt (zAC g) g.root):=by rw[hkr,zBt,List.getD,List.getElem?_eq_getElem (by rw[hcl0];exact hkN)];rfl
 have B3':Built h3 h2.next 3 1 cv (zAC g).length ((zAC g).map (AVal.int .i64)):=by rw[hcl0];exact B3
 obtain⟨bc,oc,verc,roc,ec,vsc,hixc,hgc,hvc⟩:=(zBm B3').at hcr
 have hroot':=Hid.mk hroot
 clear hroot heq
 generalize hrt:clAt (zAC g) g.root=root' at*
 have o1':=o1
 rw[hkr] at o1'
 clear o1 hpart
 repeat refine zR ?_
 refine zAS g3.wf ?_
 rintro b4 h4 (hb4:h3.next<=b4) (g4:Grow h3 h4) o4
 refine zAE e1 e1 (cs:=[.slice none 0,.int .i64 root']) rfl rfl g4.wf o4 (by simp) rfl ?_
 rintro v5 h5 p5 o5
 simp only[lL,Nat.reduceAdd] at o5
 have g5:Grow h3 h5:=p5.grow h3 g3.wf g4 hb4
 have n1:=g1.next
 have n2:=g02.next
 have n3:=g03.next
 have lt1:=g3.wf.lt o1'
 have lt2:=g3.wf.lt o2
 have I0:LInv h b1 b2 b4 nv cv g.root root' (zAC g) [] h5:=
  ⟨g03.trans g5,⟨_,by rw[hkr];exact g5.keep _ _ o1'⟩,⟨_,g5.keep _ _ o2⟩,⟨_,_,[],o5,.inl ⟨rfl,rfl,rfl⟩,rfl,fun i c n hc=>by simp at hc⟩,(zAn B3' n2).grow g5,by omega,by omega,by omega,by omega,by omega⟩
 have o1'':=g5.keep _ _ o1'
 clear o1' o2 o4 o5 p5 g1 g2 g3 g4 g02 g03 B3 B3' hixc hgc hvc hcr hne12 lt1 lt2 n1 n2 n3 hb1 hb2 hb4
 repeat refine zR ?_
 refine zBR (N:=g.nodes.length) (fun j a hp=>LInv h b1 b2 b4 nv cv g.root root' (zAC g) ((g.nodes.take j).map (mapN (zAC g))) hp/\a.defers=[]/\ev a (.tmp 2)=some (.ptr (some (b2,0)))/\ev a (.tmp 3)=some cv/\ev a (.tmp 4)=some (.ptr (some (b4,0)))/\ev a (.tmp 22)=some nv) ?_ ?_ ⟨by simpa using I0,n1,e1,e1,e1,e1⟩
 ·clear I0 o1'' g5
  rintro j a hp hj ⟨I,hd,h2',h3',h4',h22⟩ hi hn
  have hmem:g.nodes[j]∈g.nodes:=List.getElem_mem hj
  have htA:=hg.tinyA _ hmem
  have hl1:=zCZ g.nodes 0 _ hmem
  obtain⟨bn,on,vern,ron,en,vsn,av,lv,hixn,hgn0,hvl,hv5,_,_,_,_,_,ha0,hls⟩:=hN.at (List.getElem?_eq_getElem hj)
  have hgn:=I.grow.keep _ _ hgn0
  have ha:=ha0.mono I.grow
  have hl:=hls.mono I.grow
  clear hgn0 ha0
  have hpart5:zAl (some 5) vsn on=some (zCF g.nodes[j] av lv):=by rw[zAl,if_pos hvl,hv5];rfl
  have hla:=ha.len
  have hll:=hl.len
  repeat refine zR ?_
  refine zAS I.grow.wf ?_
  rintro b6 h6 hb6 g6 o6
  refine zAE e1 e1 (cs:=[.int .i64 g.nodes[j].kind,.str g.nodes[j].name,av,lv,.bool g.nodes[j].isOpen]) rfl rfl g6.wf o6 (by simp) (zBN hla hll) ?_
  rintro v7 h7 p7 o7
  simp only[lL,Nat.reduceAdd] at o7
  have g7:Grow hp h7:=p7.grow hp I.grow.wf g6 hb6
  have ha7:=ha.mono g7
  have hroom:=zCO H (b:=8) (by decide) (k:=g.nodes[j].args.length) (le31 (by omega))
  have lt6:=g7.wf.lt o7
  clear o6 p7 g6 hixn hgn hpart5 hv5 hvl ha
  repeat refine zR ?_
  refine zLU e1 e1 (le30 (by omega)) hroom g7.wf ?_
  rintro va h8 B8 f8 g8
  have o78:=g8.keep _ _ o7
  have g78:=g7.trans g8
  have n7:=g7.next
  repeat refine zR ?_
  refine zKu (fun a' hq=>∃vx,Grow h7 hq/\Built hq h7.next 3 1 vx g.nodes[j].args.length (((mapN (zAC g) g.nodes[j]).args).map (AVal.int .i64))/\a'.defers=[]/\ev a' (.tmp 2)=some (.ptr (some (b2,0)))/\ev a' (.tmp 3)=some cv/\ev a' (.tmp 4)=some (.ptr (some (b4,0)))/\ev a' (.tmp 22)=some nv/\ev a' (.tmp 6)=some (.ptr (some (b6,0)))/\ev a' (.tmp 7)=some vx/\ev a' (.tmp 24)=some (.int .i64 (j:Nat))/\ev a' (.tmp 23)=some (.int .i64 (g.nodes.length:Nat))) ?_ ?_
  ·refine zBR (N:=g.nodes[j].args.length) (fun i a' hq=>∃vx,Grow h7 hq/\Built hq h7.next 3 1 vx i (((g.nodes[j].args.take i).map (clAt (zAC g))).map (AVal.int .i64))/\a'.defers=[]/\ev a' (.tmp 2)=some (.ptr (some (b2,0)))/\ev a' (.tmp 3)=some cv/\ev a' (.tmp 4)=some (.ptr (some (b4,0)))/\ev a' (.tmp 22)=some nv/\ev a' (.tmp 6)=some (.ptr (some (b6,0)))/\ev a' (.tmp 7)=some vx/\ev a' (.tmp 24)=some (.int .i64 (j:Nat))/\ev a' (.tmp 23)=some (.int .i64 (g.nodes.length:Nat))/\ev a' (.tmp 33)=some av) ?_ ?_ ⟨va,g8,by simpa using B8,n1,e1,e1,e1,e1,e1,e1,e1,e1,e1⟩
   ·clear hd h2' h3' h4' h22 hi hn B8 f8 g8 o7 g78
    rintro i a' hq hil ⟨vx,m1,m2,hd,h2',h3',h4',h22,h6',h7',h24,h23,h33⟩ hi hn
    obtain⟨bb,ob,verb,rb,eb,vsb,hix,hget,hvo⟩:=(ha7.mono m1).at (List.getElem?_eq_getElem hil)
    obtain⟨a0,a1⟩:=zAo (hns.2 _ hmem) _ (List.getElem_mem hil)
    obtain⟨ka,hka⟩:∃k:Nat,g.nodes[j].args[i]=(k:Int):=⟨g.nodes[j].args[i].toNat,by omega⟩
    have hkl:ka<g.nodes.length:=by omega
    have hca:(zAC g)[ka]?=some (clAt (zAC g) (ka:Int)):=by rw[zBt,List.getD,List.getElem?_eq_getElem (by omega)];rfl
    obtain⟨bc,oc,verc,roc,ec,vsc,hixc,hgc,hvc⟩:=(zBm (((I.bcl.grow g7).grow m1))).at hca
    have hroomi:=zCO H (b:=8) (by decide) (k:=i+1) (le31 (by omega))
    have hstep:(((g.nodes[j].args.take (i+1)).map (clAt (zAC g))).map (AVal.int .i64))=(((g.nodes[j].args.take i).map (clAt (zAC g))).map (AVal.int .i64))++[AVal.int .i64 (clAt (zAC g) (ka:Int))]:=by
     rw[List.take_succ_eq_append_getElem hil,List.map_append,List.map_append,hka];rfl
    rw[hka] at hvo
    clear hka a0 a1 hca
    repeat refine zR ?_
    refine zAW e1 cc rfl rfl m1.wf ?_
    rintro bx h9 hbx g9 ox
    refine zAi e1 e1 (m2.grow g9) ox rfl rfl hroomi g9.wf (Nat.le_trans m1.next g9.next) ?_
    rintro vx' h10 B10 f10 w10 n10 gr10 kp10
    rw[<-hstep] at B10
    have gq:=gr10 h7 g7.wf (m1.trans g9) (Nat.le_refl _)
    clear hstep hix hget hvo hixc hgc hvc ox kp10 f10 gr10
    repeat refine zR ?_
    exact⟨⟨vx',gq,B10,n1,e1,e1,e1,e1,e1,e1,e1,e1,e1⟩,e1,e1⟩
   ·rintro a' hq ⟨vx,m1,m2,m3,m4,m5,m6,m7,m8,m9,m10,m11,_⟩
    rw[List.take_length] at m2
    exact⟨vx,m1,m2,m3,m4,m5,m6,m7,m8,m9,m10,m11⟩
  ·clear hd h2' h3' h4' h22 hi hn B8 f8
   rintro a' hq ⟨vx,gq,hB,hd,h2',h3',h4',h22,h6',h7',hi,hn⟩
   have hvx:=hB.len
   have o7q:=gq.keep _ _ o7
   have gp:=g7.trans gq
   have Iq:=I.other gp
   repeat refine zR ?_
   refine zAE e1 e1 (zAP hvx) rfl gq.wf o7q (by simp) (by simp only[List.all_cons,List.all_nil,zAH hvx,Bool.and_true]) ?_
   rintro v9 h9 p9 o9
   simp only[lL,Nat.reduceAdd] at o9
   have g9:Grow hp h9:=p9.grow hp I.grow.wf gp (by omega)
   have B9:=zAK hB p9 o7q (fun vs hh=>by cases hh)
   have I9:=I.other g9
   obtain⟨v4,vo,cs,o4,kB,kl,kn⟩:=I9.o4
   have nl:((g.nodes.take j).map (mapN (zAC g))).length=j:=by simp;omega
   rw[nl] at kB kl
   clear o7q p9
   repeat refine zR ?_
   refine zAW e1 (cs:=[.int .i64 g.nodes[j].kind,.str g.nodes[j].name,vx,lv,.bool g.nodes[j].isOpen]) rfl rfl rfl g9.wf ?_
   rintro bx h12 hbx g12 ox
   have kB':=kB.grow g12
   refine zAi e1 e1 kB' ox rfl (zBN hvx hll) (zCO H (by decide) (le31 (by omega))) g12.wf (by have:=I.grow.next;have:=g9.next;have:=g12.next;omega) ?_
   rintro vo' h13 B13 f13 w13 n13 gr13 kp13
   have o4':=kp13 _ _ (g12.keep _ _ o4) (zAF kB' (g12.keep _ _ o4) fun vs hh=>by cases hh)
   have g13:Grow h h13:=gr13 h hw (I9.grow.trans g12) (Nat.le_refl _)
   repeat refine zR ?_
   refine zAE e1 e1 (zAP B13.len) rfl w13 o4' (by simp) (by simp only[List.all_cons,List.all_nil,zAH B13.len,Bool.and_true]) ?_
   rintro v14 h14 p14 o14
   simp only[lL,Nat.reduceAdd] at o14
   have hstay:∀c p,h9.objs.get c=some p->(∀vs,p.2≠.cells false 34 vs)->c≠b4->h14.objs.get c=some p:=fun c p hc hp hne=>p14.keep c hne _ (kp13 _ _ (g12.keep _ _ hc) (zAF kB' (g12.keep _ _ hc) hp))
   have hown:∀{w:AVal} {k base:Nat} {cells:List AVal},Built h9 base 3 1 w k cells->Built h14 base 3 1 w k cells:=fun kk=>zAw kk fun b p hb ⟨vs,hp⟩ _=>hstay b p hb (fun vs' hh=>by rw[hp] at hh;cases hh) (by
    rintro rfl
    rw[o4] at hb
    simp only[oI] at hb
    rw[<-hb] at hp;cases hp)
   have hns':(g.nodes.take (j+1)).map (mapN (zAC g))=(g.nodes.take j).map (mapN (zAC g))++[mapN (zAC g) g.nodes[j]]:=by
    rw[List.take_succ_eq_append_getElem hj,List.map_append];rfl
   have n14:=p14.next
   have I14:LInv h b1 b2 b4 nv cv g.root root' (zAC g) ((g.nodes.take (j+1)).map (mapN (zAC g))) h14:=by
    obtain⟨u1,k1⟩:=I9.o1
    obtain⟨u2,k2⟩:=I9.o2
    have hlow:=I9.low
    refine⟨p14.grow h hw g13 hlow.2.2.1,⟨_,hstay _ _ k1 (fun vs hh=>by cases hh) hlow.2.2.2.1⟩,⟨_,hstay _ _ k2 (fun vs hh=>by cases hh) hlow.2.2.2.2⟩,⟨_,vo',cs++[[.int .i64 g.nodes[j].kind,.str g.nodes[j].name,vx,lv,.bool g.nodes[j].isOpen]],o14,?_,?_,?_⟩,hown I9.bcl,hlow⟩
    ·have:((g.nodes.take (j+1)).map (mapN (zAC g))).length=j+1:=by simp;omega
     rw[this,List.flatten_append]
     exact zAK (by simpa using B13) p14 o4' (fun vs hh=>by cases hh)
    ·simp[kl];omega
    ·intro i c n hcc hnn
     rw[hns'] at hnn
     rcases Nat.lt_or_ge i j with hij|hij
     ·rw[List.getElem?_append_left (by omega)] at hcc
      rw[List.getElem?_append_left (by omega)] at hnn
      obtain⟨av',lv',q1,q2,q3⟩:=kn i c n hcc hnn
      exact⟨av',lv',q1,hown q2,q3⟩
     ·rw[List.getElem?_append_right (by omega),kl] at hcc
      rw[List.getElem?_append_right (by omega),nl] at hnn
      obtain rfl:i=j:=by
       have:=(List.getElem?_eq_some_iff.1 hcc).1
       simp only[zlC,zlN] at this
       omega
      rw[Nat.sub_self,List.getElem?_cons_zero,oI] at hcc hnn
      subst hcc;subst hnn
      have hl2:(mapN (zAC g) g.nodes[i]).args.length=g.nodes[i].args.length:=by simp[mapN]
      refine⟨vx,lv,rfl,?_,hls⟩
      rw[hl2]
      exact zAn (hown B9) (by have:=I.grow.next;omega)
   clear o9 o14 p14 o4 o4' kp13 gr13 f13 B13 hstay ox B9 kn kB kB'
   repeat refine zR ?_
   exact⟨⟨I14,n1,e1,e1,e1,e1⟩,e1,e1⟩
 ·rintro a hp ⟨I,hd,h2',h3',h4',h22⟩
  rw[List.take_length] at I
  obtain⟨v4,vo,o4,hNo⟩:=I.graph
  have hpart4:zAl (some 2) [vo,.int .i64 root'] 0=some (.agg [vo,.int .i64 root']):=rfl
  repeat refine zR ?_
  refine zAJ s1 ((Trim_ok H ⟨g.nodes.map (mapN (zAC g)),root'⟩ (GTi.map hg _ _).toGSm _ hp I.grow.wf ⟨vo,rfl,hNo⟩).mono ?_)
  rintro tv h5 ⟨hT,g5⟩
  obtain⟨tn,cs,rfl,kB,kl,kn⟩:=hT
  obtain⟨v2,o2⟩:=I.o2
  have l2:=I.grow.wf.lt o2
  replace o2:=g5.keep _ _ o2
  have hT1:=zAH kB.len
  repeat refine zR ?_
  refine zAE e1 e1 (cs:=[tn,.int .i64 (zBd ⟨g.nodes.map (mapN (zAC g)),root'⟩).root]) rfl rfl g5.wf o2 (by simp) (by simp only[List.all_cons,List.all_nil,hT1,Bool.and_true];rfl) ?_
  rintro v6 h6 p6 o6
  simp only[lL,Nat.reduceAdd] at o6
  have g6:Grow h h6:=p6.grow h hw (I.grow.trans g5) I.low.2.1
  have hO:OwnG h5 hp.next (.agg [tn,.int .i64 (zBd ⟨g.nodes.map (mapN (zAC g)),root'⟩).root]) (zBd ⟨g.nodes.map (mapN (zAC g)),root'⟩):=⟨tn,cs,rfl,kB,kl,kn⟩
  have hO6:=(hO.stay (h':=h6) fun c p hc hp _=>p6.keep c (by omega) _ hp).base I.grow.next
  repeat refine zR ?_
  refine zLF (v:=.agg [tn,.int .i64 (zBd ⟨g.nodes.map (mapN (zAC g)),root'⟩).root]) n1 ?_ ⟨by rw[hleast];exact hO6,g6⟩
  have hp2:zAl (some 2) [tn,.int .i64 (zBd ⟨g.nodes.map (mapN (zAC g)),root'⟩).root] 0=some (.agg [tn,.int .i64 (zBd ⟨g.nodes.map (mapN (zAC g)),root'⟩).root]):=rfl
  simp only[zBi,mapO,zEt,zCQ,zCu,zBl,zAz,zBG,Nat.reduceEqDiff,if_false,h2',o6,hp2]
end
end Go.Ab.S
end
section
namespace Go.Ab.S
open Go.Ab
set_option maxHeartbeats 8000000
theorem zCr:∀s:List Nat,zAs s s=false
 |[]=>rfl
 |a::s=>by
  have h1:Nat.blt a a=false:=by
   cases h:Nat.blt a a
   ·rfl
   ·exact absurd (Nat.blt_eq.mp h) (Nat.lt_irrefl _)
  rw[zAs,h1,Nat.beq_refl];exact zCr s
theorem zHk:∀{x y:List Nat} {a b:Nat},zAs (a::x) (b::y)=true↔a<b\/(a=b/\zAs x y=true):=by
 intro x y a b
 rw[zAs]
 cases h:Nat.blt a b with
 |true=>
  have:=Nat.blt_eq.mp h
  simp[this]
 |false=>
  have hn:¬a<b:=fun hh=>by rw[Nat.blt_eq.mpr hh] at h;cases h
  cases h2:Nat.beq a b with
  |true=>
   have:=Nat.eq_of_beq_eq_true h2
   simp[this]
  |false=>
   have:a≠b:=by rintro rfl;rw[Nat.beq_refl] at h2;cases h2
   simp[hn,this]
theorem zBg:∀{x y z:List Nat},zAs x y=true->zAs y z=true->zAs x z=true
 |_,[],_,h,_=>by cases ‹List Nat› <;>simp[zAs] at h
 |[],_::_,[],_,h=>by simp[zAs] at h
 |[],_::_,_::_,_,_=>rfl
 |_::_,_::_,[],_,h=>by simp[zAs] at h
 |a::x,b::y,c::z,h1,h2=>by
  rw[zHk] at h1 h2 ⊢
  rcases h1 with h1|⟨rfl,h1⟩<;>rcases h2 with h2|⟨rfl,h2⟩
  ·exact .inl (by omega)
  ·exact .inl h1
  ·exact .inl h2
  ·exact .inr ⟨rfl,zBg h1 h2⟩
theorem zGD:∀(x y:List Nat),zAs x y=true\/x=y\/zAs y x=true
 |[],[]=>.inr (.inl rfl)
 |[],_::_=>.inl rfl
 |_::_,[]=>.inr (.inr rfl)
 |a::x,b::y=>by
  rw[zHk,zHk]
  rcases Nat.lt_trichotomy a b with h|rfl|h
  ·exact .inl (.inl h)
  ·rcases zGD x y with h|rfl|h
   ·exact .inl (.inr ⟨rfl,h⟩)
   ·exact .inr (.inl rfl)
   ·exact .inr (.inr (.inr ⟨rfl,h⟩))
  ·exact .inr (.inr (.inl h))
def Rises(l:List (List Nat)):Prop:=∀i j:Nat,i<j->∀x y,l[i]?=some x->l[j]?=some y->zAs x y=true
theorem ris_lo:∀{l:List (List Nat)} {p:List Nat},risG (some p) l=true->∀x∈l,zAs p x=true
 |[],_,_=>by intro x hx;cases hx
 |y::l,p,h=>by
  simp only[risG,Bool.and_eq_true] at h
  intro x hx
  rcases List.mem_cons.1 hx with rfl|hx
  ·exact h.1.2
  ·exact zBg h.1.2 (ris_lo h.2 x hx)
theorem zBE:∀{l:List (List Nat)} {p:Option (List Nat)},risG p l=true->Rises l
 |[],_,_=>by intro i j _ x y hx;simp at hx
 |z::l,p,h=>by
  simp only[risG,Bool.and_eq_true] at h
  intro i j hij x y hx hy
  cases j with
  |zero=>omega
  |succ j=>
   have hy':l[j]?=some y:=by simpa using hy
   cases i with
   |zero=>
    have hx':z=x:=by simpa using hx
    rw[<-hx'];exact ris_lo h.2 y (List.mem_of_getElem? hy')
   |succ i=>exact zBE h.2 i j (by omega) x y (by simpa using hx) hy'
def bsAt(l:List (List Nat))(s:List Nat):Nat:=(l.filter fun x=>zAs x s).length
theorem zLk{l:List (List Nat)}(hr:Rises l){s:List Nat}{m:Nat}(hm:m<=l.length)(h1:∀i x,i<m->l[i]?=some x->zAs x s=true)(h2:∀i x,m<=i->l[i]?=some x->zAs x s=false):bsAt l s=m:=by
 unfold bsAt
 have:l.filter (fun x=>zAs x s)=l.take m:=by
  conv=>lhs;rw[<-List.take_append_drop m l]
  rw[List.filter_append]
  have e1:(l.take m).filter (fun x=>zAs x s)=l.take m:=by
   rw[List.filter_eq_self]
   intro x hx
   obtain⟨i,hi,rfl⟩:=List.mem_iff_getElem.1 hx
   rw[List.getElem_take]
   simp only[List.length_take] at hi
   exact h1 i _ (by omega) (List.getElem?_eq_getElem (by omega))
  have e2:(l.drop m).filter (fun x=>zAs x s)=[]:=by
   rw[List.filter_eq_nil_iff]
   intro x hx
   obtain⟨i,hi,rfl⟩:=List.mem_iff_getElem.1 hx
   rw[List.getElem_drop]
   simp only[List.length_drop] at hi
   have:=h2 (m+i) _ (by omega) (List.getElem?_eq_getElem (by omega))
   rw[this];simp
  rw[e1,e2,zlE]
 rw[this,List.length_take];omega
def bsIs(l:List (List Nat))(s:List Nat):Bool:=match l[bsAt l s]? with |some x=>eqL x s|none=>false
section
variable{fns:FnsT}{summ:SumT}
variable(H:Has fns summ)
include H
theorem zNe(s:List Nat)(h:AHeap):Cl fns summ 120 [.str s] h fun v h'=>v=.bool false/\h'=h:=by
 have hs:eqL s s=true:=zBB.2 rfl
 refine H.go (fn:=F_cisNaN) rfl (by decide) rfl rfl ?_
 unfold F_cisNaN
 dsimp only[mt,jn,jb,jR,jS]
 repeat' first|refine zG ?_|(with_reducible apply zAD;exact e1;all_goals intro _)
 exact⟨rfl,rfl⟩
theorem zOL(s:List Nat)(h:AHeap):Cl fns summ 94 [.str s] h fun v h'=>v=.bool false/\h'=h:=by
 have hs:eqL s s=true:=zBB.2 rfl
 refine H.go (fn:=F_isNaNs) rfl (by decide) rfl rfl ?_
 unfold F_isNaNs
 dsimp only[mt,jn,jb,jR,jS]
 repeat' first|refine zG ?_|(with_reducible apply zAD;exact e1;all_goals intro _)
 exact⟨rfl,rfl⟩
theorem zMo(s t:List Nat)(h:AHeap):Cl fns summ 93 [.str s,.str t] h fun v h'=>v=.bool (zAs s t)/\h'=h:=by
 refine H.go (fn:=F_cmpLess) rfl (by decide) rfl rfl ?_
 unfold F_cmpLess
 dsimp only[qQ,gQ,gE,tm,mt,jb,jc,jR,jS]
 repeat refine zR ?_
 refine zAJ s1 ((zNe H s h).mono ?_)
 rintro _ _ ⟨rfl,rfl⟩
 repeat' first|refine zG ?_|(with_reducible apply zAD;exact e1;all_goals intro _)
 exact⟨rfl,rfl⟩
theorem BinarySearch_ok(l:List (List Nat))(hr:Rises l)(hn:l.length<2 ^ 60)(s:List Nat)(v:AVal)(h:AHeap)(hv:StrsAt h v l):Cl fns summ 66 [v,.str s] h fun r h'=>r=.tuple [.int .i64 (bsAt l s:Nat),.bool (bsIs l s)]/\h'=h:=by
 have hlen:=hv.len
 refine H.go (fn:=F_BinarySearch) rfl (by decide) rfl rfl ?_
 unfold F_BinarySearch
 dsimp only[qQ,gQ,gE,tm,mt,lo,jn,jk,jv,jb,ji,je,jd,jR,jS]
 repeat refine zR ?_
 refine zBS ?_
 refine zCV (fun m a hp=>∃i j:Nat,hp=h/\m=j - i/\i<=j/\j<=l.length/\(∀k x,k<i->l[k]?=some x->zAs x s=true)/\(∀k x,j<=k->l[k]?=some x->zAs x s=false)/\a.defers=[]/\ev a (.tmp 0)=some v/\ev a (.tmp 1)=some (.str s)/\ev a (.tmp 6)=some (.int .i64 (l.length:Nat))/\ev a (.tmp 7)=some (.int .i64 (i:Nat))/\ev a (.tmp 8)=some (.int .i64 (j:Nat))) ?_ (n:=l.length)
  ⟨0,l.length,rfl,by omega,by omega,by omega,fun k x hk=>by omega,fun k x hk hx=>(by rw[List.getElem?_eq_none hk] at hx;cases hx),n1,e1,e1,e1,e1,e1⟩
 rintro m a _ ⟨i,j,rfl,hm,hij,hj,hlo,hhi,hd,h0',h1',h6',h7',h8'⟩
 by_cases hlt:i<j
 ·have hdec:decide ((i:Int)<(j:Int))=true:=by simp;omega
  have hmid:(i+j) / 2<l.length:=by omega
  obtain⟨b,o,ver,ro,e,vs,hix,hget,hvo⟩:=hv.at (List.getElem?_eq_getElem hmid)
  have hw1:IntKind.i64.wrap ((i:Int)+(j:Int))=((i+j:Nat):Int):=by rw[zAc (by omega) (by omega)];omega
  have hw2:IntKind.u64.wrap ((i+j:Nat):Int)=((i+j:Nat):Int):=by
   simp only[IntKind.wrap,IntKind.bits,IntKind.signed,Bool.false_and,Bool.false_eq_true,if_false];omega
  have hsh:((i+j:Nat):Int).fdiv (2 ^ min (1:Int).toNat IntKind.u64.bits)=(((i+j) / 2:Nat):Int):=by
   simp only[IntKind.bits]
   show Int.fdiv _ 2=_
   rw[Int.fdiv_eq_ediv_of_nonneg _ (by omega)];omega
  have hw3:IntKind.i64.wrap (((i+j) / 2:Nat):Int)=(((i+j) / 2:Nat):Int):=by rw[zAc (by omega) (by omega)]
  have hw4:IntKind.i64.wrap ((((i+j) / 2:Nat):Int)+1)=(((i+j) / 2+1:Nat):Int):=by rw[zAc (by omega) (by omega)];omega
  have hsplit:∀x,l[(i+j) / 2]?=some x->((zAs x s=true->∀k y,k<(i+j) / 2+1->l[k]?=some y->zAs y s=true)/\(zAs x s=false->∀k y,(i+j) / 2<=k->l[k]?=some y->zAs y s=false)):=by
   intro x hx
   refine⟨fun hh k y hk hy=>?_,fun hh k y hk hy=>?_⟩
   ·rcases Nat.lt_or_ge k ((i+j) / 2) with h1|h1
    ·exact zBg (hr k _ h1 y x hy hx) hh
    ·have:k=(i+j) / 2:=by omega
     subst this;rw[hx] at hy;cases hy;exact hh
   ·rcases Nat.lt_or_ge ((i+j) / 2) k with h1|h1
    ·cases hc:zAs y s with
     |false=>rfl
     |true=>rw[zBg (hr _ k h1 x y hx hy) hc] at hh;cases hh
    ·have:k=(i+j) / 2:=by omega
     subst this;rw[hx] at hy;cases hy;exact hh
  obtain⟨hs1,hs2⟩:=hsplit _ (List.getElem?_eq_getElem hmid)
  have h01:(0:Int)<=1:=by decide
  clear hsplit hlen
  repeat refine zR ?_
  refine zAJ s1 ((zMo H l[(i+j) / 2] s _).mono ?_)
  rintro _ _ ⟨rfl,rfl⟩
  cases hc:zAs l[(i+j) / 2] s
  ·repeat refine zR ?_
   exact⟨(i+j) / 2 - i,by omega,i,(i+j) / 2,rfl,rfl,by omega,by omega,hlo,hs2 hc,n1,e1,e1,e1,e1,e1⟩
  ·repeat refine zR ?_
   exact⟨j - ((i+j) / 2+1),by omega,(i+j) / 2+1,j,rfl,rfl,by omega,hj,hs1 hc,hhi,n1,e1,e1,e1,e1,e1⟩
 ·have hdec:decide ((i:Int)<(j:Int))=false:=by simp;omega
  have hei:i=j:=by omega
  subst hei
  have hat:=zLk hr hj hlo hhi
  by_cases hil:i<l.length
  ·have hdl:decide ((i:Int)<(l.length:Int))=true:=by simp;omega
   obtain⟨b,o,ver,ro,e,vs,hix,hget,hvo⟩:=hv.at (List.getElem?_eq_getElem hil)
   have his:bsIs l s=eqL l[i] s:=by rw[bsIs,hat,List.getElem?_eq_getElem hil]
   cases hc:eqL l[i] s
   ·rw[hc] at his
    repeat refine zR ?_
    refine zAr e1 s1 ((zOL H _ _).mono ?_)
    rintro _ _ ⟨rfl,rfl⟩
    repeat' first|refine zG ?_|(with_reducible apply zAD;exact e1;all_goals intro _)
    exact⟨by rw[hat,his],rfl⟩
   ·rw[hc] at his
    repeat' first|refine zG ?_|(with_reducible apply zAD;exact e1;all_goals intro _)
    exact⟨by rw[hat,his],rfl⟩
  ·have hdl:decide ((i:Int)<(l.length:Int))=false:=by simp;omega
   have his:bsIs l s=false:=by rw[bsIs,hat,List.getElem?_eq_none (by omega)]
   repeat' first|refine zG ?_|(with_reducible apply zAD;exact e1;all_goals intro _)
   exact⟨by rw[hat,his],rfl⟩
end
end Go.Ab.S
end
