import Derived.Test.YtpmndmiohaaokaaGreatDoorP11
/-
  Part 12 of the proof.
-/
set_option linter.all false
section
namespace Go.Ab.S
open Go.Ab
set_option maxHeartbeats 1000000
def zCa (k:List Nat):List (List Nat)->Nat
 |[]=>0
 |x::r=>if eqL k x then 0 else zCa k r+1
theorem zCc {k:List Nat}:∀{l:List (List Nat)},k∈l->l[zCa k l]?=some k/\∀j,j<zCa k l->l[j]?≠some k
 |[],h=>by cases h
 |x::r,h=>by
  rw [zCa]
  by_cases hk:k=x
  ·rw [if_pos (zBR.2 hk)]
   exact ⟨by rw [hk];rfl,fun j hj=>by omega⟩
  ·rw [if_neg (by rw [zBR];exact hk)]
   have hr:k∈r:=by
    rcases List.mem_cons.1 h with h|h
    ·exact absurd h hk
    ·exact h
   obtain ⟨h1,h2⟩:=zCc hr
   refine ⟨by simpa using h1,fun j hj=>?_⟩
   cases j with
   |zero=>simp;exact fun e=>hk e.symm
   |succ j=>simpa using h2 j (by omega)
theorem zIr {k:List Nat} {l:List (List Nat)} {i:Nat} (h:l[i]?=some k):zCa k l<=i:=by
 rcases Nat.lt_or_ge i (zCa k l) with hlt|hge
 ·exact absurd h ((zCc (List.mem_of_getElem? h)).2 i hlt)
 ·exact hge
def zJh (ns:List Node) (cl:List Int):List (List Nat):=(List.range ns.length).map fun i=>keyS cl i (ns.getD i zAp)
def zBg (ns:List Node) (cl:List Int):List Int:=(zJh ns cl).map fun k=>(zCa k (zJh ns cl):Int)
def zDG (ns:List Node):Nat->List Int->List Int
 |0,cl=>cl
 |m+1,cl=>if eqII (zBg ns cl) cl then zBg ns cl else zDG ns m (zBg ns cl)
def zAH (g:Graph):List Int:=zDG g.nodes (g.nodes.length+1) (List.replicate g.nodes.length 0)
def mapN (cl:List Int) (n:Node):Node:={n with args:=n.args.map (clAt cl)}
def zAy (g:Graph):Graph:=if zAF g=0 then zCI ⟨g.nodes.map (mapN (zAH g)),clAt (zAH g) g.root⟩ else ⟨[],0⟩

theorem zOO (ns:List Node) (cl:List Int):(zJh ns cl).length=ns.length:=by simp [zJh]
theorem zEG {ns:List Node} {cl:List Int} {i:Nat} (h:i<ns.length):(zJh ns cl)[i]?=some (keyS cl i (ns.getD i zAp)):=by
 simp [zJh,h]
theorem zEj (ns:List Node) (cl:List Int):(zBg ns cl).length=ns.length:=by simp [zBg,zOO]
theorem zCY (cl:List Int) (i:Nat):clAt cl (i:Int)=cl.getD i 0:=rfl
theorem zGp {ns:List Node} {cl:List Int} {i:Nat} (h:i<ns.length):clAt (zBg ns cl) (i:Int)=(zCa (keyS cl i (ns.getD i zAp)) (zJh ns cl):Int):=by
 rw [zCY,List.getD,zBg,zgM,zEG h];rfl
structure ClsOK (N:Nat) (cl:List Int):Prop where
 len:cl.length=N
 le:∀i:Nat,i<N->∃j:Nat,clAt cl i=j/\j<=i/\clAt cl j=j
theorem ClsOK.inR {N:Nat} {cl:List Int} (k:ClsOK N cl) (hN:N<2 ^ 60) (a:Int):InR (clAt cl a):=by
 by_cases h:a.toNat<N
 ·obtain ⟨j,h1,h2,_⟩:=k.le a.toNat h
  have:clAt cl a=j:=h1
  rw [this];exact ⟨by omega,by omega⟩
 ·have:clAt cl a=0:=by unfold clAt;rw [List.getD,List.getElem?_eq_none (by rw [k.len];omega)];rfl
  rw [this];exact ⟨by decide,by decide⟩
theorem ClsOK.zero (N:Nat):ClsOK N (List.replicate N 0):=by
 refine ⟨by simp,fun i hi=>⟨0,?_,by omega,?_⟩⟩
 ·rw [zCY,List.getD,List.getElem?_replicate,if_pos hi];rfl
 ·rw [zCY,List.getD,List.getElem?_replicate];split<;>rfl
theorem zIH {ns:List Node} {cl:List Int} {i j:Nat} (hi:i<ns.length) (hj:j<ns.length):clAt (zBg ns cl) i=clAt (zBg ns cl) j↔keyS cl i (ns.getD i zAp)=keyS cl j (ns.getD j zAp):=by
 rw [zGp hi,zGp hj]
 have mi:=List.mem_of_getElem? (zEG (cl:=cl) hi)
 have mj:=List.mem_of_getElem? (zEG (cl:=cl) hj)
 constructor
 ·intro h
  have h:zCa (keyS cl i (ns.getD i zAp)) (zJh ns cl)=zCa (keyS cl j (ns.getD j zAp)) (zJh ns cl):=by omega
  have h1:=(zCc mi).1
  rw [h,(zCc mj).1] at h1
  exact (Option.some.inj h1).symm
 ·intro h;rw [h]
theorem zII {ns:List Node} {cl:List Int} {i:Nat} (hi:i<ns.length):∃j:Nat,clAt (zBg ns cl) i=j/\j<=i/\keyS cl j (ns.getD j zAp)=keyS cl i (ns.getD i zAp):=by
 have mi:=List.mem_of_getElem? (zEG (cl:=cl) hi)
 have hle:=zIr (zEG (cl:=cl) hi)
 refine ⟨_,zGp hi,hle,?_⟩
 have h1:=(zCc mi).1
 rw [zEG (by omega)] at h1
 exact Option.some.inj h1
theorem ClsOK.refine (ns:List Node) (cl:List Int):ClsOK ns.length (zBg ns cl):=by
 refine ⟨zEj _ _,fun i hi=>?_⟩
 obtain ⟨j,h1,h2,h3⟩:=zII (cl:=cl) hi
 exact ⟨j,h1,h2,by rw [(zIH (i:=j) (by omega) hi).2 h3];exact h1⟩

theorem zHf {α:Type} {p q:α->Bool}:∀{l:List α},(∀x∈l,p x=true->q x=true)->(∃x∈l,p x=false/\q x=true)->l.countP p<l.countP q
 |[],_,h=>by obtain ⟨x,hx,_⟩:=h;cases hx
 |y::l,h,hx=>by
  have hle:l.countP p<=l.countP q:=List.countP_mono_left fun x hx=>h x (by simp [hx])
  obtain ⟨x,hx,h1,h2⟩:=hx
  rcases List.mem_cons.1 hx with rfl|hx
  ·simp only [List.countP_cons,h1,h2];simp;omega
  ·have ih:=zHf (l:=l) (fun x hx=>h x (by simp [hx])) ⟨x,hx,h1,h2⟩
   simp only [List.countP_cons]
   have:=h y (by simp)
   cases hp:p y<;>cases hq:q y<;>simp<;>first|omega|(rw [this hp] at hq;cases hq)
def fixc (N:Nat) (cl:List Int):Nat:=(List.range N).countP fun i:Nat=>clAt cl (i:Int)==(i:Int)
theorem zRM (N:Nat) (cl:List Int):fixc N cl<=N:=by
 have:=List.countP_le_length (p:=fun i:Nat=>clAt cl i==(i:Int)) (l:=List.range N)
 rwa [List.length_range] at this
def NsOK (ns:List Node):Prop:=ns.length<2 ^ 60/\∀n∈ns,mayF n ns.length=true
theorem NsOK.at {ns:List Node} (h:NsOK ns) {i:Nat} (hi:i<ns.length):mayF (ns.getD i zAp) ns.length=true:=by
 rw [List.getD,zgG hi];exact h.2 _ (List.getElem_mem hi)
theorem zON {ns:List Node} (hns:NsOK ns) {cl:List Int} (k:ClsOK ns.length cl) {i j:Nat} (hi:i<ns.length) (hj:j<ns.length) (h:keyS cl i (ns.getD i zAp)=keyS cl j (ns.getD j zAp)):
  clAt cl i=clAt cl j/\((zAW (ns.getD i zAp)=true\/zAW (ns.getD j zAp)=true)->i=j)/\(ns.getD i zAp).kind=(ns.getD j zAp).kind/\(ns.getD i zAp).name=(ns.getD j zAp).name/\(ns.getD i zAp).labels=(ns.getD j zAp).labels/\(ns.getD i zAp).args.map (clAt cl)=(ns.getD j zAp).args.map (clAt cl)/\zAW (ns.getD i zAp)=zAW (ns.getD j zAp):=
 zRV (k.inR hns.1) ⟨by omega,by have:=hns.1;omega⟩ ⟨by omega,by have:=hns.1;omega⟩ (hns.at hi) (hns.at hj) h
theorem zLc {ns:List Node} (hns:NsOK ns) {cl:List Int} (k:ClsOK ns.length cl) (hne:eqII (zBg ns cl) cl=false):fixc ns.length cl<fixc ns.length (zBg ns cl):=by
 refine zHf (fun i hi hp=>?_) ?_
 ·have hi:=List.mem_range.1 hi
  have hp:clAt cl i=(i:Int):=by simpa using hp
  obtain ⟨j,h1,h2,h3⟩:=zII (cl:=cl) hi
  have h4:=(zON hns k (by omega) hi h3).1
  obtain ⟨j',h5,h6,_⟩:=k.le j (by omega)
  have:j=i:=by omega
  subst this
  simpa using h1
 ·apply Classical.byContradiction
  intro hno
  have hall:∀i:Nat,i<ns.length->clAt (zBg ns cl) i=clAt cl i:=by
   intro i hi
   obtain ⟨j,h1,h2,h3⟩:=zII (cl:=cl) hi
   have hj:j<ns.length:=by omega
   have h4:=(zON hns k hj hi h3).1
   obtain ⟨j',q1,q2,q3⟩:=(ClsOK.refine ns cl).le i hi
   have:j'=j:=by omega
   subst this
   have hfix:clAt cl j'=(j':Int):=by
    apply Classical.byContradiction
    intro hc
    exact hno ⟨j',List.mem_range.2 hj,by simpa using hc,by simpa using q3⟩
   omega
  have:zBg ns cl=cl:=by
   apply List.ext_getElem?
   intro i
   by_cases hi:i<ns.length
   ·have h:=hall i hi
    rw [zCY,zCY,List.getD,List.getD,zgG (by rw [zEj];exact hi),zgG (by rw [k.len];exact hi)] at h
    rw [zgG (by rw [zEj];exact hi),zgG (by rw [k.len];exact hi)]
    simpa using h
   ·rw [List.getElem?_eq_none (by rw [zEj];omega),List.getElem?_eq_none (by rw [k.len];omega)]
  rw [zJZ.2 this] at hne;cases hne
theorem zHd {ns:List Node} (hns:NsOK ns):∀(m:Nat) (cl:List Int),ClsOK ns.length cl->ns.length - fixc ns.length cl<m->zBg ns (zDG ns m cl)=zDG ns m cl/\ClsOK ns.length (zDG ns m cl)
 |0,_,_,h=>by omega
 |m+1,cl,k,h=>by
  rw [zDG]
  cases he:eqII (zBg ns cl) cl with
  |true=>
   have:=zJZ.1 he
   simp only [if_true]
   exact ⟨by rw [this];exact this,ClsOK.refine ns cl⟩
  |false=>
   simp only [Bool.false_eq_true,if_false]
   have h1:=zLc hns k he
   have h2:=zRM ns.length (zBg ns cl)
   exact zHd hns m _ (ClsOK.refine ns cl) (by omega)
def Bis (ns:List Node) (E:Nat->Nat->Prop):Prop:=∀i j,E i j->i<ns.length/\j<ns.length/\(i=j\/(zAW (ns.getD i zAp)=false/\zAW (ns.getD j zAp)=false/\(ns.getD i zAp).kind=(ns.getD j zAp).kind/\(ns.getD i zAp).name=(ns.getD j zAp).name/\(ns.getD i zAp).labels=(ns.getD j zAp).labels/\(ns.getD i zAp).args.length=(ns.getD j zAp).args.length∧
 ∀(k:Nat) (a b:Int),(ns.getD i zAp).args[k]?=some a->(ns.getD j zAp).args[k]?=some b->E a.toNat b.toNat))
theorem zRB {ns:List Node} {E:Nat->Nat->Prop} (hE:Bis ns E) {cl:List Int} (hc:∀i j,E i j->clAt cl i=clAt cl j) {i j:Nat} (h:E i j):keyS cl i (ns.getD i zAp)=keyS cl j (ns.getD j zAp):=by
 obtain ⟨hi,hj,rfl|⟨h1,h2,h3,h4,h5,h6,h7⟩⟩:=hE i j h
 ·rfl
 ·have ha:(ns.getD i zAp).args.map (clAt cl)=(ns.getD j zAp).args.map (clAt cl):=by
   apply List.ext_getElem?
   intro k
   rw [zgM,zgM]
   by_cases hk:k<(ns.getD i zAp).args.length
   ·have hk':k<(ns.getD j zAp).args.length:=by omega
    rw [zgG hk,zgG hk']
    exact congrArg some (hc _ _ (h7 k _ _ (zgG hk) (zgG hk')))
   ·rw [List.getElem?_eq_none (by omega),List.getElem?_eq_none (by omega)]
  have hargs:argS (clAt cl) (ns.getD i zAp).args=argS (clAt cl) (ns.getD j zAp).args:=by
   have:∀l:List Int,argS (clAt cl) l=((l.map (clAt cl)).map fun x=>44::zFB x).flatten:=fun l=>by simp [argS,List.map_map];rfl
   rw [this,this,ha]
  unfold keyS
  rw [hc i j h,h1,h2]
  simp only [zNF,zOJ,h3,h4,h5,hargs,Bool.false_eq_true,if_false]
theorem zGz {ns:List Node} {E:Nat->Nat->Prop} (hE:Bis ns E):∀(m:Nat) (cl:List Int),(∀i j,E i j->clAt cl i=clAt cl j)->∀i j,E i j->clAt (zDG ns m cl) i=clAt (zDG ns m cl) j
 |0,_,h=>h
 |m+1,cl,h=>by
  have hr:∀i j,E i j->clAt (zBg ns cl) i=clAt (zBg ns cl) j:=fun i j hij=>(zIH (hE i j hij).1 (hE i j hij).2.1).2 (zRB hE h hij)
  rw [zDG]
  split
  ·exact hr
  ·exact zGz hE m _ hr
theorem zBH {g:Graph} (h:zAF g=0):NsOK g.nodes:=by
 obtain ⟨_,_,h1,h2⟩:=zAU h
 exact ⟨Nat.lt_of_le_of_lt h1 (by decide),h2⟩
theorem zIk {g:Graph} (h:zAF g=0):zBg g.nodes (zAH g)=zAH g/\ClsOK g.nodes.length (zAH g):=
 zHd (zBH h) _ _ (ClsOK.zero _) (by omega)
theorem zEc {g:Graph} (h:zAF g=0) {i j:Nat} (hi:i<g.nodes.length) (hj:j<g.nodes.length) (he:clAt (zAH g) i=clAt (zAH g) j):
  ((zAW (g.nodes.getD i zAp)=true\/zAW (g.nodes.getD j zAp)=true)->i=j)/\(g.nodes.getD i zAp).kind=(g.nodes.getD j zAp).kind/\(g.nodes.getD i zAp).name=(g.nodes.getD j zAp).name/\(g.nodes.getD i zAp).labels=(g.nodes.getD j zAp).labels/\(g.nodes.getD i zAp).args.map (clAt (zAH g))=(g.nodes.getD j zAp).args.map (clAt (zAH g))/\zAW (g.nodes.getD i zAp)=zAW (g.nodes.getD j zAp):=by
 obtain ⟨h1,h2⟩:=zIk h
 rw [<-h1] at he
 exact (zON (zBH h) h2 hi hj ((zIH hi hj).1 he)).2
theorem zHA {g:Graph} {E:Nat->Nat->Prop} (hE:Bis g.nodes E) {i j:Nat} (h:E i j):clAt (zAH g) i=clAt (zAH g) j:=
 zGz hE _ _ (fun i j hij=>by
  obtain ⟨i',h1,h2,h3⟩:=(ClsOK.zero g.nodes.length).le i (hE i j hij).1
  have z:∀k:Nat,clAt (List.replicate g.nodes.length 0) k=0:=fun k=>by
   rw [zCY,List.getD,List.getElem?_replicate];split<;>rfl
  rw [z,z]) _ _ h
end Go.Ab.S
end
section
namespace Go.Ab.S
open Go.Ab
set_option maxHeartbeats 8000000
theorem le31 {n:Nat} (h:n<=100000):n<=2 ^ 31:=Nat.le_trans h (by decide)
structure Hid (p:Prop):Prop where
 out:p
def tagO:AObj->Nat
 | .cells _ e _=>e+5
 | .map _ _=>0
 | .loop _ _ _ _ _ _ _=>1
 | .dfr _=>2
 | .iter _ _ _ _=>3
 | .iter0=>4
theorem _root_.Go.Ab.But.kp {b:Nat} {h h':AHeap} {p q:Nat×AObj} (P:But b h h') (hb:h.objs.get b=some p) {c:Nat} (hc:h.objs.get c=some q) (hne:(tagO p.2==tagO q.2)=false):h'.objs.get c=some q:=
 P.keep c (by rintro rfl;rw [hb] at hc;simp only [oI] at hc;rw [hc] at hne;simp at hne) _ hc
section
variable {fns:FnsT} {summ:SumT} {ro:Option Nat}
theorem zBB {i p:Nat} {d:Option Tmp} {op:EOp} {l:List DStep} {hs:List Held} {a:AAct} {h:AHeap} {K:AAct->AHeap->Prop} (k:St fns summ ro [⟨d,none,.e op⟩] a h fun a h=>zAa h p hs=true/\Dr fns summ ro l (zGG p hs) a h K):Dr fns summ ro (⟨i,p,⟨d,none,.e op⟩⟩::l) hs a h K:=by
 refine dr_e ?_
 unfold St StepsW Ev at k
 unfold Ex EW Ev
 obtain ⟨n,hn⟩:=k
 refine ⟨n,fun m hm=>?_⟩
 have:=hn m hm
 simp only [zGe,zFb,zDY] at this
 rw [D.sat_bind] at this
 exact D.sat_mono this fun p hp=>hp
theorem zIQ {d:Option Tmp} {x y:AOpd} {l:List Step} {a:AAct} {h:AHeap} {K:AAct->AHeap->Prop} {u v:Int} (hx:ev a x=some (.int .i64 u)) (hy:ev a y=some (.int .i64 v)) (k:St fns summ ro l (putA a d (.agg [.int .i64 u,.int .i64 v])) h K):
  St fns summ ro (⟨d,none,.q (.build [.int .i64 0,.int .i64 0] [(0,1,x),(1,1,y)])⟩::l) a h K:=by
 refine st_q (v:=.agg [.int .i64 u,.int .i64 v]) (b:=none) ?_ k
 simp [qA,zCy,hx,hy,zAj]
theorem zLO {i p:Nat} {d:Option Tmp} {x y:AOpd} {l:List DStep} {hs:List Held} {a:AAct} {h:AHeap} {K:AAct->AHeap->Prop} {u v:Int} (hx:ev a x=some (.int .i64 u)) (hy:ev a y=some (.int .i64 v)) (k:Dr fns summ ro l hs (putA a d (.agg [.int .i64 u,.int .i64 v])) h K):
  Dr fns summ ro (⟨i,p,⟨d,none,.q (.build [.int .i64 0,.int .i64 0] [(0,1,x),(1,1,y)])⟩⟩::l) hs a h K:=by
 refine dr_q (v:=.agg [.int .i64 u,.int .i64 v]) ?_ k
 simp [qA,zCy,hx,hy,zAj]
end
theorem zFP {kk:KeyK} {x y v:AVal} {c:Nat}:∀(es:List (AVal×AVal×Nat)) (i:Nat),zBp kk x es i=some none->∀b,keyA kk x y=some b->zBp kk x (es++[(y,v,c)]) i=some (if b then some (i+es.length,v) else none)
 |[],i,_,b,hk=>by
  simp only [zlA,zBp,hk,zlN,Nat.add_zero]
  cases b<;>rfl
 |(y',v',c')::es,i,h,b,hk=>by
  rw [zBp] at h
  rw [zlK,zBp]
  cases hy:keyA kk x y' with
  |none=>rw [hy] at h;cases h
  |some t=>
   cases t with
   |true=>rw [hy] at h;cases h
   |false=>
    rw [hy] at h
    simp only
    rw [zFP es (i+1) h b hk,zlC]
    congr 2
    rw [show i+1+es.length=i+(es.length+1) by omega]
theorem zFO {kk:KeyK} {x:AVal} {p:Nat×AVal} {e:AVal×AVal×Nat}:∀(es:List (AVal×AVal×Nat)) (i:Nat),zBp kk x es i=some (some p)->zBp kk x (es++[e]) i=some (some p)
 |[],i,h=>by cases h
 |(y',v',c')::es,i,h=>by
  rw [zBp] at h
  rw [zlK,zBp]
  cases hy:keyA kk x y' with
  |none=>rw [hy] at h;cases h
  |some t=>
   cases t with
   |true=>rw [hy] at h;exact h
   |false=>rw [hy] at h;exact zFO es (i+1) h
def FI (es:List (AVal×AVal×Nat)) (keys:List (List Nat)) (j:Nat):Prop:=∀k,∃i,zBp .str (.str k) es 0=some (if k∈keys.take j then some (i,.int .i64 (zCa k keys:Nat)) else none)
theorem FI.zero (keys:List (List Nat)):FI [] keys 0:=fun k=>⟨0,by simp [zBp]⟩
theorem FI.stay {es:List (AVal×AVal×Nat)} {keys:List (List Nat)} {j:Nat} (hj:j<keys.length) (h:FI es keys j) (hm:keys[j]∈keys.take j):FI es keys (j+1):=fun k=>by
 obtain ⟨i,hi⟩:=h k
 refine ⟨i,?_⟩
 rw [hi]
 have:k∈keys.take (j+1)↔k∈keys.take j:=by
  rw [List.take_succ_eq_append_getElem hj,List.mem_append,List.mem_singleton]
  exact ⟨fun h=>h.elim id (fun h=>h ▸ hm),.inl⟩
 simp only [this]
theorem zOB {keys:List (List Nat)} {j:Nat} (hj:j<keys.length) (hm:keys[j]∉keys.take j):zCa keys[j] keys=j:=by
 have h1:=zIr (zgG hj)
 have h2:=(zCc (List.getElem_mem hj)).1
 rcases Nat.lt_or_ge (zCa keys[j] keys) j with hlt|hge
 ·rw [zgG (by omega)] at h2
  exact absurd (List.mem_take_iff_getElem.2 ⟨zCa keys[j] keys,by omega,Option.some.inj h2⟩) hm
 ·omega
theorem FI.put {es:List (AVal×AVal×Nat)} {keys:List (List Nat)} {j c:Nat} (hj:j<keys.length) (h:FI es keys j) (hm:keys[j]∉keys.take j):FI (es++[(.str keys[j],.int .i64 (j:Nat),c)]) keys (j+1):=fun k=>by
 obtain ⟨i,hi⟩:=h k
 by_cases hk:k∈keys.take j
 ·rw [if_pos hk] at hi
  refine ⟨i,?_⟩
  rw [zFO es 0 hi,if_pos (by rw [List.take_succ_eq_append_getElem hj];exact List.mem_append.2 (.inl hk))]
 ·rw [if_neg hk] at hi
  refine ⟨0+es.length,?_⟩
  rw [zFP es 0 hi (eqL k keys[j]) rfl]
  by_cases he:k=keys[j]
  ·subst he
   have hin:keys[j]∈keys.take (j+1):=by rw [List.take_succ_eq_append_getElem hj];exact List.mem_append.2 (.inr (List.mem_singleton.2 rfl))
   rw [if_pos (zBR.2 rfl),if_pos hin,zOB hj hm]
  ·rw [if_neg (by rw [zBR];exact he),if_neg (by
    rw [List.take_succ_eq_append_getElem hj,List.mem_append,List.mem_singleton]
    exact fun h=>h.elim hk he)]
theorem FI.look {h:AHeap} {r ver c:Nat} {es:List (AVal×AVal×Nat)} {keys:List (List Nat)} {j:Nat} (hg:h.objs.get r=some (ver,.map es c)) (f:FI es keys j) (k:List Nat):zDB h .str (.int .i64 0) true (.map (some r)) (.str k)=some (.tuple [.int .i64 (if k∈keys.take j then (zCa k keys:Nat) else 0),.bool (decide (k∈keys.take j))],some r):=by
 obtain ⟨i,hi⟩:=f k
 simp only [zDB,zEh,hg,hi]
 by_cases hk:k∈keys.take j
 ·simp [hk]
 ·simp [hk]
structure FInv (h0:AHeap) (b2 b3 r5 b6:Nat) (nv cv:AVal) (root:Int) (keys:List (List Nat)) (out:List Int) (j:Nat) (hp:AHeap):Prop where
 grow:Grow h0 hp
 o2:∃ver,hp.objs.get b2=some (ver,.cells false 24 [nv,.int .i64 root])
 o3:∃ver,hp.objs.get b3=some (ver,.cells false 28 [cv])
 o5:∃ver es c,hp.objs.get r5=some (ver,.map es c)/\FI es keys j
 o6:∃ver vs,hp.objs.get b6=some (ver,.cells false 3 vs)/\vs.length=out.length/\vs.take j=(out.take j).map (AVal.int .i64)
 low:h0.next<=r5/\h0.next<=b6
theorem FInv.other {h0:AHeap} {b2 b3 r5 b6:Nat} {nv cv:AVal} {root:Int} {keys:List (List Nat)} {out:List Int} {j:Nat} {hp hq:AHeap} (I:FInv h0 b2 b3 r5 b6 nv cv root keys out j hp) (g:Grow hp hq):FInv h0 b2 b3 r5 b6 nv cv root keys out j hq:=by
 obtain ⟨v2,k2⟩:=I.o2
 obtain ⟨v3,k3⟩:=I.o3
 obtain ⟨v5,es,c,k5,kf⟩:=I.o5
 obtain ⟨v6,vs,k6,kl,kt⟩:=I.o6
 exact ⟨I.grow.trans g,⟨v2,g.keep _ _ k2⟩,⟨v3,g.keep _ _ k3⟩,⟨v5,es,c,g.keep _ _ k5,kf⟩,⟨v6,vs,g.keep _ _ k6,kl,kt⟩,I.low⟩
structure GTi (g:Graph):Prop extends GSm g where
 tinyN:g.nodes.length<=4096
 tinyA:∀n∈g.nodes,n.args.length<=4096
section
variable {fns:FnsT} {summ:SumT}
variable (H:Has fns summ)
include H
end
end Go.Ab.S
end
section
namespace Go.Ab.S
open Go.Ab
set_option maxHeartbeats 8000000
section
variable {fns:FnsT} {summ:SumT}
variable (H:Has fns summ)
include H
end
end Go.Ab.S
end
section
namespace Go.Ab.S
open Go.Ab
set_option maxHeartbeats 8000000
structure LInv (h0:AHeap) (b1 b2 b4:Nat) (nv cv:AVal) (root root':Int) (cl:List Int) (ns:List Node) (hp:AHeap):Prop where
 grow:Grow h0 hp
 o1:∃ver,hp.objs.get b1=some (ver,.cells false 24 [nv,.int .i64 root])
 o2:∃ver,hp.objs.get b2=some (ver,.cells false 24 [.slice none 0,.int .i64 0])
 o4:∃(ver:Nat) (vo:AVal) (cs:List (List AVal)),hp.objs.get b4=some (ver,.cells false 24 [vo,.int .i64 root'])/\Built hp h0.next 36 5 vo ns.length cs.flatten/\cs.length=ns.length∧
  ∀(i:Nat) c n,cs[i]?=some c->ns[i]?=some n->∃av lv,c=[.int .i64 n.kind,.str n.name,av,lv,.bool n.isOpen]/\Built hp h0.next 3 1 av n.args.length (n.args.map (AVal.int .i64))/\StrsAt h0 lv n.labels
 bcl:Built hp h0.next 3 1 cv cl.length (cl.map (AVal.int .i64))
 low:h0.next<=b1/\h0.next<=b2/\h0.next<=b4/\b1≠b4/\b2≠b4
theorem LInv.other {h0:AHeap} {b1 b2 b4:Nat} {nv cv:AVal} {root root':Int} {cl:List Int} {ns:List Node} {hp hq:AHeap} (I:LInv h0 b1 b2 b4 nv cv root root' cl ns hp) (g:Grow hp hq):LInv h0 b1 b2 b4 nv cv root root' cl ns hq:=by
 obtain ⟨v1,k1⟩:=I.o1
 obtain ⟨v2,k2⟩:=I.o2
 obtain ⟨v4,vo,cs,k4,kB,kl,kn⟩:=I.o4
 exact ⟨I.grow.trans g,⟨v1,g.keep _ _ k1⟩,⟨v2,g.keep _ _ k2⟩,⟨v4,vo,cs,g.keep _ _ k4,kB.grow g,kl,fun i c n hc hn=>by
  obtain ⟨av,lv,q1,q2,q3⟩:=kn i c n hc hn
  exact ⟨av,lv,q1,q2.grow g,q3⟩⟩,I.bcl.grow g,I.low⟩
theorem LInv.graph {h0:AHeap} {b1 b2 b4:Nat} {nv cv:AVal} {root root':Int} {cl:List Int} {ns:List Node} {hp:AHeap} (I:LInv h0 b1 b2 b4 nv cv root root' cl ns hp):∃ver vo,hp.objs.get b4=some (ver,.cells false 24 [vo,.int .i64 root'])/\NodesAt hp vo ns:=by
 obtain ⟨v4,vo,cs,k4,kB,kl,kn⟩:=I.o4
 have h5:∀c∈cs,c.length=5:=by
  intro c hc
  obtain ⟨i,hi,rfl⟩:=List.mem_iff_getElem.1 hc
  obtain ⟨av,lv,q1,_⟩:=kn i _ _ (zgG hi) (zgG (by omega))
  rw [q1];rfl
 refine ⟨v4,vo,k4,cs,kB.sl (by decide) rfl h5 kl,kl,fun i n c hn hc=>?_⟩
 obtain ⟨av,lv,q1,q2,q3⟩:=kn i c n hc hn
 exact ⟨av,lv,q1,zDK q2,q3.mono I.grow⟩
section
variable {fns:FnsT} {summ:SumT}
variable (H:Has fns summ)
include H
omit H in
theorem GTi.map {g:Graph} (hg:GTi g) (cl:List Int) (root:Int):GTi ⟨g.nodes.map (mapN cl),root⟩:=by
 have hlf:zAe [] (g.nodes.map (mapN cl)) 0=zAe [] g.nodes 0:=by
  have:∀(ns:List Node) (i:Nat),zAe [] (ns.map (mapN cl)) i=zAe [] ns i:=by
   intro ns
   induction ns with
   |nil=>intro i;rfl
   |cons n r ih=>intro i;simp only [List.map_cons,zAe,ih,mapN,List.length_map]
  exact this _ _
 refine ⟨⟨⟨by simpa using hg.nodes,fun n hn=>?_⟩,by simpa [hlf] using hg.total,fun n hn=>?_⟩,by simpa using hg.tinyN,fun n hn=>?_⟩
 ·obtain ⟨m,hm,rfl⟩:=List.mem_map.1 hn
  have:=hg.all m hm
  exact ⟨by simpa [mapN] using this.args,this.labels,this.texts⟩
 ·obtain ⟨m,hm,rfl⟩:=List.mem_map.1 hn
  exact hg.labs m hm
 ·obtain ⟨m,hm,rfl⟩:=List.mem_map.1 hn
  simpa [mapN] using hg.tinyA m hm
end
end Go.Ab.S
end
section
namespace Go.Ab.S
open Go.Ab
set_option maxHeartbeats 8000000
theorem zCx:∀s:List Nat,zBJ s s=false
 |[]=>rfl
 |a::s=>by
  have h1:Nat.blt a a=false:=by
   cases h:Nat.blt a a
   ·rfl
   ·exact absurd (Nat.blt_eq.mp h) (Nat.lt_irrefl _)
  rw [zBJ,h1,Nat.beq_refl];exact zCx s
theorem zHt:∀{x y:List Nat} {a b:Nat},zBJ (a::x) (b::y)=true↔a<b\/(a=b/\zBJ x y=true):=by
 intro x y a b
 rw [zBJ]
 cases h:Nat.blt a b with
 |true=>
  have:=Nat.blt_eq.mp h
  simp [this]
 |false=>
  have hn:¬a<b:=fun hh=>by rw [Nat.blt_eq.mpr hh] at h;cases h
  cases h2:Nat.beq a b with
  |true=>
   have:=Nat.eq_of_beq_eq_true h2
   simp [this]
  |false=>
   have:a≠b:=by rintro rfl;rw [Nat.beq_refl] at h2;cases h2
   simp [hn,this]
theorem zCb:∀{x y z:List Nat},zBJ x y=true->zBJ y z=true->zBJ x z=true
 |_,[],_,h,_=>by cases ‹List Nat› <;>simp [zBJ] at h
 |[],_::_,[],_,h=>by simp [zBJ] at h
 |[],_::_,_::_,_,_=>rfl
 |_::_,_::_,[],_,h=>by simp [zBJ] at h
 |a::x,b::y,c::z,h1,h2=>by
  rw [zHt] at h1 h2 ⊢
  rcases h1 with h1|⟨rfl,h1⟩<;>rcases h2 with h2|⟨rfl,h2⟩
  ·exact .inl (by omega)
  ·exact .inl h1
  ·exact .inl h2
  ·exact .inr ⟨rfl,zCb h1 h2⟩
theorem zGQ:∀(x y:List Nat),zBJ x y=true\/x=y\/zBJ y x=true
 |[],[]=>.inr (.inl rfl)
 |[],_::_=>.inl rfl
 |_::_,[]=>.inr (.inr rfl)
 |a::x,b::y=>by
  rw [zHt,zHt]
  rcases Nat.lt_trichotomy a b with h|rfl|h
  ·exact .inl (.inl h)
  ·rcases zGQ x y with h|rfl|h
   ·exact .inl (.inr ⟨rfl,h⟩)
   ·exact .inr (.inl rfl)
   ·exact .inr (.inr (.inr ⟨rfl,h⟩))
  ·exact .inr (.inr (.inl h))
def Rises (l:List (List Nat)):Prop:=∀i j:Nat,i<j->∀x y,l[i]?=some x->l[j]?=some y->zBJ x y=true
theorem zQr:∀{l:List (List Nat)} {p:List Nat},risG (some p) l=true->∀x∈l,zBJ p x=true
 |[],_,_=>by intro x hx;cases hx
 |y::l,p,h=>by
  simp only [risG,Bool.and_eq_true] at h
  intro x hx
  rcases List.mem_cons.1 hx with rfl|hx
  ·exact h.1.2
  ·exact zCb h.1.2 (zQr h.2 x hx)
theorem zBE:∀{l:List (List Nat)} {p:Option (List Nat)},risG p l=true->Rises l
 |[],_,_=>by intro i j _ x y hx;simp at hx
 |z::l,p,h=>by
  simp only [risG,Bool.and_eq_true] at h
  intro i j hij x y hx hy
  cases j with
  |zero=>omega
  |succ j=>
   have hy':l[j]?=some y:=by simpa using hy
   cases i with
   |zero=>
    have hx':z=x:=by simpa using hx
    rw [<-hx'];exact zQr h.2 y (List.mem_of_getElem? hy')
   |succ i=>exact zBE h.2 i j (by omega) x y (by simpa using hx) hy'
def bsAt (l:List (List Nat)) (s:List Nat):Nat:=(l.filter fun x=>zBJ x s).length
theorem zPK {l:List (List Nat)} (hr:Rises l) {s:List Nat} {m:Nat} (hm:m<=l.length) (h1:∀i x,i<m->l[i]?=some x->zBJ x s=true) (h2:∀i x,m<=i->l[i]?=some x->zBJ x s=false):bsAt l s=m:=by
 unfold bsAt
 have:l.filter (fun x=>zBJ x s)=l.take m:=by
  conv=>lhs;rw [<-List.take_append_drop m l]
  rw [List.filter_append]
  have e1:(l.take m).filter (fun x=>zBJ x s)=l.take m:=by
   rw [List.filter_eq_self]
   intro x hx
   obtain ⟨i,hi,rfl⟩:=List.mem_iff_getElem.1 hx
   rw [List.getElem_take]
   simp only [List.length_take] at hi
   exact h1 i _ (by omega) (zgG (by omega))
  have e2:(l.drop m).filter (fun x=>zBJ x s)=[]:=by
   rw [List.filter_eq_nil_iff]
   intro x hx
   obtain ⟨i,hi,rfl⟩:=List.mem_iff_getElem.1 hx
   rw [List.getElem_drop]
   simp only [List.length_drop] at hi
   have:=h2 (m+i) _ (by omega) (zgG (by omega))
   rw [this];simp
  rw [e1,e2,zlE]
 rw [this,List.length_take];omega
def bsIs (l:List (List Nat)) (s:List Nat):Bool:=match l[bsAt l s]? with |some x=>eqL x s|none=>false
section
variable {fns:FnsT} {summ:SumT}
variable (H:Has fns summ)
include H
end
end Go.Ab.S
end
section
namespace Go.Ab.S
open Go.Ab
set_option maxHeartbeats 8000000
abbrev Pr:=Int×Int
def zBS (p:Pr):List AVal:=[.int .i64 p.1,.int .i64 p.2]
def rowC (w:List Pr):List AVal:=(w.reverse.map zBS).flatten
def zBr (g h:Graph):List Pr:=(List.range g.nodes.length).flatMap fun (i:Nat)=>(List.range h.nodes.length).map fun (j:Nat)=>((i:Int),(j:Int))
theorem zBO {g h:Graph} {p:Pr}:p∈zBr g h↔(0<=p.1/\p.1<g.nodes.length)/\0<=p.2/\p.2<h.nodes.length:=by
 simp only [zBr,List.mem_flatMap,List.mem_range,List.mem_map]
 constructor
 ·rintro ⟨i,hi,j,hj,rfl⟩;exact ⟨⟨by simp,by simp;omega⟩,by simp,by simp;omega⟩
 ·rintro ⟨⟨h1,h2⟩,h3,h4⟩
  exact ⟨p.1.toNat,by omega,p.2.toNat,by omega,by ext<;>simp<;>omega⟩
theorem zNJ (g h:Graph):(zBr g h).length=g.nodes.length*h.nodes.length:=by
 simp only [zBr,List.length_flatMap,List.length_map,List.length_range]
 generalize g.nodes.length=n
 induction n with
 |zero=>simp
 |succ n ih=>rw [List.range_succ,List.map_append,List.sum_append,ih,Nat.succ_mul];simp
theorem zHr {α:Type} [BEq α] {nx:α->List α} {c:Nat}:∀{ps:List α},(∀p∈ps,(nx p).length<=c)->zDS nx [] ps<=ps.length*c
 |[],_=>by simp [zDS]
 |p::r,h=>by
  have h1:=zHr (ps:=r) fun q hq=>h q (by simp [hq])
  have h2:=h p (by simp)
  simp only [zDS,zlC,Nat.succ_mul]
  split<;>omega
def okS (g h:Graph) (p:Pr):Bool:=zCm (zAB g p.1) (zAB h p.2)
def nxS (g h:Graph) (p:Pr):List Pr:=(List.zip (zAB g p.1).args (zAB h p.2).args).reverse
def badS (g:Graph) (p q:Pr):Bool:=zEs (zAB g p.1)&&(zEs (zAB g q.1)&&(p.1==q.1||p.2==q.2))
def zFa (g h:Graph):Bool:=zAF g==0&&(zAF h==0&&zEn (okS g h) (nxS g h) (badS g) (2+zDS (nxS g h) [] (zBr g h)) [(g.root,h.root)] [])
theorem zJp {g:Graph} {a:Int} (h0:0<=a) (h1:a<g.nodes.length):∃k:Nat,a=(k:Int)/\∃hk:k<g.nodes.length,zAB g a=g.nodes[k]:=by
 refine ⟨a.toNat,by omega,by omega,?_⟩
 simp [zAB,zgG (show a.toNat<g.nodes.length by omega)]
theorem zDU {g:Graph} {a:Int} (h0:0<=a) (h1:a<g.nodes.length):zAB g a∈g.nodes:=by
 obtain ⟨k,_,hk,h⟩:=zJp h0 h1
 rw [h];exact List.getElem_mem hk
theorem zQo {g h:Graph} (hg:zAF g=0) (hh:zAF h=0) {p:Pr} (hp:p∈zBr g h):∀q∈nxS g h p,q∈zBr g h:=by
 intro q hq
 obtain ⟨⟨a0,a1⟩,b0,b1⟩:=zBO.1 hp
 simp only [nxS,List.mem_reverse] at hq
 have h1:=List.of_mem_zip hq
 have h2:=zAt ((zBH hg).2 _ (zDU a0 a1)) _ h1.1
 have h3:=zAt ((zBH hh).2 _ (zDU b0 b1)) _ h1.2
 exact zBO.2 ⟨h2,h3⟩
theorem zND {g h:Graph} (hg:GTi g) (hh:GTi h) {nx:Pr->List Pr} (hn:∀p∈zBr g h,(nx p).length<=(zAB g p.1).args.length):zDS nx [] (zBr g h)<=2 ^ 36:=by
 have h1:=zHr (nx:=nx) (c:=4096) (ps:=zBr g h) (fun p hp=>by
  obtain ⟨⟨a0,a1⟩,_⟩:=zBO.1 hp
  have:=hg.tinyA _ (zDU a0 a1)
  have:=hn p hp
  omega)
 rw [zNJ] at h1
 have h2:=hg.tinyN
 have h3:=hh.tinyN
 have h4:g.nodes.length*h.nodes.length<=4096*4096:=Nat.mul_le_mul (by omega) (by omega)
 have h5:(2:Nat) ^ 36=4096*4096*4096:=by decide
 have h6:=Nat.mul_le_mul_right 4096 h4
 omega
theorem zRm {k:Nat} (hk:k<=2 ^ 37):zCl 16 k=true:=by
 have e37:(2:Nat) ^ 37=137438953472:=by decide
 have e46:(2:Nat) ^ 46=70368744177664:=by decide
 simp only [zCl,Bool.and_eq_true]
 exact ⟨rfl,Nat.ble_eq.mpr (by omega)⟩
def MP (es:List (AVal×AVal×Nat)) (met:List Pr):Prop:=∀p,∃i,zBp (.agg 2) (.agg (zBS p)) es 0=some (if p∈met then some (i,.bool true) else none)
theorem MP.zero:MP [] []:=fun p=>⟨0,by simp [zBp]⟩
theorem zPi (p q:Pr):keyA (.agg 2) (.agg (zBS p)) (.agg (zBS q))=some (decide (p=q)):=by
  obtain ⟨a,b⟩:=p
  obtain ⟨c,d⟩:=q
  simp only [keyA,zBS,zlC,zlN,and_self,if_true,zCL]
  cases h1:a==c with
  |false=>
    have:a≠c:=by simpa using h1
    cases h2:b==d<;>simp [this]
  |true=>
    have:a=c:=by simpa using h1
    cases h2:b==d with
    | false => have : b ≠ d := by simpa using h2
               simp [this]
    | true => have h3 : b = d := by simpa using h2
              simp [this,h3]
theorem MP.put {es:List (AVal×AVal×Nat)} {met:List Pr} {p:Pr} {c:Nat} (h:MP es met) (hp:p∉met):MP (es++[(.agg (zBS p),.bool true,c)]) (met++[p]):=fun q=>by
 obtain ⟨i,hi⟩:=h q
 by_cases hq:q∈met
 ·rw [if_pos hq] at hi
  exact ⟨i,by rw [zFO es 0 hi,if_pos (List.mem_append.2 (.inl hq))]⟩
 ·rw [if_neg hq] at hi
  refine ⟨0+es.length,?_⟩
  rw [zFP es 0 hi _ (zPi q p)]
  by_cases he:q=p
  ·rw [if_pos (decide_eq_true he),if_pos (List.mem_append.2 (.inr (List.mem_singleton.2 he)))]
  ·rw [if_neg (by simpa using he),if_neg (fun hh=>by
    rcases List.mem_append.1 hh with hh|hh
    ·exact hq hh
    ·exact he (List.mem_singleton.1 hh))]
theorem MP.look {h:AHeap} {r ver c:Nat} {es:List (AVal×AVal×Nat)} {met:List Pr} (hg:h.objs.get r=some (ver,.map es c)) (f:MP es met) (p:Pr):zDB h (.agg 2) (.bool false) false (.map (some r)) (.agg (zBS p))=some (.bool (met.contains p),some r):=by
 obtain ⟨i,hi⟩:=f p
 have hk:zEh (.agg 2) (.agg (zBS p))=true:=rfl
 simp only [zDB,hk,hg,hi]
 by_cases hp:p∈met
 ·simp [hp]
 ·simp [hp]
theorem MP.none {es:List (AVal×AVal×Nat)} {met:List Pr} (f:MP es met) {p:Pr} (hp:p∉met):zBp (.agg 2) (.agg (zBS p)) es 0=some none:=by
 obtain ⟨i,hi⟩:=f p
 rw [hi,if_neg hp]
def FA (es:List (AVal×AVal×Nat)) (l:List Pr):Prop:=∀a,∃r,zBp .int (.int .i64 a) es 0=some r/\(r=none->∀q∈l,q.1≠a)/\(∀i v,r=some (i,v)->∃q∈l,q.1=a/\v=.int .i64 q.2)
theorem FA.zero:FA [] []:=fun a=>⟨none,rfl,fun _ q hq=>(by cases hq),fun i v h=>by cases h⟩
theorem FA.put {es:List (AVal×AVal×Nat)} {l:List Pr} {p:Pr} {c:Nat} (h:FA es l) (hp:∀q∈l,q.1≠p.1):FA (es++[(.int .i64 p.1,.int .i64 p.2,c)]) (l++[p]):=fun a=>by
 obtain ⟨r,h1,h2,h3⟩:=h a
 cases r with
 |some x=>
  refine ⟨some x,zFO es 0 h1,fun hh=>(by cases hh),fun i v hv=>?_⟩
  obtain ⟨q,q1,q2⟩:=h3 i v hv
  exact ⟨q,List.mem_append.2 (.inl q1),q2⟩
 |none=>
  have hk:keyA .int (.int .i64 a) (.int .i64 p.1)=some (a==p.1):=by simp [keyA]
  refine ⟨_,zFP es 0 h1 _ hk,?_,?_⟩
  ·intro hh q hq
   rcases List.mem_append.1 hq with hq|hq
   ·exact h2 rfl q hq
   ·rw [List.mem_singleton.1 hq]
    rintro rfl
    simp at hh
  ·intro i v hv
   split at hv
   ·rename_i hap
    simp only [oI,Prod.mk.injEq] at hv
    exact ⟨p,List.mem_append.2 (.inr (List.mem_singleton.2 rfl)),(by simpa using hap:a=p.1).symm,hv.2.symm⟩
   ·cases hv
theorem FA.none {es:List (AVal×AVal×Nat)} {l:List Pr} (f:FA es l) {a:Int} (ha:∀q∈l,q.1≠a):zBp .int (.int .i64 a) es 0=some none:=by
 obtain ⟨r,h1,h2,h3⟩:=f a
 cases r with
 |none=>exact h1
 |some x=>
  obtain ⟨q,q1,q2,_⟩:=h3 x.1 x.2 rfl
  exact absurd q2 (ha q q1)
theorem FA.look {h:AHeap} {r ver c:Nat} {es:List (AVal×AVal×Nat)} {l:List Pr} (hg:h.objs.get r=some (ver,.map es c)) (f:FA es l) (a:Int):∃x,zDB h .int (.int .i64 0) true (.map (some r)) (.int .i64 a)=some (.tuple [.int .i64 x,.bool (l.any fun q=>q.1==a)],some r)/\((l.any fun q=>q.1==a)=true->∃q∈l,q.1=a/\x=q.2):=by
 obtain ⟨y,h1,h2,h3⟩:=f a
 cases y with
 |none=>
  refine ⟨0,?_,fun hh=>?_⟩
  ·have:(l.any fun q=>q.1==a)=false:=by
    rw [List.any_eq_false];intro q hq;simpa using h2 rfl q hq
   simp only [zDB,zEh,hg,h1,this,if_true]
  ·obtain ⟨q,hq,hh⟩:=List.any_eq_true.1 hh
   exact absurd (by simpa using hh) (h2 rfl q hq)
 |some x=>
  obtain ⟨q,q1,q2,q3⟩:=h3 x.1 x.2 rfl
  refine ⟨q.2,?_,fun _=>⟨q,q1,q2,rfl⟩⟩
  have:(l.any fun q=>q.1==a)=true:=List.any_eq_true.2 ⟨q,q1,by simpa using q2⟩
  obtain ⟨i,v⟩:=x
  simp only at q3
  subst q3
  simp only [zDB,zEh,hg,h1,this,if_true]
theorem zEP (p:Pr) (w:List Pr):rowC (p::w)=rowC w++zBS p:=by simp [rowC]
theorem zMc (w:List Pr):(rowC w).length=w.length*2:=by
 induction w with
 |nil=>rfl
 |cons p w ih=>rw [zEP,zgL,ih,zlC,Nat.succ_mul];rfl
theorem zOh {h:AHeap} {base:Nat} {e:TypeId} {vw:AVal} {p:Pr} {w:List Pr} (B:Built h base e 2 vw (w.length+1) (rowC (p::w))):∃bw ver vs,vw=.slice (some (bw,0)) (w.length+1)/\h.objs.get bw=some (ver,.cells false e vs)/\base<=bw/\(w.length*2+2<=vs.length/\(vs.drop (w.length*2)).take 2=zBS p)/\Built h base e 2 (.slice (some (bw,0)) w.length) w.length (rowC w):=by
 rcases B with ⟨_,hh,_⟩|⟨_,hh,_⟩|⟨b,vs,ver,h0,h1,h2,h3,h4⟩
 ·omega
 ·omega
 ·refine ⟨b,ver,vs,h1,h2,h0,?_,.inr (.inr ⟨b,vs,ver,h0,rfl,h2,by omega,?_⟩)⟩
  ·refine ⟨by omega,?_⟩
   have:=congrArg (fun l=>l.drop (w.length*2)) h4
   simp only [List.drop_take,zEP,List.drop_left' (zMc w)] at this
   rw [show (w.length+1)*2 - w.length*2=2 by omega] at this
   exact this
  ·have:=congrArg (fun l=>l.take (w.length*2)) h4
   simp only [List.take_take,zEP,List.take_left' (zMc w)] at this
   rw [Nat.min_eq_left (by omega)] at this
   exact this
end Go.Ab.S
end
section
namespace Go.Ab.S
open Go.Ab
set_option maxHeartbeats 1000000
inductive Rch (g:Graph):Int->Prop
 |root:Rch g g.root
 |step {a b:Int}:Rch g a->b∈(zAB g a).args->Rch g b
theorem zNa (g:Graph) (a:Int):zHY g.nodes a=(zAB g a).args:=by
 unfold zHY zAB
 rw [List.getD]
 cases g.nodes[a.toNat]?<;>rfl
theorem zFF {g:Graph}:∀(m:Nat) (st out:List Int),(∀a∈st,Rch g a)->(∀a∈out,Rch g a)->∀a∈zBd g.nodes m st out,Rch g a
 |0,_,_,_,h=>h
 |_+1,[],_,_,h=>h
 |m+1,a::st,out,h1,h2=>by
  rw [zBd]
  split
  ·exact zFF m st out (fun b hb=>h1 b (by simp [hb])) h2
  ·refine zFF m _ _ (fun b hb=>?_) (fun b hb=>?_)
   ·rcases List.mem_append.1 hb with hb|hb
    ·rw [zNa] at hb;exact .step (h1 a (by simp)) hb
    ·exact h1 b (by simp [hb])
   ·rcases List.mem_append.1 hb with hb|hb
    ·exact h2 b hb
    ·rw [List.mem_singleton.1 hb];exact h1 a (by simp)
theorem zGn {g:Graph} (hc:zAF g=0):∀(m:Nat) (st out:List Int),Ok g.nodes.length st->st.length+zAe out g.nodes 0<=m->(∀a∈out,∀b∈(zAB g a).args,b∈out\/b∈st) →
  (∀a∈st,a∈zBd g.nodes m st out)/\(∀a∈out,a∈zBd g.nodes m st out)/\∀a∈zBd g.nodes m st out,∀b∈(zAB g a).args,b∈zBd g.nodes m st out
 |0,st,out,_,hm,h=>by
  have:st=[]:=List.length_eq_zero_iff.1 (by omega)
  subst this
  exact ⟨fun a ha=>(by cases ha),fun a ha=>ha,fun a ha b hb=>by
   rcases h a ha b hb with h|h
   ·exact h
   ·cases h⟩
 |m+1,[],out,_,_,h=>⟨fun a ha=>(by cases ha),fun a ha=>ha,fun a ha b hb=>by
   rcases h a ha b hb with h|h
   ·exact h
   ·cases h⟩
 |m+1,a::st,out,hs,hm,h=>by
  have hst:Ok g.nodes.length st:=fun b hb=>hs b (by simp [hb])
  obtain ⟨a0,a1⟩:=hs a (by simp)
  rw [zBd]
  split
  ·rename_i hcon
   have hcon:a∈out:=by simpa using hcon
   simp only [zlC] at hm
   obtain ⟨h1,h2,h3⟩:=zGn hc m st out hst (by omega) (fun b hb c hcc=>by
    rcases h b hb c hcc with h|h
    ·exact .inl h
    ·rcases List.mem_cons.1 h with rfl|h
     ·exact .inl hcon
     ·exact .inr h)
   exact ⟨fun b hb=>by
    rcases List.mem_cons.1 hb with rfl|hb
    ·exact h2 _ hcon
    ·exact h1 b hb,h2,h3⟩
  ·rename_i hcon
   obtain ⟨k,hk,hkN,hnk⟩:∃k:Nat,a=(k:Int)/\∃hk:k<g.nodes.length,zAB g a=g.nodes[k]:=⟨a.toNat,by omega,by omega,by simp [zAB,zgG (show a.toNat<g.nodes.length by omega)]⟩
   have hput:=(zHq out k g.nodes 0).2 (Nat.zero_le _) (by rw [<-hk];simpa using hcon) g.nodes[k] (by simpa using zgG hkN)
   have hargs:zHY g.nodes a=g.nodes[k].args:=by rw [zNa,hnk]
   rw [hargs,hk]
   simp only [zlC] at hm
   obtain ⟨h1,h2,h3⟩:=zGn hc m (g.nodes[k].args++st) (out++[(k:Int)]) (fun b hb=>by
    rcases List.mem_append.1 hb with hb|hb
    ·exact zAt ((zBH hc).2 _ (List.getElem_mem hkN)) b hb
    ·exact hst b hb) (by rw [zgL];omega) (fun b hb c hcc=>by
    rcases List.mem_append.1 hb with hb|hb
    ·rcases h b hb c hcc with h|h
     ·exact .inl (List.mem_append.2 (.inl h))
     ·rcases List.mem_cons.1 h with rfl|h
      ·exact .inl (by rw [hk];simp)
      ·exact .inr (List.mem_append.2 (.inr h))
    ·rw [List.mem_singleton.1 hb,<-hk,hnk] at hcc
     exact .inr (List.mem_append.2 (.inl hcc)))
   exact ⟨fun b hb=>by
    rcases List.mem_cons.1 hb with rfl|hb
    ·exact h2 _ (by simp)
    ·exact h1 b (List.mem_append.2 (.inr hb)),fun b hb=>h2 b (List.mem_append.2 (.inl hb)),h3⟩
theorem zEM {g:Graph} (hc:zAF g=0) (a:Int):a∈zAO g↔Rch g a:=by
 have hr:=zAU hc
 rw [zAO,if_pos hc]
 constructor
 ·exact zFF _ _ _ (fun b hb=>by rw [List.mem_singleton.1 hb];exact .root) (fun b hb=>by cases hb) a
 ·obtain ⟨h1,_,h3⟩:=zGn hc (1+zAe [] g.nodes 0) [g.root] [] (fun b hb=>by rw [List.mem_singleton.1 hb];exact ⟨hr.1,hr.2.1⟩) (by simp) (fun b hb=>(by cases hb))
  intro h
  induction h with
  |root=>exact h1 _ (by simp)
  |step _ hb ih=>exact h3 _ ih _ hb
theorem Rch.ok {g:Graph} (hc:zAF g=0) {a:Int} (h:Rch g a):0<=a/\a<g.nodes.length:=by
 have:=(zEM hc a).2 h
 exact (zCg g).1 a this
theorem zFE {g:Graph} {a:Int} (h:0<=a/\a<g.nodes.length):zAB g a∈g.nodes:=by
 have hk:a.toNat<g.nodes.length:=by omega
 have:zAB g a=g.nodes[a.toNat]:=by simp [zAB,zgG hk]
 rw [this];exact List.getElem_mem hk
theorem zNL {g:Graph} (hc:zAF g=0):∃l,zAO g=g.root::l:=by
 rw [zAO,if_pos hc,Nat.add_comm,zBd]
 simp only [List.contains_nil,Bool.false_eq_true,if_false,zlA]
 have:∀(m:Nat) (st out:List Int),∃l,zBd g.nodes m st out=out++l:=by
  intro m
  induction m with
  |zero=>intro st out;exact ⟨[],by simp [zBd]⟩
  |succ m ih=>
   intro st out
   cases st with
   |nil=>exact ⟨[],by simp [zBd]⟩
   |cons a st=>
    rw [zBd]
    split
    ·exact ih st out
    ·obtain ⟨l,hl⟩:=ih (zHY g.nodes a++st) (out++[a])
     exact ⟨a::l,by rw [hl];simp⟩
 obtain ⟨l,hl⟩:=this (zAe [] g.nodes 0) (zHY g.nodes g.root++[]) [g.root]
 exact ⟨l,by rw [hl];rfl⟩
structure Quo (g L:Graph) (q:Int->Int):Prop where
 root:L.root=q g.root
 node:∀i,Rch g i->zAB L (q i)={zAB g i with args:=(zAB g i).args.map q}
 surj:∀x:Int,0<=x->x<L.nodes.length->∃i,Rch g i/\q i=x
 range:∀i,Rch g i->0<=q i/\q i<L.nodes.length
 inj:∀i j,Rch g i->Rch g j->zAW (zAB g i)=true->q i=q j->i=j
 check:zAF L=0
theorem zFe {l:List Int} {a:Int} (h:a∈l):zCC l a<l.length/\l[zCC l a]?=some a:=by
 have hc:l.contains a=true:=by simpa using h
 rw [zCC,if_pos hc]
 have:=List.idxOf_lt_length_of_mem h
 exact ⟨this,by rw [zgG this];simp⟩
theorem zGE {g:Graph} (h0:0<=g.root) (h1:g.root<g.nodes.length) (h2:g.nodes.length<=1048576) (h3:∀n∈g.nodes,mayF n g.nodes.length=true):zAF g=0:=by
 unfold zAF
 simp only [Int.ofNat_eq_natCast]
 rw [if_neg (by omega),if_neg (by omega),if_neg (by omega),if_neg]
 simp only [List.any_eq_true,not_exists,not_and]
 intro n hn
 rw [h3 n hn];simp
theorem zJl {n:Node} {N M:Int} (h:mayF n N=true) (f:Int->Int) (hf:∀a∈n.args,0<=f a/\f a<M):mayF {n with args:=n.args.map f} M=true:=by
 have h1:(n.args.map f).any (fun a=>decide (a<0)||decide (a>=M))=false:=by
  rw [List.any_eq_false]
  intro a ha
  obtain ⟨b,hb,rfl⟩:=List.mem_map.1 ha
  have:=hf b hb
  simp;omega
 unfold mayF at h ⊢
 split at h
 ·cases h
 rw [h1]
 simpa using h
theorem zLo (f:Int->Nat):∀(l r:List Int),l.Nodup->(∀x∈l,x∈r)->(l.map f).sum<=(r.map f).sum
 |[],r,_,_=>by simp
 |x::l,r,hn,hs=>by
  have hx:=hs x (by simp)
  have hp:r.Perm (x::r.erase x):=List.perm_cons_erase hx
  obtain ⟨h1,h2⟩:=List.nodup_cons.1 hn
  have ih:=zLo f l (r.erase x) h2 fun y hy=>(List.mem_erase_of_ne (by rintro rfl;exact h1 hy)).2 (hs y (by simp [hy]))
  have:=(hp.map f).sum_nat
  simp only [List.map_cons,List.sum_cons] at this ⊢
  omega
def allN (n:Nat):List Int:=(List.range n).map fun (i:Nat)=>(i:Int)
theorem zHT {n:Nat} {a:Int}:a∈allN n↔0<=a/\a<n:=by
 simp only [allN,List.mem_map,List.mem_range]
 constructor
 ·rintro ⟨i,hi,rfl⟩;omega
 ·rintro ⟨h1,h2⟩;exact ⟨a.toNat,by omega,by omega⟩
theorem zMl {g:Graph} (_:zAF g=0):(zAO g).length<=g.nodes.length:=by
 obtain ⟨h1,h2⟩:=zCg g
 have:=zLo (fun _=>1) (zAO g) (allN g.nodes.length) h2 fun x hx=>zHT.2 (h1 x hx)
 have e:∀l:List Int,(l.map fun _=>1).sum=l.length:=fun l=>by
  induction l with
  |nil=>rfl
  |cons a l ih=>simp only [List.map_cons,List.sum_cons,ih,zlC];omega
 rw [e,e] at this
 simpa [allN] using this
theorem zHW {g:Graph} (hc:zAF g=0):Quo g (zCI g) (fun a=>(zCC (zAO g) a:Int)):=by
 have hmem:=zEM hc
 have hnode:∀i,Rch g i->zAB (zCI g) (zCC (zAO g) i:Int)=zEv (zAO g) (zAB g i):=by
  intro i hi
  obtain ⟨h1,h2⟩:=zFe ((hmem i).2 hi)
  simp only [zAB,zCI,Int.toNat_natCast,List.getD,zgM,h2]
  rfl
 obtain ⟨l,hl⟩:=zNL hc
 have hroot:zCC (zAO g) g.root=0:=by rw [hl,zCC];simp
 have hlen:(zCI g).nodes.length=(zAO g).length:=by simp [zCI]
 refine ⟨by show (0:Int)=_;rw [hroot];rfl,hnode,?_,?_,?_,?_⟩
 ·intro x h0 h1
  rw [hlen] at h1
  have hx:x.toNat<(zAO g).length:=by omega
  refine ⟨(zAO g)[x.toNat],(hmem _).1 (List.getElem_mem hx),?_⟩
  have hm:=List.getElem_mem hx
  obtain ⟨h3,h4⟩:=zFe hm
  rw [zgG h3] at h4
  have:=(List.getElem_inj (zCg g).2).1 (Option.some.inj h4)
  show ((zCC (zAO g) (zAO g)[x.toNat]:Nat):Int)=x
  omega
 ·intro i hi
  have:=(zFe ((hmem i).2 hi)).1
  rw [hlen];exact ⟨by omega,by omega⟩
 ·intro i j hi hj _ he
  have he:((zCC (zAO g) i:Nat):Int)=(zCC (zAO g) j:Nat):=he
  have h1:=(zFe ((hmem i).2 hi)).2
  have h2:=(zFe ((hmem j).2 hj)).2
  have:zCC (zAO g) i=zCC (zAO g) j:=by omega
  rw [this,h2] at h1
  exact (Option.some.inj h1).symm
 ·refine zGE (by show (0:Int)<=0;decide) ?_ ?_ ?_
  ·show (0:Int)<_
   rw [hlen,hl];simp
  ·rw [hlen]
   have:=zMl hc
   have:=(zAU hc).2.2.1
   omega
  ·intro n hn
   obtain ⟨i,hi,rfl⟩:=List.mem_map.1 hn
   have hri:=(hmem i).1 hi
   rw [hlen]
   refine zJl ((zBH hc).2 _ (zFE (hri.ok hc))) (fun a=>(zCC (zAO g) a:Int)) fun a ha=>?_
   have:=(zFe ((hmem a).2 (hri.step ha))).1
   exact ⟨by omega,by omega⟩
end Go.Ab.S
end
section
namespace Go.Ab.S
open Go.Ab
set_option maxHeartbeats 1000000
def Least (L:Graph):Prop:=∀E:Int->Int->Prop,(∀x y,E x y->(0<=x/\x<L.nodes.length)/\(0<=y/\y<L.nodes.length)/\(x=y\/(zAW (zAB L x)=false/\zAW (zAB L y)=false/\(zAB L x).kind=(zAB L y).kind/\(zAB L x).name=(zAB L y).name/\(zAB L x).labels=(zAB L y).labels/\(zAB L x).args.length=(zAB L y).args.length∧
 ∀(k:Nat) (a b:Int),(zAB L x).args[k]?=some a->(zAB L y).args[k]?=some b->E a b)))->∀x y,E x y->x=y
theorem zIA (g:Graph) (i:Nat):zAB g (i:Int)=g.nodes.getD i zAp:=rfl
def clsG (g:Graph):Graph:=⟨g.nodes.map (mapN (zAH g)),clAt (zAH g) g.root⟩
theorem zKW {g:Graph} (hc:zAF g=0) {a:Int} (ha:0<=a/\a<g.nodes.length):0<=clAt (zAH g) a/\clAt (zAH g) a<g.nodes.length/\clAt (zAH g) a<=a/\clAt (zAH g) (clAt (zAH g) a)=clAt (zAH g) a:=by
 obtain ⟨k,rfl⟩:∃k:Nat,a=(k:Int):=⟨a.toNat,by omega⟩
 obtain ⟨j,h1,h2,h3⟩:=(zIk hc).2.le k (by omega)
 rw [h1]
 exact ⟨by omega,by omega,by omega,h3⟩
theorem zJV {g:Graph} {a:Int} (ha:0<=a/\a<g.nodes.length):zAB (clsG g) a=mapN (zAH g) (zAB g a):=by
 have hk:a.toNat<g.nodes.length:=by omega
 simp only [zAB,clsG,List.getD,zgM,zgG hk]
 rfl
theorem zED {g:Graph} (hc:zAF g=0):zAF (clsG g)=0:=by
 obtain ⟨h1,h2,h3,h4⟩:=zAU hc
 have hr:=zKW hc ⟨h1,h2⟩
 have hl:(clsG g).nodes.length=g.nodes.length:=by simp [clsG]
 refine zGE hr.1 (by rw [hl];exact hr.2.1) (by rw [hl];exact h3) fun n hn=>?_
 obtain ⟨m,hm,rfl⟩:=List.mem_map.1 hn
 rw [hl]
 refine zJl (h4 m hm) (clAt (zAH g)) fun a ha=>?_
 have:=zKW hc (zAt (h4 m hm) a ha)
 exact ⟨this.1,this.2.1⟩
theorem zMC {g:Graph} (hc:zAF g=0) {a b:Int} (ha:0<=a/\a<g.nodes.length) (hb:0<=b/\b<g.nodes.length) (he:clAt (zAH g) a=clAt (zAH g) b):
  ((zAW (zAB g a)=true\/zAW (zAB g b)=true)->a=b)/\(zAB g a).kind=(zAB g b).kind/\(zAB g a).name=(zAB g b).name/\(zAB g a).labels=(zAB g b).labels/\(zAB g a).args.map (clAt (zAH g))=(zAB g b).args.map (clAt (zAH g))/\zAW (zAB g a)=zAW (zAB g b):=by
 obtain ⟨i,rfl⟩:∃k:Nat,a=(k:Int):=⟨a.toNat,by omega⟩
 obtain ⟨j,rfl⟩:∃k:Nat,b=(k:Int):=⟨b.toNat,by omega⟩
 obtain ⟨h1,h2⟩:=zEc hc (i:=i) (j:=j) (by omega) (by omega) he
 exact ⟨fun h=>by rw [h1 h],h2⟩
theorem zOd {n:Node} {N:Int} (h:mayF n N=true):zAW n=false->n.isOpen=false:=by
 intro hf
 simp only [zAW,Bool.or_eq_false_iff] at hf
 exact hf.2
theorem zJU {g:Graph} (hc:zAF g=0) {a b:Int} (ha:0<=a/\a<g.nodes.length) (hb:0<=b/\b<g.nodes.length) (he:clAt (zAH g) a=clAt (zAH g) b):mapN (zAH g) (zAB g a)=mapN (zAH g) (zAB g b):=by
 obtain ⟨h0,h1,h2,h3,h4,h5⟩:=zMC hc ha hb he
 by_cases hf:zAW (zAB g a)=true
 ·rw [h0 (.inl hf)]
 ·have hfa:zAW (zAB g a)=false:=by simpa using hf
  have hfb:zAW (zAB g b)=false:=by rw [<-h5];exact hfa
  have oa:=zOd ((zBH hc).2 _ (zFE ha)) hfa
  have ob:=zOd ((zBH hc).2 _ (zFE hb)) hfb
  generalize zAB g a=n at*
  generalize zAB g b=m at*
  obtain ⟨k,nm,ar,lb,op⟩:=n
  obtain ⟨k',nm',ar',lb',op'⟩:=m
  simp only at*
  subst h1;subst h2;subst h3;subst oa;subst ob
  simp only [mapN,h4]
theorem zGj {g:Graph} (hc:zAF g=0) {a:Int} (h:Rch g a):Rch (clsG g) (clAt (zAH g) a):=by
 induction h with
 |root=>exact .root
 | @step a b ha hb ih=>
  have hra:=ha.ok hc
  have hca:=zKW hc hra
  refine .step ih ?_
  rw [zJV ⟨hca.1,hca.2.1⟩,zJU hc ⟨hca.1,hca.2.1⟩ hra hca.2.2.2]
  exact List.mem_map.2 ⟨b,hb,rfl⟩
theorem zPQ {g:Graph} (hc:zAF g=0) {x:Int} (h:Rch (clsG g) x):∃a,Rch g a/\clAt (zAH g) a=x:=by
 induction h with
 |root=>exact ⟨_,.root,rfl⟩
 | @step x y hx hy ih=>
  obtain ⟨a,ha,rfl⟩:=ih
  have hra:=ha.ok hc
  have hca:=zKW hc hra
  rw [zJV ⟨hca.1,hca.2.1⟩,zJU hc ⟨hca.1,hca.2.1⟩ hra hca.2.2.2] at hy
  obtain ⟨b,hb,rfl⟩:=List.mem_map.1 hy
  exact ⟨b,ha.step hb,rfl⟩
def qL (g:Graph) (a:Int):Int:=(zCC (zAO (clsG g)) (clAt (zAH g) a):Nat)
theorem zKl {g:Graph} (hc:zAF g=0):zAy g=zCI (clsG g):=by rw [zAy,if_pos hc];rfl
theorem zCT {g:Graph} (hc:zAF g=0):Quo g (zAy g) (qL g):=by
 have T:=zHW (zED hc)
 rw [zKl hc]
 refine ⟨T.root,fun i hi=>?_,fun x h0 h1=>?_,fun i hi=>T.range _ (zGj hc hi),fun i j hi hj hf he=>?_,T.check⟩
 ·have hri:=hi.ok hc
  have hci:=zKW hc hri
  have:=T.node _ (zGj hc hi)
  rw [zJV ⟨hci.1,hci.2.1⟩,zJU hc ⟨hci.1,hci.2.1⟩ hri hci.2.2.2] at this
  refine Eq.trans this ?_
  simp only [mapN,List.map_map]
  rfl
 ·obtain ⟨y,hy,rfl⟩:=T.surj x h0 h1
  obtain ⟨a,ha,rfl⟩:=zPQ hc hy
  exact ⟨a,ha,rfl⟩
 ·have hri:=hi.ok hc
  have hrj:=hj.ok hc
  have h1:=(zFe ((zEM (zED hc) _).2 (zGj hc hi))).2
  have h2:=(zFe ((zEM (zED hc) _).2 (zGj hc hj))).2
  have he:((zCC (zAO (clsG g)) (clAt (zAH g) i):Nat):Int)=(zCC (zAO (clsG g)) (clAt (zAH g) j):Nat):=he
  have he':zCC (zAO (clsG g)) (clAt (zAH g) i)=zCC (zAO (clsG g)) (clAt (zAH g) j):=by omega
  rw [he',h2] at h1
  exact (zMC hc hri hrj (Option.some.inj h1).symm).1 (.inl hf)
theorem zSn {g:Graph} (hc:zAF g=0) {i j:Int} (hi:Rch g i) (hj:Rch g j) (he:qL g i=qL g j):clAt (zAH g) i=clAt (zAH g) j:=by
 have h1:=(zFe ((zEM (zED hc) _).2 (zGj hc hi))).2
 have h2:=(zFe ((zEM (zED hc) _).2 (zGj hc hj))).2
 have he:((zCC (zAO (clsG g)) (clAt (zAH g) i):Nat):Int)=(zCC (zAO (clsG g)) (clAt (zAH g) j):Nat):=he
 have he':zCC (zAO (clsG g)) (clAt (zAH g) i)=zCC (zAO (clsG g)) (clAt (zAH g) j):=by omega
 rw [he',h2] at h1
 exact (Option.some.inj h1).symm
theorem zLV {g:Graph} (hc:zAF g=0):Least (zAy g):=by
 have Q:=zCT hc
 intro E hE x y hxy
 obtain ⟨⟨x0,x1⟩,⟨y0,y1⟩,_⟩:=hE x y hxy
 obtain ⟨i,hi,rfl⟩:=Q.surj x x0 x1
 obtain ⟨j,hj,rfl⟩:=Q.surj y y0 y1
 have key:clAt (zAH g) ((i.toNat:Nat):Int)=clAt (zAH g) ((j.toNat:Nat):Int):=by
  refine zHA (E:=fun a b=>Rch g (a:Int)/\Rch g (b:Int)/\(qL g (a:Int)=qL g (b:Int)\/E (qL g (a:Int)) (qL g (b:Int)))) ?_ ?_
  ·rintro a b ⟨ha,hb,hab⟩
   have hra:=ha.ok hc
   have hrb:=hb.ok hc
   refine ⟨by omega,by omega,?_⟩
   have h:=show _\/_ from (by
    rcases hab with h|h
    ·exact .inl h
    ·exact (hE _ _ h).2.2)
   have na:=Q.node _ ha
   have nb:=Q.node _ hb
   rw [<-zIA,<-zIA]
   by_cases hf:zAW (zAB g (a:Int))=true
   ·refine .inl ?_
    rcases h with h|⟨h,_⟩
    ·have:=Q.inj _ _ ha hb hf h;omega
    ·rw [na] at h
     have:zAW (zAB g (a:Int))=false:=h
     rw [hf] at this;cases this
   by_cases hf':zAW (zAB g (b:Int))=true
   ·refine .inl ?_
    rcases h with h|⟨_,h,_⟩
    ·have:=Q.inj _ _ hb ha hf' h.symm;omega
    ·rw [nb] at h
     have:zAW (zAB g (b:Int))=false:=h
     rw [hf'] at this;cases this
   refine .inr ⟨by simpa using hf,by simpa using hf',?_⟩
   have hsame:(zAB g (a:Int)).kind=(zAB g (b:Int)).kind/\(zAB g (a:Int)).name=(zAB g (b:Int)).name/\(zAB g (a:Int)).labels=(zAB g (b:Int)).labels/\(zAB g (a:Int)).args.length=(zAB g (b:Int)).args.length∧
     ∀(k:Nat) (c d:Int),(zAB g (a:Int)).args[k]?=some c->(zAB g (b:Int)).args[k]?=some d->(qL g c=qL g d\/E (qL g c) (qL g d)):=by
    rcases h with h|⟨_,_,h1,h2,h3,h4,h5⟩
    ·rw [h] at na
     rw [na] at nb
     have e0:=congrArg Node.kind nb
     have e1':=congrArg Node.name nb
     have e2':=congrArg Node.labels nb
     have e3':=congrArg Node.args nb
     simp only at e0 e1' e2' e3'
     refine ⟨e0,e1',e2',by simpa using congrArg List.length e3',fun k c d hcc hdd=>?_⟩
     have:=congrArg (fun l=>l[k]?) e3'
     simp only [zgM,hcc,hdd,Option.map_some,oI] at this
     exact .inl this
    ·rw [na,nb] at h1 h2 h3 h4 h5
     simp only at h1 h2 h3 h4 h5
     refine ⟨h1,h2,h3,by simpa using h4,fun k c d hcc hdd=>?_⟩
     exact .inr <| h5 k _ _ (by rw [zgM,hcc];rfl) (by rw [zgM,hdd];rfl)
   obtain ⟨h1,h2,h3,h4,h5⟩:=hsame
   refine ⟨h1,h2,h3,h4,fun k c d hcc hdd=>?_⟩
   have hc1:=ha.step (List.mem_of_getElem? hcc)
   have hd1:=hb.step (List.mem_of_getElem? hdd)
   have hc2:=hc1.ok hc
   have hd2:=hd1.ok hc
   have e1':((c.toNat:Nat):Int)=c:=by omega
   have e2':((d.toNat:Nat):Int)=d:=by omega
   show Rch g ((c.toNat:Nat):Int)/\Rch g ((d.toNat:Nat):Int)/\(qL g ((c.toNat:Nat):Int)=qL g ((d.toNat:Nat):Int)\/E (qL g ((c.toNat:Nat):Int)) (qL g ((d.toNat:Nat):Int)))
   rw [e1',e2']
   exact ⟨hc1,hd1,h5 k c d hcc hdd⟩
  ·have e1':((i.toNat:Nat):Int)=i:=by have:=hi.ok hc;omega
   have e2':((j.toNat:Nat):Int)=j:=by have:=hj.ok hc;omega
   rw [e1',e2']
   exact ⟨hi,hj,.inr hxy⟩
 have e1':((i.toNat:Nat):Int)=i:=by have:=hi.ok hc;omega
 have e2':((j.toNat:Nat):Int)=j:=by have:=hj.ok hc;omega
 rw [e1',e2'] at key
 show ((zCC (zAO (clsG g)) (clAt (zAH g) i):Nat):Int)=(zCC (zAO (clsG g)) (clAt (zAH g) j):Nat)
 rw [key]
end Go.Ab.S
end
section
namespace Go.Ab.S
open Go.Ab
set_option maxHeartbeats 1000000
theorem zCf:∀(ns:List Node) (i:Nat),zAe [] ns i=(ns.map fun n=>n.args.length).sum
 |[],_=>rfl
 |n::r,i=>by simp only [zAe,List.map_cons,List.sum_cons,zCf r (i+1)];simp
theorem zFy (g:Graph):(allN g.nodes.length).map (zAB g)=g.nodes:=by
 apply List.ext_getElem?
 intro i
 simp only [allN,List.map_map,zgM]
 by_cases hi:i<g.nodes.length
 ·rw [List.getElem?_range hi];simp [zAB,hi]
 ·rw [List.getElem?_eq_none (by simpa using hi),List.getElem?_eq_none (by simpa using hi)];rfl
theorem zOx {g:Graph} (hg:GTi g) (hc:zAF g=0):GTi (zCI g):=by
 have hlen:(zCI g).nodes.length=(zAO g).length:=by simp [zCI]
 have hl:=zMl hc
 have hsum:zAe [] (zCI g).nodes 0<=zAe [] g.nodes 0:=by
  obtain ⟨h1,h2⟩:=zCg g
  have:=zLo (fun a=>(zAB g a).args.length) (zAO g) (allN g.nodes.length) h2 fun x hx=>zHT.2 (h1 x hx)
  rw [zCf,zCf]
  have e:(g.nodes.map fun n=>n.args.length)=(allN g.nodes.length).map fun a=>(zAB g a).args.length:=by
   conv=>lhs;rw [<-zFy g]
   rw [List.map_map];rfl
  rw [e]
  simp only [zCI,List.map_map]
  have e2:((fun n:Node=>n.args.length)∘fun i=>zEv (zAO g) (zAB g i))=fun a=>(zAB g a).args.length:=by
   funext a;simp [zEv]
  rw [e2];exact this
 have hin:∀n∈(zCI g).nodes,∃m∈g.nodes,n.args.length=m.args.length/\n.labels=m.labels:=by
  intro n hn
  obtain ⟨i,hi,rfl⟩:=List.mem_map.1 hn
  exact ⟨_,zFE ((zCg g).1 i hi),by simp [zEv],rfl⟩
 have ht:=hg.tinyN
 have hto:=hg.total
 refine ⟨⟨⟨by rw [hlen];have:=hg.nodes;omega,fun n hn=>?_⟩,by rw [hlen];omega,fun n hn=>?_⟩,by rw [hlen];omega,fun n hn=>?_⟩
 ·obtain ⟨m,hm,h1,h2⟩:=hin n hn
  have:=hg.all m hm
  exact ⟨by rw [h1];exact this.args,by rw [h2];exact this.labels,by rw [h2];exact this.texts⟩
 ·obtain ⟨m,hm,h1,h2⟩:=hin n hn
  rw [h2];exact hg.labs m hm
 ·obtain ⟨m,hm,h1,h2⟩:=hin n hn
  rw [h1];exact hg.tinyA m hm
theorem zNC {g:Graph} (hg:GTi g) (hc:zAF g=0):GTi (zAy g):=by
 rw [zKl hc]
 exact zOx (hg.map _ _) (zED hc)
end Go.Ab.S
end
section
namespace Go.Ab.S
open Go.Ab
set_option maxHeartbeats 8000000
def idxI (x y:Node) (i:Nat):Nat:=if x.kind==3 then bsAt y.labels (x.labels.getD i []) else i
def zFz (x y:Node):Bool:=if x.kind==3 then x.labels.all (bsIs y.labels) else true
def fwdI (x y:Node):List Pr:=(List.range x.args.length).map fun i=>(x.args.getD i 0,y.args.getD (idxI x y i) 0)
structure Fit (x y:Node):Prop where
 obj:x.kind=3->x.labels.length=x.args.length/\y.labels.length=y.args.length/\Rises y.labels
 con:x.kind≠3->y.args.length=x.args.length
 small:x.args.length<=4096/\y.args.length<=4096
theorem zNf {l:List (List Nat)} {s:List Nat} (h:bsIs l s=true):bsAt l s<l.length:=by
 unfold bsIs at h
 split at h
 ·rename_i x hx;exact (zgS.1 hx).1
 ·cases h
def okN (x y:Node):Bool:=x.kind==1||(((x.kind==y.kind&&eqL x.name y.name)&&(x.isOpen||(!y.isOpen&&eqLL x.labels y.labels)))&&zFz x y)
def nxN (x y:Node):List Pr:=if x.kind==1 then [] else (fwdI x y).reverse
def okI (g h:Graph) (p:Pr):Bool:=okN (zAB g p.1) (zAB h p.2)
def nxI (g h:Graph) (p:Pr):List Pr:=nxN (zAB g p.1) (zAB h p.2)
def badI (g:Graph) (p q:Pr):Bool:=zAW (zAB g p.1)&&p.1==q.1
theorem zOD {g h:Graph} (hg:GTi g) (hh:GTi h) (cg:zAF g=0) (ch:zAF h=0) {x y:Node} (hx:x∈g.nodes) (hy:y∈h.nodes) (hk:x.kind=y.kind) (hn:x.name=y.name) (h1:x.kind≠1):Fit x y:=by
 have mx:=zAP ((zBH cg).2 x hx)
 have my:=zAP ((zBH ch).2 y hy)
 have t1:=hg.tinyA x hx
 have t2:=hh.tinyA y hy
 refine ⟨fun hk3=>?_,fun hk3=>?_,by omega,by omega⟩
 ·rcases mx with ⟨k,_⟩|⟨k,_⟩|⟨k,_,l1,_⟩
  ·omega
  ·omega
  rcases my with ⟨k',_⟩|⟨k',_⟩|⟨k',_,l2,r2⟩
  ·omega
  ·omega
  exact ⟨l1,l2,zBE r2⟩
 ·rcases mx with ⟨k,_⟩|⟨k,_,_,_,l1⟩|⟨k,_,l1,_⟩
  ·omega
  ·rcases my with ⟨k',_⟩|⟨k',_,_,_,l2⟩|⟨k',_,_⟩
   ·omega
   ·rw [l1,l2,hn]
   ·omega
  ·omega
def isF (g h:Graph):Bool:=zAF g==0&&(zAF h==0&&zEn (okI g (zAy h)) (nxI g (zAy h)) (badI g) (2+zDS (nxI g (zAy h)) [] (zBr g (zAy h))) [(g.root,(zAy h).root)] [])
theorem zSj {g h:Graph} (hg:GTi g) (hh:GTi h) (cg:zAF g=0) (ch:zAF h=0) {p:Pr} (hp:p∈zBr g h) (ho:okI g h p=true):∀q∈nxI g h p,q∈zBr g h:=by
 intro q hq
 obtain ⟨⟨a0,a1⟩,b0,b1⟩:=zBO.1 hp
 have hx:=zDU a0 a1
 have hy:=zDU b0 b1
 simp only [okI,okN,Bool.or_eq_true,Bool.and_eq_true,beq_iff_eq] at ho
 simp only [nxI,nxN] at hq
 split at hq
 ·cases hq
 ·rename_i hk1
  have hk1':(zAB g p.1).kind≠1:=by simpa using hk1
  rcases ho with ho|⟨⟨⟨h1,h2⟩,_⟩,h4⟩
  ·exact absurd ho hk1'
  have hf:=zOD hg hh cg ch hx hy h1 (zBR.1 h2) hk1'
  simp only [fwdI,List.mem_reverse,List.mem_map,List.mem_range] at hq
  obtain ⟨i,hi,rfl⟩:=hq
  have hidx:idxI (zAB g p.1) (zAB h p.2) i<(zAB h p.2).args.length:=by
   by_cases hk3:(zAB g p.1).kind=3
   ·obtain ⟨q1,q2,q3⟩:=hf.obj hk3
    have hk3':((zAB g p.1).kind==3)=true:=by simpa using hk3
    rw [zFz,hk3'] at h4
    simp only [if_true,List.all_eq_true] at h4
    have hil:i<(zAB g p.1).labels.length:=by omega
    have:=zNf (h4 _ (List.getElem_mem hil))
    rw [idxI,hk3']
    simp only [if_true,List.getD,zgG hil,Option.getD_some]
    omega
   ·have hk3':((zAB g p.1).kind==3)=false:=by simpa using hk3
    rw [idxI,hk3',hf.con hk3];simpa using hi
  simp only [List.getD,zgG hi,zgG hidx,Option.getD_some]
  exact zBO.2 ⟨zAt ((zBH cg).2 _ hx) _ (List.getElem_mem hi),zAt ((zBH ch).2 _ hy) _ (List.getElem_mem hidx)⟩
theorem zGv {g:Graph} (h1:g.nodes.length+zAe [] g.nodes 0<=4096) (h2:∀n∈g.nodes,n.labels.length<=4096/\∀s∈n.labels,s.length<2 ^ 60):GTi g:=by
 have e30:(2:Nat) ^ 30=1073741824:=by decide
 have e60:(2:Nat) ^ 60=1152921504606846976:=by decide
 refine ⟨⟨⟨by omega,fun n hn=>⟨?_,?_,(h2 n hn).2⟩⟩,by omega,fun n hn=>?_⟩,by omega,fun n hn=>?_⟩
 ·have:=zDR g.nodes 0 n hn;omega
 ·have:=(h2 n hn).1;omega
 ·have:=(h2 n hn).1;omega
 ·have:=zDR g.nodes 0 n hn;omega
end Go.Ab.S
end
