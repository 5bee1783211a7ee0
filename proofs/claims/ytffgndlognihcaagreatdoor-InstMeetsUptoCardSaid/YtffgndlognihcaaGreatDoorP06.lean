import Derived.Test.YtffgndlognihcaaGreatDoorP05
/-
  Part 6 of the proof.
-/
set_option linter.all false
section
namespace Go.Ab
section
variable{fns:FnsT}{summ:SumT}{ro:Option Nat}

theorem zAe{α:Type}{d:D α}{Q:α->Prop}(h:d.sat Q):Ev (fun _=>d) Q:=⟨0,fun _ _=>h⟩
theorem zFu{α:Type}{d:Nat->D α}{Q:α->Prop}(h:Ev (fun n=>d (n+1)) Q):Ev d Q:=by
 obtain⟨n,hn⟩:=h
 refine⟨n+1,fun m hm=>?_⟩
 obtain⟨k,rfl⟩:∃k,m=k+1:=⟨m - 1,by omega⟩
 exact hn k (by omega)

variable(fns summ) in
def Cd(ro:Option Nat)(c:ACode)(a:AAct)(h:AHeap)(Q:AExit->AAct->AHeap->Prop):Prop:=CodeW fns summ ro c a h fun p=>Q p.1 p.2.1 p.2.2
variable(fns summ) in
def St(ro:Option Nat)(l:List Step)(a:AAct)(h:AHeap)(K:AAct->AHeap->Prop):Prop:=StepsW fns summ ro l a h fun p=>K p.1 p.2
variable(fns summ) in
def Dr(ro:Option Nat)(l:List DStep)(hs:List Held)(a:AAct)(h:AHeap)(K:AAct->AHeap->Prop):Prop:=DrawW fns summ ro l hs a h fun p=>K p.1 p.2
variable(fns summ) in
def Cl(f:FuncId)(args:List AVal)(h:AHeap)(K:AVal->AHeap->Prop):Prop:=CallW fns summ f args h fun p=>K p.1 p.2
variable(fns summ) in
def Cv(f:AVal)(args:List AVal)(h:AHeap)(K:AVal->AHeap->Prop):Prop:=CallVW fns summ f args h fun p=>K p.1 p.2
variable(fns summ) in
def Ex(ro:Option Nat)(a:AAct)(h:AHeap)(dst:Option Tmp)(op:EOp)(K:AAct->AHeap->Prop):Prop:=EW fns summ ro a h dst op fun p=>K p.1 p.2
variable(fns summ) in
def Lv(ds:List ADef)(h:AHeap)(K:AHeap->Prop):Prop:=Ev (fun n=>zEB fns (run fns summ n) ds h) K
def nxt(K:AAct->AHeap->Prop)(Q:AExit->AAct->AHeap->Prop):AExit->AAct->AHeap->Prop
 | .normal,a,h=>K a h
 |e,a,h=>Q e a h
def blk(id:Nat)(Q:AExit->AAct->AHeap->Prop):AExit->AAct->AHeap->Prop
 | .exit i,a,h=>if i=id then Q .normal a h else Q (.exit i) a h
 |e,a,h=>Q e a h

theorem Cd.mono{c:ACode}{a:AAct}{h:AHeap}{Q Q':AExit->AAct->AHeap->Prop}(k:Cd fns summ ro c a h Q)(hq:∀e a h,Q e a h->Q' e a h):Cd fns summ ro c a h Q':=Ev.mono k fun _ hp=>hq _ _ _ hp
theorem St.mono{l:List Step}{a:AAct}{h:AHeap}{K K':AAct->AHeap->Prop}(k:St fns summ ro l a h K)(hq:∀a h,K a h->K' a h):St fns summ ro l a h K':=Ev.mono k fun _ hp=>hq _ _ hp
theorem Cl.mono{f:FuncId}{args:List AVal}{h:AHeap}{K K':AVal->AHeap->Prop}(k:Cl fns summ f args h K)(hq:∀v h,K v h->K' v h):Cl fns summ f args h K':=Ev.mono k fun _ hp=>hq _ _ hp
theorem Cv.mono{f:AVal}{args:List AVal}{h:AHeap}{K K':AVal->AHeap->Prop}(k:Cv fns summ f args h K)(hq:∀v h,K v h->K' v h):Cv fns summ f args h K':=Ev.mono k fun _ hp=>hq _ _ hp
theorem Lv.mono{ds:List ADef}{h:AHeap}{K K':AHeap->Prop}(k:Lv fns summ ds h K)(hq:∀h,K h->K' h):Lv fns summ ds h K':=Ev.mono k hq

theorem zKv{a:AAct}{h:AHeap}{Q:AExit->AAct->AHeap->Prop}(k:Q .normal a h):Cd fns summ ro .skip a h Q:=zAe k
theorem cd_ret{a:AAct}{h:AHeap}{Q:AExit->AAct->AHeap->Prop}(k:Q .ret a h):Cd fns summ ro .ret a h Q:=zAe k
theorem zKt{id:Nat}{a:AAct}{h:AHeap}{Q:AExit->AAct->AHeap->Prop}(k:Q (.exit id) a h):Cd fns summ ro (.exit id) a h Q:=zAe k
theorem zBC{l:List Step}{a:AAct}{h:AHeap}{Q:AExit->AAct->AHeap->Prop}(k:St fns summ ro l a h (Q .normal)):Cd fns summ ro (.ops l) a h Q:=by
 refine Ev.bind (fun n m hnm=>zIF (zEJ fns summ hnm) ro l a h) (Ev.mono k fun p hp=>zAe hp)
theorem zNb{l:List DStep}{a:AAct}{h:AHeap}{Q:AExit->AAct->AHeap->Prop}(k:Dr fns summ ro l [] a h (Q .normal)):Cd fns summ ro (.draw l) a h Q:=by
 refine Ev.bind (fun n m hnm=>zFC (zEJ fns summ hnm) ro l [] a h) (Ev.mono k fun p hp=>zAe hp)
theorem zAv{x y:ACode}{a:AAct}{h:AHeap}{Q:AExit->AAct->AHeap->Prop}(k:Cd fns summ ro x a h (nxt (fun a h=>Cd fns summ ro y a h Q) Q)):Cd fns summ ro (.seq x y) a h Q:=by
 refine Ev.bind (fun n m hnm=>zCW (zEJ fns summ hnm) ro x a h) (Ev.mono k fun p hp=>?_)
 obtain⟨e,a1,h1⟩:=p
 cases e
 ·exact hp
 ·exact zAe hp
 ·exact zAe hp
theorem zAD{c:AOpd}{x y:ACode}{a:AAct}{h:AHeap}{b:Bool}{Q:AExit->AAct->AHeap->Prop}(hc:ev a c=some (.bool b))(h1:b=true->Cd fns summ ro x a h Q)(h2:b=false->Cd fns summ ro y a h Q):Cd fns summ ro (.cond c x y) a h Q:=by
 cases b with
 |true=>have:=h1 rfl;unfold Cd CodeW Ev at*;simpa only[zCc,hc] using this
 |false=>have:=h2 rfl;unfold Cd CodeW Ev at*;simpa only[zCc,hc] using this
theorem zLr{c:AOpd}{x y:ACode}{a:AAct}{h:AHeap}{Q:AExit->AAct->AHeap->Prop}(hc:ev a c=some (.bool true))(h1:Cd fns summ ro x a h Q):Cd fns summ ro (.cond c x y) a h Q:=zAD hc (fun _=>h1) (fun h=>by cases h)
theorem zLq{c:AOpd}{x y:ACode}{a:AAct}{h:AHeap}{Q:AExit->AAct->AHeap->Prop}(hc:ev a c=some (.bool false))(h1:Cd fns summ ro y a h Q):Cd fns summ ro (.cond c x y) a h Q:=zAD hc (fun h=>by cases h) (fun _=>h1)
theorem zBS{id:Nat}{c:ACode}{a:AAct}{h:AHeap}{Q:AExit->AAct->AHeap->Prop}(k:Cd fns summ ro c a h (blk id Q)):Cd fns summ ro (.block id c) a h Q:=by
 refine Ev.bind (fun n m hnm=>zCW (zEJ fns summ hnm) ro c a h) (Ev.mono k fun p hp=>zAe ?_)
 obtain⟨e,a1,h1⟩:=p
 cases e with
 |normal=>exact hp
 |ret=>exact hp
 |exit i=>
  simp only[blk] at hp
  by_cases hi:i=id
  ·rw[if_pos hi] at hp
   have:Nat.beq i id=true:=by rw[hi];exact Nat.beq_refl id
   simp only[this]
   exact hp
  ·rw[if_neg hi] at hp
   have:Nat.beq i id=false:=by
    cases e:Nat.beq i id
    ·rfl
    ·exact absurd (Nat.eq_of_beq_eq_true e) hi
   simp only[this]
   exact hp
theorem cd_loop1{c:ACode}{a:AAct}{h:AHeap}{Q:AExit->AAct->AHeap->Prop}(k:Cd fns summ ro c a h (nxt (fun a h=>Cd fns summ ro (.loop c) a h Q) Q)):Cd fns summ ro (.loop c) a h Q:=by
 refine Ev.bind (fun n m hnm=>zCW (zEJ fns summ hnm) ro c a h) (Ev.mono k fun p hp=>?_)
 obtain⟨e,a1,h1⟩:=p
 cases e
 ·exact zFu hp
 ·exact zAe hp
 ·exact zAe hp
theorem zCV{c:ACode}{Q:AExit->AAct->AHeap->Prop}(I:Nat->AAct->AHeap->Prop)(step:∀n a h,I n a h->Cd fns summ ro c a h (nxt (fun a h=>∃m,m<n/\I m a h) Q)):
  ∀{n:Nat} {a:AAct} {h:AHeap},I n a h->Cd fns summ ro (.loop c) a h Q:=by
 intro n
 induction n using Nat.strongRecOn with
 |_ n ih=>
  intro a h hi
  refine cd_loop1 ((step n a h hi).mono fun e a1 h1 hq=>?_)
  cases e with
  |normal=>obtain⟨m,hm,hI⟩:=hq;exact ih m hm hI
  |ret=>exact hq
  |exit i=>exact hq

theorem zAN{a:AAct}{h:AHeap}{K:AAct->AHeap->Prop}(k:K a h):St fns summ ro [] a h K:=zAe k
theorem zJp{s:Step}{l:List Step}{a:AAct}{h:AHeap}{K:AAct->AHeap->Prop}(k:StepW fns summ ro s a h fun p=>St fns summ ro l p.1 p.2 K):St fns summ ro (s::l) a h K:=
 Ev.bind (fun n m hnm=>zMb (zEJ fns summ hnm) ro a h s) k
theorem st_q{d:Option Tmp}{op:QOp}{l:List Step}{a:AAct}{h:AHeap}{K:AAct->AHeap->Prop}{v:AVal}{b:Option Nat}(hv:qA a h op=some (v,b))(k:St fns summ ro l (putA a d v) h K):
  St fns summ ro (⟨d,none,.q op⟩::l) a h K:=by
 refine zJp ?_
 unfold StepW
 simp only[zFQ,zDS,hv]
 exact zAe k
theorem st_qg{d:Option Tmp}{t:Tmp}{w:Bool}{op:QOp}{l:List Step}{a:AAct}{h:AHeap}{K:AAct->AHeap->Prop}{c:AVal}(hg:a.tmps.get t=some c)
  (k1:c=.bool w->∃v b,qA a h op=some (v,b)/\St fns summ ro l (putA a d v) h K) (k2:(c=.bool (!w)\/c=.tuple [])->St fns summ ro l (putA a d (.tuple [])) h K) (k3:c=.bool w\/c=.bool (!w)\/c=.tuple []):
  St fns summ ro (⟨d,some (t,w),.q op⟩::l) a h K:=by
 refine zJp ?_
 unfold StepW
 rcases k3 with rfl|hc|hc
 ·obtain⟨v,b,hv,k⟩:=k1 rfl
  simp only[zFQ,zDS,hg,hv,beq_self_eq_true]
  exact zAe k
 ·have k:=k2 (.inl hc)
  subst hc
  have:((!w)==w)=false:=by cases w<;>rfl
  simp only[zFQ,zDS,hg,this]
  exact zAe k
 ·have k:=k2 (.inr hc)
  subst hc
  simp only[zFQ,zDS,hg]
  exact zAe k
theorem st_e{d:Option Tmp}{op:EOp}{l:List Step}{a:AAct}{h:AHeap}{K:AAct->AHeap->Prop}(k:Ex fns summ ro a h d op fun a h=>St fns summ ro l a h K):
  St fns summ ro (⟨d,none,.e op⟩::l) a h K:=by
 refine zJp ?_
 unfold StepW
 simp only[zFQ,zDS]
 exact k
theorem st_eg{d:Option Tmp}{t:Tmp}{w:Bool}{op:EOp}{l:List Step}{a:AAct}{h:AHeap}{K:AAct->AHeap->Prop}{c:AVal}(hg:a.tmps.get t=some c)
  (k1:c=.bool w->Ex fns summ ro a h d op fun a h=>St fns summ ro l a h K) (k2:(c=.bool (!w)\/c=.tuple [])->St fns summ ro l (putA a d (.tuple [])) h K) (k3:c=.bool w\/c=.bool (!w)\/c=.tuple []):
  St fns summ ro (⟨d,some (t,w),.e op⟩::l) a h K:=by
 refine zJp ?_
 unfold StepW
 rcases k3 with rfl|hc|hc
 ·have k:=k1 rfl
  simp only[zFQ,zDS,hg,beq_self_eq_true]
  exact k
 ·have k:=k2 (.inl hc)
  subst hc
  have:((!w)==w)=false:=by cases w<;>rfl
  simp only[zFQ,zDS,hg,this]
  exact zAe k
 ·have k:=k2 (.inr hc)
  subst hc
  simp only[zFQ,zDS,hg]
  exact zAe k

theorem zIW{hs:List Held}{a:AAct}{h:AHeap}{K:AAct->AHeap->Prop}(k:K a h):Dr fns summ ro [] hs a h K:=zAe k
theorem dr_q{i p:Nat}{d:Option Tmp}{op:QOp}{l:List DStep}{hs:List Held}{a:AAct}{h:AHeap}{K:AAct->AHeap->Prop}{v:AVal}(hv:qA a h op=some (v,none))(k:Dr fns summ ro l hs (putA a d v) h K):
  Dr fns summ ro (⟨i,p,⟨d,none,.q op⟩⟩::l) hs a h K:=by
 unfold Dr DrawW at*
 simp only[zCd,zDS,hv]
 exact k
theorem zNi{i p:Nat}{d:Option Tmp}{op:QOp}{l:List DStep}{hs:List Held}{a:AAct}{h:AHeap}{K:AAct->AHeap->Prop}{v:AVal}{id ver:Nat}{o:AObj}(hv:qA a h op=some (v,some id))(ho:h.objs.get id=some (ver,o))
  (k:Dr fns summ ro l ({i:=i,id,ver}::hs) (putA a d v) h K):
  Dr fns summ ro (⟨i,p,⟨d,none,.q op⟩⟩::l) hs a h K:=by
 unfold Dr DrawW at*
 simp only[zCd,zDS,hv,ho]
 exact k
@[simp] theorem dropH_nil(m:Nat):zEj m []=[]:=rfl
@[simp] theorem dropH_cons(m:Nat)(k:Held)(r:List Held):zEj m (k::r)=if m.testBit k.i=true then zEj m r else k::zEj m r:=by
 simp only[zEj]
 cases m.testBit k.i<;>rfl
theorem dr_e{i p:Nat}{d:Option Tmp}{op:EOp}{l:List DStep}{hs:List Held}{a:AAct}{h:AHeap}{K:AAct->AHeap->Prop}(k:Ex fns summ ro a h d op fun a h=>zAM h p hs=true/\Dr fns summ ro l (zEj p hs) a h K):
  Dr fns summ ro (⟨i,p,⟨d,none,.e op⟩⟩::l) hs a h K:=by
 unfold Dr DrawW at*
 simp only[zCd,zDS]
 refine Ev.bind (fun n m hnm=>eA_le (zEJ fns summ hnm) ro a h d op) (Ev.mono k fun q hq=>?_)
 simp only[hq.1]
 exact hq.2
theorem dr_g{s:DStep}{t:Tmp}{w:Bool}{l:List DStep}{hs:List Held}{a:AAct}{h:AHeap}{K:AAct->AHeap->Prop}{c:AVal}(hgd:s.st.guard=some (t,w))(hg:a.tmps.get t=some c)
  (k1:c=.bool w->Dr fns summ ro ({s with st:={s.st with guard:=none}}::l) hs a h K) (k2:(c=.bool (!w)\/c=.tuple [])->Dr fns summ ro l hs (putA a s.st.dst (.tuple [])) h K) (k3:c=.bool w\/c=.bool (!w)\/c=.tuple []):
  Dr fns summ ro (s::l) hs a h K:=by
 unfold Dr DrawW at*
 rcases k3 with rfl|hc|hc
 ·have k:=k1 rfl
  simp only[zCd,zDS] at k
  simp only[zCd,hgd,zDS,hg,beq_self_eq_true]
  exact k
 ·have k:=k2 (.inl hc)
  subst hc
  have:((!w)==w)=false:=by cases w<;>rfl
  simp only[zCd,hgd,zDS,hg,this]
  exact k
 ·have k:=k2 (.inr hc)
  subst hc
  simp only[zCd,hgd,zDS,hg]
  exact k

theorem ex_turn{op:EOp}{dst:Option Tmp}{a:AAct}{h:AHeap}{K:AAct->AHeap->Prop}(h1:∀f xs,op≠.call f xs)(h2:∀f xs,op≠.defer f xs){v:AVal}{h':AHeap}(ht:zBO a h op=.ret (v,h'))(k:K (putA a dst v) h'):Ex fns summ ro a h dst op K:=by
 unfold Ex EW
 cases op<;>first|exact absurd rfl (h1 _ _)|exact absurd rfl (h2 _ _)|(simp only[eA,ht,D.bind_ret];exact zAe k)
theorem ex_turns{op:EOp}{dst:Option Tmp}{a:AAct}{h:AHeap}{K:AAct->AHeap->Prop}(h1:∀f xs,op≠.call f xs)(h2:∀f xs,op≠.defer f xs)(ht:(zBO a h op).sat fun p=>K (putA a dst p.1) p.2):Ex fns summ ro a h dst op K:=by
 unfold Ex EW
 cases op<;>first|exact absurd rfl (h1 _ _)|exact absurd rfl (h2 _ _)|(simp only[eA];exact zAe ((D.sat_bind _ _ _).2 ht))
theorem zEl{f:AOpd}{xs:List AOpd}{dst:Option Tmp}{a:AAct}{h:AHeap}{K:AAct->AHeap->Prop}{fv:AVal}{vs:List AVal}(hf:ev a f=some fv)(hv:evs a xs=some vs)(k:Cv fns summ fv vs h fun v h=>K (putA a dst v) h):
  Ex fns summ ro a h dst (.call f xs) K:=by
 unfold Ex EW
 simp only[eA,hf,hv]
 exact Ev.bind (fun n m hnm=>zKC (zEJ fns summ hnm) _ _ _) (Ev.mono k fun p hp=>zAe hp)
theorem zFh{g:FuncId}{first captured args:List AVal}{h:AHeap}{K:AVal->AHeap->Prop}(k:Cl fns summ g (first++args++captured) h K):Cv fns summ (.func g first captured) args h K:=k
theorem zCH{f:FuncId}{args:List AVal}{h:AHeap}{d:D (AVal×AHeap)}{K:AVal->AHeap->Prop}(hs:summ f args h=some d)(k:d.sat fun p=>K p.1 p.2):Cl fns summ f args h K:=by
 refine zFu ?_
 unfold Ev
 simp only[run,zIN,hs]
 exact zAe k
theorem zOS{h:AHeap}{K:AHeap->Prop}(k:K h):Lv fns summ [] h K:=zAe k
theorem zKX{r ver:Nat}{ds:List ADef}{h:AHeap}{K:AHeap->Prop}(hr:h.objs.get r=some (ver,.dfr false))(k:Lv fns summ ds (zAT h r (.dfr true)) K):Lv fns summ (.collected r::ds) h K:=by
 unfold Lv at*
 simp only[zEB,hr]
 exact k
def fin(fns:FnsT)(summ:SumT)(rs:List ARes)(K:AVal->AHeap->Prop):AExit->AAct->AHeap->Prop
 | .exit _,_,_=>False
 |_,a,h=>Lv fns summ a.defers h fun h=>∃v,zBi a h rs=some v/\K v h
theorem cl_enter{f:FuncId}{args:List AVal}{h:AHeap}{K:AVal->AHeap->Prop}{fn:AFunc}{t:T AVal}(hs:summ f args h=none)(hf:fns f=some fn)(hr:fn.recovers=none)(ht:zBW .leaf (List.range args.length) args=some t)
  (k:Cd fns summ none fn.body {tmps:=t,defers:=[]} h (fin fns summ fn.results K)):Cl fns summ f args h K:=by
 refine zFu (zFu ?_)
 simp only[run,zIN,hs,hf,hr,ht]
 refine Ev.bind (fun n m hnm=>zCW (zEJ fns summ hnm) none fn.body _ h) (Ev.mono k fun p hp=>?_)
 obtain⟨e,a1,h1⟩:=p
 have go:∀{h1:AHeap},(Lv fns summ a1.defers h1 fun h=>∃v,zBi a1 h fn.results=some v/\K v h)->Ev (fun n=>(zEB fns (run fns summ (n+1)) a1.defers h1).bind fun h=>(match zBi a1 h fn.results with |some v=>.ret (v,h)|none=>.fail:D (AVal×AHeap))) fun p=>K p.1 p.2:=by
  intro h1 hl
  refine Ev.bind (fun n m hnm=>zGB (zEJ fns summ (by omega)) _ _) ?_
  obtain⟨n,hn⟩:=hl
  refine⟨n,fun m hm=>D.sat_mono (hn (m+1) (by omega)) fun h2 hq=>?_⟩
  obtain⟨v,hv,hk⟩:=hq
  simp only[hv]
  exact zAe hk
 cases e with
 |normal=>exact go hp
 |ret=>exact go hp
 |exit i=>exact hp.elim
theorem zLF{rs:List ARes}{K:AVal->AHeap->Prop}{a:AAct}{h:AHeap}{v:AVal}(hd:a.defers=[])(hv:zBi a h rs=some v)(k:K v h):fin fns summ rs K .ret a h:=by
 show Lv fns summ a.defers h _
 rw[hd]
 exact zOS ⟨v,hv,k⟩
theorem zMv{rs:List ARes}{K:AVal->AHeap->Prop}{a:AAct}{h:AHeap}{v:AVal}(hd:a.defers=[])(hv:zBi a h rs=some v)(k:K v h):fin fns summ rs K .normal a h:=by
 show Lv fns summ a.defers h _
 rw[hd]
 exact zOS ⟨v,hv,k⟩
end
end Go.Ab
end
section
namespace Go.Ab

theorem zAz(a:AAct)(d t:Nat)(v:AVal):ev (putA a (some d) v) (.tmp t)=if t=d then some v else ev a (.tmp t):=by simp only[ev,putA,T.get_set]
theorem zBG(a:AAct)(v:AVal)(x:AOpd):ev (putA a none v) x=ev a x:=rfl
theorem zBM(a:AAct)(v:AVal):ev a (.val v)=some v:=rfl
theorem zDb(a:AAct)(g:Nat):ev a (.glob g)=some (.ptr (some (g,0))):=rfl
theorem zBe(t:T AVal)(ds:List ADef)(i k:Nat)(v:AVal):ev {tmps:=t.set k (some v),defers:=ds} (.tmp i)=if i=k then some v else ev {tmps:=t,defers:=ds} (.tmp i):=by simp only[ev,T.get_set]
theorem zCQ(a:AAct)(d t:Nat)(v:AVal):(putA a (some d) v).tmps.get t=if t=d then some v else a.tmps.get t:=by simp only[putA,T.get_set]
theorem zCu(a:AAct)(t:Nat):a.tmps.get t=ev a (.tmp t):=rfl
theorem zBl(a:AAct)(v:AVal):(putA a none v).tmps=a.tmps:=rfl
theorem zDw(a:AAct)(d:Option Nat)(v:AVal):(putA a d v).defers=a.defers:=by cases d<;>rfl

theorem zBH(h:AHeap)(o:AObj):(newA h o).next=h.next+1:=rfl
theorem zBv(h:AHeap)(id:Nat)(o:AObj):(zAT h id o).next=h.next+1:=rfl
theorem zCI(h:AHeap)(id:Nat):(zCz h id).next=h.next:=rfl
theorem zHm(h:AHeap)(o:AObj)(b:Nat):(newA h o).objs.get b=if b=h.next then some (h.next,o) else h.objs.get b:=by simp only[newA,T.get_set]
theorem zJd(h:AHeap)(id:Nat)(o:AObj)(b:Nat):(zAT h id o).objs.get b=if b=id then some (h.next,o) else h.objs.get b:=by simp only[zAT,T.get_set]
theorem zHE(h:AHeap)(id:Nat)(b:Nat):(zCz h id).objs.get b=if b=id then none else h.objs.get b:=by simp only[zCz,T.get_set]
theorem zAO(h:AHeap)(o:AObj):(newA h o).objs.get h.next=some (h.next,o):=by rw[zHm,if_pos rfl]
theorem zBc(h:AHeap)(o:AObj){b:Nat}(hb:b≠h.next):(newA h o).objs.get b=h.objs.get b:=by rw[zHm,if_neg hb]
theorem zAV(h:AHeap)(id:Nat)(o:AObj):(zAT h id o).objs.get id=some (h.next,o):=by rw[zJd,if_pos rfl]
theorem zBJ(h:AHeap)(id:Nat)(o:AObj){b:Nat}(hb:b≠id):(zAT h id o).objs.get b=h.objs.get b:=by rw[zJd,if_neg hb]
theorem zBL(h:AHeap)(id:Nat){b:Nat}(hb:b≠id):(zCz h id).objs.get b=h.objs.get b:=by rw[zHE,if_neg hb]

def WF(h:AHeap):Prop:=∀b,h.next<=b->h.objs.get b=none
structure Grow(h h':AHeap):Prop where
 wf:WF h'
 next:h.next<=h'.next
 keep:∀b p,h.objs.get b=some p->h'.objs.get b=some p

theorem WF.lt{h:AHeap}(w:WF h){b:Nat}{p:Nat×AObj}(hb:h.objs.get b=some p):b<h.next:=by
 rcases Nat.lt_or_ge b h.next with k|k
 ·exact k
 ·rw[w b k] at hb;cases hb
theorem Grow.refl{h:AHeap}(w:WF h):Grow h h:=⟨w,Nat.le_refl _,fun _ _ k=>k⟩
theorem Grow.trans{h h' h'':AHeap}(a:Grow h h')(b:Grow h' h''):Grow h h'':=⟨b.wf,Nat.le_trans a.next b.next,fun x p k=>b.keep x p (a.keep x p k)⟩
theorem Grow.new{h0 h:AHeap}(a:Grow h0 h)(o:AObj):Grow h0 (newA h o):=by
 refine⟨fun b hb=>?_,Nat.le_succ_of_le a.next,fun b p k=>?_⟩
 ·rw[zHm,if_neg (by rw[zBH] at hb;omega)];exact a.wf b (by rw[zBH] at hb;omega)
 ·have:=a.wf.lt (a.keep b p k)
  rw[zHm,if_neg (by omega)];exact a.keep b p k
theorem Grow.put{h0 h:AHeap}(a:Grow h0 h)(w0:WF h0){id:Nat}(o:AObj)(hi:h0.next<=id)(hl:id<h.next):Grow h0 (zAT h id o):=by
 refine⟨fun b hb=>?_,Nat.le_succ_of_le a.next,fun b p k=>?_⟩
 ·rw[zJd,if_neg (by rw[zBv] at hb;omega)];exact a.wf b (by rw[zBv] at hb;omega)
 ·have:=w0.lt k
  rw[zJd,if_neg (by omega)];exact a.keep b p k
theorem Grow.drop{h0 h:AHeap}(a:Grow h0 h)(w0:WF h0){id:Nat}(hi:h0.next<=id):Grow h0 (zCz h id):=by
 refine⟨fun b hb=>?_,a.next,fun b p k=>?_⟩
 ·rw[zHE];split
  ·rfl
  ·exact a.wf b hb
 ·have:=w0.lt k
  rw[zHE,if_neg (by omega)];exact a.keep b p k

def lenO:AVal->Option Nat
 | .slice _ n=>some n
 | .slice0=>some 0
 | .sliceE=>some 0
 |_=>none
def slA(v:AVal)(sz i:Nat):Option (Nat×Nat):=
 match v with
 | .slice (some (b,o)) n=>if i<n then some (b,o+i*sz) else none
 |_=>none
def SlAt(h:AHeap)(sz:Nat)(v:AVal)(xs:List (List AVal)):Prop:=
 lenO v=some xs.length/\∀i x,xs[i]?=some x->x.length=sz/\∃b o ver ro e vs,slA v sz i=some (b,o)/\h.objs.get b=some (ver,.cells ro e vs)/\(vs.drop o).take sz=x

theorem SlAt.mono{h h':AHeap}(g:Grow h h'){sz:Nat}{v:AVal}{xs:List (List AVal)}(k:SlAt h sz v xs):SlAt h' sz v xs:=
 ⟨k.1,fun i x hx=>by obtain⟨h1,b,o,ver,ro,e,vs,h2,h3,h4⟩:=k.2 i x hx;exact⟨h1,b,o,ver,ro,e,vs,h2,g.keep _ _ h3,h4⟩⟩

theorem zHr{vs:List AVal}{o:Nat}{x:AVal}(h:(vs.drop o).take 1=[x]):vs[o]?=some x:=by
 have:=congrArg (fun l=>l[0]?) h
 simpa using this
section
variable(a:AAct)(h:AHeap)
theorem zFW(x:AOpd):qA a h (.mov x)=(match ev a x with |some v=>some (v,none)|none=>none):=rfl
theorem zDl(c x y:AOpd):qA a h (.pick c x y)=(match ev a c with
  |some (.bool true)=>(match ev a x with |some v=>some (v,none)|none=>none)
  |some (.bool false)=>(match ev a y with |some v=>some (v,none)|none=>none)
  |_=>none):=rfl
theorem zBU(z:List AVal)(ps:List (Nat×Nat×AOpd)):qA a h (.build z ps)=(match zCX a z ps with |some cs=>some (.agg cs,none)|none=>none):=rfl
theorem zBX(x:AOpd):qA a h (.nilCheck x)=(match ev a x with |some (.ptr (some p))=>some (.ptr (some p),none)|_=>none):=rfl
theorem zFZ(op:BinOp)(x y:AOpd):qA a h (.num op x y)=(match ev a x,ev a y with
  |some u,some v=>(match numA op u v with |some r=>some (r,none)|none=>none)
  |_,_=>none):=rfl
theorem zDO(neg:Bool)(k:EqK)(x y:AOpd):qA a h (.eql neg k x y)=(match ev a x,ev a y with
  |some u,some v=>(match eqA k u v with |some b=>some (.bool (xor neg b),none)|none=>none)
  |_,_=>none):=rfl
theorem zFY(x:AOpd):qA a h (.not x)=(match ev a x with |some (.bool b)=>some (.bool (!b),none)|_=>none):=rfl
theorem zFX(x:AOpd):qA a h (.neg x)=(match ev a x with |some (.int k n)=>some (.int k (k.wrap (0 - n)),none)|_=>none):=rfl
theorem zDf(k:IntKind)(x:AOpd):qA a h (.conv k x)=(match ev a x with |some (.int _ n)=>some (.int k (k.wrap n),none)|_=>none):=rfl
theorem zDm(x:AOpd):qA a h (.same x)=(match ev a x with |some (.str s)=>some (.str s,none)|_=>none):=rfl
theorem zCq(t:TypeId)(x:AOpd):qA a h (.iface t x)=(match ev a x with |some v=>some (.iface t v,none)|none=>none):=rfl
theorem zDg(f:FuncId)(l m:List AOpd):qA a h (.func f l m)=(match evs a l,evs a m with
  |some l,some m=>some (.func f l m,none)
  |_,_=>none):=rfl
theorem zCp(off:Nat)(size:Option Nat)(x:AOpd):qA a h (.field off size x)=(match ev a x with
  |some (.agg cs)=>(match zAl size cs off with |some v=>some (v,none)|none=>none)
  |_=>none):=rfl
theorem zCK(off:Nat)(x:AOpd):qA a h (.fieldA off x)=(match ev a x with
  |some (.ptr (some (b,o)))=>some (.ptr (some (b,o+off)),none)
  |_=>none):=rfl
theorem zCL(size:Nat)(x i:AOpd):qA a h (.indexA size x i)=(match ev a x,ev a i with
  |some v,some w=>(match zCA w with
   |some i=>(match slA v size i with |some p=>some (.ptr (some p),none)|none=>none)
   |none=>none)
  |_,_=>none):=by
 simp only[qA]
 cases ev a x with
 |none=>rfl
 |some v=>
  cases ev a i with
  |none=>cases v with
   |slice p n=>cases p<;>rfl
   |_=>rfl
  |some w=>
   cases hw:zCA w with
   |none=>cases v with
    |slice p n=>cases p<;>simp[hw]
    |_=>simp only[hw]
   |some j=>cases v with
    |slice p n=>
     cases p with
     |none=>simp only[hw,slA]
     |some p=>
      obtain⟨b,o⟩:=p
      simp only[hw,slA]
      by_cases hj:j<n
      ·simp only[if_pos hj]
      ·simp only[if_neg hj]
    |_=>simp only[hw,slA]
theorem zBF(n size:Nat)(x i:AOpd):qA a h (.indexR n size x i)=(match ev a x,ev a i with
  |some (.ptr (some (b,o))),some v=>(match zCA v with
   |some i=>if i<n then some (.ptr (some (b,o+i*size)),none) else none
   |none=>none)
  |_,_=>none):=rfl
theorem zCM(x i:AOpd):qA a h (.indexS x i)=(match ev a x,ev a i with
  |some (.str s),some v=>(match zCA v with
   |some i=>(match s[i]? with |some c=>some (.int .u8 (Int.ofNat c),none)|none=>none)
   |none=>none)
  |_,_=>none):=rfl
theorem zBz(n size:Nat)(ag:Bool)(x i:AOpd):qA a h (.indexV n size ag x i)=(match ev a x,ev a i with
  |some (.agg cs),some v=>(match zCA v with
   |some i=>if i<n then (match zAl (if ag then some size else none) cs (i*size) with |some v=>some (v,none)|none=>none) else none
   |none=>none)
  |_,_=>none):=rfl
theorem zBn(x:AOpd)(i:Nat):qA a h (.extract x i)=(match ev a x with
  |some (.tuple vs)=>(match vs[i]? with |some v=>some (v,none)|none=>none)
  |_=>none):=rfl
theorem zDi(x:AOpd):qA a h (.lenS x)=(match ev a x with |some (.str s)=>some (.int .i64 (Int.ofNat s.length),none)|_=>none):=rfl
theorem zDj(x:AOpd):qA a h (.lenV x)=(match ev a x with
  |some v=>(match lenO v with |some n=>some (.int .i64 (Int.ofNat n),none)|none=>none)
  |none=>none):=by
 simp only[qA]
 cases ev a x with
 |none=>rfl
 |some v=>cases v<;>rfl
theorem zDh(x:AOpd):qA a h (.lenM x)=(match ev a x with
  |some (.map none)=>some (.int .i64 0,none)
  |some (.map (some r))=>(match h.objs.get r with
   |some (_,.map es _)=>some (.int .i64 (Int.ofNat es.length),some r)
   |_=>none)
  |_=>none):=rfl
theorem zFU(x y:AOpd):qA a h (.max x y)=(match ev a x,ev a y with
  |some (.int k x),some (.int _ y)=>some (.int k (if y>x then y else x),none)
  |_,_=>none):=rfl
theorem zFV(x y:AOpd):qA a h (.min x y)=(match ev a x,ev a y with
  |some (.int k x),some (.int _ y)=>some (.int k (if y<x then y else x),none)
  |_,_=>none):=rfl
theorem zDk(size:Option Nat)(x:AOpd):qA a h (.load size x)=(match ev a x with
  |some (.ptr (some (b,o)))=>(match h.objs.get b with
   |some (_,.cells _ _ vs)=>(match zAl size vs o with |some v=>some (v,some b)|none=>none)
   |_=>none)
  |_=>none):=rfl
theorem zBq (z : AVal) (ok : Bool) (m x : AOpd) : qA a h (.lookup .str z ok m x) = (match ev a m, ev a x with
      |some m,some x=>zCl h .str z ok m x
      |_,_=>none):=rfl
theorem zBp (z : AVal) (ok : Bool) (m x : AOpd) : qA a h (.lookup .int z ok m x) = (match ev a m, ev a x with
      |some m,some x=>zCl h .int z ok m x
      |_,_=>none):=rfl
theorem zBo (n : Nat) (z : AVal) (ok : Bool) (m x : AOpd) : qA a h (.lookup (.agg n) z ok m x) = (match ev a m, ev a x with
      |some m,some x=>zCl h (.agg n) z ok m x
      |_,_=>none):=rfl
theorem zCG(elem:TypeId)(size:Nat)(x:AOpd)(lo hi:Option AOpd)(h:AHeap):qA a h (.slice elem size x lo hi)=(match ev a x with
  |some (.slice none n)=>(match zBI a hi n n with
   |some h=>(match zBI a lo 0 h with |some _=>some (.slice none 0,none)|none=>none)
   |none=>none)
  |some (.slice (some (b,o)) n)=>(match zBI a hi n n with
   |some t=>(match zBI a lo 0 t with
    |some 0=>some (.slice (some (b,o)) t,none)
    |some l=>if l<n then (match h.objs.get b with
      |some (_,.cells _ e _)=>if e=elem then some (.slice (some (b,o+l*size)) (t - l),none) else none
      |_=>none)
     else some (.sliceE,none)
    |none=>none)
   |none=>none)
  |some .slice0=>(match zBI a hi 0 0 with
   |some t=>(match zBI a lo 0 t with |some _=>some (.slice0,none)|none=>none)
   |none=>none)
  |_=>none):=rfl
theorem zBr(x:AOpd):qA a h (.slice00 x)=(match ev a x with
  |some (.slice none _)=>some (.slice none 0,none)
  |some (.slice (some _) _)=>some (.slice0,none)
  |some .slice0=>some (.slice0,none)
  |_=>none):=rfl
end

def intC(k:Int):List AVal:=[.int .i64 k]
def strC(s:List Nat):List AVal:=[.str s]
def IntsAt(h:AHeap)(v:AVal)(l:List Int):Prop:=SlAt h 1 v (l.map intC)
def StrsAt(h:AHeap)(v:AVal)(l:List (List Nat)):Prop:=SlAt h 1 v (l.map strC)
structure Node where
 kind:Int
 name:List Nat
 args:List Int
 labels:List (List Nat)
 isOpen:Bool
 deriving DecidableEq
structure Graph where
 nodes:List Node
 root:Int
 deriving DecidableEq
def NodeAt(h:AHeap)(c:List AVal)(n:Node):Prop:=∃av lv,c=[.int .i64 n.kind,.str n.name,av,lv,.bool n.isOpen]/\IntsAt h av n.args/\StrsAt h lv n.labels
def NodesAt(h:AHeap)(v:AVal)(l:List Node):Prop:=∃cs:List (List AVal),SlAt h 5 v cs/\cs.length=l.length/\∀(i:Nat) (n:Node) (c:List AVal),l[i]?=some n->cs[i]?=some c->NodeAt h c n
def GraphAt(h:AHeap)(v:AVal)(g:Graph):Prop:=∃nv,v=.agg [nv,.int .i64 g.root]/\NodesAt h nv g.nodes

section
variable{h h':AHeap}(g:Grow h h')
include g
theorem IntsAt.mono{v:AVal}{l:List Int}(k:IntsAt h v l):IntsAt h' v l:=SlAt.mono g k
theorem StrsAt.mono{v:AVal}{l:List (List Nat)}(k:StrsAt h v l):StrsAt h' v l:=SlAt.mono g k
theorem NodeAt.mono{c:List AVal}{n:Node}(k:NodeAt h c n):NodeAt h' c n:=by obtain⟨av,lv,h1,h2,h3⟩:=k;exact⟨av,lv,h1,h2.mono g,h3.mono g⟩
theorem NodesAt.mono{v:AVal}{l:List Node}(k:NodesAt h v l):NodesAt h' v l:=by
 obtain⟨cs,h1,h2,h3⟩:=k;exact⟨cs,h1.mono g,h2,fun i n c a b=>(h3 i n c a b).mono g⟩
theorem GraphAt.mono{v:AVal}{x:Graph}(k:GraphAt h v x):GraphAt h' v x:=by obtain⟨nv,h1,h2⟩:=k;exact⟨nv,h1,h2.mono g⟩
end
theorem IntsAt.len{h:AHeap}{v:AVal}{l:List Int}(k:IntsAt h v l):lenO v=some l.length:=by have:=k.1;rwa [List.length_map] at this
theorem StrsAt.len{h:AHeap}{v:AVal}{l:List (List Nat)}(k:StrsAt h v l):lenO v=some l.length:=by have:=k.1;rwa [List.length_map] at this
theorem NodesAt.len{h:AHeap}{v:AVal}{l:List Node}(k:NodesAt h v l):lenO v=some l.length:=by obtain⟨cs,h1,h2,_⟩:=k;rw[<-h2];exact h1.1

theorem IntsAt.at{h:AHeap}{v:AVal}{l:List Int}(k:IntsAt h v l){i:Nat}{c:Int}(hc:l[i]?=some c):
  ∃b o ver ro e vs,slA v 1 i=some (b,o)/\h.objs.get b=some (ver,.cells ro e vs)/\vs[o]?=some (.int .i64 c):=by
 obtain⟨_,b,o,ver,ro,e,vs,h1,h2,h3⟩:=k.2 i (intC c) (by rw[List.getElem?_map,hc];rfl)
 exact⟨b,o,ver,ro,e,vs,h1,h2,zHr h3⟩
theorem StrsAt.at{h:AHeap}{v:AVal}{l:List (List Nat)}(k:StrsAt h v l){i:Nat}{c:List Nat}(hc:l[i]?=some c):
  ∃b o ver ro e vs,slA v 1 i=some (b,o)/\h.objs.get b=some (ver,.cells ro e vs)/\vs[o]?=some (.str c):=by
 obtain⟨_,b,o,ver,ro,e,vs,h1,h2,h3⟩:=k.2 i (strC c) (by rw[List.getElem?_map,hc];rfl)
 exact⟨b,o,ver,ro,e,vs,h1,h2,zHr h3⟩
theorem NodesAt.at{h:AHeap}{v:AVal}{l:List Node}(k:NodesAt h v l){i:Nat}{n:Node}(hc:l[i]?=some n):
  ∃b o ver ro e vs av lv,slA v 5 i=some (b,o)/\h.objs.get b=some (ver,.cells ro e vs)/\o+5<=vs.length/\(vs.drop o).take 5=[.int .i64 n.kind,.str n.name,av,lv,.bool n.isOpen]∧
   vs[o]?=some (.int .i64 n.kind)/\vs[o+1]?=some (.str n.name)/\vs[o+2]?=some av/\vs[o+3]?=some lv/\vs[o+4]?=some (.bool n.isOpen)/\IntsAt h av n.args/\StrsAt h lv n.labels:=by
 obtain⟨cs,h1,h2,h3⟩:=k
 have hi:i<cs.length:=by rw[h2];exact(List.getElem?_eq_some_iff.1 hc).1
 have hcs:cs[i]?=some cs[i]:=List.getElem?_eq_getElem hi
 obtain⟨av,lv,h4,h5,h6⟩:=h3 i n _ hc hcs
 obtain⟨k4,b,o,ver,ro,e,vs,k1,k2,k3⟩:=h1.2 i _ hcs
 rw[h4] at k3
 have hl:o+5<=vs.length:=by have:=congrArg List.length k3;simp at this;omega
 have hg:∀j:Nat,j<5->vs[o+j]?=([.int .i64 n.kind,.str n.name,av,lv,.bool n.isOpen]:List AVal)[j]?:=fun j hj=>by
  rw[<-k3,List.getElem?_take,if_pos hj,List.getElem?_drop]
 exact⟨b,o,ver,ro,e,vs,av,lv,k1,k2,hl,k3,hg 0 (by decide),hg 1 (by decide),hg 2 (by decide),hg 3 (by decide),hg 4 (by decide),h5,h6⟩

theorem zAc{n:Int}(h0: -(2 ^ 62)<=n)(h1:n<2 ^ 62):IntKind.i64.wrap n=n:=by
 have hs:IntKind.i64.signed=true:=rfl
 have hb:IntKind.i64.bits=64:=rfl
 unfold IntKind.wrap
 simp only[hs,hb]
 have e63:(2:Int) ^ (64 - 1)=9223372036854775808:=by decide
 have e64:(2:Int) ^ 64=18446744073709551616:=by decide
 rw[e63,e64]
 have h0': -4611686018427387904<=n:=h0
 have h1':n<4611686018427387904:=h1
 rcases Int.lt_or_le n 0 with hn|hn
 ·have:n % 18446744073709551616=n+18446744073709551616:=by omega
  rw[this]
  have:(decide (n+18446744073709551616>=9223372036854775808))=true:=by rw[decide_eq_true_eq];omega
  simp only[this,Bool.and_self,if_true]
  omega
 ·have:n % 18446744073709551616=n:=by omega
  rw[this]
  have:(decide (n>=9223372036854775808))=false:=by rw[decide_eq_false_iff_not];omega
  simp only[this,Bool.and_false,Bool.false_eq_true,if_false]

section
variable{fns:FnsT}{summ:SumT}{ro:Option Nat}

theorem cd_count{k c i n d:Nat}{inner:ACode}{N:Nat}(hN:N<2 ^ 62){Q:AExit->AAct->AHeap->Prop}(I:Nat->AAct->AHeap->Prop)
  (stab:∀j a h t v,(t=c\/t=d\/t=i)->I j a h->I j (putA a (some t) v) h) (hx:n≠c/\n≠d/\n≠i/\c≠i/\d≠i)
  (hb:∀j a h,j<N->I j a h->ev a (.tmp i)=some (.int .i64 (j:Nat))->ev a (.tmp n)=some (.int .i64 (N:Nat))->Cd fns summ ro inner a h (nxt (fun a h=>I (j+1) a h/\ev a (.tmp i)=some (.int .i64 (j:Nat))/\ev a (.tmp n)=some (.int .i64 (N:Nat))) (blk k Q)))
  (he:∀a h,I N a h->Q .normal a h) {a:AAct} {h:AHeap} (hi:I 0 a h) (h1:ev a (.tmp i)=some (.int .i64 0)) (h2:ev a (.tmp n)=some (.int .i64 (N:Nat))):
  Cd fns summ ro (.block k (.loop (.seq (.ops [⟨some c,none,.q (.num .lss (.tmp i) (.tmp n))⟩]) (.seq (.cond (.tmp c) .skip (.exit k)) (.seq inner
   (.ops [⟨some d,none,.q (.num .add (.tmp i) (.val (.int .i64 1)))⟩,⟨some i,none,.q (.mov (.tmp d))⟩])))))) a h Q:=by
 obtain⟨n1,n2,n3,n4,n5⟩:=hx
 refine zBS ?_
 refine zCV (fun m a h=>∃j:Nat,m+j=N/\I j a h/\ev a (.tmp i)=some (.int .i64 (j:Nat))/\ev a (.tmp n)=some (.int .i64 (N:Nat))) ?_ (n:=N) ⟨0,rfl,hi,h1,h2⟩
 rintro m a h ⟨j,hm,hI,hi,hn⟩
 refine zAv (zBC (st_q (v:=.bool (decide ((j:Int)<(N:Int)))) (b:=none) ?_ (zAN ?_)))
 ·simp only[qA,hi,hn];rfl
 refine zAv (zAD (b:=decide ((j:Int)<(N:Int))) (by simp only[zAz,if_true]) (fun hlt=>zKv ?_) (fun hge=>zKt ?_))
 ·have hlt:(j:Int)<(N:Int):=of_decide_eq_true hlt
  have hlt':j<N:=by omega
  refine zAv ((hb j _ h hlt' (stab _ _ _ _ _ (.inl rfl) hI) (by rw[zAz,if_neg (Ne.symm n4)];exact hi) (by rw[zAz,if_neg n1];exact hn)).mono fun e a1 h1 hq=>?_)
  cases e with
  |normal=>
   obtain⟨hI1,hi1,hn1⟩:=hq
   have hw:IntKind.i64.wrap ((j:Int)+1)=((j+1:Nat):Int):=by rw[zAc (by omega) (by omega)];omega
   refine zBC (st_q (v:=.int .i64 ((j+1:Nat):Int)) (b:=none) ?_ (st_q (v:=.int .i64 ((j+1:Nat):Int)) (b:=none) ?_ (zAN ?_)))
   ·rw[<-hw];simp only[qA,hi1,zBM];rfl
   ·simp only[qA,zAz,if_true]
   ·exact⟨m - 1,by omega,j+1,by omega,stab _ _ _ _ _ (.inr (.inr rfl)) (stab _ _ _ _ _ (.inr (.inl rfl)) hI1),by rw[zAz,if_pos rfl],by rw[zAz,if_neg n3,zAz,if_neg n2];exact hn1⟩
  |ret=>exact hq
  |exit id=>exact hq
 ·have hge:¬((j:Int)<(N:Int)):=of_decide_eq_false hge
  have:j=N:=by omega
  subst this
  show blk k Q (.exit k) _ _
  simp only[blk,if_true]
  exact he _ _ (stab _ _ _ _ _ (.inl rfl) hI)

theorem zLX{d:Option Tmp}{t:Tmp}{w:Bool}{op:QOp}{l:List Step}{a:AAct}{h:AHeap}{K:AAct->AHeap->Prop}{v:AVal}{b:Option Nat}(hg:ev a (.tmp t)=some (.bool w))(hv:qA a h op=some (v,b))(k:St fns summ ro l (putA a d v) h K):
  St fns summ ro (⟨d,some (t,w),.q op⟩::l) a h K:=st_qg hg (fun _=>⟨v,b,hv,k⟩) (fun hc=>by rcases hc with hc|hc<;>(cases w<;>cases hc)) (.inl rfl)
theorem zOq{d:Option Tmp}{t:Tmp}{w:Bool}{op:QOp}{l:List Step}{a:AAct}{h:AHeap}{K:AAct->AHeap->Prop}(hg:ev a (.tmp t)=some (.bool (!w)))(k:St fns summ ro l (putA a d (.tuple [])) h K):
  St fns summ ro (⟨d,some (t,w),.q op⟩::l) a h K:=st_qg hg (fun hc=>by cases w<;>cases hc) (fun _=>k) (.inr (.inl rfl))
theorem zOr{d:Option Tmp}{t:Tmp}{w:Bool}{op:QOp}{l:List Step}{a:AAct}{h:AHeap}{K:AAct->AHeap->Prop}(hg:ev a (.tmp t)=some (.tuple []))(k:St fns summ ro l (putA a d (.tuple [])) h K):
  St fns summ ro (⟨d,some (t,w),.q op⟩::l) a h K:=st_qg hg (fun hc=>by cases hc) (fun _=>k) (.inr (.inr rfl))
theorem st_eT{d:Option Tmp}{t:Tmp}{w:Bool}{op:EOp}{l:List Step}{a:AAct}{h:AHeap}{K:AAct->AHeap->Prop}(hg:ev a (.tmp t)=some (.bool w))(k:Ex fns summ ro a h d op fun a h=>St fns summ ro l a h K):
  St fns summ ro (⟨d,some (t,w),.e op⟩::l) a h K:=st_eg hg (fun _=>k) (fun hc=>by rcases hc with hc|hc<;>(cases w<;>cases hc)) (.inl rfl)
theorem zOl{d:Option Tmp}{t:Tmp}{w:Bool}{op:EOp}{l:List Step}{a:AAct}{h:AHeap}{K:AAct->AHeap->Prop}(hg:ev a (.tmp t)=some (.bool (!w)))(k:St fns summ ro l (putA a d (.tuple [])) h K):
  St fns summ ro (⟨d,some (t,w),.e op⟩::l) a h K:=st_eg hg (fun hc=>by cases w<;>cases hc) (fun _=>k) (.inr (.inl rfl))
theorem zOm{d:Option Tmp}{t:Tmp}{w:Bool}{op:EOp}{l:List Step}{a:AAct}{h:AHeap}{K:AAct->AHeap->Prop}(hg:ev a (.tmp t)=some (.tuple []))(k:St fns summ ro l (putA a d (.tuple [])) h K):
  St fns summ ro (⟨d,some (t,w),.e op⟩::l) a h K:=st_eg hg (fun hc=>by cases hc) (fun _=>k) (.inr (.inr rfl))
theorem zAJ{d:Option Tmp}{f:FuncId}{xs:List AOpd}{l:List Step}{a:AAct}{h:AHeap}{K:AAct->AHeap->Prop}{vs:List AVal}(hv:evs a xs=some vs)(k:Cl fns summ f vs h fun v h=>St fns summ ro l (putA a d v) h K):
  St fns summ ro (⟨d,none,.e (.call (.val (.func f [] [])) xs)⟩::l) a h K:=st_e (zEl rfl hv (zFh (by simpa using k)))
theorem zAr{d:Option Tmp}{t:Tmp}{w:Bool}{f:FuncId}{xs:List AOpd}{l:List Step}{a:AAct}{h:AHeap}{K:AAct->AHeap->Prop}{vs:List AVal}(hg:ev a (.tmp t)=some (.bool w))(hv:evs a xs=some vs)(k:Cl fns summ f vs h fun v h=>St fns summ ro l (putA a d v) h K):
  St fns summ ro (⟨d,some (t,w),.e (.call (.val (.func f [] [])) xs)⟩::l) a h K:=st_eT hg (zEl rfl hv (zFh (by simpa using k)))
theorem st_t{d:Option Tmp}{op:EOp}{l:List Step}{a:AAct}{h:AHeap}{K:AAct->AHeap->Prop}(h1:∀f xs,op≠.call f xs)(h2:∀f xs,op≠.defer f xs){v:AVal}{h':AHeap}(ht:zBO a h op=.ret (v,h'))(k:St fns summ ro l (putA a d v) h' K):
  St fns summ ro (⟨d,none,.e op⟩::l) a h K:=st_e (ex_turn h1 h2 ht k)

theorem zAf{K:AAct->AHeap->Prop}{Q:AExit->AAct->AHeap->Prop}{a:AAct}{h:AHeap}(k:K a h):nxt K Q .normal a h:=k
theorem zHp{K:AAct->AHeap->Prop}{Q:AExit->AAct->AHeap->Prop}{a:AAct}{h:AHeap}(k:Q .ret a h):nxt K Q .ret a h:=k
theorem zGJ{K:AAct->AHeap->Prop}{Q:AExit->AAct->AHeap->Prop}{a:AAct}{h:AHeap}{i:Nat}(k:Q (.exit i) a h):nxt K Q (.exit i) a h:=k
theorem zCg{Q:AExit->AAct->AHeap->Prop}{a:AAct}{h:AHeap}{i:Nat}(k:Q .normal a h):blk i Q .normal a h:=k
theorem zHQ{Q:AExit->AAct->AHeap->Prop}{a:AAct}{h:AHeap}{i:Nat}(k:Q .ret a h):blk i Q .ret a h:=k
theorem zFn{Q:AExit->AAct->AHeap->Prop}{a:AAct}{h:AHeap}{i:Nat}(k:Q .normal a h):blk i Q (.exit i) a h:=by simp only[blk,if_true];exact k
theorem zEi{Q:AExit->AAct->AHeap->Prop}{a:AAct}{h:AHeap}{i j:Nat}(k:Q (.exit j) a h)(hn:Nat.beq j i=false):blk i Q (.exit j) a h:=by
 have:j≠i:=fun e=>by rw[e,Nat.beq_refl] at hn;cases hn
 simp only[blk,if_neg this];exact k
theorem cd_cut{x y:ACode}{a:AAct}{h:AHeap}{Q:AExit->AAct->AHeap->Prop}(I:AAct->AHeap->Prop)(k1:Cd fns summ ro x a h (nxt I Q))(k2:∀a h,I a h->Cd fns summ ro y a h Q):Cd fns summ ro (.seq x y) a h Q:=
 zAv (k1.mono fun e a1 h1 hq=>by cases e with
  |normal=>exact k2 a1 h1 hq
  |ret=>exact hq
  |exit i=>exact hq)
theorem zHV{id:Nat}{x y:ACode}{a:AAct}{h:AHeap}{Q:AExit->AAct->AHeap->Prop}(k:Cd fns summ ro (.seq x y) a h (blk id Q)):Cd fns summ ro (.block id (.seq x y)) a h Q:=zBS k
theorem zKF{id:Nat}{l:List Step}{a:AAct}{h:AHeap}{Q:AExit->AAct->AHeap->Prop}(k:St fns summ ro l a h (blk id Q .normal)):Cd fns summ ro (.block id (.ops l)) a h Q:=zBS (zBC k)

theorem zDR{x y:List Nat}(h:x.length+y.length<1000000000000):zEd .add x y=some (.str (x++y)):=by simp only[zEd,if_pos h]
theorem zDn(x y:List Nat):zEd .eql x y=some (.bool (eqL x y)):=rfl
theorem zDs(x y:List Nat):zEd .neq x y=some (.bool (!eqL x y)):=rfl
theorem zDr(x y:List Nat):zEd .lss x y=some (.bool (zAs x y)):=rfl
theorem zDq(x y:List Nat):zEd .leq x y=some (.bool (zAs x y||eqL x y)):=rfl
theorem zDp(x y:List Nat):zEd .gtr x y=some (.bool (!(zAs x y||eqL x y))):=rfl
theorem zDo(x y:List Nat):zEd .geq x y=some (.bool (!zAs x y)):=rfl

theorem zIx{d:Option Tmp}{kk:KeyK}{m x v:AOpd}{l:List Step}{a:AAct}{h:AHeap}{K:AAct->AHeap->Prop}{r ver clock:Nat}{k val:AVal}{es:List (AVal×AVal×Nat)}(hm:ev a m=some (.map (some r)))(hx:ev a x=some k)(hv:ev a v=some val)
  (hn:kk≠.ptr) (hk:zEA kk k=true) (hg:h.objs.get r=some (ver,.map es clock)) (hf:zBa kk k es 0=some none) (kont:St fns summ ro l (putA a d (.tuple [])) (zAT h r (.map (es++[(k,val,clock)]) (clock+1))) K):St fns summ ro (⟨d,none,.e (.update kk m x v)⟩::l) a h K:=by
 refine st_t (by intro _ _ hh;cases hh) (by intro _ _ hh;cases hh) (v:=.tuple []) (h':=zAT h r (.map (es++[(k,val,clock)]) (clock+1))) ?_ kont
 have:zIh h kk (.map (some r)) k=true:=by cases kk<;>first|rfl|exact absurd rfl hn
 simp only[zBO,hm,hx,hv,this,zJt,hk,hg,hf]
def gd(p:Bool)(v:AVal):AVal:=match p with |true=>v|false=>.tuple []
def gdB(w:Bool):AVal->Option Bool
 | .bool c=>some (c==w)
 | .tuple []=>some false
 |_=>none
theorem zCn(w c:Bool):gdB w (.bool c)=some (c==w):=rfl
theorem zFS(w q c:Bool):gdB w (gd q (.bool c))=some (q&&(c==w)):=by cases q<;>rfl
theorem zDc(v:AVal):gd true v=v:=rfl
theorem beqT(b:Bool):(b==true)=b:=by cases b<;>rfl
theorem beqF(b:Bool):(b==false)= !b:=by cases b<;>rfl
theorem gdB_spec{w p:Bool}{gv:AVal}(hp:gdB w gv=some p):(p=true->gv=.bool w)/\(p=false->gv=.bool (!w)\/gv=.tuple [])/\(gv=.bool w\/gv=.bool (!w)\/gv=.tuple []):=by
 unfold gdB at hp
 split at hp
 ·rename_i c
  simp only[oI] at hp
  subst hp
  cases c<;>cases w<;>simp
 ·simp only[oI] at hp;subst hp;simp
 ·cases hp
theorem zLW{d:Option Tmp}{t:Tmp}{w p:Bool}{op:QOp}{l:List Step}{a:AAct}{h:AHeap}{K:AAct->AHeap->Prop}{gv v:AVal}{b:Option Nat}(hg:ev a (.tmp t)=some gv)(hp:gdB w gv=some p)(hv:p=true->qA a h op=some (v,b))(k:St fns summ ro l (putA a d (gd p v)) h K):
  St fns summ ro (⟨d,some (t,w),.q op⟩::l) a h K:=by
 obtain⟨h1,h2,h3⟩:=gdB_spec hp
 refine st_qg hg (fun hc=>?_) (fun hc=>?_) h3
 ·cases p with
  |true=>exact⟨v,b,hv rfl,k⟩
  |false=>rcases h2 rfl with h4|h4<;>(rw[h4] at hc;cases w<;>cases hc)
 ·cases p with
  |true=>have:=h1 rfl;subst this;rcases hc with hc|hc<;>(cases w<;>cases hc)
  |false=>exact k
theorem zMQ{a:AAct}{h:AHeap}{c x:AOpd}{b v:Bool}(hc:ev a c=some (.bool b))(hx:b=true->ev a x=some (.bool v)):qA a h (.pick c x (.val (.bool false)))=some (.bool (b&&v),none):=by
 cases b with
 |true=>simp only[qA,hc,hx rfl,Bool.true_and]
 |false=>simp only[qA,hc,zBM,Bool.false_and]
theorem zOb{a:AAct}{h:AHeap}{c y:AOpd}{b v:Bool}(hc:ev a c=some (.bool b))(hy:b=false->ev a y=some (.bool v)):qA a h (.pick c (.val (.bool true)) y)=some (.bool (b||v),none):=by
 cases b with
 |true=>simp only[qA,hc,zBM,Bool.true_or]
 |false=>simp only[qA,hc,hy rfl,Bool.false_or]

theorem zNc{f:AOpd}{ps:List Tmp}{assign body:ACode}{a:AAct}{h:AHeap}{Q:AExit->AAct->AHeap->Prop}{g:FuncId}{first captured:List AVal}(hf:ev a f=some (.func g first captured))
  (k:Cl fns summ g (first++[.yield (h.next+1)]++captured) (newA (newA h (.dfr false)) (.loop .ready none a.tmps ps assign body h.next)) fun _ h3=>
   ∃ver st pd t ps' as' bd' df',h3.objs.get (h.next+1)=some (ver,.loop st pd t ps' as' bd' df')/\st≠.busy∧
    (match pd with
    |none=>Q .normal {a with defers:=.collected h.next::a.defers} (zAT h3 (h.next+1) (.loop .exhausted none t ps' as' bd' df'))
    |some .normal=>False
    |some e=>Q e {a with defers:=.collected h.next::a.defers} (zAT h3 (h.next+1) (.loop .exhausted (some e) t ps' as' bd' df')))):
  Cd fns summ none (.rangeF f ps assign body) a h Q:=by
 unfold Cd CodeW
 simp only[zCc,hf]
 refine Ev.bind (fun n m hnm=>(zEJ fns summ hnm).1 _ _ _) (Ev.mono k fun p hp=>?_)
 obtain⟨ver,st,pd,t,ps',as',bd',df',h1,h2,h3⟩:=hp
 simp only[zBH,h1]
 cases st with
 |busy=>exact absurd rfl h2
 |ready|done|exhausted=>
  cases pd with
  |none=>exact zAe h3
  |some e=>cases e with
   |normal=>exact h3.elim
   |ret=>exact zAe h3
   |exit id=>exact zAe h3
theorem cv_yield{l ver df:Nat}{args:List AVal}{h:AHeap}{pd:Option AExit}{tmps t:T AVal}{ps:List Tmp}{as bd:ACode}{K:AVal->AHeap->Prop}(hl:h.objs.get l=some (ver,.loop .ready pd tmps ps as bd df))(ht:zBW tmps ps args=some t)
  (k:Cd fns summ (some l) as {tmps:=t,defers:=[]} h (nxt (fun a1 h1=>∃ver pd tm ps as bd1 df,h1.objs.get l=some (ver,.loop .ready pd tm ps as bd1 df)∧
   Cd fns summ (some l) bd a1 (zAT h1 l (.loop .busy pd tm ps as bd1 df)) (fun e _ h3=>∃ver st pd tm ps as bd df,h3.objs.get l=some (ver,.loop st pd tm ps as bd df)∧
    (match e with
    | .normal=>K (.bool true) (zAT h3 l (.loop .ready none tm ps as bd df))
    |e=>K (.bool false) (zAT h3 l (.loop .done (some e) tm ps as bd df))))) (fun _ _ _=>False))):Cv fns summ (.yield l) args h K:=by
 unfold Cv CallVW
 simp only[zGp,zIA,hl,ht]
 refine zFu ?_
 refine Ev.bind (fun n m hnm=>(zEJ fns summ (by omega)).2 _ _ _ _) (Ev.mono k fun p hp=>?_)
 obtain⟨e,a1,h1⟩:=p
 cases e with
 |ret=>exact hp.elim
 |exit id=>exact hp.elim
 |normal=>
  obtain⟨ver,pd,tm,ps,as,bd1,df,h2,h3⟩:=hp
  simp only[h2]
  show Ev _ _
  refine Ev.bind (d:=fun n=>(run fns summ (n+1)).code (some l) bd a1 (zAT h1 l (.loop .busy pd tm ps as bd1 df))) (fun n m hnm=>(zEJ fns summ (by omega)).2 _ _ _ _) (Ev.mono h3 fun q hq=>?_)
  obtain⟨ver,st,pd,tm,ps,as,bd,df,h4,h5⟩:=hq
  simp only[h4]
  obtain⟨e,a3,h6⟩:=q
  cases e with
  |normal=>exact zAe h5
  |ret=>exact zAe h5
  |exit id=>exact zAe h5
end
end Go.Ab
end
section
namespace Go.Ab
section
variable{fns:FnsT}{summ:SumT}{ro:Option Nat}
 {d:Option Tmp} {t:Tmp} {w p q c1 c2:Bool} {gv v:AVal} {op:QOp} {eo:EOp} {x y z:AOpd} {xs:List AOpd} {l:List Step} {X Y:ACode} {a:AAct} {h h':AHeap} {K:AAct->AHeap->Prop} {Q:AExit->AAct->AHeap->Prop} {b:Option Nat}
 {rq:Option (AVal×Option Nat)} {re:Option AVal} {rb:Option Bool} {rs:Option (List AVal)} {rd:D (AVal×AHeap)}
theorem q1(hv:qA a h op=rq:=by(simp (disch:=omega) only[zFW,zDl,zBU,zBX,zFZ,zDO,zFY,zFX,zDf,zDm,zCq,zDg,zCp,zCK,zCL,zBF,zCM,zBz,zBn,zDi,zDj,zDh,zFU,zFV,zDk,zBq,zBp,zBo,zCG,zBr,Int.natCast_nonneg,Int.toNat_natCast,zAz,zBe,zBG,zBM,zDb,zCQ,zCu,zBl,Nat.reduceEqDiff,if_true,if_false,ite_true,ite_false,reduceIte,evs,mapO,numA,zDz,zDR,zDn,zDs,zDr,zDq,zDp,zDo,eqA,zAl,zAX,zCX,zCA,Nat.zero_add,Nat.add_zero,Nat.reduceAdd,Nat.reduceMul,Nat.reduceSub,Nat.reduceLeDiff,Nat.mul_one,Nat.one_mul,Nat.zero_mul,zBH,zBv,zCI,zAO,zAV,zBc,zBJ,zBL,Nat.left_eq_add,Nat.add_eq_left,Nat.add_left_cancel_iff,Nat.one_ne_zero,zBI,zlC,zlN,zlY,zlZ,List.getElem?_cons_zero,List.getElem?_cons_succ,zCn,zFS,zDc,beqT,beqF,Bool.not_true,Bool.not_false,Bool.true_and,Bool.and_true,Bool.false_and,Bool.and_false,Bool.and_self,Bool.true_or,Bool.or_true,Bool.false_or,Bool.or_false,decide_true,decide_false,Option.isNone_none,Option.isNone_some,Bool.false_xor, *]<;>rfl)):qA a h op=rq:=hv
theorem e1(hv:ev a x=re:=by(simp (disch:=omega) only[zFW,zDl,zBU,zBX,zFZ,zDO,zFY,zFX,zDf,zDm,zCq,zDg,zCp,zCK,zCL,zBF,zCM,zBz,zBn,zDi,zDj,zDh,zFU,zFV,zDk,zBq,zBp,zBo,zCG,zBr,Int.natCast_nonneg,Int.toNat_natCast,zAz,zBe,zBG,zBM,zDb,zCQ,zCu,zBl,Nat.reduceEqDiff,if_true,if_false,ite_true,ite_false,reduceIte,evs,mapO,numA,zDz,zDR,zDn,zDs,zDr,zDq,zDp,zDo,eqA,zAl,zAX,zCX,zCA,Nat.zero_add,Nat.add_zero,Nat.reduceAdd,Nat.reduceMul,Nat.reduceSub,Nat.reduceLeDiff,Nat.mul_one,Nat.one_mul,Nat.zero_mul,zBH,zBv,zCI,zAO,zAV,zBc,zBJ,zBL,Nat.left_eq_add,Nat.add_eq_left,Nat.add_left_cancel_iff,Nat.one_ne_zero,zBI,zlC,zlN,zlY,zlZ,List.getElem?_cons_zero,List.getElem?_cons_succ,zCn,zFS,zDc,beqT,beqF,Bool.not_true,Bool.not_false,Bool.true_and,Bool.and_true,Bool.false_and,Bool.and_false,Bool.and_self,Bool.true_or,Bool.or_true,Bool.false_or,Bool.or_false,decide_true,decide_false,Option.isNone_none,Option.isNone_some,Bool.false_xor, *]<;>rfl)):ev a x=re:=hv
theorem g1(hv:gdB w gv=rb:=by(simp (disch:=omega) only[zFW,zDl,zBU,zBX,zFZ,zDO,zFY,zFX,zDf,zDm,zCq,zDg,zCp,zCK,zCL,zBF,zCM,zBz,zBn,zDi,zDj,zDh,zFU,zFV,zDk,zBq,zBp,zBo,zCG,zBr,Int.natCast_nonneg,Int.toNat_natCast,zAz,zBe,zBG,zBM,zDb,zCQ,zCu,zBl,Nat.reduceEqDiff,if_true,if_false,ite_true,ite_false,reduceIte,evs,mapO,numA,zDz,zDR,zDn,zDs,zDr,zDq,zDp,zDo,eqA,zAl,zAX,zCX,zCA,Nat.zero_add,Nat.add_zero,Nat.reduceAdd,Nat.reduceMul,Nat.reduceSub,Nat.reduceLeDiff,Nat.mul_one,Nat.one_mul,Nat.zero_mul,zBH,zBv,zCI,zAO,zAV,zBc,zBJ,zBL,Nat.left_eq_add,Nat.add_eq_left,Nat.add_left_cancel_iff,Nat.one_ne_zero,zBI,zlC,zlN,zlY,zlZ,List.getElem?_cons_zero,List.getElem?_cons_succ,zCn,zFS,zDc,beqT,beqF,Bool.not_true,Bool.not_false,Bool.true_and,Bool.and_true,Bool.false_and,Bool.and_false,Bool.and_self,Bool.true_or,Bool.or_true,Bool.false_or,Bool.or_false,decide_true,decide_false,Option.isNone_none,Option.isNone_some,Bool.false_xor, *]<;>rfl)):gdB w gv=rb:=hv
theorem q2(hv:p=c1->qA a h op=rq:=by intro hb_;(try simp only[Bool.and_eq_true,Bool.not_eq_true',Bool.not_eq_eq_eq_not,Bool.not_true,Bool.not_false,Bool.or_eq_false_iff] at hb_);(simp (disch:=omega) only[zFW,zDl,zBU,zBX,zFZ,zDO,zFY,zFX,zDf,zDm,zCq,zDg,zCp,zCK,zCL,zBF,zCM,zBz,zBn,zDi,zDj,zDh,zFU,zFV,zDk,zBq,zBp,zBo,zCG,zBr,Int.natCast_nonneg,Int.toNat_natCast,zAz,zBe,zBG,zBM,zDb,zCQ,zCu,zBl,Nat.reduceEqDiff,if_true,if_false,ite_true,ite_false,reduceIte,evs,mapO,numA,zDz,zDR,zDn,zDs,zDr,zDq,zDp,zDo,eqA,zAl,zAX,zCX,zCA,Nat.zero_add,Nat.add_zero,Nat.reduceAdd,Nat.reduceMul,Nat.reduceSub,Nat.reduceLeDiff,Nat.mul_one,Nat.one_mul,Nat.zero_mul,zBH,zBv,zCI,zAO,zAV,zBc,zBJ,zBL,Nat.left_eq_add,Nat.add_eq_left,Nat.add_left_cancel_iff,Nat.one_ne_zero,zBI,zlC,zlN,zlY,zlZ,List.getElem?_cons_zero,List.getElem?_cons_succ,zCn,zFS,zDc,beqT,beqF,Bool.not_true,Bool.not_false,Bool.true_and,Bool.and_true,Bool.false_and,Bool.and_false,Bool.and_self,Bool.true_or,Bool.or_true,Bool.false_or,Bool.or_false,decide_true,decide_false,Option.isNone_none,Option.isNone_some,Bool.false_xor, *]<;>rfl)):p=c1->qA a h op=rq:=hv
theorem e2(hv:p=c1->ev a x=re:=by intro hb_;(try simp only[Bool.and_eq_true,Bool.not_eq_true',Bool.not_eq_eq_eq_not,Bool.not_true,Bool.not_false,Bool.or_eq_false_iff] at hb_);(simp (disch:=omega) only[zFW,zDl,zBU,zBX,zFZ,zDO,zFY,zFX,zDf,zDm,zCq,zDg,zCp,zCK,zCL,zBF,zCM,zBz,zBn,zDi,zDj,zDh,zFU,zFV,zDk,zBq,zBp,zBo,zCG,zBr,Int.natCast_nonneg,Int.toNat_natCast,zAz,zBe,zBG,zBM,zDb,zCQ,zCu,zBl,Nat.reduceEqDiff,if_true,if_false,ite_true,ite_false,reduceIte,evs,mapO,numA,zDz,zDR,zDn,zDs,zDr,zDq,zDp,zDo,eqA,zAl,zAX,zCX,zCA,Nat.zero_add,Nat.add_zero,Nat.reduceAdd,Nat.reduceMul,Nat.reduceSub,Nat.reduceLeDiff,Nat.mul_one,Nat.one_mul,Nat.zero_mul,zBH,zBv,zCI,zAO,zAV,zBc,zBJ,zBL,Nat.left_eq_add,Nat.add_eq_left,Nat.add_left_cancel_iff,Nat.one_ne_zero,zBI,zlC,zlN,zlY,zlZ,List.getElem?_cons_zero,List.getElem?_cons_succ,zCn,zFS,zDc,beqT,beqF,Bool.not_true,Bool.not_false,Bool.true_and,Bool.and_true,Bool.false_and,Bool.and_false,Bool.and_self,Bool.true_or,Bool.or_true,Bool.false_or,Bool.or_false,decide_true,decide_false,Option.isNone_none,Option.isNone_some,Bool.false_xor, *]<;>rfl)):p=c1->ev a x=re:=hv
theorem e3(hv:p=c1->q=c2->ev a x=re:=by intro hb_ hc_;(try simp only[Bool.and_eq_true,Bool.not_eq_true',Bool.not_eq_eq_eq_not,Bool.not_true,Bool.not_false,Bool.or_eq_false_iff] at hb_);(try simp only[Bool.and_eq_true,Bool.not_eq_true',Bool.not_eq_eq_eq_not,Bool.not_true,Bool.not_false,Bool.or_eq_false_iff] at hc_);(simp (disch:=omega) only[zFW,zDl,zBU,zBX,zFZ,zDO,zFY,zFX,zDf,zDm,zCq,zDg,zCp,zCK,zCL,zBF,zCM,zBz,zBn,zDi,zDj,zDh,zFU,zFV,zDk,zBq,zBp,zBo,zCG,zBr,Int.natCast_nonneg,Int.toNat_natCast,zAz,zBe,zBG,zBM,zDb,zCQ,zCu,zBl,Nat.reduceEqDiff,if_true,if_false,ite_true,ite_false,reduceIte,evs,mapO,numA,zDz,zDR,zDn,zDs,zDr,zDq,zDp,zDo,eqA,zAl,zAX,zCX,zCA,Nat.zero_add,Nat.add_zero,Nat.reduceAdd,Nat.reduceMul,Nat.reduceSub,Nat.reduceLeDiff,Nat.mul_one,Nat.one_mul,Nat.zero_mul,zBH,zBv,zCI,zAO,zAV,zBc,zBJ,zBL,Nat.left_eq_add,Nat.add_eq_left,Nat.add_left_cancel_iff,Nat.one_ne_zero,zBI,zlC,zlN,zlY,zlZ,List.getElem?_cons_zero,List.getElem?_cons_succ,zCn,zFS,zDc,beqT,beqF,Bool.not_true,Bool.not_false,Bool.true_and,Bool.and_true,Bool.false_and,Bool.and_false,Bool.and_self,Bool.true_or,Bool.or_true,Bool.false_or,Bool.or_false,decide_true,decide_false,Option.isNone_none,Option.isNone_some,Bool.false_xor, *]<;>rfl)):p=c1->q=c2->ev a x=re:=hv
theorem s1(hv:evs a xs=rs:=by(simp (disch:=omega) only[zFW,zDl,zBU,zBX,zFZ,zDO,zFY,zFX,zDf,zDm,zCq,zDg,zCp,zCK,zCL,zBF,zCM,zBz,zBn,zDi,zDj,zDh,zFU,zFV,zDk,zBq,zBp,zBo,zCG,zBr,Int.natCast_nonneg,Int.toNat_natCast,zAz,zBe,zBG,zBM,zDb,zCQ,zCu,zBl,Nat.reduceEqDiff,if_true,if_false,ite_true,ite_false,reduceIte,evs,mapO,numA,zDz,zDR,zDn,zDs,zDr,zDq,zDp,zDo,eqA,zAl,zAX,zCX,zCA,Nat.zero_add,Nat.add_zero,Nat.reduceAdd,Nat.reduceMul,Nat.reduceSub,Nat.reduceLeDiff,Nat.mul_one,Nat.one_mul,Nat.zero_mul,zBH,zBv,zCI,zAO,zAV,zBc,zBJ,zBL,Nat.left_eq_add,Nat.add_eq_left,Nat.add_left_cancel_iff,Nat.one_ne_zero,zBI,zlC,zlN,zlY,zlZ,List.getElem?_cons_zero,List.getElem?_cons_succ,zCn,zFS,zDc,beqT,beqF,Bool.not_true,Bool.not_false,Bool.true_and,Bool.and_true,Bool.false_and,Bool.and_false,Bool.and_self,Bool.true_or,Bool.or_true,Bool.false_or,Bool.or_false,decide_true,decide_false,Option.isNone_none,Option.isNone_some,Bool.false_xor, *]<;>rfl)):evs a xs=rs:=hv
theorem t1(hv:zBO a h eo=rd:=by(simp (disch:=omega) only[zFW,zDl,zBU,zBX,zFZ,zDO,zFY,zFX,zDf,zDm,zCq,zDg,zCp,zCK,zCL,zBF,zCM,zBz,zBn,zDi,zDj,zDh,zFU,zFV,zDk,zBq,zBp,zBo,zCG,zBr,Int.natCast_nonneg,Int.toNat_natCast,zAz,zBe,zBG,zBM,zDb,zCQ,zCu,zBl,Nat.reduceEqDiff,if_true,if_false,ite_true,ite_false,reduceIte,evs,mapO,numA,zDz,zDR,zDn,zDs,zDr,zDq,zDp,zDo,eqA,zAl,zAX,zCX,zCA,zBO,zDQ,zlT,zlD,List.all_cons,List.all_nil,one,Bool.and_self,Bool.and_true,Bool.true_and,and_self,and_true,true_and,rowA,rep,zlA,zlE,List.singleton_append,zlK,Nat.reduceAdd,Nat.reduceMul,Nat.reduceLeDiff,Nat.zero_add,Nat.le_refl,Nat.zero_add,Nat.add_zero,Nat.reduceAdd,Nat.reduceMul,Nat.reduceSub,Nat.reduceLeDiff,Nat.mul_one,Nat.one_mul,Nat.zero_mul,zBH,zBv,zCI,zAO,zAV,zBc,zBJ,zBL,Nat.left_eq_add,Nat.add_eq_left,Nat.add_left_cancel_iff,Nat.one_ne_zero,zBI,zlC,zlN,zlY,zlZ,List.getElem?_cons_zero,List.getElem?_cons_succ,zCn,zFS,zDc,beqT,beqF,Bool.not_true,Bool.not_false,Bool.true_and,Bool.and_true,Bool.false_and,Bool.and_false,Bool.and_self,Bool.true_or,Bool.or_true,Bool.false_or,Bool.or_false,decide_true,decide_false,Option.isNone_none,Option.isNone_some,Bool.false_xor, *]<;>rfl)):zBO a h eo=rd:=hv
theorem n1(hv:a.defers=[]:=by first|(simp (disch:=omega) only[zDw, *];done)|(simp (disch:=omega) only[zDw];done)|assumption|rfl):a.defers=[]:=hv
theorem r1{rr:List ARes}(hv:zBi a h rr=re:=by(simp (disch:=omega) only[zBi,zEt,zFW,zDl,zBU,zBX,zFZ,zDO,zFY,zFX,zDf,zDm,zCq,zDg,zCp,zCK,zCL,zBF,zCM,zBz,zBn,zDi,zDj,zDh,zFU,zFV,zDk,zBq,zBp,zBo,zCG,zBr,Int.natCast_nonneg,Int.toNat_natCast,zAz,zBe,zBG,zBM,zDb,zCQ,zCu,zBl,Nat.reduceEqDiff,if_true,if_false,ite_true,ite_false,reduceIte,evs,mapO,numA,zDz,zDR,zDn,zDs,zDr,zDq,zDp,zDo,eqA,zAl,zAX,zCX,zCA,Nat.zero_add,Nat.add_zero,Nat.reduceAdd,Nat.reduceMul,Nat.reduceSub,Nat.reduceLeDiff,Nat.mul_one,Nat.one_mul,Nat.zero_mul,zBH,zBv,zCI,zAO,zAV,zBc,zBJ,zBL,Nat.left_eq_add,Nat.add_eq_left,Nat.add_left_cancel_iff,Nat.one_ne_zero,zBI,zlC,zlN,zlY,zlZ,List.getElem?_cons_zero,List.getElem?_cons_succ,zCn,zFS,zDc,beqT,beqF,Bool.not_true,Bool.not_false,Bool.true_and,Bool.and_true,Bool.false_and,Bool.and_false,Bool.and_self,Bool.true_or,Bool.or_true,Bool.false_or,Bool.or_false,decide_true,decide_false,Option.isNone_none,Option.isNone_some,Bool.false_xor, *]<;>rfl)):zBi a h rr=re:=hv
theorem zOo(hc:ev a x=some (.bool c1))(hx:c1=true->ev a y=some (.bool c2))(k:St fns summ ro l (putA a d (.bool (c1&&c2))) h K):St fns summ ro (⟨d,none,.q (.pick x y (.val (.bool false)))⟩::l) a h K:=st_q (zMQ hc hx) k
theorem zOp(hc:ev a x=some (.bool c1))(hx:c1=false->ev a y=some (.bool c2))(k:St fns summ ro l (putA a d (.bool (c1||c2))) h K):St fns summ ro (⟨d,none,.q (.pick x (.val (.bool true)) y)⟩::l) a h K:=st_q (zOb hc hx) k
theorem zOt(hg:ev a (.tmp t)=some gv)(hp:gdB w gv=some p)(hc:p=true->ev a x=some (.bool c1))(hx:p=true->c1=true->ev a y=some (.bool c2))(k:St fns summ ro l (putA a d (gd p (.bool (c1&&c2)))) h K):St fns summ ro (⟨d,some (t,w),.q (.pick x y (.val (.bool false)))⟩::l) a h K:=zLW hg hp (fun e=>zMQ (hc e) (hx e)) k
theorem zOu(hg:ev a (.tmp t)=some gv)(hp:gdB w gv=some p)(hc:p=true->ev a x=some (.bool c1))(hx:p=true->c1=false->ev a y=some (.bool c2))(k:St fns summ ro l (putA a d (gd p (.bool (c1||c2)))) h K):St fns summ ro (⟨d,some (t,w),.q (.pick x (.val (.bool true)) y)⟩::l) a h K:=zLW hg hp (fun e=>zOb (hc e) (hx e)) k
theorem tE(h1:∀f xs,eo≠.call f xs:=by(intro _ _ hh;cases hh))(h2:∀f xs,eo≠.defer f xs:=by(intro _ _ hh;cases hh)):(∀f xs,eo≠.call f xs)/\(∀f xs,eo≠.defer f xs):=⟨h1,h2⟩
theorem st_T(hn:(∀f xs,eo≠.call f xs)/\(∀f xs,eo≠.defer f xs))(ht:zBO a h eo=.ret (v,h'))(k:St fns summ ro l (putA a d v) h' K):St fns summ ro (⟨d,none,.e eo⟩::l) a h K:=st_t hn.1 hn.2 ht k
theorem zDA{f:FuncId}{vs:List AVal}{K:AAct->AHeap->Prop}(hv:evs a xs=some vs)(k:Cl fns summ f vs h fun v h=>K (putA a d v) h):Ex fns summ ro a h d (.call (.val (.func f [] [])) xs) K:=zEl rfl hv (zFh (by simpa using k))
theorem cc{rl:List AVal}(hv:zAX v=rl:=by(simp only[zAX]<;>rfl)):zAX v=rl:=hv
theorem og1{bb:Nat}{rm:Option (Nat×AObj)}(hv:h.objs.get bb=rm:=by(simp (disch:=omega) only[zFW,zDl,zBU,zBX,zFZ,zDO,zFY,zFX,zDf,zDm,zCq,zDg,zCp,zCK,zCL,zBF,zCM,zBz,zBn,zDi,zDj,zDh,zFU,zFV,zDk,zBq,zBp,zBo,zCG,zBr,Int.natCast_nonneg,Int.toNat_natCast,zAz,zBe,zBG,zBM,zDb,zCQ,zCu,zBl,Nat.reduceEqDiff,if_true,if_false,ite_true,ite_false,reduceIte,evs,mapO,numA,zDz,zDR,zDn,zDs,zDr,zDq,zDp,zDo,eqA,zAl,zAX,zCX,zCA,Nat.zero_add,Nat.add_zero,Nat.reduceAdd,Nat.reduceMul,Nat.reduceSub,Nat.reduceLeDiff,Nat.mul_one,Nat.one_mul,Nat.zero_mul,zBH,zBv,zCI,zAO,zAV,zBc,zBJ,zBL,Nat.left_eq_add,Nat.add_eq_left,Nat.add_left_cancel_iff,Nat.one_ne_zero,zBI,zlC,zlN,zlY,zlZ,List.getElem?_cons_zero,List.getElem?_cons_succ,zCn,zFS,zDc,beqT,beqF,Bool.not_true,Bool.not_false,Bool.true_and,Bool.and_true,Bool.false_and,Bool.and_false,Bool.and_self,Bool.true_or,Bool.or_true,Bool.false_or,Bool.or_false,decide_true,decide_false,Option.isNone_none,Option.isNone_some,Bool.false_xor, *]<;>rfl)):h.objs.get bb=rm:=hv
end
end Go.Ab
end
