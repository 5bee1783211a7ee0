import Derived.Test.YtffgndlognihcaaGreatDoorP03
/-
  Part 4 of the proof.
-/
set_option linter.all false
section
namespace Go.Ab
open Go.RowKit (Below)

theorem least_of{p:Nat->Prop}:∀(n:Nat),p n->∃k,p k/\∀j,p j->k<=j:=by
 intro n
 induction n using Nat.strongRecOn with
 |_ n ih=>
  intro hn
  by_cases h:∃j,j<n/\p j
  ·obtain⟨j,hj,hp⟩:=h;exact ih j hj hp
  ·exact⟨n,hn,fun j hj=>Nat.le_of_not_lt fun hlt=>h ⟨j,hlt,hj⟩⟩

open Classical in
theorem zIQ{F:Fence}{n:Nat}{P:Program}{Q:Exit->Act->World->Prop}{c:Code}(J:Nat->Act->World->Prop)
  (round:∀k a w,J k a w->c.wpIn F n P (Exit.then (fun a' w'=>∃k',k'<k/\J k' a' w') Q) a w) {k:Nat} {a:Act} {w:World} (h:J k a w):(Code.loop c).wpIn F n P Q a w:=by
 have hl:∀a w,(∃k,J k a w)->∃k,J k a w/\∀j,J j a w->k<=j:=fun a w ⟨k,hk⟩=>least_of k hk
 let μ:Act->World->Nat:=fun a w=>if hh:∃k,J k a w then Classical.choose (hl a w hh) else 0
 have hμ:∀a w,(hh:∃k,J k a w)->J (μ a w) a w/\∀j,J j a w->μ a w<=j:=fun a w hh=>by
  have:μ a w=Classical.choose (hl a w hh):=dif_pos hh
  rw[this]
  exact Classical.choose_spec (hl a w hh)
 refine wpIn_loop (fun a w=>∃k,J k a w) μ ⟨k,h⟩ fun a w hI=>?_
 refine wpIn_mono (round _ a w (hμ a w hI).1) fun e a' w' he=>?_
 cases e with
 |normal=>
  obtain⟨k',h1,h2⟩:=he
  exact⟨⟨k',h2⟩,Nat.lt_of_le_of_lt ((hμ a' w' ⟨k',h2⟩).2 k' h2) h1⟩
 |_=>exact he

section
variable{P:Program}{N:Nat}{w0:World}{G G':GM}{h h':AHeap}{w w':World}{a:AAct}{ag:Act}{M:Nat}{S:Self}

theorem Post.of_normal{Q:AExit×AAct×AHeap->Prop}{ag':Act}{w':World}(hp:PostA P N w0 G h w M (fun p=>Q (.normal,p.1,p.2)) ag' w'):Post P N w0 G h w M Q .normal ag' w':=by
 obtain⟨a',h',G',h1,h2,h3,h4⟩:=hp
 exact⟨.normal,a',h',G',h1,rfl,h2,h3,h4⟩

def DrawOK(P:Program)(N:Nat)(w0:World)(S:Self):Prop:=
 ∀{G:GM} {h:AHeap} {w:World} {a:AAct} {ag:Act} {M:Nat} {ro rv:Option Nat},roR G ro rv->Rel P N w0 G h w->ActR P G M a ag->∀{id:Nat} {ops:Array Oper} {plan:List DStep},cDraw P M ops.toList=some plan->∀{Q:AAct×AHeap->Prop},
  (zCd S ro plan [] a h).sat Q->∀{QQ:Exit->Act->World->Prop},(∀ag' w',PostA P N w0 G h w M Q ag' w'->QQ .normal ag' w')->(Code.region id ops true).wpIn (FR rv) 0 P QQ ag w

theorem zKf(hS:SelfOK P N w0 S)(hR:Rel P N w0 G h w)(ha:ActR P G M a ag){f:Operand}{f':AOpd}{ps:Array Tmp}{as bd:Code}{as' bd':ACode}(hf:cOpd P f=some f')(has:zCC P M as=some as')(hbd:zCC P M bd=some bd')
  (hps:ps.toList.all (fun p=>Nat.blt p M)=true) {Q:AExit×AAct×AHeap->Prop} (hs:(zCc S none (.rangeF f' ps.toList as' bd') a h).sat Q):(Code.rangeFunc f ps as bd).wpIn (FR none) 0 P (Post P N w0 G h w M Q) ag w:=by
 simp only[zCc] at hs
 split at hs
 ·rename_i g first captured hro hv
  have hV:=zBP hR.glob ha hf hv
  obtain⟨L,Mv,hL,h1,h2⟩:=hV
  rw[D.sat_bind] at hs
  obtain⟨hR1,hE1⟩:=hR.alloc (o:=.dfr false) (ob:=.deferred (some [])) (gi:=⟨w.heap.size,0,0,0⟩) rfl rfl (by show Obj.deferred _=_;rfl)
  have ha1:=ha.mono hE1.gle
  have hlt:∀p∈ps.toList,p<M:=fun p hp=>Nat.blt_eq.mp (List.all_eq_true.1 hps p hp)
  have hgd:addG G h.next ⟨w.heap.size,0,0,0⟩ h.next=some ⟨w.heap.size,0,0,0⟩:=zAU
  refine wpIn_rangeFunc fun fn _=>?_
  obtain⟨hR2,hE2⟩:=hR1.alloc (o:=.loop .ready none a.tmps ps.toList as' bd' h.next) (ob:=.loop {state:=.ready,pending:=none,fn,tmps:=ag.tmps,params:=ps,assign:=as,body:=bd,defers:=w.heap.size})
   (gi:=⟨w.heap.size+1,0,0,0⟩) (by simp) rfl ⟨_,M,⟨w.heap.size,0,0,0⟩,rfl,rfl,rfl,ha1.tmps.mono (zEM (hR1.fresh _ (Nat.le_refl _))),ha.size,rfl,has,hbd,hlt,zEM (hR1.fresh _ (Nat.le_refl _)) _ _ hgd,rfl⟩
  have hE:=hE1.trans hE2
  generalize hw2:(w.alloc (.deferred (some []))).alloc (.loop {state:=.ready,pending:=none,fn,tmps:=ag.tmps,params:=ps,assign:=as,body:=bd,defers:=w.heap.size})=w2 at hR2 hE
  generalize hG2:addG (addG G h.next ⟨w.heap.size,0,0,0⟩) (newA h (.dfr false)).next ⟨w.heap.size+1,0,0,0⟩=G2 at hR2 hE
  have hgl:G2 (h.next+1)=some ⟨w.heap.size+1,0,0,0⟩:=by rw[<-hG2];exact zAU
  have hgd2:G2 h.next=some ⟨w.heap.size,0,0,0⟩:=by
   rw[<-hG2];exact(zBK (by show h.next≠h.next+1;omega)).trans zAU
  obtain⟨fnF,c,h3,h4,h5⟩:=hS.enters _ _ _ _ hs
  refine⟨w.heap.size+1,[{target:=.collected w.heap.size,args:= #[]}],w2,{target:=.fn (.func g) Mv,args:=L++ #[.func (.yield (w.heap.size+1)) #[] #[]]},w2,g,L++ #[.func (.yield (w.heap.size+1)) #[] #[]]++Mv,w2,?_,?_,fun _ _=>trivial,?_,FR_depth,?_⟩
  ·show (Instr.enterLoop fn ag.tmps ps as bd none).run P w=_
   rw[<-hw2]
   simp[Instr.enterLoop]
  ·simp[resolve,rangeCall,hL,Deferred.ofValue];rfl
  ·exact zIC h3 h4 h5 _ w2
  ·have hargs:VsR P G2 (first++[.yield (h.next+1)]++captured) (L++ #[Value.func (.yield (w.heap.size+1)) #[] #[]]++Mv).toList:=by
    have hy:VR P G2 (.yield (h.next+1)) (Value.func (.yield (w.heap.size+1)) #[] #[]):=⟨_,hgl,rfl⟩
    simpa using((h1.mono hE.gle).append (VsR.one hy)).append (h2.mono hE.gle)
   have hcall:=hS.call g _ _ G2 w2 _ _ hR2 hargs hs
   refine hcall.mono fun e w3 hp=>?_
   obtain⟨v,h',G',cv,rfl,hq,hR3,hE3,hv3⟩:=hp
   have hgl3:=hE3.gle _ _ hgl
   have hgd3:=hE3.gle _ _ hgd2
   simp only at hq
   split at hq
   ·rename_i ver st pd t ps' as'' bd'' df' hget
    obtain⟨r,hob,⟨r',Mr,gd,hr',hst,hpc,htr,hsz,hps',has',hbd2,hlt',hgd',hdf⟩,hN⟩:=zJX hR3 hget hgl3
    cases hr'
    have fin:st≠.busy->∀(ae:AExit) (e:Exit),ExR ae e->Q (ae,{a with defers:=.collected h.next::a.defers},zAT h' (h.next+1) (.loop .exhausted pd t ps' as'' bd'' df')) →
      ∃w4,(Instr.endLoop (w.heap.size+1)).run P w3=.ok r.pending w4/\Post P N w0 G h w M Q e {ag with defers:=[{target:=.collected w.heap.size,args:= #[]}]++ag.defers} w4:=by
     intro hnb ae e hex hQ
     obtain⟨hR4,hE4⟩:=zJc hR3 (o':=.loop .exhausted pd t ps' as'' bd'' df') hget rfl rfl hgl3 hob (ob':=.loop {r with state:=.exhausted}) ⟨_,Mr,gd,rfl,rfl,hpc,htr,hsz,hps',has',hbd2,hlt',hgd',hdf⟩
     refine⟨_,?_,ae,_,_,G',hQ,hex,hR4,(hE.trans hE3).trans hE4,?_⟩
     ·have hne:r.state≠.busy:=by rw[hst];exact hnb
      simp only at hob
      simp[Instr.endLoop,zDY hob,run_setObj_loop _ hob,hne]
     ·have ha3:=ha.mono (hE.trans hE3).gle
      exact⟨ha3.tmps,ha3.size,⟨⟨w.heap.size,0,0,0⟩,_,_,rfl,hgd3,rfl,ha3.defers⟩⟩
    split at hq
    ·cases hq
    ·rename_i hnb
     have hnb':st≠.busy:=fun hh=>hnb hh
     cases pd with
     |none=>
      obtain⟨w4,h6,h7⟩:=fin hnb' .normal .normal rfl hq
      refine⟨r.pending,w4,h6,?_⟩
      rw[hpc];exact h7
     |some pe=>
      cases pe with
      |normal=>exact absurd hpc (by simp[pendC])
      |ret=>
       obtain⟨w4,h6,h7⟩:=fin hnb' .ret .ret rfl hq
       refine⟨r.pending,w4,h6,?_⟩
       rw[hpc];exact wpIn_ret h7
      |exit id=>
       obtain⟨w4,h6,h7⟩:=fin hnb' (.exit id) (.exit id) rfl hq
       refine⟨r.pending,w4,h6,?_⟩
       rw[hpc];exact wpIn_exit h7
   ·cases hq
 ·cases hs
end
end Go.Ab
end
section
namespace Go.Ab
open Go.RowKit (Below)

section
variable{P:Program}{N:Nat}{w0:World}{fns:FnsT}{summ:SumT}

theorem Post.later{G G':GM}{h h':AHeap}{w w':World}{M:Nat}{Q:AExit×AAct×AHeap->Prop}(hE:Ext G h w G' h' w'){e:Exit}{ag:Act}{w2:World}(hp:Post P N w0 G' h' w' M Q e ag w2):Post P N w0 G h w M Q e ag w2:=by
 obtain⟨ae,a',h2,G2,h1,hx,h3,h4,h5⟩:=hp
 exact⟨ae,a',h2,G2,h1,hx,h3,hE.trans h4,h5⟩

theorem zKo{S:Self}{ro:Option Nat}{a:AAct}{h:AHeap}{Q:AExit×AAct×AHeap->Prop}(hs:(zCc S ro (.ops [{dst:=none,guard:=none,op:=.q .trap}]) a h).sat Q):False:=hs

theorem zKx{B:Nat}(hS:∀k,k<=B->SelfOK P N w0 (run fns summ k))(hD:∀k,k<=B->DrawOK P N w0 (run fns summ k)):∀(C:Code) {n:Nat},n<=B->∀{c:ACode} {M:Nat} {ro rv:Option Nat} {G:GM} {h:AHeap} {w:World} {a:AAct} {ag:Act} {Q:AExit×AAct×AHeap->Prop},
  zCC P M C=some c->roR G ro rv->ActR P G M a ag->Rel P N w0 G h w->(zCc (run fns summ n) ro c a h).sat Q->C.wpIn (FR rv) 0 P (Post P N w0 G h w M Q) ag w:=by
 intro C
 induction C with
 |skip=>
  intro n hn c M ro rv G h w a ag Q hc hro ha hR hs
  simp only[zCC,oI] at hc;subst hc
  exact wpIn_skip ⟨.normal,a,h,G,hs,rfl,hR,Ext.refl _ _ _,ha⟩
 |label l=>
  intro n hn c M ro rv G h w a ag Q hc hro ha hR hs
  simp only[zCC,oI] at hc;subst hc
  exact wpIn_label ⟨.normal,a,h,G,hs,rfl,hR,Ext.refl _ _ _,ha⟩
 |region id ops draw=>
  intro n hn c M ro rv G h w a ag Q hc hro ha hR hs
  cases draw with
  |false=>
   simp only[zCC] at hc
   split at hc
   ·rename_i l hl
    simp only[oI] at hc;subst hc
    simp only[zCc,D.sat_bind] at hs
    exact zKg (hS n hn) hro hR ha hl hs (fun ag' w' hp=>Post.of_normal hp)
   ·cases hc
  |true=>
   simp only[zCC] at hc
   split at hc
   ·rename_i l hl
    simp only[oI] at hc;subst hc
    simp only[zCc,D.sat_bind] at hs
    exact hD n hn hro hR ha hl hs (fun ag' w' hp=>Post.of_normal hp)
   ·simp only[oI] at hc;subst hc
    exact(zKo hs).elim
 |seq x y ihx ihy=>
  intro n hn c M ro rv G h w a ag Q hc hro ha hR hs
  simp only[zCC] at hc
  split at hc
  ·rename_i x' y' hx hy
   simp only[oI] at hc;subst hc
   simp only[zCc,D.sat_bind] at hs
   refine wpIn_seq (wpIn_mono (ihx hn hx hro ha hR hs) fun e ag1 w1 hp=>?_)
   obtain⟨ae,a1,h1,G1,hq,hx1,hR1,hE1,ha1⟩:=hp
   cases ae with
   |normal=>
    cases hx1
    exact wpIn_mono (ihy hn hy (hro.mono hE1.gle) ha1 hR1 hq) fun _ _ _ hp=>hp.later hE1
   |ret=>cases hx1;exact⟨.ret,a1,h1,G1,hq,rfl,hR1,hE1,ha1⟩
   |exit id=>cases hx1;exact⟨.exit id,a1,h1,G1,hq,rfl,hR1,hE1,ha1⟩
  ·cases hc
 |cond cd x y ihx ihy=>
  intro n hn c M ro rv G h w a ag Q hc hro ha hR hs
  simp only[zCC] at hc
  split at hc
  ·rename_i c' x' y' hcd hx hy
   simp only[oI] at hc;subst hc
   simp only[zCc] at hs
   split at hs
   ·rename_i hv
    exact wpIn_cond_true (zBP hR.glob ha hcd hv) (ihx hn hx hro ha hR hs)
   ·rename_i hv
    exact wpIn_cond_false (zBP hR.glob ha hcd hv) (ihy hn hy hro ha hR hs)
   ·cases hs
  ·cases hc
 |block id x ih=>
  intro n hn c M ro rv G h w a ag Q hc hro ha hR hs
  simp only[zCC] at hc
  split at hc
  ·rename_i x' hx
   simp only[oI] at hc;subst hc
   simp only[zCc,D.sat_bind] at hs
   refine wpIn_block (wpIn_mono (ih hn hx hro ha hR hs) fun e ag1 w1 hp=>?_)
   obtain⟨ae,a1,h1,G1,hq,hx1,hR1,hE1,ha1⟩:=hp
   cases ae with
   |normal=>cases hx1;exact⟨.normal,a1,h1,G1,hq,rfl,hR1,hE1,ha1⟩
   |ret=>cases hx1;exact⟨.ret,a1,h1,G1,hq,rfl,hR1,hE1,ha1⟩
   |exit id'=>
    cases hx1
    simp only at hq
    split at hq
    ·rename_i hid
     have hid':=Nat.eq_of_beq_eq_true hid
     simp only[Exit.inBlock,hid',if_true]
     exact⟨.normal,a1,h1,G1,hq,rfl,hR1,hE1,ha1⟩
    ·rename_i hid
     have hid':id'≠id:=fun hh=>by rw[hh,Nat.beq_refl] at hid;cases hid
     simp only[Exit.inBlock,hid',if_false]
     exact⟨.exit id',a1,h1,G1,hq,rfl,hR1,hE1,ha1⟩
  ·cases hc
 |loop x ih=>
  intro n hn c M ro rv G h w a ag Q hc hro ha hR hs
  simp only[zCC] at hc
  split at hc
  ·rename_i x' hx
   simp only[oI] at hc;subst hc
   refine zIQ (fun k ag1 w1=>k<=B/\∃a1 h1 G1,roR G1 ro rv/\ActR P G1 M a1 ag1/\Rel P N w0 G1 h1 w1/\Ext G h w G1 h1 w1/\(zCc (run fns summ k) ro (.loop x') a1 h1).sat Q) ?_ (k:=n) ⟨hn,a,h,G,hro,ha,hR,Ext.refl _ _ _,hs⟩
   rintro k ag1 w1 ⟨hk,a1,h1,G1,hro1,ha1,hR1,hE1,hs1⟩
   simp only[zCc,D.sat_bind] at hs1
   refine wpIn_mono (ih hk hx hro1 ha1 hR1 hs1) fun e ag2 w2 hp=>?_
   obtain⟨ae,a2,h2,G2,hq,hx2,hR2,hE2,ha2⟩:=hp
   cases ae with
   |normal=>
    cases hx2
    cases k with
    |zero=>cases hq
    |succ k=>
     exact⟨k,Nat.lt_succ_self k,Nat.le_trans (Nat.le_succ k) hk,a2,h2,G2,hro1.mono hE2.gle,ha2,hR2,hE1.trans hE2,hq⟩
   |ret=>cases hx2;exact⟨.ret,a2,h2,G2,hq,rfl,hR2,hE1.trans hE2,ha2⟩
   |exit id=>cases hx2;exact⟨.exit id,a2,h2,G2,hq,rfl,hR2,hE1.trans hE2,ha2⟩
  ·cases hc
 |exit id=>
  intro n hn c M ro rv G h w a ag Q hc hro ha hR hs
  simp only[zCC,oI] at hc;subst hc
  exact wpIn_exit ⟨.exit id,a,h,G,hs,rfl,hR,Ext.refl _ _ _,ha⟩
 |ret=>
  intro n hn c M ro rv G h w a ag Q hc hro ha hR hs
  simp only[zCC,oI] at hc;subst hc
  exact wpIn_ret ⟨.ret,a,h,G,hs,rfl,hR,Ext.refl _ _ _,ha⟩
 |rangeFunc f ps as bd _ _=>
  intro n hn c M ro rv G h w a ag Q hc hro ha hR hs
  simp only[zCC] at hc
  split at hc
  ·rename_i f' as' bd' hf has hbd
   split at hc
   ·rename_i hps
    simp only[oI] at hc;subst hc
    cases ro with
    |none=>
     cases hro
     exact zKf (hS n hn) hR ha hf has hbd hps hs
    |some l=>simp only[zCc] at hs;cases hs
   ·cases hc
  ·cases hc
 |refuse why=>
  intro n hn c M ro rv G h w a ag Q hc hro ha hR hs
  simp only[zCC,oI] at hc;subst hc
  exact(zKo hs).elim
 |scope x _=>
  intro n hn c M ro rv G h w a ag Q hc
  simp only[zCC] at hc;cases hc
 |goto l=>
  intro n hn c M ro rv G h w a ag Q hc
  simp only[zCC] at hc;cases hc
end
end Go.Ab
end
section
namespace Go.Ab
open Go.RowKit (Below)

section
variable{P:Program}{N:Nat}{w0:World}{G G':GM}{h h':AHeap}{w w':World}{a:AAct}{ag:Act}{M:Nat}{S:Self}{fns:FnsT}{summ:SumT}

theorem zEx:∀{vs:List AVal} {k:Nat} {t t':T AVal},zBW t (List.range' k vs.length) vs=some t'->∀{i:Nat} {x:AVal},t'.get i=some x->(∃j,i=k+j/\vs[j]?=some x)\/t.get i=some x
 |[],k,t,t',e,i,x,hx=>by
  simp only[zlN,List.range'_zero,zBW,oI] at e;subst e
  exact .inr hx
 |v::vs,k,t,t',e,i,x,hx=>by
  simp only[zlC,List.range'_succ,zBW] at e
  rcases zEx e hx with⟨j,h1,h2⟩|h1
  ·exact .inl ⟨j+1,by omega,by simpa using h2⟩
  ·rw[T.get_set] at h1
   by_cases hi:i=k
   ·rw[if_pos hi] at h1;cases h1
    exact .inl ⟨0,by omega,by simp⟩
   ·rw[if_neg hi] at h1;exact .inr h1

theorem zKI{args:List AVal}{argsV:Array Value}{t:T AVal}{m:Nat}(hv:VsR P G args argsV.toList)(e:zBW .leaf (List.range args.length) args=some t):
  ActR P G m {tmps:=t,defers:=[]} {tmps:=argsV++Array.replicate (m - argsV.size) undef,defers:=[]}:=by
 refine⟨fun i x hx=>?_,by simp;omega,rfl⟩
 rw[List.range_eq_range'] at e
 rcases zEx e hx with⟨j,rfl,h2⟩|h1
 ·obtain⟨v,h3,h4⟩:=hv.get h2
  have h3':argsV[j]?=some v:=by simpa using h3
  refine⟨v,?_,h4⟩
  have hlt:j<argsV.size:=by
   rcases Nat.lt_or_ge j argsV.size with h|h
   ·exact h
   ·simp[Array.getElem?_eq_none h] at h3'
  show (argsV++_)[0+j]?=_
  rw[Nat.zero_add,Array.getElem?_append_left hlt];exact h3'
 ·rw[T.get_leaf] at h1;cases h1

def resS(tmps:Array Value):ResultVar->Sem Value
 | .tmp t=>pure (tmps.getD t undef)
 | .cell a t=>do loadVar t (<-asAddr (tmps.getD a undef))
theorem zIs(fn:Func)(tmps:Array Value):results fn tmps=(do
  let vs <-fn.results.mapM (resS tmps)
  pure (if h:vs.size=1 then vs[0] else .tuple vs)):=rfl

theorem zJh(hR:Rel P N w0 G h w)(ht:TR P G a.tmps ag.tmps){r:ResultVar}{r':ARes}{v:AVal}(hc:cRes P r=some r')(e:zEt a h r'=some v):
  ∃cv,VR P G v cv/\(resS ag.tmps r).run P w=.ok cv w:=by
 cases r with
 |tmp t=>
  simp only[cRes,oI] at hc;subst hc
  obtain⟨cv,h1,h2⟩:=ht t v e
  refine⟨cv,h2,?_⟩
  simp[resS,Array.getD_eq_getD_getElem?,h1]
 |cell x t=>
  simp only[cRes] at hc
  split at hc
  ·rename_i s hs
   simp only[oI] at hc;subst hc
   simp only[zEt] at e
   split at e
   ·rename_i b o hp
    split at e
    ·rename_i ver ro el vs hget
     obtain⟨pv,h1,h2⟩:=ht x _ hp
     obtain⟨g,hg,rfl⟩:=h2
     obtain⟨gi,hgi,ob,hob,c,tc,fr,rfl,hfr,hfit,hel,hle,hvs⟩:=hR.obj b ver _ hget
     have hg':G b=some g:=hg
     rw[hg'] at hgi;cases hgi
     obtain⟨cv,h3,h4⟩:=zGM (e:=tc) (fr:=fr) (b:=g.blk) hs hvs e
     refine⟨cv,h3,?_⟩
     simp[resS,Array.getD_eq_getD_getElem?,h1,asAddr,h4 w hob]
    ·cases e
   ·cases e
  ·cases hc

theorem zGs(hR:Rel P N w0 G h w)(ht:TR P G a.tmps ag.tmps):∀{rs:List ResultVar} {rs':List ARes} {vs:List AVal},mapO (cRes P) rs=some rs'->mapO (zEt a h) rs'=some vs →
  ∃cvs,VsR P G vs cvs/\(rs.mapM (resS ag.tmps)).run P w=.ok cvs w
 |[],rs',vs,hc,e=>by
  simp only[mapO,oI] at hc;subst hc
  simp only[mapO,oI] at e;subst e
  exact⟨[],rfl,by simp⟩
 |r::rs,rs',vs,hc,e=>by
  obtain⟨r1,rs1,h1,h2,rfl⟩:=zBT hc
  obtain⟨v,us,h3,h4,rfl⟩:=zBT e
  obtain⟨cv,h5,h6⟩:=zJh hR ht h1 h3
  obtain⟨cvs,h7,h8⟩:=zGs hR ht h2 h4
  refine⟨cv::cvs,⟨cv,cvs,rfl,h5,h7⟩,?_⟩
  simp only[List.mapM_cons,Sem.run_bind,Result.andThen_ok,Sem.run_pure]
  rw[h6]
  simp only[Result.andThen_ok,Sem.run_bind]
  rw[h8]
  rfl

theorem zJi(hR:Rel P N w0 G h w)(ht:TR P G a.tmps ag.tmps){fn:Func}{rs':List ARes}{v:AVal}(hc:mapO (cRes P) fn.results.toList=some rs')(e:zBi a h rs'=some v):
  ∃cv,VR P G v cv/\(results fn ag.tmps).run P w=.ok cv w:=by
 unfold zBi at e
 cases hm:mapO (zEt a h) rs' with
 |none=>rw[hm] at e;cases e
 |some vs=>
  obtain⟨cvs,h1,h2⟩:=zGs hR ht hc hm
  have h3:(fn.results.mapM (resS ag.tmps)).run P w=.ok cvs.toArray w:=by
   rw[Array.mapM_eq_mapM_toList]
   simp only[map_eq_pure_bind,Sem.run_bind,h2,Result.andThen_ok,Sem.run_pure]
  rw[hm] at e
  have hl:=h1.length
  rw[zIs]
  simp only[Sem.run_bind]
  rw[h3]
  simp only[Result.andThen_ok,Sem.run_pure]
  split at e
  ·rename_i x hx
   simp only[oI] at e hx;subst e;subst hx
   obtain⟨y,ys,rfl,h4,h5⟩:=h1
   cases h5
   exact⟨y,h4,by simp⟩
  ·rename_i us hne hx
   simp only[oI] at e hx;subst e;subst hx
   refine⟨.tuple cvs.toArray,⟨_,rfl,h1⟩,?_⟩
   have:cvs.toArray.size≠1:=by
    intro hh
    have:vs.length=1:=by rw[<-hl];simpa using hh
    obtain⟨x,rfl⟩:=List.length_eq_one_iff.1 this
    exact hne x rfl
   simp only[this,dite_false]
  ·rename_i hh;cases hh

theorem zJB{fn:Func}{f':AFunc}(e:cFn P fn=some f'):∃c,fn.body=some c/\(fn.name== "runtime.NumGoroutine")=false/\mapO (cRes P) fn.results.toList=some f'.results∧
  ((f'.recovers=none/\zCC P fn.ntmps c=some f'.body)\/∃d c' d',cRec c=some (d,c')/\cDst fn.ntmps d=some d'/\f'.recovers=some d'/\zCC P fn.ntmps c'=some f'.body):=by
 unfold cFn at e
 split at e
 ·cases e
 ·rename_i c hb
  split at e
  ·cases e
  ·rename_i hn
   split at e
   ·cases e
   ·rename_i rs hrs
    split at e
    ·rename_i d c' hr
     split at e
     ·rename_i d' b hd hc
      simp only[oI] at e;subst e
      exact⟨c,hb,by simpa using hn,hrs,.inr ⟨d,c',d',hr,hd,rfl,hc⟩⟩
     ·cases e
    ·split at e
     ·rename_i b hc
      simp only[oI] at e;subst e
      exact⟨c,hb,by simpa using hn,hrs,.inl ⟨rfl,hc⟩⟩
     ·cases e

theorem zNa{c c':Code}{d:Option Tmp}(e:cRec c=some (d,c')):∃id ops o cl,c=.seq (.region id ops false) c'/\ops= #[o]/\o.dst=d/\o.guard=none/\o.op=.call cl/\cl.callee=.builtin .recover/\cl.args= #[]:=by
 unfold cRec at e
 split at e
 ·rename_i id ops c2
  split at e
  ·rename_i o ho
   split at e
   ·rename_i cl args ats hop hg
    split at e
    ·rename_i ha
     simp only[oI,Prod.mk.injEq] at e
     obtain⟨rfl,rfl⟩:=e
     exact⟨id,ops,o,_,rfl,by apply Array.ext';simpa using ho,rfl,hg,hop,rfl,by apply Array.ext';simpa using ha⟩
    ·cases e
   ·cases e
  ·cases e
 ·cases e
end
end Go.Ab
end
section
namespace Go.Ab
open Go.RowKit (Below)

def SummOK(P:Program)(N:Nat)(w0:World)(summ:SumT):Prop:=∀f args h d,summ f args h=some d->Enters P f/\∀(G:GM) (argsV:Array Value) (w:World) (Q:AVal×AHeap->Prop),Rel P N w0 G h w->VsR P G args argsV.toList->d.sat Q →
 CallsIn (FR none) 0 P f argsV w (PostC P N w0 G h w Q)

def FnsOK(P:Program)(fns:FnsT):Prop:=∀f fn',fns f=some fn'->∃fn,P.funcs[f]?=some fn/\cFn P fn=some fn'

section
variable{P:Program}{N:Nat}{w0:World}{G G':GM}{h h':AHeap}{w w':World}{a:AAct}{ag:Act}{M:Nat}{S:Self}{fns:FnsT}{summ:SumT}

theorem zHB{ops:Array Oper}{o:Oper}{Q:Exit->Act->List Frame->World->Prop}{cs:List Frame}{rv:Option Nat}(h0:ops[0]?=some o)(hg:o.guard=none)(hr:(execOp ag.eval o).run P w=.ok .recover w)(hrd:recoverD cs=none)
  (h:Q .normal (ag.put o.dst .nilIface) cs w):wpOpsSIn (FR rv) 0 P ops Q [0] ag cs w:=by
 have hw:Region.wanted o (yielded ops ag.tmps)=true:=by simp[Region.wanted,hg]
 simp only[wpOpsSIn,h0]
 refine⟨fun _ _=>trivial,?_⟩
 rw[if_pos hw,hr]
 simp only[hrd]
 exact h

theorem zKy(hF:FnsOK P fns)(hS:SelfOK P N w0 S)(hR:Rel P N w0 G h w){f:FuncId}{args:List AVal}{argsV:Array Value}(hargs:VsR P G args argsV.toList){Q:AHeap->Prop}(hs:(zMp fns S f args h).sat Q):
  Enters P f/\CallsDIn (FR none) 0 P f argsV .returning w fun e u' w'=>(∃v,e=.returned v)/\u'=.returning/\∃h' G',Q h'/\Rel P N w0 G' h' w'/\Ext G h w G' h' w':=by
 unfold zMp at hs
 split at hs
 ·rename_i fn' hfn
  obtain⟨fn,hf,hc⟩:=hF _ _ hfn
  obtain⟨c,hb,hname,hrs,hbody⟩:=zJB hc
  split at hs
  ·rename_i dst t hrec hres ht
   rw[D.sat_bind] at hs
   rcases hbody with⟨h1,_⟩|⟨d,c',d',h1,h2,h3,h4⟩
   ·rw[h1] at hrec;cases hrec
   ·rw[h3] at hrec;cases hrec
    obtain⟨id,ops,o,cl,rfl,rfl,hod,hog,hoo,hcl,hca⟩:=zNa h1
    refine⟨⟨fn,_,hf,hname,hb⟩,callsDIn_of_wpSIn hf hb trivial fun c₀ cs hu=>?_⟩
    refine wpSIn_seq (wpSIn_region ?_)
    have hact:=(zKI (m:=fn.ntmps) hargs ht).put (d:=d) h2 (v:=.nilIface) (cv:=.nilIface) rfl
    have hr:(execOp ({tmps:=argsV++Array.replicate (fn.ntmps - argsV.size) undef,defers:=[]}:Act).eval o).run P w=.ok .recover w:=by
     unfold execOp
     rw[hoo]
     simp[resolve,hcl,invoke,builtin]
    have hrd:recoverD (c₀::cs)=none:=by simp[recoverD,hu]
    refine zHB (o:=o) rfl hog hr hrd ?_
    rw[hod]
    refine wpSIn_of_wpIn rfl (wpIn_mono (hS.code none none _ _ fn.ntmps _ _ h G w _ rfl h4 hact hR hs) fun e ag1 w1 hp=>?_)
    obtain⟨ae,a1,h5,G1,hq,hex,hR1,hE1,ha1⟩:=hp
    have hres0:fn.results.toList=[]:=by
     rw[hres] at hrs
     cases hl:fn.results.toList with
     |nil=>rfl
     |cons r rs=>rw[hl] at hrs;obtain⟨_,_,_,_,hh⟩:=zBT hrs;cases hh
    have hres1:fn.results= #[]:=by apply Array.ext';simpa using hres0
    have hrr:(results fn ag1.tmps).run P w1=.ok (.tuple #[]) w1:=by
     rw[zIs,hres1];simp
    have hdd:ag1.defers=[]\/True:=.inr trivial
    have fin:a1.defers=[]->Q h5->ag1.defers=[]/\∃u',c₀::cs={c₀ with mode:=u'}::cs/\∃v,(results fn ag1.tmps).run P w1=.ok v w1/\((∃v',Ending.returned v=.returned v')/\u'=.returning/\∃h' G',Q h'/\Rel P N w0 G' h' w1/\Ext G h w G' h' w1):=by
     intro h6 hq
     have h7:=ha1.defers
     rw[h6] at h7
     refine⟨h7,.returning,?_,_,hrr,⟨_,rfl⟩,rfl,h5,G1,hq,hR1,hE1⟩
     rw[<-hu]
    simp only at hq
    cases hd0:a1.defers with
    |nil=>
     rw[hd0] at hq
     cases ae with
     |normal=>cases hex;exact fin hd0 hq
     |ret=>cases hex;exact fin hd0 hq
     |exit id=>cases hq
    |cons _ _=>
     rw[hd0] at hq
     cases ae<;>cases hq
  ·cases hs
 ·cases hs

theorem zEq(hF:FnsOK P fns)(hS:SelfOK P N w0 S){fn:Func}{tmps:Array Value}{R:Ending->World->Prop}:∀{ds:List ADef} {dsV:List Deferred} {G:GM} {h:AHeap} {w:World} {Q:AHeap->Prop},DR P G ds dsV->Rel P N w0 G h w->(zEB fns S ds h).sat Q →
  (∀h' G' w',Q h'->Rel P N w0 G' h' w'->Ext G h w G' h' w'->∃v,(results fn tmps).run P w'=.ok v w'/\R (.returned v) w')->LeavesInM (FR none) 0 P fn tmps R dsV .returning w
 |[],dsV,G,h,w,Q,hd,hR,hs,hq=>by
  cases hd
  exact hq h G w hs hR (Ext.refl _ _ _)
 | .collected r::ds,dsV,G,h,w,Q,hd,hR,hs,hq=>by
  obtain⟨g,d,ds',rfl,hg,ht,hd'⟩:=hd
  simp only[zEB] at hs
  split at hs
  ·rename_i ver hget
   obtain⟨gi,hgi,ob,hob,ho⟩:=hR.obj r ver _ hget
   rw[hg] at hgi;cases hgi
   have ho':ob=.deferred (some []):=ho
   subst ho'
   obtain⟨hR1,hE1⟩:=zJc hR (o':=.dfr true) hget rfl rfl hg hob (ob':=.deferred none) rfl
   refine⟨(fun hh=>by cases hh),.inl ⟨g.blk,_,ht,?_,zEq hF hS hd' hR1 hs fun h' G' w' h1 h2 h3=>hq h' G' w' h1 h2 (hE1.trans h3)⟩⟩
   have hno:∀c e f,Obj.deferred (some [])≠.cells c e f:=by intro c e f hh;cases hh
   have h1:=zAq (P:=P) hob hno
   have h2:=zDC (P:=P) (.deferred none) hob hno
   simp only[Instr.takeDeferred,Sem.run_bind,h1,Result.andThen_ok,h2,Sem.run_pure]
   rfl
  ·cases hs
 | .fn f args::ds,dsV,G,h,w,Q,hd,hR,hs,hq=>by
  obtain⟨d,ds',cap,rfl,ht,hv,hd'⟩:=hd
  simp only[zEB,D.sat_bind] at hs
  obtain⟨⟨fnD,c,h1,h2,h3⟩,hcall⟩:=zKy hF hS hR hv hs
  refine⟨(fun hh=>by cases hh),.inr ⟨FR_depth,.func f,cap,f,d.args++cap,ht,?_,fun _ _=>trivial,hcall.mono fun e u' w' hp=>?_⟩⟩
  ·rw[ht];exact zIC h1 h2 h3 _ w
  ·obtain⟨⟨v,rfl⟩,rfl,h',G',hq',hR1,hE1⟩:=hp
   exact zEq hF hS (hd'.mono hE1.gle) hR1 hq' fun h2 G2 w2 h4 h5 h6=>hq h2 G2 w2 h4 h5 (hE1.trans h6)

theorem zKB(hF:FnsOK P fns)(hM:SummOK P N w0 summ){f:FuncId}{args:List AVal}{Q:AVal×AHeap->Prop}(hs:(zIN fns summ S f args h).sat Q):Enters P f:=by
 unfold zIN at hs
 split at hs
 ·rename_i v hv;exact(hM _ _ _ _ hv).1
 ·split at hs
  ·rename_i fn' hfn
   obtain⟨fn,hf,hc⟩:=hF _ _ hfn
   obtain⟨c,hb,hname,_⟩:=zJB hc
   exact⟨fn,c,hf,hname,hb⟩
  ·cases hs

theorem zKs (hF : FnsOK P fns) (hM : SummOK P N w0 summ) (hS : SelfOK P N w0 S) (hcode : ∀ {C : Code} {c : ACode} {M : Nat} {G : GM} {h : AHeap} {w : World} {a : AAct} {ag : Act} {Q : AExit × AAct × AHeap -> Prop},
      zCC P M C=some c->ActR P G M a ag->Rel P N w0 G h w->(S.code none c a h).sat Q->C.wpIn (FR none) 0 P (Post P N w0 G h w M Q) ag w)
    (hR:Rel P N w0 G h w) {f:FuncId} {args:List AVal} {argsV:Array Value} (hargs:VsR P G args argsV.toList) {Q:AVal×AHeap->Prop} (hs:(zIN fns summ S f args h).sat Q):CallsIn (FR none) 0 P f argsV w (PostC P N w0 G h w Q):=by
  unfold zIN at hs
  split at hs
  · rename_i v hv
    exact(hM _ _ _ _ hv).2 G argsV w Q hR hargs hs
  · split at hs
    · rename_i fn' hfn
      obtain⟨fn,hf,hc⟩:=hF _ _ hfn
      obtain⟨c,hb,hname,hrs,hbody⟩:=zJB hc
      split at hs
      · rename_i t hrec ht
        rcases hbody with⟨_,hcc⟩|⟨_,_,_,_,_,h3,_⟩
        · rw[D.sat_bind] at hs
          refine callsIn_of_wp_marks hf hb trivial (wpIn_mono (hcode hcc (zKI hargs ht) hR hs) fun e ag1 w1 hp=>?_)
          obtain⟨ae,a1,h1,G1,hq,hex,hR1,hE1,ha1⟩:=hp
          have fin:((zEB fns S a1.defers h1).bind fun h=>(match zBi a1 h fn'.results with
              |some v=>.ret (v,h)
              |none=>.fail:D (AVal×AHeap))).sat Q->LeavesInM (FR none) 0 P fn ag1.tmps (PostC P N w0 G h w Q) ag1.defers .returning w1:=by
            intro hq
            rw[D.sat_bind] at hq
            refine zEq hF hS ha1.defers hR1 hq fun h2 G2 w2 hq2 hR2 hE2=>?_
            split at hq2
            · rename_i v hv
              obtain⟨cv,h4,h5⟩:=zJi (a:=a1) (ag:=ag1) hR2 (ha1.tmps.mono hE2.gle) hrs hv
              exact⟨cv,h5,v,h2,G2,cv,rfl,hq2,hR2,hE1.trans hE2,h4⟩
            · cases hq2
          cases ae with
          |normal=>cases hex;exact fin hq
          |ret=>cases hex;exact fin hq
          |exit id=>cases hq
        · rw[hrec] at h3;cases h3
      · cases hs
    · cases hs

theorem zKj(hF:FnsOK P fns)(hM:SummOK P N w0 summ)(hD:∀S,SelfOK P N w0 S->DrawOK P N w0 S):∀n,SelfOK P N w0 (run fns summ n):=by
 intro n
 induction n using Nat.strongRecOn with
 |_ n ih=>
  cases n with
  |zero=>exact⟨fun _ _ _ _ h=>h.elim,fun _ _ _ _ _ _ _ _ _ h=>h.elim,fun _ _ _ _ _ _ _ _ _ _ _ _ _ _ _ h=>h.elim⟩
  |succ n=>
   have hS:∀k,k<=n->SelfOK P N w0 (run fns summ k):=fun k hk=>ih k (Nat.lt_succ_of_le hk)
   have hcode:∀(C:Code) {c:ACode} {M:Nat} {ro rv:Option Nat} {G:GM} {h:AHeap} {w:World} {a:AAct} {ag:Act} {Q:AExit×AAct×AHeap->Prop},zCC P M C=some c->roR G ro rv->ActR P G M a ag->Rel P N w0 G h w →
     (zCc (run fns summ n) ro c a h).sat Q->C.wpIn (FR rv) 0 P (Post P N w0 G h w M Q) ag w:=fun C=>zKx hS (fun k hk=>hD _ (hS k hk)) C (Nat.le_refl n)
   refine⟨fun f args h Q hs=>zKB hF hM hs,fun f args h G w argsV Q hR hv hs=>?_,fun ro rv c C M a ag h G w Q hro hc ha hR hs=>hcode C hc hro ha hR hs⟩
   exact zKs hF hM (hS n (Nat.le_refl n)) (fun {C c M G h w a ag Q} hc ha hR hs=>(hS n (Nat.le_refl n)).code none none c C M a ag h G w Q rfl hc ha hR hs) hR hv hs
end
end Go.Ab
end
section
namespace Go.Ab
open Go.RowKit (Below)

theorem zJr{a b:Nat}:subM a b=true↔∀j,a.testBit j=true->b.testBit j=true:=by
 unfold subM
 constructor
 ·intro h j hj
  have e:=Nat.eq_of_beq_eq_true h
  have:(a&&& b).testBit j=a.testBit j:=by rw[e]
  rw[Nat.testBit_and,hj] at this
  simpa using this
 ·intro h
  have:a&&& b=a:=by
   apply Nat.eq_of_testBit_eq
   intro j
   rw[Nat.testBit_and]
   cases ha:a.testBit j with
   |false=>rfl
   |true=>rw[h j ha];rfl
  rw[this];exact Nat.beq_refl a
theorem zAa{L i j:Nat}:(L|||2 ^ i).testBit j=true↔L.testBit j=true\/j=i:=by
 rw[Nat.testBit_or,Bool.or_eq_true,Nat.testBit_two_pow,decide_eq_true_eq]
 constructor
 ·rintro (h|h)
  ·exact .inl h
  ·exact .inr h.symm
 ·rintro (h|h)
  ·exact .inl h
  ·exact .inr h.symm
theorem zIS:∀(l:List DStep) (m j:Nat),(l.foldl (fun m s=>m|||2 ^ s.i) m).testBit j=true↔m.testBit j=true\/∃s∈l,s.i=j
 |[],m,j=>by simp
 |s::l,m,j=>by
  rw[List.foldl_cons,zIS l,zAa]
  constructor
  ·rintro ((h|h)|⟨t,h1,h2⟩)
   ·exact .inl h
   ·exact .inr ⟨s,List.mem_cons_self ..,h.symm⟩
   ·exact .inr ⟨t,List.mem_cons_of_mem _ h1,h2⟩
  ·rintro (h|⟨t,h1,h2⟩)
   ·exact .inl (.inl h)
   ·rcases List.mem_cons.1 h1 with rfl|h1
    ·exact .inl (.inr h2.symm)
    ·exact .inr ⟨t,h1,h2⟩
theorem upF_iff{fl L:Nat}{l:List DStep}{j:Nat}:(upF fl L l).testBit j=true↔∃s∈l,s.i=j/\fl.testBit s.i=true/\subM s.pred L=true:=by
 unfold upF zLh
 rw[zIS]
 constructor
 ·rintro (h|⟨s,h1,h2⟩)
  ·simp at h
  ·rw[List.mem_filter] at h1
   simp only[Bool.and_eq_true] at h1
   exact⟨s,h1.1,h2,h1.2.1,h1.2.2⟩
 ·rintro⟨s,h1,h2,h3,h4⟩
  refine .inr ⟨s,?_,h2⟩
  rw[List.mem_filter]
  exact⟨h1,by rw[h3,h4];rfl⟩

theorem zKa:∀(es:List Edge) (m j:Nat),(es.foldl (fun s e=>match Region.binds .any e with |true=>s|||2 ^ e.on|false=>s) m).testBit j=true↔m.testBit j=true\/∃e∈es,Region.binds .any e=true/\e.on=j
 |[],m,j=>by simp
 |e::es,m,j=>by
  rw[List.foldl_cons,zKa es]
  cases hb:Region.binds .any e with
  |true=>
   simp only[zAa]
   constructor
   ·rintro ((h|h)|⟨t,h1,h2⟩)
    ·exact .inl h
    ·exact .inr ⟨e,List.mem_cons_self ..,hb,h.symm⟩
    ·exact .inr ⟨t,List.mem_cons_of_mem _ h1,h2⟩
   ·rintro (h|⟨t,h1,h2,h3⟩)
    ·exact .inl (.inl h)
    ·rcases List.mem_cons.1 h1 with rfl|h1
     ·exact .inl (.inr h3.symm)
     ·exact .inr ⟨t,h1,h2,h3⟩
  |false=>
   simp only
   constructor
   ·rintro (h|⟨t,h1,h2⟩)
    ·exact .inl h
    ·exact .inr ⟨t,List.mem_cons_of_mem _ h1,h2⟩
   ·rintro (h|⟨t,h1,h2,h3⟩)
    ·exact .inl h
    ·rcases List.mem_cons.1 h1 with rfl|h1
     ·rw[hb] at h2;cases h2
     ·exact .inr ⟨t,h1,h2,h3⟩
theorem zKb{o:Oper}{j:Nat}:(zGy o).testBit j=true↔∃e∈o.after,Region.binds .any e=true/\e.on=j:=by
 unfold zGy
 refine(zKa o.after.toList 0 j).trans ?_
 simp

def Pr(ops:Array Oper)(i j:Nat):Prop:=∃o,ops[i]?=some o/\(zGy o).testBit j=true

structure Fit(P:Program)(M:Nat)(ops:Array Oper)(l:List DStep)(fl:Nat):Prop where
 step:∀(i:Nat) (o:Oper),ops[i]?=some o->∃st,zIM P M ops.toList o=some st/\l[i]?=some ({i:=i,pred:=zGy o,st:=st}:DStep)
 lookup:∀(i:Nat) (s:DStep),l[i]?=some s->∃o,ops[i]?=some o
 early:∀(i j:Nat),Pr ops i j->j<i
 floatP:∀(i j:Nat),fl.testBit i=true->Pr ops i j->fl.testBit j=false
 floatS:∀(i:Nat),fl.testBit i=true->∃s,l[i]?=some s/\isAl s.st=true
 apart:∀(i j:Nat) (oi oj:Oper),ops[i]?=some oi->ops[j]?=some oj->j<i->Pr ops i j\/zLf ops.toList oj oi=true
 dist:∀(i j:Nat) (oi oj:Oper) (t:Tmp),ops[i]?=some oi->ops[j]?=some oj->oi.dst=some t->oj.dst=some t->i=j
 nosel:∀(i:Nat) (o:Oper) (cs:Array SelectCase) (b:Bool),ops[i]?=some o->o.op≠.select cs b

theorem zEN{ops:List Oper}{x y:Oper}(h:zLf ops x y=true):(∀d,x.dst=some d->d∉zFj ops y)/\(∀d,y.dst=some d->d∉zFj ops x):=by
 unfold zLf at h
 rw[Bool.and_eq_true] at h
 constructor
 ·intro d hd
  have:=h.1
  rw[hd] at this
  simp only[Bool.and_eq_true,Bool.not_eq_true'] at this
  have h2:=this.1
  intro hm
  rw[List.contains_iff_mem.2 hm] at h2
  cases h2
 ·intro d hd
  have:=h.2
  rw[hd] at this
  simp only[Bool.not_eq_true'] at this
  intro hm
  rw[List.contains_iff_mem.2 hm] at this
  cases this

structure AA(ops:Array Oper)(ag0:Act)(X:Nat->Prop)(val:Nat->Value)(ag:Act):Prop where
 size:ag.tmps.size=ag0.tmps.size
 on:∀k o t,ops[k]?=some o->o.dst=some t->X k->ag.tmps[t]?=some (val k)
 off:∀t,(∀k o,ops[k]?=some o->o.dst=some t->¬X k)->ag.tmps[t]?=ag0.tmps[t]?

def upd(val:Nat->Value)(i:Nat)(v:Value):Nat->Value:=fun k=>if k=i then v else val k
theorem zGR{val:Nat->Value}{i:Nat}{v:Value}:upd val i v i=v:=by simp[upd]
theorem zCw{val:Nat->Value}{i k:Nat}{v:Value}(h:k≠i):upd val i v k=val k:=by simp[upd,h]

section
variable{P:Program}{M:Nat}{ops:Array Oper}{l:List DStep}{fl:Nat}{ag0 ag ag':Act}{X Y:Nat->Prop}{val val':Nat->Value}

theorem AA.start:AA ops ag0 (fun _=>False) val ag0:=⟨rfl,fun _ _ _ _ _ h=>h.elim,fun _ _=>rfl⟩

theorem AA.congr(h:AA ops ag0 X val ag)(hX:∀k,X k↔Y k)(hv:∀k,X k->val k=val' k):AA ops ag0 Y val' ag:=
 ⟨h.size,fun k o t hk ht hy=>by rw[<-hv k ((hX k).2 hy)];exact h.on k o t hk ht ((hX k).2 hy),fun t ht=>h.off t fun k o hk hd hx=>ht k o hk hd ((hX k).1 hx)⟩

theorem AA.put(hF:Fit P M ops l fl)(h:AA ops ag0 X val ag){i:Nat}{o:Oper}(hi:ops[i]?=some o)(hlt:∀t,o.dst=some t->t<ag0.tmps.size)(hn:¬X i)(v:Value):
  AA ops ag0 (fun k=>X k\/k=i) (upd val i v) (ag.put o.dst v):=by
 cases hd:o.dst with
 |none=>
  refine⟨h.size,fun k ok t hk ht hx=>?_,fun t ht=>?_⟩
  ·rcases hx with hx|rfl
   ·rw[zCw (fun hh:k=i=>hn (by rw[<-hh];exact hx))];exact h.on k ok t hk ht hx
   ·rw[hi] at hk;cases hk;rw[hd] at ht;cases ht
  ·exact h.off t fun k ok hk hdk hx=>ht k ok hk hdk (.inl hx)
 |some d=>
  have hs:d<ag.tmps.size:=by rw[h.size];exact hlt d hd
  refine⟨by show (ag.tmps.setIfInBounds d v).size=_;rw[Array.size_setIfInBounds,h.size],fun k ok t hk ht hx=>?_,fun t ht=>?_⟩
  ·show (ag.tmps.setIfInBounds d v)[t]?=_
   by_cases hki:k=i
   ·subst hki
    rw[hi] at hk;cases hk
    rw[hd] at ht;cases ht
    rw[zGR];simp[hs]
   ·have htd:d≠t:=fun hh=>hki (hF.dist k i ok o t hk hi ht (by rw[hd,hh]))
    rw[zCw hki,Array.getElem?_setIfInBounds_ne htd]
    exact h.on k ok t hk ht (hx.resolve_right hki)
  ·show (ag.tmps.setIfInBounds d v)[t]?=_
   have htd:d≠t:=fun hh=>ht i o hi (by rw[hd,hh]) (.inr rfl)
   rw[Array.getElem?_setIfInBounds_ne htd]
   exact h.off t fun k ok hk hdk hx=>ht k ok hk hdk (.inl hx)

open Classical in
theorem AA.same(h:AA ops ag0 X val ag)(h':AA ops ag0 Y val' ag'){t:Tmp}(ht:∀k o,ops[k]?=some o->o.dst=some t->(X k↔Y k)/\(X k->val k=val' k)):ag.tmps[t]?=ag'.tmps[t]?:=by
 by_cases hx:∃k o,ops[k]?=some o/\o.dst=some t/\X k
 ·obtain⟨k,o,h1,h2,h3⟩:=hx
  have h4:=ht k o h1 h2
  rw[h.on k o t h1 h2 h3,h'.on k o t h1 h2 (h4.1.1 h3),h4.2 h3]
 ·rw[h.off t fun k o h1 h2 h3=>hx ⟨k,o,h1,h2,h3⟩,h'.off t fun k o h1 h2 h3=>hx ⟨k,o,h1,h2,(ht k o h1 h2).1.2 h3⟩]

theorem AA.look(hF:Fit P M ops l fl)(h:AA ops ag0 X val ag)(h':AA ops ag0 Y val' ag')(cX:∀k j,X k->Pr ops k j->X j)(cY:∀k j,Y k->Pr ops k j->Y j){j:Nat}{oj:Oper}(hj:ops[j]?=some oj)
  (nX:¬X j) (nY:¬Y j) (pX:∀k,Pr ops j k->X k) (pY:∀k,Pr ops j k->Y k) (hv:∀k,Pr ops j k->val k=val' k) {t:Tmp} (ht:t∈zFj ops.toList oj):ag.tmps[t]?=ag'.tmps[t]?:=by
 refine h.same h' fun k o hk hd=>?_
 rcases Nat.lt_trichotomy k j with hlt|rfl|hgt
 ·rcases hF.apart j k oj o hj hk hlt with hp|hp
  ·exact⟨⟨fun _=>pY k hp,fun _=>pX k hp⟩,fun _=>hv k hp⟩
  ·exact absurd ht ((zEN hp).1 t hd)
 ·exact⟨⟨fun h=>absurd h nX,fun h=>absurd h nY⟩,fun h=>absurd h nX⟩
 ·rcases hF.apart k j o oj hk hj hgt with hp|hp
  ·exact⟨⟨fun h=>absurd (cX k j h hp) nX,fun h=>absurd (cY k j h hp) nY⟩,fun h=>absurd (cX k j h hp) nX⟩
  ·exact absurd ht ((zEN hp).2 t hd)

theorem zFv{o:Oper}(h:∀t,t∈zFj ops.toList o->ag.tmps[t]?=ag'.tmps[t]?):∀x∈o.op.operands,ag.eval x=ag'.eval x:=by
 intro x hx
 cases x with
 |tmp t=>
  have:t∈zFj ops.toList o:=List.mem_append_left _ (List.mem_filterMap.2 ⟨.tmp t,by simpa using hx,rfl⟩)
  show ag.tmps.getD t undef=ag'.tmps.getD t undef
  rw[Array.getD_eq_getD_getElem?,Array.getD_eq_getD_getElem?,h t this]
 |_=>rfl

theorem zIK{o:Oper}(h:∀t,t∈zFj ops.toList o->ag.tmps[t]?=ag'.tmps[t]?):Region.wanted o (yielded ops ag.tmps)=Region.wanted o (yielded ops ag'.tmps):=by
 unfold Region.wanted
 cases hg:o.guard with
 |none=>rfl
 |some p=>
  obtain⟨j,b⟩:=p
  simp only
  have:yielded ops ag.tmps j=yielded ops ag'.tmps j:=by
   unfold yielded
   cases hoj:ops[j]? with
   |none=>rfl
   |some oj=>
    cases hd:oj.dst with
    |none=>simp[hd]
    |some t=>
     have ht:t∈zFj ops.toList o:=by
      refine List.mem_append_right _ ?_
      rw[hg]
      have:ops.toList[j]?=some oj:=by simpa using hoj
      simp[this,hd]
     simp only[Option.bind_some,hd,h t ht]
  rw[this]
end
end Go.Ab
end
section
namespace Go.Ab
open Go.RowKit (Below)

section
variable{P:Program}{M:Nat}{ops:Array Oper}{l:List DStep}{fl:Nat}

theorem zHa{os:List Oper}:∀{rest:List Oper} {i0:Nat} {l:List DStep},zIY P M os rest i0=some l->l.length=rest.length/\∀(k:Nat) (o:Oper),rest[k]?=some o->∃st,zIM P M os o=some st/\l[k]?=some ({i:=i0+k,pred:=zGy o,st:=st}:DStep)
 |[],i0,l,e=>by
  simp only[zIY,oI] at e;subst e
  exact⟨rfl,fun k o h=>by simp at h⟩
 |o::r,i0,l,e=>by
  simp only[zIY] at e
  split at e
  ·rename_i s l' hs hl
   simp only[oI] at e;subst e
   obtain⟨h1,h2⟩:=zHa hl
   refine⟨by simp[h1],fun k o' hk=>?_⟩
   cases k with
   |zero=>
    simp only[List.getElem?_cons_zero,oI] at hk;subst hk
    exact⟨s,hs,by simp⟩
   |succ k=>
    obtain⟨st,h3,h4⟩:=h2 k o' (by simpa using hk)
    exact⟨st,h3,by rw[List.getElem?_cons_succ,h4];congr 2;omega⟩
  ·cases e

theorem zIe:∀(l:List DStep) (m j:Nat),(l.foldl (fun m s=>match isAl s.st&&Nat.beq (s.pred&&& m) 0 with |true=>m|||2 ^ s.i|false=>m) m).testBit j=true->m.testBit j=true\/∃s∈l,s.i=j/\isAl s.st=true
 |[],m,j,h=>.inl h
 |s::l,m,j,h=>by
  rw[List.foldl_cons] at h
  rcases zIe l _ j h with h1|⟨t,h1,h2,h3⟩
  ·split at h1
   ·rename_i hc
    rw[zAa] at h1
    rcases h1 with h1|h1
    ·exact .inl h1
    ·rw[Bool.and_eq_true] at hc
     exact .inr ⟨s,List.mem_cons_self ..,h1.symm,hc.1⟩
   ·exact .inl h1
  ·exact .inr ⟨t,List.mem_cons_of_mem _ h1,h2,h3⟩

theorem zGo{α:Type}{xs:List α}{f:α×Nat->Bool}(h:xs.zipIdx.all f=true){i:Nat}{x:α}(hi:xs[i]?=some x):f (x,i)=true:=
 List.all_eq_true.1 h (x,i) (List.mem_zipIdx_iff_getElem?.2 hi)

theorem zME(hl:zIY P M ops.toList ops.toList 0=some l)(h1:zNy ops.toList (zId l)=true)(h2:zKH ops.toList=true)(h3:noSel ops.toList=true):Fit P M ops l (zId l):=by
 obtain⟨hlen,hst⟩:=zHa hl
 have toL:∀{i:Nat} {o:Oper},ops[i]?=some o->ops.toList[i]?=some o:=fun h=>by simpa using h
 have ofL:∀{i:Nat} {o:Oper},ops.toList[i]?=some o->ops[i]?=some o:=fun h=>by simpa using h
 have hlook:∀(i:Nat) (s:DStep),l[i]?=some s->∃o,ops[i]?=some o:=fun i s h=>by
  have hlt:i<l.length:=by
   rcases Nat.lt_or_ge i l.length with h'|h'
   ·exact h'
   ·rw[List.getElem?_eq_none h'] at h;cases h
  rw[hlen] at hlt
  exact⟨_,ofL (List.getElem?_eq_getElem hlt)⟩
 unfold zNy at h1
 rw[Bool.and_eq_true] at h1
 obtain⟨h1a,h1b⟩:=h1
 have hearly:∀(i j:Nat),Pr ops i j->j<i:=fun i j ⟨o,ho,hp⟩=>by
  have:=zGo h1a (toL ho)
  simp only[Bool.and_eq_true] at this
  have hlt:=Nat.blt_eq.mp this.1
  rcases Nat.lt_or_ge j i with h|h
  ·exact h
  ·rw[Nat.testBit_lt_two_pow (Nat.lt_of_lt_of_le hlt (Nat.pow_le_pow_right (by omega) h))] at hp;cases hp
 refine⟨fun i o h=>?_,hlook,hearly,fun i j hfl ⟨o,ho,hp⟩=>?_,fun i hfl=>?_,fun i j oi oj hi hj hlt=>?_,fun i j oi oj t hi hj hti htj=>?_,fun i o cs b ho hs=>?_⟩
 ·obtain⟨st,h4,h5⟩:=hst i o (toL h)
  exact⟨st,h4,by rw[h5];simp⟩
 ·have:=zGo h1a (toL ho)
  simp only[Bool.and_eq_true,Bool.or_eq_true,Bool.not_eq_true'] at this
  rcases this.2 with h4|h4
  ·rw[hfl] at h4;cases h4
  ·have h5:=Nat.eq_of_beq_eq_true h4
   have h6:(zGy o&&& zId l).testBit j=false:=by rw[h5];simp
   rw[Nat.testBit_and,hp] at h6
   simpa using h6
 ·unfold zId at hfl
  rcases zIe l 0 i hfl with h4|⟨s,h4,h5,h6⟩
  ·simp at h4
  ·obtain⟨k,hk⟩:=List.mem_iff_getElem?.1 h4
   obtain⟨o,ho⟩:=hlook k s hk
   obtain⟨st,_,h7⟩:=hst k o (toL ho)
   rw[hk] at h7
   simp only[oI] at h7
   have:s.i=k:=by rw[h7];simp
   refine⟨s,?_,h6⟩
   rw[<-h5,this];exact hk
 ·have h4:=zGo (zGo h1b (toL hi)) (toL hj)
  simp only[Bool.or_eq_true,decide_eq_true_eq] at h4
  rcases h4 with (h4|h4)|h4
  ·omega
  ·exact .inl ⟨oi,hi,h4⟩
  ·exact .inr h4
 ·have h4:=zGo (zGo h2 (toL hi)) (toL hj)
  simp only[Bool.or_eq_true,beq_iff_eq] at h4
  rcases h4 with h4|h4
  ·exact h4
  ·rw[hti,htj] at h4
   simp at h4
 ·have h4:=List.all_eq_true.1 h3 o (List.mem_of_getElem? (toL ho))
  rw[hs] at h4;cases h4

inductive TC (R:Nat->Nat->Prop):Nat->Nat->Prop
 |base {i j:Nat}:R i j->TC R i j
 |step {i k j:Nat}:TC R i k->R k j->TC R i j
theorem TC.head{R:Nat->Nat->Prop}{i k j:Nat}(h:R i k)(t:TC R k j):TC R i j:=by
 induction t with
 |base h2=>exact .step (.base h) h2
 |step _ h2 ih=>exact .step ih h2
theorem zKZ{p t:Nat}:∀{ms:List Nat} {j acc:Nat},(zLK p ms j acc).testBit t=true->acc.testBit t=true\/∃k c,ms[k]?=some c/\p.testBit (j+k)=true/\c.testBit t=true
 |[],j,acc,h=>.inl h
 |c::r,j,acc,h=>by
  simp only[zLK] at h
  rcases zKZ h with h1|⟨k,d,h1,h2,h3⟩
  ·cases hp:p.testBit j with
   |true=>
    rw[hp] at h1
    simp only[Nat.testBit_or,Bool.or_eq_true] at h1
    rcases h1 with h1|h1
    ·exact .inl h1
    ·exact .inr ⟨0,c,rfl,hp,h1⟩
   |false=>rw[hp] at h1;exact .inl h1
  ·exact .inr ⟨k+1,d,h1,by rw[show j+(k+1)=j+1+k by omega];exact h2,h3⟩
theorem zIV{R:Nat->Nat->Prop}:∀{l:List DStep} {ms:List Nat},(∀k c,ms[k]?=some c->∀t,c.testBit t=true->TC R k t)->(∀k s,l[k]?=some s->∀t,s.pred.testBit t=true->R (ms.length+k) t) →
  ∀{k:Nat} {y:DStep},(zFR l ms)[k]?=some y->∃s m,l[k]?=some s/\y={s with pred:=m}/\∀t,m.testBit t=true->TC R (ms.length+k) t
 |[],ms,_,_,k,y,h=>by simp[zFR] at h
 |s::r,ms,hms,hl,k,y,h=>by
  have hm:∀t,(zLK s.pred ms 0 s.pred).testBit t=true->TC R ms.length t:=fun t ht=>by
   have h0:=hl 0 s rfl
   rcases zKZ ht with h1|⟨j,c,h1,h2,h3⟩
   ·exact .base (h0 t h1)
   ·rw[Nat.zero_add] at h2
    exact .head (h0 j h2) (hms j c h1 t h3)
  cases k with
  |zero=>
   simp only[zFR,List.getElem?_cons_zero,oI] at h
   exact⟨s,_,rfl,h.symm,hm⟩
  |succ k=>
   simp only[zFR,List.getElem?_cons_succ] at h
   obtain⟨s',m,h1,h2,h3⟩:=zIV (l:=r) (ms:=ms++[zLK s.pred ms 0 s.pred]) (fun j c hj t ht=>by
    rcases Nat.lt_or_ge j ms.length with hjl|hjl
    ·rw[List.getElem?_append_left hjl] at hj;exact hms j c hj t ht
    ·rw[List.getElem?_append_right hjl] at hj
     obtain⟨hj2,hj3⟩:=List.getElem?_eq_some_iff.1 hj
     simp only[zlC,zlN] at hj2
     obtain rfl:j=ms.length:=by omega
     simp at hj3
     subst hj3
     exact hm t ht) (fun j s' hj t ht=>by
    have:=hl (j+1) s' hj t ht
    rw[List.length_append,List.length_singleton,show ms.length+1+j=ms.length+(j+1) by omega];exact this) h
   refine⟨s',m,h1,h2,fun t ht=>?_⟩
   have:=h3 t ht
   rw[List.length_append,List.length_singleton,show ms.length+1+k=ms.length+(k+1) by omega] at this
   exact this
theorem Fit.closed{l:List DStep}{fl:Nat}(hF:Fit P M ops l fl){i:Nat}{y:DStep}(h:(zFR l [])[i]?=some y):∃s m,l[i]?=some s/\y={s with pred:=m}/\∀t,m.testBit t=true->TC (Pr ops) i t:=by
 have:=zIV (R:=Pr ops) (l:=l) (ms:=[]) (fun k c hk=>by simp at hk) (fun k s hk t ht=>by
  rw[zlN,Nat.zero_add]
  obtain⟨o,ho⟩:=hF.lookup k s hk
  obtain⟨st,_,h2⟩:=hF.step k o ho
  rw[hk] at h2
  simp only[oI] at h2
  rw[h2] at ht
  exact⟨o,ho,ht⟩) h
 simpa using this

theorem zGF{m:Nat}{e:Held}:∀{hs:List Held},e∈hs->m.testBit e.i=false->e∈zEj m hs
 |k::r,h,hm=>by
  simp only[zEj]
  rcases List.mem_cons.1 h with rfl|h
  ·rw[hm];exact List.mem_cons_self ..
  ·cases m.testBit k.i with
   |true=>exact zGF h hm
   |false=>exact List.mem_cons_of_mem _ (zGF h hm)

theorem zMn{plan:List DStep}(e:cDraw P M ops.toList=some plan):∃l fl is,Fit P M ops l fl/\chkP l fl 0 is=true/\mapO (fun i=>(zFR l [])[i]?) is=some plan:=by
 unfold cDraw at e
 split at e
 ·rename_i l hl
  simp only at e
  split at e
  ·rename_i hfit
   simp only[Bool.and_eq_true] at hfit
   split at e
   ·rename_i p hp
    split at e
    ·rename_i hc
     exact⟨l,zId l,p.map (·.i),zME hl hfit.1 hfit.2.1 hfit.2.2,hc,e⟩
    ·cases e
   ·cases e
  ·cases e
 ·cases e

structure ChkStep(ops:Array Oper)(l:List DStep)(fl L i:Nat)(s:DStep):Prop where
 get:l[i]?=some s
 new:¬L.testBit i=true
 pred:∀j,s.pred.testBit j=true->L.testBit j=true
 flo:fl.testBit i=true->∀t∈l,fl.testBit t.i=false->¬L.testBit t.i=true->subM t.pred (L|||upF fl L l)=true->t.pred.testBit i=true
 eff:fl.testBit i=false->isE s.st=true->∀t∈l,fl.testBit t.i=false->¬L.testBit t.i=true->subM t.pred (L|||upF fl L l)=true->t.i=i

theorem zDu{L i:Nat}{r:List Nat}(h:chkP l fl L (i::r)=true):∃s,ChkStep ops l fl L i s/\chkP l fl (L|||2 ^ i) r=true:=by
 simp only[chkP] at h
 split at h
 ·rename_i s hs
  simp only[Bool.and_eq_true,Bool.not_eq_true'] at h
  obtain⟨h1,h2,h3,h4⟩:=h
  refine⟨s,⟨hs,by rw[h1];simp,zJr.1 h2,fun hf t ht hft hLt hsub=>?_,fun hf hE t ht hft hLt hsub=>?_⟩,h4⟩
  ·rw[hf] at h3
   have:=List.all_eq_true.1 h3 t ht
   simp only[Bool.or_eq_true,Bool.not_eq_true'] at this
   rcases this with h|h|h|h
   ·rw[hft] at h;cases h
   ·exact absurd h hLt
   ·rw[hsub] at h;cases h
   ·exact h
  ·rw[hf,hE] at h3
   have:=List.all_eq_true.1 h3 t ht
   simp only[Bool.or_eq_true,Bool.not_eq_true'] at this
   rcases this with h|h|h|h
   ·rw[hft] at h;cases h
   ·exact absurd h hLt
   ·exact Nat.eq_of_beq_eq_true h
   ·rw[hsub] at h;cases h
 ·cases h
theorem zJC{L:Nat}(h:chkP l fl L []=true):∀t∈l,L.testBit t.i=true:=List.all_eq_true.1 h
end
end Go.Ab
end
section
namespace Go.Ab
open Go.RowKit (Below)

section
variable{P:Program}{N:Nat}{w0:World}{G G' Gs:GM}{h h' hs:AHeap}{w w' ws:World}{a:AAct}{ag:Act}{M:Nat}{S:Self}

def Unowned(G:GM)(h:AHeap)(blk:Nat):Prop:=∀id x gi,h.objs.get id=some x->G id=some gi->gi.blk≠blk

theorem Rel.adopt(hR:Rel P N w0 G h w)(hE:Ext Gs hs ws G h w){o:AObj}{ob:Obj}{gi:GI}(hb:w.heap[gi.blk]?=some ob)(hro:o.ro=false)(hN:N<=gi.blk)(hws:ws.heap.size<=gi.blk)(hun:Unowned G h gi.blk)(ho:OR P (addG G h.next gi) gi o ob):
  Rel P N w0 (addG G h.next gi) (newA h o) w/\Ext Gs hs ws (addG G h.next gi) (newA h o) w:=by
 have hle:GLe G (addG G h.next gi):=zEM (hR.fresh _ (Nat.le_refl _))
 have hget:∀id,(newA h o).objs.get id=if id=h.next then some (h.next,o) else h.objs.get id:=fun id=>T.get_set _ _ _ _
 constructor
 ·constructor
  ·intro id ver o' e
   rw[hget] at e
   by_cases hi:id=h.next
   ·rw[if_pos hi] at e;cases e;subst hi
    exact⟨gi,zAU,ob,hb,ho⟩
   ·rw[if_neg hi] at e
    obtain⟨gi',h1,ob',h2,h3⟩:=hR.obj id ver o' e
    exact⟨gi',hle _ _ h1,ob',h2,h3.mono hle⟩
  ·intro id id' x x' g g' e e' hr hg hg' hbb
   rw[hget] at e e'
   by_cases hi:id=h.next
   ·by_cases hi':id'=h.next
    ·rw[hi,hi']
    ·rw[if_neg hi'] at e'
     rw[zBK hi'] at hg'
     rw[hi,zAU] at hg;cases hg
     exact absurd hbb.symm (hun id' x' g' e' hg')
   ·rw[if_neg hi] at e
    rw[zBK hi] at hg
    by_cases hi':id'=h.next
    ·rw[hi',zAU] at hg';cases hg'
     exact absurd hbb (hun id x g e hg)
    ·rw[if_neg hi'] at e'
     rw[zBK hi'] at hg'
     exact hR.inj id id' x x' g g' e e' hr hg hg' hbb
  ·intro id ver o' g e hg hr
   rw[hget] at e
   by_cases hi:id=h.next
   ·rw[hi,zAU] at hg;cases hg;exact hN
   ·rw[if_neg hi] at e;rw[zBK hi] at hg
    exact hR.own id ver o' g e hg hr
  ·intro id hid
   have hid':h.next+1<=id:=hid
   rw[zBK (by omega)]
   exact hR.fresh id (by omega)
  ·intro id ver o' e
   rw[hget] at e
   show ver<h.next+1
   by_cases hi:id=h.next
   ·rw[if_pos hi] at e;cases e;omega
   ·rw[if_neg hi] at e
    have:=hR.vers id ver o' e;omega
  ·intro g hg
   obtain⟨gi',h1,h2⟩:=hR.glob g hg
   exact⟨gi',hle _ _ h1,h2⟩
  ·show _<=h.next+1;have:=hR.low;omega
  ·exact hR.below
  ·exact hR.size
  ·intro id ver o' g e hg hr
   rw[hget] at e
   by_cases hi:id=h.next
   ·rw[if_pos hi] at e;cases e;rw[hro] at hr;cases hr
   ·rw[if_neg hi] at e;rw[zBK hi] at hg
    exact hR.rolow id ver o' g e hg hr
 ·constructor
  ·exact hE.gle.trans hle
  ·show hs.next<=h.next+1;have:=hE.nle;omega
  ·intro id ver o' e
   rw[hget] at e
   by_cases hi:id=h.next
   ·rw[if_pos hi] at e;cases e;exact .inl hE.nle
   ·rw[if_neg hi] at e;exact hE.same id ver o' e
  ·exact hE.frame
  ·intro id x g e hr hg
   rw[hget] at e
   by_cases hi:id=h.next
   ·rw[hi,zAU] at hg;cases hg;exact .inl hws
   ·rw[if_neg hi] at e;rw[zBK hi] at hg
    exact hE.owned id x g e hr hg
  ·exact hE.size

def FO(P:Program)(o:Oper)(ρ:Operand->Value)(obj:Obj)(vf:Nat->Value):Prop:=∀w,(execOp ρ o).run P w=.ok (.value (vf w.heap.size)) (w.alloc obj)

theorem FO.unique{o:Oper}{ρ:Operand->Value}{obj obj':Obj}{vf vf':Nat->Value}(h:FO P o ρ obj vf)(h':FO P o ρ obj' vf'):obj=obj'/\∀b,vf b=vf' b:=by
 have key:∀w:World,vf w.heap.size=vf' w.heap.size/\w.alloc obj=w.alloc obj':=fun w=>by
  have:=(h w).symm.trans (h' w)
  simp only[Result.ok.injEq,Next.value.injEq] at this
  exact this
 constructor
 ·have h1:=(key default).2
  have h2:((default:World).alloc obj).heap[(default:World).heap.size]?=((default:World).alloc obj').heap[(default:World).heap.size]?:=by rw[h1]
  rw[zCo,zCo] at h2
  exact Option.some.inj h2
 ·intro b
  have h1:=(key {(default:World) with heap:=Array.replicate b (.pending #[] 0)}).1
  simpa using h1

def alE:EOp->Bool
 | .alloc _ _=>true
 | .box _ _=>true
 | .bslice _ _ _ _ _=>true
 | .bslice0=>true
 | .mkmap r=>r.isNone
 |_=>false

theorem zMF(hl:∀g,g<P.globals.size->∃gi,G g=some gi/\gi.blk=g/\gi.off=0)(ha:ActR P G M a ag){o:Oper}{e:EOp}(hq:cE P o.op=some e){st:Step}(hst:st.op=.e e)(hal:isAl st=true){Q:AVal×AHeap->Prop}(hsat:(zBO a h e).sat Q):
  ∃obj vf v h',FO P o ag.eval obj vf/\Q (v,h')/\(∀{w:World} (blk:Nat),Rel P N w0 G h w->Ext Gs hs ws G h w->w.heap[blk]?=some obj->N<=blk->ws.heap.size<=blk->Unowned G h blk →
   ∃G',Rel P N w0 G' h' w/\Ext Gs hs ws G' h' w/\GLe G G'/\VR P G' v (vf blk)/\(∀id x,h.objs.get id=some x->h'.objs.get id=some x)/\(∀id x gi,h'.objs.get id=some x->G' id=some gi->gi.blk=blk\/(h.objs.get id=some x/\G id=some gi))):=by
 have hnotold:∀{w:World} {blk:Nat} {gi:GI} {o':AObj} {ob:Obj},gi.blk=blk->o'.ro=false->Rel P N w0 G h w->Ext Gs hs ws G h w->w.heap[blk]?=some ob->N<=blk->ws.heap.size<=blk->Unowned G h blk->OR P (addG G h.next gi) gi o' ob →
   Rel P N w0 (addG G h.next gi) (newA h o') w/\Ext Gs hs ws (addG G h.next gi) (newA h o') w/\GLe G (addG G h.next gi)/\(∀id x,h.objs.get id=some x->(newA h o').objs.get id=some x)/\(∀id x gi',(newA h o').objs.get id=some x->addG G h.next gi id=some gi'->gi'.blk=blk\/(h.objs.get id=some x/\G id=some gi')):=by
  intro w blk gi o' ob hb hro hR hE hob hN hws hun ho
  subst hb
  obtain⟨h1,h2⟩:=hR.adopt hE hob hro hN hws hun ho
  refine⟨h1,h2,zEM (hR.fresh _ (Nat.le_refl _)),fun id x hx=>?_,fun id x gi' hx hg=>?_⟩
  ·show (h.objs.set h.next _).get id=_
   rw[T.get_set]
   have:id≠h.next:=fun hh=>by
    obtain⟨g,hg,_⟩:=hR.obj id x.1 x.2 hx
    rw[hh,hR.fresh _ (Nat.le_refl _)] at hg;cases hg
   rw[if_neg this];exact hx
  ·by_cases hi:id=h.next
   ·rw[hi,zAU] at hg;cases hg;exact .inl rfl
   ·rw[zBK hi] at hg
    have hx':(h.objs.set h.next (some (h.next,o'))).get id=some x:=hx
    rw[T.get_set,if_neg hi] at hx'
    exact .inr ⟨hx',hg⟩
 have cellsCase:∀{vs:List AVal} {c:Array Value} {el:TypeId} {n:Option Nat},VsR P G vs c.toList->(∀m,n=some m->m*P.cellsOf el<=c.size)->∀{w:World} (blk:Nat),Rel P N w0 G h w->Ext Gs hs ws G h w->w.heap[blk]?=some (.cells c el)->N<=blk->ws.heap.size<=blk->Unowned G h blk →
   ∃G',Rel P N w0 G' (newA h (.cells false el vs)) w/\Ext Gs hs ws G' (newA h (.cells false el vs)) w/\GLe G G'/\VR P G' (match n with |none=>.ptr (some (h.next,0))|some m=>.slice (some (h.next,0)) m) (match n with |none=>Value.pointer (some ⟨blk,0,none⟩)|some m=>.slice (some ⟨blk,0,none⟩) m m)∧
    (∀id x,h.objs.get id=some x->(newA h (.cells false el vs)).objs.get id=some x)/\(∀id x gi,(newA h (.cells false el vs)).objs.get id=some x->G' id=some gi->gi.blk=blk\/(h.objs.get id=some x/\G id=some gi)):=by
  intro vs c el n hvs hn w blk hR hE hob hN hws hun
  obtain⟨h1,h2⟩:=hvs.whole
  have hle:GLe G (addG G h.next ⟨blk,c.size,el,0⟩):=zEM (hR.fresh _ (Nat.le_refl _))
  obtain⟨h3,h4,h5,h6,h7⟩:=hnotold (gi:=⟨blk,c.size,el,0⟩) (o':=.cells false el vs) rfl rfl hR hE hob hN hws hun ⟨c,el,(0,0),rfl,fun _=>⟨rfl,rfl,rfl,rfl⟩,by simp,rfl,Nat.le_of_eq h2,by rw[zlZ];exact h1.mono hle⟩
  refine⟨_,h3,h4,h5,?_,h6,h7⟩
  cases n with
  |none=>exact⟨_,zAU,rfl⟩
  |some m=>exact⟨_,m,zAU,rfl,Nat.le_refl _,by simpa using hn m rfl⟩
 have ev1:∀{x:Operand} {x':AOpd} {v:AVal},cOpd P x=some x'->ev a x'=some v->VR P G v (ag.eval x):=fun h1 h2=>zBP hl ha h1 h2
 have halE:alE e=true:=by
  unfold isAl at hal
  rw[hst] at hal
  split at hal<;>first|cases hal;done|(rename_i heq _;injection heq with heq;subst heq;rfl)
 cases hop:o.op with
 |alloc t=>
  rw[hop] at hq
  simp only[cE] at hq
  split at hq
  ·rename_i z hz
   simp only[oI] at hq;subst hq
   obtain⟨Z,hZ,hzr⟩:=zEO (P:=P) (G:=G) hz
   refine⟨.cells Z.cells t,fun b=>.pointer (some ⟨b,0,none⟩),_,_,fun w=>?_,hsat,fun blk hR hE hob hN hws hun=>cellsCase (n:=none) hZ.cells (fun m hm=>by cases hm) blk hR hE hob hN hws hun⟩
   unfold execOp;rw[hop];simp[Instr.alloc,hzr,zEY]
  ·cases hq
 |box t x=>
  rw[hop] at hq
  simp only[cE] at hq
  split at hq
  ·rename_i x' hx
   simp only[oI] at hq;subst hq
   simp only[zBO] at hsat
   split at hsat
   ·rename_i v hv
    refine⟨.cells (ag.eval x).cells t,fun b=>.pointer (some ⟨b,0,none⟩),_,_,fun w=>?_,hsat,fun blk hR hE hob hN hws hun=>cellsCase (n:=none) (ev1 hx hv).cells (fun m hm=>by cases hm) blk hR hE hob hN hws hun⟩
    unfold execOp;rw[hop];simp[Instr.box,zEY]
   ·cases hsat
  ·cases hq
 |buildSlice t n ps=>
  rw[hop] at hq
  simp only[cE] at hq
  split at hq
  ·cases hq
  ·rename_i e' he
   split at hq
   ·cases hq
   ·rename_i s hsz
    split at hq
    ·rename_i hn0 hps
     split at hq
     ·rename_i hn
      subst hn
      simp only[oI] at hq;subst hq
      have hu:=zDF he
      have hp0:ps= #[]:=by apply Array.ext';simpa using hps
      subst hp0
      have hz:(Array.map (fun _=>(default:Value)) (Array.range 0))= #[]:=by apply Array.ext';simp
      refine⟨.cells #[] e',fun b=>.slice (some ⟨b,0,none⟩) 0 0,_,_,fun w=>?_,hsat,fun {w} blk hR hE hob hN hws hun=>⟨G,hR,hE,GLe.refl G,⟨_,rfl⟩,fun _ _ hx=>hx,fun _ _ _ hx hg=>.inr ⟨hx,hg⟩⟩⟩
      unfold execOp;rw[hop]
      simp[Instr.buildSlice,run_underlying hu,zAp hsz,Instr.fill,zIu,hz]
     ·cases hq
    ·cases hq
    ·rename_i hn0 hn1
     split at hq
     ·rename_i z ps' hz hps
      split at hq
      ·rename_i hc
       simp only[oI] at hq;subst hq
       simp only[zBO] at hsat
       split at hsat
       ·rename_i cs hcs
        obtain⟨i,Z,hi,hZ,hzr⟩:=zGU (G:=G) hz
        have hZc:=hzr.cells
        have hZl:Z.cells.size=s:=by have:=hZc.length;simp at this;omega
        have hA:((Array.range (n*s)).map (Z.cells[· % Z.cells.size]!)).toList=rep Z.cells.toList n:=zLP _ _ _ (by rw[hZl])
        obtain⟨L',h1,h2⟩:=zGj hl ha hps hcs (L:=(Array.range (n*s)).map (Z.cells[· % Z.cells.size]!)) (by rw[hA];exact VsR.rep n hZc)
        have hbig:¬(n*s>2 ^ 24):=by omega
        have his:i.size=s:=by
         obtain⟨i',h3,h4⟩:=zDG hsz
         rw[hi] at h3;cases h3;exact h4
        have hcl:cs.length=n*s:=by
         have:=zJj hcs
         rw[zEH] at this
         rw[this,hc.2]
        obtain⟨_,h6⟩:=h2.whole
        refine⟨.cells L' e',fun b=>.slice (some ⟨b,0,none⟩) n n,_,_,fun w=>?_,hsat,fun blk hR hE hob hN hws hun=>cellsCase (n:=some n) h2 (fun m hm=>by cases hm;rw[zFq hsz,<-h6,hcl];exact Nat.le_refl _) blk hR hE hob hN hws hun⟩
        have hrun:=Go.run_buildSlice (P:=P) w t e' n (ps.map fun (i,x)=>(i,ag.eval x)) L' i Z (zDF he) hi hZ (by rw[his];exact hbig) (by rw[his];exact hn0) (by
         rw[his,Array.toList_map];exact h1)
        unfold execOp;rw[hop]
        simp only[Sem.run_bind,hrun]
        rfl
       ·cases hsat
      ·cases hq
     ·cases hq
 |makeMap t r=>
  rw[hop] at hq
  simp only[cE] at hq
  split at hq
  ·rename_i k v r' hu hr
   simp only[oI] at hq;subst hq
   cases r with
   |none=>
    simp only[cOpt,oI] at hr;subst hr
    refine⟨.map #[] 0,fun b=>.map (some b),_,_,fun w=>?_,hsat,fun blk hR hE hob hN hws hun=>?_⟩
    ·unfold execOp;rw[hop];simp[Instr.makeMap]
    ·obtain⟨h3,h4,h5,h6,h7⟩:=hnotold (gi:=⟨blk,0,0,0⟩) (o':=.map [] 0) rfl rfl hR hE hob hN hws hun ⟨#[],rfl,rfl⟩
     exact⟨_,h3,h4,h5,⟨_,zAU,rfl⟩,h6,h7⟩
   |some x=>
    simp only[cOpt] at hr
    split at hr
    ·simp only[oI] at hr
     rw[<-hr] at halE
     simp[alE] at halE
    ·cases hr
  ·cases hq
 |next it isS=>
  exfalso
  rw[hop] at hq
  cases isS with
  |true=>cases hq
  |false=>
   simp only[cE] at hq
   split at hq
   ·simp only[oI] at hq;subst hq;simp[alE] at halE
   ·cases hq
 |_=>
  exfalso
  rw[hop] at hq
  simp only[cE] at hq
  first
   |(cases hq;done)
   |(repeat' split at hq)<;>first|(cases hq;done)|(simp only[oI] at hq;subst hq;simp[alE] at halE)
end
end Go.Ab
end
