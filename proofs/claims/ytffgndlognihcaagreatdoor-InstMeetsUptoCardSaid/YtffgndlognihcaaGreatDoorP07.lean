import Derived.Test.YtffgndlognihcaaGreatDoorP06
/-
  Part 7 of the proof.
-/
set_option linter.all false
namespace Go.Ab
section
variable{fns:FnsT}{summ:SumT}{ro:Option Nat}
 {d:Option Tmp} {e:TypeId} {x y z:AOpd} {l:List Step} {a:AAct} {h:AHeap} {K:AAct->AHeap->Prop} {v:AVal} {cs vs:List AVal} {b o n ver:Nat}

structure But(b:Nat)(h h':AHeap):Prop where
 next:h.next<=h'.next
 keep:∀c,c≠b->∀p,h.objs.get c=some p->h'.objs.get c=some p
 grow:∀h0,WF h0->Grow h0 h->h0.next<=b->Grow h0 h'
 wf:WF h->WF h'

theorem But.trans{h h' h'':AHeap}(p:But b h h')(q:But b h' h''):But b h h'':=
 ⟨Nat.le_trans p.next q.next,fun c hc x k=>q.keep c hc x (p.keep c hc x k),fun h0 w g k=>q.grow h0 w (p.grow h0 w g k) k,fun w=>q.wf (p.wf w)⟩

theorem zDa(w:WF h){p:Nat×AObj}(hb:h.objs.get b=some p)(ob:AObj):But b h (zAT h b ob):=
 ⟨Nat.le_succ _,fun c hc x k=>by rw[zBJ _ _ _ hc];exact k,fun h0 w0 g k=>g.put w0 ob k (w.lt hb),fun _ c hc=>by
  have:=w.lt hb
  rw[zBv] at hc
  rw[zBJ _ _ _ (by omega)];exact w c (by omega)⟩

theorem zAm{cs:List AVal}(hx:ev a x=some v)(hcs:zAX v=cs)(w:WF h)(k:∀b h',h.next<=b->Grow h h'->h'.objs.get b=some (b,.cells false e cs)->St fns summ ro l (putA a d (.ptr (some (b,0)))) h' K):
  St fns summ ro (⟨d,none,.e (.box e x)⟩::l) a h K:=by
 refine st_t (by intro _ _ hh;cases hh) (by intro _ _ hh;cases hh) (v:=.ptr (some (h.next,0))) (h':=newA h (.cells false e cs)) ?_ (k _ _ (Nat.le_refl _) ((Grow.refl w).new _) (zAO _ _))
 simp only[zBO,hx,hcs]
theorem zAS(w:WF h)(k:∀b h',h.next<=b->Grow h h'->h'.objs.get b=some (b,.cells false e cs)->St fns summ ro l (putA a d (.ptr (some (b,0)))) h' K):
  St fns summ ro (⟨d,none,.e (.alloc e cs)⟩::l) a h K:=
 st_t (by intro _ _ hh;cases hh) (by intro _ _ hh;cases hh) (v:=.ptr (some (h.next,0))) (h':=newA h (.cells false e cs)) rfl (k _ _ (Nat.le_refl _) ((Grow.refl w).new _) (zAO _ _))
theorem zDD{hint:Option AOpd}(hh:hint=none\/∃x kd n,hint=some x/\ev a x=some (.int kd n))(w:WF h)(k:∀b h',h.next<=b->Grow h h'->h'.objs.get b=some (b,.map [] 0)->St fns summ ro l (putA a d (.map (some b))) h' K):
  St fns summ ro (⟨d,none,.e (.mkmap hint)⟩::l) a h K:=by
 refine st_t (by intro _ _ hh;cases hh) (by intro _ _ hh;cases hh) (v:=.map (some h.next)) (h':=newA h (.map [] 0)) ?_ (k _ _ (Nat.le_refl _) ((Grow.refl w).new _) (zAO _ _))
 rcases hh with rfl|⟨x,kd,n,rfl,hx⟩
 ·rfl
 ·simp only[zBO,hx]
theorem zAE{cs:List AVal}(hx:ev a x=some (.ptr (some (b,o))))(hv:ev a y=some v)(hcs:zAX v=cs)(hn:cs.length=n)(w:WF h)(hb:h.objs.get b=some (ver,.cells false e vs))(hf:o+cs.length<=vs.length)(ho:cs.all one=true)
  (k:∀ver' h',But b h h'->h'.objs.get b=some (ver',.cells false e (vs.take o++cs++vs.drop (o+cs.length)))->St fns summ ro l (putA a d (.tuple [])) h' K):
  St fns summ ro (⟨d,none,.e (.store n x y)⟩::l) a h K:=by
 refine st_t (by intro _ _ hh;cases hh) (by intro _ _ hh;cases hh) (v:=.tuple []) (h':=zAT h b (.cells false e (vs.take o++cs++vs.drop (o+cs.length)))) ?_ (k _ _ (zDa w hb _) (zAV _ _ _))
 simp only[zBO,hx,hv,hcs,hn,if_true,zDQ,hb,if_pos (show o+n<=vs.length/\cs.all one=true from⟨hn ▸ hf,ho⟩)]
theorem zFb{kk:KeyK}{m:AOpd}{r clock:Nat}{kv val:AVal}{es:List (AVal×AVal×Nat)}(hm:ev a m=some (.map (some r)))(hx:ev a x=some kv)(hv:ev a y=some val)
  (hn:kk≠.ptr) (hk:zEA kk kv=true) (w:WF h) (hg:h.objs.get r=some (ver,.map es clock)) (hf:zBa kk kv es 0=some none)
  (k:∀ver' h',But r h h'->h'.objs.get r=some (ver',.map (es++[(kv,val,clock)]) (clock+1))->St fns summ ro l (putA a d (.tuple [])) h' K):St fns summ ro (⟨d,none,.e (.update kk m x y)⟩::l) a h K:=
 zIx hm hx hv hn hk hg hf (k _ _ (zDa w hg _) (zAV _ _ _))
def Built(h:AHeap)(base:Nat)(e:TypeId)(sz:Nat)(v:AVal)(n:Nat)(cells:List AVal):Prop:=
 (v=.slice none 0/\n=0/\cells=[])\/(v=.slice0/\n=0/\cells=[])∨
  ∃b vs ver,base<=b/\v=.slice (some (b,0)) n/\h.objs.get b=some (ver,.cells false e vs)/\n*sz<=vs.length/\vs.take (n*sz)=cells
theorem Built.len{base sz:Nat}{cells:List AVal}(k:Built h base e sz v n cells):lenO v=some n:=by
 rcases k with⟨rfl,rfl,_⟩|⟨rfl,rfl,_⟩|⟨b,vs,ver,_,rfl,_⟩<;>rfl
theorem Built.size{base sz:Nat}{cells:List AVal}(k:Built h base e sz v n cells):cells.length=n*sz:=by
 rcases k with⟨_,rfl,rfl⟩|⟨_,rfl,rfl⟩|⟨b,vs,ver,_,_,_,h1,rfl⟩
 ·simp
 ·simp
 ·rw[List.length_take];omega
theorem Built.grow{base sz:Nat}{cells:List AVal}{h':AHeap}(k:Built h base e sz v n cells)(g:Grow h h'):Built h' base e sz v n cells:=by
 rcases k with k|k|⟨b,vs,ver,h0,h1,h2,h3⟩
 ·exact .inl k
 ·exact .inr (.inl k)
 ·exact .inr (.inr ⟨b,vs,ver,h0,h1,g.keep _ _ h2,h3⟩)
theorem Built.sl{base sz:Nat}{cells:List AVal}(k:Built h base e sz v n cells)(hz:0<sz){xs:List (List AVal)}(hx:cells=xs.flatten)(hl:∀c∈xs,c.length=sz)(hn:xs.length=n):SlAt h sz v xs:=by
 refine⟨by rw[hn];exact k.len,fun i c hc=>?_⟩
 obtain⟨hi,rfl⟩:=List.getElem?_eq_some_iff.1 hc
 have hsz:=k.size
 rcases k with⟨_,rfl,_⟩|⟨_,rfl,_⟩|⟨b,vs,ver,h0,rfl,h2,h3,h4⟩
 ·omega
 ·omega
 refine⟨hl _ (List.getElem_mem hi),b,0+i*sz,ver,false,e,vs,?_,h2,?_⟩
 ·simp only[slA,if_pos (show i<n by omega)]
 ·have hflat:∀(ys:List (List AVal)),(∀c∈ys,c.length=sz)->∀(j:Nat) (hj:j<ys.length),(ys.flatten.drop (j*sz)).take sz=ys[j]:=by
   intro ys
   induction ys with
   |nil=>intro _ j hj;simp at hj
   |cons y ys ih=>
    intro hall j hj
    have hy:y.length=sz:=hall y (by simp)
    cases j with
    |zero=>simp[<-hy]
    |succ j=>
     have e1:(j+1)*sz - y.length=j*sz:=by rw[hy,Nat.succ_mul];omega
     have e2:y.drop ((j+1)*sz)=[]:=List.drop_eq_nil_of_le (by rw[hy,Nat.succ_mul];omega)
     rw[List.flatten_cons,List.drop_append,e1,e2,zlA,List.getElem_cons_succ]
     exact ih (fun c hc=>hall c (by simp[hc])) j (by simpa using hj)
  have hle:i*sz+sz<=n*sz:=by rw[<-Nat.succ_mul];exact Nat.mul_le_mul_right _ (by omega)
  have:=hflat xs hl i hi
  rw[<-this,<-hx,<-h4,List.drop_take,List.take_take,Nat.zero_add,Nat.min_eq_left (by omega)]

theorem zIE{base sz bytes m:Nat}{cells new:List AVal}{xv:AVal}(hs:ev a x=some v)(hx:ev a y=some xv)(B:Built h base e sz v n cells)(hl:lenA xv=some m)(hm:0<m)(hc:zER h sz m xv=some new)(ho:new.all one=true)(hr:zCU bytes (n+m)=true)
  (hnl:new.length=m*sz) (w:WF h) (hbase:base<=h.next)
  (k:∀v' h',Built h' base e sz v' (n+m) (cells++new)->(∀c j,v'=.slice (some (c,0)) j->h.next<=c)->WF h'->h.next<=h'.next->(∀h0,WF h0->Grow h0 h->h0.next<=base->Grow h0 h')->(∀c p,h.objs.get c=some p->(∀n,v≠.slice (some (c,0)) n)->h'.objs.get c=some p)->St fns summ ro l (putA a d v') h' K):
  St fns summ ro (⟨d,none,.e (.append e sz bytes x y)⟩::l) a h K:=by
 have hm':m≠0:=by omega
 obtain⟨m',rfl⟩:∃m',m=m'+1:=⟨m - 1,by omega⟩
 have go:∀{v':AVal} {h':AHeap},zEh h e sz bytes v xv=some (v',h')->St fns summ ro l (putA a d v') h' K->St fns summ ro (⟨d,none,.e (.append e sz bytes x y)⟩::l) a h K:=by
  intro v' h' he kk
  refine st_t (by intro _ _ hh;cases hh) (by intro _ _ hh;cases hh) (v:=v') (h':=h') ?_ kk
  simp only[zBO,hs,hx,he]
 have fresh:∀(h1:AHeap) (w1:WF h1) (hn:h1.next=h.next) (_:∀h0,WF h0->Grow h0 h->h0.next<=base->Grow h0 h1) (k1:∀c p,h.objs.get c=some p->(∀n,v≠.slice (some (c,0)) n)->h1.objs.get c=some p) (all:cells++new=cells++new),
   St fns summ ro l (putA a d (.slice (some (h.next,0)) (n+(m'+1)))) (newA h1 (.cells false e (cells++new))) K:=by
  intro h1 w1 hn g1 k1 _
  refine k _ _ (.inr (.inr ⟨h.next,cells++new,h1.next,hbase,rfl,by rw[<-hn];exact zAO _ _,?_,?_⟩)) (fun c j hc=>by simp only[AVal.slice.injEq,oI,Prod.mk.injEq] at hc;omega) ((Grow.refl w1).new _).wf (by rw[zBH];omega) (fun h0 w0 g hb=>(g1 h0 w0 g hb).new _) (fun c p hp hc=>((Grow.refl w1).new _).keep _ _ (k1 c p hp hc))
  ·rw[List.length_append,B.size,hnl,<-Nat.add_mul];exact Nat.le_refl _
  ·exact List.take_of_length_le (by rw[List.length_append,B.size,hnl,<-Nat.add_mul];exact Nat.le_refl _)
 rcases B with⟨rfl,rfl,rfl⟩|⟨rfl,rfl,rfl⟩|⟨b,vs,ver,h0,rfl,h2,h3,h4⟩
 ·rw[Nat.zero_add] at hr
  refine go ?_ (fresh h w rfl (fun _ _ g _=>g) (fun _ _ p _=>p) rfl)
  simp only[zEh,hl,hc,ho,hr,if_true,Nat.zero_add,zlA]
 ·rw[Nat.zero_add] at hr
  refine go ?_ (fresh h w rfl (fun _ _ g _=>g) (fun _ _ p _=>p) rfl)
  simp only[zEh,hl,hc,ho,hr,if_true,Nat.zero_add,zlA]
 ·have hb:=w.lt h2
  refine go (h':=newA (zCz h b) (.cells false e (cells++new))) ?_ (fresh (zCz h b) (fun c hc=>?_) rfl (fun h0' w0 g hbb=>g.drop w0 (Nat.le_trans hbb h0)) (fun c p hp hc=>?_) rfl)
  ·have hcond:True/\n*sz<=vs.length/\zCU bytes (n+(m'+1))=true:=⟨trivial,h3,hr⟩
   simp only[zEh,hl,hc,ho,h2]
   rw[if_pos hcond,h4]
  ·rw[zHE];split
   ·rfl
   ·exact w c hc
  ·rw[zBL]
   ·exact hp
   ·rintro rfl;exact hc n rfl
end
section
variable{fns:FnsT}{summ:SumT}{ro:Option Nat}
theorem zGm{d:Option Tmp}{x y:AOpd}{l:List Step}{a:AAct}{h:AHeap}{K:AAct->AHeap->Prop}{u v:Int}(hx:ev a x=some (.int .i64 u))(hy:ev a y=some (.int .i64 v))(k:St fns summ ro l (putA a d (.agg [.int .i64 u,.int .i64 v])) h K):
  St fns summ ro (⟨d,none,.q (.build [.int .i64 0,.int .i64 0] [(0,1,x),(1,1,y)])⟩::l) a h K:=by
 refine st_q (v:=.agg [.int .i64 u,.int .i64 v]) (b:=none) ?_ k
 simp[qA,zCX,hx,hy,zAX]
theorem zGY{i p:Nat}{d:Option Tmp}{x y:AOpd}{l:List DStep}{hs:List Held}{a:AAct}{h:AHeap}{K:AAct->AHeap->Prop}{u v:Int}(hx:ev a x=some (.int .i64 u))(hy:ev a y=some (.int .i64 v))(k:Dr fns summ ro l hs (putA a d (.agg [.int .i64 u,.int .i64 v])) h K):
  Dr fns summ ro (⟨i,p,⟨d,none,.q (.build [.int .i64 0,.int .i64 0] [(0,1,x),(1,1,y)])⟩⟩::l) hs a h K:=by
 refine dr_q (v:=.agg [.int .i64 u,.int .i64 v]) ?_ k
 simp[qA,zCX,hx,hy,zAX]
theorem zMr{i p:Nat}{d:Option Tmp}{t:Tmp}{w:Bool}{op:AOp}{l:List DStep}{hs:List Held}{a:AAct}{h:AHeap}{K:AAct->AHeap->Prop}(hg:ev a (.tmp t)=some (.bool w))(k:Dr fns summ ro (⟨i,p,⟨d,none,op⟩⟩::l) hs a h K):Dr fns summ ro (⟨i,p,⟨d,some (t,w),op⟩⟩::l) hs a h K:=
 dr_g (s:=⟨i,p,⟨d,some (t,w),op⟩⟩) rfl hg (fun _=>k) (fun hc=>by rcases hc with hc|hc<;>(cases w<;>cases hc)) (.inl rfl)
theorem zMq{i p:Nat}{d:Option Tmp}{t:Tmp}{w:Bool}{op:AOp}{l:List DStep}{hs:List Held}{a:AAct}{h:AHeap}{K:AAct->AHeap->Prop}(hg:ev a (.tmp t)=some (.bool (!w)))(k:Dr fns summ ro l hs (putA a d (.tuple [])) h K):Dr fns summ ro (⟨i,p,⟨d,some (t,w),op⟩⟩::l) hs a h K:=
 dr_g (s:=⟨i,p,⟨d,some (t,w),op⟩⟩) rfl hg (fun hc=>by cases w<;>cases hc) (fun _=>k) (.inr (.inl rfl))
theorem zMs{i p:Nat}{d:Option Tmp}{t:Tmp}{w:Bool}{op:AOp}{l:List DStep}{hs:List Held}{a:AAct}{h:AHeap}{K:AAct->AHeap->Prop}(hg:ev a (.tmp t)=some (.tuple []))(k:Dr fns summ ro l hs (putA a d (.tuple [])) h K):Dr fns summ ro (⟨i,p,⟨d,some (t,w),op⟩⟩::l) hs a h K:=
 dr_g (s:=⟨i,p,⟨d,some (t,w),op⟩⟩) rfl hg (fun hc=>by cases hc) (fun _=>k) (.inr (.inr rfl))
theorem zR{p q:Prop}(k:q)(f:q->p:=by with_reducible first|apply zGm (by exact e1) (by exact e1)|apply st_q (by exact q1)|apply zAf|apply zAv|apply zBC|apply zAN|apply zHp|apply zGJ|apply zCg|apply zHQ|apply zFn|apply zHV|apply zKF|apply zKv|apply zKt|apply cd_ret|apply zIW|apply zNb|apply zGY (by exact e1) (by exact e1)|apply zMr (by exact e1)|apply zMq (by exact e1)|apply zMs (by exact e1)|apply dr_q (by exact q1)|apply zNi (by exact q1) (by exact og1)|apply zOo (by exact e1) (by exact e2)|apply zOp (by exact e1) (by exact e2)|apply zLX (by exact e1) (by exact q1)|apply zOq (by exact e1)|apply zOr (by exact e1)|apply zOl (by exact e1)|apply zOm (by exact e1)|apply zLW (by exact e1) (by exact g1) (by exact q2)|apply zOt (by exact e1) (by exact g1) (by exact e2) (by exact e3)|apply zOu (by exact e1) (by exact g1) (by exact e2) (by exact e3)|apply zLr (by exact e1)|apply zLq (by exact e1)|exact fun k=>zEi k rfl):p:=f k
theorem zG{p q:Prop}(k:q)(f:q->p:=by with_reducible first|apply zGm (by exact e1) (by exact e1)|apply st_q (by exact q1)|apply zAf|apply zAv|apply zBC|apply zAN|apply zHp|apply zGJ|apply zCg|apply zHQ|apply zFn|apply zHV|apply zKF|apply zKv|apply zKt|apply cd_ret|apply zIW|apply zNb|apply zGY (by exact e1) (by exact e1)|apply zMr (by exact e1)|apply zMq (by exact e1)|apply zMs (by exact e1)|apply dr_q (by exact q1)|apply zNi (by exact q1) (by exact og1)|apply zOo (by exact e1) (by exact e2)|apply zOp (by exact e1) (by exact e2)|apply zLX (by exact e1) (by exact q1)|apply zOq (by exact e1)|apply zOr (by exact e1)|apply zOl (by exact e1)|apply zOm (by exact e1)|apply zLW (by exact e1) (by exact g1) (by exact q2)|apply zOt (by exact e1) (by exact g1) (by exact e2) (by exact e3)|apply zOu (by exact e1) (by exact g1) (by exact e2) (by exact e3)|apply zLr (by exact e1)|apply zLq (by exact e1)|exact fun k=>zEi k rfl|apply zLF (by exact n1) (by exact r1)):p:=f k
theorem zBR{k c i n d:Nat}{inner:ACode}{N:Nat}{Q:AExit->AAct->AHeap->Prop}{a:AAct}{h:AHeap}(I:Nat->AAct->AHeap->Prop)
  (hb:∀j a h,j<N->I j a h->ev a (.tmp i)=some (.int .i64 (j:Nat))->ev a (.tmp n)=some (.int .i64 (N:Nat))->Cd fns summ ro inner a h (nxt (fun a h=>I (j+1) a h/\ev a (.tmp i)=some (.int .i64 (j:Nat))/\ev a (.tmp n)=some (.int .i64 (N:Nat))) (blk k Q)))
  (he:∀a h,I N a h->Q .normal a h) (hi:I 0 a h) (hN:N<2 ^ 62:=by omega) (hx:n≠c/\n≠d/\n≠i/\c≠i/\d≠i:=by decide)
  (stab:∀j a h t v,(t=c\/t=d\/t=i)->I j a h->I j (putA a (some t) v) h:=by(rintro j a h t v (rfl|rfl|rfl) k<;>simpa only[zAz,zDw,Nat.reduceEqDiff,if_false] using k))
  (h1:ev a (.tmp i)=some (.int .i64 0):=by exact e1) (h2:ev a (.tmp n)=some (.int .i64 (N:Nat)):=by exact e1):
  Cd fns summ ro (.block k (.loop (.seq (.ops [⟨some c,none,.q (.num .lss (.tmp i) (.tmp n))⟩]) (.seq (.cond (.tmp c) .skip (.exit k)) (.seq inner
   (.ops [⟨some d,none,.q (.num .add (.tmp i) (.val (.int .i64 1)))⟩,⟨some i,none,.q (.mov (.tmp d))⟩])))))) a h Q:=cd_count hN I stab hx hb he hi h1 h2
theorem lL:(∀l:List AVal,l.take 0=[])/\(∀l:List AVal,[]++l=l)/\(∀(x:AVal) (l:List AVal),(x::l).length=l.length+1)/\([]:List AVal).length=0/\(∀(x:AVal) (l:List AVal) (n:Nat),(x::l).drop (n+1)=l.drop n)/\(∀l:List AVal,l.drop 0=l)/\(∀l:List AVal,l++[]=l)/\(∀n:Nat,0+n=n)/\(∀n:Nat,([]:List AVal).drop n=[])/\(∀(x:AVal) (l r:List AVal),x::l++r=x::(l++r))/\(∀(x:AVal) (l:List AVal) (n:Nat),(x::l).take (n+1)=x::l.take n):=by simp
end
end Go.Ab
