import Derived.Test.YtffgndlognihcaaGreatDoorP02
import Derived.Deep.Upon
import Derived.Laws.MakeOwn
import Derived.Great.BuildSlice
import Derived.RangeFuncLeaves
import Derived.RecoverIn
import Derived.OrdersIn
/-
  Part 3 of the proof.
-/
set_option linter.all false
section
namespace Go.Ab
open Go.RowKit (Below)

section
variable{P:Program}{N:Nat}{w0:World}{G G':GM}{h h':AHeap}{w w':World}{a:AAct}{ag:Act}{M:Nat}

theorem Rel.move(hR:Rel P N w0 G h w){id ver:Nat}{o o':AObj}{ob':Obj}{gi:GI}(he:h.objs.get id=some (ver,o))(hro:o.ro=false)(hro':o'.ro=false)(hg:G id=some gi)
  (hw1:w'.heap[gi.blk]?=some ob') (hw2:∀b,b≠gi.blk->w'.heap[b]?=w.heap[b]?) (hw3:Below N w w') (ho:OR P G gi o' ob'):
  Rel P N w0 (addG G h.next gi) (newA (zCz h id) o') w'/\Ext G h w (addG G h.next gi) (newA (zCz h id) o') w':=by
 have hle:GLe G (addG G h.next gi):=zEM (hR.fresh _ (Nat.le_refl _))
 have hget:∀i,(newA (zCz h id) o').objs.get i=if i=h.next then some (h.next,o') else if i=id then none else h.objs.get i:=fun i=>by
  show ((h.objs.set id none).set h.next (some (h.next,o'))).get i=_
  rw[T.get_set,T.get_set]
 have hold:∀i x,i≠h.next->(newA (zCz h id) o').objs.get i=some x->h.objs.get i=some x/\i≠id:=fun i x hi e=>by
  rw[hget,if_neg hi] at e
  by_cases h1:i=id
  ·rw[if_pos h1] at e;cases e
  ·rw[if_neg h1] at e;exact⟨e,h1⟩
 have hother:∀i x g,i≠id->h.objs.get i=some x->G i=some g->g.blk≠gi.blk:=fun i x g hne hx hgi hb=>
  hne (hR.inj id i _ x gi g he hx hro hg hgi hb.symm).symm
 have hnew:∀x,(newA (zCz h id) o').objs.get h.next=some x->x=(h.next,o'):=fun x e=>by rw[hget,if_pos rfl] at e;cases e;rfl
 constructor
 ·constructor
  ·intro i v o2 e
   by_cases hi:i=h.next
   ·subst hi;cases hnew _ e
    exact⟨gi,zAU,ob',hw1,ho.mono hle⟩
   ·obtain⟨h1,h2⟩:=hold i _ hi e
    obtain⟨g,h3,ob2,h4,h5⟩:=hR.obj i v o2 h1
    exact⟨g,hle _ _ h3,ob2,by rw[hw2 _ (hother i _ g h2 h1 h3)];exact h4,h5.mono hle⟩
  ·intro i j x y g g' e e' hr hgi hgj hb
   by_cases hi:i=h.next
   ·by_cases hj:j=h.next
    ·rw[hi,hj]
    ·obtain⟨h1,h2⟩:=hold j _ hj e'
     rw[hi,zAU] at hgi;cases hgi
     rw[zBK hj] at hgj
     exact absurd hb.symm (hother j _ g' h2 h1 hgj)
   ·obtain⟨h1,h2⟩:=hold i _ hi e
    rw[zBK hi] at hgi
    by_cases hj:j=h.next
    ·rw[hj,zAU] at hgj;cases hgj
     exact absurd hb (hother i _ g h2 h1 hgi)
    ·obtain⟨h3,h4⟩:=hold j _ hj e'
     rw[zBK hj] at hgj
     exact hR.inj i j x y g g' h1 h3 hr hgi hgj hb
  ·intro i v o2 g e hgi hr
   by_cases hi:i=h.next
   ·rw[hi,zAU] at hgi;cases hgi
    exact hR.own id ver o gi he hg hro
   ·obtain⟨h1,h2⟩:=hold i _ hi e
    rw[zBK hi] at hgi
    exact hR.own i v o2 g h1 hgi hr
  ·intro i hi
   have:h.next+1<=i:=hi
   rw[zBK (by omega)]
   exact hR.fresh i (by omega)
  ·intro i v o2 e
   show v<h.next+1
   by_cases hi:i=h.next
   ·subst hi;cases hnew _ e;omega
   ·obtain⟨h1,h2⟩:=hold i _ hi e
    have:=hR.vers i v o2 h1;omega
  ·intro g hgl
   obtain⟨gi',h1,h2⟩:=hR.glob g hgl
   exact⟨gi',hle _ _ h1,h2⟩
  ·show _<=h.next+1;have:=hR.low;omega
  ·exact hR.below.trans hw3
  ·exact Nat.le_trans hR.size hw3.size
  ·intro i v o2 g e hgi hr
   by_cases hi:i=h.next
   ·subst hi;cases hnew _ e;rw[hro'] at hr;cases hr
   ·obtain⟨h1,h2⟩:=hold i _ hi e
    rw[zBK hi] at hgi
    exact hR.rolow i v o2 g h1 hgi hr
 ·constructor
  ·exact hle
  ·show h.next<=h.next+1;omega
  ·intro i v o2 e
   by_cases hi:i=h.next
   ·subst hi;cases hnew _ e;exact .inl (Nat.le_refl _)
   ·obtain⟨h1,h2⟩:=hold i _ hi e
    exact .inr ⟨h1,fun g hgi=>hw2 _ (hother i _ g h2 h1 hgi)⟩
  ·intro b _ hno
   exact hw2 b fun hb=>hno id _ gi he hro hg hb.symm
  ·intro i x g e hr hgi
   by_cases hi:i=h.next
   ·rw[hi,zAU] at hgi;cases hgi
    exact .inr ⟨id,_,gi,he,hro,hg,rfl⟩
   ·obtain⟨h1,h2⟩:=hold i _ hi e
    rw[zBK hi] at hgi
    exact .inr ⟨i,x,g,h1,hr,hgi,rfl⟩
  ·exact hw3.size

theorem zHy{α:Type}(xs:List α):∀(n i:Nat),i<n*xs.length->(rep xs n)[i]?=xs[i % xs.length]?
 |0,i,h=>by simp at h
 |n+1,i,h=>by
  simp only[rep,List.getElem?_append]
  split
  ·rename_i hi;rw[Nat.mod_eq_of_lt hi]
  ·rename_i hi
   rw[zHy xs n (i - xs.length) (by rw[Nat.add_mul] at h;omega)]
   rw[Nat.mod_eq_sub_mod (show i>=xs.length by omega)]
theorem zEH{α:Type}(xs:List α):∀n,(rep xs n).length=n*xs.length
 |0=>by simp[rep]
 |n+1=>by simp[rep,zEH xs n,Nat.add_mul];omega
theorem zLP(zs:Array Value)(n m:Nat)(hm:m=n*zs.size):((Array.range m).map (zs[· % zs.size]!)).toList=rep zs.toList n:=by
 subst hm
 apply List.ext_getElem?
 intro i
 rcases Nat.lt_or_ge i (n*zs.size) with h|h
 ·rw[zHy _ _ _ (by simpa using h)]
  have hz:0<zs.size:=by
   rcases Nat.eq_zero_or_pos zs.size with h0|h0
   ·rw[h0] at h;simp at h
   ·exact h0
  have hlt:=Nat.mod_lt i hz
  simp[h,hlt]
 ·rw[List.getElem?_eq_none (by simpa using h),List.getElem?_eq_none (by rw[zEH];simpa using h)]

theorem zKO(need:Nat):∀(r c:Nat),Builtin.growBy need r c<=max c (need+(need+768) / 4)
 |0,c=>by simp[Builtin.growBy];omega
 |r+1,c=>by
  simp only[Builtin.growBy]
  split
  ·omega
  ·have:=zKO need r (c+(c+768) / 4)
   omega
theorem zHn{need old:Nat}(h:old<need):Builtin.nextslicecap need old<=2*need+2000:=by
 unfold Builtin.nextslicecap
 split
 ·omega
 ·split
  ·omega
  ·have:=zKO need 4 old;omega

theorem zGh{bytes need:Nat}(e:zCU bytes need=true):1<=bytes/\(2*need+2000)*bytes<=70368744177664:=by
 simp only[zCU,Bool.and_eq_true] at e
 exact⟨Nat.le_of_ble_eq_true e.1,Nat.le_of_ble_eq_true e.2⟩
theorem zNJ{bytes need:Nat}(e:zCU bytes need=true):need<=35184372088832:=by
 obtain⟨h1,h2⟩:=zGh e
 have:=Nat.le_trans (Nat.mul_le_mul_left (2*need+2000) h1) h2
 omega

structure SrcR(P:Program)(G:GM)(tx:TypeId)(size n:Nat)(new:List AVal)(X:Value)(w:World):Prop where
 src:∃news,Src P size tx X n news w/\VsR P G new news

theorem zFK{d:TypeId}(e:zNE (P.underlying d)=true):(∃e',P.underlying d=some (.slice e'))\/P.underlying d=some .string:=by
 unfold zNE at e
 split at e
 ·rename_i t hh;exact .inl ⟨_,hh⟩
 ·rename_i hh;exact .inr hh
 ·cases e

theorem zDZ(a:Addr)(w:World):(loadCells a 0).run P w=.ok #[] w:=rfl

theorem src_zero{tx:TypeId}{size:Nat}{x:AVal}{X:Value}(hk:zNE (P.underlying tx)=true)(hx:VR P G x X)(hl:lenA x=some 0)(w:World):Src P size tx X 0 [] w:=by
 have hsl:∀(A:Option Addr) (c:Nat) (w:World),(Builtin.firstCells size 0 (.slice A 0 c)).run P w=.ok #[] w:=fun A c w=>by
  cases A with
  |none=>rfl
  |some a=>simp[Builtin.firstCells,zDZ]
 have mk:∀(A:Option Addr) (c:Nat),Src P size tx (.slice A 0 c) 0 [] w:=fun A c=>
  ⟨zFK hk,fun _=>rfl,hsl A c w,hsl A c w.drew,by simp,fun _ hh=>by cases hh⟩
 unfold lenA at hl
 split at hl
 ·rename_i p n
  simp only[oI] at hl;subst hl
  cases p with
  |none=>obtain⟨_,rfl⟩:=hx;exact mk none 0
  |some p=>obtain⟨g,c,_,rfl,_⟩:=hx;exact mk _ _
 ·obtain⟨A,rfl⟩:=hx;exact mk (some A) 0
 ·obtain⟨A,c,rfl⟩:=hx;exact mk (some A) c
 ·rename_i s
  obtain⟨b,rfl,rfl⟩:=hx
  have hz:b.size=0:=by simpa using hl
  have hc:∀w:World,(Builtin.firstCells size 0 (.string b)).run P w=.ok #[] w:=fun w=>by
   have:(b.extract 0 0).data= #[]:=by
    apply Array.ext'
    simp
   simp[Builtin.firstCells]
  exact⟨zFK hk,fun _=>by simp[Builtin.lenOf,hz],hc w,hc w.drew,by simp,fun _ hh=>by cases hh⟩
 ·cases hl

theorem src_some(hR:Rel P N w0 G h w){tx:TypeId}{size m:Nat}{x:AVal}{X:Value}{new:List AVal}(hk:zNE (P.underlying tx)=true)(hx:VR P G x X)(hl:lenA x=some m)(hc:zER h size m x=some new)(ho:new.all Ab.one=true):
  ∃news,Src P size tx X m news w/\VsR P G new news:=by
 unfold zER at hc
 split at hc
 ·rename_i b o n
  simp only[lenA,oI] at hl;subst hl
  obtain⟨g,c,hg,rfl,_⟩:=hx
  split at hc
  ·rename_i ver ro el vs hget
   split at hc
   ·rename_i hle
    simp only[oI] at hc;subst hc
    obtain⟨gi,hgi,ob,hob,cs,tc,fr,rfl,hfr,hfit,hel,hvl,hvs⟩:=hR.obj b ver _ hget
    have hg':G b=some g:=hg
    rw[hg'] at hgi;cases hgi
    have h1:=(hvs.drop o).take (n*size)
    rw[List.drop_take,List.take_take,Nat.min_eq_left (by omega),List.drop_drop] at h1
    have hcell:∀j u,((cs.toList.drop (g.off+o)).take (n*size))[j]?=some u->w.cell? ((⟨g.blk,g.off+o,none⟩:Addr).add j)=some u:=fun j u hu=>by
     rw[zCx,zCy hob]
     rw[List.getElem?_take] at hu
     split at hu
     ·rw[List.getElem?_drop] at hu;simpa using hu
     ·cases hu
    have hlen:((cs.toList.drop (g.off+o)).take (n*size)).length=n*size:=by simp;omega
    have hone:=h1.oneCells ho
    refine⟨_,⟨zFK hk,fun _=>rfl,run_firstCells_some w size n _ n c _ hlen hcell,run_firstCells_some w.drew size n _ n c _ hlen (by simpa using hcell),hlen,hone⟩,h1⟩
   ·cases hc
  ·cases hc
 ·rename_i s
  split at hc
  ·rename_i hs1;subst hs1
   simp only[oI] at hc;subst hc
   obtain⟨b,rfl,rfl⟩:=hx
   simp only[lenA,oI,List.length_map,Array.length_toList] at hl
   have hl':b.size=m:=hl
   subst hl'
   refine⟨byteCells b,⟨zFK hk,fun _=>rfl,firstCells_string b w,firstCells_string b w.drew,by rw[byteCells_length,Nat.mul_one],fun u hu=>by
    obtain⟨_,_,rfl⟩:=List.mem_map.1 hu
    rfl⟩,?_⟩
   have e1:((b.data.toList.map UInt8.toNat).take b.size)=b.data.toList.map UInt8.toNat:=by
    apply List.take_of_length_le;simp
   rw[e1,List.map_map]
   unfold byteCells
   exact VsR.map_mk (fun b:UInt8=>AVal.int .u8 (Int.ofNat b.toNat)) (fun b:UInt8=>Value.int .u8 b.toNat) (fun _=>rfl) _
  ·cases hc
 ·cases hc

theorem zFl(t tx ty e:TypeId)(i:TypeInfo)(ht:P.underlying t=some (.slice e))(hi:P.info? e=some i)(b sLen sCap:Nat)(x:Value)(n:Nat)(news:List Value)(hs:Src P i.size tx x n news w)
  (hroom:sLen+n<=sCap) {cur:Array Value} {el:TypeId} (hb:w.heap[b]?=some (.cells cur el (0,0))) (hc:sLen*i.size+news.length<=cur.size):
  (Builtin.append_ #[t,tx] ty #[.slice (some ⟨b,0,none⟩) sLen sCap,x]).run P w=.ok (.slice (some ⟨b,0,none⟩) (sLen+n) sCap) (w.setRow b (cur.toList.take (sLen*i.size)++news++cur.toList.drop (sLen*i.size+news.length)).toArray):=by
 have hst:=run_storeCells_at (P:=P) b (sLen*i.size) el news 0 cur w hb (by omega) hs.one
 simp only[Nat.add_zero] at hst
 rcases hs.kind with⟨e',hk⟩|hk<;>simp[Builtin.append_,run_underlying ht,run_underlying hk,sizeOf,typeInfo,hi,hs.len,hroom,hs.cells,Addr.add_lit,hst]

theorem zJu(hR:Rel P N w0 G h w){st xt ty e:TypeId}{i:TypeInfo}{z:Value}{s x v:AVal}{S X:Value}(ht:P.underlying st=some (.slice e))(hk:zNE (P.underlying xt)=true)(hi:P.info? e=some i)(hz:i.zero=some z)
  (hsz:z.cells.size=i.size) (hS:VR P G s S) (hX:VR P G x X) (he:zEh h e i.size i.bytes s x=some (v,h')):
  ∃G' w' cv,Rel P N w0 G' h' w'/\Ext G h w G' h' w'/\VR P G' v cv/\(Builtin.append_ #[st,xt] ty #[S,X]).run P w=.ok cv w':=by
 have hcell:P.cellsOf e=i.size:=by simp[Program.cellsOf,hi]
 unfold zEh at he
 split at he
 ·cases he
 ·rename_i hl0
  have hsrc:=src_zero (size:=i.size) hk hX hl0 w
  split at he
  ·rename_i base n
   simp only[oI,Prod.mk.injEq] at he
   obtain⟨rfl,rfl⟩:=he
   cases base with
   |none=>
    obtain⟨rfl,rfl⟩:=hS
    exact⟨G,w,_,hR,Ext.refl _ _ _,⟨rfl,rfl⟩,run_append_nothing w st xt ty e i ht hi none 0 0 (Nat.le_refl _) X hsrc⟩
   |some p=>
    obtain⟨g,c,hg,rfl,hnc,hcs⟩:=hS
    exact⟨G,w,_,hR,Ext.refl _ _ _,⟨g,c,hg,rfl,hnc,hcs⟩,run_append_nothing w st xt ty e i ht hi _ n c hnc X hsrc⟩
  ·simp only[oI,Prod.mk.injEq] at he
   obtain⟨rfl,rfl⟩:=he
   obtain⟨A,rfl⟩:=hS
   exact⟨G,w,_,hR,Ext.refl _ _ _,⟨A,rfl⟩,run_append_nothing w st xt ty e i ht hi (some A) 0 0 (Nat.le_refl _) X hsrc⟩
  ·cases he
 ·rename_i m hm0 hlm
  have hmpos:0<m:=Nat.pos_of_ne_zero fun hh=>hm0 hh
  split at he
  ·cases he
  ·rename_i new hnew
   split at he
   ·cases he
   ·rename_i hone
    obtain⟨news,hsrc,hnr⟩:=src_some hR hk hX hlm hnew hone
    have hnl:=hnr.length
    have hnl':=hsrc.newsLen
    have grow:∀(A:Option Addr) (sLen sCap:Nat) (olds:List Value) (oldA:List AVal) (h0:AHeap),sCap<sLen+m->zCU i.bytes (sLen+m)=true->VsR P G oldA olds->olds.length=sLen*i.size →
      (Builtin.firstCells i.size sLen (.slice A sLen sCap)).run P w.drew=.ok olds.toArray w.drew->Rel P N w0 G h0 w->Ext G h w G h0 w →
      ∃G' w' cv,Rel P N w0 G' (newA h0 (.cells false e (oldA++new))) w'/\Ext G h w G' (newA h0 (.cells false e (oldA++new))) w'/\VR P G' (.slice (some (h0.next,0)) (sLen+m)) cv/\(Builtin.append_ #[st,xt] ty #[.slice A sLen sCap,X]).run P w=.ok cv w':=by
     intro A sLen sCap olds oldA h0 hg hroom hold hol hrun hR0 hE0
     obtain⟨hb1,hb2⟩:=zGh hroom
     have hneed:=zNJ hroom
     have hcap:=zHn hg
     have hfit:Builtin.nextslicecap (sLen+m) sCap*i.bytes<=281474976710656:=by
      have:=Nat.le_trans (Nat.mul_le_mul_right i.bytes hcap) hb2
      omega
     have hap:=run_append_grow_src (P:=P) w st xt ty e i z ht hi hz A sLen sCap olds hrun X m news hsrc hg (by omega) hfit
     have hgc:sLen+m<=grownCap w (sLen+m) sCap e:=by
      exact Nat.le_add_right _ _
     generalize hgg:grownCap w (sLen+m) sCap e=gc at hap hgc
     have hall:VsR P G (oldA++new) (olds++news):=hold.append hnr
     have hlen:=hall.length
     have hcsz:((olds++news).toArray++Builtin.zeroCells z.cells (gc - (sLen+m))).size=gc*i.size:=by
      rw[Array.size_append,size_zeroCells,hsz]
      simp only[List.size_toArray,List.length_append,hol,hnl',<-Nat.add_mul]
      congr 1;omega
     have hvs:VsR P G (oldA++new) (((olds++news).toArray++Builtin.zeroCells z.cells (gc - (sLen+m))).toList.take (oldA++new).length):=by
      rw[Array.toList_append,List.take_append_of_le_length (by rw[<-hlen];exact Nat.le_refl _),<-hlen,List.take_length]
      exact hall
     obtain⟨h3,h4⟩:=zFc hR0.drew e hvs (by
      rw[<-hlen,Array.size_append];simp)
     refine⟨_,_,_,h3,(hE0.drew).trans h4,⟨_,gc,zAU,rfl,hgc,?_⟩,hap⟩
     show 0+gc*P.cellsOf e<=Array.size _
     rw[hcell,hcsz,Nat.zero_add];exact Nat.le_refl _
    split at he
    ·rename_i n
     split at he
     ·rename_i hroom
      simp only[oI,Prod.mk.injEq] at he
      obtain⟨rfl,rfl⟩:=he
      obtain⟨rfl,rfl⟩:=hS
      have:=grow none 0 0 [] [] h (by omega) (by simpa using hroom) rfl (by simp) rfl hR (Ext.refl _ _ _)
      simpa using this
     ·cases he
    ·split at he
     ·rename_i hroom
      simp only[oI,Prod.mk.injEq] at he
      obtain⟨rfl,rfl⟩:=he
      obtain⟨A,rfl⟩:=hS
      have:=grow (some A) 0 0 [] [] h (by omega) (by simpa using hroom) rfl (by simp) (by
       simp[Builtin.firstCells,zDZ]) hR (Ext.refl _ _ _)
      simpa using this
     ·cases he
    ·rename_i b n
     obtain⟨g,c,hg,rfl,hnc,hcs⟩:=hS
     split at he
     ·rename_i ver el vs hget
      split at he
      ·rename_i hcond
       obtain⟨rfl,hnv,hroom⟩:=hcond
       simp only[oI,Prod.mk.injEq] at he
       obtain⟨rfl,rfl⟩:=he
       obtain⟨gi,hgi,ob,hob,cur,tc,fr,rfl,hfr,hfit,hel,hvl,hvs⟩:=hR.obj b ver _ hget
       have hg':G b=some g:=hg
       rw[hg'] at hgi;cases hgi
       obtain⟨hcz,hoff,htc,hfr'⟩:=hfr rfl
       rw[htc,hfr'] at hob
       rw[hoff,zlZ] at hvs
       rw[<-hcz] at hvl
       rw[hoff,Nat.zero_add]
       have hN:N<=g.blk:=hR.own b ver _ g hget hg' rfl
       have hold:=hvs.take (n*i.size)
       rw[List.take_take,Nat.min_eq_left hnv] at hold
       have hol:(cur.toList.take (n*i.size)).length=n*i.size:=by simp;omega
       rw[hel,hcell] at hcs
       by_cases hrm:n+m<=c
       ·have hfits:n*i.size+news.length<=cur.size:=by
         rw[hnl',<-Nat.add_mul]
         have:=Nat.mul_le_mul_right i.size hrm
         omega
        have hap:=zFl (P:=P) st xt ty el i ht hi g.blk n c X m news hsrc hrm hob hfits
        have hlen:(vs.take (n*i.size)++new).length=n*i.size+news.length:=by
         rw[List.length_append,<-hnl,List.length_take,Nat.min_eq_left hnv]
        obtain⟨h3,h4⟩:=hR.move (w':=w.setRow g.blk (cur.toList.take (n*i.size)++news++cur.toList.drop (n*i.size+news.length)).toArray) (o':=.cells false el (vs.take (n*i.size)++new))
         (ob':=.cells (cur.toList.take (n*i.size)++news++cur.toList.drop (n*i.size+news.length)).toArray el (0,0)) hget rfl rfl hg'
         (setRow_heap w g.blk cur _ el (0,0) hob) (fun k hk=>zEz g.blk k _ hk) (zGu g.blk _ hN)
         ⟨_,_,(0,0),rfl,fun _=>⟨by simp;omega,hoff,rfl,rfl⟩,by simp;omega,hel,by rw[hlen];omega,by
          rw[hlen,hoff,zlZ]
          have h5:=hold.append hnr
          have h6:(cur.toList.take (n*i.size)++news++cur.toList.drop (n*i.size+news.length)).take (n*i.size+news.length)=cur.toList.take (n*i.size)++news:=by
           apply List.take_left'
           rw[List.length_append,hol]
          rw[h6];exact h5⟩
        refine⟨_,_,_,h3,h4,⟨g,c,zAU,by simp[hoff],hrm,?_⟩,hap⟩
        show 0+c*P.cellsOf g.elem<=_
        rw[hel,hcell];omega
       ·obtain⟨hR0,hE0⟩:=hR.drop b
        have hfc:(Builtin.firstCells i.size n (.slice (some ⟨g.blk,0,none⟩) n c)).run P w.drew=.ok (cur.toList.take (n*i.size)).toArray w.drew:=
         run_firstCells_some w.drew i.size n _ n c _ hol (fun j u hu=>by
          rw[zCx,zCy (w:=w.drew) hob]
          rw[List.getElem?_take] at hu
          split at hu
          ·simpa using hu
          ·cases hu)
        exact grow (some ⟨g.blk,0,none⟩) n c _ _ (zCz h b) (by omega) hroom hold hol hfc hR0 hE0
      ·cases he
     ·cases he
    ·cases he
end
end Go.Ab
end
section
namespace Go.Ab
open Go.RowKit (Below)

section
variable{P:Program}{N:Nat}{w0:World}{G G':GM}{h h':AHeap}{w w':World}{a:AAct}{ag:Act}{M:Nat}

theorem zDF{t e:TypeId}(hc:zNY P t=some e):P.underlying t=some (.slice e):=by
 unfold zNY at hc
 split at hc
 ·rename_i e' hu;simp only[oI] at hc;subst hc;exact hu
 ·cases hc

theorem zGU{t:TypeId}{z:AVal}(e:zGT P t=some z):∃i Z,P.info? t=some i/\i.zero=some Z/\VR P G z Z:=by
 unfold zGT at e
 split at e
 ·rename_i i hi
  split at e
  ·rename_i Z hz;exact⟨i,Z,hi,hz,zHq e⟩
  ·cases e
 ·cases e

theorem zJZ(hR:Rel P N w0 G h w){t e:TypeId}{i:TypeInfo}{z:AVal}{L C:Value}{l c:Nat}{kl kc:IntKind}{op:Op}{Q:AVal×AHeap->Prop}(ht:P.underlying t=some (.slice e))(hi:P.info? e=some i)(hz:zGT P e=some z)
  (hsz:(zAX z).length=i.size) (hL:L=.int kl (l:Int)) (hC:C=.int kc (c:Int)) (hlc:l<=c) (hc40:c<=2 ^ 40) (hroom:zCU i.bytes c=true)
  (hq:Q (.slice (some (h.next,0)) l,newA h (.cells false e (rep (zAX z) c))))
  (hop:∀o:Oper,o.op=op->execOp ag.eval o=(do pure (Next.value (<-Instr.makeSlice t L C)))):EY P N w0 G h w ag op Q:=by
 obtain⟨i',Z,hi',hZ,hzr⟩:=zGU (G:=G) hz
 rw[hi] at hi';cases hi'
 obtain⟨hb1,hb2⟩:=zGh hroom
 have hZc:=hzr.cells
 have hZl:Z.cells.size=i.size:=by have:=hZc.length;simp at this;omega
 have hcell:P.cellsOf e=i.size:=by simp[Program.cellsOf,hi]
 have hcb:i.bytes*c<=70368744177664:=by
  refine Nat.le_trans ?_ hb2
  rw[Nat.mul_comm]
  exact Nat.mul_le_mul_right _ (by omega)
 have hv:VsR P G (rep (zAX z) c) (rep Z.cells.toList c):=VsR.rep c hZc
 have hrow:∃A:Array Value,A.toList=rep Z.cells.toList c/\(Instr.makeSlice t L C).run P w=.ok (.slice (some ⟨w.heap.size,0,none⟩) l c) (w.alloc (.cells A e)):=by
  have hm:=run_make (P:=P) w t e i Z ht hi hZ kl kc (l:Int) (c:Int) (by omega) (by omega) (by
   have:((i.bytes*c:Nat):Int)<=((70368744177664:Nat):Int):=Int.ofNat_le.2 hcb
   rw[Int.natCast_mul] at this
   omega) (by omega)
  refine⟨madeCells Z.cells (c*i.size),zLP _ _ _ (by rw[hZl]),?_⟩
  subst hL;subst hC
  simpa using hm
 obtain⟨A,hA,hrun⟩:=hrow
 have hA':VsR P G (rep (zAX z) c) A.toList:=by rw[hA];exact hv
 obtain⟨h5,h6⟩:=hA'.whole
 exact e_row hR h5 (Nat.le_of_eq h6) hlc (by rw[<-h6,zEH,hsz,hcell];exact Nat.le_refl _) hq hrun hop

theorem zGj(hl:∀g,g<P.globals.size->∃gi,G g=some gi/\gi.blk=g/\gi.off=0)(ha:ActR P G M a ag){size:Nat}:
  ∀{ps:List (Nat×Operand)} {ps':List (Nat×AOpd)} {cells cs:List AVal} {L:Array Value},
  mapO (fun p=>match cOpd P p.2 with |some x=>some (p.1,x)|none=>none) ps=some ps'->rowA a size cells ps'=some cs->VsR P G cells L.toList →
  ∃L':Array Value,Instr.fill (fun i=>some (i*size,size)) L (ps.map fun p=>(p.1,ag.eval p.2))=some L'/\VsR P G cs L'.toList
 |[],ps',cells,cs,L,hm,hf,hv=>by
  simp only[mapO,oI] at hm;subst hm
  simp only[rowA,oI] at hf;subst hf
  exact⟨L,rfl,hv⟩
 |p::ps,ps',cells,cs,L,hm,hf,hv=>by
  obtain⟨y,zs,h1,h2,rfl⟩:=zBT hm
  split at h1
  ·rename_i x hx
   simp only[oI] at h1;subst h1
   simp only[rowA] at hf
   split at hf
   ·cases hf
   ·rename_i v hv1
    split at hf
    ·rename_i hlen
     have hval:=zBP hl ha hx hv1
     have hc:=hval.cells
     have hcl:(ag.eval p.2).cells.size=size:=by have:=hc.length;simp at this;omega
     have hLl:L.size=cells.length:=by have:=hv.length;simpa using this
     have hstep:VsR P G (cells.take (p.1*size)++zAX v++cells.drop (p.1*size+size)) ((ag.eval p.2).cells.zipIdx.foldl (fun cs (q:Value×Nat)=>cs.setIfInBounds (p.1*size+q.2) q.1) L).toList:=by
      rw[<-Array.foldl_toList,Array.toList_zipIdx,zHe _ _ _ _ (by simp;omega)]
      have e1:(ag.eval p.2).cells.toList.length=size:=by simpa using hcl
      rw[e1]
      simpa using((hv.take (p.1*size)).append hc).append (hv.drop (p.1*size+size))
     obtain⟨L',h3,h4⟩:=zGj hl ha h2 hf hstep
     refine⟨L',?_,h4⟩
     simp only[List.map_cons,Instr.fill]
     rw[if_neg (by simp;omega)]
     exact h3
    ·cases hf
  ·cases h1

theorem zJj{a:AAct}{size:Nat}:∀{ps:List (Nat×AOpd)} {cells cs:List AVal},rowA a size cells ps=some cs->cs.length=cells.length
 |[],cells,cs,e=>by simp only[rowA,oI] at e;rw[e]
 |(j,x)::ps,cells,cs,e=>by
  simp only[rowA] at e
  split at e
  ·cases e
  ·split at e
   ·rename_i hh
    have:=zJj e
    rw[this];simp;omega
   ·cases e

theorem zJx(hR:Rel P N w0 G h w)(ha:ActR P G M a ag){t e:TypeId}{z:AVal}{n s:Nat}{ps:Array (Nat×Operand)}{ps':List (Nat×AOpd)}{cs:List AVal}{op:Op}{Q:AVal×AHeap->Prop}(ht:P.underlying t=some (.slice e))(hs:zFP P e=some s)(hz:zGT P e=some z)
  (hsz:(zAX z).length=s) (hn0:n*s≠0) (hns:n*s<=2 ^ 20) (hp:cRow P ps=some ps') (hf:rowA a s (rep (zAX z) n) ps'=some cs)
  (hq:Q (.slice (some (h.next,0)) n,newA h (.cells false e cs)))
  (hop:∀o:Oper,o.op=op->execOp ag.eval o=(do pure (Next.value (<-Instr.buildSlice t n (ps.map fun (i,x)=>(i,ag.eval x)))))):EY P N w0 G h w ag op Q:=by
 obtain⟨i,Z,hi,hZ,hzr⟩:=zGU (G:=G) hz
 have hZc:=hzr.cells
 have hZl:Z.cells.size=s:=by have:=hZc.length;simp at this;omega
 have hA:((Array.range (n*s)).map (Z.cells[· % Z.cells.size]!)).toList=rep Z.cells.toList n:=zLP _ _ _ (by rw[hZl])
 obtain⟨L',h1,h2⟩:=zGj hR.glob ha hp hf (L:=(Array.range (n*s)).map (Z.cells[· % Z.cells.size]!)) (by rw[hA];exact VsR.rep n hZc)
 have hzv:∀w,(zeroValue e).run P w=.ok Z w:=fun w=>by simp[zeroValue,typeInfo,hi,hZ]
 have hbig:¬(n*s>2 ^ 24):=by omega
 have his:i.size=s:=by
  obtain⟨i',h3,h4⟩:=zDG hs
  rw[hi] at h3;cases h3;exact h4
 have hrun:=Go.run_buildSlice (P:=P) w t e n (ps.map fun (i,x)=>(i,ag.eval x)) L' i Z ht hi hZ (by rw[his];exact hbig) (by rw[his];exact hn0) (by
  rw[his,Array.toList_map];exact h1)
 obtain⟨h5,h6⟩:=h2.whole
 have hcl:cs.length=n*s:=by
  have h7:L'.size=n*s:=by
   have:=zJj hf
   rw[zEH,hsz] at this
   omega
  omega
 exact e_row hR h5 (Nat.le_of_eq h6) (Nat.le_refl n) (by rw[<-h6,hcl,zFq hs];exact Nat.le_refl _) hq hrun hop
end
end Go.Ab
end
section
namespace Go.Ab
open Go.RowKit (Below)

section
variable{P:Program}{N:Nat}{w0:World}{G G':GM}{h h':AHeap}{w w':World}{a:AAct}{ag:Act}{M:Nat}

theorem Rel.extra(hR:Rel P N w0 G h w)(hw:∀b,b<w.heap.size->w'.heap[b]?=w.heap[b]?)(hb:Below N w w'):Rel P N w0 G h w'/\Ext G h w G h w':=
  ⟨⟨fun id ver o e=>by
      obtain⟨gi,h1,ob,h2,h3⟩:=hR.obj id ver o e
      exact⟨gi,h1,ob,by rw[hw _ (zAt h2)];exact h2,h3⟩,hR.inj,hR.own,hR.fresh,hR.vers,hR.glob,hR.low,hR.below.trans hb,Nat.le_trans hR.size hb.size,hR.rolow⟩,
   ⟨GLe.refl G,Nat.le_refl _,fun id ver o e=>.inr ⟨e,fun gi hg=>by
      obtain⟨gi',h1,ob,h2,h3⟩:=hR.obj id ver o e
      rw[hg] at h1;cases h1
      exact hw _ (zAt h2)⟩,fun b hb' _=>hw b hb',fun id x gi a b c=>.inr ⟨id,x,gi,a,b,c,rfl⟩,hb.size⟩⟩

theorem zEY(e:TypeId)(v:Value)(w:World):(newVar e v).run P w=.ok ⟨w.heap.size,0,none⟩ (w.alloc (.cells v.cells e)):=rfl

theorem zLC{c:Call}{s x:Operand}{st xt:TypeId}(hc:c.callee=.builtin .append)(ha':c.args.toList=[s,x])(ht:c.argTypes.toList=[st,xt])(o:Oper)(ho:o.op=.call c):
  execOp ag.eval o=(do pure (Next.value (<-Builtin.append_ #[st,xt] o.type #[ag.eval s,ag.eval x]))):=by
 have h1:c.args= #[s,x]:=by apply Array.ext';simpa using ha'
 have h2:c.argTypes= #[st,xt]:=by apply Array.ext';simpa using ht
 unfold execOp
 rw[ho]
 simp[resolve,hc,h1,h2,invoke,builtin]

theorem zLe(hR:Rel P N w0 G h w)(ha:ActR P G M a ag){op:Op}{e:EOp}{Q:AVal×AHeap->Prop}(hq:cE P op=some e)(hs:(zBO a h e).sat Q):EY P N w0 G h w ag op Q:=by
 have ev1:∀{x:Operand} {x':AOpd} {v:AVal},cOpd P x=some x'->ev a x'=some v->VR P G v (ag.eval x):=fun h1 h2=>zBP hR.glob ha h1 h2
 cases op with
 |alloc t=>
  simp only[cE] at hq
  split at hq
  ·rename_i z hz
   simp only[oI] at hq;subst hq
   obtain⟨Z,hZ,hzr⟩:=zEO (P:=P) (G:=G) hz
   exact e_var hR hZ.cells hs (s:=Instr.alloc t true (.tuple #[])) (by simp[Instr.alloc,hzr,zEY]) (fun o ho=>by unfold execOp;rw[ho])
  ·cases hq
 |box t x=>
  simp only[cE] at hq
  split at hq
  ·rename_i x' hx
   simp only[oI] at hq;subst hq
   simp only[zBO] at hs
   split at hs
   ·rename_i v hv
    exact e_var hR (ev1 hx hv).cells hs (s:=Instr.box t (ag.eval x)) (by simp[Instr.box,zEY]) (fun o ho=>by unfold execOp;rw[ho])
   ·cases hs
  ·cases hq
 |buildSlice t n ps=>
  simp only[cE] at hq
  split at hq
  ·cases hq
  ·rename_i e' he
   split at hq
   ·cases hq
   ·rename_i s hsz
    split at hq
    ·rename_i hn0 hps
     split at hq
     ·rename_i hn
      subst hn
      simp only[oI] at hq;subst hq
      have hu:=zDF he
      obtain⟨i,hi,his⟩:=zDG hsz
      have hp0:ps= #[]:=by apply Array.ext';simpa using hps
      subst hp0
      obtain⟨h1,h2⟩:=hR.extra (w':=w.alloc (.cells #[] e')) (fun b hb=>zBf hb) ((Below.refl N w).alloc hR.size _)
      exact EY.val hs h1 h2 (s:=Instr.buildSlice t 0 (Array.map (fun (i,x)=>(i,ag.eval x)) #[])) (cv:=.slice (some ⟨w.heap.size,0,none⟩) 0 0) ⟨_,rfl⟩ (by
       have hz:(Array.map (fun _=>(default:Value)) (Array.range 0))= #[]:=by apply Array.ext';simp
       simp[Instr.buildSlice,run_underlying hu,zAp hsz,Instr.fill,zIu,hz]) (fun o ho=>by unfold execOp;rw[ho])
     ·cases hq
    ·cases hq
    ·rename_i hn0 hn1
     split at hq
     ·rename_i z ps' hz hps
      split at hq
      ·rename_i hc
       simp only[oI] at hq;subst hq
       simp only[zBO] at hs
       split at hs
       ·rename_i cs hcs
        exact zJx hR ha (zDF he) hsz hz hc.2 hn0 hc.1 hps hcs hs (fun o ho=>by unfold execOp;rw[ho])
       ·cases hs
      ·cases hq
     ·cases hq
 |makeMap t r=>
  simp only[cE] at hq
  split at hq
  ·rename_i k v r' hu hr
   simp only[oI] at hq;subst hq
   cases r with
   |none=>
    simp only[cOpt,oI] at hr;subst hr
    obtain⟨h1,h2⟩:=hR.alloc (o:=.map [] 0) (ob:=.map #[] 0) (gi:=⟨w.heap.size,0,0,0⟩) rfl rfl ⟨#[],rfl,rfl⟩
    exact EY.val hs h1 h2 (s:=Instr.makeMap t none) ⟨_,zAU,rfl⟩ (by simp[Instr.makeMap]) (fun o ho=>by unfold execOp;rw[ho];rfl)
   |some x=>
    simp only[cOpt] at hr
    split at hr
    ·rename_i x' hx
     simp only[oI] at hr;subst hr
     simp only[zBO] at hs
     split at hs
     ·rename_i q q' hv
      have hv':ag.eval x=.int q q':=ev1 hx hv
      obtain⟨h1,h2⟩:=hR.alloc (o:=.map [] 0) (ob:=.map #[] 0) (gi:=⟨w.heap.size,0,0,0⟩) rfl rfl ⟨#[],rfl,rfl⟩
      exact EY.val hs h1 h2 (s:=Instr.makeMap t (some (ag.eval x))) ⟨_,zAU,rfl⟩ (by simp[Instr.makeMap,run_underlying hu,asInt,asIntOf,hv']) (fun o ho=>by unfold execOp;rw[ho];rfl)
     ·cases hs
    ·cases hr
  ·cases hq
 |makeSlice t l c=>
  simp only[cE] at hq
  split at hq
  ·rename_i e' l' c' he hl hc
   split at hq
   ·rename_i i z hi hz
    split at hq
    ·rename_i hsz
     simp only[oI] at hq;subst hq
     simp only[zBO] at hs
     split at hs
     ·rename_i lv cv hlv hcv
      split at hs
      ·rename_i ln cn hln hcn
       split at hs
       ·rename_i hcond
        obtain⟨kl,hL⟩:=zCf hln (ev1 hl hlv)
        obtain⟨kc,hC⟩:=zCf hcn (ev1 hc hcv)
        exact zJZ hR (zDF he) hi hz hsz hL hC hcond.1 hcond.2.1 hcond.2.2 hs (fun o ho=>by unfold execOp;rw[ho])
       ·cases hs
      ·cases hs
     ·cases hs
    ·cases hq
   ·cases hq
  ·cases hq
 |store t x v=>
  simp only[cE] at hq
  split at hq
  ·rename_i n x' v' hn hx hv
   simp only[oI] at hq;subst hq
   simp only[zBO] at hs
   split at hs
   ·rename_i b o u hxv hvv
    split at hs
    ·rename_i hl
     split at hs
     ·rename_i h' hst
      obtain⟨w',h1,h2,h3⟩:=zLY hR hn (ev1 hx hxv) (ev1 hv hvv) hl hst
      exact EY.unit hs h1 h2 h3 (fun o ho=>by unfold execOp;rw[ho])
     ·cases hs
    ·cases hs
   ·cases hs
  ·cases hq
 |mapUpdate t m k v=>
  simp only[cE] at hq
  split at hq
  ·rename_i kk z m' k' v' hm hmo hko hvo
   simp only[oI] at hq;subst hq
   simp only[zBO] at hs
   split at hs
   ·rename_i mv kv vv h1 h2 h3
    split at hs
    ·rename_i hk
     split at hs
     ·rename_i h' hup
      obtain⟨w',h4,h5,h6⟩:=zGx hR hm hk hup (ev1 hmo h1) (ev1 hko h2) (ev1 hvo h3)
      exact EY.unit hs h4 h5 h6 (fun o ho=>by unfold execOp;rw[ho])
     ·cases hs
    ·cases hs
   ·cases hs
  ·cases hq
 |insert t m k v=>
  simp only[cE] at hq
  split at hq
  ·rename_i kk z m' k' v' hm hmo hko hvo
   simp only[oI] at hq;subst hq
   simp only[zBO] at hs
   split at hs
   ·rename_i mv kv vv h1 h2 h3
    split at hs
    ·rename_i hk
     split at hs
     ·rename_i h' hup
      obtain⟨w',h4,h5,h6⟩:=zGx hR hm hk hup (ev1 hmo h1) (ev1 hko h2) (ev1 hvo h3)
      exact EY.unit hs h4 h5 h6 (fun o ho=>by unfold execOp;rw[ho])
     ·cases hs
    ·cases hs
   ·cases hs
  ·cases hq
 |lookup t m k ok=>
  simp only[cE] at hq
  split at hq
  ·rename_i z m' k' hm hmo hko
   simp only[oI] at hq;subst hq
   simp only[zBO] at hs
   split at hs
   ·rename_i mv kv h1 h2
    split at hs
    ·rename_i hk
     split at hs
     ·rename_i v id hlk
      obtain⟨cv,h3,h4⟩:=zHl hR hm hlk (ev1 hmo h1) (ev1 hko h2) (· =w) (zIi hR hk)
      exact EY.val hs hR (Ext.refl _ _ _) h3 (h4 w (fun _ _ _ _=>rfl) rfl) (fun o ho=>by unfold execOp;rw[ho])
     ·cases hs
    ·cases hs
   ·cases hs
  ·cases hq
 |range t x=>
  simp only[cE] at hq
  split at hq
  ·rename_i k v x' hu hx
   simp only[oI] at hq;subst hq
   simp only[zBO] at hs
   split at hs
   ·rename_i r hv
    split at hs
    ·rename_i ver es clock hget
     obtain⟨G',w',cv,h1,h2,h3,h4⟩:=zLO hR hu (ev1 hx hv) hget
     exact EY.val hs h1 h2 h3 h4 (fun o ho=>by unfold execOp;rw[ho])
    ·cases hs
   ·rename_i hv
    obtain⟨G',w',cv,h1,h2,h3,h4⟩:=zKe hR hu (ev1 hx hv)
    exact EY.val hs h1 h2 h3 h4 (fun o ho=>by unfold execOp;rw[ho])
   ·cases hs
  ·cases hq
 |next x isS=>
  cases isS with
  |true=>simp[cE] at hq
  |false=>
   simp only[cE] at hq
   split at hq
   ·rename_i x' hx
    simp only[oI] at hq;subst hq
    simp only[zBO] at hs
    split at hs
    ·rename_i b hv
     split at hs
     ·rename_i ver r since seen last hget
      split at hs
      ·rename_i ver' es clock hget'
       split at hs
       ·rename_i hc
        have hn:∀t,∃v h' w' cv,Q (v,h')/\Rel P N w0 G h' w'/\Ext G h w G h' w'/\VR P G v cv/\(Instr.next (ag.eval x) false t).run P w=.ok cv w':=fun t=>
         zNC hR (ev1 hx hv) hget hget' hc.1 hc.2.1 hc.2.2 hs
        obtain⟨v,h',w',cv,h1,h2,h3,h4,h5⟩:=hn 0
        exact EY.val h1 h2 h3 h4 h5 (fun o ho=>by unfold execOp;rw[ho];rfl)
       ·cases hs
      ·cases hs
     ·rename_i ver hget
      have hn:∀t,∃cv,VR P G (.tuple [.bool false]) cv/\(Instr.next (ag.eval x) false t).run P w=.ok cv w:=fun t=>zLI hR (ev1 hx hv) hget
      obtain⟨cv,h4,h5⟩:=hn 0
      exact EY.val hs hR (Ext.refl _ _ _) h4 h5 (fun o ho=>by unfold execOp;rw[ho];rfl)
     ·cases hs
    ·cases hs
   ·cases hq
 |entry x=>
  simp only[cE] at hq
  split at hq
  ·rename_i x' hx
   simp only[oI] at hq;subst hq
   simp only[zBO] at hs
   split at hs
   ·rename_i b hv
    split at hs
    ·rename_i ver r since seen last hget
     split at hs
     ·rename_i ver' es clock stamp hget' hst
      split at hs
      ·rename_i hc
       split at hs
       ·rename_i k v bb hf
        obtain⟨cv,h1,h2⟩:=zLB hR (ev1 hx hv) hget hget' hst hc hf
        exact EY.val hs hR (Ext.refl _ _ _) h1 h2 (fun o ho=>by unfold execOp;rw[ho])
       ·cases hs
      ·cases hs
     ·cases hs
    ·cases hs
   ·cases hs
  ·cases hq
 |call c=>
  simp only[cE] at hq
  split at hq
  ·rename_i hcal
   split at hq
   ·rename_i s x st xt hargs htys
    split at hq
    ·rename_i e' s' x' he hok hso hxo
     split at hq
     ·rename_i i hi
      split at hq
      ·cases hq
      ·rename_i z hz hi0
       split at hq
       ·rename_i hzs
        simp only[oI] at hq;subst hq
        simp only[zBO] at hs
        split at hs
        ·rename_i sv xv h1 h2
         split at hs
         ·rename_i r hap
          obtain⟨v,h'⟩:=r
          obtain⟨G',w',cv,h3,h4,h5,h6⟩:=zJu (ty:=0) hR (zDF he) hok hi hz hzs (ev1 hso h1) (ev1 hxo h2) hap
          exact EY.val hs h3 h4 h5 h6 (fun o ho=>zLC hcal hargs htys o ho)
         ·cases hs
        ·cases hs
       ·cases hq
      ·cases hq
     ·cases hq
    ·cases hq
   ·cases hq
  ·split at hq
   ·simp only[oI] at hq;subst hq;cases hs
   ·cases hq
  ·cases hq
 |defer c=>
  simp only[cE] at hq
  split at hq
  ·split at hq
   ·simp only[oI] at hq;subst hq;cases hs
   ·cases hq
  ·cases hq
 |_=>cases hq
end
end Go.Ab
end
section
namespace Go.Ab
open Go.RowKit (Below)

def FR(rv:Option Nat):Fence:={Fence.wide with round:=rv}
theorem FR_depth{rv:Option Nat}{n:Nat}:(FR rv).depth.isSome=true->1<=n:=fun h=>by cases h
theorem FR_calls{rv rv':Option Nat}{n:Nat}{P:Program}{f:FuncId}{args:Array Value}{w:World}{R:Ending->World->Prop}(h:CallsIn (FR rv) n P f args w R):CallsIn (FR rv') n P f args w R:=h
def Enters(P:Program)(f:FuncId):Prop:=∃fn c,P.funcs[f]?=some fn/\(fn.name== "runtime.NumGoroutine")=false/\fn.body=some c

def roR(G:GM):Option Nat->Option Nat->Prop
 |none,rv=>rv=none
 |some l,rv=>∃g,G l=some g/\rv=some g.blk
theorem roR.mono{G G':GM}(hg:GLe G G'):∀{ro rv:Option Nat},roR G ro rv->roR G' ro rv
 |none,_,h=>h
 |some _,_,⟨g,h1,h2⟩=>⟨g,hg _ _ h1,h2⟩

def ExR:AExit->Exit->Prop
 | .normal,e=>e=.normal
 | .ret,e=>e=.ret
 | .exit id,e=>e=.exit id

section
variable(P:Program)(N:Nat)(w0:World)

def Post(G:GM)(h:AHeap)(w:World)(M:Nat)(Q:AExit×AAct×AHeap->Prop):Exit->Act->World->Prop:=
 fun e ag' w'=>∃ae a' h' G',Q (ae,a',h')/\ExR ae e/\Rel P N w0 G' h' w'/\Ext G h w G' h' w'/\ActR P G' M a' ag'
def PostC(G:GM)(h:AHeap)(w:World)(Q:AVal×AHeap->Prop):Ending->World->Prop:=
 fun e w'=>∃v h' G' cv,e=.returned cv/\Q (v,h')/\Rel P N w0 G' h' w'/\Ext G h w G' h' w'/\VR P G' v cv
def PostA(G:GM)(h:AHeap)(w:World)(M:Nat)(Q:AAct×AHeap->Prop):Act->World->Prop:=
 fun ag' w'=>∃a' h' G',Q (a',h')/\Rel P N w0 G' h' w'/\Ext G h w G' h' w'/\ActR P G' M a' ag'

structure SelfOK(S:Self):Prop where
 enters:∀f args h Q,(S.call f args h).sat Q->Enters P f
 call:∀f args h G w (argsV:Array Value) Q,Rel P N w0 G h w->VsR P G args argsV.toList->(S.call f args h).sat Q->CallsIn (FR none) 0 P f argsV w (PostC P N w0 G h w Q)
 code:∀ro rv c C M a ag h G w Q,roR G ro rv->zCC P M C=some c->ActR P G M a ag->Rel P N w0 G h w->(S.code ro c a h).sat Q->C.wpIn (FR rv) 0 P (Post P N w0 G h w M Q) ag w
end

section
variable{P:Program}{N:Nat}{w0:World}{G G':GM}{h h':AHeap}{w w':World}{a:AAct}{ag:Act}{M:Nat}{S:Self}

theorem TR.put{t:T AVal}{tmps:Array Value}{d:Nat}{v:AVal}{cv:Value}(ht:TR P G t tmps)(hd:d<tmps.size)(hv:VR P G v cv):TR P G (t.set d (some v)) (tmps.setIfInBounds d cv):=by
 intro i x hx
 rw[T.get_set] at hx
 by_cases hi:i=d
 ·rw[if_pos hi] at hx;cases hx
  subst hi
  exact⟨cv,by simp[hd],hv⟩
 ·rw[if_neg hi] at hx
  obtain⟨u,h1,h2⟩:=ht i x hx
  exact⟨u,by rw[Array.getElem?_setIfInBounds_ne (Ne.symm hi)];exact h1,h2⟩

theorem zDJ{d d':Option Tmp}(e:cDst M d=some d'):d'=d/\∀t,d=some t->t<M:=by
 unfold cDst at e
 split at e
 ·simp only[oI] at e;subst e;exact⟨rfl,fun t h=>by cases h⟩
 ·split at e
  ·rename_i t ht
   simp only[oI] at e;subst e
   exact⟨rfl,fun t' h=>by cases h;exact ht⟩
  ·cases e

theorem ActR.put(ha:ActR P G M a ag){d d':Option Tmp}(hd:cDst M d=some d'){v:AVal}{cv:Value}(hv:VR P G v cv):ActR P G M (putA a d' v) (ag.put d cv):=by
 obtain⟨rfl,hlt⟩:=zDJ hd
 cases d' with
 |none=>exact ha
 |some t=>
  exact⟨ha.tmps.put (Nat.lt_of_lt_of_le (hlt t rfl) ha.size) hv,by show M<=(ag.tmps.setIfInBounds t cv).size;rw[Array.size_setIfInBounds];exact ha.size,ha.defers⟩

theorem zEy:∀{ps:List Tmp} {vs:List AVal} {us:List Value} {t t':T AVal} {tmps:Array Value},zBW t ps vs=some t'->VsR P G vs us->TR P G t tmps->(∀p∈ps,p<tmps.size) →
  ps.length=us.length/\TR P G t' ((ps.zip us).foldl (fun tmps (p:Tmp×Value)=>tmps.setIfInBounds p.1 p.2) tmps)/\((ps.zip us).foldl (fun tmps (p:Tmp×Value)=>tmps.setIfInBounds p.1 p.2) tmps).size=tmps.size
 |[],[],us,t,t',tmps,e,hv,ht,_=>by
  cases hv
  simp only[zBW,oI] at e;subst e
  exact⟨rfl,ht,rfl⟩
 |[],_::_,_,_,_,_,e,_,_,_=>by cases e
 |_::_,[],_,_,_,_,e,_,_,_=>by cases e
 |p::ps,v::vs,us,t,t',tmps,e,⟨u,us',hu,hv,hvs⟩,ht,hp=>by
  subst hu
  simp only[zBW] at e
  obtain⟨h1,h2,h3⟩:=zEy e hvs (ht.put (hp p (List.mem_cons_self ..)) hv) (fun q hq=>by rw[Array.size_setIfInBounds];exact hp q (List.mem_cons_of_mem _ hq))
  refine⟨by simp[h1],h2,?_⟩
  rw[List.zip_cons_cons,List.foldl_cons,h3,Array.size_setIfInBounds]

theorem zDY{l:Nat}{r:Loop}(hb:w.heap[l]?=some (.loop r)):(Instr.getLoop l).run P w=.ok r w:=by
 simp[Instr.getLoop,getObj,Sem.run,hb]

theorem zJX{l ver:Nat}{st:LoopState}{pd:Option AExit}{t:T AVal}{ps:List Tmp}{as bd:ACode}{df:Nat}(hR:Rel P N w0 G h w)(hget:h.objs.get l=some (ver,.loop st pd t ps as bd df)){g:GI}(hg:G l=some g):
  ∃r:Loop,w.heap[g.blk]?=some (.loop r)/\OR P G g (.loop st pd t ps as bd df) (.loop r)/\N<=g.blk:=by
 obtain⟨gi,h1,ob,h2,h3⟩:=hR.obj l ver _ hget
 rw[hg] at h1;cases h1
 obtain⟨r,Mr,gd,rfl,rest⟩:=h3
 exact⟨r,h2,⟨r,Mr,gd,rfl,rest⟩,hR.own l ver _ g hget hg rfl⟩

theorem zJc(hR:Rel P N w0 G h w){l ver:Nat}{o o':AObj}(hget:h.objs.get l=some (ver,o))(hro:o.ro=false)(hro':o'.ro=false){g:GI}(hg:G l=some g){ob ob':Obj}(hob:w.heap[g.blk]?=some ob)(ho:OR P G g o' ob'):
  Rel P N w0 G (zAT h l o') (w.putObj g.blk ob')/\Ext G h w G (zAT h l o') (w.putObj g.blk ob'):=
 hR.put hget hro hro' hg (World.putObj_heap_same (zAt hob)) (fun _ hk=>World.putObj_heap_other hk) (zDW _ _ (hR.own l ver o g hget hg hro)) ho

theorem zKi(hS:SelfOK P N w0 S)(hR:Rel P N w0 G h w){l:Nat}{g:GI}(hg:G l=some g){args:List AVal}{argsV:Array Value}(hargs:VsR P G args argsV.toList){Q:AVal×AHeap->Prop}(hs:(zIA S l args h).sat Q)(rv:Option Nat):
  ∃fn tmps as bd,(Instr.yield g.blk argsV).run P w=.ok (.round g.blk fn tmps as bd) w/\RoundIn (FR rv) 0 P g.blk fn tmps as bd w (PostC P N w0 G h w Q):=by
 unfold zIA at hs
 split at hs
 ·rename_i ver pd0 t ps as bd df hget
  obtain⟨r,hob,⟨r',Mr,gd,hr',hst,hpc,htr,hsz,hps,has,hbd,hlt,hgd,hdf⟩,hN⟩:=zJX hR hget hg
  cases hr'
  split at hs
  ·rename_i t' hset
   obtain⟨h1,h2,h3⟩:=zEy (tmps:=r.tmps) hset hargs htr (fun p hp=>Nat.lt_of_lt_of_le (hlt p hp) hsz)
   have hzip:(r.params.zip argsV).foldl (fun tmps (t,a)=>tmps.setIfInBounds t a) r.tmps=((ps.zip argsV.toList).foldl (fun tmps (p:Tmp×Value)=>tmps.setIfInBounds p.1 p.2) r.tmps):=by
    rw[<-Array.foldl_toList,Array.toList_zip,hps]
   have hsize:argsV.size=r.params.size:=by
    rw[<-hps] at h1;simpa using h1.symm
   refine⟨r.fn,(r.params.zip argsV).foldl (fun tmps (t,a)=>tmps.setIfInBounds t a) r.tmps,r.assign,r.body,?_,?_⟩
   ·simp only[Instr.yield,Sem.run_bind,zDY hob,Result.andThen_ok]
    simp[hsize]
   ·rw[D.sat_bind] at hs
    rw[hzip]
    refine roundIn_of_wpIn trivial ?_
    have hc:=hS.code (some l) (some g.blk) as r.assign Mr {tmps:=t',defers:=[]} {tmps:=((ps.zip argsV.toList).foldl (fun tmps (p:Tmp×Value)=>tmps.setIfInBounds p.1 p.2) r.tmps),defers:=[]} h G w _
     ⟨g,hg,rfl⟩ has ⟨h2,by rw[h3];exact hsz,rfl⟩ hR hs
    refine wpIn_mono hc fun e ag1 w1 hpost=>?_
    obtain⟨ae,a1,hh1,G1,hq1,hex,hR1,hE1,ha1⟩:=hpost
    have hg1:=hE1.gle _ _ hg
    simp only at hq1
    split at hq1
    ·rename_i ver1 pd1 t1 ps1 as1 bd1 df1 hget1
     cases hex
     obtain⟨r1,hob1,⟨r1',M1,gd1,hr1',hst1,hpc1,htr1,hsz1,hps1,has1,hbd1,hlt1,hgd1,hdf1⟩,hN1⟩:=zJX hR1 hget1 hg1
     cases hr1'
     obtain⟨hR2,hE2⟩:=zJc hR1 (o':=.loop .busy pd1 t1 ps1 as1 bd1 df1) hget1 rfl rfl hg1 hob1 (ob':=.loop {r1 with state:=.busy}) ⟨_,M1,gd1,rfl,rfl,hpc1,htr1,hsz1,hps1,has1,hbd1,hlt1,hgd1,hdf1⟩
     refine⟨w1.putObj g.blk (.loop {r1 with state:=.busy}),?_,?_⟩
     ·simp[Instr.beginRound,zDY hob1,run_setObj_loop _ hob1,hst1]
     ·rw[D.sat_bind] at hq1
      have hc2:=hS.code (some l) (some g.blk) bd r.body Mr a1 ag1 _ G1 _ _ ⟨g,hg1,rfl⟩ hbd ha1 hR2 hq1
      refine wpIn_mono hc2 fun e2 ag2 w2 hpost2=>?_
      obtain⟨ae2,a2,hh2,G2,hq2,hex2,hR3,hE3,ha2⟩:=hpost2
      have hg2:=hE3.gle _ _ hg1
      have hE:Ext G h w G2 hh2 w2:=(hE1.trans hE2).trans hE3
      simp only at hq2
      split at hq2
      ·rename_i ver2 st2 pd2 t2 ps2 as2 bd2 df2 hget2
       obtain⟨r2,hob2,⟨r2',M2,gd2,hr2',hst2,hpc2,htr2,hsz2,hps2,has2,hbd2,hlt2,hgd2,hdf2⟩,hN2⟩:=zJX hR3 hget2 hg2
       cases hr2'
       have fin:∀(st':LoopState) (pd':Option AExit) (pc:Option Code) (b:Bool),pendC pd' pc->b=pc.isNone->st'=(if pc.isNone then .ready else .done)->Q (.bool b,zAT hh2 l (.loop st' pd' t2 ps2 as2 bd2 df2)) →
         ∃v w',(Instr.endRound g.blk pc).run P w2=.ok v w'/\PostC P N w0 G h w Q (.returned v) w':=by
        intro st' pd' pc b hpc hb hst' hQ
        obtain⟨hR4,hE4⟩:=zJc hR3 (o':=.loop st' pd' t2 ps2 as2 bd2 df2) hget2 rfl rfl hg2 hob2 (ob':=.loop {r2 with state:=if pc.isNone then .ready else .done,pending:=pc})
         ⟨_,M2,gd2,rfl,hst'.symm,hpc,htr2,hsz2,hps2,has2,hbd2,hlt2,hgd2,hdf2⟩
        refine⟨.bool pc.isNone,_,?_,.bool b,_,G2,.bool pc.isNone,rfl,hQ,hR4,hE.trans hE4,by rw[hb];rfl⟩
        simp[Instr.endRound,zDY hob2,run_setObj_loop _ hob2]
       cases ae2 with
       |normal=>cases hex2;exact fin .ready none none true rfl rfl rfl hq2
       |ret=>cases hex2;exact fin .done (some .ret) (some .ret) false rfl rfl rfl hq2
       |exit id=>cases hex2;exact fin .done (some (.exit id)) (some (.exit id)) false rfl rfl rfl hq2
      ·cases hq2
    ·cases hq1
  ·cases hs
 ·cases hs
end
end Go.Ab
end
section
namespace Go.Ab
open Go.RowKit (Below)

section
variable{P:Program}{N:Nat}{w0:World}{G G':GM}{h h':AHeap}{w w':World}{a:AAct}{ag:Act}{M:Nat}{S:Self}

theorem zIC{f:FuncId}{fn:Func}{c:Code}(hf:P.funcs[f]?=some fn)(hname:(fn.name== "runtime.NumGoroutine")=false)(hb:fn.body=some c)(args:Array Value)(w:World):
  (callFunc f args).run P w=.ok (.enter f args) w:=by
 simp only[callFunc,Sem.run_bind,run_program,Result.andThen_ok,hf,hname,hb]
 rfl

theorem zKD(hS:SelfOK P N w0 S)(hR:Rel P N w0 G h w){f:AVal}{V:Value}{args:List AVal}{argsV:Array Value}(hf:VR P G f V)(hargs:VsR P G args argsV.toList){Q:AVal×AHeap->Prop}
    (hs:(zGp S f args h).sat Q) (rv:Option Nat):
    ∃d,(Deferred.ofValue V argsV).run P w=.ok d w∧
    ((∃g allargs,(invoke d.target d.args).run P w=.ok (.enter g allargs) w/\CallsIn (FR rv) 0 P g allargs w (PostC P N w0 G h w Q))∨
     ∃l fn tmps as bd,(invoke d.target d.args).run P w=.ok (.round l fn tmps as bd) w/\RoundIn (FR rv) 0 P l fn tmps as bd w (PostC P N w0 G h w Q)):=by
  unfold zGp at hs
  split at hs
  · rename_i g first captured
    obtain⟨L,Mv,rfl,h1,h2⟩:=hf
    obtain⟨fn,c,h3,h4,h5⟩:=hS.enters _ _ _ _ hs
    refine⟨_,rfl,.inl ⟨g,L++argsV++Mv,zIC h3 h4 h5 _ w,FR_calls (hS.call g _ h G w _ Q hR ?_ hs)⟩⟩
    simpa using(h1.append hargs).append h2
  · rename_i l
    obtain⟨g,hg,rfl⟩:=hf
    obtain⟨fn,tmps,as,bd,h1,h2⟩:=zKi hS hR hg hargs hs rv
    refine⟨_,rfl,.inr ⟨g.blk,fn,tmps,as,bd,?_,h2⟩⟩
    show (Instr.yield g.blk (#[]++argsV)).run P w=_
    simpa using h1
  · cases hs

theorem cE_calls{op:Op}{e:EOp}(hq:cE P op=some e)(h1:∀c,op≠.call c)(h2:∀c,op≠.defer c):(∀f xs,e≠.call f xs)/\∀f xs,e≠.defer f xs:=by
 unfold cE at hq
 constructor<;>rintro f xs rfl
 all_goals
  split at hq<;>first|exact absurd rfl (h1 _)|exact absurd rfl (h2 _)|skip
  all_goals repeat' (first|(cases hq;done)|split at hq)

theorem zLx(hS:SelfOK P N w0 S){ro rv:Option Nat}(hro:roR G ro rv)(hR:Rel P N w0 G h w)(ha:ActR P G M a ag){o:Oper}{e:EOp}{d:Option Tmp}(hd:cDst M o.dst=some d)(hq:cE P o.op=some e){Q:AAct×AHeap->Prop}
  (hs:(eA S ro a h d e).sat Q) (QQ:Exit->Act->World->Prop):o.wpIn (FR rv) 0 P ag w (PostA P N w0 G h w M Q) QQ:=by
 refine⟨fun _ _=>trivial,?_⟩
 have turn:∀e',e=e'->(eA S ro a h d e=(zBO a h e').bind fun p=>.ret (putA a d p.1,p.2))->(∀c,o.op≠.defer c)->o.uponIn (FR rv) 0 P ag (PostA P N w0 G h w M Q) QQ ((o.semAt (FR rv).round ag.eval).run P w):=by
  rintro e' rfl hh hnd
  rw[hh,D.sat_bind] at hs
  obtain⟨v,h',G',w',cv,nx,h1,h2,h3,h4,h5,h6⟩:=zLe hR ha hq hs
  rw[Oper.semAt_eq _ _ _ hnd,h6 o rfl]
  have hp:PostA P N w0 G h w M Q (ag.put o.dst cv) w':=⟨_,h',G',h1,h2,h3,(ha.mono h3.gle).put hd h4⟩
  rcases h5 with rfl|⟨rfl,rfl⟩
  ·exact hp
  ·exact hp
 cases hop:o.op with
 |call c=>
  rw[hop] at hq
  simp only[cE] at hq
  split at hq
  ·
   have hnd:∀c',o.op≠.defer c':=fun c' hh=>by rw[hop] at hh;cases hh
   split at hq
   ·split at hq
    ·split at hq
     ·split at hq
      ·cases hq
      ·split at hq
       ·simp only[oI] at hq;subst hq
        exact turn _ rfl rfl hnd
       ·cases hq
      ·cases hq
     ·cases hq
    ·cases hq
   ·cases hq
  ·rename_i fo hcal
   split at hq
   ·rename_i f' xs' hf' hxs'
    simp only[oI] at hq;subst hq
    simp only[eA] at hs
    split at hs
    ·rename_i fv xv hfv hxv
     rw[D.sat_bind] at hs
     have hV:=zBP hR.glob ha hf' hfv
     have hXs:=zFw hR.glob ha hxs' hxv
     obtain⟨dd,h1,h2⟩:=zKD hS hR hV hXs hs rv
     have hsem:o.semAt (FR rv).round ag.eval=(do let d <-Deferred.ofValue (ag.eval fo) (c.args.map ag.eval);invoke d.target d.args):=by
      rw[Oper.semAt_eq _ _ _ (fun c' hh=>by rw[hop] at hh;cases hh)]
      unfold execOp
      rw[hop]
      simp only[resolve,hcal]
     have next:∀e w',PostC P N w0 G h w (fun p=>(D.ret (putA a d p.1,p.2)).sat Q) e w'->∃v,e=.returned v/\PostA P N w0 G h w M Q (ag.put o.dst v) w':=by
      rintro e w' ⟨v,h',G',cv,rfl,h3,h4,h5,h6⟩
      exact⟨cv,rfl,_,h',G',h3,h4,h5,(ha.mono h5.gle).put hd h6⟩
     rw[hsem,Sem.run_bind,h1,Result.andThen_ok]
     rcases h2 with⟨g,allargs,h3,h4⟩|⟨l,fn,tmps,as,bd,h3,h4⟩
     ·rw[h3,Oper.uponIn_enter]
      exact⟨FR_depth,h4.mono fun e w' he=>by obtain⟨v,rfl,hh⟩:=next e w' he;exact hh⟩
     ·rw[h3,Oper.uponIn_round]
      exact⟨FR_depth,h4.mono fun e w' he=>by obtain⟨v,rfl,hh⟩:=next e w' he;exact hh⟩
    ·cases hs
   ·cases hq
  ·cases hq
 |defer c=>
  rw[hop] at hq
  simp only[cE] at hq
  split at hq
  ·rename_i fo hcal
   split at hq
   ·rename_i f' xs' hf' hxs'
    simp only[oI] at hq;subst hq
    simp only[eA] at hs
    split at hs
    ·rename_i g first captured xv hfv hxv
     cases hro
     have hV:=zBP hR.glob ha hf' hfv
     have hXs:=zFw hR.glob ha hxs' hxv
     obtain⟨L,Mv,hL,h1,h2⟩:=hV
     have hsem:(o.semAt (FR none).round ag.eval).run P w=.ok (.defer {target:=.fn (.func g) Mv,args:=L++c.args.map ag.eval}) w:=by
      show (execOp ag.eval o).run P w=_
      unfold execOp
      rw[hop]
      simp only[resolve,hcal,hL,Deferred.ofValue]
      rfl
     rw[hsem]
     refine⟨_,h,G,hs,hR,Ext.refl _ _ _,?_⟩
     have hd2:ActR P G M {a with defers:=.fn g (first++xv++captured)::a.defers} {ag with defers:={target:=.fn (.func g) Mv,args:=L++c.args.map ag.eval}::ag.defers}:=
      ⟨ha.tmps,ha.size,_,_,Mv,rfl,rfl,by simpa using(h1.append hXs).append h2,ha.defers⟩
     exact hd2.put hd ⟨#[],rfl,rfl⟩
    ·cases hs
   ·cases hq
  ·cases hq
 |_=>
  have hnd:∀c',o.op≠.defer c':=fun c' hh=>by rw[hop] at hh;cases hh
  refine turn e rfl ?_ hnd
  obtain⟨h1,h2⟩:=cE_calls hq (fun c' hh=>by rw[hop] at hh;cases hh) hnd
  cases e with
  |call f xs=>exact absurd rfl (h1 _ _)
  |defer f xs=>exact absurd rfl (h2 _ _)
  |_=>rfl
end
end Go.Ab
end
section
namespace Go.Ab
open Go.RowKit (Below)

section
variable{P:Program}{N:Nat}{w0:World}{G G':GM}{h h':AHeap}{w w':World}{a:AAct}{ag:Act}{M:Nat}{S:Self}

theorem zLp{c:Call}:cQ P (.defer c)=none:=rfl

theorem q_wpIn(hR:Rel P N w0 G h w)(ha:ActR P G M a ag){o:Oper}{q:QOp}{d:Option Tmp}(hd:cDst M o.dst=some d)(hq:cQ P o.op=some q){v:AVal}{id:Option Nat}(e:qA a h q=some (v,id)){Q:AAct×AHeap->Prop}(hQ:Q (putA a d v,h))
  (QQ:Exit->Act->World->Prop) {rv:Option Nat}:o.wpIn (FR rv) 0 P ag w (PostA P N w0 G h w M Q) QQ:=by
 obtain⟨cv,h1,h2⟩:=zJe hR ha hq e
 refine⟨fun _ _=>trivial,?_⟩
 rw[Oper.semAt_eq _ _ _ (fun c hc=>by rw[hc,zLp] at hq;cases hq),h2 o rfl w (fun _ _ _ _=>rfl)]
 exact⟨_,h,G,hQ,hR,Ext.refl _ _ _,ha.put hd h1⟩

theorem zDH{ops:Array Oper}(ha:ActR P G M a ag){o:Oper}{g:Option (Tmp×Bool)}(hg:zIU ops.toList o.guard=some g){c:Bool}(e:zDS a g=some c):Region.wanted o (yielded ops ag.tmps)=c:=by
 cases hgd:o.guard with
 |none=>
  rw[hgd] at hg
  simp only[zIU,oI] at hg;subst hg
  simp only[zDS,oI] at e
  simp[Region.wanted,hgd,e]
 |some p=>
  obtain⟨j,b⟩:=p
  rw[hgd] at hg
  simp only[zIU] at hg
  split at hg
  ·rename_i oj hoj
   split at hg
   ·rename_i t ht
    simp only[oI] at hg;subst hg
    have hoj':ops[j]?=some oj:=by simpa using hoj
    simp only[zDS] at e
    split at e
    ·rename_i c' hc'
     simp only[oI] at e
     obtain⟨v,h1,h2⟩:=ha.tmps _ _ hc'
     cases h2
     simp only[Region.wanted,hgd,yielded,hoj',Option.bind_some,ht,h1]
     rw[<-e];rfl
    ·rename_i hc'
     simp only[oI] at e
     obtain⟨v,h1,h2⟩:=ha.tmps _ _ hc'
     obtain⟨L,rfl,h3⟩:=h2
     simp only[Region.wanted,hgd,yielded,hoj',Option.bind_some,ht,h1]
     rw[<-e];rfl
    ·cases e
   ·cases hg
  ·cases hg

theorem zCi{ops:List Oper}{o:Oper}{s:Step}(e:zIM P M ops o=some s):cDst M o.dst=some s.dst/\zIU ops o.guard=some s.guard/\s.op=cOp P o.op:=by
 unfold zIM at e
 split at e
 ·rename_i d g hd hg
  simp only[oI] at e;subst e
  exact⟨hd,hg,rfl⟩
 ·cases e

theorem zMm(hS:SelfOK P N w0 S){ro rv:Option Nat}(hro:roR G ro rv)(hR:Rel P N w0 G h w)(ha:ActR P G M a ag){o:Oper}{d:Option Tmp}(hd:cDst M o.dst=some d){Q:AAct×AHeap->Prop}
  (hs:(match cOp P o.op with
   | .q op=>(match qA a h op with
    |some (v,_)=>.ret (putA a d v,h)
    |none=>.fail)
   | .e op=>eA S ro a h d op:D (AAct×AHeap)).sat Q) (QQ:Exit->Act->World->Prop):o.wpIn (FR rv) 0 P ag w (PostA P N w0 G h w M Q) QQ:=by
 unfold cOp at hs
 cases hq:cQ P o.op with
 |some q=>
  rw[hq] at hs
  simp only at hs
  split at hs
  ·rename_i v id hv
   exact q_wpIn hR ha hd hq hv hs QQ
  ·cases hs
 |none=>
  rw[hq] at hs
  cases he:cE P o.op with
  |some e=>
   rw[he] at hs
   exact zLx hS hro hR ha hd he hs QQ
  |none=>
   rw[he] at hs
   simp only[qA] at hs
   cases hs

theorem zNN(hS:SelfOK P N w0 S){ro rv:Option Nat}(hro:roR G ro rv)(hR:Rel P N w0 G h w)(ha:ActR P G M a ag){ops:Array Oper}{i:Nat}{o:Oper}{s:Step}(hi:ops[i]?=some o)(hc:zIM P M ops.toList o=some s){Q:AAct×AHeap->Prop}
  (hs:(zFQ S ro a h s).sat Q) (QQ:Exit->Act->World->Prop):wpOpIn (FR rv) 0 P ops QQ i (PostA P N w0 G h w M Q) ag w:=by
 obtain⟨h1,h2,h3⟩:=zCi hc
 unfold wpOpIn
 simp only[hi]
 unfold zFQ at hs
 split at hs
 ·rename_i hw
  rw[zDH ha h2 hw,if_pos rfl]
  rw[h3] at hs
  exact zMm hS hro hR ha h1 hs QQ
 ·rename_i hw
  rw[zDH ha h2 hw]
  exact⟨fun _ _=>trivial,_,h,G,hs,hR,Ext.refl _ _ _,ha.put h1 ⟨#[],rfl,rfl⟩⟩
 ·cases hs

theorem zIG(hS:SelfOK P N w0 S){ro rv:Option Nat}{ops:Array Oper}{Q:AAct×AHeap->Prop}{QQ:Exit->Act->World->Prop}:∀{is:List Nat} {os:List Oper} {ss:List Step} {G:GM} {h:AHeap} {w:World} {a:AAct} {ag:Act},roR G ro rv->Rel P N w0 G h w->ActR P G M a ag →
  is.map (ops[·]?)=os.map some->mapO (zIM P M ops.toList) os=some ss->(zGQ S ro ss a h).sat Q →
  (∀ag' w',PostA P N w0 G h w M Q ag' w'->QQ .normal ag' w')->wpOpsIn (FR rv) 0 P ops QQ is ag w
 |[],[],ss,G,h,w,a,ag,hro,hR,ha,_,hm,hs,hQ=>by
  simp only[mapO,oI] at hm;subst hm
  exact hQ ag w ⟨a,h,G,hs,hR,Ext.refl _ _ _,ha⟩
 |[],_::_,_,_,_,_,_,_,_,_,_,e,_,_,_=>by cases e
 |_::_,[],_,_,_,_,_,_,_,_,_,e,_,_,_=>by cases e
 |i::is,o::os,ss,G,h,w,a,ag,hro,hR,ha,e,hm,hs,hQ=>by
  simp only[List.map_cons,List.cons.injEq] at e
  obtain⟨s,ss',h1,h2,rfl⟩:=zBT hm
  simp only[zGQ,D.sat_bind] at hs
  rw[wpOpsIn_cons]
  refine wpOpIn_mono (fun ag1 w1 hp=>?_) (zNN hS hro hR ha e.1 h1 hs QQ)
  obtain⟨a1,hh1,G1,h3,h4,h5,h6⟩:=hp
  refine zIG hS (hro.mono h5.gle) h4 h6 e.2 h2 h3 (fun ag' w' hp'=>hQ ag' w' ?_)
  obtain⟨a2,hh2,G2,h7,h8,h9,h10⟩:=hp'
  exact⟨a2,hh2,G2,h7,h8,h5.trans h9,h10⟩

theorem zKg(hS:SelfOK P N w0 S){ro rv:Option Nat}(hro:roR G ro rv)(hR:Rel P N w0 G h w)(ha:ActR P G M a ag){id:Nat}{ops:Array Oper}{ss:List Step}(hm:mapO (zIM P M ops.toList) ops.toList=some ss){Q:AAct×AHeap->Prop}
  (hs:(zGQ S ro ss a h).sat Q) {QQ:Exit->Act->World->Prop} (hQ:∀ag' w',PostA P N w0 G h w M Q ag' w'->QQ .normal ag' w'):(Code.region id ops false).wpIn (FR rv) 0 P QQ ag w:=by
 refine wpIn_region ?_
 refine zIG hS hro hR ha ?_ hm hs hQ
 apply List.ext_getElem?
 intro i
 simp only[List.getElem?_map]
 rcases Nat.lt_or_ge i ops.size with hi|hi
 ·simp[hi]
 ·simp[hi]
end
end Go.Ab
end
