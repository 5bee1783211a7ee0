import Derived.Test.YtpmndmiohaaokaaGreatDoorP22
import Derived.Test.YtpmndmiohaaokaaGreatDoorP24
import Derived.Test.YtpmndmiohaaokaaGreatDoorP26
/-
  Part 28 of the proof.
-/
set_option linter.all false
section
namespace Go.Ab
open Go.RowKit (Below)
section
variable {H:Type} {enc:TypeId×Value->H} {P:Program} {W:World} {G:GM} {h:AHeap}
end
end Go.Ab
end
section
namespace Go.Ab
open Go.RowKit (Below)
section
variable {H:Type} {enc:TypeId×Value->H} {P:Program} {W:World} {G:GM} {h:AHeap}
end
end Go.Ab
end
section
namespace Go.Ab
open Go.RowKit (Below)
section
variable {H:Type} {enc:TypeId×Value->H} {P:Program} {W:World} {G:GM} {h:AHeap}
def LayOne (enc:TypeId×Value->H) (P:Program) (W:World) (tE:TypeId) (sz fuel:Nat) (μ:DataW H->Nat) {α:Type} (At:AHeap->List AVal->α->Prop) (size:α->Nat):Prop:=
 ∀(G:GM) (h:AHeap) (cs:List Value) (x:DataW H×List MemPlace),DataW.trod enc P W 0 (fun _=>true) true fuel tE cs=some x->Rel P W.heap.size W G h W->WF h →
  Laid P W G h fun G' h'=>∃(n:α) (c:List AVal),VsR P G' c cs/\c.length=sz/\At h' c n/\size n<=μ x.1
theorem zKk {tE:TypeId} {sz fuel:Nat} {μ:DataW H->Nat} {α:Type} {At:AHeap->List AVal->α->Prop} {size:α->Nat} (L:LayOne enc P W tE sz fuel μ At size) (hmono:∀{h h':AHeap} {c:List AVal} {n:α},Grow h h'->At h c n->At h' c n)
  {C:Nat->List Value} {D:Nat->DataW H} {Pl:Nat->List MemPlace}:∀(len:Nat),(∀i,i<len->DataW.trod enc P W 0 (fun _=>true) true fuel tE (C i)=some (D i,Pl i))->∀{G:GM} {h:AHeap},Rel P W.heap.size W G h W->WF h →
  Laid P W G h fun G' h'=>∃(ns:List α) (cs:List (List AVal)),ns.length=len/\cs.length=len/\(∀i c,cs[i]?=some c->c.length=sz/\VsR P G' c (C i))/\(∀(i:Nat) n c,ns[i]?=some n->cs[i]?=some c->At h' c n)/\(ns.map size).sum<=((List.range len).map fun i=>μ (D i)).sum
 |0,_,G,h,R,hw=>⟨G,h,R,GLe.refl G,Grow.refl hw,[],[],rfl,rfl,fun i c hc=>by simp at hc,fun i n c hn=>by simp at hn,by simp⟩
 |len+1,hx,G,h,R,hw=>by
  obtain ⟨G1,h1,R1,g1,w1,ns,cs,hn,hc,hv,ha,hs⟩:=zKk L hmono len (fun i hi=>hx i (by omega)) R hw
  obtain ⟨G2,h2,R2,g2,w2,n,c,hcv,hcl,hna,hsz⟩:=L G1 h1 _ _ (hx len (by omega)) R1 w1.wf
  refine ⟨G2,h2,R2,g1.trans g2,w1.trans w2,ns++[n],cs++[c],by simp [hn],by simp [hc],fun i d hd=>?_,fun i m d hm hd=>?_,?_⟩
  ·rcases Nat.lt_or_ge i len with hi|hi
   ·rw [List.getElem?_append_left (by omega)] at hd
    obtain ⟨q1,q2⟩:=hv i d hd
    exact ⟨q1,q2.mono g2⟩
   ·rw [List.getElem?_append_right (by omega),hc] at hd
    obtain rfl:i=len:=by
     have:=(zgS.1 hd).1
     simp at this;omega
    rw [Nat.sub_self,zgZ,oI] at hd
    subst hd
    exact ⟨hcl,hcv⟩
  ·rcases Nat.lt_or_ge i len with hi|hi
   ·rw [List.getElem?_append_left (by omega)] at hd hm
    exact hmono w2 (ha i m d hm hd)
   ·rw [List.getElem?_append_right (by omega),hc] at hd
    rw [List.getElem?_append_right (by omega),hn] at hm
    obtain rfl:i=len:=by
     have:=(zgS.1 hd).1
     simp at this;omega
    rw [Nat.sub_self,zgZ,oI] at hd hm
    subst hd;subst hm
    exact hna
  ·rw [List.map_append,List.sum_append,List.range_succ,List.map_append,List.sum_append]
   simp only [List.map_cons,List.map_nil,List.sum_cons,List.sum_nil]
   simp only at hsz
   omega
theorem zQg {k sz:Nat} (hz:0<sz):k / sz*sz+k % sz=k:=by rw [Nat.mul_comm];exact Nat.div_add_mod k sz
theorem zOF {sz:Nat} (hz:0<sz) {ys:List (List AVal)} (hall:∀c∈ys,c.length=sz) {k:Nat} {x:AVal} (hk:ys.flatten[k]?=some x):∃c,ys[k / sz]?=some c/\c[k % sz]?=some x:=by
 have hlt:=(zgS.1 hk).1
 rw [zGL ys hall] at hlt
 have hj:k / sz<ys.length:=Nat.div_lt_of_lt_mul (by rw [Nat.mul_comm];exact hlt)
 refine ⟨ys[k / sz],zgG hj,?_⟩
 rw [<-zGK ys hall (k / sz) hj,List.getElem?_take,if_pos (Nat.mod_lt _ hz),List.getElem?_drop,zQg hz]
 exact hk
def RowAt {α:Type} (h:AHeap) (sz:Nat) (At:AHeap->List AVal->α->Prop) (v:AVal) (l:List α):Prop:=
 ∃cs:List (List AVal),SlAt h sz v cs/\cs.length=l.length/\∀(i:Nat) n c,l[i]?=some n->cs[i]?=some c->At h c n
theorem zOV {tR tE:TypeId} {sz:Nat} (hz:0<sz) (ht:P.underlying tR=some (.slice tE)) (hcz:P.cellsOf tE=sz) {μ:DataW H->Nat} (hμ:Meas μ) {α:Type} {At:AHeap->List AVal->α->Prop} {size:α->Nat} (L:∀fuel,LayOne enc P W tE sz fuel μ At size)
  (hmono:∀{h h':AHeap} {c:List AVal} {n:α},Grow h h'->At h c n->At h' c n) {fuel:Nat} {v:Value} {x:DataW H×List MemPlace} (hx:DataW.trod enc P W 0 (fun _=>true) true fuel tR [v]=some x) (R:Rel P W.heap.size W G h W) (hw:WF h):
  Laid P W G h fun G' h'=>∃(nv:AVal) (ns:List α),VR P G' nv v/\RowAt h' sz At nv ns/\(ns.map size).sum<=μ x.1/\(nv=.slice none 0\/nv=.slice0\/∃b ver ro vs,nv=.slice (some (b,0)) ns.length/\h'.objs.get b=some (ver,.cells ro tE vs)):=by
 rcases Go.Deep.open_slice ht hx with ⟨h1,rfl⟩|⟨a,len,capx,cap,n,D,Pl,h1,hb,hl,hm,hmm,rfl,hx'⟩
 ·simp only [List.cons.injEq,and_true] at h1
  subst h1
  exact ⟨G,h,R,GLe.refl G,Grow.refl hw,.slice none 0,[],⟨rfl,rfl⟩,⟨[],⟨rfl,fun i x hx=>by simp at hx⟩,rfl,fun i n c hn=>by simp at hn⟩,by simp,.inl rfl⟩
 ·simp only [List.cons.injEq,and_true] at h1
  subst h1
  simp only [if_true] at hmm
  subst hmm
  rcases Nat.eq_zero_or_pos cap with h0|h0
  ·subst h0
   obtain rfl:len=0:=by omega
   exact ⟨G,h,R,GLe.refl G,Grow.refl hw,.slice0,[],⟨a,rfl⟩,⟨[],⟨rfl,fun i x hx=>by simp at hx⟩,rfl,fun i n c hn=>by simp at hn⟩,by simp,.inr (.inl rfl)⟩
  rw [hcz] at hx'
  obtain ⟨C,hC⟩:=Go.Deep.choose_lt hx'
  have hCs:∀i,i<cap->(C i).length=sz/\∀j,j<sz->W.cell? ((a.add (i*sz)).add j)=(C i)[j]?:=fun i hi=>zKV (hC i hi).1
  have hspot:a.spot=none:=by
   obtain ⟨q1,q2⟩:=hCs 0 h0
   have:=q2 0 hz
   rw [Nat.zero_mul,show a.add 0=a by simp [Addr.add],show a.add 0=a by simp [Addr.add],zgG (by omega)] at this
   obtain ⟨_,_,_,_,hs,_⟩:=zJS this
   exact hs
  obtain ⟨c,ty,fr,hc1,ha,hsz,hall⟩:=zGY (w:=W) (a:=a) (m:=cap*sz) (Nat.mul_pos h0 hz) (V:=fun k=>(C (k / sz)).getD (k % sz) default) fun k hk=>by
   have hkc:k / sz<cap:=Nat.div_lt_of_lt_mul (by rw [Nat.mul_comm];exact hk)
   obtain ⟨q1,q2⟩:=hCs (k / sz) hkc
   have hkm:=Nat.mod_lt k hz
   have:=q2 (k % sz) hkm
   rw [zNW _ _ _ hspot,zQg hz] at this
   rw [this,zgG (by omega),List.getD,zgG (by omega)];rfl
  obtain ⟨G1,h1,R1,g1,w1,ns,cs,hn,hc,hv,hna,hs⟩:=zKk (L n) hmono len (fun i hi=>(hC i (by omega)).2) R hw
  have hcss:∀d∈cs,d.length=sz:=fun d hd=>by
   obtain ⟨i,hi,rfl⟩:=List.mem_iff_getElem.1 hd
   exact (hv i _ (zgG hi)).1
  have hfl:=zGL cs hcss
  have hle:len*sz<=cap*sz:=Nat.mul_le_mul_right _ hl
  obtain ⟨G',R',g2,w2,g3,g4⟩:=R1.addRo w1.wf (e:=tE) (off:=a.off) (size:=cap*sz) (vs:=cs.flatten) hc1 hsz (by rw [hfl,hc];exact hle) (VsR_row (by rw [hfl,hc];omega) fun k x v hx hv'=>by
   have hk:=(zgS.1 hx).1
   rw [hfl,hc] at hk
   rw [hall k (by omega),oI] at hv'
   obtain ⟨d,hd1,hd2⟩:=zOF hz hcss hx
   obtain ⟨_,hd3⟩:=hv _ _ hd1
   obtain ⟨u,hu1,hu2⟩:=hd3.get hd2
   rw [<-hv',List.getD,hu1]
   exact hu2)
  refine ⟨G',_,R',g1.trans g2,w1.trans w2,.slice (some (h1.next,0)) len,ns,⟨_,cap,g3,?_,hl,?_⟩,⟨cs,⟨by simp [lenO,hc],fun i d hd=>?_⟩,by omega,fun i n d hn' hd=>hmono w2 (hna i n d hn' hd)⟩,?_,.inr (.inr ⟨_,_,_,_,by rw [hn],g4⟩)⟩
  ·rw [ha];rfl
  ·rw [hcz];simp
  ·have hi:=(zgS.1 hd).1
   have hd':=(zgS.1 hd).2
   refine ⟨hcss d (List.mem_of_getElem? hd),h1.next,i*sz,h1.next,true,tE,_,by simp [slA];omega,g4,?_⟩
   rw [zGK cs hcss i hi,hd']
  ·refine Nat.le_trans hs ?_
   refine Nat.le_trans ?_ (Nat.le_trans (Nat.le_succ _) (hμ.slice ((List.range len).map D) _))
   rw [List.map_map]
   exact Nat.le_refl _
end
end Go.Ab
end
section
namespace Go.Ab
open Go.Ab.S
section
variable {H:Type} {enc:TypeId×Value->H} {P:Program} {W:World}
theorem zPo {tA tI:TypeId} (hA:P.underlying tA=some (.array 2 tI)) (hI:P.underlying tI=some (.int .i64)) (cI:P.cellsOf tI=1) (cA:P.cellsOf tA=2) {μ:DataW H->Nat} (hμ:Meas μ) (fuel:Nat):LayOne enc P W tA 2 fuel μ (fun _ c (p:Int×Int)=>c=zBS p) (fun _=>1):=by
 intro G h cs x hx R hw
 cases fuel with
 |zero=>simp [DataW.trod] at hx
 |succ n=>
  have hx:(if cs.length=P.cellsOf tA then ((List.range 2).mapM fun i=>DataW.trod enc P W 0 (fun _=>true) true n tI ((cs.drop (i*P.cellsOf tI)).take (P.cellsOf tI))).map fun xs=>(DataW.agg (xs.map (·.1)),xs.flatMap (·.2)) else none)=some x:=by
   simpa only [DataW.trod_step,DataW.trodStep,hA] using hx
  rw [cA,cI] at hx
  split at hx
  rotate_left
  ·cases hx
  rename_i hl
  obtain ⟨xs,hp,hd⟩:=Option.map_eq_some_iff.1 hx
  have hxl:xs.length=2:=by simpa using mapM_some_length hp
  have k0:=mapM_some_get hp 0 0 rfl
  have k1:=mapM_some_get hp 1 1 rfl
  match xs,hxl with
  |[y0,y1],_=>
   match cs,hl with
   |[u0,u1],_=>
    simp only [zgZ,List.getElem?_cons_succ] at k0 k1
    obtain ⟨m0,q0,_,_⟩:=DataW.trod_int hI k0
    obtain ⟨m1,q1,_,_⟩:=DataW.trod_int hI k1
    obtain rfl:u0=Value.int .i64 m0:=(List.cons.inj (show [u0]=[Value.int .i64 m0] from q0)).1
    obtain rfl:u1=Value.int .i64 m1:=(List.cons.inj (show [u1]=[Value.int .i64 m1] from q1)).1
    refine ⟨G,h,R,GLe.refl G,Grow.refl hw,(m0,m1),zBS (m0,m1),⟨_,_,rfl,rfl,_,_,rfl,rfl,rfl⟩,rfl,rfl,?_⟩
    rw [<-hd]
    exact Nat.le_trans (Nat.le_add_left 1 _) (hμ.agg _)
end
end Go.Ab
namespace Go.Proofs
open Go Go.Ab Go.Ab.S
theorem zMT {α:Type}:∀l:List α,(l.map fun _=>1).sum=l.length
 |[]=>rfl
 |_::l=>by rw [List.map_cons,List.sum_cons,zMT l,zlC];omega
theorem zOU {H:Type} {enc:TypeId×Value->H} {W:World} {G:GM} {h:AHeap} {v:Value} {fuel:Nat} {x:DataW H×List MemPlace} (hx:DataW.trod enc Tryz.prog W 0 (fun _=>true) true fuel 25 [v]=some x) (R:Rel Tryz.prog W.heap.size W G h W) (hw:WF h):
  Laid Tryz.prog W G h fun G' h'=>∃(pv:AVal) (ps:List (Int×Int)),VR Tryz.prog G' pv v/\PrsAt h' pv ps/\ps.length<=YtpmndmiohaaokaaGreatDoor.Rows.uptoBulk x.1/\Frm h' 40 pv ps.length:=by
 obtain ⟨G',h',R',g',w',pv,ps,k1,⟨cs,k2,k3,k4⟩,k5,k6⟩:=zOV (by decide) (show Tryz.prog.underlying 25=some (.slice 40) from by kernel_rfl) (by kernel_rfl) (meas H) (fun fuel=>zPo (show Tryz.prog.underlying 40=some (.array 2 3) from by kernel_rfl) (by kernel_rfl) (by kernel_rfl) (by kernel_rfl) (meas H) fuel) (fun _ h=>h) hx R hw
 obtain rfl:cs=ps.map zBS:=by
  apply List.ext_getElem
  ·simpa using k3
  ·intro i i1 i2
   simp only [List.length_map] at i2
   have:=k4 i _ _ (zgG i2) (zgG i1)
   simpa using this
 refine ⟨G',h',R',g',w',pv,ps,k1,k2,?_,k6⟩
 rw [zMT] at k5
 exact k5
end Go.Proofs
end
