import Derived.Test.YtpmndmiohaaokaaGreatDoorP09
import Derived.Test.YtpmndmiohaaokaaGreatDoorP11
/-
  Part 12 of the proof.
-/
set_option linter.all false
set_option maxHeartbeats 8000000
section
namespace Go.Ab.S
open Go.Ab
inductive Rch (g:Graph):Int->Prop
 |root:Rch g g.root
 |step {a b:Int}:Rch g a->b∈(zAA g a).args->Rch g b
theorem zLO(g:Graph)(a:Int):zHY g.nodes a=(zAA g a).args:=by unfold zHY zAA;rw[List.getD];cases g.nodes[a.toNat]?<;>rfl
theorem zFB{g:Graph}:∀(m:Nat) (st out:List Int),(∀a∈st,Rch g a)->(∀a∈out,Rch g a)->∀a∈zBK g.nodes m st out,Rch g a
 |0,_,_,_,h=>h
 |_+1,[],_,_,h=>h
 |m+1,a::st,out,h1,h2=>by
  rw[zBK];split
  ·exact zFB m st out (fun b hb=>h1 b (by simp[hb])) h2
  ·refine zFB m _ _ (fun b hb=>?_) (fun b hb=>?_)
   ·rcases List.mem_append.1 hb with hb|hb
    ·rw[zLO] at hb;exact .step (h1 a (by simp)) hb
    ·exact h1 b (by simp[hb])
   ·rcases List.mem_append.1 hb with hb|hb
    ·exact h2 b hb
    ·rw[List.mem_singleton.1 hb];exact h1 a (by simp)
theorem zGq{g:Graph}(hc:zAB g=0):∀(m:Nat) (st out:List Int),Ok g.nodes.length st->st.length+zAU out g.nodes 0<=m->(∀a∈out,∀b∈(zAA g a).args,b∈out\/b∈st) →
  (∀a∈st,a∈zBK g.nodes m st out)/\(∀a∈out,a∈zBK g.nodes m st out)/\∀a∈zBK g.nodes m st out,∀b∈(zAA g a).args,b∈zBK g.nodes m st out
 |0,st,out,_,hm,h=>by
  have:st=[]:=List.length_eq_zero_iff.1 (by omega);subst this;exact⟨fun a ha=>(by cases ha),fun a ha=>ha,fun a ha b hb=>by
   rcases h a ha b hb with h|h
   ·exact h
   ·cases h⟩
 |m+1,[],out,_,_,h=>⟨fun a ha=>(by cases ha),fun a ha=>ha,fun a ha b hb=>by
   rcases h a ha b hb with h|h
   ·exact h
   ·cases h⟩
 |m+1,a::st,out,hs,hm,h=>by
  have af:Ok g.nodes.length st:=fun b hb=>hs b (by simp[hb]);obtain⟨a0,a1⟩:=hs a (by simp);rw[zBK];split
  ·rename_i aa;have aa:a∈out:=by simpa using aa
   simp only[zlC] at hm;obtain⟨h1,h2,h3⟩:=zGq hc m st out af (by omega) (fun b hb c ab=>by
    rcases h b hb c ab with h|h
    ·exact .inl h
    ·rcases List.mem_cons.1 h with rfl|h
     ·exact .inl aa
     ·exact .inr h)
   exact⟨fun b hb=>by
    rcases List.mem_cons.1 hb with rfl|hb
    ·exact h2 _ aa
    ·exact h1 b hb,h2,h3⟩
  ·rename_i aa;obtain⟨k,hk,ad,ae⟩:∃k:Nat,a=(k:Int)/\∃hk:k<g.nodes.length,zAA g a=g.nodes[k]:=⟨a.toNat,by omega,by omega,by simp[zAA,zgG (show a.toNat<g.nodes.length by omega)]⟩;have ah:=(zGS out k g.nodes 0).2 (Nat.zero_le _) (by rw[<-hk];simpa using aa) g.nodes[k] (by simpa using zgG ad);have ac:zHY g.nodes a=g.nodes[k].args:=by rw[zLO,ae]
   rw[ac,hk];simp only[zlC] at hm;obtain⟨h1,h2,h3⟩:=zGq hc m (g.nodes[k].args++st) (out++[(k:Int)]) (fun b hb=>by
    rcases List.mem_append.1 hb with hb|hb
    ·exact zAh ((zAs hc).2 _ (List.getElem_mem ad)) b hb
    ·exact af b hb) (by rw[zgL];omega) (fun b hb c ab=>by
    rcases List.mem_append.1 hb with hb|hb
    ·rcases h b hb c ab with h|h
     ·exact .inl (List.mem_append.2 (.inl h))
     ·rcases List.mem_cons.1 h with rfl|h
      ·exact .inl (by rw[hk];simp)
      ·exact .inr (List.mem_append.2 (.inr h))
    ·rw[List.mem_singleton.1 hb,<-hk,ae] at ab;exact .inr (List.mem_append.2 (.inl ab)))
   exact⟨fun b hb=>by
    rcases List.mem_cons.1 hb with rfl|hb
    ·exact h2 _ (by simp)
    ·exact h1 b (List.mem_append.2 (.inr hb)),fun b hb=>h2 b (List.mem_append.2 (.inl hb)),h3⟩
theorem zEH{g:Graph}(hc:zAB g=0)(a:Int):a∈zAI g↔Rch g a:=by
 have hr:=zAN hc;rw[zAI,if_pos hc];constructor
 ·exact zFB _ _ _ (fun b hb=>by rw[List.mem_singleton.1 hb];exact .root) (fun b hb=>by cases hb) a
 ·obtain⟨h1,_,h3⟩:=zGq hc (1+zAU [] g.nodes 0) [g.root] [] (fun b hb=>by rw[List.mem_singleton.1 hb];exact⟨hr.1,hr.2.1⟩) (by simp) (fun b hb=>(by cases hb));intro h;induction h with
  |root=>exact h1 _ (by simp)
  |step _ hb ih=>exact h3 _ ih _ hb
theorem Rch.ok{g:Graph}(hc:zAB g=0){a:Int}(h:Rch g a):0<=a/\a<g.nodes.length:=by have:=(zEH hc a).2 h;exact(zCR g).1 a this
theorem zDe{g:Graph}{a:Int}(h:0<=a/\a<g.nodes.length):zAA g a∈g.nodes:=by
 have hk:a.toNat<g.nodes.length:=by omega
 have:zAA g a=g.nodes[a.toNat]:=by simp[zAA,zgG hk]
 rw[this];exact List.getElem_mem hk
theorem zNe{g:Graph}(hc:zAB g=0):∃l,zAI g=g.root::l:=by
 rw[zAI,if_pos hc,Nat.add_comm,zBK];simp only[List.contains_nil,Bool.false_eq_true,if_false,zlA];have:∀(m:Nat) (st out:List Int),∃l,zBK g.nodes m st out=out++l:=by
  intro m;induction m with
  |zero=>intro st out;exact⟨[],by simp[zBK]⟩
  |succ m ih=>
   intro st out;cases st with
   |nil=>exact⟨[],by simp[zBK]⟩
   |cons a st=>
    rw[zBK];split
    ·exact ih st out
    ·obtain⟨l,hl⟩:=ih (zHY g.nodes a++st) (out++[a]);exact⟨a::l,by rw[hl];simp⟩
 obtain⟨l,hl⟩:=this (zAU [] g.nodes 0) (zHY g.nodes g.root++[]) [g.root];exact⟨l,by rw[hl];rfl⟩
structure Quo(g L:Graph)(q:Int->Int):Prop where
 root:L.root=q g.root
 node:∀i,Rch g i->zAA L (q i)={zAA g i with args:=(zAA g i).args.map q}
 surj:∀x:Int,0<=x->x<L.nodes.length->∃i,Rch g i/\q i=x
 range:∀i,Rch g i->0<=q i/\q i<L.nodes.length
 inj:∀i j,Rch g i->Rch g j->zAP (zAA g i)=true->q i=q j->i=j
 check:zAB L=0
theorem zFf{l:List Int}{a:Int}(h:a∈l):zBV l a<l.length/\l[zBV l a]?=some a:=by
 have hc:l.contains a=true:=by simpa using h
 rw[zBV,if_pos hc];have:=List.idxOf_lt_length_of_mem h;exact⟨this,by rw[zgG this];simp⟩
theorem zGH{g:Graph}(h0:0<=g.root)(h1:g.root<g.nodes.length)(h2:g.nodes.length<=1048576)(h3:∀n∈g.nodes,mayF n g.nodes.length=true):zAB g=0:=by unfold zAB;simp only[Int.ofNat_eq_natCast];rw[if_neg (by omega),if_neg (by omega),if_neg (by omega),if_neg];simp only[List.any_eq_true,not_exists,not_and];intro n hn;rw[h3 n hn];simp
theorem zJl{n:Node}{N M:Int}(h:mayF n N=true)(f:Int->Int)(hf:∀a∈n.args,0<=f a/\f a<M):mayF {n with args:=n.args.map f} M=true:=by
 have h1:(n.args.map f).any (fun a=>decide (a<0)||decide (a>=M))=false:=by rw[List.any_eq_false];intro a ha;obtain⟨b,hb,rfl⟩:=List.mem_map.1 ha;have:=hf b hb;simp;omega
 unfold mayF at h ⊢;split at h
 ·cases h
 rw[h1];simpa using h
theorem zLx(f:Int->Nat):∀(l r:List Int),l.Nodup->(∀x∈l,x∈r)->(l.map f).sum<=(r.map f).sum
 |[],r,_,_=>by simp
 |x::l,r,hn,hs=>by have hx:=hs x (by simp);have hp:r.Perm (x::r.erase x):=List.perm_cons_erase hx;obtain⟨h1,h2⟩:=List.nodup_cons.1 hn;have ih:=zLx f l (r.erase x) h2 fun y hy=>(List.mem_erase_of_ne (by rintro rfl;exact h1 hy)).2 (hs y (by simp[hy]));have:=(hp.map f).sum_nat;simp only[List.map_cons,List.sum_cons] at this ⊢;omega
def allN(n:Nat):List Int:=(List.range n).map fun (i:Nat)=>(i:Int)
theorem zHU{n:Nat}{a:Int}:a∈allN n↔0<=a/\a<n:=by
 simp only[allN,List.mem_map,List.mem_range];constructor
 ·rintro⟨i,hi,rfl⟩;omega
 ·rintro⟨h1,h2⟩;exact⟨a.toNat,by omega,by omega⟩
theorem zMz{g:Graph}(_:zAB g=0):(zAI g).length<=g.nodes.length:=by
 obtain⟨h1,h2⟩:=zCR g;have:=zLx (fun _=>1) (zAI g) (allN g.nodes.length) h2 fun x hx=>zHU.2 (h1 x hx);have e:∀l:List Int,(l.map fun _=>1).sum=l.length:=fun l=>by
  induction l with
  |nil=>rfl
  |cons a l ih=>simp only[List.map_cons,List.sum_cons,ih,zlC];omega
 rw[e,e] at this;simpa[allN] using this
theorem zHX{g:Graph}(hc:zAB g=0):Quo g (zBS g) (fun a=>(zBV (zAI g) a:Int)):=by
 have aa:=zEH hc;have ac:∀i,Rch g i->zAA (zBS g) (zBV (zAI g) i:Int)=zCz (zAI g) (zAA g i):=by intro i hi;obtain⟨h1,h2⟩:=zFf ((aa i).2 hi);simp only[zAA,zBS,Int.toNat_natCast,List.getD,zgM,h2];rfl
 obtain⟨l,hl⟩:=zNe hc;have ad:zBV (zAI g) g.root=0:=by rw[hl,zBV];simp
 have ab:(zBS g).nodes.length=(zAI g).length:=by simp[zBS]
 refine⟨by show (0:Int)=_;rw[ad];rfl,ac,?_,?_,?_,?_⟩
 ·intro x h0 h1;rw[ab] at h1;have hx:x.toNat<(zAI g).length:=by omega
  refine⟨(zAI g)[x.toNat],(aa _).1 (List.getElem_mem hx),?_⟩;have hm:=List.getElem_mem hx;obtain⟨h3,h4⟩:=zFf hm;rw[zgG h3] at h4;have:=(List.getElem_inj (zCR g).2).1 (Option.some.inj h4);show ((zBV (zAI g) (zAI g)[x.toNat]:Nat):Int)=x;omega
 ·intro i hi;have:=(zFf ((aa i).2 hi)).1;rw[ab];exact⟨by omega,by omega⟩
 ·intro i j hi hj _ he;have he:((zBV (zAI g) i:Nat):Int)=(zBV (zAI g) j:Nat):=he;have h1:=(zFf ((aa i).2 hi)).2;have h2:=(zFf ((aa j).2 hj)).2;have:zBV (zAI g) i=zBV (zAI g) j:=by omega
  rw[this,h2] at h1;exact(Option.some.inj h1).symm
 ·refine zGH (by show (0:Int)<=0;decide) ?_ ?_ ?_
  ·show (0:Int)<_;rw[ab,hl];simp
  ·rw[ab];have:=zMz hc;have:=(zAN hc).2.2.1;omega
  ·intro n hn;obtain⟨i,hi,rfl⟩:=List.mem_map.1 hn;have ae:=(aa i).1 hi;rw[ab];refine zJl ((zAs hc).2 _ (zDe (ae.ok hc))) (fun a=>(zBV (zAI g) a:Int)) fun a ha=>?_;have:=(zFf ((aa a).2 (ae.step ha))).1;exact⟨by omega,by omega⟩
end Go.Ab.S
end
section
namespace Go.Ab.S
open Go.Ab
def Least(L:Graph):Prop:=∀E:Int->Int->Prop,(∀x y,E x y->(0<=x/\x<L.nodes.length)/\(0<=y/\y<L.nodes.length)/\(x=y\/(zAP (zAA L x)=false/\zAP (zAA L y)=false/\(zAA L x).kind=(zAA L y).kind/\(zAA L x).name=(zAA L y).name/\(zAA L x).labels=(zAA L y).labels/\(zAA L x).args.length=(zAA L y).args.length∧
 ∀(k:Nat) (a b:Int),(zAA L x).args[k]?=some a->(zAA L y).args[k]?=some b->E a b)))->∀x y,E x y->x=y
theorem zIA(g:Graph)(i:Nat):zAA g (i:Int)=g.nodes.getD i zAj:=rfl
def clsG(g:Graph):Graph:=⟨g.nodes.map (mapN (zAF g)),clAt (zAF g) g.root⟩
theorem zKT{g:Graph}(hc:zAB g=0){a:Int}(ha:0<=a/\a<g.nodes.length):0<=clAt (zAF g) a/\clAt (zAF g) a<g.nodes.length/\clAt (zAF g) a<=a/\clAt (zAF g) (clAt (zAF g) a)=clAt (zAF g) a:=by obtain⟨k,rfl⟩:∃k:Nat,a=(k:Int):=⟨a.toNat,by omega⟩;obtain⟨j,h1,h2,h3⟩:=(zIk hc).2.le k (by omega);rw[h1];exact⟨by omega,by omega,by omega,h3⟩
theorem zJV{g:Graph}{a:Int}(ha:0<=a/\a<g.nodes.length):zAA (clsG g) a=mapN (zAF g) (zAA g a):=by
 have hk:a.toNat<g.nodes.length:=by omega
 simp only[zAA,clsG,List.getD,zgM,zgG hk];rfl
theorem zDx{g:Graph}(hc:zAB g=0):zAB (clsG g)=0:=by
 obtain⟨h1,h2,h3,h4⟩:=zAN hc;have hr:=zKT hc ⟨h1,h2⟩;have hl:(clsG g).nodes.length=g.nodes.length:=by simp[clsG]
 refine zGH hr.1 (by rw[hl];exact hr.2.1) (by rw[hl];exact h3) fun n hn=>?_;obtain⟨m,hm,rfl⟩:=List.mem_map.1 hn;rw[hl];refine zJl (h4 m hm) (clAt (zAF g)) fun a ha=>?_;have:=zKT hc (zAh (h4 m hm) a ha);exact⟨this.1,this.2.1⟩
theorem zMP{g:Graph}(hc:zAB g=0){a b:Int}(ha:0<=a/\a<g.nodes.length)(hb:0<=b/\b<g.nodes.length)(he:clAt (zAF g) a=clAt (zAF g) b):
  ((zAP (zAA g a)=true\/zAP (zAA g b)=true)->a=b)/\(zAA g a).kind=(zAA g b).kind/\(zAA g a).name=(zAA g b).name/\(zAA g a).labels=(zAA g b).labels/\(zAA g a).args.map (clAt (zAF g))=(zAA g b).args.map (clAt (zAF g))/\zAP (zAA g a)=zAP (zAA g b):=by
 obtain⟨i,rfl⟩:∃k:Nat,a=(k:Int):=⟨a.toNat,by omega⟩;obtain⟨j,rfl⟩:∃k:Nat,b=(k:Int):=⟨b.toNat,by omega⟩;obtain⟨h1,h2⟩:=zEX hc (i:=i) (j:=j) (by omega) (by omega) he;exact⟨fun h=>by rw[h1 h],h2⟩
theorem zOz{n:Node}{N:Int}(h:mayF n N=true):zAP n=false->n.isOpen=false:=by intro hf;simp only[zAP,Bool.or_eq_false_iff] at hf;exact hf.2
theorem zJU{g:Graph}(hc:zAB g=0){a b:Int}(ha:0<=a/\a<g.nodes.length)(hb:0<=b/\b<g.nodes.length)(he:clAt (zAF g) a=clAt (zAF g) b):mapN (zAF g) (zAA g a)=mapN (zAF g) (zAA g b):=by
 obtain⟨h0,h1,h2,h3,h4,h5⟩:=zMP hc ha hb he;by_cases hf:zAP (zAA g a)=true
 ·rw[h0 (.inl hf)]
 ·have aa:zAP (zAA g a)=false:=by simpa using hf
  have ab:zAP (zAA g b)=false:=by rw[<-h5];exact aa
  have oa:=zOz ((zAs hc).2 _ (zDe ha)) aa;have ob:=zOz ((zAs hc).2 _ (zDe hb)) ab;generalize zAA g a=n at*;generalize zAA g b=m at*;obtain⟨k,nm,ar,lb,op⟩:=n;obtain⟨k',nm',ar',lb',op'⟩:=m;simp only at*;subst h1;subst h2;subst h3;subst oa;subst ob;simp only[mapN,h4]
theorem zGi{g:Graph}(hc:zAB g=0){a:Int}(h:Rch g a):Rch (clsG g) (clAt (zAF g) a):=by
 induction h with
 |root=>exact .root
 | @step a b ha hb ih=>
  have ab:=ha.ok hc;have aa:=zKT hc ab;refine .step ih ?_;rw[zJV ⟨aa.1,aa.2.1⟩,zJU hc ⟨aa.1,aa.2.1⟩ ab aa.2.2.2];exact List.mem_map.2 ⟨b,hb,rfl⟩
theorem zPw{g:Graph}(hc:zAB g=0){x:Int}(h:Rch (clsG g) x):∃a,Rch g a/\clAt (zAF g) a=x:=by
 induction h with
 |root=>exact⟨_,.root,rfl⟩
 | @step x y hx hy ih=>
  obtain⟨a,ha,rfl⟩:=ih;have ab:=ha.ok hc;have aa:=zKT hc ab;rw[zJV ⟨aa.1,aa.2.1⟩,zJU hc ⟨aa.1,aa.2.1⟩ ab aa.2.2.2] at hy;obtain⟨b,hb,rfl⟩:=List.mem_map.1 hy;exact⟨b,ha.step hb,rfl⟩
def qL(g:Graph)(a:Int):Int:=(zBV (zAI (clsG g)) (clAt (zAF g) a):Nat)
theorem zKj{g:Graph}(hc:zAB g=0):zBA g=zBS (clsG g):=by rw[zBA,if_pos hc];rfl
theorem zCX{g:Graph}(hc:zAB g=0):Quo g (zBA g) (qL g):=by
 have T:=zHX (zDx hc);rw[zKj hc];refine⟨T.root,fun i hi=>?_,fun x h0 h1=>?_,fun i hi=>T.range _ (zGi hc hi),fun i j hi hj hf he=>?_,T.check⟩
 ·have ab:=hi.ok hc;have aa:=zKT hc ab;have:=T.node _ (zGi hc hi);rw[zJV ⟨aa.1,aa.2.1⟩,zJU hc ⟨aa.1,aa.2.1⟩ ab aa.2.2.2] at this;refine Eq.trans this ?_;simp only[mapN,List.map_map];rfl
 ·obtain⟨y,hy,rfl⟩:=T.surj x h0 h1;obtain⟨a,ha,rfl⟩:=zPw hc hy;exact⟨a,ha,rfl⟩
 ·have ab:=hi.ok hc;have ad:=hj.ok hc;have h1:=(zFf ((zEH (zDx hc) _).2 (zGi hc hi))).2;have h2:=(zFf ((zEH (zDx hc) _).2 (zGi hc hj))).2;have he:((zBV (zAI (clsG g)) (clAt (zAF g) i):Nat):Int)=(zBV (zAI (clsG g)) (clAt (zAF g) j):Nat):=he;have ac:zBV (zAI (clsG g)) (clAt (zAF g) i)=zBV (zAI (clsG g)) (clAt (zAF g) j):=by omega
  rw[ac,h2] at h1;exact(zMP hc ab ad (Option.some.inj h1).symm).1 (.inl hf)
theorem zTd{g:Graph}(hc:zAB g=0){i j:Int}(hi:Rch g i)(hj:Rch g j)(he:qL g i=qL g j):clAt (zAF g) i=clAt (zAF g) j:=by
 have h1:=(zFf ((zEH (zDx hc) _).2 (zGi hc hi))).2;have h2:=(zFf ((zEH (zDx hc) _).2 (zGi hc hj))).2;have he:((zBV (zAI (clsG g)) (clAt (zAF g) i):Nat):Int)=(zBV (zAI (clsG g)) (clAt (zAF g) j):Nat):=he;have aa:zBV (zAI (clsG g)) (clAt (zAF g) i)=zBV (zAI (clsG g)) (clAt (zAF g) j):=by omega
 rw[aa,h2] at h1;exact(Option.some.inj h1).symm
theorem zLd{g:Graph}(hc:zAB g=0):Least (zBA g):=by
 have Q:=zCX hc;intro E hE x y hxy;obtain⟨⟨x0,x1⟩,⟨y0,y1⟩,_⟩:=hE x y hxy;obtain⟨i,hi,rfl⟩:=Q.surj x x0 x1;obtain⟨j,hj,rfl⟩:=Q.surj y y0 y1;have key:clAt (zAF g) ((i.toNat:Nat):Int)=clAt (zAF g) ((j.toNat:Nat):Int):=by
  refine zHC (E:=fun a b=>Rch g (a:Int)/\Rch g (b:Int)/\(qL g (a:Int)=qL g (b:Int)\/E (qL g (a:Int)) (qL g (b:Int)))) ?_ ?_
  ·rintro a b ⟨ha,hb,hab⟩;have hra:=ha.ok hc;have hrb:=hb.ok hc;refine⟨by omega,by omega,?_⟩;have h:=show _\/_ from(by
    rcases hab with h|h
    ·exact .inl h
    ·exact(hE _ _ h).2.2)
   have na:=Q.node _ ha;have nb:=Q.node _ hb;rw[<-zIA,<-zIA];by_cases hf:zAP (zAA g (a:Int))=true
   ·refine .inl ?_;rcases h with h|⟨h,_⟩
    ·have:=Q.inj _ _ ha hb hf h;omega
    ·rw[na] at h;have:zAP (zAA g (a:Int))=false:=h;rw[hf] at this;cases this
   by_cases af:zAP (zAA g (b:Int))=true
   ·refine .inl ?_;rcases h with h|⟨_,h,_⟩
    ·have:=Q.inj _ _ hb ha af h.symm;omega
    ·rw[nb] at h;have:zAP (zAA g (b:Int))=false:=h;rw[af] at this;cases this
   refine .inr ⟨by simpa using hf,by simpa using af,?_⟩;have ah:(zAA g (a:Int)).kind=(zAA g (b:Int)).kind/\(zAA g (a:Int)).name=(zAA g (b:Int)).name/\(zAA g (a:Int)).labels=(zAA g (b:Int)).labels/\(zAA g (a:Int)).args.length=(zAA g (b:Int)).args.length∧
     ∀(k:Nat) (c d:Int),(zAA g (a:Int)).args[k]?=some c->(zAA g (b:Int)).args[k]?=some d->(qL g c=qL g d\/E (qL g c) (qL g d)):=by
    rcases h with h|⟨_,_,h1,h2,h3,h4,h5⟩
    ·rw[h] at na;rw[na] at nb;have e0:=congrArg Node.kind nb;have aa:=congrArg Node.name nb;have ab:=congrArg Node.labels nb;have ae:=congrArg Node.args nb;simp only at e0 aa ab ae;refine⟨e0,aa,ab,by simpa using congrArg List.length ae,fun k c d ac ad=>?_⟩;have:=congrArg (fun l=>l[k]?) ae;simp only[zgM,ac,ad,Option.map_some,oI] at this;exact .inl this
    ·rw[na,nb] at h1 h2 h3 h4 h5;simp only at h1 h2 h3 h4 h5;refine⟨h1,h2,h3,by simpa using h4,fun k c d ac ad=>?_⟩;exact .inr <| h5 k _ _ (by rw[zgM,ac];rfl) (by rw[zgM,ad];rfl)
   obtain⟨h1,h2,h3,h4,h5⟩:=ah;refine⟨h1,h2,h3,h4,fun k c d ac ad=>?_⟩;have hc1:=ha.step (List.mem_of_getElem? ac);have hd1:=hb.step (List.mem_of_getElem? ad);have hc2:=hc1.ok hc;have hd2:=hd1.ok hc;have aa:((c.toNat:Nat):Int)=c:=by omega
   have ab:((d.toNat:Nat):Int)=d:=by omega
   show Rch g ((c.toNat:Nat):Int)/\Rch g ((d.toNat:Nat):Int)/\(qL g ((c.toNat:Nat):Int)=qL g ((d.toNat:Nat):Int)\/E (qL g ((c.toNat:Nat):Int)) (qL g ((d.toNat:Nat):Int)));rw[aa,ab];exact⟨hc1,hd1,h5 k c d ac ad⟩
  ·have aa:((i.toNat:Nat):Int)=i:=by have:=hi.ok hc;omega
   have ab:((j.toNat:Nat):Int)=j:=by have:=hj.ok hc;omega
   rw[aa,ab];exact⟨hi,hj,.inr hxy⟩
 have aa:((i.toNat:Nat):Int)=i:=by have:=hi.ok hc;omega
 have ab:((j.toNat:Nat):Int)=j:=by have:=hj.ok hc;omega
 rw[aa,ab] at key;show ((zBV (zAI (clsG g)) (clAt (zAF g) i):Nat):Int)=(zBV (zAI (clsG g)) (clAt (zAF g) j):Nat);rw[key]
end Go.Ab.S
end
section
namespace Go.Ab.S
open Go.Ab
theorem zCY:∀(ns:List Node) (i:Nat),zAU [] ns i=(ns.map fun n=>n.args.length).sum
 |[],_=>rfl
 |n::r,i=>by simp only[zAU,List.map_cons,List.sum_cons,zCY r (i+1)];simp
theorem zGB(g:Graph):(allN g.nodes.length).map (zAA g)=g.nodes:=by
 apply List.ext_getElem?;intro i;simp only[allN,List.map_map,zgM];by_cases hi:i<g.nodes.length
 ·rw[List.getElem?_range hi];simp[zAA,hi]
 ·rw[List.getElem?_eq_none (by simpa using hi),List.getElem?_eq_none (by simpa using hi)];rfl
theorem zPb{g:Graph}(hg:GTi g)(hc:zAB g=0):GTi (zBS g):=by
 have aa:(zBS g).nodes.length=(zAI g).length:=by simp[zBS]
 have hl:=zMz hc;have ac:zAU [] (zBS g).nodes 0<=zAU [] g.nodes 0:=by
  obtain⟨h1,h2⟩:=zCR g;have:=zLx (fun a=>(zAA g a).args.length) (zAI g) (allN g.nodes.length) h2 fun x hx=>zHU.2 (h1 x hx);rw[zCY,zCY];have e:(g.nodes.map fun n=>n.args.length)=(allN g.nodes.length).map fun a=>(zAA g a).args.length:=by
   conv=>lhs;rw[<-zGB g]
   rw[List.map_map];rfl
  rw[e];simp only[zBS,List.map_map];have e2:((fun n:Node=>n.args.length)∘fun i=>zCz (zAI g) (zAA g i))=fun a=>(zAA g a).args.length:=by funext a;simp[zCz]
  rw[e2];exact this
 have ab:∀n∈(zBS g).nodes,∃m∈g.nodes,n.args.length=m.args.length/\n.labels=m.labels:=by intro n hn;obtain⟨i,hi,rfl⟩:=List.mem_map.1 hn;exact⟨_,zDe ((zCR g).1 i hi),by simp[zCz],rfl⟩
 have ht:=hg.tinyN;have ad:=hg.total;refine⟨⟨⟨by rw[aa];have:=hg.nodes;omega,fun n hn=>?_⟩,by rw[aa];omega,fun n hn=>?_⟩,by rw[aa];omega,fun n hn=>?_⟩
 ·obtain⟨m,hm,h1,h2⟩:=ab n hn;have:=hg.all m hm;exact⟨by rw[h1];exact this.args,by rw[h2];exact this.labels,by rw[h2];exact this.texts⟩
 ·obtain⟨m,hm,h1,h2⟩:=ab n hn;rw[h2];exact hg.labs m hm
 ·obtain⟨m,hm,h1,h2⟩:=ab n hn;rw[h1];exact hg.tinyA m hm
theorem zNP{g:Graph}(hg:GTi g)(hc:zAB g=0):GTi (zBA g):=by rw[zKj hc];exact zPb (hg.map _ _) (zDx hc)
end Go.Ab.S
end
section
namespace Go.Ab.S
open Go.Ab
def idxI(x y:Node)(i:Nat):Nat:=if x.kind==3 then bsAt y.labels (x.labels.getD i []) else i
def zGC(x y:Node):Bool:=if x.kind==3 then x.labels.all (bsIs y.labels) else true
def fwdI(x y:Node):List Pr:=(List.range x.args.length).map fun i=>(x.args.getD i 0,y.args.getD (idxI x y i) 0)
structure Fit(x y:Node):Prop where
 obj:x.kind=3->x.labels.length=x.args.length/\y.labels.length=y.args.length/\Rises y.labels
 con:x.kind≠3->y.args.length=x.args.length
 small:x.args.length<=4096/\y.args.length<=4096
theorem zNu{l:List (List Nat)}{s:List Nat}(h:bsIs l s=true):bsAt l s<l.length:=by
 unfold bsIs at h;split at h
 ·rename_i x hx;exact(zgS.1 hx).1
 ·cases h
def okN(x y:Node):Bool:=x.kind==1||(((x.kind==y.kind&&eqL x.name y.name)&&(x.isOpen||(!y.isOpen&&eqLL x.labels y.labels)))&&zGC x y)
def nxN(x y:Node):List Pr:=if x.kind==1 then [] else (fwdI x y).reverse
def okI(g h:Graph)(p:Pr):Bool:=okN (zAA g p.1) (zAA h p.2)
def nxI(g h:Graph)(p:Pr):List Pr:=nxN (zAA g p.1) (zAA h p.2)
def badI(g:Graph)(p q:Pr):Bool:=zAP (zAA g p.1)&&p.1==q.1
theorem zOY{g h:Graph}(hg:GTi g)(hh:GTi h)(cg:zAB g=0)(ch:zAB h=0){x y:Node}(hx:x∈g.nodes)(hy:y∈h.nodes)(hk:x.kind=y.kind)(hn:x.name=y.name)(h1:x.kind≠1):Fit x y:=by
 have mx:=zAH ((zAs cg).2 x hx);have my:=zAH ((zAs ch).2 y hy);have t1:=hg.tinyA x hx;have t2:=hh.tinyA y hy;refine⟨fun hk3=>?_,fun hk3=>?_,by omega,by omega⟩
 ·rcases mx with⟨k,_⟩|⟨k,_⟩|⟨k,_,l1,_⟩
  ·omega
  ·omega
  rcases my with⟨k',_⟩|⟨k',_⟩|⟨k',_,l2,r2⟩
  ·omega
  ·omega
  exact⟨l1,l2,zBD r2⟩
 ·rcases mx with⟨k,_⟩|⟨k,_,_,_,l1⟩|⟨k,_,l1,_⟩
  ·omega
  ·rcases my with⟨k',_⟩|⟨k',_,_,_,l2⟩|⟨k',_,_⟩
   ·omega
   ·rw[l1,l2,hn]
   ·omega
  ·omega
def isF(g h:Graph):Bool:=zAB g==0&&(zAB h==0&&zEi (okI g (zBA h)) (nxI g (zBA h)) (badI g) (2+zDI (nxI g (zBA h)) [] (zBg g (zBA h))) [(g.root,(zBA h).root)] [])
theorem zTZ{g h:Graph}(hg:GTi g)(hh:GTi h)(cg:zAB g=0)(ch:zAB h=0){p:Pr}(hp:p∈zBg g h)(ho:okI g h p=true):∀q∈nxI g h p,q∈zBg g h:=by
 intro q hq;obtain⟨⟨a0,a1⟩,b0,b1⟩:=zBI.1 hp;have hx:=zDK a0 a1;have hy:=zDK b0 b1;simp only[okI,okN,Bool.or_eq_true,Bool.and_eq_true,beq_iff_eq] at ho;simp only[nxI,nxN] at hq;split at hq
 ·cases hq
 ·rename_i af;have ad:(zAA g p.1).kind≠1:=by simpa using af
  rcases ho with ho|⟨⟨⟨h1,h2⟩,_⟩,h4⟩
  ·exact absurd ho ad
  have hf:=zOY hg hh cg ch hx hy h1 (zAx.1 h2) ad;simp only[fwdI,List.mem_reverse,List.mem_map,List.mem_range] at hq;obtain⟨i,hi,rfl⟩:=hq;have ac:idxI (zAA g p.1) (zAA h p.2) i<(zAA h p.2).args.length:=by
   by_cases ab:(zAA g p.1).kind=3
   ·obtain⟨q1,q2,q3⟩:=hf.obj ab;have aa:((zAA g p.1).kind==3)=true:=by simpa using ab
    rw[zGC,aa] at h4;simp only[if_true,List.all_eq_true] at h4;have ae:i<(zAA g p.1).labels.length:=by omega
    have:=zNu (h4 _ (List.getElem_mem ae));rw[idxI,aa];simp only[if_true,List.getD,zgG ae,Option.getD_some];omega
   ·have aa:((zAA g p.1).kind==3)=false:=by simpa using ab
    rw[idxI,aa,hf.con ab];simpa using hi
  simp only[List.getD,zgG hi,zgG ac,Option.getD_some];exact zBI.2 ⟨zAh ((zAs cg).2 _ hx) _ (List.getElem_mem hi),zAh ((zAs ch).2 _ hy) _ (List.getElem_mem ac)⟩
theorem zGx{g:Graph}(h1:g.nodes.length+zAU [] g.nodes 0<=4096)(h2:∀n∈g.nodes,n.labels.length<=4096/\∀s∈n.labels,s.length<2 ^ 60):GTi g:=by
 have aa:(2:Nat) ^ 30=1073741824:=by decide
 have ab:(2:Nat) ^ 60=1152921504606846976:=by decide
 refine⟨⟨⟨by omega,fun n hn=>⟨?_,?_,(h2 n hn).2⟩⟩,by omega,fun n hn=>?_⟩,by omega,fun n hn=>?_⟩
 ·have:=zDH g.nodes 0 n hn;omega
 ·have:=(h2 n hn).1;omega
 ·have:=(h2 n hn).1;omega
 ·have:=zDH g.nodes 0 n hn;omega
end Go.Ab.S
end
section
namespace Go.Ab.S
open Go.Ab
structure InstR(g L:Graph)(S:Int->Int->Prop):Prop where
 root:S g.root L.root
 range:∀a b,S a b->(0<=a/\a<g.nodes.length)/\(0<=b/\b<L.nodes.length)
 node:∀a b,S a b->(zAA g a).kind=1\/((zAA g a).kind≠1/\(zAA g a).kind=(zAA L b).kind/\(zAA g a).name=(zAA L b).name/\((zAA g a).isOpen=true\/((zAA L b).isOpen=false/\(zAA g a).labels=(zAA L b).labels))/\zGC (zAA g a) (zAA L b)=true∧
  ∀i,i<(zAA g a).args.length->S ((zAA g a).args.getD i 0) ((zAA L b).args.getD (idxI (zAA g a) (zAA L b) i) 0))
 one:∀a b c,S a b->S a c->zAP (zAA g a)=true->b=c
structure SameR(g h:Graph)(R:Int->Int->Prop):Prop where
 root:R g.root h.root
 range:∀a b,R a b->(0<=a/\a<g.nodes.length)/\(0<=b/\b<h.nodes.length)
 node:∀a b,R a b->(zAA g a).kind=(zAA h b).kind/\(zAA g a).name=(zAA h b).name/\(zAA g a).isOpen=(zAA h b).isOpen/\(zAA g a).labels=(zAA h b).labels/\(zAA g a).args.length=(zAA h b).args.length∧
  ∀i,i<(zAA g a).args.length->R ((zAA g a).args.getD i 0) ((zAA h b).args.getD i 0)
 one:∀a b c,R a b->R a c->zAP (zAA g a)=true->b=c
 one':∀a b c,R a c->R b c->zAP (zAA g a)=true->a=b
theorem SameR.flip{g h:Graph}{R:Int->Int->Prop}(k:SameR g h R):SameR h g (fun a b=>R b a):=by
 have hf:∀a b,R a b->zAP (zAA h b)=true->zAP (zAA g a)=true:=fun a b aa hf=>by obtain⟨h1,_,h3,_⟩:=k.node a b aa;simpa only[zAP,h1,h3] using hf
 refine⟨k.root,fun a b aa=>(k.range b a aa).symm,fun a b aa=>?_,fun a b c h1 h2 h3=>k.one' b c a h1 h2 (hf _ _ h1 h3),fun a b c h1 h2 h3=>k.one c a b h1 h2 (hf _ _ h1 h3)⟩;obtain⟨h1,h2,h3,h4,h5,h6⟩:=k.node b a aa;exact⟨h1.symm,h2.symm,h3.symm,h4.symm,h5.symm,fun i hi=>h6 i (by omega)⟩
theorem zSI{g h:Graph}(hg:GTi g)(hh:GTi h)(cg:zAB g=0)(ch:zAB h=0):isF g h=true↔∃S,InstR g (zBA h) S:=by
 have cL:=(zCX ch).check;have tL:=zNP hh ch;have rg:=zAN cg;have rL:=zAN cL;have e:isF g h=zEi (okI g (zBA h)) (nxI g (zBA h)) (badI g) (2+zDI (nxI g (zBA h)) [] (zBg g (zBA h))) [(g.root,(zBA h).root)] []:=by rw[isF,cg,ch];rfl
 have hsym:∀p q:Pr,badI g p q=badI g q p:=fun p q=>by
  unfold badI;by_cases ab:p.1=q.1
  ·rw[ab]
  ·have h1:(p.1==q.1)=false:=by simpa using ab
   have h2:(q.1==p.1)=false:=by simpa using fun h=>ab h.symm
   rw[h1,h2];simp
 rw[e,zNB _ _ _ hsym (ps:=zBg g (zBA h)) _ (zBI.2 ⟨⟨rg.1,rg.2.1⟩,rL.1,rL.2.1⟩) fun p hp ho=>zTZ hg tL cg cL hp ho];constructor
 ·rintro⟨S,h1,h2,h3⟩;refine⟨fun a b=>S (a,b),h1,fun a b aa=>zBI.1 (h2 _ aa).1,fun a b aa=>?_,fun a b c aa hac hf=>?_⟩
  ·obtain⟨_,ho,hn⟩:=h2 _ aa;simp only[okI,okN,Bool.or_eq_true,Bool.and_eq_true,beq_iff_eq,zAx,zHQ,Bool.not_eq_true'] at ho;by_cases hk:(zAA g a).kind=1
   ·exact .inl hk
   ·rcases ho with ho|⟨⟨⟨k1,k2⟩,k3⟩,k4⟩
    ·exact absurd ho hk
    refine .inr ⟨hk,k1,k2,k3,k4,fun i hi=>?_⟩;refine hn _ ?_;have ac:((zAA g a).kind==1)=false:=by simpa using hk
    simp only[nxI,nxN,ac,Bool.false_eq_true,if_false,fwdI,List.mem_reverse,List.mem_map,List.mem_range];exact⟨i,hi,rfl⟩
  ·apply Classical.byContradiction;intro hbc;have:=h3 _ _ aa hac (fun hh=>hbc (Prod.mk.inj hh).2);simp[badI,hf] at this
 ·rintro⟨S,k⟩;refine⟨fun p=>S p.1 p.2,k.root,fun p hp=>⟨zBI.2 (k.range _ _ hp),?_,fun q hq=>?_⟩,fun p q hp hq ab=>?_⟩
  ·simp only[okI,okN,Bool.or_eq_true,Bool.and_eq_true,beq_iff_eq,zAx,zHQ,Bool.not_eq_true'];rcases k.node _ _ hp with h1|⟨_,h1,h2,h3,h4,_⟩
   ·exact .inl h1
   ·exact .inr ⟨⟨⟨h1,h2⟩,h3⟩,h4⟩
  ·simp only[nxI,nxN] at hq;split at hq
   ·cases hq
   ·rename_i hk;have ac:(zAA g p.1).kind≠1:=by simpa using hk
    simp only[fwdI,List.mem_reverse,List.mem_map,List.mem_range] at hq;obtain⟨i,hi,rfl⟩:=hq;rcases k.node _ _ hp with h1|⟨_,_,_,_,_,h5⟩
    ·exact absurd h1 ac
    ·exact h5 i hi
  ·cases hb:badI g p q with
   |false=>rfl
   |true=>
    simp only[badI,Bool.and_eq_true,beq_iff_eq] at hb;have:=k.one p.1 p.2 q.2 hp (by rw[hb.2];exact hq) hb.1;exact absurd (Prod.ext hb.2 this) ab
theorem zIu{n:Node}{N:Int}(h:mayF n N=true):zEo n=zAP n:=by
 rcases zAH h with⟨k,_,o,_⟩|⟨k,_,o,_⟩|⟨k,_⟩
 ·simp[zEo,zAP,k]
 ·simp[zEo,zAP,k,o]
 ·simp[zEo,zAP,k]
theorem zPg{a b:List Int}{q:Pr}:q∈List.zip a b↔∃i,i<a.length/\i<b.length/\q=(a.getD i 0,b.getD i 0):=by
 constructor
 ·intro hq;obtain⟨i,hi,rfl⟩:=List.mem_iff_getElem.1 hq;rw[List.length_zip] at hi;refine⟨i,by omega,by omega,?_⟩;rw[List.getElem_zip,List.getD,List.getD,zgG (by omega),zgG (by omega)];rfl
 ·rintro⟨i,h1,h2,rfl⟩;have hz:i<(List.zip a b).length:=by rw[List.length_zip];omega
  have:=List.getElem_mem hz;rw[List.getElem_zip] at this;rw[List.getD,List.getD,zgG h1,zgG h2];exact this
theorem zPL{g h:Graph}(cg:zAB g=0)(ch:zAB h=0):zGc g h=true↔∃R,SameR g h R:=by
 have rg:=zAN cg;have rh:=zAN ch;have e:zGc g h=zEi (okS g h) (nxS g h) (badS g) (2+zDI (nxS g h) [] (zBg g h)) [(g.root,h.root)] []:=by rw[zGc,cg,ch];rfl
 have hsym:∀p q:Pr,badS g p q=badS g q p:=fun p q=>by unfold badS;rw[Bool.eq_iff_iff];simp only[Bool.and_eq_true,Bool.or_eq_true,beq_iff_eq];constructor<;>rintro⟨h1,h2,h3⟩<;>exact⟨h2,h1,h3.elim (fun h=>.inl h.symm) (fun h=>.inr h.symm)⟩
 rw[e,zNB _ _ _ hsym (ps:=zBg g h) _ (zBI.2 ⟨⟨rg.1,rg.2.1⟩,rh.1,rh.2.1⟩) fun p hp _=>zRe cg ch hp];have ac:∀x y:Node,zCe x y=true↔x.kind=y.kind/\x.name=y.name/\x.isOpen=y.isOpen/\x.labels=y.labels/\x.args.length=y.args.length:=fun x y=>by
  simp only[zCe,Bool.and_eq_true,beq_iff_eq,zAx,zHQ];constructor
  ·rintro⟨⟨⟨⟨h1,h2⟩,h3⟩,h4⟩,h5⟩;exact⟨h1,h2,h3,h5,h4⟩
  ·rintro⟨h1,h2,h3,h4,h5⟩;exact⟨⟨⟨⟨h1,h2⟩,h3⟩,h5⟩,h4⟩
 constructor
 ·rintro⟨S,h1,h2,h3⟩;have hfr:∀p,S p->zEo (zAA g p.1)=zAP (zAA g p.1):=fun p hp=>by
   obtain⟨⟨a0,a1⟩,_⟩:=zBI.1 (h2 _ hp).1;exact zIu ((zAs cg).2 _ (zDK a0 a1))
  refine⟨fun a b=>S (a,b),h1,fun a b aa=>zBI.1 (h2 _ aa).1,fun a b aa=>?_,fun a b c aa ab hf=>?_,fun a b c ab ad hf=>?_⟩
  ·obtain⟨_,ho,hn⟩:=h2 _ aa;obtain⟨k1,k2,k3,k4,k5⟩:=(ac _ _).1 ho;refine⟨k1,k2,k3,k4,k5,fun i hi=>hn _ ?_⟩;have k5':(zAA g a).args.length=(zAA h b).args.length:=k5;simp only[nxS,List.mem_reverse];exact zPg.2 ⟨i,hi,by omega,rfl⟩
  ·apply Classical.byContradiction;intro ad;have:=h3 _ _ aa ab (fun hh=>ad (Prod.mk.inj hh).2);rw[<-hfr _ aa] at hf;simp[badS,hf] at this
  ·apply Classical.byContradiction;intro aa;have:=h3 _ _ ab ad (fun hh=>aa (Prod.mk.inj hh).1);rw[<-hfr _ ab] at hf;have hf2:zEo (zAA g b)=true:=by
    have q1:=(ac _ _).1 (h2 _ ab).2.1;have q2:=(ac _ _).1 (h2 _ ad).2.1;simp only at q1 q2;simpa only[zEo,q1.1,q1.2.2.1,<-q2.1,<-q2.2.2.1] using hf
   simp[badS,hf,hf2] at this
 ·rintro⟨R,k⟩;refine⟨fun p=>R p.1 p.2,k.root,fun p hp=>⟨zBI.2 (k.range _ _ hp),?_,fun q hq=>?_⟩,fun p q hp hq hpq=>?_⟩
  ·obtain⟨h1,h2,h3,h4,h5,_⟩:=k.node _ _ hp;exact(ac _ _).2 ⟨h1,h2,h3,h4,h5⟩
  ·simp only[nxS,List.mem_reverse] at hq;obtain⟨i,h1,_,rfl⟩:=zPg.1 hq;exact(k.node _ _ hp).2.2.2.2.2 i h1
  ·cases hb:badS g p q with
   |false=>rfl
   |true=>
    simp only[badS,Bool.and_eq_true,Bool.or_eq_true,beq_iff_eq] at hb;obtain⟨⟨a0,a1⟩,_⟩:=k.range _ _ hp;have hf:zAP (zAA g p.1)=true:=by rw[<-zIu ((zAs cg).2 _ (zDK a0 a1))];exact hb.1
    rcases hb.2.2 with h|h
    ·have:=k.one p.1 p.2 q.2 hp (by rw[h];exact hq) hf;exact absurd (Prod.ext h this) hpq
    ·have:=k.one' p.1 q.1 p.2 hp (by rw[h];exact hq) hf;exact absurd (Prod.ext this h) hpq
theorem zJQ{l:List (List Nat)}(hr:Rises l){i:Nat}{s:List Nat}(h:l[i]?=some s):bsAt l s=i/\bsIs l s=true:=by
 have hi:i<l.length:=(zgS.1 h).1;have h1:bsAt l s=i:=zPp hr (by omega) (fun j x hj hx=>hr j i hj x s hx h) (fun j x hj hx=>by
  rcases Nat.eq_or_lt_of_le hj with rfl|hj
  ·rw[h] at hx;cases hx;exact zCO s
  ·cases hc:zAn x s with
   |false=>rfl
   |true=>exact absurd (zBj (hr i j hj s x h hx) hc) (by rw[zCO];simp))
 refine⟨h1,?_⟩;rw[bsIs,h1,h];exact zAx.2 rfl
theorem zSy{l:List (List Nat)}{s:List Nat}(h:bsIs l s=true):l[bsAt l s]?=some s:=by
 unfold bsIs at h;split at h
 ·rename_i x hx;rw[hx,zAx.1 h]
 ·cases h
theorem zEg{l:List (List Nat)}(hr:Rises l){i j:Nat}{s:List Nat}(h1:l[i]?=some s)(h2:l[j]?=some s):i=j:=by rw[<-(zJQ hr h1).1,(zJQ hr h2).1]
theorem zFD:∀{a b:List (List Nat)},Rises a->Rises b->(∀s,s∈a↔s∈b)->a=b
 |[],[],_,_,_=>rfl
 |[],y::b,_,_,h=>by have:=(h y).2 (by simp);cases this
 |x::a,[],_,_,h=>by have:=(h x).1 (by simp);cases this
 |x::a,y::b,ra,rb,h=>by
  have aa:∀{z:List Nat} {l:List (List Nat)},Rises (z::l)->Rises l/\∀s∈l,zAn z s=true:=fun {z l} hr=>by refine⟨fun i j hij u v hu hv=>hr (i+1) (j+1) (by omega) u v (by simpa using hu) (by simpa using hv),fun s hs=>?_⟩;obtain⟨i,hi,rfl⟩:=List.mem_iff_getElem.1 hs;exact hr 0 (i+1) (by omega) z _ rfl (by simp)
  have ab:x=y:=by
   rcases zFA x y with hl|hl|hl
   ·have:=(h x).1 (by simp);rcases List.mem_cons.1 this with h'|h'
    ·exact h'
    ·have:=(aa rb).2 x h';exact absurd (zBj hl this) (by rw[zCO];simp)
   ·exact hl
   ·have:=(h y).2 (by simp);rcases List.mem_cons.1 this with h'|h'
    ·exact h'.symm
    ·have:=(aa ra).2 y h';exact absurd (zBj hl this) (by rw[zCO];simp)
  subst ab;have:a=b:=zFD (aa ra).1 (aa rb).1 fun s=>by
   constructor
   ·intro hs;have:=(h s).1 (by simp[hs]);rcases List.mem_cons.1 this with rfl|h'
    ·have:=(aa ra).2 _ hs;rw[zCO] at this;cases this
    ·exact h'
   ·intro hs;have:=(h s).2 (by simp[hs]);rcases List.mem_cons.1 this with rfl|h'
    ·have:=(aa rb).2 _ hs;rw[zCO] at this;cases this
    ·exact h'
  rw[this]
end Go.Ab.S
end
section
namespace Go.Ab.S
open Go.Ab
section
variable{g h k:Graph}
theorem zLi{L:Graph}{q:Int->Int}(Q:Quo g L q){i:Int}(hi:Rch g i){j:Nat}(hj:j<(zAA g i).args.length):(zAA L (q i)).args.getD j 0=q ((zAA g i).args.getD j 0):=by rw[Q.node i hi];simp only[List.getD,zgM,zgG hj];rfl
theorem zBx{l:List Int}{i:Nat}(h:i<l.length):l.getD i 0∈l:=by rw[List.getD,zgG h];exact List.getElem_mem h
theorem zCr{i:Int}(hi:Rch g i){j:Nat}(hj:j<(zAA g i).args.length):Rch g ((zAA g i).args.getD j 0):=hi.step (zBx hj)
theorem zAV(cg:zAB g=0){a:Int}(ha:0<=a/\a<g.nodes.length):mayF (zAA g a) g.nodes.length=true:=(zAs cg).2 _ (zDe ha)
theorem zEc{x y:Node}{N M:Int}(hx:mayF x N=true)(hl:x.labels=y.labels){i:Nat}(hi:i<x.args.length):idxI x y i=i:=by
 rw[idxI];split
 ·rename_i hk;have hk:x.kind=3:=by simpa using hk
  rcases zAH hx with⟨k',_⟩|⟨k',_⟩|⟨_,_,l1,r1⟩
  ·omega
  ·omega
  have aa:i<x.labels.length:=by omega
  rw[<-hl];refine(zJQ (zBD r1) ?_).1;simp[List.getD,zgG aa]
 ·rfl
theorem zSV{x y:Node}{N:Int}(hx:mayF x N=true)(hl:x.labels=y.labels):zGC x y=true:=by
 rw[zGC];split
 ·rename_i hk;have hk:x.kind=3:=by simpa using hk
  rcases zAH hx with⟨k',_⟩|⟨k',_⟩|⟨_,_,l1,r1⟩
  ·omega
  ·omega
  rw[List.all_eq_true,<-hl];intro s hs;obtain⟨i,hi,rfl⟩:=List.mem_iff_getElem.1 hs;exact(zJQ (zBD r1) (zgG hi)).2
 ·rfl
theorem zEw(cg:zAB g=0)(ch:zAB h=0){R:Int->Int->Prop}(K:SameR g h R):∃S,InstR g (zBA h) S:=by
 have Q:=zCX ch;refine⟨fun a z=>∃b,R a b/\Rch h b/\z=qL h b,⟨_,K.root,.root,Q.root⟩,?_,?_,?_⟩
 ·rintro a _ ⟨b,h1,h2,rfl⟩;exact⟨(K.range a b h1).1,Q.range b h2⟩
 ·rintro a _ ⟨b,h1,h2,rfl⟩;obtain⟨k1,k2,k3,k4,k5,k6⟩:=K.node a b h1;have hm:=zAV cg (K.range a b h1).1;by_cases hk:(zAA g a).kind=1
  ·exact .inl hk
  have hn:=Q.node b h2;have aa:(zAA g a).labels=(zAA (zBA h) (qL h b)).labels:=by rw[hn];exact k4
  refine .inr ⟨hk,by rw[hn];exact k1,by rw[hn];exact k2,?_,zSV hm aa,fun i hi=>?_⟩
  ·cases ho:(zAA g a).isOpen
   ·exact .inr ⟨by rw[hn];show (zAA h b).isOpen=false;rw[<-k3];exact ho,aa⟩
   ·exact .inl rfl
  ·rw[zEc (M:=0) hm aa hi,zLi Q h2 (by omega)];exact⟨_,k6 i hi,zCr h2 (by omega),rfl⟩
 ·rintro a _ _ ⟨b,h1,_,rfl⟩ ⟨b',ab,_,rfl⟩ hf;rw[K.one a b b' h1 ab hf]
theorem zPM(g:Graph)(cg:zAB g=0):∃R,SameR g g R:=
 ⟨fun a b=>a=b/\Rch g a,⟨rfl,.root⟩,fun a b aa=>by obtain⟨rfl,hr⟩:=aa;exact⟨hr.ok cg,hr.ok cg⟩,fun a b aa=>by
  obtain⟨rfl,hr⟩:=aa;exact⟨rfl,rfl,rfl,rfl,rfl,fun i hi=>⟨rfl,zCr hr hi⟩⟩,fun a b c h1 h2 _=>by rw[<-h1.1,<-h2.1],fun a b c h1 h2 _=>by rw[h1.1,h2.1]⟩
theorem zDz(cg:zAB g=0)(ch:zAB h=0){S:Int->Int->Prop}(K:InstR g (zBA h) S){a b:Int}(hb:Rch h b)(hab:S a (qL h b)):
  (zAA g a).kind=1\/((zAA g a).kind≠1/\(zAA g a).kind=(zAA h b).kind/\(zAA g a).name=(zAA h b).name/\((zAA g a).isOpen=true\/((zAA h b).isOpen=false/\(zAA g a).labels=(zAA h b).labels))/\((zAA g a).kind=3->∀s∈(zAA g a).labels,s∈(zAA h b).labels)∧
  ∀i,i<(zAA g a).args.length->idxI (zAA g a) (zAA h b) i<(zAA h b).args.length/\S ((zAA g a).args.getD i 0) (qL h ((zAA h b).args.getD (idxI (zAA g a) (zAA h b) i) 0))):=by
 have Q:=zCX ch;have hn:=Q.node b hb;have mg:=zAV cg (K.range _ _ hab).1;have mh:=zAV ch (hb.ok ch);rcases K.node a _ hab with h1|⟨h1,h2,h3,h4,h5,h6⟩
 ·exact .inl h1
 have e2:(zAA (zBA h) (qL h b)).kind=(zAA h b).kind:=by rw[hn]
 have e3:(zAA (zBA h) (qL h b)).name=(zAA h b).name:=by rw[hn]
 have e4:(zAA (zBA h) (qL h b)).isOpen=(zAA h b).isOpen:=by rw[hn]
 have e5:(zAA (zBA h) (qL h b)).labels=(zAA h b).labels:=by rw[hn]
 have eidx:∀i,idxI (zAA g a) (zAA (zBA h) (qL h b)) i=idxI (zAA g a) (zAA h b) i:=fun i=>by rw[idxI,idxI,e5]
 rw[e2] at h2;rw[e3] at h3;rw[e4,e5] at h4;have aa:(zAA g a).kind=3->∀s∈(zAA g a).labels,bsIs (zAA h b).labels s=true:=by
  intro hk s hs;have ab:((zAA g a).kind==3)=true:=by simpa using hk
  rw[zGC,ab,e5] at h5;simp only[if_true,List.all_eq_true] at h5;exact h5 s hs
 refine .inr ⟨h1,h2,h3,h4,fun hk s hs=>List.mem_of_getElem? (zSy (aa hk s hs)),fun i hi=>?_⟩;have ac:idxI (zAA g a) (zAA h b) i<(zAA h b).args.length:=by
  by_cases hk:(zAA g a).kind=3
  ·have ab:((zAA g a).kind==3)=true:=by simpa using hk
   rcases zAH mg with⟨k',_⟩|⟨k',_⟩|⟨_,_,l1,_⟩
   ·omega
   ·omega
   rcases zAH mh with⟨k',_⟩|⟨k',_⟩|⟨_,_,l2,_⟩
   ·omega
   ·omega
   have hil:i<(zAA g a).labels.length:=by omega
   have:=zNu (aa hk _ (List.getElem_mem hil));rw[idxI,ab];simp only[if_true,List.getD,zgG hil,Option.getD_some];omega
  ·have ab:((zAA g a).kind==3)=false:=by simpa using hk
   rw[idxI,ab];rcases zAH mg with⟨k',_⟩|⟨k',_,_,_,l1⟩|⟨k',_⟩
   ·omega
   ·rcases zAH mh with⟨k'',_⟩|⟨k'',_,_,_,l2⟩|⟨k'',_⟩
    ·omega
    ·simp only[Bool.false_eq_true,if_false];rw[l2,<-h3,<-l1];exact hi
    ·omega
   ·omega
 refine⟨ac,?_⟩;have:=h6 i hi;rw[eidx,zLi Q hb ac] at this;exact this
theorem zLG(cg:zAB g=0)(ch:zAB h=0){S:Int->Int->Prop}{T:Int->Int->Prop}(K:InstR g (zBA h) S)(J:InstR h (zBA g) T):∃R,SameR g h R:=by
 have Qh:=zCX ch;have Qg:=zCX cg;have key:∀a b,Rch g a->Rch h b->S a (qL h b)->T b (qL g a)->(zAA g a).kind=(zAA h b).kind/\(zAA g a).name=(zAA h b).name/\(zAA g a).isOpen=(zAA h b).isOpen/\(zAA g a).labels=(zAA h b).labels/\(zAA g a).args.length=(zAA h b).args.length:=by
  intro a b ha hb h1 h2;have ma:=zAV cg (ha.ok cg);have mb:=zAV ch (hb.ok ch);have na:=zDz cg ch K hb h1;have nb:=zDz ch cg J ha h2;rcases na with k1|⟨k1,k2,k3,k4,k5,_⟩
  ·have hkb:(zAA h b).kind=1:=by
    rcases nb with q|⟨_,q,_⟩
    ·exact q
    ·rw[q];exact k1
   rcases zAH ma with⟨_,l1,o1,n1',a1⟩|⟨q,_⟩|⟨q,_⟩
   ·rcases zAH mb with⟨_,l2,o2,n2,a2⟩|⟨q,_⟩|⟨q,_⟩
    ·rw[k1,hkb,l1,l2,o1,o2,n1',n2,a1,a2];exact⟨rfl,rfl,rfl,rfl,rfl⟩
    ·omega
    ·omega
   ·omega
   ·omega
  ·rcases nb with q|⟨_,_,_,q4,q5,_⟩
   ·omega
   have ho:(zAA g a).isOpen=(zAA h b).isOpen:=by
    cases o1:(zAA g a).isOpen<;>cases o2:(zAA h b).isOpen
    ·rfl
    ·rcases k4 with k4|k4
     ·rw[o1] at k4;cases k4
     ·rw[o2] at k4;cases k4.1
    ·rcases q4 with q4|q4
     ·rw[o2] at q4;cases q4
     ·rw[o1] at q4;cases q4.1
    ·rfl
   rcases zAH ma with⟨q,_⟩|⟨q,l1,o1,n1',a1⟩|⟨q,n1',a1,r1⟩
   ·omega
   ·rcases zAH mb with⟨q',_⟩|⟨q',l2,o2,n2,a2⟩|⟨q',_⟩
    ·omega
    ·exact⟨k2,k3,ho,by rw[l1,l2],by rw[a1,a2,k3]⟩
    ·omega
   ·rcases zAH mb with⟨q',_⟩|⟨q',_⟩|⟨q',n2,a2,r2⟩
    ·omega
    ·omega
    ·have hl:(zAA g a).labels=(zAA h b).labels:=zFD (zBD r1) (zBD r2) fun s=>⟨k5 q s,q5 q' s⟩;exact⟨k2,k3,ho,hl,by rw[<-a1,<-a2,hl]⟩
 refine⟨fun a b=>Rch g a/\Rch h b/\S a (qL h b)/\T b (qL g a),⟨.root,.root,?_,?_⟩,?_,?_,?_,?_⟩
 ·rw[<-Qh.root];exact K.root
 ·rw[<-Qg.root];exact J.root
 ·rintro a b ⟨ha,hb,_⟩;exact⟨ha.ok cg,hb.ok ch⟩
 ·rintro a b ⟨ha,hb,h1,h2⟩;obtain⟨k1,k2,k3,k4,k5⟩:=key a b ha hb h1 h2;refine⟨k1,k2,k3,k4,k5,fun i hi=>⟨zCr ha hi,zCr hb (by omega),?_,?_⟩⟩
  ·rcases zDz cg ch K hb h1 with q|⟨_,_,_,_,_,q⟩
   ·rcases zAH (zAV cg (ha.ok cg)) with⟨_,_,_,_,a1⟩|⟨q',_⟩|⟨q',_⟩
    ·rw[a1] at hi;simp at hi
    ·omega
    ·omega
   ·have:=(q i hi).2
    rwa [zEc (M:=0) (zAV cg (ha.ok cg)) k4 hi] at this
  ·rcases zDz ch cg J ha h2 with q|⟨_,_,_,_,_,q⟩
   ·rcases zAH (zAV ch (hb.ok ch)) with⟨_,_,_,_,a1⟩|⟨q',_⟩|⟨q',_⟩
    ·rw[k5,a1] at hi;simp at hi
    ·omega
    ·omega
   ·have:=(q i (by omega)).2
    rwa [zEc (M:=0) (zAV ch (hb.ok ch)) k4.symm (by omega)] at this
 ·rintro a b c ⟨ha,hb,h1,h2⟩ ⟨_,hc,h1',_⟩ hf;have:=K.one a _ _ h1 h1' hf;refine Qh.inj b c hb hc ?_ this;obtain⟨k1,_,k3,_⟩:=key a b ha hb h1 h2;simpa only[zAP,k1,k3] using hf
 ·rintro a b c ⟨ha,hc,h1,h2⟩ ⟨hb,_,h1',h2'⟩ hf;obtain⟨k1,_,k3,_⟩:=key a c ha hc h1 h2;have hfc:zAP (zAA h c)=true:=by simpa only[zAP,k1,k3] using hf
  exact Qg.inj a b ha hb hf (J.one c _ _ h2 h2' hfc)
theorem zNN(cg:zAB g=0)(ch:zAB h=0)(ck:zAB k=0){S T:Int->Int->Prop}(K:InstR g (zBA h) S)(J:InstR h (zBA k) T):∃U,InstR g (zBA k) U:=by
 have Qh:=zCX ch;have Qk:=zCX ck;have hmin:=zLd ck;have uniq:∀b b' z z',Rch h b->Rch h b'->qL h b=qL h b'->T b z->T b' z'->z=z':=by
  intro b b' z z' hb ab he h1 h2;refine hmin (fun x y=>∃b b',Rch h b/\Rch h b'/\qL h b=qL h b'/\T b x/\T b' y) ?_ z z' ⟨b,b',hb,ab,he,h1,h2⟩;rintro x y ⟨b,b',hb,ab,he,h1,h2⟩;refine⟨(J.range _ _ h1).2,(J.range _ _ h2).2,?_⟩;by_cases hf:zAP (zAA h b)=true
  ·have:=Qh.inj b b' hb ab hf he;subst this;exact .inl (J.one b x y h1 h2 hf)
  have aa:zAP (zAA h b)=false:=by simpa using hf
  have nb:=Qh.node b hb;have nb':=Qh.node b' ab;rw[he,nb'] at nb;have f1:=congrArg Node.kind nb;have f2:=congrArg Node.name nb;have f3:=congrArg Node.args nb;have f4:=congrArg Node.labels nb;have f5:=congrArg Node.isOpen nb;simp only at f1 f2 f3 f4 f5;simp only[zAP,Bool.or_eq_false_iff,beq_eq_false_iff_ne] at aa;have mb:=zAV ch (hb.ok ch);have mb':=zAV ch (ab.ok ch);rcases J.node b x h1 with q|⟨_,q1,q2,q3,q4,q5⟩
  ·exact absurd q aa.1
  rcases J.node b' y h2 with q|⟨_,r1,r2,r3,r4,r5⟩
  ·rw[f1] at q;exact absurd q aa.1
  rcases q3 with q3|⟨q3,q3'⟩
  ·rw[aa.2] at q3;cases q3
  rcases r3 with r3|⟨r3,r3'⟩
  ·rw[f5,aa.2] at r3;cases r3
  have cL:=Qk.check;have mx:=zAV cL (J.range _ _ h1).2;have my:=zAV cL (J.range _ _ h2).2;have hal:(zAA h b).args.length=(zAA (zBA k) x).args.length:=by
   rcases zAH mb with⟨k',_⟩|⟨k',_,_,_,l1⟩|⟨k',_,l1,_⟩
   ·exact absurd k' aa.1
   ·rcases zAH mx with⟨ad,_⟩|⟨_,_,_,_,l2⟩|⟨ad,_⟩
    ·omega
    ·rw[l1,l2,q2]
    ·omega
   ·rcases zAH mx with⟨ad,_⟩|⟨ad,_⟩|⟨_,_,l2,_⟩
    ·omega
    ·omega
    ·rw[<-l1,<-l2,q3']
  have hal':(zAA h b').args.length=(zAA (zBA k) y).args.length:=by
   rcases zAH mb' with⟨k',_⟩|⟨k',_,_,_,l1⟩|⟨k',_,l1,_⟩
   ·rw[f1] at k';exact absurd k' aa.1
   ·rcases zAH my with⟨ad,_⟩|⟨_,_,_,_,l2⟩|⟨ad,_⟩
    ·omega
    ·rw[l1,l2,r2]
    ·omega
   ·rcases zAH my with⟨ad,_⟩|⟨ad,_⟩|⟨_,_,l2,_⟩
    ·omega
    ·omega
    ·rw[<-l1,<-l2,r3']
  have hab:(zAA h b').args.length=(zAA h b).args.length:=by simpa using congrArg List.length f3
  refine .inr ⟨?_,?_,by rw[<-q1,<-r1,f1],by rw[<-q2,<-r2,f2],by rw[<-q3',<-r3',f4],by omega,fun j c d hc hd=>?_⟩
  ·simp only[zAP,q3,Bool.or_false,beq_eq_false_iff_ne];rw[<-q1];exact aa.1
  ·simp only[zAP,r3,Bool.or_false,beq_eq_false_iff_ne];rw[<-r1,f1];exact aa.1
  ·have hj:j<(zAA h b).args.length:=by
    have:=(zgS.1 hc).1;omega
   have hj':j<(zAA h b').args.length:=by omega
   have t1:=q5 j hj;have t2:=r5 j hj';rw[zEc (M:=0) mb q3' hj] at t1;rw[zEc (M:=0) mb' r3' hj'] at t2;rw[show (zAA (zBA k) x).args.getD j 0=c by rw[List.getD,hc];rfl] at t1;rw[show (zAA (zBA k) y).args.getD j 0=d by rw[List.getD,hd];rfl] at t2;refine⟨_,_,zCr hb hj,zCr ab hj',?_,t1,t2⟩;have:=congrArg (fun l=>l[j]?) f3;simp only[zgM,zgG hj,zgG hj',Option.map_some,oI] at this;rw[List.getD,List.getD,zgG hj,zgG hj'];exact this.symm
 refine⟨fun a z=>∃b,Rch h b/\S a (qL h b)/\T b z,⟨h.root,.root,by rw[<-Qh.root];exact K.root,J.root⟩,?_,?_,?_⟩
 ·rintro a z ⟨b,hb,h1,h2⟩;exact⟨(K.range _ _ h1).1,(J.range _ _ h2).2⟩
 ·rintro a z ⟨b,hb,h1,h2⟩;have ma:=zAV cg (K.range _ _ h1).1;have mb:=zAV ch (hb.ok ch);have mz:=zAV Qk.check (J.range _ _ h2).2;rcases zDz cg ch K hb h1 with q|⟨q0,q1,q2,q3,q4,q5⟩
  ·exact .inl q
  rcases J.node b z h2 with r|⟨r0,r1,r2,r3,r4,r5⟩
  ·rw[<-q1] at r;exact absurd r q0
  have hlz:(zAA h b).kind=3->∀s∈(zAA h b).labels,bsIs (zAA (zBA k) z).labels s=true:=fun hk s hs=>by
   have ac:((zAA h b).kind==3)=true:=by simpa using hk
   rw[zGC,ac] at r4;simp only[if_true,List.all_eq_true] at r4;exact r4 s hs
  refine .inr ⟨q0,q1.trans r1,q2.trans r2,?_,?_,fun i hi=>?_⟩
  ·rcases q3 with q3|⟨q3,q3'⟩
   ·exact .inl q3
   ·rcases r3 with r3|⟨r3,r3'⟩
    ·rw[q3] at r3;cases r3
    ·exact .inr ⟨r3,q3'.trans r3'⟩
  ·rw[zGC];split
   ·rename_i hk;have hk:(zAA g a).kind=3:=by simpa using hk
    rw[List.all_eq_true];intro s hs;exact hlz (by omega) s (q4 hk s hs)
   ·rfl
  ·obtain⟨hidx,hs⟩:=q5 i hi;refine⟨_,zCr hb hidx,hs,?_⟩;have:=r5 _ hidx;have he:idxI (zAA h b) (zAA (zBA k) z) (idxI (zAA g a) (zAA h b) i)=idxI (zAA g a) (zAA (zBA k) z) i:=by
    by_cases hk:(zAA g a).kind=3
    ·have ac:((zAA g a).kind==3)=true:=by simpa using hk
     have hkb':((zAA h b).kind==3)=true:=by rw[<-q1];exact ac
     rcases zAH ma with⟨k',_⟩|⟨k',_⟩|⟨_,_,l1,_⟩
     ·omega
     ·omega
     have hil:i<(zAA g a).labels.length:=by omega
     have hsg:(zAA g a).labels.getD i []=(zAA g a).labels[i]:=by simp[List.getD,zgG hil]
     have hin:=q4 hk _ (List.getElem_mem hil);rcases zAH mb with⟨k',_⟩|⟨k',_⟩|⟨_,_,l2,r2'⟩
     ·omega
     ·omega
     obtain⟨j,hj,hje⟩:=List.mem_iff_getElem.1 hin;have hbs:=zJQ (zBD r2') (show (zAA h b).labels[j]?=some (zAA g a).labels[i] by rw[zgG hj,hje]);simp only[idxI,ac,hkb',if_true,hsg,hbs.1];rw[List.getD,zgG hj,hje];rfl
    ·have ac:((zAA g a).kind==3)=false:=by simpa using hk
     have hkb':((zAA h b).kind==3)=false:=by rw[<-q1];exact ac
     simp[idxI,ac,hkb']
   rwa [he] at this
 ·rintro a z z' ⟨b,hb,h1,h2⟩ ⟨b',ab,h1',h2'⟩ hf;exact uniq b b' z z' hb ab (K.one a _ _ h1 h1' hf) h2 h2'
end
end Go.Ab.S
end
section
namespace Go.Ab.S
open Go.Ab
section
variable{g h k:Graph}
end
def gV:Graph:=⟨[⟨1,[],[],[],false⟩],0⟩
theorem zHm(g:Graph):g.nodes.length+zAU [] g.nodes 0<=zEv g:=by
 have:∀(ns:List Node) (i:Nat),zAU [] ns i<=sumL zBm ns:=by
  intro ns;induction ns with
  |nil=>intro i;simp[zAU,sumL]
  |cons n r ih=>intro i;simp only[zAU,sumL,zBm];have:=ih (i+1);simp;omega
 have:=this g.nodes 0;simp only[zEv];omega
theorem zIv{g:Graph}{n:Node}(hn:n∈g.nodes):zBm n<=zEv g:=by
 have:∀(ns:List Node),n∈ns->zBm n<=sumL zBm ns:=by
  intro ns;induction ns with
  |nil=>intro h;cases h
  |cons m r ih=>
   intro h;simp only[sumL];rcases List.mem_cons.1 h with rfl|h
   ·omega
   ·have:=ih h;omega
 have:=this g.nodes hn;simp only[zEv];omega
structure Sane(g:Graph):Prop where
 great:zEv g<2 ^ 60
 sm:GraphSm g
theorem Sane.tiny{g:Graph}(h:Sane g)(hg:zEv g<=300):GTi g:=by
 have aa:(2:Nat) ^ 30=1073741824:=by decide
 have h1:=zHm g;refine⟨⟨h.sm,by omega,fun n hn=>?_⟩,by omega,fun n hn=>?_⟩
 ·have:=zIv hn;simp only[zBm] at this;omega
 ·have:=zIv hn;simp only[zBm] at this;omega
end Go.Ab.S
end
section
namespace Go.Ab.S
open Go Go.Ab
def InG(g:Graph)(a:Int):Prop:=0<=a/\a<g.nodes.length
inductive Uni (g:Graph) (ps:List Pr):Int->Int->Prop
 |refl {a:Int}:InG g a->Uni g ps a a
 |symm {a b:Int}:Uni g ps a b->Uni g ps b a
 |trans {a b c:Int}:Uni g ps a b->Uni g ps b c->Uni g ps a c
 |pair {a b:Int}:(a,b)∈ps->InG g a->InG g b->Uni g ps a b
 |con {a b:Int} {i:Nat}:Uni g ps a b->(zAA g a).kind=2->(zAA g b).kind=2->(zAA g a).name=(zAA g b).name->i<(zAA g a).args.length->Uni g ps ((zAA g a).args.getD i 0) ((zAA g b).args.getD i 0)
 |obj {a b:Int} {i j:Nat} {l:List Nat}:Uni g ps a b->(zAA g a).kind=3->(zAA g b).kind=3->(zAA g a).labels[i]?=some l->(zAA g b).labels[j]?=some l->Uni g ps ((zAA g a).args.getD i 0) ((zAA g b).args.getD j 0)
def okP(x y:Node):Prop:=x.kind=1\/y.kind=1\/(x.kind=y.kind/\x.name=y.name/\(x.kind=3->(x.isOpen=false->∀l∈y.labels,l∈x.labels)/\(y.isOpen=false->∀l∈x.labels,l∈y.labels)))
def Consi(g:Graph)(ps:List Pr):Prop:=∀a b,Uni g ps a b->okP (zAA g a) (zAA g b)
structure Clz where
 kind:Int
 name:List Nat
 args:List Int
 fields:List (List Nat×Int)
 isOpen:Bool
structure ClzOK(g:Graph)(rt:Int->Int)(r:Int)(c:Clz):Prop where
 like:∀m,InG g m->rt m=r->(zAA g m).kind=1\/((zAA g m).kind=c.kind/\(zAA g m).name=c.name)
 one:∃m,InG g m/\rt m=r/\(zAA g m).kind=c.kind/\(zAA g m).name=c.name
 args:c.kind=2->∃m,InG g m/\rt m=r/\(zAA g m).kind=2/\c.args=(zAA g m).args
 noargs:c.kind≠2->c.args=[]
 nofields:c.kind≠3->c.fields=[]/\c.isOpen=false
 keys:∀l,(∃a,(l,a)∈c.fields)↔∃m,InG g m/\rt m=r/\(zAA g m).kind=3/\l∈(zAA g m).labels
 vals:∀l a,(l,a)∈c.fields->∃m i,InG g m/\rt m=r/\(zAA g m).kind=3/\(zAA g m).labels[i]?=some l/\(zAA g m).args.getD i 0=a
 opn:c.kind=3->(c.isOpen=true↔∀m,InG g m->rt m=r->(zAA g m).kind=3->(zAA g m).isOpen=true)
 shut:∀m,InG g m->rt m=r->(zAA g m).kind=3->(zAA g m).isOpen=false->∀l a,(l,a)∈c.fields->l∈(zAA g m).labels
 nodup:(c.fields.map (·.1)).Nodup
def Due(g:Graph)(rt:Int->Int)(ws:List Pr)(a b:Int):Prop:=∀E:Int->Int->Prop,Equivalence E->(∀i j,InG g i->InG g j->rt i=rt j->E i j)->(∀p∈ws,E p.1 p.2)->E a b
structure UInv(g:Graph)(ps:List Pr)(rt:Int->Int)(has:Int->Clz)(ws:List Pr):Prop where
 rng:∀a,InG g a->InG g (rt a)/\rt (rt a)=rt a
 cls:∀r,InG g r->rt r=r->ClzOK g rt r (has r)
 sound:∀a b,InG g a->InG g b->rt a=rt b->Uni g ps a b
 waits:∀p∈ws,Uni g ps p.1 p.2
 prs:∀p∈ps,Due g rt ws p.1 p.2
 con:∀m,InG g m->(zAA g m).kind=2->∀i,i<(zAA g m).args.length->Due g rt ws ((zAA g m).args.getD i 0) ((has (rt m)).args.getD i 0)
 obj:∀m i l a,InG g m->(zAA g m).kind=3->(zAA g m).labels[i]?=some l->(l,a)∈(has (rt m)).fields->Due g rt ws ((zAA g m).args.getD i 0) a
theorem zEZ{g:Graph}(hc:zAB g=0){a b:Int}(ha:InG g a)(hb:InG g b)(k1:(zAA g a).kind=2)(k2:(zAA g b).kind=2)(hn:(zAA g a).name=(zAA g b).name):(zAA g a).args.length=(zAA g b).args.length:=by
 rcases zAH (zAV hc ha) with⟨q,_⟩|⟨_,_,_,_,l1⟩|⟨q,_⟩
 ·omega
 ·rcases zAH (zAV hc hb) with⟨q,_⟩|⟨_,_,_,_,l2⟩|⟨q,_⟩
  ·omega
  ·rw[l1,l2,hn]
  ·omega
 ·omega
theorem zCL{g:Graph}(hc:zAB g=0){a:Int}(ha:InG g a)(k:(zAA g a).kind=3):(zAA g a).labels.length=(zAA g a).args.length/\Rises (zAA g a).labels/\(zAA g a).name=[]:=by
 rcases zAH (zAV hc ha) with⟨q,_⟩|⟨q,_⟩|⟨_,hn,hl,hr⟩
 ·omega
 ·omega
 ·exact⟨hl,zBD hr,hn⟩
theorem Uni.inG{g:Graph}(hc:zAB g=0){ps:List Pr}{a b:Int}(h:Uni g ps a b):InG g a/\InG g b:=by
 induction h with
 |refl h=>exact⟨h,h⟩
 |symm _ ih=>exact ih.symm
 |trans _ _ h1 h2=>exact⟨h1.1,h2.2⟩
 |pair _ h1 h2=>exact⟨h1,h2⟩
 | @con a b i _ ka kb hn hi ih=>
  have:=zEZ hc ih.1 ih.2 ka kb hn;exact⟨zAh (zAV hc ih.1) _ (zBx hi),zAh (zAV hc ih.2) _ (zBx (by omega))⟩
 | @obj a b i j l _ ka kb hi hj ih=>
  have h1:=(zCL hc ih.1 ka).1;have h2:=(zCL hc ih.2 kb).1;have h3:=(zgS.1 hi).1;have h4:=(zgS.1 hj).1;exact⟨zAh (zAV hc ih.1) _ (zBx (by omega)),zAh (zAV hc ih.2) _ (zBx (by omega))⟩
section
variable{g:Graph}{ps:List Pr}{rt:Int->Int}{has:Int->Clz}{ws:List Pr}
theorem Due.refl(a:Int):Due g rt ws a a:=fun _ hE _ _=>hE.refl a
theorem Due.symm{a b:Int}(h:Due g rt ws a b):Due g rt ws b a:=fun E hE h1 h2=>hE.symm (h E hE h1 h2)
theorem Due.trans{a b c:Int}(h:Due g rt ws a b)(k:Due g rt ws b c):Due g rt ws a c:=fun E hE h1 h2=>hE.trans (h E hE h1 h2) (k E hE h1 h2)
theorem Due.more{rt':Int->Int}{ws':List Pr}(h1:∀i j,InG g i->InG g j->rt i=rt j->Due g rt' ws' i j)(h2:∀p∈ws,Due g rt' ws' p.1 p.2){a b:Int}(h:Due g rt ws a b):Due g rt' ws' a b:=
 fun E hE k1 k2=>h E hE (fun i j hi hj hij=>h1 i j hi hj hij E hE k1 k2) fun p hp=>h2 p hp E hE k1 k2
theorem Due.wait{p:Pr}(h:p∈ws):Due g rt ws p.1 p.2:=fun _ _ _ h2=>h2 p h
theorem Due.same{a b:Int}(ha:InG g a)(hb:InG g b)(h:rt a=rt b):Due g rt ws a b:=fun _ _ h1 _=>h1 a b ha hb h
theorem Due.done{a b:Int}(h:Due g rt [] a b):rt a=rt b:=
 h (fun i j=>rt i=rt j) ⟨fun _=>rfl,fun h=>h.symm,fun h k=>h.trans k⟩ (fun _ _ _ _ h=>h) fun p hp=>by cases hp
theorem UInv.drop(hc:zAB g=0){p:Pr}(I:UInv g ps rt has (p::ws))(h:rt p.1=rt p.2):UInv g ps rt has ws:=by
 have hp:=(I.waits p (by simp)).inG hc;have hD:∀{a b:Int},Due g rt (p::ws) a b->Due g rt ws a b:=fun k=>k.more (fun i j hi hj hij=>.same hi hj hij) fun q hq=>by
  rcases List.mem_cons.1 hq with rfl|hq
  ·exact .same hp.1 hp.2 h
  ·exact .wait hq
 exact⟨I.rng,I.cls,I.sound,fun q hq=>I.waits q (by simp[hq]),fun q hq=>hD (I.prs q hq),fun m hm hk i hi=>hD (I.con m hm hk i hi),fun m i l a hm hk hl ha=>hD (I.obj m i l a hm hk hl ha)⟩
theorem UInv.ok(I:UInv g ps rt has ws){a b:Int}(ha:InG g a)(hb:InG g b)(h:rt a=rt b):okP (zAA g a) (zAA g b):=by
 obtain⟨hr,hrr⟩:=I.rng a ha;have C:=I.cls _ hr hrr;rcases C.like a ha rfl with k|⟨k1,k2⟩
 ·exact .inl k
 rcases C.like b hb h.symm with k|⟨k3,k4⟩
 ·exact .inr (.inl k)
 refine .inr (.inr ⟨by rw[k1,k3],by rw[k2,k4],fun k=>⟨fun ho l hl=>?_,fun ho l hl=>?_⟩⟩)
 ·obtain⟨v,hv⟩:=(C.keys l).2 ⟨b,hb,h.symm,by rw[k3,<-k1];exact k,hl⟩;exact C.shut a ha rfl k ho l v hv
 ·obtain⟨v,hv⟩:=(C.keys l).2 ⟨a,ha,rfl,k,hl⟩;exact C.shut b hb h.symm (by rw[k3,<-k1];exact k) ho l v hv
theorem UInv.fin(hc:zAB g=0)(I:UInv g ps rt has []):(∀a b,InG g a->InG g b->(rt a=rt b↔Uni g ps a b))/\Consi g ps:=by
 have h1:∀a b,Uni g ps a b->rt a=rt b:=by
  intro a b h;induction h with
  |refl=>rfl
  |symm _ ih=>exact ih.symm
  |trans _ _ h1 h2=>exact h1.trans h2
  |pair h _ _=>exact(I.prs _ h).done
  | @con a b i hu ka kb hn hi ih=>
   have aa:=hu.inG hc;have e1:=(I.con a aa.1 ka i hi).done;have e2:=(I.con b aa.2 kb i (by rw[<-zEZ hc aa.1 aa.2 ka kb hn];exact hi)).done;rw[e1,e2,ih]
  | @obj a b i j l hu ka kb hi hj ih=>
   have aa:=hu.inG hc;obtain⟨hr,ab⟩:=I.rng a aa.1;obtain⟨v,hv⟩:=((I.cls _ hr ab).keys l).2 ⟨a,aa.1,rfl,ka,List.mem_of_getElem? hi⟩;have e1:=(I.obj a i l v aa.1 ka hi hv).done;have e2:=(I.obj b j l v aa.2 kb hj (by rw[<-ih];exact hv)).done;rw[e1,e2]
 exact⟨fun a b ha hb=>⟨I.sound a b ha hb,h1 a b⟩,fun a b h=>I.ok (h.inG hc).1 (h.inG hc).2 (h1 a b h)⟩
inductive Merge (cy cx:Clz):Clz->List Pr->Prop
 |varY:cy.kind=1->Merge cy cx cx []
 |varX:cy.kind≠1->cx.kind=1->Merge cy cx cy []
 |con:cy.kind=2->cx.kind=2->cy.name=cx.name->Merge cy cx cy ((List.range cy.args.length).map fun i=>(cy.args.getD i 0,cx.args.getD i 0))
 |obj {c:Clz} {new:List Pr}:cy.kind=3->cx.kind=3->cy.name=cx.name->c.kind=3->c.name=cx.name->c.args=[] →
   (∀l a,(l,a)∈c.fields↔(l,a)∈cx.fields\/((l,a)∈cy.fields/\∀b,(l,b)∉cx.fields))->(c.fields.map (·.1)).Nodup->c.isOpen=(cx.isOpen&&cy.isOpen) →
   (cx.isOpen=false->∀l a,(l,a)∈cy.fields->∃b,(l,b)∈cx.fields)->(cy.isOpen=false->∀l a,(l,a)∈cx.fields->∃b,(l,b)∈cy.fields) →
   (∀q,q∈new↔∃l,(l,q.1)∈cy.fields/\(l,q.2)∈cx.fields)->Merge cy cx c new
def Clash(cy cx:Clz):Prop:=cy.kind≠1/\cx.kind≠1/\(cy.kind≠cx.kind\/cy.name≠cx.name\/(cy.kind=3/\cx.kind=3/\((cx.isOpen=false/\∃l a,(l,a)∈cy.fields/\∀b,(l,b)∉cx.fields)\/(cy.isOpen=false/\∃l a,(l,a)∈cx.fields/\∀b,(l,b)∉cy.fields))))
theorem UInv.clash(I:UInv g ps rt has ws){p:Pr}(hp:p∈ws){x y:Int}(hx:InG g x)(hy:InG g y)(kx:rt x=x)(ky:rt y=y)(hU:Uni g ps x y)(hcl:Clash (has y) (has x)):¬Consi g ps:=by
 intro hC;have hu:∀i j,InG g i->InG g j->rt i=y->rt j=x->okP (zAA g i) (zAA g j):=fun i j hi hj h1 h2=>
  hC i j ((I.sound i y hi hy (by rw[h1,ky])).trans (hU.symm.trans (I.sound x j hx hj (by rw[h2,kx]))))
 have Cx:=I.cls x hx kx;have Cy:=I.cls y hy ky;obtain⟨n1,n2,h⟩:=hcl;obtain⟨i,i1,i2,i3,i4⟩:=Cy.one;obtain⟨j,j1,j2,j3,j4⟩:=Cx.one;have hij:=hu i j i1 j1 i2 j2;rcases hij with q|q|⟨q1,q2,_⟩
 ·omega
 ·omega
 rcases h with h|h|⟨k1,k2,h⟩
 ·omega
 ·rw[i4,j4] at q2;exact h q2
 rcases h with⟨ho,l,a,hl,ab⟩|⟨ho,l,a,hl,ab⟩
 ·have:¬∀m,InG g m->rt m=x->(zAA g m).kind=3->(zAA g m).isOpen=true:=fun hh=>by
   have:=(Cx.opn k2).2 hh;rw[ho] at this;cases this
  simp only[Classical.not_forall] at this;obtain⟨m,m1,m2,m3,m4⟩:=this;have m4:(zAA g m).isOpen=false:=by simpa using m4
  obtain⟨k,k',b1,b2,b3,b4,_⟩:=Cy.vals l a hl;rcases hu k m b1 m1 b2 m2 with q|q|⟨_,_,q⟩
  ·omega
  ·omega
  have aa:=(q b3).2 m4 l (List.mem_of_getElem? b4);obtain⟨b,hb⟩:=(Cx.keys l).2 ⟨m,m1,m2,m3,aa⟩;exact ab b hb
 ·have:¬∀m,InG g m->rt m=y->(zAA g m).kind=3->(zAA g m).isOpen=true:=fun hh=>by
   have:=(Cy.opn k1).2 hh;rw[ho] at this;cases this
  simp only[Classical.not_forall] at this;obtain⟨m,m1,m2,m3,m4⟩:=this;have m4:(zAA g m).isOpen=false:=by simpa using m4
  obtain⟨k,k',b1,b2,b3,b4,_⟩:=Cx.vals l a hl;rcases hu m k m1 b1 m2 b2 with q|q|⟨_,_,q⟩
  ·omega
  ·omega
  have aa:=(q m3).1 m4 l (List.mem_of_getElem? b4);obtain⟨b,hb⟩:=(Cy.keys l).2 ⟨m,m1,m2,m3,aa⟩;exact ab b hb
end
end Go.Ab.S
end
