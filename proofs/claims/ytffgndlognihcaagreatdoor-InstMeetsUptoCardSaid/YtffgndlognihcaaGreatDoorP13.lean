import Derived.Test.YtffgndlognihcaaGreatDoorP12
/-
  Part 13 of the proof.
-/
set_option linter.all false
section
namespace Go.Ab.S
open Go.Ab
set_option maxHeartbeats 8000000
abbrev Pr:=Int×Int
def zBQ(p:Pr):List AVal:=[.int .i64 p.1,.int .i64 p.2]
def rowC(w:List Pr):List AVal:=(w.reverse.map zBQ).flatten
def zBD(g h:Graph):List Pr:=(List.range g.nodes.length).flatMap fun (i:Nat)=>(List.range h.nodes.length).map fun (j:Nat)=>((i:Int),(j:Int))
theorem zAx{g h:Graph}{p:Pr}:p∈zBD g h↔(0<=p.1/\p.1<g.nodes.length)/\0<=p.2/\p.2<h.nodes.length:=by
 simp only[zBD,List.mem_flatMap,List.mem_range,List.mem_map]
 constructor
 ·rintro⟨i,hi,j,hj,rfl⟩;exact⟨⟨by simp,by simp;omega⟩,by simp,by simp;omega⟩
 ·rintro⟨⟨h1,h2⟩,h3,h4⟩
  exact⟨p.1.toNat,by omega,p.2.toNat,by omega,by ext<;>simp<;>omega⟩
theorem zNF(g h:Graph):(zBD g h).length=g.nodes.length*h.nodes.length:=by
 simp only[zBD,List.length_flatMap,List.length_map,List.length_range]
 generalize g.nodes.length=n
 induction n with
 |zero=>simp
 |succ n ih=>rw[List.range_succ,List.map_append,List.sum_append,ih,Nat.succ_mul];simp
theorem zHj{α:Type}[BEq α]{nx:α->List α}{c:Nat}:∀{ps:List α},(∀p∈ps,(nx p).length<=c)->zCb nx [] ps<=ps.length*c
 |[],_=>by simp[zCb]
 |p::r,h=>by
  have h1:=zHj (ps:=r) fun q hq=>h q (by simp[hq])
  have h2:=h p (by simp)
  simp only[zCb,zlC,Nat.succ_mul]
  split<;>omega
def okS(g h:Graph)(p:Pr):Bool:=zEg (zAA g p.1) (zAA h p.2)
def nxS(g h:Graph)(p:Pr):List Pr:=(List.zip (zAA g p.1).args (zAA h p.2).args).reverse
def badS(g:Graph)(p q:Pr):Bool:=zCY (zAA g p.1)&&(zCY (zAA g q.1)&&(p.1==q.1||p.2==q.2))
def zGO(g h:Graph):Bool:=zAB g==0&&(zAB h==0&&zDE (okS g h) (nxS g h) (badS g) (2+zCb (nxS g h) [] (zBD g h)) [(g.root,h.root)] [])
theorem zFI{g:Graph}{a:Int}(h0:0<=a)(h1:a<g.nodes.length):∃k:Nat,a=(k:Int)/\∃hk:k<g.nodes.length,zAA g a=g.nodes[k]:=by
 refine⟨a.toNat,by omega,by omega,?_⟩
 simp[zAA,List.getElem?_eq_getElem (show a.toNat<g.nodes.length by omega)]
theorem zDM{g:Graph}{a:Int}(h0:0<=a)(h1:a<g.nodes.length):zAA g a∈g.nodes:=by
 obtain⟨k,_,hk,h⟩:=zFI h0 h1
 rw[h];exact List.getElem_mem hk
theorem nxS_in{g h:Graph}(hg:zAB g=0)(hh:zAB h=0){p:Pr}(hp:p∈zBD g h):∀q∈nxS g h p,q∈zBD g h:=by
 intro q hq
 obtain⟨⟨a0,a1⟩,b0,b1⟩:=zAx.1 hp
 simp only[nxS,List.mem_reverse] at hq
 have h1:=List.of_mem_zip hq
 have h2:=zAo ((zAu hg).2 _ (zDM a0 a1)) _ h1.1
 have h3:=zAo ((zAu hh).2 _ (zDM b0 b1)) _ h1.2
 exact zAx.2 ⟨h2,h3⟩
theorem zIk{g h:Graph}(hg:GTi g)(hh:GTi h){nx:Pr->List Pr}(hn:∀p∈zBD g h,(nx p).length<=(zAA g p.1).args.length):zCb nx [] (zBD g h)<=2 ^ 36:=by
 have h1:=zHj (nx:=nx) (c:=4096) (ps:=zBD g h) (fun p hp=>by
  obtain⟨⟨a0,a1⟩,_⟩:=zAx.1 hp
  have:=hg.tinyA _ (zDM a0 a1)
  have:=hn p hp
  omega)
 rw[zNF] at h1
 have h2:=hg.tinyN
 have h3:=hh.tinyN
 have h4:g.nodes.length*h.nodes.length<=4096*4096:=Nat.mul_le_mul (by omega) (by omega)
 have h5:(2:Nat) ^ 36=4096*4096*4096:=by decide
 have h6:=Nat.mul_le_mul_right 4096 h4
 omega
theorem roomP{k:Nat}(hk:k<=2 ^ 37):zCU 16 k=true:=by
 have e37:(2:Nat) ^ 37=137438953472:=by decide
 have e46:(2:Nat) ^ 46=70368744177664:=by decide
 simp only[zCU,Bool.and_eq_true]
 exact⟨rfl,Nat.ble_eq.mpr (by omega)⟩
def MP(es:List (AVal×AVal×Nat))(met:List Pr):Prop:=∀p,∃i,zBa (.agg 2) (.agg (zBQ p)) es 0=some (if p∈met then some (i,.bool true) else none)
theorem MP.zero:MP [] []:=fun p=>⟨0,by simp[zBa]⟩
theorem key_pair(p q:Pr):keyA (.agg 2) (.agg (zBQ p)) (.agg (zBQ q))=some (decide (p=q)):=by
  obtain⟨a,b⟩:=p
  obtain⟨c,d⟩:=q
  simp only[keyA,zBQ,zlC,zlN,and_self,if_true,zBx]
  cases h1:a==c with
  |false=>
    have:a≠c:=by simpa using h1
    cases h2:b==d<;>simp[this]
  |true=>
    have:a=c:=by simpa using h1
    cases h2:b==d with
    | false => have : b ≠ d := by simpa using h2
               simp[this]
    | true => have h3 : b = d := by simpa using h2
              simp[this,h3]
theorem MP.put{es:List (AVal×AVal×Nat)}{met:List Pr}{p:Pr}{c:Nat}(h:MP es met)(hp:p∉met):MP (es++[(.agg (zBQ p),.bool true,c)]) (met++[p]):=fun q=>by
 obtain⟨i,hi⟩:=h q
 by_cases hq:q∈met
 ·rw[if_pos hq] at hi
  exact⟨i,by rw[zFE es 0 hi,if_pos (List.mem_append.2 (.inl hq))]⟩
 ·rw[if_neg hq] at hi
  refine⟨0+es.length,?_⟩
  rw[zFF es 0 hi _ (key_pair q p)]
  by_cases he:q=p
  ·rw[if_pos (decide_eq_true he),if_pos (List.mem_append.2 (.inr (List.mem_singleton.2 he)))]
  ·rw[if_neg (by simpa using he),if_neg (fun hh=>by
    rcases List.mem_append.1 hh with hh|hh
    ·exact hq hh
    ·exact he (List.mem_singleton.1 hh))]
theorem MP.look{h:AHeap}{r ver c:Nat}{es:List (AVal×AVal×Nat)}{met:List Pr}(hg:h.objs.get r=some (ver,.map es c))(f:MP es met)(p:Pr):zCl h (.agg 2) (.bool false) false (.map (some r)) (.agg (zBQ p))=some (.bool (met.contains p),some r):=by
 obtain⟨i,hi⟩:=f p
 have hk:zEA (.agg 2) (.agg (zBQ p))=true:=rfl
 simp only[zCl,hk,hg,hi]
 by_cases hp:p∈met
 ·simp[hp]
 ·simp[hp]
theorem MP.none{es:List (AVal×AVal×Nat)}{met:List Pr}(f:MP es met){p:Pr}(hp:p∉met):zBa (.agg 2) (.agg (zBQ p)) es 0=some none:=by
 obtain⟨i,hi⟩:=f p
 rw[hi,if_neg hp]
def FA(es:List (AVal×AVal×Nat))(l:List Pr):Prop:=∀a,∃r,zBa .int (.int .i64 a) es 0=some r/\(r=none->∀q∈l,q.1≠a)/\(∀i v,r=some (i,v)->∃q∈l,q.1=a/\v=.int .i64 q.2)
theorem FA.zero:FA [] []:=fun a=>⟨none,rfl,fun _ q hq=>(by cases hq),fun i v h=>by cases h⟩
theorem FA.put{es:List (AVal×AVal×Nat)}{l:List Pr}{p:Pr}{c:Nat}(h:FA es l)(hp:∀q∈l,q.1≠p.1):FA (es++[(.int .i64 p.1,.int .i64 p.2,c)]) (l++[p]):=fun a=>by
 obtain⟨r,h1,h2,h3⟩:=h a
 cases r with
 |some x=>
  refine⟨some x,zFE es 0 h1,fun hh=>(by cases hh),fun i v hv=>?_⟩
  obtain⟨q,q1,q2⟩:=h3 i v hv
  exact⟨q,List.mem_append.2 (.inl q1),q2⟩
 |none=>
  have hk:keyA .int (.int .i64 a) (.int .i64 p.1)=some (a==p.1):=by simp[keyA]
  refine⟨_,zFF es 0 h1 _ hk,?_,?_⟩
  ·intro hh q hq
   rcases List.mem_append.1 hq with hq|hq
   ·exact h2 rfl q hq
   ·rw[List.mem_singleton.1 hq]
    rintro rfl
    simp at hh
  ·intro i v hv
   split at hv
   ·rename_i hap
    simp only[oI,Prod.mk.injEq] at hv
    exact⟨p,List.mem_append.2 (.inr (List.mem_singleton.2 rfl)),(by simpa using hap:a=p.1).symm,hv.2.symm⟩
   ·cases hv
theorem FA.none{es:List (AVal×AVal×Nat)}{l:List Pr}(f:FA es l){a:Int}(ha:∀q∈l,q.1≠a):zBa .int (.int .i64 a) es 0=some none:=by
 obtain⟨r,h1,h2,h3⟩:=f a
 cases r with
 |none=>exact h1
 |some x=>
  obtain⟨q,q1,q2,_⟩:=h3 x.1 x.2 rfl
  exact absurd q2 (ha q q1)
theorem FA.look{h:AHeap}{r ver c:Nat}{es:List (AVal×AVal×Nat)}{l:List Pr}(hg:h.objs.get r=some (ver,.map es c))(f:FA es l)(a:Int):∃x,zCl h .int (.int .i64 0) true (.map (some r)) (.int .i64 a)=some (.tuple [.int .i64 x,.bool (l.any fun q=>q.1==a)],some r)/\((l.any fun q=>q.1==a)=true->∃q∈l,q.1=a/\x=q.2):=by
 obtain⟨y,h1,h2,h3⟩:=f a
 cases y with
 |none=>
  refine⟨0,?_,fun hh=>?_⟩
  ·have:(l.any fun q=>q.1==a)=false:=by
    rw[List.any_eq_false];intro q hq;simpa using h2 rfl q hq
   simp only[zCl,zEA,hg,h1,this,if_true]
  ·obtain⟨q,hq,hh⟩:=List.any_eq_true.1 hh
   exact absurd (by simpa using hh) (h2 rfl q hq)
 |some x=>
  obtain⟨q,q1,q2,q3⟩:=h3 x.1 x.2 rfl
  refine⟨q.2,?_,fun _=>⟨q,q1,q2,rfl⟩⟩
  have:(l.any fun q=>q.1==a)=true:=List.any_eq_true.2 ⟨q,q1,by simpa using q2⟩
  obtain⟨i,v⟩:=x
  simp only at q3
  subst q3
  simp only[zCl,zEA,hg,h1,this,if_true]
theorem zDP(p:Pr)(w:List Pr):rowC (p::w)=rowC w++zBQ p:=by simp[rowC]
theorem zMX(w:List Pr):(rowC w).length=w.length*2:=by
 induction w with
 |nil=>rfl
 |cons p w ih=>rw[zDP,List.length_append,ih,zlC,Nat.succ_mul];rfl
theorem zLL{h:AHeap}{base:Nat}{e:TypeId}{vw:AVal}{p:Pr}{w:List Pr}(B:Built h base e 2 vw (w.length+1) (rowC (p::w))):∃bw ver vs,vw=.slice (some (bw,0)) (w.length+1)/\h.objs.get bw=some (ver,.cells false e vs)/\base<=bw/\(w.length*2+2<=vs.length/\(vs.drop (w.length*2)).take 2=zBQ p)/\Built h base e 2 (.slice (some (bw,0)) w.length) w.length (rowC w):=by
 rcases B with⟨_,hh,_⟩|⟨_,hh,_⟩|⟨b,vs,ver,h0,h1,h2,h3,h4⟩
 ·omega
 ·omega
 ·refine⟨b,ver,vs,h1,h2,h0,?_,.inr (.inr ⟨b,vs,ver,h0,rfl,h2,by omega,?_⟩)⟩
  ·refine⟨by omega,?_⟩
   have:=congrArg (fun l=>l.drop (w.length*2)) h4
   simp only[List.drop_take,zDP,List.drop_left' (zMX w)] at this
   rw[show (w.length+1)*2 - w.length*2=2 by omega] at this
   exact this
  ·have:=congrArg (fun l=>l.take (w.length*2)) h4
   simp only[List.take_take,zDP,List.take_left' (zMX w)] at this
   rw[Nat.min_eq_left (by omega)] at this
   exact this
end Go.Ab.S
end
section
namespace Go.Ab.S
open Go.Ab
set_option maxHeartbeats 1000000
inductive Rch (g:Graph):Int->Prop
 |root:Rch g g.root
 |step {a b:Int}:Rch g a->b∈(zAA g a).args->Rch g b
theorem zNT(g:Graph)(a:Int):zHP g.nodes a=(zAA g a).args:=by
 unfold zHP zAA
 rw[List.getD]
 cases g.nodes[a.toNat]?<;>rfl
theorem zEs{g:Graph}:∀(m:Nat) (st out:List Int),(∀a∈st,Rch g a)->(∀a∈out,Rch g a)->∀a∈zBV g.nodes m st out,Rch g a
 |0,_,_,_,h=>h
 |_+1,[],_,_,h=>h
 |m+1,a::st,out,h1,h2=>by
  rw[zBV]
  split
  ·exact zEs m st out (fun b hb=>h1 b (by simp[hb])) h2
  ·refine zEs m _ _ (fun b hb=>?_) (fun b hb=>?_)
   ·rcases List.mem_append.1 hb with hb|hb
    ·rw[zNT] at hb;exact .step (h1 a (by simp)) hb
    ·exact h1 b (by simp[hb])
   ·rcases List.mem_append.1 hb with hb|hb
    ·exact h2 b hb
    ·rw[List.mem_singleton.1 hb];exact h1 a (by simp)
theorem zGd{g:Graph}(hc:zAB g=0):∀(m:Nat) (st out:List Int),Ok g.nodes.length st->st.length+zAY out g.nodes 0<=m->(∀a∈out,∀b∈(zAA g a).args,b∈out\/b∈st) →
  (∀a∈st,a∈zBV g.nodes m st out)/\(∀a∈out,a∈zBV g.nodes m st out)/\∀a∈zBV g.nodes m st out,∀b∈(zAA g a).args,b∈zBV g.nodes m st out
 |0,st,out,_,hm,h=>by
  have:st=[]:=List.length_eq_zero_iff.1 (by omega)
  subst this
  exact⟨fun a ha=>(by cases ha),fun a ha=>ha,fun a ha b hb=>by
   rcases h a ha b hb with h|h
   ·exact h
   ·cases h⟩
 |m+1,[],out,_,_,h=>⟨fun a ha=>(by cases ha),fun a ha=>ha,fun a ha b hb=>by
   rcases h a ha b hb with h|h
   ·exact h
   ·cases h⟩
 |m+1,a::st,out,hs,hm,h=>by
  have hst:Ok g.nodes.length st:=fun b hb=>hs b (by simp[hb])
  obtain⟨a0,a1⟩:=hs a (by simp)
  rw[zBV]
  split
  ·rename_i hcon
   have hcon:a∈out:=by simpa using hcon
   simp only[zlC] at hm
   obtain⟨h1,h2,h3⟩:=zGd hc m st out hst (by omega) (fun b hb c hcc=>by
    rcases h b hb c hcc with h|h
    ·exact .inl h
    ·rcases List.mem_cons.1 h with rfl|h
     ·exact .inl hcon
     ·exact .inr h)
   exact⟨fun b hb=>by
    rcases List.mem_cons.1 hb with rfl|hb
    ·exact h2 _ hcon
    ·exact h1 b hb,h2,h3⟩
  ·rename_i hcon
   obtain⟨k,hk,hkN,hnk⟩:∃k:Nat,a=(k:Int)/\∃hk:k<g.nodes.length,zAA g a=g.nodes[k]:=⟨a.toNat,by omega,by omega,by simp[zAA,List.getElem?_eq_getElem (show a.toNat<g.nodes.length by omega)]⟩
   have hput:=(zHi out k g.nodes 0).2 (Nat.zero_le _) (by rw[<-hk];simpa using hcon) g.nodes[k] (by simpa using List.getElem?_eq_getElem hkN)
   have hargs:zHP g.nodes a=g.nodes[k].args:=by rw[zNT,hnk]
   rw[hargs,hk]
   simp only[zlC] at hm
   obtain⟨h1,h2,h3⟩:=zGd hc m (g.nodes[k].args++st) (out++[(k:Int)]) (fun b hb=>by
    rcases List.mem_append.1 hb with hb|hb
    ·exact zAo ((zAu hc).2 _ (List.getElem_mem hkN)) b hb
    ·exact hst b hb) (by rw[List.length_append];omega) (fun b hb c hcc=>by
    rcases List.mem_append.1 hb with hb|hb
    ·rcases h b hb c hcc with h|h
     ·exact .inl (List.mem_append.2 (.inl h))
     ·rcases List.mem_cons.1 h with rfl|h
      ·exact .inl (by rw[hk];simp)
      ·exact .inr (List.mem_append.2 (.inr h))
    ·rw[List.mem_singleton.1 hb,<-hk,hnk] at hcc
     exact .inr (List.mem_append.2 (.inl hcc)))
   exact⟨fun b hb=>by
    rcases List.mem_cons.1 hb with rfl|hb
    ·exact h2 _ (by simp)
    ·exact h1 b (List.mem_append.2 (.inr hb)),fun b hb=>h2 b (List.mem_append.2 (.inl hb)),h3⟩
theorem zEG{g:Graph}(hc:zAB g=0)(a:Int):a∈zAG g↔Rch g a:=by
 have hr:=zAQ hc
 rw[zAG,if_pos hc]
 constructor
 ·exact zEs _ _ _ (fun b hb=>by rw[List.mem_singleton.1 hb];exact .root) (fun b hb=>by cases hb) a
 ·obtain⟨h1,_,h3⟩:=zGd hc (1+zAY [] g.nodes 0) [g.root] [] (fun b hb=>by rw[List.mem_singleton.1 hb];exact⟨hr.1,hr.2.1⟩) (by simp) (fun b hb=>(by cases hb))
  intro h
  induction h with
  |root=>exact h1 _ (by simp)
  |step _ hb ih=>exact h3 _ ih _ hb
theorem Rch.ok{g:Graph}(hc:zAB g=0){a:Int}(h:Rch g a):0<=a/\a<g.nodes.length:=by
 have:=(zEG hc a).2 h
 exact(zCN g).1 a this
theorem zEr{g:Graph}{a:Int}(h:0<=a/\a<g.nodes.length):zAA g a∈g.nodes:=by
 have hk:a.toNat<g.nodes.length:=by omega
 have:zAA g a=g.nodes[a.toNat]:=by simp[zAA,List.getElem?_eq_getElem hk]
 rw[this];exact List.getElem_mem hk
theorem zNH{g:Graph}(hc:zAB g=0):∃l,zAG g=g.root::l:=by
 rw[zAG,if_pos hc,Nat.add_comm,zBV]
 simp only[List.contains_nil,Bool.false_eq_true,if_false,zlA]
 have:∀(m:Nat) (st out:List Int),∃l,zBV g.nodes m st out=out++l:=by
  intro m
  induction m with
  |zero=>intro st out;exact⟨[],by simp[zBV]⟩
  |succ m ih=>
   intro st out
   cases st with
   |nil=>exact⟨[],by simp[zBV]⟩
   |cons a st=>
    rw[zBV]
    split
    ·exact ih st out
    ·obtain⟨l,hl⟩:=ih (zHP g.nodes a++st) (out++[a])
     exact⟨a::l,by rw[hl];simp⟩
 obtain⟨l,hl⟩:=this (zAY [] g.nodes 0) (zHP g.nodes g.root++[]) [g.root]
 exact⟨l,by rw[hl];rfl⟩
structure Quo(g L:Graph)(q:Int->Int):Prop where
 root:L.root=q g.root
 node:∀i,Rch g i->zAA L (q i)={zAA g i with args:=(zAA g i).args.map q}
 surj:∀x:Int,0<=x->x<L.nodes.length->∃i,Rch g i/\q i=x
 range:∀i,Rch g i->0<=q i/\q i<L.nodes.length
 inj:∀i j,Rch g i->Rch g j->zAL (zAA g i)=true->q i=q j->i=j
 check:zAB L=0
theorem zFT{l:List Int}{a:Int}(h:a∈l):zBs l a<l.length/\l[zBs l a]?=some a:=by
 have hc:l.contains a=true:=by simpa using h
 rw[zBs,if_pos hc]
 have:=List.idxOf_lt_length_of_mem h
 exact⟨this,by rw[List.getElem?_eq_getElem this];simp⟩
theorem zFr{g:Graph}(h0:0<=g.root)(h1:g.root<g.nodes.length)(h2:g.nodes.length<=1048576)(h3:∀n∈g.nodes,mayF n g.nodes.length=true):zAB g=0:=by
 unfold zAB
 simp only[Int.ofNat_eq_natCast]
 rw[if_neg (by omega),if_neg (by omega),if_neg (by omega),if_neg]
 simp only[List.any_eq_true,not_exists,not_and]
 intro n hn
 rw[h3 n hn];simp
theorem zJY{n:Node}{N M:Int}(h:mayF n N=true)(f:Int->Int)(hf:∀a∈n.args,0<=f a/\f a<M):mayF {n with args:=n.args.map f} M=true:=by
 have h1:(n.args.map f).any (fun a=>decide (a<0)||decide (a>=M))=false:=by
  rw[List.any_eq_false]
  intro a ha
  obtain⟨b,hb,rfl⟩:=List.mem_map.1 ha
  have:=hf b hb
  simp;omega
 unfold mayF at h ⊢
 split at h
 ·cases h
 rw[h1]
 simpa using h
theorem zLb(f:Int->Nat):∀(l r:List Int),l.Nodup->(∀x∈l,x∈r)->(l.map f).sum<=(r.map f).sum
 |[],r,_,_=>by simp
 |x::l,r,hn,hs=>by
  have hx:=hs x (by simp)
  have hp:r.Perm (x::r.erase x):=List.perm_cons_erase hx
  obtain⟨h1,h2⟩:=List.nodup_cons.1 hn
  have ih:=zLb f l (r.erase x) h2 fun y hy=>(List.mem_erase_of_ne (by rintro rfl;exact h1 hy)).2 (hs y (by simp[hy]))
  have:=(hp.map f).sum_nat
  simp only[List.map_cons,List.sum_cons] at this ⊢
  omega
def allN(n:Nat):List Int:=(List.range n).map fun (i:Nat)=>(i:Int)
theorem zHK{n:Nat}{a:Int}:a∈allN n↔0<=a/\a<n:=by
 simp only[allN,List.mem_map,List.mem_range]
 constructor
 ·rintro⟨i,hi,rfl⟩;omega
 ·rintro⟨h1,h2⟩;exact⟨a.toNat,by omega,by omega⟩
theorem zMh{g:Graph}(_:zAB g=0):(zAG g).length<=g.nodes.length:=by
 obtain⟨h1,h2⟩:=zCN g
 have:=zLb (fun _=>1) (zAG g) (allN g.nodes.length) h2 fun x hx=>zHK.2 (h1 x hx)
 have e:∀l:List Int,(l.map fun _=>1).sum=l.length:=fun l=>by
  induction l with
  |nil=>rfl
  |cons a l ih=>simp only[List.map_cons,List.sum_cons,ih,zlC];omega
 rw[e,e] at this
 simpa[allN] using this
theorem zHO{g:Graph}(hc:zAB g=0):Quo g (zBd g) (fun a=>(zBs (zAG g) a:Int)):=by
 have hmem:=zEG hc
 have hnode:∀i,Rch g i->zAA (zBd g) (zBs (zAG g) i:Int)=zEf (zAG g) (zAA g i):=by
  intro i hi
  obtain⟨h1,h2⟩:=zFT ((hmem i).2 hi)
  simp only[zAA,zBd,Int.toNat_natCast,List.getD,List.getElem?_map,h2]
  rfl
 obtain⟨l,hl⟩:=zNH hc
 have hroot:zBs (zAG g) g.root=0:=by rw[hl,zBs];simp
 have hlen:(zBd g).nodes.length=(zAG g).length:=by simp[zBd]
 refine⟨by show (0:Int)=_;rw[hroot];rfl,hnode,?_,?_,?_,?_⟩
 ·intro x h0 h1
  rw[hlen] at h1
  have hx:x.toNat<(zAG g).length:=by omega
  refine⟨(zAG g)[x.toNat],(hmem _).1 (List.getElem_mem hx),?_⟩
  have hm:=List.getElem_mem hx
  obtain⟨h3,h4⟩:=zFT hm
  rw[List.getElem?_eq_getElem h3] at h4
  have:=(List.getElem_inj (zCN g).2).1 (Option.some.inj h4)
  show ((zBs (zAG g) (zAG g)[x.toNat]:Nat):Int)=x
  omega
 ·intro i hi
  have:=(zFT ((hmem i).2 hi)).1
  rw[hlen];exact⟨by omega,by omega⟩
 ·intro i j hi hj _ he
  have he:((zBs (zAG g) i:Nat):Int)=(zBs (zAG g) j:Nat):=he
  have h1:=(zFT ((hmem i).2 hi)).2
  have h2:=(zFT ((hmem j).2 hj)).2
  have:zBs (zAG g) i=zBs (zAG g) j:=by omega
  rw[this,h2] at h1
  exact(Option.some.inj h1).symm
 ·refine zFr (by show (0:Int)<=0;decide) ?_ ?_ ?_
  ·show (0:Int)<_
   rw[hlen,hl];simp
  ·rw[hlen]
   have:=zMh hc
   have:=(zAQ hc).2.2.1
   omega
  ·intro n hn
   obtain⟨i,hi,rfl⟩:=List.mem_map.1 hn
   have hri:=(hmem i).1 hi
   rw[hlen]
   refine zJY ((zAu hc).2 _ (zEr (hri.ok hc))) (fun a=>(zBs (zAG g) a:Int)) fun a ha=>?_
   have:=(zFT ((hmem a).2 (hri.step ha))).1
   exact⟨by omega,by omega⟩
end Go.Ab.S
end
section
namespace Go.Ab.S
open Go.Ab
set_option maxHeartbeats 1000000
def Least(L:Graph):Prop:=∀E:Int->Int->Prop,(∀x y,E x y->(0<=x/\x<L.nodes.length)/\(0<=y/\y<L.nodes.length)/\(x=y\/(zAL (zAA L x)=false/\zAL (zAA L y)=false/\(zAA L x).kind=(zAA L y).kind/\(zAA L x).name=(zAA L y).name/\(zAA L x).labels=(zAA L y).labels/\(zAA L x).args.length=(zAA L y).args.length∧
 ∀(k:Nat) (a b:Int),(zAA L x).args[k]?=some a->(zAA L y).args[k]?=some b->E a b)))->∀x y,E x y->x=y
theorem zHo(g:Graph)(i:Nat):zAA g (i:Int)=g.nodes.getD i zAg:=rfl
def clsG(g:Graph):Graph:=⟨g.nodes.map (mapN (zAC g)),clAt (zAC g) g.root⟩
theorem zKG{g:Graph}(hc:zAB g=0){a:Int}(ha:0<=a/\a<g.nodes.length):0<=clAt (zAC g) a/\clAt (zAC g) a<g.nodes.length/\clAt (zAC g) a<=a/\clAt (zAC g) (clAt (zAC g) a)=clAt (zAC g) a:=by
 obtain⟨k,rfl⟩:∃k:Nat,a=(k:Int):=⟨a.toNat,by omega⟩
 obtain⟨j,h1,h2,h3⟩:=(zGV hc).2.le k (by omega)
 rw[h1]
 exact⟨by omega,by omega,by omega,h3⟩
theorem zJF{g:Graph}{a:Int}(ha:0<=a/\a<g.nodes.length):zAA (clsG g) a=mapN (zAC g) (zAA g a):=by
 have hk:a.toNat<g.nodes.length:=by omega
 simp only[zAA,clsG,List.getD,List.getElem?_map,List.getElem?_eq_getElem hk]
 rfl
theorem zDv{g:Graph}(hc:zAB g=0):zAB (clsG g)=0:=by
 obtain⟨h1,h2,h3,h4⟩:=zAQ hc
 have hr:=zKG hc ⟨h1,h2⟩
 have hl:(clsG g).nodes.length=g.nodes.length:=by simp[clsG]
 refine zFr hr.1 (by rw[hl];exact hr.2.1) (by rw[hl];exact h3) fun n hn=>?_
 obtain⟨m,hm,rfl⟩:=List.mem_map.1 hn
 rw[hl]
 refine zJY (h4 m hm) (clAt (zAC g)) fun a ha=>?_
 have:=zKG hc (zAo (h4 m hm) a ha)
 exact⟨this.1,this.2.1⟩
theorem zLt{g:Graph}(hc:zAB g=0){a b:Int}(ha:0<=a/\a<g.nodes.length)(hb:0<=b/\b<g.nodes.length)(he:clAt (zAC g) a=clAt (zAC g) b):
  ((zAL (zAA g a)=true\/zAL (zAA g b)=true)->a=b)/\(zAA g a).kind=(zAA g b).kind/\(zAA g a).name=(zAA g b).name/\(zAA g a).labels=(zAA g b).labels/\(zAA g a).args.map (clAt (zAC g))=(zAA g b).args.map (clAt (zAC g))/\zAL (zAA g a)=zAL (zAA g b):=by
 obtain⟨i,rfl⟩:∃k:Nat,a=(k:Int):=⟨a.toNat,by omega⟩
 obtain⟨j,rfl⟩:∃k:Nat,b=(k:Int):=⟨b.toNat,by omega⟩
 obtain⟨h1,h2⟩:=zES hc (i:=i) (j:=j) (by omega) (by omega) he
 exact⟨fun h=>by rw[h1 h],h2⟩
theorem zOZ{n:Node}{N:Int}(h:mayF n N=true):zAL n=false->n.isOpen=false:=by
 intro hf
 simp only[zAL,Bool.or_eq_false_iff] at hf
 exact hf.2
theorem zJE{g:Graph}(hc:zAB g=0){a b:Int}(ha:0<=a/\a<g.nodes.length)(hb:0<=b/\b<g.nodes.length)(he:clAt (zAC g) a=clAt (zAC g) b):mapN (zAC g) (zAA g a)=mapN (zAC g) (zAA g b):=by
 obtain⟨h0,h1,h2,h3,h4,h5⟩:=zLt hc ha hb he
 by_cases hf:zAL (zAA g a)=true
 ·rw[h0 (.inl hf)]
 ·have hfa:zAL (zAA g a)=false:=by simpa using hf
  have hfb:zAL (zAA g b)=false:=by rw[<-h5];exact hfa
  have oa:=zOZ ((zAu hc).2 _ (zEr ha)) hfa
  have ob:=zOZ ((zAu hc).2 _ (zEr hb)) hfb
  generalize zAA g a=n at*
  generalize zAA g b=m at*
  obtain⟨k,nm,ar,lb,op⟩:=n
  obtain⟨k',nm',ar',lb',op'⟩:=m
  simp only at*
  subst h1;subst h2;subst h3;subst oa;subst ob
  simp only[mapN,h4]
theorem zGW{g:Graph}(hc:zAB g=0){a:Int}(h:Rch g a):Rch (clsG g) (clAt (zAC g) a):=by
 induction h with
 |root=>exact .root
 | @step a b ha hb ih=>
  have hra:=ha.ok hc
  have hca:=zKG hc hra
  refine .step ih ?_
  rw[zJF ⟨hca.1,hca.2.1⟩,zJE hc ⟨hca.1,hca.2.1⟩ hra hca.2.2.2]
  exact List.mem_map.2 ⟨b,hb,rfl⟩
theorem cls_back{g:Graph}(hc:zAB g=0){x:Int}(h:Rch (clsG g) x):∃a,Rch g a/\clAt (zAC g) a=x:=by
 induction h with
 |root=>exact⟨_,.root,rfl⟩
 | @step x y hx hy ih=>
  obtain⟨a,ha,rfl⟩:=ih
  have hra:=ha.ok hc
  have hca:=zKG hc hra
  rw[zJF ⟨hca.1,hca.2.1⟩,zJE hc ⟨hca.1,hca.2.1⟩ hra hca.2.2.2] at hy
  obtain⟨b,hb,rfl⟩:=List.mem_map.1 hy
  exact⟨b,ha.step hb,rfl⟩
def qL(g:Graph)(a:Int):Int:=(zBs (zAG (clsG g)) (clAt (zAC g) a):Nat)
theorem zKW{g:Graph}(hc:zAB g=0):zAb g=zBd (clsG g):=by rw[zAb,if_pos hc];rfl
theorem zCJ{g:Graph}(hc:zAB g=0):Quo g (zAb g) (qL g):=by
 have T:=zHO (zDv hc)
 rw[zKW hc]
 refine⟨T.root,fun i hi=>?_,fun x h0 h1=>?_,fun i hi=>T.range _ (zGW hc hi),fun i j hi hj hf he=>?_,T.check⟩
 ·have hri:=hi.ok hc
  have hci:=zKG hc hri
  have:=T.node _ (zGW hc hi)
  rw[zJF ⟨hci.1,hci.2.1⟩,zJE hc ⟨hci.1,hci.2.1⟩ hri hci.2.2.2] at this
  refine Eq.trans this ?_
  simp only[mapN,List.map_map]
  rfl
 ·obtain⟨y,hy,rfl⟩:=T.surj x h0 h1
  obtain⟨a,ha,rfl⟩:=cls_back hc hy
  exact⟨a,ha,rfl⟩
 ·have hri:=hi.ok hc
  have hrj:=hj.ok hc
  have h1:=(zFT ((zEG (zDv hc) _).2 (zGW hc hi))).2
  have h2:=(zFT ((zEG (zDv hc) _).2 (zGW hc hj))).2
  have he:((zBs (zAG (clsG g)) (clAt (zAC g) i):Nat):Int)=(zBs (zAG (clsG g)) (clAt (zAC g) j):Nat):=he
  have he':zBs (zAG (clsG g)) (clAt (zAC g) i)=zBs (zAG (clsG g)) (clAt (zAC g) j):=by omega
  rw[he',h2] at h1
  exact(zLt hc hri hrj (Option.some.inj h1).symm).1 (.inl hf)
theorem qL_inj{g:Graph}(hc:zAB g=0){i j:Int}(hi:Rch g i)(hj:Rch g j)(he:qL g i=qL g j):clAt (zAC g) i=clAt (zAC g) j:=by
 have h1:=(zFT ((zEG (zDv hc) _).2 (zGW hc hi))).2
 have h2:=(zFT ((zEG (zDv hc) _).2 (zGW hc hj))).2
 have he:((zBs (zAG (clsG g)) (clAt (zAC g) i):Nat):Int)=(zBs (zAG (clsG g)) (clAt (zAC g) j):Nat):=he
 have he':zBs (zAG (clsG g)) (clAt (zAC g) i)=zBs (zAG (clsG g)) (clAt (zAC g) j):=by omega
 rw[he',h2] at h1
 exact(Option.some.inj h1).symm
theorem zLH{g:Graph}(hc:zAB g=0):Least (zAb g):=by
 have Q:=zCJ hc
 intro E hE x y hxy
 obtain⟨⟨x0,x1⟩,⟨y0,y1⟩,_⟩:=hE x y hxy
 obtain⟨i,hi,rfl⟩:=Q.surj x x0 x1
 obtain⟨j,hj,rfl⟩:=Q.surj y y0 y1
 have key:clAt (zAC g) ((i.toNat:Nat):Int)=clAt (zAC g) ((j.toNat:Nat):Int):=by
  refine zGr (E:=fun a b=>Rch g (a:Int)/\Rch g (b:Int)/\(qL g (a:Int)=qL g (b:Int)\/E (qL g (a:Int)) (qL g (b:Int)))) ?_ ?_
  ·rintro a b ⟨ha,hb,hab⟩
   have hra:=ha.ok hc
   have hrb:=hb.ok hc
   refine⟨by omega,by omega,?_⟩
   have h:=show _\/_ from(by
    rcases hab with h|h
    ·exact .inl h
    ·exact(hE _ _ h).2.2)
   have na:=Q.node _ ha
   have nb:=Q.node _ hb
   rw[<-zHo,<-zHo]
   by_cases hf:zAL (zAA g (a:Int))=true
   ·refine .inl ?_
    rcases h with h|⟨h,_⟩
    ·have:=Q.inj _ _ ha hb hf h;omega
    ·rw[na] at h
     have:zAL (zAA g (a:Int))=false:=h
     rw[hf] at this;cases this
   by_cases hf':zAL (zAA g (b:Int))=true
   ·refine .inl ?_
    rcases h with h|⟨_,h,_⟩
    ·have:=Q.inj _ _ hb ha hf' h.symm;omega
    ·rw[nb] at h
     have:zAL (zAA g (b:Int))=false:=h
     rw[hf'] at this;cases this
   refine .inr ⟨by simpa using hf,by simpa using hf',?_⟩
   have hsame:(zAA g (a:Int)).kind=(zAA g (b:Int)).kind/\(zAA g (a:Int)).name=(zAA g (b:Int)).name/\(zAA g (a:Int)).labels=(zAA g (b:Int)).labels/\(zAA g (a:Int)).args.length=(zAA g (b:Int)).args.length∧
     ∀(k:Nat) (c d:Int),(zAA g (a:Int)).args[k]?=some c->(zAA g (b:Int)).args[k]?=some d->(qL g c=qL g d\/E (qL g c) (qL g d)):=by
    rcases h with h|⟨_,_,h1,h2,h3,h4,h5⟩
    ·rw[h] at na
     rw[na] at nb
     have e0:=congrArg Node.kind nb
     have e1':=congrArg Node.name nb
     have e2':=congrArg Node.labels nb
     have e3':=congrArg Node.args nb
     simp only at e0 e1' e2' e3'
     refine⟨e0,e1',e2',by simpa using congrArg List.length e3',fun k c d hcc hdd=>?_⟩
     have:=congrArg (fun l=>l[k]?) e3'
     simp only[List.getElem?_map,hcc,hdd,Option.map_some,oI] at this
     exact .inl this
    ·rw[na,nb] at h1 h2 h3 h4 h5
     simp only at h1 h2 h3 h4 h5
     refine⟨h1,h2,h3,by simpa using h4,fun k c d hcc hdd=>?_⟩
     exact .inr <| h5 k _ _ (by rw[List.getElem?_map,hcc];rfl) (by rw[List.getElem?_map,hdd];rfl)
   obtain⟨h1,h2,h3,h4,h5⟩:=hsame
   refine⟨h1,h2,h3,h4,fun k c d hcc hdd=>?_⟩
   have hc1:=ha.step (List.mem_of_getElem? hcc)
   have hd1:=hb.step (List.mem_of_getElem? hdd)
   have hc2:=hc1.ok hc
   have hd2:=hd1.ok hc
   have e1':((c.toNat:Nat):Int)=c:=by omega
   have e2':((d.toNat:Nat):Int)=d:=by omega
   show Rch g ((c.toNat:Nat):Int)/\Rch g ((d.toNat:Nat):Int)/\(qL g ((c.toNat:Nat):Int)=qL g ((d.toNat:Nat):Int)\/E (qL g ((c.toNat:Nat):Int)) (qL g ((d.toNat:Nat):Int)))
   rw[e1',e2']
   exact⟨hc1,hd1,h5 k c d hcc hdd⟩
  ·have e1':((i.toNat:Nat):Int)=i:=by have:=hi.ok hc;omega
   have e2':((j.toNat:Nat):Int)=j:=by have:=hj.ok hc;omega
   rw[e1',e2']
   exact⟨hi,hj,.inr hxy⟩
 have e1':((i.toNat:Nat):Int)=i:=by have:=hi.ok hc;omega
 have e2':((j.toNat:Nat):Int)=j:=by have:=hj.ok hc;omega
 rw[e1',e2'] at key
 show ((zBs (zAG (clsG g)) (clAt (zAC g) i):Nat):Int)=(zBs (zAG (clsG g)) (clAt (zAC g) j):Nat)
 rw[key]
end Go.Ab.S
end
section
namespace Go.Ab.S
open Go.Ab
set_option maxHeartbeats 1000000
theorem zCa:∀(ns:List Node) (i:Nat),zAY [] ns i=(ns.map fun n=>n.args.length).sum
 |[],_=>rfl
 |n::r,i=>by simp only[zAY,List.map_cons,List.sum_cons,zCa r (i+1)];simp
theorem zFm(g:Graph):(allN g.nodes.length).map (zAA g)=g.nodes:=by
 apply List.ext_getElem?
 intro i
 simp only[allN,List.map_map,List.getElem?_map]
 by_cases hi:i<g.nodes.length
 ·rw[List.getElem?_range hi];simp[zAA,hi]
 ·rw[List.getElem?_eq_none (by simpa using hi),List.getElem?_eq_none (by simpa using hi)];rfl
theorem zOz{g:Graph}(hg:GTi g)(hc:zAB g=0):GTi (zBd g):=by
 have hlen:(zBd g).nodes.length=(zAG g).length:=by simp[zBd]
 have hl:=zMh hc
 have hsum:zAY [] (zBd g).nodes 0<=zAY [] g.nodes 0:=by
  obtain⟨h1,h2⟩:=zCN g
  have:=zLb (fun a=>(zAA g a).args.length) (zAG g) (allN g.nodes.length) h2 fun x hx=>zHK.2 (h1 x hx)
  rw[zCa,zCa]
  have e:(g.nodes.map fun n=>n.args.length)=(allN g.nodes.length).map fun a=>(zAA g a).args.length:=by
   conv=>lhs;rw[<-zFm g]
   rw[List.map_map];rfl
  rw[e]
  simp only[zBd,List.map_map]
  have e2:((fun n:Node=>n.args.length)∘fun i=>zEf (zAG g) (zAA g i))=fun a=>(zAA g a).args.length:=by
   funext a;simp[zEf]
  rw[e2];exact this
 have hin:∀n∈(zBd g).nodes,∃m∈g.nodes,n.args.length=m.args.length/\n.labels=m.labels:=by
  intro n hn
  obtain⟨i,hi,rfl⟩:=List.mem_map.1 hn
  exact⟨_,zEr ((zCN g).1 i hi),by simp[zEf],rfl⟩
 have ht:=hg.tinyN
 have hto:=hg.total
 refine⟨⟨⟨by rw[hlen];have:=hg.nodes;omega,fun n hn=>?_⟩,by rw[hlen];omega,fun n hn=>?_⟩,by rw[hlen];omega,fun n hn=>?_⟩
 ·obtain⟨m,hm,h1,h2⟩:=hin n hn
  have:=hg.all m hm
  exact⟨by rw[h1];exact this.args,by rw[h2];exact this.labels,by rw[h2];exact this.texts⟩
 ·obtain⟨m,hm,h1,h2⟩:=hin n hn
  rw[h2];exact hg.labs m hm
 ·obtain⟨m,hm,h1,h2⟩:=hin n hn
  rw[h1];exact hg.tinyA m hm
theorem zIj{g:Graph}(hg:GTi g)(hc:zAB g=0):GTi (zAb g):=by
 rw[zKW hc]
 exact zOz (hg.map _ _) (zDv hc)
end Go.Ab.S
end
section
namespace Go.Ab.S
open Go.Ab
set_option maxHeartbeats 8000000
def idxI(x y:Node)(i:Nat):Nat:=if x.kind==3 then bsAt y.labels (x.labels.getD i []) else i
def zDT(x y:Node):Bool:=if x.kind==3 then x.labels.all (bsIs y.labels) else true
def fwdI(x y:Node):List Pr:=(List.range x.args.length).map fun i=>(x.args.getD i 0,y.args.getD (idxI x y i) 0)
structure Fit(x y:Node):Prop where
 obj:x.kind=3->x.labels.length=x.args.length/\y.labels.length=y.args.length/\Rises y.labels
 con:x.kind≠3->y.args.length=x.args.length
 small:x.args.length<=4096/\y.args.length<=4096
theorem zKq{l:List (List Nat)}{s:List Nat}(h:bsIs l s=true):bsAt l s<l.length:=by
 unfold bsIs at h
 split at h
 ·rename_i x hx;exact(List.getElem?_eq_some_iff.1 hx).1
 ·cases h
def okN(x y:Node):Bool:=x.kind==1||(((x.kind==y.kind&&eqL x.name y.name)&&(x.isOpen||(!y.isOpen&&eqLL x.labels y.labels)))&&zDT x y)
def nxN(x y:Node):List Pr:=if x.kind==1 then [] else (fwdI x y).reverse
def okI(g h:Graph)(p:Pr):Bool:=okN (zAA g p.1) (zAA h p.2)
def nxI(g h:Graph)(p:Pr):List Pr:=nxN (zAA g p.1) (zAA h p.2)
def badI(g:Graph)(p q:Pr):Bool:=zAL (zAA g p.1)&&p.1==q.1
def flI(g:Graph)(met:List Pr):List Pr:=met.filter fun q=>zAL (zAA g q.1)
theorem zOA(g:Graph)(met:List Pr)(p:Pr):flI g (met++[p])=flI g met++(if zAL (zAA g p.1) then [p] else []):=by
 simp only[flI,List.filter_append]
 congr 1
 cases h:zAL (zAA g p.1)<;>simp[h]
theorem badI_any{g:Graph}{met:List Pr}{p:Pr}(hf:zAL (zAA g p.1)=true):met.any (badI g p)=((flI g met).any fun q=>q.1==p.1):=by
 unfold flI
 rw[Bool.eq_iff_iff]
 simp only[List.any_eq_true,badI,hf,Bool.true_and,List.mem_filter,beq_iff_eq]
 constructor
 ·rintro⟨q,hq,h⟩;exact⟨q,⟨hq,by rw[<-h];exact hf⟩,h.symm⟩
 ·rintro⟨q,⟨hq,_⟩,h⟩;exact⟨q,hq,h.symm⟩
theorem zNU{g:Graph}{met:List Pr}{p:Pr}(hf:zAL (zAA g p.1)=false):met.any (badI g p)=false:=by
 rw[List.any_eq_false];intro q _;simp[badI,hf]
theorem zME{g h:Graph}(hg:GTi g)(hh:GTi h)(cg:zAB g=0)(ch:zAB h=0){x y:Node}(hx:x∈g.nodes)(hy:y∈h.nodes)(hk:x.kind=y.kind)(hn:x.name=y.name)(h1:x.kind≠1):Fit x y:=by
 have mx:=zAI ((zAu cg).2 x hx)
 have my:=zAI ((zAu ch).2 y hy)
 have t1:=hg.tinyA x hx
 have t2:=hh.tinyA y hy
 refine⟨fun hk3=>?_,fun hk3=>?_,by omega,by omega⟩
 ·rcases mx with⟨k,_⟩|⟨k,_⟩|⟨k,_,l1,_⟩
  ·omega
  ·omega
  rcases my with⟨k',_⟩|⟨k',_⟩|⟨k',_,l2,r2⟩
  ·omega
  ·omega
  exact⟨l1,l2,zBE r2⟩
 ·rcases mx with⟨k,_⟩|⟨k,_,_,_,l1⟩|⟨k,_,l1,_⟩
  ·omega
  ·rcases my with⟨k',_⟩|⟨k',_,_,_,l2⟩|⟨k',_,_⟩
   ·omega
   ·rw[l1,l2,hn]
   ·omega
  ·omega
def isF(g h:Graph):Bool:=zAB g==0&&(zAB h==0&&zDE (okI g (zAb h)) (nxI g (zAb h)) (badI g) (2+zCb (nxI g (zAb h)) [] (zBD g (zAb h))) [(g.root,(zAb h).root)] [])
theorem nxI_len{g h:Graph}(p:Pr):(nxI g h p).length<=(zAA g p.1).args.length:=by
 simp only[nxI,nxN]
 split<;>simp[fwdI]
theorem nxI_in{g h:Graph}(hg:GTi g)(hh:GTi h)(cg:zAB g=0)(ch:zAB h=0){p:Pr}(hp:p∈zBD g h)(ho:okI g h p=true):∀q∈nxI g h p,q∈zBD g h:=by
 intro q hq
 obtain⟨⟨a0,a1⟩,b0,b1⟩:=zAx.1 hp
 have hx:=zDM a0 a1
 have hy:=zDM b0 b1
 simp only[okI,okN,Bool.or_eq_true,Bool.and_eq_true,beq_iff_eq] at ho
 simp only[nxI,nxN] at hq
 split at hq
 ·cases hq
 ·rename_i hk1
  have hk1':(zAA g p.1).kind≠1:=by simpa using hk1
  rcases ho with ho|⟨⟨⟨h1,h2⟩,_⟩,h4⟩
  ·exact absurd ho hk1'
  have hf:=zME hg hh cg ch hx hy h1 (zBB.1 h2) hk1'
  simp only[fwdI,List.mem_reverse,List.mem_map,List.mem_range] at hq
  obtain⟨i,hi,rfl⟩:=hq
  have hidx:idxI (zAA g p.1) (zAA h p.2) i<(zAA h p.2).args.length:=by
   by_cases hk3:(zAA g p.1).kind=3
   ·obtain⟨q1,q2,q3⟩:=hf.obj hk3
    have hk3':((zAA g p.1).kind==3)=true:=by simpa using hk3
    rw[zDT,hk3'] at h4
    simp only[if_true,List.all_eq_true] at h4
    have hil:i<(zAA g p.1).labels.length:=by omega
    have:=zKq (h4 _ (List.getElem_mem hil))
    rw[idxI,hk3']
    simp only[if_true,List.getD,List.getElem?_eq_getElem hil,Option.getD_some]
    omega
   ·have hk3':((zAA g p.1).kind==3)=false:=by simpa using hk3
    rw[idxI,hk3',hf.con hk3];simpa using hi
  simp only[List.getD,List.getElem?_eq_getElem hi,List.getElem?_eq_getElem hidx,Option.getD_some]
  exact zAx.2 ⟨zAo ((zAu cg).2 _ hx) _ (List.getElem_mem hi),zAo ((zAu ch).2 _ hy) _ (List.getElem_mem hidx)⟩
theorem zJs{g:Graph}(h1:g.nodes.length+zAY [] g.nodes 0<=4096)(h2:∀n∈g.nodes,n.labels.length<=4096/\∀s∈n.labels,s.length<2 ^ 60):GTi g:=by
 have e30:(2:Nat) ^ 30=1073741824:=by decide
 have e60:(2:Nat) ^ 60=1152921504606846976:=by decide
 refine⟨⟨⟨by omega,fun n hn=>⟨?_,?_,(h2 n hn).2⟩⟩,by omega,fun n hn=>?_⟩,by omega,fun n hn=>?_⟩
 ·have:=zCZ g.nodes 0 n hn;omega
 ·have:=(h2 n hn).1;omega
 ·have:=(h2 n hn).1;omega
 ·have:=zCZ g.nodes 0 n hn;omega
end Go.Ab.S
end
section
namespace Go.Ab.S
open Go.Ab
set_option maxHeartbeats 8000000
structure MInv(h0:AHeap)(bm rm rw:Nat)(nv mv:AVal)(g h:Graph)(w met fl:List Pr)(vw:AVal)(hp:AHeap):Prop where
 grow:Grow h0 hp
 om:∃ver,hp.objs.get bm=some (ver,.cells false 56 [nv,.int .i64 g.root,mv,.int .i64 h.root,.map (some rm),.map (some rw),vw])
 o5:∃ver es c,hp.objs.get rm=some (ver,.map es c)/\MP es met
 o6:∃ver es c,hp.objs.get rw=some (ver,.map es c)/\FA es fl
 bw:Built hp h0.next 58 2 vw w.length (rowC w)
 low:h0.next<=bm/\h0.next<=rm/\h0.next<=rw/\rm≠rw
section
variable{h0:AHeap}{bm rm rw:Nat}{nv mv:AVal}{g h:Graph}{w w' met fl:List Pr}{vw vw':AVal}{hp hq:AHeap}(I:MInv h0 bm rm rw nv mv g h w met fl vw hp)
include I
theorem MInv.other(gr:Grow hp hq):MInv h0 bm rm rw nv mv g h w met fl vw hq:=by
 obtain⟨vm,km⟩:=I.om
 obtain⟨v5,e5,c5,k5,f5⟩:=I.o5
 obtain⟨v6,e6,c6,k6,f6⟩:=I.o6
 exact⟨I.grow.trans gr,⟨vm,gr.keep _ _ km⟩,⟨_,_,_,gr.keep _ _ k5,f5⟩,⟨_,_,_,gr.keep _ _ k6,f6⟩,I.bw.grow gr,I.low⟩
theorem MInv.row(gr:Grow h0 hq)(kp:∀c p,hp.objs.get c=some p->tagO p.2=0->hq.objs.get c=some p)(om:∃ver,hq.objs.get bm=some (ver,.cells false 56 [nv,.int .i64 g.root,mv,.int .i64 h.root,.map (some rm),.map (some rw),vw']))
  (B:Built hq h0.next 58 2 vw' w'.length (rowC w')):MInv h0 bm rm rw nv mv g h w' met fl vw' hq:=by
 obtain⟨v5,e5,c5,k5,f5⟩:=I.o5
 obtain⟨v6,e6,c6,k6,f6⟩:=I.o6
 exact⟨gr,om,⟨_,_,_,kp _ _ k5 rfl,f5⟩,⟨_,_,_,kp _ _ k6 rfl,f6⟩,B,I.low⟩
theorem MInv.put5(w0:WF h0){ver:Nat}{es:List (AVal×AVal×Nat)}{c:Nat}{met':List Pr}(p:But rm hp hq)(o:hq.objs.get rm=some (ver,.map es c))(f:MP es met'):MInv h0 bm rm rw nv mv g h w met' fl vw hq:=by
 obtain⟨vm,km⟩:=I.om
 obtain⟨v5,e5,c5,k5,f5⟩:=I.o5
 obtain⟨v6,e6,c6,k6,f6⟩:=I.o6
 obtain⟨l4,l5,l6,n56⟩:=I.low
 exact⟨p.grow h0 w0 I.grow l5,⟨_,p.kp k5 km rfl⟩,⟨_,_,_,o,f⟩,⟨_,_,_,p.keep _ (Ne.symm n56) _ k6,f6⟩,zAK I.bw p k5 (fun vs hh=>by cases hh),l4,l5,l6,n56⟩
theorem MInv.put6(w0:WF h0){ver:Nat}{es:List (AVal×AVal×Nat)}{c:Nat}{fl':List Pr}(p:But rw hp hq)(o:hq.objs.get rw=some (ver,.map es c))(f:FA es fl'):MInv h0 bm rm rw nv mv g h w met fl' vw hq:=by
 obtain⟨vm,km⟩:=I.om
 obtain⟨v5,e5,c5,k5,f5⟩:=I.o5
 obtain⟨v6,e6,c6,k6,f6⟩:=I.o6
 obtain⟨l4,l5,l6,n56⟩:=I.low
 exact⟨p.grow h0 w0 I.grow l6,⟨_,p.kp k6 km rfl⟩,⟨_,_,_,p.keep _ n56 _ k5,f5⟩,⟨_,_,_,o,f⟩,zAK I.bw p k6 (fun vs hh=>by cases hh),l4,l5,l6,n56⟩
end
theorem zLs{fns:FnsT}{summ:SumT}{ro:Option Nat}{c:ACode}{a:AAct}{h:AHeap}{Q:AExit->AAct->AHeap->Prop}(I:AAct->AHeap->Prop)(k1:Cd fns summ ro c a h (nxt I Q))(k2:∀a h,I a h->Q .normal a h):Cd fns summ ro c a h Q:=
 k1.mono fun e a1 h1 hq=>by cases e with
  |normal=>exact k2 a1 h1 hq
  |ret=>exact hq
  |exit i=>exact hq
section
variable{fns:FnsT}{summ:SumT}
variable(H:Has fns summ)
include H
theorem zMO{h0:AHeap}{bm rm rw:Nat}{nv mv:AVal}{g h:Graph}{w met fl:List Pr}{vw:AVal}{hp:AHeap}(w0:WF h0)(I:MInv h0 bm rm rw nv mv g h w met fl vw hp)(x y:Node)(hxy:Fit x y)(av lv bv mv':AVal)(ha:IntsAt h0 av x.args)(hl:StrsAt h0 lv x.labels)(hb:IntsAt h0 bv y.args)(hm:StrsAt h0 mv' y.labels)(hw:w.length<=2 ^ 36):
  Cl fns summ 44 [.ptr (some (bm,0)),zCF x av lv,zCF y bv mv'] hp fun r h'=>(r=.bool true/\zDT x y=true/\∃vw',MInv h0 bm rm rw nv mv g h ((fwdI x y).reverse++w) met fl vw' h')\/(r=.bool false/\zDT x y=false/\Grow h0 h'):=by
 have hla:=ha.len
 have hlb:=hb.len
 have hll:=hl.len
 have hlm:=hm.len
 have e36:(2:Nat) ^ 36=68719476736:=by decide
 have e37:(2:Nat) ^ 37=137438953472:=by decide
 have hsm:=hxy.small
 unfold zCF
 refine H.go (fn:=F_margs) rfl (by decide) rfl rfl ?_
 unfold F_margs
 dsimp only[qQ,qE,tm,mt,lo,fa,jk,jv,jb,js,ji,je,jd,jx,jo,jt,jR,jS,jC,jL]
 refine zAv (zBC ?_)
 refine zAm e1 cc I.grow.wf ?_
 rintro b4 h4 hb4 g4 o4
 refine zAm e1 cc g4.wf ?_
 rintro b5 h5 (hb5:h4.next<=b5) g5 o5
 have l4:=g4.wf.lt o4
 replace o4:=g5.keep _ _ o4
 have I5:=(I.other g4).other g5
 have nx:=I.grow.next
 have nx4:=g4.next
 clear I g4 g5
 repeat refine zR ?_
 refine zBR (N:=x.args.length) (fun j a hr=>∃vx,MInv h0 bm rm rw nv mv g h (((fwdI x y).take j).reverse++w) met fl vx hr/\Hid (x.kind=3->∀s∈x.labels.take j,bsIs y.labels s=true)/\(∃ver,hr.objs.get b4=some (ver,.cells false 34 [.int .i64 x.kind,.str x.name,av,lv,.bool x.isOpen]))/\(∃ver,hr.objs.get b5=some (ver,.cells false 34 [.int .i64 y.kind,.str y.name,bv,mv',.bool y.isOpen]))/\a.defers=[]/\ev a (.tmp 0)=some (.ptr (some (bm,0)))/\ev a (.tmp 4)=some (.ptr (some (b4,0)))/\ev a (.tmp 5)=some (.ptr (some (b5,0)))/\ev a (.tmp 13)=some av) ?_ ?_ ⟨vw,by simpa using I5,⟨fun _ s hs=>by simp at hs⟩,⟨_,o4⟩,⟨_,o5⟩,n1,e1,e1,e1,e1⟩
 ·clear I5 o4 o5
  rintro j a hr hj ⟨vx,I,hfound,⟨v4,o4⟩,⟨v5,o5⟩,hd,h0',h4',h5',h13⟩ hi hn
  obtain⟨ba,oa,vera,ra,ea,vsa,hixa,hga0,hva⟩:=ha.at (List.getElem?_eq_getElem hj)
  have hga:=I.grow.keep _ _ hga0
  have hzl:j<(fwdI x y).length:=by simp[fwdI];exact hj
  have hwl:(((fwdI x y).take j).reverse++w).length<=2 ^ 36+4096:=by
   rw[List.length_append,List.length_reverse,List.length_take];omega
  have hfj:(fwdI x y)[j]=(x.args[j],y.args.getD (idxI x y j) 0):=by
   simp only[fwdI,List.getElem_map,List.getElem_range,List.getD,List.getElem?_eq_getElem hj];rfl
  have hst:((fwdI x y).take (j+1)).reverse++w=(x.args[j],y.args.getD (idxI x y j) 0)::(((fwdI x y).take j).reverse++w):=by
   rw[List.take_succ_eq_append_getElem hzl,List.reverse_append,hfj];rfl
  have hroom:zCU 16 ((((fwdI x y).take j).reverse++w).length+1)=true:=roomP (by omega)
  replace hst:=Hid.mk hst
  clear hfj hzl hwl e36 e37
  obtain⟨vm,om⟩:=I.om
  repeat refine zR ?_
  refine zLs (fun a hq=>hq=hr/\Hid (x.kind=3->∀s∈x.labels.take (j+1),bsIs y.labels s=true)/\Hid (idxI x y j<y.args.length)/\a.defers=[]/\ev a (.tmp 0)=some (.ptr (some (bm,0)))/\ev a (.tmp 4)=some (.ptr (some (b4,0)))/\ev a (.tmp 5)=some (.ptr (some (b5,0)))/\ev a (.tmp 13)=some av/\ev a (.tmp 8)=some (.int .i64 x.args[j])/\ev a (.tmp 9)=some (.int .i64 (idxI x y j:Nat))/\ev a (.tmp 15)=some (.int .i64 (j:Nat))/\ev a (.tmp 14)=some (.int .i64 (x.args.length:Nat))) ?_ ?_
  ·cases hk:(x.kind==3)
   ·have hidx:j=idxI x y j:=by rw[idxI,hk];rfl
    have hidx':(j:Int)=((idxI x y j:Nat):Int):=by rw[<-hidx]
    have hk3:x.kind≠3:=by simpa using hk
    have hlt:idxI x y j<y.args.length:=by rw[<-hidx,hxy.con hk3];exact hj
    clear hidx
    repeat refine zR ?_
    exact⟨rfl,⟨fun hh=>absurd hh hk3⟩,⟨hlt⟩,n1,e1,e1,e1,e1,e1,by rw[<-hidx'];exact e1,e1,e1⟩
   ·have hk3:x.kind=3:=by simpa using hk
    obtain⟨q1,q2,q3⟩:=hxy.obj hk3
    have hjl:j<x.labels.length:=by omega
    have hidx:idxI x y j=bsAt y.labels x.labels[j]:=by rw[idxI,hk];simp[List.getD,List.getElem?_eq_getElem hjl]
    obtain⟨bl,ol,verl,rl,el,vsl,hixl,hgl0,hvl⟩:=hl.at (List.getElem?_eq_getElem hjl)
    have hgl:=I.grow.keep _ _ hgl0
    have hpc:=Hid.mk (And.intro hk3 (And.intro q1 q2))
    clear hk3 q1 q2
    repeat refine zR ?_
    refine dr_e (zDA s1 ((BinarySearch_ok H y.labels q3 (by have:=hpc.out;omega) x.labels[j] mv' hr (hm.mono I.grow)).mono ?_))
    rintro _ _ ⟨rfl,rfl⟩
    refine⟨by simp[zAM,Nat.testBit,o4,o5,hgl],?_⟩
    cases hbs:bsIs y.labels x.labels[j]
    ·repeat' first|refine zG ?_|(with_reducible apply zAD;exact e1;all_goals intro _)
     refine .inr ⟨rfl,?_,I.grow⟩
     rw[zDT,hk]
     simp only[if_true]
     rw[List.all_eq_false]
     exact⟨_,List.getElem_mem hjl,by simpa using hbs⟩
    ·have hlt:=zKq hbs
     repeat refine zR ?_
     refine⟨rfl,⟨fun hh s hs=>?_⟩,⟨by rw[hidx];have:=hpc.out;omega⟩,n1,e1,e1,e1,e1,e1,by rw[hidx];exact e1,e1,e1⟩
     rw[List.take_succ_eq_append_getElem hjl] at hs
     rcases List.mem_append.1 hs with hs|hs
     ·exact hfound.out hh s hs
     ·rw[List.mem_singleton.1 hs];exact hbs
  ·clear hfound hd h0' h4' h5' h13 hi hn hixa hga hga0 hva
   rintro a hq ⟨rfl,hfound,hlt,hd,h0',h4',h5',h13,h8',h9',hi,hn⟩
   refine zAf ?_
   have hgd:y.args.getD (idxI x y j) 0=y.args[idxI x y j]'hlt.out:=by simp[List.getD,List.getElem?_eq_getElem hlt.out]
   obtain⟨bb,ob,verb,rb,eb,vsb,hixb,hgb0,hvb⟩:=hb.at (List.getElem?_eq_getElem hlt.out)
   have hgb:=I.grow.keep _ _ hgb0
   obtain⟨hst⟩:=hst
   rw[hgd] at hst
   replace hst:=Hid.mk hst
   clear hgd
   generalize hyv:y.args[idxI x y j]'hlt.out=yv at*
   clear hyv
   generalize hkj:idxI x y j=kj at*
   clear hkj
   repeat refine zR ?_
   refine zAk (zAW (v:=.agg (zBQ (x.args[j],yv))) (cs:=zBQ (x.args[j],yv)) e1 rfl rfl rfl I.grow.wf ?_)
   rintro bx h9 hbx g9 ox
   refine zAN ⟨by simp[zAM,Nat.testBit,g9.keep _ _ om,g9.keep _ _ o5,g9.keep _ _ hgb],?_⟩
   have B9:=I.bw.grow g9
   have I9:=I.other g9
   refine zAk (zAi e1 e1 B9 ox rfl rfl hroom g9.wf (by have:=I9.grow.next;omega) ?_)
   rintro vx' h10 B10 f10 w10 n10 gr10 kp10
   have G10:=gr10 h0 w0 I9.grow (Nat.le_refl _)
   rw[<-zDP,<-hst.out] at B10
   have hll:(((fwdI x y).take (j+1)).reverse++w).length=(((fwdI x y).take j).reverse++w).length+1:=by rw[hst.out];rfl
   rw[<-hll] at B10
   have kk:∀c p,hq.objs.get c=some p->(∀vs,p.2≠.cells false 58 vs)->h10.objs.get c=some p:=fun c p hc hne=>kp10 _ _ (g9.keep _ _ hc) (zAF B9 (g9.keep _ _ hc) hne)
   have om10:=kk _ _ om (fun vs hh=>by cases hh)
   have o4':=kk _ _ o4 (fun vs hh=>by cases hh)
   have o5':=kk _ _ o5 (fun vs hh=>by cases hh)
   have hv10:=B10.len
   refine zAN ⟨by simp[zAM,Nat.testBit,o5',G10.keep _ _ hgb0],?_⟩
   repeat refine zR ?_
   refine zAk (zAE e1 e1 (zAP hv10) rfl w10 om10 (by simp) (by simp only[List.all_cons,List.all_nil,zAH hv10,Bool.and_true]) ?_)
   rintro v11 h11 p11 o11
   simp only[lL,Nat.reduceAdd] at o11
   have G11:=p11.grow h0 w0 G10 I.low.1
   have I11:MInv h0 bm rm rw nv mv g h (((fwdI x y).take (j+1)).reverse++w) met fl vx' h11:=I.row G11 (fun c p hc ht=>p11.kp om10 (kk c p hc (fun vs hh=>by rw[hh] at ht;simp[tagO] at ht)) (by rw[ht];rfl)) ⟨_,o11⟩ (zAK B10 p11 om10 (fun vs hh=>by cases hh))
   refine zAN ⟨by simp[zAM,Nat.testBit],?_⟩
   have o4'':=p11.kp om10 o4' rfl
   have o5'':=p11.kp om10 o5' rfl
   clear I I9 B9 B10 kp10 gr10 f10 ox om om10 o4 o5 o4' o5' hgb hgb0 hixb hvb g9 hst hll kk p11 o11 hv10
   repeat refine zR ?_
   exact⟨⟨vx',I11,hfound,⟨_,o4''⟩,⟨_,o5''⟩,n1,e1,e1,e1,e1⟩,e1,e1⟩
 ·rintro a hr ⟨vx,I,hfound,_,_,hd,_,_,_,_⟩
  have hfl:(fwdI x y).take x.args.length=fwdI x y:=List.take_of_length_le (by simp[fwdI])
  rw[hfl] at I
  repeat' first|refine zG ?_|(with_reducible apply zAD;exact e1;all_goals intro _)
  refine .inl ⟨rfl,?_,vx,I⟩
  unfold zDT
  split
  ·rename_i hk
   have hk:x.kind=3:=by simpa using hk
   rw[List.all_eq_true]
   intro s hs
   have:=hfound.out hk s
   rw[List.take_of_length_le (by have:=hxy.obj hk;omega)] at this
   exact this hs
  ·rfl
end
end Go.Ab.S
end
section
namespace Go.Ab.S
open Go.Ab
set_option maxHeartbeats 8000000
section
variable{fns:FnsT}{summ:SumT}
variable(H:Has fns summ)
include H
theorem match_ok{h0:AHeap}{bm rm rw:Nat}{nv mv:AVal}{g h:Graph}{w met:List Pr}{vw:AVal}{hp:AHeap}(w0:WF h0)(hg:GTi g)(hh:GTi h)(cg:Hid (zAB g=0))(ch:Hid (zAB h=0))(hN:NodesAt h0 nv g.nodes)(hM:NodesAt h0 mv h.nodes)(I:MInv h0 bm rm rw nv mv g h w met (flI g met) vw hp)(p:Pr)(hpp:p∈zBD g h)(hw:w.length<=2 ^ 36):
  Cl fns summ 25 [.ptr (some (bm,0)),.agg (zBQ p)] hp fun r h'=>(met.contains p=true/\r=.bool true/\∃vw',MInv h0 bm rm rw nv mv g h w met (flI g met) vw' h')\/(met.contains p=false/\((r=.bool true/\okI g h p=true/\met.any (badI g p)=false/\∃vw',MInv h0 bm rm rw nv mv g h (nxI g h p++w) (met++[p]) (flI g (met++[p])) vw' h')∨
   (r=.bool false/\(okI g h p&& !(met.any (badI g p)))=false/\Grow h0 h'))):=by
 obtain⟨⟨a0,a1⟩,b0,b1⟩:=zAx.1 hpp
 obtain⟨ka,hka,hkaN,hna⟩:=zFI a0 a1
 obtain⟨kb,hkb,hkbN,hnb⟩:=zFI b0 b1
 have hpc:zBQ p=[.int .i64 (ka:Nat),.int .i64 (kb:Nat)]:=by rw[zBQ,hka,hkb]
 have ht2:∀x y:AVal,List.take 2 [x,y]=[x,y]:=fun _ _=>rfl
 clear a0 a1 b0 b1
 rw[hpc]
 refine H.go (fn:=F_match) rfl (by decide) rfl rfl ?_
 unfold F_match
 dsimp only[qQ,qE,qN,gQ,gE,tm,mt,lo,fa,jn,jk,jb,jl,js,ji,jf,jx,jo,jt,jN,jR,jS,jC]
 refine zAv (zBC ?_)
 refine zAm e1 cc I.grow.wf ?_
 rintro b3 h3 hb3 g3 o3
 have I3:=I.other g3
 obtain⟨vm,om⟩:=I3.om
 obtain⟨v5,es5,c5,o5,f5⟩:=I3.o5
 have hlk5:=f5.look o5 p
 rw[hpc] at hlk5
 cases hmet:met.contains p
 ·rw[hmet] at hlk5
  have hnm:p∉met:=by simpa using hmet
  have hf5:=f5.none hnm
  rw[hpc] at hf5
  repeat refine zR ?_
  refine zAk (zFb e1 e1 e1 (by intro hh;cases hh) rfl I3.grow.wf o5 hf5 ?_)
  rintro vy h8 py oy
  have fy:=f5.put (c:=c5) hnm
  rw[hpc] at fy
  have I8:=I3.put5 w0 py oy fy
  replace o3:=py.kp o5 o3 rfl
  refine zAN ⟨by simp[zAM,Nat.testBit],?_⟩
  obtain⟨vm,om⟩:=I8.om
  obtain⟨bn,on,vern,ron,en,vsn,av,lv,hixn,hgn0,hvl,hv5,_,_,_,_,_,hav,hlv⟩:=hN.at (List.getElem?_eq_getElem hkaN)
  obtain⟨bq,oq,verm,rom,em,vsm,bv,mv',hixm,hgm0,hvlm,hv5m,_,_,_,_,_,hbv,hmv⟩:=hM.at (List.getElem?_eq_getElem hkbN)
  have hgn:=I8.grow.keep _ _ hgn0
  have hgm:=I8.grow.keep _ _ hgm0
  have hmem:=List.getElem_mem hkaN
  have hmem':=List.getElem_mem hkbN
  have hla:=hav.len
  have hll:=hlv.len
  have hlb:=hbv.len
  have hlm:=hmv.len
  clear hlk5 hf5 o5 hgn0 hgm0 py oy I I3 g3 fy f5
  repeat refine zR ?_
  refine zAk (zAS I8.grow.wf ?_)
  rintro b10 h10 hb10 g10 o10
  have w10:=g10.wf
  refine zAN ⟨by simp[zAM,Nat.testBit,g10.keep _ _ om,g10.keep _ _ o3,g10.keep _ _ hgn,g10.keep _ _ hgm],?_⟩
  refine zAk (zAS w10 ?_)
  rintro b11 h11 (hb11:h10.next<=b11) g11 o11
  have g811:=g10.trans g11
  refine zAN ⟨by simp[zAM,Nat.testBit,g811.keep _ _ om,g811.keep _ _ o3,g811.keep _ _ hgn,g811.keep _ _ hgm],?_⟩
  have l10:=g10.wf.lt o10
  replace o10:=g11.keep _ _ o10
  have nx8:=g10.next
  refine zAk (zAE e1 e1 (cs:=[.int .i64 g.nodes[ka].kind,.str g.nodes[ka].name,av,lv,.bool g.nodes[ka].isOpen]) rfl rfl g11.wf o10 (by simp) (zBN hla hll) ?_)
  rintro v12 h12 p12 o12
  simp only[lL,Nat.reduceAdd] at o12
  have g12:Grow h8 h12:=p12.grow h8 I8.grow.wf g811 hb10
  have o11':=p12.keep b11 (by omega) _ o11
  refine zAN ⟨by simp[zAM,Nat.testBit,g12.keep _ _ om,g12.keep _ _ o3,g12.keep _ _ hgn,g12.keep _ _ hgm],?_⟩
  refine zAk (zAE e1 e1 (cs:=[.int .i64 h.nodes[kb].kind,.str h.nodes[kb].name,bv,mv',.bool h.nodes[kb].isOpen]) rfl rfl g12.wf o11' (by simp) (zBN hlb hlm) ?_)
  rintro v13 h13 p13 o13
  simp only[lL,Nat.reduceAdd] at o13
  have g13:Grow h8 h13:=p13.grow h8 I8.grow.wf g12 (by omega)
  have o10':=p13.keep b10 (by omega) _ o12
  refine zAN ⟨by simp[zAM,Nat.testBit],?_⟩
  have o3z:=g13.keep _ _ o3
  have I13:=I8.other g13
  have hp10:zAl (some 5) [.int .i64 g.nodes[ka].kind,.str g.nodes[ka].name,av,lv,.bool g.nodes[ka].isOpen] 0=some (zCF g.nodes[ka] av lv):=rfl
  have hp11:zAl (some 5) [.int .i64 h.nodes[kb].kind,.str h.nodes[kb].name,bv,mv',.bool h.nodes[kb].isOpen] 0=some (zCF h.nodes[kb] bv mv'):=rfl
  clear om o3 hgn hgm o10 o11 o12 o11' p12 p13 g10 g11 g12 g13 g811 hixn hixm hvl hv5 hvlm hv5m w10 hb10 hb11 l10 nx8 I8
  have hfre:zAL (zAA g p.1)=(g.nodes[ka].kind==1||g.nodes[ka].isOpen):=by rw[hna];rfl
  have hokp:okI g h p=okN g.nodes[ka] h.nodes[kb]:=by rw[okI,hna,hnb]
  have hnxp:nxI g h p=nxN g.nodes[ka] h.nodes[kb]:=by rw[nxI,hna,hnb]
  refine zIW (zAf ?_)
  refine zAv ?_
  refine zLs (fun a hq=>MInv h0 bm rm rw nv mv g h w (met++[p]) (flI g (met++[p])) vw hq/\met.any (badI g p)=false/\(∃ver,hq.objs.get b10=some (ver,.cells false 34 [.int .i64 g.nodes[ka].kind,.str g.nodes[ka].name,av,lv,.bool g.nodes[ka].isOpen]))/\(∃ver,hq.objs.get b11=some (ver,.cells false 34 [.int .i64 h.nodes[kb].kind,.str h.nodes[kb].name,bv,mv',.bool h.nodes[kb].isOpen]))/\a.defers=[]∧
   ev a (.tmp 0)=some (.ptr (some (bm,0)))/\ev a (.tmp 5)=some (.ptr (some (b10,0)))/\ev a (.tmp 6)=some (.ptr (some (b11,0)))) ?_ ?_
  ·cases hf:(g.nodes[ka].kind==1||g.nodes[ka].isOpen)
   ·rw[hf] at hfre
    have hfl:flI g (met++[p])=flI g met:=by rw[zOA,hfre];simp
    have hbad:=zNU (met:=met) hfre
    repeat refine zR ?_
    exact⟨by rw[hfl];exact I13,hbad,⟨_,o10'⟩,⟨_,o13⟩,n1,e1,e1,e1⟩
   ·rw[hf] at hfre
    have hfl:flI g (met++[p])=flI g met++[p]:=by rw[zOA,hfre];simp
    have hany:=badI_any (met:=met) hfre
    obtain⟨v6,es6,c6,o6,f6⟩:=I13.o6
    obtain⟨vm,om⟩:=I13.om
    obtain⟨xb,hlk6,hxb⟩:=f6.look o6 p.1
    cases hb1:(flI g met).any fun q=>q.1==p.1
    ·rw[hb1,hka] at hlk6
     rw[hb1] at hany
     have hn6:=f6.none (a:=p.1) fun q hq hh=>by
      have:=List.any_eq_false.1 hb1 q hq
      simp[hh] at this
     rw[hka] at hn6
     have F6:=f6.put (c:=c6) (p:=p) fun q hq hh=>by
      have:=List.any_eq_false.1 hb1 q hq
      simp[hh] at this
     rw[hka,hkb] at F6
     replace hany:=Hid.mk hany
     clear hb1 hxb f6
     repeat refine zR ?_
     refine zAk (zFb e1 e1 e1 (by intro hh;cases hh) rfl I13.grow.wf o6 hn6 ?_)
     rintro vy hy py oy
     have Iy:=I13.put6 w0 py oy F6
     refine zAN ⟨by simp[zAM,Nat.testBit],?_⟩
     have o10y:=py.kp o6 o10' rfl
     have o13y:=py.kp o6 o13 rfl
     clear o6 om py oy hn6 hlk6 F6 o10' o13
     repeat refine zR ?_
     exact⟨by rw[hfl];exact Iy,hany.out,⟨_,o10y⟩,⟨_,o13y⟩,n1,e1,e1,e1⟩
    ·rw[hb1,hka] at hlk6
     have hne:(xb != (kb:Int))=true:=by
      obtain⟨q,hq,hq1,hq2⟩:=hxb hb1
      rw[bne_iff_ne]
      rintro rfl
      refine hnm ?_
      have:q=p:=by ext<;>simp_all
      rw[<-this];exact(List.mem_filter.1 hq).1
     have hne2:met.any (badI g p)=true:=by rw[hany,hb1]
     clear hany hb1 hxb f6
     replace hne2:=Hid.mk hne2
     replace hmet:=Hid.mk hmet
     repeat' first|refine zG ?_|(with_reducible apply zAD;exact e1;all_goals intro _)
     exact .inr ⟨rfl,.inr ⟨rfl,by rw[hne2.out];simp,I13.grow⟩⟩
  ·clear I13 o3z o10' o13
   rintro a hq ⟨I,hbad,⟨v10,o10⟩,⟨v11,o11⟩,hd,h0',h5',h6'⟩
   replace hmet:=Hid.mk hmet
   replace hbad:=Hid.mk hbad
   cases hk1:(g.nodes[ka].kind==1)
   ·have hok1:okN g.nodes[ka] h.nodes[kb]=(((g.nodes[ka].kind==h.nodes[kb].kind&&eqL g.nodes[ka].name h.nodes[kb].name)&&(g.nodes[ka].isOpen||(!h.nodes[kb].isOpen&&eqLL g.nodes[ka].labels h.nodes[kb].labels)))&&zDT g.nodes[ka] h.nodes[kb]):=by rw[okN,hk1];rfl
    have hnx1:nxN g.nodes[ka] h.nodes[kb]=(fwdI g.nodes[ka] h.nodes[kb]).reverse:=by rw[nxN,hk1];rfl
    replace hok1:=Hid.mk hok1
    replace hnx1:=Hid.mk hnx1
    replace hokp:=Hid.mk hokp
    replace hnxp:=Hid.mk hnxp
    cases hkd:(g.nodes[ka].kind==h.nodes[kb].kind)
    ·have hkd':(g.nodes[ka].kind != h.nodes[kb].kind)=true:=by rw[bne,hkd];rfl
     replace hkd:=Hid.mk hkd
     repeat' first|refine zG ?_|(with_reducible apply zAD;exact e1;all_goals intro _)
     exact .inr ⟨rfl,.inr ⟨rfl,by rw[hokp.out,hok1.out,hkd.out];simp,I.grow⟩⟩
    ·have hkd':(g.nodes[ka].kind != h.nodes[kb].kind)=false:=by rw[bne,hkd];rfl
     replace hkd:=Hid.mk hkd
     cases hnm':eqL g.nodes[ka].name h.nodes[kb].name
     ·repeat' first|refine zG ?_|(with_reducible apply zAD;exact e1;all_goals intro _)
      exact .inr ⟨rfl,.inr ⟨rfl,by rw[hokp.out,hok1.out,hnm'];simp,I.grow⟩⟩
     ·have hfit:Hid (Fit g.nodes[ka] h.nodes[kb]):=⟨zME hg hh cg.out ch.out hmem hmem' (by simpa using hkd.out) (zBB.1 hnm') (by simpa using hk1)⟩
      cases hxo:g.nodes[ka].isOpen
      ·cases hyo:h.nodes[kb].isOpen
       ·repeat refine zR ?_
        refine zAr e1 s1 ((EqualStr_ok H g.nodes[ka].labels h.nodes[kb].labels (hg.all _ hmem).labels lv mv' hq (hlv.mono I.grow) (hmv.mono I.grow)).mono ?_)
        rintro _ _ ⟨rfl,rfl⟩
        cases hll2:eqLL g.nodes[ka].labels h.nodes[kb].labels
        ·repeat' first|refine zG ?_|(with_reducible apply zAD;exact e1;all_goals intro _)
         exact .inr ⟨rfl,.inr ⟨rfl,by rw[hokp.out,hok1.out,hxo,hll2];simp,I.grow⟩⟩
        ·repeat refine zR ?_
         refine zAJ (by unfold zCF;rw[hxo,hyo];exact s1) ((zMO H w0 I g.nodes[ka] h.nodes[kb] hfit.out av lv bv mv' hav hlv hbv hmv hw).mono ?_)
         rintro _ hz (⟨rfl,hao,vw',Iz⟩|⟨rfl,hao,gz⟩)
         ·replace hao:=Hid.mk hao
          clear I o10 o11
          repeat' first|refine zG ?_|(with_reducible apply zAD;exact e1;all_goals intro _)
          exact .inr ⟨rfl,.inl ⟨rfl,by simp[hokp.out,hok1.out,hkd.out,hnm',hxo,hyo,hll2,hao.out],hbad.out,vw',by rw[hnxp.out,hnx1.out];exact Iz⟩⟩
         ·replace hao:=Hid.mk hao
          clear I o10 o11
          repeat' first|refine zG ?_|(with_reducible apply zAD;exact e1;all_goals intro _)
          exact .inr ⟨rfl,.inr ⟨rfl,by simp[hokp.out,hok1.out,hao.out],gz⟩⟩
       ·repeat' first|refine zG ?_|(with_reducible apply zAD;exact e1;all_goals intro _)
        exact .inr ⟨rfl,.inr ⟨rfl,by rw[hokp.out,hok1.out,hxo,hyo];simp,I.grow⟩⟩
      ·repeat refine zR ?_
       refine zAJ (by unfold zCF;rw[hxo];exact s1) ((zMO H w0 I g.nodes[ka] h.nodes[kb] hfit.out av lv bv mv' hav hlv hbv hmv hw).mono ?_)
       rintro _ hz (⟨rfl,hao,vw',Iz⟩|⟨rfl,hao,gz⟩)
       ·replace hao:=Hid.mk hao
        clear I o10 o11
        repeat' first|refine zG ?_|(with_reducible apply zAD;exact e1;all_goals intro _)
        exact .inr ⟨rfl,.inl ⟨rfl,by simp[hokp.out,hok1.out,hkd.out,hnm',hxo,hao.out],hbad.out,vw',by rw[hnxp.out,hnx1.out];exact Iz⟩⟩
       ·replace hao:=Hid.mk hao
        clear I o10 o11
        repeat' first|refine zG ?_|(with_reducible apply zAD;exact e1;all_goals intro _)
        exact .inr ⟨rfl,.inr ⟨rfl,by simp[hokp.out,hok1.out,hao.out],gz⟩⟩
   ·have hok1:okN g.nodes[ka] h.nodes[kb]=true:=by rw[okN,hk1];rfl
    have hnx1:nxN g.nodes[ka] h.nodes[kb]=[]:=by rw[nxN,hk1];rfl
    replace hok1:=Hid.mk hok1
    replace hnx1:=Hid.mk hnx1
    replace hokp:=Hid.mk hokp
    replace hnxp:=Hid.mk hnxp
    repeat' first|refine zG ?_|(with_reducible apply zAD;exact e1;all_goals intro _)
    exact .inr ⟨rfl,.inl ⟨rfl,by rw[hokp.out,hok1.out],hbad.out,vw,by rw[hnxp.out,hnx1.out];exact I⟩⟩
 ·rw[hmet] at hlk5
  repeat' first|refine zG ?_|(with_reducible apply zAD;exact e1;all_goals intro _)
  exact .inl ⟨rfl,rfl,vw,I3⟩
end
end Go.Ab.S
end
