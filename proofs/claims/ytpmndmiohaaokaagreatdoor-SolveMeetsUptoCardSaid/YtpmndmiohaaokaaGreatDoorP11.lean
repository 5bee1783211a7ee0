import Derived.Test.YtpmndmiohaaokaaGreatDoorP10
/-
  Part 11 of the proof.
-/
set_option linter.all false
set_option maxHeartbeats 8000000
section
namespace Go.Ab.S
open Go.Ab
def eqLL:List (List Nat)->List (List Nat)->Bool
 |[],[]=>true
 |a::x,b::y=>eqL a b&&eqLL x y
 |_,_=>false
theorem zKZ{x y:List (List Nat)}{i:Nat}(hx:i<x.length)(hy:i<y.length):eqLL (x.drop i) (y.drop i)=(eqL x[i] y[i]&&eqLL (x.drop (i+1)) (y.drop (i+1))):=by rw[List.drop_eq_getElem_cons hx,List.drop_eq_getElem_cons hy,eqLL]
theorem zJa:∀{x y:List (List Nat)},x.length≠y.length->eqLL x y=false
 |[],[],h=>absurd rfl h
 |[],_::_,_=>rfl
 |_::_,[],_=>rfl
 |a::x,b::y,h=>by rw[eqLL,zJa (x:=x) (y:=y) (by simpa using h),Bool.and_false]
def zEo(n:Node):Bool:=n.kind==1||(n.kind==3&&n.isOpen)
def zCe(a b:Node):Bool:=(((a.kind==b.kind&&eqL a.name b.name)&&a.isOpen==b.isOpen)&&a.args.length==b.args.length)&&eqLL a.labels b.labels
section
variable{fns:FnsT}{summ:SumT}
variable(H:Has fns summ)
include H
theorem EqualStr_ok(x y:List (List Nat))(hx:x.length<2 ^ 60)(v u:AVal)(h:AHeap)(hv:StrsAt h v x)(hu:StrsAt h u y):Cl fns summ 64 [v,u] h fun r h'=>r=.bool (eqLL x y)/\h'=h:=by
 refine H.go (fn:=F_EqualStr) rfl (by decide) rfl rfl ?_;unfold F_EqualStr;dsimp only[mt,lo,jn,jv,jb,ji,je,jR,jS,jC,jL];have hl1:=hv.len;have hl2:=hu.len;by_cases ab:x.length=y.length
 ·have hz:((Int.ofNat x.length:Int) != Int.ofNat y.length)=false:=by rw[ab];simp
  have ac:∀j,j<x.length->j<y.length:=fun j hj=>ab ▸ hj;have aa:eqLL (x.drop x.length) (y.drop x.length)=true:=by rw[List.drop_length,ab,List.drop_length];rfl
  clear ab;repeat refine zR ?_
  refine zAp (N:=x.length) (fun j a hp=>hp=h/\a.defers=[]/\ev a (.tmp 0)=some v/\ev a (.tmp 1)=some u/\eqLL x y=eqLL (x.drop j) (y.drop j)) ?_ ?_ ⟨rfl,n1,e1,e1,rfl⟩
  ·rintro j a hp hj ⟨rfl,hd,h0,h1,hr⟩ hi hn;obtain⟨b,o,ver,ro,e,vs,hix,ah,hvo⟩:=hv.at (zgG hj);have ad:=ac j hj;obtain⟨b',o',ak,ro',e',vs',ai,ae,aj⟩:=hu.at (zgG ad);rw[zKZ hj ad] at hr;clear aa ac;cases hc:eqL x[j] y[j]
   ·rw[hc,Bool.false_and] at hr;repeat refine zG ?_
    exact⟨by rw[hr],rfl⟩
   ·rw[hc,Bool.true_and] at hr;repeat refine zR ?_
    exact⟨⟨rfl,n1,e1,e1,hr⟩,e1,e1⟩
  ·rintro a hp ⟨rfl,hd,h0,h1,hr⟩;have af:eqLL x y=true:=by rw[hr,aa]
   clear hr aa;repeat refine zG ?_
   exact⟨by rw[af],rfl⟩
 ·have hz:((Int.ofNat x.length:Int) != Int.ofNat y.length)=true:=by simp;omega
  have hr:=zJa ab;repeat refine zG ?_
  exact⟨by rw[hr],rfl⟩

theorem zQN(n:Node)(av lv:AVal)(h:AHeap)(hw:WF h):Cl fns summ 42 [zBf n av lv] h fun r h'=>r=.bool (zEo n)/\Grow h h':=by
 unfold zBf;refine H.go (fn:=F_gfree) rfl (by decide) rfl rfl ?_;unfold F_gfree;dsimp only[qQ,gQ,vi,tm,mt,lo,fa,jk,jb,jo,jR,jS];refine zAu (zAz ?_);refine zAr e1 cc hw ?_;rintro b1 h1 ab aa o1;repeat refine zG ?_
 exact⟨rfl,aa⟩
theorem zPj(x y:Node)(hx:NodeSm x)(av lv bv mv:AVal)(h:AHeap)(hw:WF h)(ha:IntsAt h av x.args)(hl:StrsAt h lv x.labels)(hb:IntsAt h bv y.args)(hm:StrsAt h mv y.labels):Cl fns summ 41 [zBf x av lv,zBf y bv mv] h fun r h'=>r=.bool (zCe x y)/\Grow h h':=by
 unfold zBf;have ac:=ha.len;have ad:=hb.len;have hz:((Int.ofNat x.args.length:Int)==Int.ofNat y.args.length)=(x.args.length==y.args.length):=by rw[Bool.eq_iff_iff];simp;omega
 refine H.go (fn:=F_alike) rfl (by decide) rfl rfl ?_;unfold F_alike;dsimp only[qQ,gQ,gE,tm,mt,lo,fa,jn,jb,jo,jR,jS];refine zAu (zAz ?_);refine zAr e1 cc hw ?_;rintro b1 h1 ae aa o1;refine zAr e1 cc aa.wf ?_;rintro b2 h2 af ab o2;replace o1:=ab.keep _ _ o1;have gr:=aa.trans ab;cases hc:(((x.kind==y.kind&&eqL x.name y.name)&&x.isOpen==y.isOpen)&&x.args.length==y.args.length)
 ·have hr:zCe x y=false:=by rw[zCe,hc,Bool.false_and]
  repeat refine zG ?_
  exact⟨by rw[hr],gr⟩
 ·have hr:zCe x y=eqLL x.labels y.labels:=by rw[zCe,hc,Bool.true_and]
  repeat refine zR ?_
  refine zBM e1 s1 ((EqualStr_ok H x.labels y.labels hx.labels lv mv h2 (hl.mono gr) (hm.mono gr)).mono ?_);rintro _ _ ⟨rfl,rfl⟩;repeat refine zG ?_
  exact⟨by rw[hr],gr⟩
end
end Go.Ab.S
end
section
namespace Go.Ab.S
open Go.Ab
def eqII:List Int->List Int->Bool
 |[],[]=>true
 |a::x,b::y=>(a==b)&&eqII x y
 |_,_=>false
theorem zOM{x y:List Int}{i:Nat}(hx:i<x.length)(hy:i<y.length):eqII (x.drop i) (y.drop i)=((x[i]==y[i])&&eqII (x.drop (i+1)) (y.drop (i+1))):=by rw[List.drop_eq_getElem_cons hx,List.drop_eq_getElem_cons hy,eqII]
theorem zMU:∀{x y:List Int},x.length≠y.length->eqII x y=false
 |[],[],h=>absurd rfl h
 |[],_::_,_=>rfl
 |_::_,[],_=>rfl
 |a::x,b::y,h=>by rw[eqII,zMU (x:=x) (y:=y) (by simpa using h),Bool.and_false]
section
variable{fns:FnsT}{summ:SumT}
variable(H:Has fns summ)
include H
theorem Labels_ok(x y:List (List Nat))(hx:x.length<2 ^ 60)(v u:AVal)(h:AHeap)(hv:StrsAt h v x)(hu:StrsAt h u y):Cl fns summ 47 [v,u] h fun r h'=>r=.bool (eqLL x y)/\h'=h:=by
 refine H.go (fn:=F_Labels) rfl (by decide) rfl rfl ?_;unfold F_Labels;dsimp only[mt,lo,jn,jv,jb,ji,je,jR,jS,jC,jL];have hl1:=hv.len;have hl2:=hu.len;by_cases ab:x.length=y.length
 ·have hz:((Int.ofNat x.length:Int) != Int.ofNat y.length)=false:=by rw[ab];simp
  have ac:∀j,j<x.length->j<y.length:=fun j hj=>ab ▸ hj;have aa:eqLL (x.drop x.length) (y.drop x.length)=true:=by rw[List.drop_length,ab,List.drop_length];rfl
  clear ab;repeat refine zR ?_
  refine zAp (N:=x.length) (fun j a hp=>hp=h/\a.defers=[]/\ev a (.tmp 0)=some v/\ev a (.tmp 1)=some u/\eqLL x y=eqLL (x.drop j) (y.drop j)) ?_ ?_ ⟨rfl,n1,e1,e1,rfl⟩
  ·rintro j a hp hj ⟨rfl,hd,h0,h1,hr⟩ hi hn;obtain⟨b,o,ver,ro,e,vs,hix,ah,hvo⟩:=hv.at (zgG hj);have ad:=ac j hj;obtain⟨b',o',ak,ro',e',vs',ai,ae,aj⟩:=hu.at (zgG ad);rw[zKZ hj ad] at hr;clear aa ac;cases hc:eqL x[j] y[j]
   ·rw[hc,Bool.false_and] at hr;repeat refine zG ?_
    exact⟨by rw[hr],rfl⟩
   ·rw[hc,Bool.true_and] at hr;repeat refine zR ?_
    exact⟨⟨rfl,n1,e1,e1,hr⟩,e1,e1⟩
  ·rintro a hp ⟨rfl,hd,h0,h1,hr⟩;have af:eqLL x y=true:=by rw[hr,aa]
   clear hr aa;repeat refine zG ?_
   exact⟨by rw[af],rfl⟩
 ·have hz:((Int.ofNat x.length:Int) != Int.ofNat y.length)=true:=by simp;omega
  have hr:=zJa ab;repeat refine zG ?_
  exact⟨by rw[hr],rfl⟩

theorem Alike_ok(x y:Node)(hx:NodeSm x)(av lv bv mv:AVal)(h:AHeap)(hw:WF h)(ha:IntsAt h av x.args)(hl:StrsAt h lv x.labels)(hb:IntsAt h bv y.args)(hm:StrsAt h mv y.labels):Cl fns summ 20 [zBf x av lv,zBf y bv mv] h fun r h'=>r=.bool (zCe x y)/\Grow h h':=by
 unfold zBf;have ac:=ha.len;have ad:=hb.len;have hz:((Int.ofNat x.args.length:Int)==Int.ofNat y.args.length)=(x.args.length==y.args.length):=by rw[Bool.eq_iff_iff];simp;omega
 refine H.go (fn:=F_Alike) rfl (by decide) rfl rfl ?_;unfold F_Alike;dsimp only[qQ,gQ,gE,tm,mt,lo,fa,jn,jb,jo,jR,jS];refine zAu (zAz ?_);refine zAr e1 cc hw ?_;rintro b1 h1 ae aa o1;refine zAr e1 cc aa.wf ?_;rintro b2 h2 af ab o2;replace o1:=ab.keep _ _ o1;have gr:=aa.trans ab;cases hc:(((x.kind==y.kind&&eqL x.name y.name)&&x.isOpen==y.isOpen)&&x.args.length==y.args.length)
 ·have hr:zCe x y=false:=by rw[zCe,hc,Bool.false_and]
  repeat refine zG ?_
  exact⟨by rw[hr],gr⟩
 ·have hr:zCe x y=eqLL x.labels y.labels:=by rw[zCe,hc,Bool.true_and]
  repeat refine zR ?_
  refine zBM e1 s1 ((Labels_ok H x.labels y.labels hx.labels lv mv h2 (hl.mono gr) (hm.mono gr)).mono ?_);rintro _ _ ⟨rfl,rfl⟩;repeat refine zG ?_
  exact⟨by rw[hr],gr⟩
theorem Ints_ok(x y:List Int)(hx:x.length<2 ^ 60)(v u:AVal)(h:AHeap)(hv:IntsAt h v x)(hu:IntsAt h u y):Cl fns summ 15 [v,u] h fun r h'=>r=.bool (eqII x y)/\h'=h:=by
 refine H.go (fn:=F_Ints) rfl (by decide) rfl rfl ?_;unfold F_Ints;dsimp only[mt,lo,jn,jv,jb,ji,je,jR,jS,jC,jL];have hl1:=hv.len;have hl2:=hu.len;by_cases ab:x.length=y.length
 ·have hz:((Int.ofNat x.length:Int) != Int.ofNat y.length)=false:=by rw[ab];simp
  have ac:∀j,j<x.length->j<y.length:=fun j hj=>ab ▸ hj;have aa:eqII (x.drop x.length) (y.drop x.length)=true:=by rw[List.drop_length,ab,List.drop_length];rfl
  clear ab;repeat refine zR ?_
  refine zAp (N:=x.length) (fun j a hp=>hp=h/\a.defers=[]/\ev a (.tmp 0)=some v/\ev a (.tmp 1)=some u/\eqII x y=eqII (x.drop j) (y.drop j)) ?_ ?_ ⟨rfl,n1,e1,e1,rfl⟩
  ·rintro j a hp hj ⟨rfl,hd,h0,h1,hr⟩ hi hn;obtain⟨b,o,ver,ro,e,vs,hix,ai,hvo⟩:=hv.at (zgG hj);have ad:=ac j hj;obtain⟨b',o',al,ro',e',vs',aj,af,ak⟩:=hu.at (zgG ad);rw[zOM hj ad] at hr;clear aa ac;cases hc:(x[j]==y[j])
   ·rw[hc,Bool.false_and] at hr;have ae:(x[j] != y[j])=true:=by simp only[bne,hc,Bool.not_false]
    repeat refine zG ?_
    exact⟨by rw[hr],rfl⟩
   ·rw[hc,Bool.true_and] at hr;have ae:(x[j] != y[j])=false:=by simp only[bne,hc,Bool.not_true]
    repeat refine zR ?_
    exact⟨⟨rfl,n1,e1,e1,hr⟩,e1,e1⟩
  ·rintro a hp ⟨rfl,hd,h0,h1,hr⟩;have ah:eqII x y=true:=by rw[hr,aa]
   clear hr aa;repeat refine zG ?_
   exact⟨by rw[ah],rfl⟩
 ·have hz:((Int.ofNat x.length:Int) != Int.ofNat y.length)=true:=by simp;omega
  have hr:=zMU ab;repeat refine zG ?_
  exact⟨by rw[hr],rfl⟩

end
end Go.Ab.S
end
section
namespace Go.Ab.S
open Go.Ab
section
variable{fns:FnsT}{summ:SumT}
variable(H:Has fns summ)
include H
omit H
include H
end
end Go.Ab.S
end
section
namespace Go.Ab.S
open Go.Ab
theorem zOD:∀(f n:Nat),digF f n≠[]
 |0,_=>by simp[digF]
 |f+1,n=>by rw[digF];split<;>simp
theorem zMQ:∀(f n:Nat),∀c∈digF f n,48<=c/\c<=57
 |0,n=>by intro c hc;simp only[digF,List.mem_singleton] at hc;omega
 |f+1,n=>by
  rw[digF];split
  ·intro c hc;simp only[List.mem_singleton] at hc;omega
  ·intro c hc;rcases List.mem_append.1 hc with hc|hc
   ·exact zMQ f _ c hc
   ·simp only[List.mem_singleton] at hc;omega
def labS(l:List (List Nat)):List Nat:=(l.map fun x=>32::x).flatten
def argS(cl:Int->Int)(l:List Int):List Nat:=(l.map fun a=>44::zEx (cl a)).flatten
def zOd(n:Node):List Nat:=zEx n.kind++n.name
def zNS(n:Node)(cl:Int->Int):List Nat:=zOd n++labS n.labels++argS cl n.args
section
variable{fns:FnsT}{summ:SumT}
variable(H:Has fns summ)
include H
end
end Go.Ab.S
end
section
namespace Go.Ab.S
section
variable{α:Type}[BEq α][LawfulBEq α](ok:α->Bool)(nx:α->List α)(bad:α->α->Bool)
def zEi:Nat->List α->List α->Bool
 |0,_,_=>false
 |_+1,[],_=>true
 |m+1,p::w,met=>if met.contains p then zEi m w met else if ok p&& !(met.any (bad p)) then zEi m (nx p++w) (met++[p]) else false
def zDI(met:List α):List α->Nat
 |[]=>0
 |p::r=>(if met.contains p then 0 else (nx p).length)+zDI met r
theorem zMc(met:List α)(p:α):∀ps:List α,zDI nx (met++[p]) ps<=zDI nx met ps
 |[]=>Nat.le_refl _
 |q::r=>by
  have ih:=zMc met p r;simp only[zDI];cases h:met.contains q with
  |true=>
   have:(met++[p]).contains q=true:=by simp at h ⊢;exact .inl h
   rw[this];simpa using ih
  |false=>
   cases h2:(met++[p]).contains q<;>simp<;>omega
theorem zHt{met:List α}{p:α}(hp:met.contains p=false):∀{ps:List α},p∈ps->zDI nx (met++[p]) ps+(nx p).length<=zDI nx met ps
 |[],h=>by cases h
 |q::r,h=>by
  have hle:=zMc nx met p r;simp only[zDI];by_cases hq:q=p
  ·subst hq;have:(met++[q]).contains q=true:=by simp
   rw[this,hp];simp;omega
  ·have hr:p∈r:=by
    rcases List.mem_cons.1 h with h|h
    ·exact absurd h.symm hq
    ·exact h
   have ih:=zHt hp hr;have:(met++[p]).contains q=met.contains q:=by rw[Bool.eq_iff_iff];simp[hq]
   rw[this];omega
theorem zGy(hsym:∀p q,bad p q=bad q p):∀(m:Nat) (w met:List α),zEi ok nx bad m w met=true->(∀p∈met,ok p=true/\∀q∈nx p,q∈met\/q∈w)->(∀p∈met,∀q∈met,p≠q->bad p q=false) →
  ∃S:List α,(∀p∈met,p∈S)/\(∀p∈w,p∈S)/\(∀p∈S,ok p=true/\∀q∈nx p,q∈S)/\∀p∈S,∀q∈S,p≠q->bad p q=false
 |0,_,_,h,_,_=>by simp[zEi] at h
 |m+1,[],met,h,h1,h2=>⟨met,fun _ h=>h,fun _ h=>(by cases h),fun p hp=>⟨(h1 p hp).1,fun q hq=>by
   rcases (h1 p hp).2 q hq with h|h
   ·exact h
   ·cases h⟩,h2⟩
 |m+1,p::w,met,h,h1,h2=>by
  rw[zEi] at h;split at h
  ·rename_i hc;have hc:p∈met:=by simpa using hc
   obtain⟨S,s1,s2,s3⟩:=zGy hsym m w met h (fun q hq=>⟨(h1 q hq).1,fun r hr=>by
    rcases (h1 q hq).2 r hr with h|h
    ·exact .inl h
    ·rcases List.mem_cons.1 h with rfl|h
     ·exact .inl hc
     ·exact .inr h⟩) h2
   exact⟨S,s1,fun q hq=>by
    rcases List.mem_cons.1 hq with rfl|hq
    ·exact s1 _ hc
    ·exact s2 q hq,s3⟩
  ·rename_i hc;split at h
   ·rename_i hk;simp only[Bool.and_eq_true,Bool.not_eq_true',List.any_eq_false] at hk;obtain⟨S,s1,s2,s3⟩:=zGy hsym m (nx p++w) (met++[p]) h (fun q hq=>by
     rcases List.mem_append.1 hq with hq|hq
     ·refine⟨(h1 q hq).1,fun r hr=>?_⟩;rcases (h1 q hq).2 r hr with h|h
      ·exact .inl (List.mem_append.2 (.inl h))
      ·rcases List.mem_cons.1 h with rfl|h
       ·exact .inl (by simp)
       ·exact .inr (List.mem_append.2 (.inr h))
     ·simp only[List.mem_singleton] at hq;subst hq;exact⟨hk.1,fun r hr=>.inr (List.mem_append.2 (.inl hr))⟩) (fun q hq r hr aa=>by
     rcases List.mem_append.1 hq with kq|kq<;>rcases List.mem_append.1 hr with kr|kr
     ·exact h2 q kq r kr aa
     ·simp only[List.mem_singleton] at kr;subst kr;rw[hsym];exact Bool.eq_false_iff.2 (hk.2 q kq)
     ·simp only[List.mem_singleton] at kq;subst kq;exact Bool.eq_false_iff.2 (hk.2 r kr)
     ·simp only[List.mem_singleton] at kq kr;subst kq;exact absurd kr.symm aa)
    exact⟨S,fun q hq=>s1 q (List.mem_append.2 (.inl hq)),fun q hq=>by
     rcases List.mem_cons.1 hq with rfl|hq
     ·exact s1 _ (by simp)
     ·exact s2 q (List.mem_append.2 (.inr hq)),s3⟩
   ·cases h
theorem zEj{S:α->Prop}(hS:∀p,S p->ok p=true/\∀q∈nx p,S q)(hb:∀p q,S p->S q->p≠q->bad p q=false){ps:List α}(hps:∀p,S p->p∈ps):∀(m:Nat) (w met:List α),(∀p∈w,S p)->(∀p∈met,S p) →
  w.length+zDI nx met ps<m->zEi ok nx bad m w met=true
 |0,_,_,_,_,h=>by omega
 |m+1,[],_,_,_,_=>rfl
 |m+1,p::w,met,h1,h2,h=>by
  rw[zEi];have hp:=h1 p (by simp);have hw:∀q∈w,S q:=fun q hq=>h1 q (by simp[hq]);cases hc:met.contains p with
  |true=>
   rw[if_pos rfl];exact zEj hS hb hps m w met hw h2 (by simp only[zlC] at h;omega)
  |false=>
   have aa:met.any (bad p)=false:=by
    rw[List.any_eq_false];intro q hq;have ab:p≠q:=by rintro rfl;simp at hc;exact hc hq
    simp[hb p q hp (h2 q hq) ab]
   rw[if_neg (by simp),(hS p hp).1,aa];simp only[Bool.not_false,Bool.and_self,if_true];refine zEj hS hb hps m (nx p++w) (met++[p]) (fun q hq=>?_) (fun q hq=>?_) ?_
   ·rcases List.mem_append.1 hq with hq|hq
    ·exact(hS p hp).2 q hq
    ·exact hw q hq
   ·rcases List.mem_append.1 hq with hq|hq
    ·exact h2 q hq
    ·simp only[List.mem_singleton] at hq;subst hq;exact hp
   ·have:=zHt nx hc (hps p hp);simp only[zgL,zlC] at h ⊢;omega
theorem zNB(hsym:∀p q,bad p q=bad q p){ps:List α}(r:α)(hr:r∈ps)(hps:∀p∈ps,ok p=true->∀q∈nx p,q∈ps):
  zEi ok nx bad (2+zDI nx [] ps) [r] []=true↔∃S:α->Prop,S r/\(∀p,S p->p∈ps/\ok p=true/\∀q∈nx p,S q)/\∀p q,S p->S q->p≠q->bad p q=false:=by
 constructor
 ·intro h;obtain⟨S,_,s2,s3,s4⟩:=zGy ok nx bad hsym _ _ _ h (by intro p hp;cases hp) (by intro p hp;cases hp);exact⟨fun p=>p∈S/\p∈ps,⟨s2 r (by simp),hr⟩,fun p hp=>⟨hp.2,(s3 p hp.1).1,fun q hq=>⟨(s3 p hp.1).2 q hq,hps p hp.2 (s3 p hp.1).1 q hq⟩⟩,fun p q hp hq=>s4 p hp.1 q hq.1⟩
 ·rintro⟨S,h1,h2,h3⟩;exact zEj ok nx bad (S:=S) (fun p hp=>(h2 p hp).2) h3 (fun p hp=>(h2 p hp).1) _ _ _ (by simpa using h1) (by simp) (by simp only[zlC,zlN];omega)
end
end Go.Ab.S
end
section
namespace Go.Ab.S
open Go.Ab
theorem zFX(p:Nat->Bool):∀{a b r s:List Nat},(∀x∈a,p x=true)->(∀x∈b,p x=true)->(∀x,r.head?=some x->p x=false)->(∀x,s.head?=some x->p x=false)->a++r=b++s->a=b/\r=s
 |[],[],_,_,_,_,_,_,h=>⟨rfl,h⟩
 |[],y::b,r,s,_,hb,hr,_,h=>by
  have h:r=y::(b++s):=h;have:=hr y (by rw[h];rfl);rw[hb y (by simp)] at this;cases this
 |x::a,[],r,s,ha,_,_,hs,h=>by
  have h:x::(a++r)=s:=h;have:=hs x (by rw[<-h];rfl);rw[ha x (by simp)] at this;cases this
 |x::a,y::b,r,s,ha,hb,hr,hs,h=>by simp only[zlK,List.cons.injEq] at h;obtain⟨h1,h2⟩:=zFX p (fun z hz=>ha z (by simp[hz])) (fun z hz=>hb z (by simp[hz])) hr hs h.2;exact⟨by rw[h.1,h1],h2⟩
def zJf(c:Nat):Bool:=Nat.ble 48 c&&Nat.ble c 57
theorem zTC{n c:Nat}(h:c∈digN n):zJf c=true:=by have:=zMQ 19 n c h;simp only[zJf,Bool.and_eq_true];exact⟨Nat.ble_eq_true_of_le this.1,Nat.ble_eq_true_of_le this.2⟩
theorem zMR:∀(f n m:Nat),n<10 ^ (f+1)->m<10 ^ (f+1)->digF f n=digF f m->n=m
 |0,n,m,hn,hm,h=>by simp only[digF,List.cons.injEq,and_true] at h;omega
 |f+1,n,m,hn,hm,h=>by
  rw[Nat.pow_succ] at hn hm;rw[digF,digF] at h;split at h<;>split at h
  ·simp only[List.cons.injEq,and_true] at h;omega
  ·have:=congrArg List.length h;have h0:=zOD f (m / 10);have h1:(digF f (m / 10)).length≠0:=fun e=>h0 (List.length_eq_zero_iff.1 e);rw[zgL] at this;simp only[List.length_singleton] at this;omega
  ·have:=congrArg List.length h;have h0:=zOD f (n / 10);have h1:(digF f (n / 10)).length≠0:=fun e=>h0 (List.length_eq_zero_iff.1 e);rw[zgL] at this;simp only[List.length_singleton] at this;omega
  ·have h2:=List.append_inj' h rfl;have:=zMR f (n / 10) (m / 10) (by omega) (by omega) h2.1;simp only[List.cons.injEq,and_true] at h2;omega
theorem zQB{n m:Nat}(hn:n<2 ^ 60)(hm:m<2 ^ 60)(h:digN n=digN m):n=m:=by
 have e:(2:Nat) ^ 60<=10 ^ (19+1):=by decide
 exact zMR 19 n m (by omega) (by omega) h
def InR(x:Int):Prop:=0<=x/\x<2 ^ 60
theorem zFR{x:Int}(h:InR x):∀c∈zEx x,zJf c=true:=by unfold zEx;rw[if_neg (by have:=h.1;omega)];intro c hc;exact zTC hc
theorem zJg{x y:Int}(hx:InR x)(hy:InR y)(h:zEx x=zEx y):x=y:=by unfold zEx at h;rw[if_neg (by have:=hx.1;omega),if_neg (by have:=hy.1;omega)] at h;have h1:=hx.1;have h2:=hx.2;have h3:=hy.1;have h4:=hy.2;have:=zQB (by omega) (by omega) h;omega
theorem zAx:∀{a b:List Nat},eqL a b=true↔a=b
 |[],[]=>by simp[eqL]
 |[],_::_=>by simp[eqL]
 |_::_,[]=>by simp[eqL]
 |x::a,y::b=>by
  rw[eqL];cases h:Nat.beq x y with
  |true=>
   have:=Nat.eq_of_beq_eq_true h;subst this;simp[zAx (a:=a) (b:=b)]
  |false=>
   have:x≠y:=by rintro rfl;rw[Nat.beq_refl] at h;cases h
   simp[this]
theorem zHQ:∀{a b:List (List Nat)},eqLL a b=true↔a=b
 |[],[]=>by simp[eqLL]
 |[],_::_=>by simp[eqLL]
 |_::_,[]=>by simp[eqLL]
 |x::a,y::b=>by simp[eqLL,zAx,zHQ (a:=a) (b:=b)]
theorem zJZ:∀{a b:List Int},eqII a b=true↔a=b
 |[],[]=>by simp[eqII]
 |[],_::_=>by simp[eqII]
 |_::_,[]=>by simp[eqII]
 |x::a,y::b=>by simp[eqII,zJZ (a:=a) (b:=b)]
theorem zJO:∀(s:List Nat) (i:Nat),zEr i s=i+s.length->∀c∈s,zGl c false=true
 |[],_,_=>by intro c hc;cases hc
 |x::s,i,h=>by
  rw[zEr] at h;split at h
  ·rename_i hg;intro c hc;rcases List.mem_cons.1 hc with rfl|hc
   ·revert hg;simp only[zGl];cases (i==0)<;>simp<;>omega
   ·exact zJO s (i+1) (by rw[h];simp only[zlC];omega) c hc
  ·simp only[zlC] at h;omega
theorem zHx{s:List Nat}(h:zCK s=true):∀c∈s,48<=c/\c<=122/\c≠58:=by simp only[zCK,Bool.and_eq_true,beq_iff_eq] at h;intro c hc;have:=zJO s 0 (by rw[Nat.zero_add];exact h.1.2) c hc;simp only[zGl,Bool.or_eq_true,Bool.and_eq_true,decide_eq_true_eq,beq_iff_eq] at this;omega
theorem zFC:∀{l:List (List Nat)} {p:Option (List Nat)},risG p l=true->∀s∈l,zCK s=true
 |[],_,_=>by intro s hs;cases hs
 |x::l,p,h=>by
  simp only[risG,Bool.and_eq_true] at h;intro s hs;rcases List.mem_cons.1 hs with rfl|hs
  ·exact h.1.1
  ·exact zFC h.2 s hs
theorem zOl:∀{a b:List (List Nat)},(∀s∈a,∀c∈s,c≠32)->(∀s∈b,∀c∈s,c≠32)->labS a=labS b->a=b
 |[],[],_,_,_=>rfl
 |[],y::b,_,_,h=>by simp[labS] at h
 |x::a,[],_,_,h=>by simp[labS] at h
 |x::a,y::b,ha,hb,h=>by
  simp only[labS,List.map_cons,List.flatten_cons,zlK,List.cons.injEq,true_and] at h;have hh:∀(l:List (List Nat)) z,((l.map fun x=>32::x).flatten).head?=some z->(z != 32)=false:=by
   intro l z hz;cases l with
   |nil=>simp at hz
   |cons w l=>simp at hz;simp[<-hz]
  obtain⟨h1,h2⟩:=zFX (fun c=>c != 32) (fun c hc=>by simpa using ha x (by simp) c hc) (fun c hc=>by simpa using hb y (by simp) c hc) (hh a) (hh b) h;rw[h1,zOl (fun s hs=>ha s (by simp[hs])) (fun s hs=>hb s (by simp[hs])) h2]
theorem zNq{f g:Int->Int}:∀{a b:List Int},(∀x∈a,InR (f x))->(∀x∈b,InR (g x))->argS f a=argS g b->a.map f=b.map g
 |[],[],_,_,_=>rfl
 |[],y::b,_,_,h=>by simp[argS] at h
 |x::a,[],_,_,h=>by simp[argS] at h
 |x::a,y::b,ha,hb,h=>by
  simp only[argS,List.map_cons,List.flatten_cons,zlK,List.cons.injEq,true_and] at h;have hh:∀(k:Int->Int) (l:List Int) z,((l.map fun a=>44::zEx (k a)).flatten).head?=some z->zJf z=false:=by
   intro k l z hz;cases l with
   |nil=>simp at hz
   |cons w l=>simp at hz;rw[<-hz];rfl
  obtain⟨h1,h2⟩:=zFX zJf (zFR (ha x (by simp))) (zFR (hb y (by simp))) (hh f a) (hh g b) h;rw[List.map_cons,List.map_cons,zJg (ha x (by simp)) (hb y (by simp)) h1,zNq (fun z hz=>ha z (by simp[hz])) (fun z hz=>hb z (by simp[hz])) h2]

def zAP(n:Node):Bool:=n.kind==1||n.isOpen
def clAt(cl:List Int)(a:Int):Int:=cl.getD a.toNat 0
def keyS(cl:List Int)(i:Nat)(n:Node):List Nat:=zEx (clAt cl i)++[58]++(if zAP n then 35::zEx i else [])++zNS n (clAt cl)
theorem zAH{n:Node}{N:Int}(h:mayF n N=true):(n.kind=1/\n.labels=[]/\n.isOpen=false/\n.name=[]/\n.args=[])\/(n.kind=2/\n.labels=[]/\n.isOpen=false/\arIs n.name=true/\n.args.length=arK n.name)\/(n.kind=3/\n.name=[]/\n.labels.length=n.args.length/\zCZ n.labels=true):=by
 unfold mayF at h;split at h
 ·cases h
 split at h
 ·rename_i h1;simp only[Bool.and_eq_true,beq_iff_eq,Bool.not_eq_true',zAx,List.length_eq_zero_iff] at h h1;exact .inl ⟨h1,h.1.1.1,h.1.1.2,h.1.2,h.2⟩
 split at h
 ·rename_i h1;simp only[Bool.and_eq_true,beq_iff_eq,Bool.not_eq_true',zAx,List.length_eq_zero_iff] at h h1;exact .inr (.inl ⟨h1,h.1.1.1,h.1.1.2,h.1.2,h.2⟩)
 split at h
 ·rename_i h1;simp only[Bool.and_eq_true,beq_iff_eq,zAx] at h h1;exact .inr (.inr ⟨h1,h.1.1,h.1.2,h.2⟩)
 ·cases h
theorem zPl{s:List Nat}(h:arIs s=true):∀c∈s,c≠44:=by simp only[arIs,Bool.or_eq_true,zAx] at h;rcases h with ((((h|h)|h)|h)|h)|h<;>subst h<;>decide
theorem zSM{cl:List Int}{i j:Nat}{n m:Node}{N:Int}(hcl:∀a,InR (clAt cl a))(hi:InR i)(hj:InR j)(hn:mayF n N=true)(hm:mayF m N=true)(h:keyS cl i n=keyS cl j m):
  clAt cl i=clAt cl j/\((zAP n=true\/zAP m=true)->i=j)/\n.kind=m.kind/\n.name=m.name/\n.labels=m.labels/\n.args.map (clAt cl)=m.args.map (clAt cl)/\zAP n=zAP m:=by
 unfold keyS at h;simp only[List.append_assoc,List.singleton_append] at h;obtain⟨h1,h2⟩:=zFX zJf (zFR (hcl _)) (zFR (hcl _)) (by intro x hx;simp at hx;rw[<-hx];rfl) (by intro x hx;simp at hx;rw[<-hx];rfl) h;have e1:=zJg (hcl _) (hcl _) h1;replace h2:=List.append_cancel_left (as:=[58]) h2;simp only[List.append_eq] at h2;have hd:∀{n:Node},mayF n N=true->∃d:Nat,d∈[49,50,51]/\∃r,zNS n (clAt cl)=d::r/\n.kind=(d:Int) - 48/\r=n.name++labS n.labels++argS (clAt cl) n.args:=by
  intro n hn;rcases zAH hn with⟨hk,_⟩|⟨hk,_⟩|⟨hk,_⟩
  ·exact⟨49,by simp,_,by simp only[zNS,zOd,hk];rfl,by rw[hk];rfl,rfl⟩
  ·exact⟨50,by simp,_,by simp only[zNS,zOd,hk];rfl,by rw[hk];rfl,rfl⟩
  ·exact⟨51,by simp,_,by simp only[zNS,zOd,hk];rfl,by rw[hk];rfl,rfl⟩
 have hr:∀{n:Node},mayF n N=true->zAP n=true->∀x,(n.name++labS n.labels++argS (clAt cl) n.args).head?=some x->zJf x=false:=by
  intro n hn hf x hx;rcases zAH hn with⟨hk,k1,k2,k3,k4⟩|⟨hk,k1,k2,k3,k4⟩|⟨hk,k1,k2,k3⟩
  ·rw[k1,k3,k4] at hx;simp[labS,argS] at hx
  ·simp[zAP,hk,k2] at hf
  ·rw[k1,zlA] at hx;cases hl:n.labels with
   |nil=>
    rw[hl] at hx;cases ha:n.args with
    |nil=>rw[ha] at hx;simp[labS,argS] at hx
    |cons a r=>rw[ha] at hx;simp[labS,argS] at hx;rw[<-hx];rfl
   |cons s r=>rw[hl] at hx;simp[labS] at hx;rw[<-hx];rfl
 obtain⟨d,hd1,r,hd2,hd3,hd4⟩:=hd hn;obtain⟨d',hd1',r',hd2',hd3',hd4'⟩:=hd hm;rw[hd2,hd2'] at h2;have key:d::r=d'::r'/\(zAP n=true\/zAP m=true->i=j)/\zAP n=zAP m:=by
  cases hfn:zAP n<;>cases hfm:zAP m<;>rw[hfn,hfm] at h2
  ·simp only[Bool.false_eq_true,if_false,zlA] at h2;exact⟨h2,by simp,rfl⟩
  ·simp only[Bool.false_eq_true,if_false,if_true,zlA,zlK,List.cons.injEq] at h2;have:=h2.1;revert hd1;subst this;simp
  ·simp only[Bool.false_eq_true,if_false,if_true,zlA,zlK,List.cons.injEq] at h2;have:=h2.1;revert hd1';subst this;simp
  ·simp only[if_true,zlK,List.cons.injEq,true_and] at h2;have hdig:∀d,d∈([49,50,51]:List Nat)->zJf d=true:=by decide
   rw[hd4,hd4'] at h2;obtain⟨h3,h4⟩:=zFX zJf (a:=zEx i++[d]) (b:=zEx j++[d']) (fun x hx=>by
     rcases List.mem_append.1 hx with hx|hx
     ·exact zFR hi x hx
     ·simp only[List.mem_singleton] at hx;subst hx;exact hdig _ hd1) (fun x hx=>by
     rcases List.mem_append.1 hx with hx|hx
     ·exact zFR hj x hx
     ·simp only[List.mem_singleton] at hx;subst hx;exact hdig _ hd1') (hr hn hfn) (hr hm hfm) (by simpa using h2)
   obtain⟨h5,h6⟩:=List.append_inj' h3 rfl;have:=zJg hi hj h5;simp only[List.cons.injEq,and_true] at h6;rw[hd4,hd4',h4,h6];exact⟨rfl,fun _=>by omega,rfl⟩
 obtain⟨k1,k2,k3⟩:=key;simp only[List.cons.injEq] at k1;have hkind:n.kind=m.kind:=by rw[hd3,hd3',k1.1]
 have hrest:=k1.2;rw[hd4,hd4'] at hrest;have hno:∀{n:Node},mayF n N=true->(∀c∈n.name++labS n.labels,(c != 44)=true)/\(∀s∈n.labels,∀c∈s,c≠32):=by
  intro n hn;have hlab:zCZ n.labels=true->(∀c∈labS n.labels,c≠44)/\(∀s∈n.labels,∀c∈s,c≠32):=by
   intro hri;have hnm:=zFC (p:=none) hri;refine⟨fun c hc=>?_,fun s hs c hc=>?_⟩
   ·simp only[labS,List.mem_flatten,List.mem_map] at hc;obtain⟨_,⟨s,hs,rfl⟩,hc⟩:=hc;rcases List.mem_cons.1 hc with rfl|hc
    ·decide
    ·have:=zHx (hnm s hs) c hc;omega
   ·have:=zHx (hnm s hs) c hc;omega
  rcases zAH hn with⟨hk,k1,k2,k3,k4⟩|⟨hk,k1,k2,k3,k4⟩|⟨hk,k1,k2,k3⟩
  ·rw[k1,k3];exact⟨fun c hc=>by simp[labS] at hc,fun s hs=>by cases hs⟩
  ·rw[k1];refine⟨fun c hc=>?_,fun s hs=>by cases hs⟩;simp[labS] at hc;simpa using zPl k3 c hc
  ·rw[k1,zlA];obtain⟨h1,h2⟩:=hlab k3;exact⟨fun c hc=>by simpa using h1 c hc,h2⟩
 have hh:∀(l:List Int) z,(argS (clAt cl) l).head?=some z->(z != 44)=false:=by
  intro l z hz;cases l with
  |nil=>simp[argS] at hz
  |cons w l=>simp[argS] at hz;simp[<-hz]
 obtain⟨h5,h6⟩:=zFX (fun c=>c != 44) (hno hn).1 (hno hm).1 (hh _) (hh _) hrest;have hargs:=zNq (fun x _=>hcl x) (fun x _=>hcl x) h6;have hnl:n.name=m.name/\n.labels=m.labels:=by
  rcases zAH hn with⟨hk,q1,_,q3,_⟩|⟨hk,q1,_⟩|⟨hk,q1,_⟩
  ·rcases zAH hm with⟨aa,q1',_,q3',_⟩|⟨aa,_⟩|⟨aa,_⟩
   ·rw[q1,q1',q3,q3'];exact⟨rfl,rfl⟩
   ·omega
   ·omega
  ·rcases zAH hm with⟨aa,_⟩|⟨aa,q1',_⟩|⟨aa,_⟩
   ·omega
   ·rw[q1,q1'];rw[q1,q1'] at h5;simp[labS] at h5;exact⟨h5,rfl⟩
   ·omega
  ·rcases zAH hm with⟨aa,_⟩|⟨aa,_⟩|⟨aa,q1',_⟩
   ·omega
   ·omega
   ·rw[q1,q1'] at h5 ⊢;exact⟨rfl,zOl (hno hn).2 (hno hm).2 (by simpa using h5)⟩
 exact⟨e1,k2,hkind,hnl.1,hnl.2,hargs,k3⟩
end Go.Ab.S
end
section
namespace Go.Ab.S
open Go.Ab
def zCT(k:List Nat):List (List Nat)->Nat
 |[]=>0
 |x::r=>if eqL k x then 0 else zCT k r+1
theorem zCU{k:List Nat}:∀{l:List (List Nat)},k∈l->l[zCT k l]?=some k/\∀j,j<zCT k l->l[j]?≠some k
 |[],h=>by cases h
 |x::r,h=>by
  rw[zCT];by_cases hk:k=x
  ·rw[if_pos (zAx.2 hk)];exact⟨by rw[hk];rfl,fun j hj=>by omega⟩
  ·rw[if_neg (by rw[zAx];exact hk)];have hr:k∈r:=by
    rcases List.mem_cons.1 h with h|h
    ·exact absurd h hk
    ·exact h
   obtain⟨h1,h2⟩:=zCU hr;refine⟨by simpa using h1,fun j hj=>?_⟩;cases j with
   |zero=>simp;exact fun e=>hk e.symm
   |succ j=>simpa using h2 j (by omega)
theorem zIr{k:List Nat}{l:List (List Nat)}{i:Nat}(h:l[i]?=some k):zCT k l<=i:=by
 rcases Nat.lt_or_ge i (zCT k l) with aa|hge
 ·exact absurd h ((zCU (List.mem_of_getElem? h)).2 i aa)
 ·exact hge
def zJh(ns:List Node)(cl:List Int):List (List Nat):=(List.range ns.length).map fun i=>keyS cl i (ns.getD i zAj)
def zBZ(ns:List Node)(cl:List Int):List Int:=(zJh ns cl).map fun k=>(zCT k (zJh ns cl):Int)
def zCv(ns:List Node):Nat->List Int->List Int
 |0,cl=>cl
 |m+1,cl=>if eqII (zBZ ns cl) cl then zBZ ns cl else zCv ns m (zBZ ns cl)
def zAF(g:Graph):List Int:=zCv g.nodes (g.nodes.length+1) (List.replicate g.nodes.length 0)
def mapN(cl:List Int)(n:Node):Node:={n with args:=n.args.map (clAt cl)}
def zBA(g:Graph):Graph:=if zAB g=0 then zBS ⟨g.nodes.map (mapN (zAF g)),clAt (zAF g) g.root⟩ else ⟨[],0⟩

theorem zOk(ns:List Node)(cl:List Int):(zJh ns cl).length=ns.length:=by simp[zJh]
theorem zEB{ns:List Node}{cl:List Int}{i:Nat}(h:i<ns.length):(zJh ns cl)[i]?=some (keyS cl i (ns.getD i zAj)):=by simp[zJh,h]
theorem zEf(ns:List Node)(cl:List Int):(zBZ ns cl).length=ns.length:=by simp[zBZ,zOk]
theorem zBE(cl:List Int)(i:Nat):clAt cl (i:Int)=cl.getD i 0:=rfl
theorem zGs{ns:List Node}{cl:List Int}{i:Nat}(h:i<ns.length):clAt (zBZ ns cl) (i:Int)=(zCT (keyS cl i (ns.getD i zAj)) (zJh ns cl):Int):=by rw[zBE,List.getD,zBZ,zgM,zEB h];rfl
structure ClsOK(N:Nat)(cl:List Int):Prop where
 len:cl.length=N
 le:∀i:Nat,i<N->∃j:Nat,clAt cl i=j/\j<=i/\clAt cl j=j
theorem ClsOK.inR{N:Nat}{cl:List Int}(k:ClsOK N cl)(hN:N<2 ^ 60)(a:Int):InR (clAt cl a):=by
 by_cases h:a.toNat<N
 ·obtain⟨j,h1,h2,_⟩:=k.le a.toNat h;have:clAt cl a=j:=h1;rw[this];exact⟨by omega,by omega⟩
 ·have:clAt cl a=0:=by unfold clAt;rw[List.getD,List.getElem?_eq_none (by rw[k.len];omega)];rfl
  rw[this];exact⟨by decide,by decide⟩
theorem ClsOK.zero(N:Nat):ClsOK N (List.replicate N 0):=by
 refine⟨by simp,fun i hi=>⟨0,?_,by omega,?_⟩⟩
 ·rw[zBE,List.getD,List.getElem?_replicate,if_pos hi];rfl
 ·rw[zBE,List.getD,List.getElem?_replicate];split<;>rfl
theorem zIH{ns:List Node}{cl:List Int}{i j:Nat}(hi:i<ns.length)(hj:j<ns.length):clAt (zBZ ns cl) i=clAt (zBZ ns cl) j↔keyS cl i (ns.getD i zAj)=keyS cl j (ns.getD j zAj):=by
 rw[zGs hi,zGs hj];have mi:=List.mem_of_getElem? (zEB (cl:=cl) hi);have mj:=List.mem_of_getElem? (zEB (cl:=cl) hj);constructor
 ·intro h;have h:zCT (keyS cl i (ns.getD i zAj)) (zJh ns cl)=zCT (keyS cl j (ns.getD j zAj)) (zJh ns cl):=by omega
  have h1:=(zCU mi).1;rw[h,(zCU mj).1] at h1;exact(Option.some.inj h1).symm
 ·intro h;rw[h]
theorem zII{ns:List Node}{cl:List Int}{i:Nat}(hi:i<ns.length):∃j:Nat,clAt (zBZ ns cl) i=j/\j<=i/\keyS cl j (ns.getD j zAj)=keyS cl i (ns.getD i zAj):=by have mi:=List.mem_of_getElem? (zEB (cl:=cl) hi);have aa:=zIr (zEB (cl:=cl) hi);refine⟨_,zGs hi,aa,?_⟩;have h1:=(zCU mi).1;rw[zEB (by omega)] at h1;exact Option.some.inj h1
theorem ClsOK.refine(ns:List Node)(cl:List Int):ClsOK ns.length (zBZ ns cl):=by refine⟨zEf _ _,fun i hi=>?_⟩;obtain⟨j,h1,h2,h3⟩:=zII (cl:=cl) hi;exact⟨j,h1,h2,by rw[(zIH (i:=j) (by omega) hi).2 h3];exact h1⟩

theorem zHf{α:Type}{p q:α->Bool}:∀{l:List α},(∀x∈l,p x=true->q x=true)->(∃x∈l,p x=false/\q x=true)->l.countP p<l.countP q
 |[],_,h=>by obtain⟨x,hx,_⟩:=h;cases hx
 |y::l,h,hx=>by
  have aa:l.countP p<=l.countP q:=List.countP_mono_left fun x hx=>h x (by simp[hx]);obtain⟨x,hx,h1,h2⟩:=hx;rcases List.mem_cons.1 hx with rfl|hx
  ·simp only[List.countP_cons,h1,h2];simp;omega
  ·have ih:=zHf (l:=l) (fun x hx=>h x (by simp[hx])) ⟨x,hx,h1,h2⟩;simp only[List.countP_cons];have:=h y (by simp);cases hp:p y<;>cases hq:q y<;>simp<;>first|omega|(rw[this hp] at hq;cases hq)
def fixc(N:Nat)(cl:List Int):Nat:=(List.range N).countP fun i:Nat=>clAt cl (i:Int)==(i:Int)
theorem zSA(N:Nat)(cl:List Int):fixc N cl<=N:=by
 have:=List.countP_le_length (p:=fun i:Nat=>clAt cl i==(i:Int)) (l:=List.range N)
 rwa [List.length_range] at this
def NsOK(ns:List Node):Prop:=ns.length<2 ^ 60/\∀n∈ns,mayF n ns.length=true
theorem NsOK.at{ns:List Node}(h:NsOK ns){i:Nat}(hi:i<ns.length):mayF (ns.getD i zAj) ns.length=true:=by rw[List.getD,zgG hi];exact h.2 _ (List.getElem_mem hi)
theorem zOj{ns:List Node}(hns:NsOK ns){cl:List Int}(k:ClsOK ns.length cl){i j:Nat}(hi:i<ns.length)(hj:j<ns.length)(h:keyS cl i (ns.getD i zAj)=keyS cl j (ns.getD j zAj)):
  clAt cl i=clAt cl j/\((zAP (ns.getD i zAj)=true\/zAP (ns.getD j zAj)=true)->i=j)/\(ns.getD i zAj).kind=(ns.getD j zAj).kind/\(ns.getD i zAj).name=(ns.getD j zAj).name/\(ns.getD i zAj).labels=(ns.getD j zAj).labels/\(ns.getD i zAj).args.map (clAt cl)=(ns.getD j zAj).args.map (clAt cl)/\zAP (ns.getD i zAj)=zAP (ns.getD j zAj):=
 zSM (k.inR hns.1) ⟨by omega,by have:=hns.1;omega⟩ ⟨by omega,by have:=hns.1;omega⟩ (hns.at hi) (hns.at hj) h
theorem zLm{ns:List Node}(hns:NsOK ns){cl:List Int}(k:ClsOK ns.length cl)(hne:eqII (zBZ ns cl) cl=false):fixc ns.length cl<fixc ns.length (zBZ ns cl):=by
 refine zHf (fun i hi hp=>?_) ?_
 ·have hi:=List.mem_range.1 hi;have hp:clAt cl i=(i:Int):=by simpa using hp
  obtain⟨j,h1,h2,h3⟩:=zII (cl:=cl) hi;have h4:=(zOj hns k (by omega) hi h3).1;obtain⟨j',h5,h6,_⟩:=k.le j (by omega);have:j=i:=by omega
  subst this;simpa using h1
 ·apply Classical.byContradiction;intro hno;have aa:∀i:Nat,i<ns.length->clAt (zBZ ns cl) i=clAt cl i:=by
   intro i hi;obtain⟨j,h1,h2,h3⟩:=zII (cl:=cl) hi;have hj:j<ns.length:=by omega
   have h4:=(zOj hns k hj hi h3).1;obtain⟨j',q1,q2,q3⟩:=(ClsOK.refine ns cl).le i hi;have:j'=j:=by omega
   subst this;have hfix:clAt cl j'=(j':Int):=by apply Classical.byContradiction;intro hc;exact hno ⟨j',List.mem_range.2 hj,by simpa using hc,by simpa using q3⟩
   omega
  have:zBZ ns cl=cl:=by
   apply List.ext_getElem?;intro i;by_cases hi:i<ns.length
   ·have h:=aa i hi;rw[zBE,zBE,List.getD,List.getD,zgG (by rw[zEf];exact hi),zgG (by rw[k.len];exact hi)] at h;rw[zgG (by rw[zEf];exact hi),zgG (by rw[k.len];exact hi)];simpa using h
   ·rw[List.getElem?_eq_none (by rw[zEf];omega),List.getElem?_eq_none (by rw[k.len];omega)]
  rw[zJZ.2 this] at hne;cases hne
theorem zHd{ns:List Node}(hns:NsOK ns):∀(m:Nat) (cl:List Int),ClsOK ns.length cl->ns.length - fixc ns.length cl<m->zBZ ns (zCv ns m cl)=zCv ns m cl/\ClsOK ns.length (zCv ns m cl)
 |0,_,_,h=>by omega
 |m+1,cl,k,h=>by
  rw[zCv];cases he:eqII (zBZ ns cl) cl with
  |true=>
   have:=zJZ.1 he;simp only[if_true];exact⟨by rw[this];exact this,ClsOK.refine ns cl⟩
  |false=>
   simp only[Bool.false_eq_true,if_false];have h1:=zLm hns k he;have h2:=zSA ns.length (zBZ ns cl);exact zHd hns m _ (ClsOK.refine ns cl) (by omega)
def Bis(ns:List Node)(E:Nat->Nat->Prop):Prop:=∀i j,E i j->i<ns.length/\j<ns.length/\(i=j\/(zAP (ns.getD i zAj)=false/\zAP (ns.getD j zAj)=false/\(ns.getD i zAj).kind=(ns.getD j zAj).kind/\(ns.getD i zAj).name=(ns.getD j zAj).name/\(ns.getD i zAj).labels=(ns.getD j zAj).labels/\(ns.getD i zAj).args.length=(ns.getD j zAj).args.length∧
 ∀(k:Nat) (a b:Int),(ns.getD i zAj).args[k]?=some a->(ns.getD j zAj).args[k]?=some b->E a.toNat b.toNat))
theorem zRr{ns:List Node}{E:Nat->Nat->Prop}(hE:Bis ns E){cl:List Int}(hc:∀i j,E i j->clAt cl i=clAt cl j){i j:Nat}(h:E i j):keyS cl i (ns.getD i zAj)=keyS cl j (ns.getD j zAj):=by
 obtain⟨hi,hj,rfl|⟨h1,h2,h3,h4,h5,h6,h7⟩⟩:=hE i j h
 ·rfl
 ·have ha:(ns.getD i zAj).args.map (clAt cl)=(ns.getD j zAj).args.map (clAt cl):=by
   apply List.ext_getElem?;intro k;rw[zgM,zgM];by_cases hk:k<(ns.getD i zAj).args.length
   ·have ab:k<(ns.getD j zAj).args.length:=by omega
    rw[zgG hk,zgG ab];exact congrArg some (hc _ _ (h7 k _ _ (zgG hk) (zgG ab)))
   ·rw[List.getElem?_eq_none (by omega),List.getElem?_eq_none (by omega)]
  have aa:argS (clAt cl) (ns.getD i zAj).args=argS (clAt cl) (ns.getD j zAj).args:=by
   have:∀l:List Int,argS (clAt cl) l=((l.map (clAt cl)).map fun x=>44::zEx x).flatten:=fun l=>by simp[argS,List.map_map];rfl
   rw[this,this,ha]
  unfold keyS;rw[hc i j h,h1,h2];simp only[zNS,zOd,h3,h4,h5,aa,Bool.false_eq_true,if_false]
theorem zHB{ns:List Node}{E:Nat->Nat->Prop}(hE:Bis ns E):∀(m:Nat) (cl:List Int),(∀i j,E i j->clAt cl i=clAt cl j)->∀i j,E i j->clAt (zCv ns m cl) i=clAt (zCv ns m cl) j
 |0,_,h=>h
 |m+1,cl,h=>by
  have hr:∀i j,E i j->clAt (zBZ ns cl) i=clAt (zBZ ns cl) j:=fun i j hij=>(zIH (hE i j hij).1 (hE i j hij).2.1).2 (zRr hE h hij);rw[zCv];split
  ·exact hr
  ·exact zHB hE m _ hr
theorem zAs{g:Graph}(h:zAB g=0):NsOK g.nodes:=by obtain⟨_,_,h1,h2⟩:=zAN h;exact⟨Nat.lt_of_le_of_lt h1 (by decide),h2⟩
theorem zIk{g:Graph}(h:zAB g=0):zBZ g.nodes (zAF g)=zAF g/\ClsOK g.nodes.length (zAF g):=
 zHd (zAs h) _ _ (ClsOK.zero _) (by omega)
theorem zEX{g:Graph}(h:zAB g=0){i j:Nat}(hi:i<g.nodes.length)(hj:j<g.nodes.length)(he:clAt (zAF g) i=clAt (zAF g) j):
  ((zAP (g.nodes.getD i zAj)=true\/zAP (g.nodes.getD j zAj)=true)->i=j)/\(g.nodes.getD i zAj).kind=(g.nodes.getD j zAj).kind/\(g.nodes.getD i zAj).name=(g.nodes.getD j zAj).name/\(g.nodes.getD i zAj).labels=(g.nodes.getD j zAj).labels/\(g.nodes.getD i zAj).args.map (clAt (zAF g))=(g.nodes.getD j zAj).args.map (clAt (zAF g))/\zAP (g.nodes.getD i zAj)=zAP (g.nodes.getD j zAj):=by
 obtain⟨h1,h2⟩:=zIk h;rw[<-h1] at he;exact(zOj (zAs h) h2 hi hj ((zIH hi hj).1 he)).2
theorem zHC{g:Graph}{E:Nat->Nat->Prop}(hE:Bis g.nodes E){i j:Nat}(h:E i j):clAt (zAF g) i=clAt (zAF g) j:=
 zHB hE _ _ (fun i j hij=>by
  obtain⟨i',h1,h2,h3⟩:=(ClsOK.zero g.nodes.length).le i (hE i j hij).1;have z:∀k:Nat,clAt (List.replicate g.nodes.length 0) k=0:=fun k=>by rw[zBE,List.getD,List.getElem?_replicate];split<;>rfl
  rw[z,z]) _ _ h
end Go.Ab.S
end
section
namespace Go.Ab.S
open Go.Ab
theorem le31{n:Nat}(h:n<=100000):n<=2 ^ 31:=Nat.le_trans h (by decide)
structure Hid(p:Prop):Prop where
 out:p
def tagO:AObj->Nat
 | .cells _ e _=>e+5
 | .map _ _=>0
 | .loop _ _ _ _ _ _ _=>1
 | .dfr _=>2
 | .iter _ _ _ _=>3
 | .iter0=>4
theorem _root_.Go.Ab.But.kp{b:Nat}{h h':AHeap}{p q:Nat×AObj}(P:But b h h')(hb:h.objs.get b=some p){c:Nat}(hc:h.objs.get c=some q)(hne:(tagO p.2==tagO q.2)=false):h'.objs.get c=some q:=
 P.keep c (by rintro rfl;rw[hb] at hc;simp only[oI] at hc;rw[hc] at hne;simp at hne) _ hc
section
variable{fns:FnsT}{summ:SumT}{ro:Option Nat}
theorem zAS{i p:Nat}{d:Option Tmp}{op:EOp}{l:List DStep}{hs:List Held}{a:AAct}{h:AHeap}{K:AAct->AHeap->Prop}(k:St fns summ ro [⟨d,none,.e op⟩] a h fun a h=>zAJ h p hs=true/\Dr fns summ ro l (zGL p hs) a h K):Dr fns summ ro (⟨i,p,⟨d,none,.e op⟩⟩::l) hs a h K:=by refine dr_e ?_;unfold St StepsW Ev at k;unfold Ex EW Ev;obtain⟨n,hn⟩:=k;refine⟨n,fun m hm=>?_⟩;have:=hn m hm;simp only[zGe,zFc,zDP] at this;rw[D.sat_bind] at this;exact D.sat_mono this fun p hp=>hp
end
theorem zFN{kk:KeyK}{x y v:AVal}{c:Nat}:∀(es:List (AVal×AVal×Nat)) (i:Nat),zBe kk x es i=some none->∀b,keyA kk x y=some b->zBe kk x (es++[(y,v,c)]) i=some (if b then some (i+es.length,v) else none)
 |[],i,_,b,hk=>by
  simp only[zlA,zBe,hk,zlN,Nat.add_zero];cases b<;>rfl
 |(y',v',c')::es,i,h,b,hk=>by
  rw[zBe] at h;rw[zlK,zBe];cases hy:keyA kk x y' with
  |none=>rw[hy] at h;cases h
  |some t=>
   cases t with
   |true=>rw[hy] at h;cases h
   |false=>
    rw[hy] at h;simp only;rw[zFN es (i+1) h b hk,zlC];congr 2;rw[show i+1+es.length=i+(es.length+1) by omega]
theorem zFM{kk:KeyK}{x:AVal}{p:Nat×AVal}{e:AVal×AVal×Nat}:∀(es:List (AVal×AVal×Nat)) (i:Nat),zBe kk x es i=some (some p)->zBe kk x (es++[e]) i=some (some p)
 |[],i,h=>by cases h
 |(y',v',c')::es,i,h=>by
  rw[zBe] at h;rw[zlK,zBe];cases hy:keyA kk x y' with
  |none=>rw[hy] at h;cases h
  |some t=>
   cases t with
   |true=>rw[hy] at h;exact h
   |false=>rw[hy] at h;exact zFM es (i+1) h
def FI(es:List (AVal×AVal×Nat))(keys:List (List Nat))(j:Nat):Prop:=∀k,∃i,zBe .str (.str k) es 0=some (if k∈keys.take j then some (i,.int .i64 (zCT k keys:Nat)) else none)
theorem FI.zero(keys:List (List Nat)):FI [] keys 0:=fun k=>⟨0,by simp[zBe]⟩
theorem FI.stay{es:List (AVal×AVal×Nat)}{keys:List (List Nat)}{j:Nat}(hj:j<keys.length)(h:FI es keys j)(hm:keys[j]∈keys.take j):FI es keys (j+1):=fun k=>by
 obtain⟨i,hi⟩:=h k;refine⟨i,?_⟩;rw[hi];have:k∈keys.take (j+1)↔k∈keys.take j:=by rw[List.take_succ_eq_append_getElem hj,List.mem_append,List.mem_singleton];exact⟨fun h=>h.elim id (fun h=>h ▸ hm),.inl⟩
 simp only[this]
theorem zOW{keys:List (List Nat)}{j:Nat}(hj:j<keys.length)(hm:keys[j]∉keys.take j):zCT keys[j] keys=j:=by
 have h1:=zIr (zgG hj);have h2:=(zCU (List.getElem_mem hj)).1;rcases Nat.lt_or_ge (zCT keys[j] keys) j with aa|hge
 ·rw[zgG (by omega)] at h2;exact absurd (List.mem_take_iff_getElem.2 ⟨zCT keys[j] keys,by omega,Option.some.inj h2⟩) hm
 ·omega
theorem FI.put{es:List (AVal×AVal×Nat)}{keys:List (List Nat)}{j c:Nat}(hj:j<keys.length)(h:FI es keys j)(hm:keys[j]∉keys.take j):FI (es++[(.str keys[j],.int .i64 (j:Nat),c)]) keys (j+1):=fun k=>by
 obtain⟨i,hi⟩:=h k;by_cases hk:k∈keys.take j
 ·rw[if_pos hk] at hi;refine⟨i,?_⟩;rw[zFM es 0 hi,if_pos (by rw[List.take_succ_eq_append_getElem hj];exact List.mem_append.2 (.inl hk))]
 ·rw[if_neg hk] at hi;refine⟨0+es.length,?_⟩;rw[zFN es 0 hi (eqL k keys[j]) rfl];by_cases he:k=keys[j]
  ·subst he;have aa:keys[j]∈keys.take (j+1):=by rw[List.take_succ_eq_append_getElem hj];exact List.mem_append.2 (.inr (List.mem_singleton.2 rfl))
   rw[if_pos (zAx.2 rfl),if_pos aa,zOW hj hm]
  ·rw[if_neg (by rw[zAx];exact he),if_neg (by
    rw[List.take_succ_eq_append_getElem hj,List.mem_append,List.mem_singleton];exact fun h=>h.elim hk he)]
theorem FI.look{h:AHeap}{r ver c:Nat}{es:List (AVal×AVal×Nat)}{keys:List (List Nat)}{j:Nat}(hg:h.objs.get r=some (ver,.map es c))(f:FI es keys j)(k:List Nat):zCq h .str (.int .i64 0) true (.map (some r)) (.str k)=some (.tuple [.int .i64 (if k∈keys.take j then (zCT k keys:Nat) else 0),.bool (decide (k∈keys.take j))],some r):=by
 obtain⟨i,hi⟩:=f k;simp only[zCq,zEd,hg,hi];by_cases hk:k∈keys.take j
 ·simp[hk]
 ·simp[hk]
structure FInv(h0:AHeap)(b2 b3 r5 b6:Nat)(nv cv:AVal)(root:Int)(keys:List (List Nat))(out:List Int)(j:Nat)(hp:AHeap):Prop where
 grow:Grow h0 hp
 o2:∃ver,hp.objs.get b2=some (ver,.cells false 24 [nv,.int .i64 root])
 o3:∃ver,hp.objs.get b3=some (ver,.cells false 28 [cv])
 o5:∃ver es c,hp.objs.get r5=some (ver,.map es c)/\FI es keys j
 o6:∃ver vs,hp.objs.get b6=some (ver,.cells false 3 vs)/\vs.length=out.length/\vs.take j=(out.take j).map (AVal.int .i64)
 low:h0.next<=r5/\h0.next<=b6
theorem FInv.other{h0:AHeap}{b2 b3 r5 b6:Nat}{nv cv:AVal}{root:Int}{keys:List (List Nat)}{out:List Int}{j:Nat}{hp hq:AHeap}(I:FInv h0 b2 b3 r5 b6 nv cv root keys out j hp)(g:Grow hp hq):FInv h0 b2 b3 r5 b6 nv cv root keys out j hq:=by obtain⟨v2,k2⟩:=I.o2;obtain⟨v3,k3⟩:=I.o3;obtain⟨v5,es,c,k5,kf⟩:=I.o5;obtain⟨v6,vs,k6,kl,kt⟩:=I.o6;exact⟨I.grow.trans g,⟨v2,g.keep _ _ k2⟩,⟨v3,g.keep _ _ k3⟩,⟨v5,es,c,g.keep _ _ k5,kf⟩,⟨v6,vs,g.keep _ _ k6,kl,kt⟩,I.low⟩
structure GTi(g:Graph):Prop extends GSm g where
 tinyN:g.nodes.length<=4096
 tinyA:∀n∈g.nodes,n.args.length<=4096
section
variable{fns:FnsT}{summ:SumT}
variable(H:Has fns summ)
include H
end
end Go.Ab.S
end
section
namespace Go.Ab.S
open Go.Ab
theorem zNo(n:Nat):List.replicate n (AVal.int .i64 0)=(List.replicate n (0:Int)).map (AVal.int .i64):=by simp
section
variable{fns:FnsT}{summ:SumT}
variable(H:Has fns summ)
include H
end
end Go.Ab.S
end
section
namespace Go.Ab.S
open Go.Ab
structure LInv(h0:AHeap)(b1 b2 b4:Nat)(nv cv:AVal)(root root':Int)(cl:List Int)(ns:List Node)(hp:AHeap):Prop where
 grow:Grow h0 hp
 o1:∃ver,hp.objs.get b1=some (ver,.cells false 24 [nv,.int .i64 root])
 o2:∃ver,hp.objs.get b2=some (ver,.cells false 24 [.slice none 0,.int .i64 0])
 o4:∃(ver:Nat) (vo:AVal) (cs:List (List AVal)),hp.objs.get b4=some (ver,.cells false 24 [vo,.int .i64 root'])/\Built hp h0.next 36 5 vo ns.length cs.flatten/\cs.length=ns.length∧
  ∀(i:Nat) c n,cs[i]?=some c->ns[i]?=some n->∃av lv,c=[.int .i64 n.kind,.str n.name,av,lv,.bool n.isOpen]/\Built hp h0.next 3 1 av n.args.length (n.args.map (AVal.int .i64))/\StrsAt h0 lv n.labels
 bcl:Built hp h0.next 3 1 cv cl.length (cl.map (AVal.int .i64))
 low:h0.next<=b1/\h0.next<=b2/\h0.next<=b4/\b1≠b4/\b2≠b4
theorem LInv.other{h0:AHeap}{b1 b2 b4:Nat}{nv cv:AVal}{root root':Int}{cl:List Int}{ns:List Node}{hp hq:AHeap}(I:LInv h0 b1 b2 b4 nv cv root root' cl ns hp)(g:Grow hp hq):LInv h0 b1 b2 b4 nv cv root root' cl ns hq:=by
 obtain⟨v1,k1⟩:=I.o1;obtain⟨v2,k2⟩:=I.o2;obtain⟨v4,vo,cs,k4,kB,kl,kn⟩:=I.o4;exact⟨I.grow.trans g,⟨v1,g.keep _ _ k1⟩,⟨v2,g.keep _ _ k2⟩,⟨v4,vo,cs,g.keep _ _ k4,kB.grow g,kl,fun i c n hc hn=>by
  obtain⟨av,lv,q1,q2,q3⟩:=kn i c n hc hn;exact⟨av,lv,q1,q2.grow g,q3⟩⟩,I.bcl.grow g,I.low⟩
theorem LInv.graph{h0:AHeap}{b1 b2 b4:Nat}{nv cv:AVal}{root root':Int}{cl:List Int}{ns:List Node}{hp:AHeap}(I:LInv h0 b1 b2 b4 nv cv root root' cl ns hp):∃ver vo,hp.objs.get b4=some (ver,.cells false 24 [vo,.int .i64 root'])/\NodesAt hp vo ns:=by
 obtain⟨v4,vo,cs,k4,kB,kl,kn⟩:=I.o4;have h5:∀c∈cs,c.length=5:=by intro c hc;obtain⟨i,hi,rfl⟩:=List.mem_iff_getElem.1 hc;obtain⟨av,lv,q1,_⟩:=kn i _ _ (zgG hi) (zgG (by omega));rw[q1];rfl
 refine⟨v4,vo,k4,cs,kB.sl (by decide) rfl h5 kl,kl,fun i n c hn hc=>?_⟩;obtain⟨av,lv,q1,q2,q3⟩:=kn i c n hc hn;exact⟨av,lv,q1,zBb q2,q3.mono I.grow⟩
section
variable{fns:FnsT}{summ:SumT}
variable(H:Has fns summ)
include H
omit H in
theorem GTi.map{g:Graph}(hg:GTi g)(cl:List Int)(root:Int):GTi ⟨g.nodes.map (mapN cl),root⟩:=by
 have hlf:zAU [] (g.nodes.map (mapN cl)) 0=zAU [] g.nodes 0:=by
  have:∀(ns:List Node) (i:Nat),zAU [] (ns.map (mapN cl)) i=zAU [] ns i:=by
   intro ns;induction ns with
   |nil=>intro i;rfl
   |cons n r ih=>intro i;simp only[List.map_cons,zAU,ih,mapN,List.length_map]
  exact this _ _
 refine⟨⟨⟨by simpa using hg.nodes,fun n hn=>?_⟩,by simpa[hlf] using hg.total,fun n hn=>?_⟩,by simpa using hg.tinyN,fun n hn=>?_⟩
 ·obtain⟨m,hm,rfl⟩:=List.mem_map.1 hn;have:=hg.all m hm;exact⟨by simpa[mapN] using this.args,this.labels,this.texts⟩
 ·obtain⟨m,hm,rfl⟩:=List.mem_map.1 hn;exact hg.labs m hm
 ·obtain⟨m,hm,rfl⟩:=List.mem_map.1 hn;simpa[mapN] using hg.tinyA m hm
end
end Go.Ab.S
end
section
namespace Go.Ab.S
open Go.Ab
theorem zCO:∀s:List Nat,zAn s s=false
 |[]=>rfl
 |a::s=>by
  have h1:Nat.blt a a=false:=by
   cases h:Nat.blt a a
   ·rfl
   ·exact absurd (Nat.blt_eq.mp h) (Nat.lt_irrefl _)
  rw[zAn,h1,Nat.beq_refl];exact zCO s
theorem zHu:∀{x y:List Nat} {a b:Nat},zAn (a::x) (b::y)=true↔a<b\/(a=b/\zAn x y=true):=by
 intro x y a b;rw[zAn];cases h:Nat.blt a b with
 |true=>
  have:=Nat.blt_eq.mp h;simp[this]
 |false=>
  have hn:¬a<b:=fun hh=>by rw[Nat.blt_eq.mpr hh] at h;cases h
  cases h2:Nat.beq a b with
  |true=>
   have:=Nat.eq_of_beq_eq_true h2;simp[this]
  |false=>
   have:a≠b:=by rintro rfl;rw[Nat.beq_refl] at h2;cases h2
   simp[hn,this]
theorem zBj:∀{x y z:List Nat},zAn x y=true->zAn y z=true->zAn x z=true
 |_,[],_,h,_=>by cases ‹List Nat› <;>simp[zAn] at h
 |[],_::_,[],_,h=>by simp[zAn] at h
 |[],_::_,_::_,_,_=>rfl
 |_::_,_::_,[],_,h=>by simp[zAn] at h
 |a::x,b::y,c::z,h1,h2=>by
  rw[zHu] at h1 h2 ⊢;rcases h1 with h1|⟨rfl,h1⟩<;>rcases h2 with h2|⟨rfl,h2⟩
  ·exact .inl (by omega)
  ·exact .inl h1
  ·exact .inl h2
  ·exact .inr ⟨rfl,zBj h1 h2⟩
theorem zFA:∀(x y:List Nat),zAn x y=true\/x=y\/zAn y x=true
 |[],[]=>.inr (.inl rfl)
 |[],_::_=>.inl rfl
 |_::_,[]=>.inr (.inr rfl)
 |a::x,b::y=>by
  rw[zHu,zHu];rcases Nat.lt_trichotomy a b with h|rfl|h
  ·exact .inl (.inl h)
  ·rcases zFA x y with h|rfl|h
   ·exact .inl (.inr ⟨rfl,h⟩)
   ·exact .inr (.inl rfl)
   ·exact .inr (.inr (.inr ⟨rfl,h⟩))
  ·exact .inr (.inr (.inl h))
def Rises(l:List (List Nat)):Prop:=∀i j:Nat,i<j->∀x y,l[i]?=some x->l[j]?=some y->zAn x y=true
theorem zRg:∀{l:List (List Nat)} {p:List Nat},risG (some p) l=true->∀x∈l,zAn p x=true
 |[],_,_=>by intro x hx;cases hx
 |y::l,p,h=>by
  simp only[risG,Bool.and_eq_true] at h;intro x hx;rcases List.mem_cons.1 hx with rfl|hx
  ·exact h.1.2
  ·exact zBj h.1.2 (zRg h.2 x hx)
theorem zBD:∀{l:List (List Nat)} {p:Option (List Nat)},risG p l=true->Rises l
 |[],_,_=>by intro i j _ x y hx;simp at hx
 |z::l,p,h=>by
  simp only[risG,Bool.and_eq_true] at h;intro i j hij x y hx hy;cases j with
  |zero=>omega
  |succ j=>
   have hy':l[j]?=some y:=by simpa using hy
   cases i with
   |zero=>
    have aa:z=x:=by simpa using hx
    rw[<-aa];exact zRg h.2 y (List.mem_of_getElem? hy')
   |succ i=>exact zBD h.2 i j (by omega) x y (by simpa using hx) hy'
def bsAt(l:List (List Nat))(s:List Nat):Nat:=(l.filter fun x=>zAn x s).length
theorem zPp{l:List (List Nat)}(hr:Rises l){s:List Nat}{m:Nat}(hm:m<=l.length)(h1:∀i x,i<m->l[i]?=some x->zAn x s=true)(h2:∀i x,m<=i->l[i]?=some x->zAn x s=false):bsAt l s=m:=by
 unfold bsAt;have:l.filter (fun x=>zAn x s)=l.take m:=by
  conv=>lhs;rw[<-List.take_append_drop m l]
  rw[List.filter_append];have e1:(l.take m).filter (fun x=>zAn x s)=l.take m:=by rw[List.filter_eq_self];intro x hx;obtain⟨i,hi,rfl⟩:=List.mem_iff_getElem.1 hx;rw[List.getElem_take];simp only[List.length_take] at hi;exact h1 i _ (by omega) (zgG (by omega))
  have e2:(l.drop m).filter (fun x=>zAn x s)=[]:=by rw[List.filter_eq_nil_iff];intro x hx;obtain⟨i,hi,rfl⟩:=List.mem_iff_getElem.1 hx;rw[List.getElem_drop];simp only[List.length_drop] at hi;have:=h2 (m+i) _ (by omega) (zgG (by omega));rw[this];simp
  rw[e1,e2,zlE]
 rw[this,List.length_take];omega
def bsIs(l:List (List Nat))(s:List Nat):Bool:=match l[bsAt l s]? with |some x=>eqL x s|none=>false
section
variable{fns:FnsT}{summ:SumT}
variable(H:Has fns summ)
include H
end
end Go.Ab.S
end
section
namespace Go.Ab.S
open Go.Ab
abbrev Pr:=Int×Int
def zCB(p:Pr):List AVal:=[.int .i64 p.1,.int .i64 p.2]
def rowC(w:List Pr):List AVal:=(w.reverse.map zCB).flatten
def zBg(g h:Graph):List Pr:=(List.range g.nodes.length).flatMap fun (i:Nat)=>(List.range h.nodes.length).map fun (j:Nat)=>((i:Int),(j:Int))
theorem zBI{g h:Graph}{p:Pr}:p∈zBg g h↔(0<=p.1/\p.1<g.nodes.length)/\0<=p.2/\p.2<h.nodes.length:=by
 simp only[zBg,List.mem_flatMap,List.mem_range,List.mem_map];constructor
 ·rintro⟨i,hi,j,hj,rfl⟩;exact⟨⟨by simp,by simp;omega⟩,by simp,by simp;omega⟩
 ·rintro⟨⟨h1,h2⟩,h3,h4⟩;exact⟨p.1.toNat,by omega,p.2.toNat,by omega,by ext<;>simp<;>omega⟩
theorem zNY(g h:Graph):(zBg g h).length=g.nodes.length*h.nodes.length:=by
 simp only[zBg,List.length_flatMap,List.length_map,List.length_range];generalize g.nodes.length=n;induction n with
 |zero=>simp
 |succ n ih=>rw[List.range_succ,List.map_append,List.sum_append,ih,Nat.succ_mul];simp
theorem zHs{α:Type}[BEq α]{nx:α->List α}{c:Nat}:∀{ps:List α},(∀p∈ps,(nx p).length<=c)->zDI nx [] ps<=ps.length*c
 |[],_=>by simp[zDI]
 |p::r,h=>by have h1:=zHs (ps:=r) fun q hq=>h q (by simp[hq]);have h2:=h p (by simp);simp only[zDI,zlC,Nat.succ_mul];split<;>omega
def okS(g h:Graph)(p:Pr):Bool:=zCe (zAA g p.1) (zAA h p.2)
def nxS(g h:Graph)(p:Pr):List Pr:=(List.zip (zAA g p.1).args (zAA h p.2).args).reverse
def badS(g:Graph)(p q:Pr):Bool:=zEo (zAA g p.1)&&(zEo (zAA g q.1)&&(p.1==q.1||p.2==q.2))
def zGc(g h:Graph):Bool:=zAB g==0&&(zAB h==0&&zEi (okS g h) (nxS g h) (badS g) (2+zDI (nxS g h) [] (zBg g h)) [(g.root,h.root)] [])
theorem zJo{g:Graph}{a:Int}(h0:0<=a)(h1:a<g.nodes.length):∃k:Nat,a=(k:Int)/\∃hk:k<g.nodes.length,zAA g a=g.nodes[k]:=by refine⟨a.toNat,by omega,by omega,?_⟩;simp[zAA,zgG (show a.toNat<g.nodes.length by omega)]
theorem zDK{g:Graph}{a:Int}(h0:0<=a)(h1:a<g.nodes.length):zAA g a∈g.nodes:=by obtain⟨k,_,hk,h⟩:=zJo h0 h1;rw[h];exact List.getElem_mem hk
theorem zRe{g h:Graph}(hg:zAB g=0)(hh:zAB h=0){p:Pr}(hp:p∈zBg g h):∀q∈nxS g h p,q∈zBg g h:=by intro q hq;obtain⟨⟨a0,a1⟩,b0,b1⟩:=zBI.1 hp;simp only[nxS,List.mem_reverse] at hq;have h1:=List.of_mem_zip hq;have h2:=zAh ((zAs hg).2 _ (zDK a0 a1)) _ h1.1;have h3:=zAh ((zAs hh).2 _ (zDK b0 b1)) _ h1.2;exact zBI.2 ⟨h2,h3⟩
theorem zNQ{g h:Graph}(hg:GTi g)(hh:GTi h){nx:Pr->List Pr}(hn:∀p∈zBg g h,(nx p).length<=(zAA g p.1).args.length):zDI nx [] (zBg g h)<=2 ^ 36:=by
 have h1:=zHs (nx:=nx) (c:=4096) (ps:=zBg g h) (fun p hp=>by
  obtain⟨⟨a0,a1⟩,_⟩:=zBI.1 hp;have:=hg.tinyA _ (zDK a0 a1);have:=hn p hp;omega)
 rw[zNY] at h1;have h2:=hg.tinyN;have h3:=hh.tinyN;have h4:g.nodes.length*h.nodes.length<=4096*4096:=Nat.mul_le_mul (by omega) (by omega);have h5:(2:Nat) ^ 36=4096*4096*4096:=by decide
 have h6:=Nat.mul_le_mul_right 4096 h4;omega
theorem zSe{k:Nat}(hk:k<=2 ^ 37):zCd 16 k=true:=by
 have aa:(2:Nat) ^ 37=137438953472:=by decide
 have ab:(2:Nat) ^ 46=70368744177664:=by decide
 simp only[zCd,Bool.and_eq_true];exact⟨rfl,Nat.ble_eq.mpr (by omega)⟩
def MP(es:List (AVal×AVal×Nat))(met:List Pr):Prop:=∀p,∃i,zBe (.agg 2) (.agg (zCB p)) es 0=some (if p∈met then some (i,.bool true) else none)
theorem MP.zero:MP [] []:=fun p=>⟨0,by simp[zBe]⟩
theorem zQT(p q:Pr):keyA (.agg 2) (.agg (zCB p)) (.agg (zCB q))=some (decide (p=q)):=by
  obtain⟨a,b⟩:=p;obtain⟨c,d⟩:=q;simp only[keyA,zCB,zlC,zlN,and_self,if_true,zCD];cases h1:a==c with
  |false=>
    have:a≠c:=by simpa using h1
    cases h2:b==d<;>simp[this]
  |true=>
    have:a=c:=by simpa using h1
    cases h2:b==d with
    | false => have : b ≠ d := by simpa using h2
               simp[this]
    | true => have h3 : b = d := by simpa using h2
              simp[this,h3]
theorem MP.put{es:List (AVal×AVal×Nat)}{met:List Pr}{p:Pr}{c:Nat}(h:MP es met)(hp:p∉met):MP (es++[(.agg (zCB p),.bool true,c)]) (met++[p]):=fun q=>by
 obtain⟨i,hi⟩:=h q;by_cases hq:q∈met
 ·rw[if_pos hq] at hi;exact⟨i,by rw[zFM es 0 hi,if_pos (List.mem_append.2 (.inl hq))]⟩
 ·rw[if_neg hq] at hi;refine⟨0+es.length,?_⟩;rw[zFN es 0 hi _ (zQT q p)];by_cases he:q=p
  ·rw[if_pos (decide_eq_true he),if_pos (List.mem_append.2 (.inr (List.mem_singleton.2 he)))]
  ·rw[if_neg (by simpa using he),if_neg (fun hh=>by
    rcases List.mem_append.1 hh with hh|hh
    ·exact hq hh
    ·exact he (List.mem_singleton.1 hh))]
theorem MP.look{h:AHeap}{r ver c:Nat}{es:List (AVal×AVal×Nat)}{met:List Pr}(hg:h.objs.get r=some (ver,.map es c))(f:MP es met)(p:Pr):zCq h (.agg 2) (.bool false) false (.map (some r)) (.agg (zCB p))=some (.bool (met.contains p),some r):=by
 obtain⟨i,hi⟩:=f p;have hk:zEd (.agg 2) (.agg (zCB p))=true:=rfl;simp only[zCq,hk,hg,hi];by_cases hp:p∈met
 ·simp[hp]
 ·simp[hp]
theorem MP.none{es:List (AVal×AVal×Nat)}{met:List Pr}(f:MP es met){p:Pr}(hp:p∉met):zBe (.agg 2) (.agg (zCB p)) es 0=some none:=by obtain⟨i,hi⟩:=f p;rw[hi,if_neg hp]
def FA(es:List (AVal×AVal×Nat))(l:List Pr):Prop:=∀a,∃r,zBe .int (.int .i64 a) es 0=some r/\(r=none->∀q∈l,q.1≠a)/\(∀i v,r=some (i,v)->∃q∈l,q.1=a/\v=.int .i64 q.2)
theorem FA.zero:FA [] []:=fun a=>⟨none,rfl,fun _ q hq=>(by cases hq),fun i v h=>by cases h⟩
theorem FA.put{es:List (AVal×AVal×Nat)}{l:List Pr}{p:Pr}{c:Nat}(h:FA es l)(hp:∀q∈l,q.1≠p.1):FA (es++[(.int .i64 p.1,.int .i64 p.2,c)]) (l++[p]):=fun a=>by
 obtain⟨r,h1,h2,h3⟩:=h a;cases r with
 |some x=>
  refine⟨some x,zFM es 0 h1,fun hh=>(by cases hh),fun i v hv=>?_⟩;obtain⟨q,q1,q2⟩:=h3 i v hv;exact⟨q,List.mem_append.2 (.inl q1),q2⟩
 |none=>
  have hk:keyA .int (.int .i64 a) (.int .i64 p.1)=some (a==p.1):=by simp[keyA]
  refine⟨_,zFN es 0 h1 _ hk,?_,?_⟩
  ·intro hh q hq;rcases List.mem_append.1 hq with hq|hq
   ·exact h2 rfl q hq
   ·rw[List.mem_singleton.1 hq];rintro rfl;simp at hh
  ·intro i v hv;split at hv
   ·rename_i hap;simp only[oI,Prod.mk.injEq] at hv;exact⟨p,List.mem_append.2 (.inr (List.mem_singleton.2 rfl)),(by simpa using hap:a=p.1).symm,hv.2.symm⟩
   ·cases hv
theorem FA.none{es:List (AVal×AVal×Nat)}{l:List Pr}(f:FA es l){a:Int}(ha:∀q∈l,q.1≠a):zBe .int (.int .i64 a) es 0=some none:=by
 obtain⟨r,h1,h2,h3⟩:=f a;cases r with
 |none=>exact h1
 |some x=>
  obtain⟨q,q1,q2,_⟩:=h3 x.1 x.2 rfl;exact absurd q2 (ha q q1)
theorem FA.look{h:AHeap}{r ver c:Nat}{es:List (AVal×AVal×Nat)}{l:List Pr}(hg:h.objs.get r=some (ver,.map es c))(f:FA es l)(a:Int):∃x,zCq h .int (.int .i64 0) true (.map (some r)) (.int .i64 a)=some (.tuple [.int .i64 x,.bool (l.any fun q=>q.1==a)],some r)/\((l.any fun q=>q.1==a)=true->∃q∈l,q.1=a/\x=q.2):=by
 obtain⟨y,h1,h2,h3⟩:=f a;cases y with
 |none=>
  refine⟨0,?_,fun hh=>?_⟩
  ·have:(l.any fun q=>q.1==a)=false:=by
    rw[List.any_eq_false];intro q hq;simpa using h2 rfl q hq
   simp only[zCq,zEd,hg,h1,this,if_true]
  ·obtain⟨q,hq,hh⟩:=List.any_eq_true.1 hh;exact absurd (by simpa using hh) (h2 rfl q hq)
 |some x=>
  obtain⟨q,q1,q2,q3⟩:=h3 x.1 x.2 rfl;refine⟨q.2,?_,fun _=>⟨q,q1,q2,rfl⟩⟩;have:(l.any fun q=>q.1==a)=true:=List.any_eq_true.2 ⟨q,q1,by simpa using q2⟩;obtain⟨i,v⟩:=x;simp only at q3;subst q3;simp only[zCq,zEd,hg,h1,this,if_true]
theorem zEJ(p:Pr)(w:List Pr):rowC (p::w)=rowC w++zCB p:=by simp[rowC]
theorem zMr(w:List Pr):(rowC w).length=w.length*2:=by
 induction w with
 |nil=>rfl
 |cons p w ih=>rw[zEJ,zgL,ih,zlC,Nat.succ_mul];rfl
theorem zPC{h:AHeap}{base:Nat}{e:TypeId}{vw:AVal}{p:Pr}{w:List Pr}(B:Built h base e 2 vw (w.length+1) (rowC (p::w))):∃bw ver vs,vw=.slice (some (bw,0)) (w.length+1)/\h.objs.get bw=some (ver,.cells false e vs)/\base<=bw/\(w.length*2+2<=vs.length/\(vs.drop (w.length*2)).take 2=zCB p)/\Built h base e 2 (.slice (some (bw,0)) w.length) w.length (rowC w):=by
 rcases B with⟨_,hh,_⟩|⟨_,hh,_⟩|⟨b,vs,ver,h0,h1,h2,h3,h4⟩
 ·omega
 ·omega
 ·refine⟨b,ver,vs,h1,h2,h0,?_,.inr (.inr ⟨b,vs,ver,h0,rfl,h2,by omega,?_⟩)⟩
  ·refine⟨by omega,?_⟩;have:=congrArg (fun l=>l.drop (w.length*2)) h4;simp only[List.drop_take,zEJ,List.drop_left' (zMr w)] at this;rw[show (w.length+1)*2 - w.length*2=2 by omega] at this;exact this
  ·have:=congrArg (fun l=>l.take (w.length*2)) h4;simp only[List.take_take,zEJ,List.take_left' (zMr w)] at this;rw[Nat.min_eq_left (by omega)] at this;exact this
end Go.Ab.S
end
