import Derived.Test.YtpmndmiohaaokaaGreatDoorP03
import Derived.Test.YtpmndmiohaaokaaGreatDoorP04
/-
  Part 5 of the proof.
-/
set_option linter.all false
section
namespace Go.Ab
open Go.RowKit (Below)

section
variable(P:Program)(N:Nat)(ops:Array Oper)(ag0:Act)

def Pend(L:Nat)(held:List Held)(h:AHeap)(G:GM)(w:World)(val:Nat->Value)(k:Nat):Prop:=
  ∃(o:Oper) (Lk:Nat->Prop) (valk:Nat->Value) (agk:Act),ops[k]?=some o/\AA ops ag0 Lk valk agk/\(∀i j,Lk i->Pr ops i j->Lk j)/\(∀j,Pr ops k j->Lk j)/\¬Lk k/\(∀j,Lk j->L.testBit j=true)/\(∀j,Lk j->val j=valk j)∧
   ((Region.wanted o (yielded ops agk.tmps)=false/\val k=undef)∨
    (Region.wanted o (yielded ops agk.tmps)=true/\(∀c,o.op≠.defer c)/\∃id,(∀w',Look G id w w'->(execOp agk.eval o).run P w'=.ok (.value (val k)) w')/\∀b,id=some b->∃ver ob,h.objs.get b=some (ver,ob)/\(⟨k,b,ver⟩:Held)∈held))

def Frec(ws:World)(C:Nat->Prop)(h:AHeap)(G:GM)(w:World)(val:Nat->Value)(fb:Nat->Nat)(k:Nat):Prop:=
 ∃(o:Oper) (Ck:Nat->Prop) (valk:Nat->Value) (agk:Act) (obj:Obj) (vf:Nat->Value),ops[k]?=some o/\AA ops ag0 Ck valk agk/\(∀i j,Ck i->Pr ops i j->Ck j)/\(∀j,Pr ops k j->Ck j)/\¬Ck k/\(∀j,Ck j->C j)/\(∀j,Ck j->val j=valk j)∧
  FO P o agk.eval obj vf/\val k=vf (fb k)/\w.heap[fb k]?=some obj/\N<=fb k/\ws.heap.size<=fb k/\Unowned G h (fb k)
end

structure Inv(P:Program)(N:Nat)(w0:World)(S:Self)(ro:Option Nat)(ops:Array Oper)(l:List DStep)(fl M:Nat)(ag0:Act)(Gs:GM)(hs:AHeap)(ws:World)(Q:AAct×AHeap->Prop)
  (C:Nat->Prop) (L:Nat) (is:List Nat) (held:List Held) (a:AAct) (h:AHeap) (G:GM) (ag:Act) (w:World) (val:Nat->Value) (agp:Act) (fb:Nat->Nat):Prop where
 sat:∃plan,mapO (fun i=>(zFd l [])[i]?) is=some plan/\(zCc S ro plan held a h).sat Q
 chk:chkP l fl L is=true
 rel:Rel P N w0 G h w
 ext:Ext Gs hs ws G h w
 act:ActR P G M a agp
 aaL:AA ops ag0 (fun k=>L.testBit k=true) val agp
 aaC:AA ops ag0 C val ag
 defs:ag.defers=agp.defers
 clC:∀k j,C k->Pr ops k j->C j
 clL:∀k j,L.testBit k=true->Pr ops k j->L.testBit j=true
 eff:∀k s,L.testBit k=true->¬C k->l[k]?=some s->isE s.st=false
 flo:∀k,C k->¬L.testBit k=true->fl.testBit k=true
 pend:∀k,L.testBit k=true->¬C k->Pend P ops ag0 L held h G w val k
 frec:∀k,C k->¬L.testBit k=true->Frec P N ops ag0 ws C h G w val fb k
 fdis:∀k k',C k->¬L.testBit k=true->C k'->¬L.testBit k'=true->fb k=fb k'->k=k'

section
variable{P:Program}{N:Nat}{w0:World}{S:Self}{ro rv:Option Nat}{ops:Array Oper}{l:List DStep}{fl M:Nat}{ag0:Act}{Gs:GM}{hs:AHeap}{ws:World}{Q:AAct×AHeap->Prop}
 {C:Nat->Prop} {L:Nat} {is:List Nat} {held:List Held} {a:AAct} {h:AHeap} {G:GM} {ag:Act} {w:World} {val:Nat->Value} {agp:Act} {fb:Nat->Nat}

theorem AA.defers{X:Nat->Prop}(hh:AA ops ag0 X val ag)(ds:List Deferred):AA ops ag0 X val {ag with defers:=ds}:=⟨hh.size,hh.on,hh.off⟩

theorem zJe{st:Step}(hh:isAl st=true):isE st=true/\st.guard=none/\∃e,st.op=.e e/\alE e=true:=by
 unfold isAl at hh;split at hh;all_goals first
  |(rename_i h1 h2;exact⟨by unfold isE;rw[h1],h2,_,h1,rfl⟩)
  |cases hh

theorem FO.congr{o:Oper}{ρ ρ':Operand->Value}{obj:Obj}{vf:Nat->Value}(hs:∀cs b,o.op≠.select cs b)(he:∀x∈o.op.operands,ρ x=ρ' x)(hf:FO P o ρ obj vf):FO P o ρ' obj vf:=fun w=>by rw[<-execOp_congr o hs he];exact hf w

theorem Fit.getI(hF:Fit P M ops l fl){i:Nat}{s:DStep}(hi:l[i]?=some s):∃o st,ops[i]?=some o/\zIc P M ops.toList o=some st/\s={i:=i,pred:=zHJ o,st:=st}:=by obtain⟨o,ho⟩:=hF.lookup i s hi;obtain⟨st,h1,h2⟩:=hF.step i o ho;rw[hi] at h2;exact⟨o,st,ho,h1,Option.some.inj h2⟩

theorem Pend.step{L':Nat}{held':List Held}{h':AHeap}{G':GM}{w':World}{val':Nat->Value}{k:Nat}(hp:Pend P ops ag0 L held h G w val k)(hL:∀j,L.testBit j=true->L'.testBit j=true)(hv:∀j,L.testBit j=true->val' j=val j)(hk:val' k=val k)
  (hl:∀b ver ob,h.objs.get b=some (ver,ob)->(⟨k,b,ver⟩:Held)∈held->(∃ob',h'.objs.get b=some (ver,ob')/\(⟨k,b,ver⟩:Held)∈held')/\∀w2,Look G' (some b) w' w2->Look G (some b) w w2):Pend P ops ag0 L' held' h' G' w' val' k:=by
 obtain⟨o,Lk,af,ah,h1,h2,h3,h4,h5,h6,h7,h8⟩:=hp;refine⟨o,Lk,af,ah,h1,h2,h3,h4,h5,fun j hj=>hL j (h6 j hj),fun j hj=>by rw[hv j (h6 j hj)];exact h7 j hj,?_⟩;rcases h8 with⟨h9,aa⟩|⟨h9,aa,id,ai,ae⟩
 ·exact .inl ⟨h9,by rw[hk];exact aa⟩
 ·refine .inr ⟨h9,aa,id,fun w2 ad=>?_,fun b hb=>?_⟩
  ·rw[hk];refine ai w2 ?_;cases id with
   |none=>intro b hb;cases hb
   |some b=>
    obtain⟨ver,ob,ab,ac⟩:=ae b rfl;exact(hl b ver ob ab ac).2 w2 ad
  ·obtain⟨ver,ob,ab,ac⟩:=ae b hb;obtain⟨⟨ob',aj,ak⟩,_⟩:=hl b ver ob ab ac;exact⟨ver,ob',aj,ak⟩

theorem Frec.step{C':Nat->Prop}{h':AHeap}{G':GM}{w':World}{val':Nat->Value}{fb':Nat->Nat}{k:Nat}(hp:Frec P N ops ag0 ws C h G w val fb k)(hC:∀j,C j->C' j)(hv:∀j,C j->val' j=val j)(hk:val' k=val k)(hfb:fb' k=fb k)
  (hw:w'.heap[fb k]?=w.heap[fb k]?) (hu:Unowned G' h' (fb k)):Frec P N ops ag0 ws C' h' G' w' val' fb' k:=by
 obtain⟨o,Ck,aa,ab,obj,vf,h1,h2,h3,h4,h5,h6,h7,h8,h9,ac,ad,ae,h13⟩:=hp;exact⟨o,Ck,aa,ab,obj,vf,h1,h2,h3,h4,h5,fun j hj=>hC j (h6 j hj),fun j hj=>by rw[hv j (h6 j hj)];exact h7 j hj,h8,by rw[hk,hfb];exact h9,by rw[hfb,hw];exact ac,by rw[hfb];exact ad,by rw[hfb];exact ae,by rw[hfb];exact hu⟩

theorem Inv.quiet(hF:Fit P M ops l fl)(hsz:M<=ag0.tmps.size){i:Nat}(hI:Inv P N w0 S ro ops l fl M ag0 Gs hs ws Q C L (i::is) held a h G ag w val agp fb){s:DStep}(hsl:l[i]?=some s)(hq:isE s.st=false):
  ∃held' a' val' agp',Inv P N w0 S ro ops l fl M ag0 Gs hs ws Q C (L|||2 ^ i) is held' a' h G ag w val' agp' fb:=by
 obtain⟨plan,hm,aa⟩:=hI.sat;obtain⟨y,zs,h1,h2,rfl⟩:=zBW hm;obtain⟨y0,m,h9,rfl,_⟩:=hF.closed h1;rw[hsl] at h9;cases h9;obtain⟨s',ac,aq⟩:=zDw (ops:=ops) hI.chk;have:s'=s:=Option.some.inj (ac.get.symm.trans hsl);subst this;obtain⟨o,st,ho,hcs,rfl⟩:=hF.getI hsl;obtain⟨aj,ar,hop⟩:=zCh hcs;have hlt:∀t,o.dst=some t->t<ag0.tmps.size:=fun t ht=>Nat.lt_of_lt_of_le ((zDE aj).2 t ht) hsz;have au:¬C i:=fun hc=>by have hf:=hI.flo i hc ac.new;obtain⟨s2,h3,h4⟩:=hF.floatS i hf;rw[hsl] at h3;cases h3;rw[(zJe h4).1] at hq;cases hq
 have aA:∀j,Pr ops i j->L.testBit j=true:=fun j ⟨o',az,hb⟩=>by rw[ho] at az;cases az;exact ac.pred j hb
 have fin:∀(held':List Held) (v:AVal) (cv:Value),VR P G v cv->(zCc S ro zs held' (putA a st.dst v) h).sat Q->(∀e,e∈held->e∈held') →
   ((Region.wanted o (yielded ops agp.tmps)=false/\cv=undef)\/(Region.wanted o (yielded ops agp.tmps)=true/\(∀c,o.op≠.defer c)/\∃id,(∀w',Look G id w w'->(execOp agp.eval o).run P w'=.ok (.value cv) w')/\∀b,id=some b->∃ver ob,h.objs.get b=some (ver,ob)/\(⟨i,b,ver⟩:Held)∈held')) →
   ∃held' a' val' agp',Inv P N w0 S ro ops l fl M ag0 Gs hs ws Q C (L|||2 ^ i) is held' a' h G ag w val' agp' fb:=by
  intro held' v cv hv hs' al am;have ak:∀j,L.testBit j=true->upd val i cv j=val j:=fun j hj=>zCs fun hh=>ac.new (hh ▸ hj);have af:∀j,C j->upd val i cv j=val j:=fun j hj=>zCs fun hh=>au (hh ▸ hj);refine⟨held',putA a st.dst v,upd val i cv,agp.put o.dst cv,⟨⟨zs,h2,hs'⟩,aq,hI.rel,hI.ext,hI.act.put aj hv,?_,?_,?_,hI.clC,?_,?_,?_,?_,?_,?_⟩⟩
  ·refine(hI.aaL.put hF ho hlt ac.new cv).congr (fun k=>?_) (fun _ _=>rfl);rw[zAe]
  ·exact hI.aaC.congr (fun _=>Iff.rfl) fun k hk=>(af k hk).symm
  ·have:(agp.put o.dst cv).defers=agp.defers:=by cases o.dst<;>rfl
   rw[this];exact hI.defs
  ·intro k j hk hp;rw[zAe] at hk ⊢;rcases hk with hk|rfl
   ·exact .inl (hI.clL k j hk hp)
   ·exact .inl (aA j hp)
  ·intro k s2 hk hc an;rw[zAe] at hk;rcases hk with hk|rfl
   ·exact hI.eff k s2 hk hc an
   ·rw[hsl] at an;cases an;exact hq
  ·intro k hc hk;exact hI.flo k hc fun hh=>hk (zAe.2 (.inl hh))
  ·intro k hk hc;by_cases ae:k=i
   ·subst ae;refine⟨o,fun j=>L.testBit j=true,val,agp,ho,hI.aaL,hI.clL,aA,ac.new,fun j hj=>zAe.2 (.inl hj),ak,?_⟩;rw[zGf];exact am
   ·rw[zAe] at hk;have ad:=hk.resolve_right ae;refine(hI.pend k ad hc).step (fun j hj=>zAe.2 (.inl hj)) ak (zCs ae) fun b ver ob hb hm=>⟨⟨ob,hb,al _ hm⟩,fun _ hl=>hl⟩
  ·intro k hc hk;have ad:¬L.testBit k=true:=fun hh=>hk (zAe.2 (.inl hh));have ae:k≠i:=fun hh=>au (hh ▸ hc);obtain⟨o',Ck,aB,agk,obj,vf,h5,h6,h7,h8,h9,ao,h11,h12,h13,h14,h15,h16,h17⟩:=hI.frec k hc ad;exact⟨o',Ck,aB,agk,obj,vf,h5,h6,h7,h8,h9,ao,fun j hj=>by rw[af j (ao j hj)];exact h11 j hj,h12,by rw[zCs ae];exact h13,h14,h15,h16,h17⟩
  ·intro k k' hc hk hc' ad he;exact hI.fdis k k' hc (fun hh=>hk (zAe.2 (.inl hh))) hc' (fun hh=>ad (zAe.2 (.inl hh))) he
 simp only[zCc] at aa;split at aa
 ·rename_i hw;have ah:=zDD hI.act ar hw;split at aa
  ·rename_i q ab;have ai:cQ P o.op=some q:=by
    rw[hop] at ab;unfold cOp at ab;split at ab
    ·rename_i q' hq';injection ab with ab;subst ab;exact hq'
    ·split at ab
     ·cases ab
     ·injection ab with ab;subst ab;simp only[qA] at aa;cases aa
   have aw:∀c,o.op≠.defer c:=fun c hc=>by rw[hc,zMM] at ai;cases ai
   split at aa
   ·rename_i v hv;obtain⟨cv,h3,h4⟩:=zJs hI.rel hI.act ai hv;exact fin held v cv h3 aa (fun _ hh=>hh) (.inr ⟨ah,aw,none,fun w' hl=>h4 o rfl w' hl,fun b hb=>by cases hb⟩)
   ·rename_i v id hv;obtain⟨cv,h3,h4⟩:=zJs hI.rel hI.act ai hv;split at aa
    ·rename_i ver ob hob;exact fin _ v cv h3 aa (fun _ hh=>List.mem_cons_of_mem _ hh) (.inr ⟨ah,aw,some id,fun w' hl=>h4 o rfl w' hl,fun b hb=>by cases hb;exact⟨ver,ob,hob,List.mem_cons_self ..⟩⟩)
    ·cases aa
   ·cases aa
  ·rename_i e he;unfold isE at hq;simp only at hq;rw[he] at hq;cases hq
 ·rename_i hw;exact fin held (.tuple []) undef ⟨#[],rfl,rfl⟩ aa (fun _ hh=>hh) (.inl ⟨zDD hI.act ar hw,rfl⟩)
 ·cases aa
end
end Go.Ab
end
section
namespace Go.Ab
open Go.RowKit (Below)

section
variable{P:Program}{N:Nat}{w0:World}{S:Self}{ro rv:Option Nat}{ops:Array Oper}{l:List DStep}{fl M:Nat}{ag0:Act}{Gs:GM}{hs:AHeap}{ws:World}{Q:AAct×AHeap->Prop}
 {C:Nat->Prop} {L:Nat} {is:List Nat} {held:List Held} {a:AAct} {h:AHeap} {G:GM} {ag:Act} {w:World} {val:Nat->Value} {agp:Act} {fb:Nat->Nat}

theorem Inv.commit(hF:Fit P M ops l fl)(hsz:M<=ag0.tmps.size){i:Nat}(hI:Inv P N w0 S ro ops l fl M ag0 Gs hs ws Q C L (i::is) held a h G ag w val agp fb)(hf:fl.testBit i=true)(hC:C i):
  ∃held' a' h' G' val' agp',Inv P N w0 S ro ops l fl M ag0 Gs hs ws Q C (L|||2 ^ i) is held' a' h' G' ag w val' agp' fb:=by
 obtain⟨plan,hm,ae⟩:=hI.sat;obtain⟨y,zs,h1,h2,rfl⟩:=zBW hm;obtain⟨s,ac,aq⟩:=zDw (ops:=ops) hI.chk;have am:=ac.get;obtain⟨y0,m,h9,rfl,hmC⟩:=hF.closed h1;have ar:∀t,TC (Pr ops) i t->C t:=fun t ht=>by
  induction ht with
  |base h=>exact hI.clC _ _ hC h
  |step _ h ih=>exact hI.clC _ _ ih h
 have:y0=s:=Option.some.inj (h9.symm.trans am);subst this;obtain⟨o,st,ho,hcs,rfl⟩:=hF.getI am;obtain⟨ah,hgd,hop⟩:=zCh hcs;have hlt:∀t,o.dst=some t->t<ag0.tmps.size:=fun t ht=>Nat.lt_of_lt_of_le ((zDE ah).2 t ht) hsz;obtain⟨s2,h3,an⟩:=hF.floatS i hf;rw[am] at h3;cases h3;obtain⟨hE,hgn,e,al,ao⟩:=zJe an;have hpr:∀j,Pr ops i j->L.testBit j=true:=fun j ⟨o',ad,hb⟩=>by rw[ho] at ad;cases ad;exact ac.pred j hb
 have hce:cE P o.op=some e:=by
  have aa:st.op=.e e:=al;rw[hop] at aa;unfold cOp at aa;split at aa
  ·cases aa
  ·split at aa
   ·rename_i e' he';injection aa with aa;subst aa;exact he'
   ·cases aa
 have aA:st.guard=none:=hgn;have aa:st.op=.e e:=al;simp only[zCc,aA,zDP,aa] at ae;rw[zTJ ao,D.sat_bind,D.sat_bind] at ae;obtain⟨obj,vf,v,h',hfo,hq,had⟩:=zMY (N:=N) (w0:=w0) (Gs:=Gs) (hs:=hs) (ws:=ws) hI.rel.glob hI.act hce al an ae;obtain⟨o',Ck,valk,agk,obj',vf',ad,haa,hcl,hpk,hnk,hCk,hvk,au,hvb,hwb,hNb,hsb,hun⟩:=hI.frec i hC ac.new;rw[ho] at ad;cases ad;have ak:∀t,t∈zFw ops.toList o->agp.tmps[t]?=agk.tmps[t]?:=fun t ht=>hI.aaL.look hF haa hI.clL hcl ho ac.new hnk hpr hpk (fun k hk=>hvk k (hpk k hk)) ht;have aw:FO P o agp.eval obj' vf':=au.congr (fun cs b=>hF.nosel i o cs b ho) (fun x hx=>(zGN ak x hx).symm);obtain⟨rfl,hvf⟩:=hfo.unique aw;obtain⟨G',hR',hE',az,hv',aj,ai⟩:=had (w:=w) (fb i) hI.rel hI.ext hwb hNb hsb hun;have hvi:VR P G' v (val i):=by rw[hvb,<-hvf];exact hv'
 simp only[D.sat_ret] at hq;split at hq
 ·refine⟨zGL m held,putA a st.dst v,h',G',val,agp.put o.dst (val i),⟨⟨zs,h2,hq⟩,aq,hR',hE',(hI.act.mono az).put ah hvi,?_,hI.aaC,?_,hI.clC,?_,?_,?_,?_,?_,?_⟩⟩
  ·refine(hI.aaL.put hF ho hlt ac.new (val i)).congr (fun k=>?_) (fun k _=>?_)
   ·rw[zAe]
   ·by_cases af:k=i
    ·subst af;exact zGf
    ·exact zCs af
  ·have:(agp.put o.dst (val i)).defers=agp.defers:=by cases o.dst<;>rfl
   rw[this];exact hI.defs
  ·intro k j hk hp;rw[zAe] at hk ⊢;rcases hk with hk|rfl
   ·exact .inl (hI.clL k j hk hp)
   ·exact .inl (hpr j hp)
  ·intro k s2 hk hc hs2;rw[zAe] at hk;rcases hk with hk|rfl
   ·exact hI.eff k s2 hk hc hs2
   ·exact absurd hC hc
  ·intro k hc hk;exact hI.flo k hc fun hh=>hk (zAe.2 (.inl hh))
  ·intro k hk hc;have ab:L.testBit k=true:=by
    rw[zAe] at hk;rcases hk with hk|rfl
    ·exact hk
    ·exact absurd hC hc
   refine(hI.pend k ab hc).step (fun j hj=>zAe.2 (.inl hj)) (fun _ _=>rfl) rfl fun b ver ob hb hm=>⟨⟨ob,aj _ _ hb,zGU hm (by
    cases hz:m.testBit k with
    |false=>rfl
    |true=>exact absurd (ar k (hmC k hz)) hc)⟩,fun w2 hl b' hb' gi hg=>hl b' hb' gi (az _ _ hg)⟩
  ·intro k hc hk;have ab:¬L.testBit k=true:=fun hh=>hk (zAe.2 (.inl hh));have af:k≠i:=fun hh=>hk (zAe.2 (.inr hh));refine(hI.frec k hc ab).step (fun _ hj=>hj) (fun _ _=>rfl) rfl rfl rfl fun id x gi hx hg=>?_;rcases ai id x gi hx hg with hh|⟨hx',hg2⟩
   ·rw[hh];exact fun hbb=>af (hI.fdis k i hc ab hC ac.new hbb.symm)
   ·obtain⟨_,_,_,_,_,_,_,_,_,_,_,_,_,_,_,_,_,_,hun2⟩:=hI.frec k hc ab;exact hun2 id x gi hx' hg2
  ·intro k k' hc hk hc' ab he;exact hI.fdis k k' hc (fun hh=>hk (zAe.2 (.inl hh))) hc' (fun hh=>ab (zAe.2 (.inl hh))) he
 ·cases hq

theorem Inv.late(hF:Fit P M ops l fl)(hsz:M<=ag0.tmps.size)(hI:Inv P N w0 S ro ops l fl M ag0 Gs hs ws Q C L is held a h G ag w val agp fb){i:Nat}{o:Oper}(ho:ops[i]?=some o)(hC:¬C i)(hpr:∀j,Pr ops i j->C j)(hL:L.testBit i=true)
  {QQ:Exit->Act->World->Prop} {K:Act->World->Prop} (hK:∀ag',Inv P N w0 S ro ops l fl M ag0 Gs hs ws Q (fun k=>C k\/k=i) L is held a h G ag' w val agp fb->K ag' w):wpOpIn (FR rv) 0 P ops QQ i K ag w:=by
 obtain⟨st,ar,hli⟩:=hF.step i o ho;obtain⟨ah,hgd,hop⟩:=zCh ar;have au:∀t,o.dst=some t->t<ag0.tmps.size:=fun t ht=>Nat.lt_of_lt_of_le ((zDE ah).2 t ht) hsz;obtain⟨o',Lk,valk,an,ak,ao,aq,al,az,hLk,aA,ad⟩:=hI.pend i hL hC;rw[ho] at ak;cases ak;have ab:∀t,t∈zFw ops.toList o->ag.tmps[t]?=an.tmps[t]?:=fun t ht=>hI.aaC.look hF ao hI.clC aq ho hC az hpr al (fun k hk=>aA k (al k hk)) ht;have aa:K (ag.put o.dst (val i)) w:=by
  refine hK _ ⟨hI.sat,hI.chk,hI.rel,hI.ext,hI.act,hI.aaL,?_,?_,?_,hI.clL,?_,?_,?_,?_,?_⟩
  ·refine(hI.aaC.put hF ho au hC (val i)).congr (fun _=>Iff.rfl) (fun k _=>?_);by_cases aj:k=i
   ·subst aj;exact zGf
   ·exact zCs aj
  ·have:(ag.put o.dst (val i)).defers=ag.defers:=by cases o.dst<;>rfl
   rw[this];exact hI.defs
  ·intro k j hk hp;rcases hk with hk|rfl
   ·exact .inl (hI.clC k j hk hp)
   ·exact .inl (hpr j hp)
  ·intro k s hk hc hs;exact hI.eff k s hk (fun hh=>hc (.inl hh)) hs
  ·intro k hc hk;rcases hc with hc|rfl
   ·exact hI.flo k hc hk
   ·exact absurd hL hk
  ·intro k hk hc;exact hI.pend k hk (fun hh=>hc (.inl hh))
  ·intro k hc hk;rcases hc with hc|rfl
   ·obtain⟨o2,Ck,ae,af,obj,vf,h1,h2,h3,h4,h5,h6,h7⟩:=hI.frec k hc hk;exact⟨o2,Ck,ae,af,obj,vf,h1,h2,h3,h4,h5,fun j hj=>.inl (h6 j hj),h7⟩
   ·exact absurd hL hk
  ·intro k k' hc hk ac ai he;rcases hc with hc|rfl
   ·rcases ac with ac|rfl
    ·exact hI.fdis k k' hc hk ac ai he
    ·exact absurd hL ai
   ·exact absurd hL hk
 unfold wpOpIn;simp only[ho];rw[zIa ab];rcases ad with⟨hw,hv⟩|⟨hw,aw,id,am,_⟩
 ·rw[hw];rw[hv] at aa;exact⟨fun _ _=>trivial,aa⟩
 ·rw[hw,if_pos rfl];refine⟨fun _ _=>trivial,?_⟩;rw[Oper.semAt_eq _ _ _ aw,execOp_congr o (fun cs b=>hF.nosel i o cs b ho) (zGN ab),am w (fun _ _ _ _=>rfl)];exact aa

theorem Inv.lay(hF:Fit P M ops l fl)(hsz:M<=ag0.tmps.size)(hI:Inv P N w0 S ro ops l fl M ag0 Gs hs ws Q C L is held a h G ag w val agp fb){i:Nat}{o:Oper}(ho:ops[i]?=some o)(hC:¬C i)(hpr:∀j,Pr ops i j->C j)(hf:fl.testBit i=true)
  {QQ:Exit->Act->World->Prop} {K:Act->World->Prop} (hK:∀ag' w' val' fb',Inv P N w0 S ro ops l fl M ag0 Gs hs ws Q (fun k=>C k\/k=i) L is held a h G ag' w' val' agp fb'->K ag' w'):wpOpIn (FR rv) 0 P ops QQ i K ag w:=by
 obtain⟨st,hcs,an⟩:=hF.step i o ho;obtain⟨hdst,ah,hop⟩:=zCh hcs;have hlt:∀t,o.dst=some t->t<ag0.tmps.size:=fun t ht=>Nat.lt_of_lt_of_le ((zDE hdst).2 t ht) hsz;obtain⟨s2,h3,hal⟩:=hF.floatS i hf;have hli':=an;rw[an] at h3;cases h3;obtain⟨hE,hgn,e,az,ai⟩:=zJe hal;have au:¬L.testBit i=true:=fun hh=>by have:=hI.eff i _ hh hC an;simp only at this hE;rw[hE] at this;cases this
 have aq:∀j,Pr ops i j->L.testBit j=true:=fun j hj=>by
  have h4:=hF.floatP i j hf hj;cases hb:L.testBit j with
  |true=>rfl
  |false=>
   have:=hI.flo j (hpr j hj) (by rw[hb];simp);rw[h4] at this;cases this
 have ad:cE P o.op=some e:=by
  have aa:st.op=.e e:=az;rw[hop] at aa;unfold cOp at aa;split at aa
  ·cases aa
  ·split at aa
   ·rename_i e' he';injection aa with aa;subst aa;exact he'
   ·cases aa
 obtain⟨plan,hm,hsat⟩:=hI.sat;obtain⟨a',h',hag,hta⟩:=ahead hF ho an az hgn ai hI.chk hm hsat au aq;have hta':=zLy (h:=h) ad ai hag hta;obtain⟨obj,vf,v,h'',hfo,_,_⟩:=zMY (N:=N) (w0:=w0) (Gs:=Gs) (hs:=hs) (ws:=ws) hI.rel.glob hI.act ad az hal hta';have ar:∀t,t∈zFw ops.toList o->agp.tmps[t]?=ag.tmps[t]?:=fun t ht=>hI.aaL.look hF hI.aaC hI.clL hI.clC ho au hC aq hpr (fun k hk=>rfl) ht;have ao:FO P o ag.eval obj vf:=hfo.congr (fun cs b=>hF.nosel i o cs b ho) (zGN ar);have hnd:∀c,o.op≠.defer c:=fun c hc=>by
  rw[hc] at ad;simp only[cE] at ad;split at ad
  ·split at ad
   ·simp only[oI] at ad;subst ad;cases ai
   ·cases ad
  ·cases ad
 obtain⟨hR',hE'⟩:=hI.rel.extra (w':=w.alloc obj) (fun b hb=>zBi hb) ((Below.refl N w).alloc hI.rel.size _);have aw:K (ag.put o.dst (vf w.heap.size)) (w.alloc obj):=by
  have am:∀j,L.testBit j=true->upd val i (vf w.heap.size) j=val j:=fun j hj=>zCs fun hh=>au (hh ▸ hj);have al:∀j,C j->upd val i (vf w.heap.size) j=val j:=fun j hj=>zCs fun hh=>hC (hh ▸ hj);have hfbC:∀j,C j->(fun k=>if k=i then w.heap.size else fb k) j=fb j:=fun j hj=>by have hji:j≠i:=fun hh=>hC (hh ▸ hj);simp[hji]
  have af:∀k,C k->¬L.testBit k=true->fb k<w.heap.size:=fun k hc hk=>by obtain⟨_,_,_,_,_,_,_,_,_,_,_,_,_,_,_,hwb,_⟩:=hI.frec k hc hk;exact zAy hwb
  refine hK _ _ (upd val i (vf w.heap.size)) (fun k=>if k=i then w.heap.size else fb k) ⟨hI.sat,hI.chk,hR',hI.ext.trans hE',hI.act,?_,?_,?_,?_,hI.clL,?_,?_,?_,?_,?_⟩
  ·exact hI.aaL.congr (fun _=>Iff.rfl) fun k hk=>(am k hk).symm
  ·exact hI.aaC.put hF ho hlt hC _
  ·have:(ag.put o.dst (vf w.heap.size)).defers=ag.defers:=by cases o.dst<;>rfl
   rw[this];exact hI.defs
  ·intro k j hk hp;rcases hk with hk|rfl
   ·exact .inl (hI.clC k j hk hp)
   ·exact .inl (hpr j hp)
  ·intro k s hk hc hs;exact hI.eff k s hk (fun hh=>hc (.inl hh)) hs
  ·intro k hc hk;rcases hc with hc|rfl
   ·exact hI.flo k hc hk
   ·exact hf
  ·intro k hk hc;have ab:k≠i:=fun hh=>hc (.inr hh);refine(hI.pend k hk (fun hh=>hc (.inl hh))).step (fun _ hj=>hj) am (zCs ab) fun b ver ob hb hm=>⟨⟨ob,hb,hm⟩,fun w2 hl b' hb' gi hg=>?_⟩;rw[hl b' hb' gi hg];cases hb';obtain⟨gi',aj,ob',ak,_⟩:=hI.rel.obj b ver ob hb;rw[hg] at aj;cases aj;exact zBi (zAy ak)
  ·intro k hc hk;by_cases ab:k=i
   ·subst ab;refine⟨o,C,val,ag,obj,vf,ho,hI.aaC,hI.clC,hpr,hC,fun j hj=>.inl hj,al,ao,?_,?_,?_,?_,?_⟩
    ·simp only[if_true];exact zGf
    ·simp only[if_true];exact zCl _ _
    ·simp only[if_true];exact hI.rel.size
    ·simp only[if_true];exact hI.ext.size
    ·simp only[if_true];intro id x gi hx hg hb;obtain⟨gi',aj,ob',ak,_⟩:=hI.rel.obj id x.1 x.2 hx;rw[hg] at aj;cases aj;have:=zAy ak;omega
   ·have ae:=hc.resolve_right ab;refine(hI.frec k ae hk).step (fun _ hj=>.inl hj) al (zCs ab) (hfbC k ae) (zBi (af k ae hk)) ?_;obtain⟨_,_,_,_,_,_,_,_,_,_,_,_,_,_,_,_,_,_,hun⟩:=hI.frec k ae hk;exact hun
  ·intro k k' hc hk ae hk' he;by_cases ab:k=i
   ·by_cases ac:k'=i
    ·rw[ab,ac]
    ·rw[if_pos ab,if_neg ac] at he;have:=af k' (ae.resolve_right ac) hk';omega
   ·rw[if_neg ab] at he;by_cases ac:k'=i
    ·rw[if_pos ac] at he;have:=af k (hc.resolve_right ab) hk;omega
    ·rw[if_neg ac] at he;exact hI.fdis k k' (hc.resolve_right ab) hk (ae.resolve_right ac) hk' he
 unfold wpOpIn;simp only[ho];have hgo:o.guard=none:=by
  cases hg:o.guard with
  |none=>rfl
  |some p=>
   rw[hg] at ah;obtain⟨j,b⟩:=p;have hgn':st.guard=none:=hgn;rw[hgn'] at ah;simp only[zIj] at ah;split at ah
   ·split at ah<;>cases ah
   ·cases ah
 have hw:Region.wanted o (yielded ops ag.tmps)=true:=by simp[Region.wanted,hgo]
 rw[hw,if_pos rfl];refine⟨fun _ _=>trivial,?_⟩;rw[Oper.semAt_eq _ _ _ hnd,ao w];exact aw
end
end Go.Ab
end
section
namespace Go.Ab
open Go.RowKit (Below)

theorem zHn{h:AHeap}{m:Nat}:∀{hs:List Held},zAJ h m hs=true->∀e∈hs,m.testBit e.i=true\/∃ob,h.objs.get e.id=some (e.ver,ob)
 |[],_,e,he=>by cases he
 |k::r,hh,e,he=>by
  simp only[zAJ,Bool.and_eq_true,Bool.or_eq_true] at hh;rcases List.mem_cons.1 he with rfl|he
  ·rcases hh.1 with h1|h1
   ·exact .inl h1
   ·split at h1
    ·rename_i v ob hg;have:=Nat.eq_of_beq_eq_true h1;subst this;exact .inr ⟨ob,hg⟩
    ·cases h1
  ·exact zHn hh.2 e he

theorem zLp{ro:Option Nat}{ρ ρ':Operand->Value}(o:Oper)(hs:∀cs b,o.op≠.select cs b)(h:∀x∈o.op.operands,ρ x=ρ' x):Oper.semAt ro ρ o=Oper.semAt ro ρ' o:=by
 by_cases hd:∃c,o.op=.defer c
 ·obtain⟨c,hc⟩:=hd;cases ro with
  |none=>rw[Oper.semAt_none,Oper.semAt_none];exact execOp_congr o hs h
  |some l=>
   have:=resolve_congr (ρ:=ρ) (ρ':=ρ') c o.type (fun x hx=>h x (by rw[hc];simpa[Op.operands] using hx));unfold Oper.semAt;rw[hc];simp only[this]
 ·have aa:∀c,o.op≠.defer c:=fun c hc=>hd ⟨c,hc⟩;rw[Oper.semAt_eq _ _ _ aa,Oper.semAt_eq _ _ _ aa];exact execOp_congr o hs h

theorem zPd{P:Program}{rv:Option Nat}{o:Oper}{ag agp:Act}{w:World}{next next':Act->World->Prop}{QQ:Exit->Act->World->Prop}(he:o.semAt rv ag.eval=o.semAt rv agp.eval)(hdef:ag.defers=agp.defers)
  (hn:∀ds v w',next' (({agp with defers:=ds}:Act).put o.dst v) w'->next (({ag with defers:=ds}:Act).put o.dst v) w') (h:o.wpIn (FR rv) 0 P agp w next' (fun _ _ _=>False)):o.wpIn (FR rv) 0 P ag w next QQ:=by
 have aa:∀v w',next' (agp.put o.dst v) w'->next (ag.put o.dst v) w':=fun v w' hh=>by have:=hn agp.defers v w' hh;rw[<-hdef] at this;exact this
 refine⟨fun _ _=>trivial,?_⟩;have hh:=h.2;have ac:o.semAt (FR rv).round ag.eval=o.semAt (FR rv).round agp.eval:=he;rw[ac];generalize (o.semAt (FR rv).round agp.eval).run P w=r at*;cases r with
 |ok x w'=>
  cases x<;>simp only[Oper.uponIn] at hh ⊢<;>first|exact hh.elim|skip
  case value v=>exact aa v w' hh
  case skip=>exact aa undef w' hh
  case defer d=>rw[hdef];exact hn _ _ w' hh
  case enter f args=>
   refine⟨hh.1,hh.2.mono fun e ab h2=>?_⟩;cases e with
   |returned v=>exact aa v ab h2
   |panicked c=>exact h2.elim
   |outgrown=>obtain⟨_,_,h3⟩:=h2;exact h3.elim
  case row r args=>exact⟨hh.1,hh.2.mono fun v ab h2=>aa v ab h2⟩
  case round l f tmps as bd=>
   refine⟨hh.1,hh.2.mono fun e ab h2=>?_⟩;cases e with
   |returned v=>exact aa v ab h2
   |panicked c=>exact h2.elim
   |outgrown=>obtain⟨_,_,h3⟩:=h2;exact h3.elim
 |halt x w'=>cases x<;>simp only[Oper.uponIn] at hh<;>exact hh.elim

section
variable{P:Program}{N:Nat}{w0:World}{S:Self}{ro rv:Option Nat}{ops:Array Oper}{l:List DStep}{fl M:Nat}{ag0:Act}{Gs:GM}{hs:AHeap}{ws:World}{Q:AAct×AHeap->Prop}
 {C:Nat->Prop} {L:Nat} {is:List Nat} {held:List Held} {a:AAct} {h:AHeap} {G:GM} {ag:Act} {w:World} {val:Nat->Value} {agp:Act} {fb:Nat->Nat}

theorem Inv.turn(hS:SelfOK P N w0 S)(hro:roR Gs ro rv)(hF:Fit P M ops l fl)(hsz:M<=ag0.tmps.size){i:Nat}(hI:Inv P N w0 S ro ops l fl M ag0 Gs hs ws Q C L (i::is) held a h G ag w val agp fb){o:Oper}(ho:ops[i]?=some o)(hC:¬C i)(hpr:∀j,Pr ops i j->C j)
  {s:DStep} (hsl:l[i]?=some s) (hE:isE s.st=true)
  {QQ:Exit->Act->World->Prop} {K:Act->World->Prop} (hK:∀held' ag' w' a' h' G' val' agp',Inv P N w0 S ro ops l fl M ag0 Gs hs ws Q (fun k=>C k\/k=i) (L|||2 ^ i) is held' a' h' G' ag' w' val' agp' fb->K ag' w'):wpOpIn (FR rv) 0 P ops QQ i K ag w:=by
 obtain⟨plan,hm,aa⟩:=hI.sat;obtain⟨y,zs,h1,h2,rfl⟩:=zBW hm;obtain⟨y0,m,h9,rfl,hmC⟩:=hF.closed h1;rw[hsl] at h9;cases h9;have hcl:∀t,TC (Pr ops) i t->C t:=fun t ht=>by
  induction ht with
  |base h=>exact hpr _ h
  |step _ h ih=>exact hI.clC _ _ ih h
 obtain⟨s',af,hchk⟩:=zDw (ops:=ops) hI.chk;have:s'=s:=Option.some.inj (af.get.symm.trans hsl);subst this;obtain⟨o',st,ak,hcs,rfl⟩:=hF.getI hsl;rw[ho] at ak;cases ak;obtain⟨ah,hgd,hop⟩:=zCh hcs;have hlt:∀t,o.dst=some t->t<ag0.tmps.size:=fun t ht=>Nat.lt_of_lt_of_le ((zDE ah).2 t ht) hsz;have hprL:∀j,Pr ops i j->L.testBit j=true:=fun j ⟨o',ak,hb⟩=>by rw[ho] at ak;cases ak;exact af.pred j hb
 have aj:∀t,t∈zFw ops.toList o->ag.tmps[t]?=agp.tmps[t]?:=fun t ht=>hI.aaC.look hF hI.aaL hI.clC hI.clL ho hC af.new hpr hprL (fun k hk=>rfl) ht;have fin:∀(held':List Held) (_:∀k b ver,¬C k->(⟨k,b,ver⟩:Held)∈held->(⟨k,b,ver⟩:Held)∈held') (ds:List Deferred) (cv:Value) (a1:AAct) (h1:AHeap) (G1:GM) (w1:World),(zCc S ro zs held' a1 h1).sat Q->Rel P N w0 G1 h1 w1->Ext G h w G1 h1 w1->ActR P G1 M a1 (({agp with defers:=ds}:Act).put o.dst cv) →
   (∀k b ver ob,¬C k->h.objs.get b=some (ver,ob)->(⟨k,b,ver⟩:Held)∈held->(∃ob',h1.objs.get b=some (ver,ob'))/\∀gi,G b=some gi->w1.heap[gi.blk]?=w.heap[gi.blk]?) →
   K (({ag with defers:=ds}:Act).put o.dst cv) w1:=by
  intro held' hsub ds cv a1 h1 G1 w1 hs1 al ac ha1 ad;have hvalL:∀j,L.testBit j=true->upd val i cv j=val j:=fun j hj=>zCs fun hh=>af.new (hh ▸ hj);have hvalC:∀j,C j->upd val i cv j=val j:=fun j hj=>zCs fun hh=>hC (hh ▸ hj);refine hK held' _ _ a1 h1 G1 (upd val i cv) (({agp with defers:=ds}:Act).put o.dst cv) ⟨⟨zs,h2,hs1⟩,hchk,al,hI.ext.trans ac,ha1,?_,?_,?_,?_,?_,?_,?_,?_,?_,?_⟩
  ·refine((hI.aaL.defers ds).put hF ho hlt af.new cv).congr (fun k=>?_) (fun _ _=>rfl);rw[zAe]
  ·exact(hI.aaC.defers ds).put hF ho hlt hC cv
  ·cases o.dst<;>rfl
  ·intro k j hk hp;rcases hk with hk|rfl
   ·exact .inl (hI.clC k j hk hp)
   ·exact .inl (hpr j hp)
  ·intro k j hk hp;rw[zAe] at hk ⊢;rcases hk with hk|rfl
   ·exact .inl (hI.clL k j hk hp)
   ·exact .inl (hprL j hp)
  ·intro k s2 hk hc hs2;rw[zAe] at hk;exact hI.eff k s2 (hk.resolve_right fun hh=>hc (.inr hh)) (fun hh=>hc (.inl hh)) hs2
  ·intro k hc hk;rw[zAe] at hk;exact hI.flo k (hc.resolve_right fun hh=>hk (.inr hh)) (fun hh=>hk (.inl hh))
  ·intro k hk hc;rw[zAe] at hk;have ae:k≠i:=fun hh=>hc (.inr hh);have ab:¬C k:=fun hh=>hc (.inl hh);refine(hI.pend k (hk.resolve_right ae) ab).step (fun j hj=>zAe.2 (.inl hj)) hvalL (zCs ae) fun b ver ob hb hm=>?_;obtain⟨⟨ob',h3⟩,h4⟩:=ad k b ver ob ab hb hm;refine⟨⟨ob',h3,hsub _ _ _ ab hm⟩,fun w2 hl b' hb' gi hg=>?_⟩;cases hb';rw[hl b rfl gi (ac.gle _ _ hg),h4 gi hg]
  ·intro k hc hk;have ae:k≠i:=fun hh=>hk (zAe.2 (.inr hh));have ai:¬L.testBit k=true:=fun hh=>hk (zAe.2 (.inl hh));have ab:=hc.resolve_right ae;have hfr:=hI.frec k ab ai;obtain⟨_,_,_,_,_,_,_,_,_,_,_,_,_,_,_,hwb,hNb,_,hun⟩:=hI.frec k ab ai;have hlt:=zAy hwb;refine hfr.step (fun _ hj=>.inl hj) hvalC (zCs ae) rfl (ac.frame _ hlt fun id x gi hx _ hg=>hun id x gi hx hg) fun id x gi hx hg hb=>?_;cases hr:x.2.ro with
   |true=>
    have:=al.rolow id x.1 x.2 gi hx hg hr;omega
   |false=>
    rcases ac.owned id x gi hx hr hg with h3|⟨id0,x0,gi0,h3,_,h5,h6⟩
    ·omega
    ·exact hun id0 x0 gi0 h3 h5 (h6.trans hb)
  ·intro k k' hc hk ab ai he;have ae:k≠i:=fun hh=>hk (zAe.2 (.inr hh));have hki':k'≠i:=fun hh=>ai (zAe.2 (.inr hh));exact hI.fdis k k' (hc.resolve_right ae) (fun hh=>hk (zAe.2 (.inl hh))) (ab.resolve_right hki') (fun hh=>ai (zAe.2 (.inl hh))) he
 unfold wpOpIn;simp only[ho];rw[zIa aj];simp only[zCc] at aa;split at aa
 ·rename_i hw;rw[zDD hI.act hgd hw,if_pos rfl];split at aa
  ·rename_i q hqq;unfold isE at hE;simp only at hE;rw[hqq] at hE;cases hE
  ·rename_i e he;have hce:cE P o.op=some e:=by
    rw[hop] at he;unfold cOp at he;split at he
    ·cases he
    ·split at he
     ·rename_i e' he';injection he with he;subst he;exact he'
     ·cases he
   rw[D.sat_bind] at aa;have hwp:=zMS hS (hro.mono hI.ext.gle) hI.rel hI.act ah hce aa (fun _ _ _=>False);have hag:({ag with defers:=ag.defers}:Act)=ag:=rfl;refine zPd (zLp o (fun cs b=>hF.nosel i o cs b ho) (zGN aj)) hI.defs (fun ds v w1 hp=>?_) hwp;obtain⟨a1,h1,G1,hq,al,ac,ha1⟩:=hp;simp only at hq;split at hq
   ·rename_i ad;refine fin (zGL m held) (fun k b ver hc hm=>zGU hm (by
     cases hz:m.testBit k with
     |false=>rfl
     |true=>exact absurd (hcl k (hmC k hz)) hc)) ds v a1 h1 G1 w1 hq al ac ha1 fun k b ver ob hc hb hm=>?_
    rcases zHn ad _ hm with h3|⟨ob',h3⟩
    ·exact absurd (hcl k (hmC k h3)) hc
    ·refine⟨⟨ob',h3⟩,fun gi hg=>?_⟩;rcases ac.same b ver ob' h3 with h4|⟨_,h5⟩
     ·have:=hI.rel.vers b ver ob hb;omega
     ·exact h5 gi hg
   ·cases hq
 ·rename_i hw;rw[zDD hI.act hgd hw];refine⟨fun _ _=>trivial,?_⟩;have:=fin held (fun _ _ _ _ hm=>hm) agp.defers undef _ h G w aa hI.rel (Ext.refl _ _ _) (hI.act.put ah ⟨#[],rfl,rfl⟩) (fun k b ver ob _ hb _=>⟨⟨ob,hb⟩,fun _ _=>rfl⟩);rw[<-hI.defs] at this;exact this
 ·cases aa

theorem Inv.adv(hF:Fit P M ops l fl)(hsz:M<=ag0.tmps.size){i:Nat}{o:Oper}(ho:ops[i]?=some o)(hC:¬C i)(hpr:∀j,Pr ops i j->C j)(hf:fl.testBit i=false):
  ∀{is:List Nat} {L:Nat} {held:List Held} {a:AAct} {h:AHeap} {G:GM} {val:Nat->Value} {agp:Act},Inv P N w0 S ro ops l fl M ag0 Gs hs ws Q C L is held a h G ag w val agp fb->¬L.testBit i=true →
   ∃L' is' held' a' h' G' val' agp',Inv P N w0 S ro ops l fl M ag0 Gs hs ws Q C L' is' held' a' h' G' ag w val' agp' fb/\(L'.testBit i=true\/∃r s,is'=i::r/\l[i]?=some s/\isE s.st=true)
 |[],L,held,a,h,G,val,agp,hI,hn=>by
  obtain⟨st,_,hli⟩:=hF.step i o ho;exact absurd (zJT hI.chk _ (List.mem_of_getElem? hli)) hn
 |j::r,L,held,a,h,G,val,agp,hI,hn=>by
  obtain⟨s,ac,hchk⟩:=zDw (ops:=ops) hI.chk;obtain⟨st,_,hli⟩:=hF.step i o ho;have ad:subM (zHJ o) (L|||upF fl L l)=true:=by
   rw[zKC];intro k hk;have hp:Pr ops i k:=⟨o,ho,hk⟩;rw[Nat.testBit_or,Bool.or_eq_true];by_cases af:L.testBit k=true
   ·exact .inl af
   ·right;have ae:=hI.flo k (hpr k hp) af;obtain⟨sk,h1,_⟩:=hF.floatS k ae;obtain⟨ok,stk,hok,_,rfl⟩:=hF.getI h1;refine zSl.2 ⟨_,List.mem_of_getElem? h1,rfl,ae,?_⟩;rw[zKC];intro k' hk';have ai:Pr ops k k':=⟨ok,hok,hk'⟩;have hc':=hI.clC k k' (hpr k hp) ai;cases hb:L.testBit k' with
    |true=>rfl
    |false=>
     have:=hI.flo k' hc' (by rw[hb];simp);rw[hF.floatP k k' ae ai] at this;cases this
  cases hE:isE s.st with
  |false=>
   obtain⟨held',a',val',agp',ab⟩:=hI.quiet hF hsz ac.get hE;by_cases ah:i=j
   ·exact⟨_,_,_,_,_,_,_,_,ab,.inl (zAe.2 (.inr ah))⟩
   ·exact adv hF hsz ho hC hpr hf ab fun hh=>by
     rw[zAe] at hh;rcases hh with hh|hh
     ·exact hn hh
     ·exact ah hh
  |true=>
   cases aa:fl.testBit j with
   |true=>
    have hcj:C j:=by have:=ac.flo aa _ (List.mem_of_getElem? hli) hf hn ad;exact hpr j ⟨o,ho,this⟩
    obtain⟨_,a',h',G',val',agp',ab⟩:=hI.commit hF hsz aa hcj;exact adv hF hsz ho hC hpr hf ab fun hh=>by
     rw[zAe] at hh;rcases hh with hh|hh
     ·exact hn hh
     ·rw[<-hh,hf] at aa;cases aa
   |false=>
    have hij:i=j:=ac.eff aa hE _ (List.mem_of_getElem? hli) hf hn ad;subst hij;exact⟨_,_,_,_,_,_,_,_,hI,.inr ⟨r,s,rfl,ac.get,hE⟩⟩

theorem Inv.done(hF:Fit P M ops l fl)(hsz:M<=ag0.tmps.size)(hall:∀i o,ops[i]?=some o->C i):
  ∀{is:List Nat} {L:Nat} {held:List Held} {a:AAct} {h:AHeap} {G:GM} {val:Nat->Value} {agp:Act},Inv P N w0 S ro ops l fl M ag0 Gs hs ws Q C L is held a h G ag w val agp fb->PostA P N w0 Gs hs ws M Q ag w
 |[],L,held,a,h,G,val,agp,hI=>by
  obtain⟨plan,hm,hsat⟩:=hI.sat;simp only[mapO,oI] at hm;subst hm;have hL:∀k o,ops[k]?=some o->L.testBit k=true:=fun k o ho=>by obtain⟨st,_,hli⟩:=hF.step k o ho;exact zJT hI.chk _ (List.mem_of_getElem? hli)
  have htm:ag.tmps=agp.tmps:=by apply Array.ext_getElem?;intro t;exact hI.aaC.same hI.aaL fun k o ho _=>⟨⟨fun _=>hL k o ho,fun _=>hall k o ho⟩,fun _=>rfl⟩
  have hagp:ag=agp:=by obtain⟨t,d⟩:=ag;obtain⟨t',d'⟩:=agp;have h1:=hI.defs;simp only at htm h1;rw[htm,h1]
  rw[hagp];exact⟨a,h,G,hsat,hI.rel,hI.ext,hI.act⟩
 |j::r,L,held,a,h,G,val,agp,hI=>by obtain⟨s,hck,_⟩:=zDw (ops:=ops) hI.chk;obtain⟨o,ho⟩:=hF.lookup j s hck.get;obtain⟨_,a',h',G',val',agp',hI'⟩:=hI.commit hF hsz (hI.flo j (hall j o ho) hck.new) (hall j o ho);exact done hF hsz hall hI'

def zEl:List Bool->Nat
 |[]=>0
 |false::r=>zEl r+1
 |true::r=>zEl r
theorem zIp:∀{l:List Bool} {i:Nat},l[i]?=some false->zEl l=zEl (l.set i true)+1
 |[],i,h=>by simp at h
 |b::r,0,h=>by simp at h;subst h;rfl
 |b::r,i+1,h=>by have:=zIp (l:=r) (i:=i) (by simpa using h);cases b<;>simp[zEl,this]
theorem zHj:∀{l:List Bool},zEl l=0->∀(i:Nat),l[i]?≠some false
 |[],_,i=>by simp
 |b::r,h,0=>by cases b<;>simp[zEl] at h ⊢
 |b::r,h,i+1=>by
  cases b with
  |false=>simp[zEl] at h
  |true=>simpa using zHj (l:=r) h i
theorem zEm:∀n,zEl (List.replicate n false)=n
 |0=>rfl
 |n+1=>by rw[List.replicate_succ];simp[zEl,zEm n]

theorem zOG(hS:SelfOK P N w0 S)(hro:roR Gs ro rv)(hF:Fit P M ops l fl)(hsz:M<=ag0.tmps.size){QQ:Exit->Act->World->Prop}(hQ:∀ag' w',PostA P N w0 Gs hs ws M Q ag' w'->QQ .normal ag' w'):
  ∀(fuel:Nat) {listed:Array Bool} {L:Nat} {is:List Nat} {held:List Held} {a:AAct} {h:AHeap} {G:GM} {ag:Act} {w:World} {val:Nat->Value} {agp:Act} {fb:Nat->Nat},
   Inv P N w0 S ro ops l fl M ag0 Gs hs ws Q (fun k=>listed.getD k false=true) L is held a h G ag w val agp fb->listed.size=ops.size->zEl listed.toList=fuel->wpAnyIn (FR rv) 0 P .any ops QQ fuel listed ag w:=by
 intro fuel;have stop:∀{listed:Array Bool},listed.size=ops.size->Region.ready .any ops listed=[]->∀i o,ops[i]?=some o->listed.getD i false=true:=by
  intro listed ac hr i;induction i using Nat.strongRecOn with
  |_ i ih=>
   intro o ho;cases hb:listed.getD i false with
   |true=>rfl
   |false=>
    have aa:i<listed.size:=by
     rw[ac];rcases Nat.lt_or_ge i ops.size with h|h
     ·exact h
     ·rw[Array.getElem?_eq_none h] at ho;cases ho
    have:i∈Region.ready .any ops listed:=by
     rw[mem_ready];refine⟨?_,o,ho,fun e he hbd=>?_⟩
     ·simp[aa] at hb ⊢;exact hb
     ·have hp:Pr ops i e.on:=⟨o,ho,zKs.2 ⟨e,he,hbd,rfl⟩⟩;have hlt':=hF.early i e.on hp;have:e.on<ops.size:=by omega
      exact ih e.on hlt' ops[e.on] (by simp[this])
    rw[hr] at this;cases this
 induction fuel with
 |zero=>
  intro listed L is held a h G ag w val agp fb hI ac hfz;have hr:Region.ready .any ops listed=[]:=by
   cases hr:Region.ready .any ops listed with
   |nil=>rfl
   |cons j r=>
    have hj:j∈Region.ready .any ops listed:=by rw[hr];exact List.mem_cons_self ..
    rw[mem_ready] at hj;obtain⟨hj0,o,ho,_⟩:=hj;have aa:j<listed.size:=by
     rcases Nat.lt_or_ge j listed.size with h|h
     ·exact h
     ·simp[Array.getElem?_eq_none h] at hj0
    have:listed.toList[j]?=some false:=by simp[aa] at hj0 ⊢;exact hj0
    exact absurd this (zHj hfz j)
  exact⟨hr,hQ _ _ (hI.done hF hsz (stop ac hr))⟩
 |succ fuel ih=>
  intro listed L is held a h G ag w val agp fb hI ac hfz;refine⟨fun hr=>hQ _ _ (hI.done hF hsz (stop ac hr)),fun i hi=>?_⟩;rw[mem_ready] at hi;obtain⟨ae,o,ho,hall⟩:=hi;have aa:i<listed.size:=by
   rcases Nat.lt_or_ge i listed.size with h|h
   ·exact h
   ·simp[Array.getElem?_eq_none h] at ae
  have hC:¬listed.getD i false=true:=by simp[aa] at ae ⊢;exact ae
  have hpr:∀j,Pr ops i j->listed.getD j false=true:=fun j ⟨o',ho',hb⟩=>by rw[ho] at ho';cases ho';obtain⟨e,he,hbd,rfl⟩:=zKs.1 hb;exact hall e he hbd
  have hCs:(fun k=>listed.getD k false=true\/k=i)=fun k=>(listed.setIfInBounds i true).getD k false=true:=by
   funext k;apply propext;by_cases hk:k=i
   ·subst hk;simp[aa]
   ·simp[hk,Array.getElem?_setIfInBounds_ne (Ne.symm hk)]
  have ad:zEl (listed.setIfInBounds i true).toList=fuel:=by
   have h1:listed.toList[i]?=some false:=by simp[aa] at ae ⊢;exact ae
   have h2:=zIp h1;rw[Array.toList_setIfInBounds];omega
  have af:(listed.setIfInBounds i true).size=ops.size:=by rw[Array.size_setIfInBounds];exact ac
  cases hf:fl.testBit i with
  |true=>exact hI.lay hF hsz ho hC hpr hf fun ag' w' val' fb' ab=>ih (hCs ▸ ab) af ad
  |false=>
   have late:∀{L:Nat} {is:List Nat} {held:List Held} {a:AAct} {h:AHeap} {G:GM} {val:Nat->Value} {agp:Act},Inv P N w0 S ro ops l fl M ag0 Gs hs ws Q (fun k=>listed.getD k false=true) L is held a h G ag w val agp fb->L.testBit i=true →
     wpOpIn (FR rv) 0 P ops QQ i (wpAnyIn (FR rv) 0 P .any ops QQ fuel (listed.setIfInBounds i true)) ag w:=fun hI2 hL=>hI2.late hF hsz ho hC hpr hL fun ag' ab=>ih (hCs ▸ ab) af ad
   by_cases hL:L.testBit i=true
   ·exact late hI hL
   ·obtain⟨L',is',held',a',h',G',val',agp',ab,hor⟩:=hI.adv hF hsz ho hC hpr hf hL;rcases hor with hL'|⟨r,s,rfl,hsl,hE⟩
    ·exact late ab hL'
    ·exact ab.turn hS hro hF hsz ho hC hpr hsl hE fun _ ag2 w2 a2 h2 G2 val2 agp2 hI2=>ih (hCs ▸ hI2) af ad

theorem zIm(hm:P.follows .mixedOrders=true)(hS:SelfOK P N w0 S):DrawOK P N w0 S:=by
 intro G h w a ag M ro rv aj hR ha id ops ae hp Q hs QQ hQ;obtain⟨l,fl,is,hF,ac,ad⟩:=zNG hp;refine wpIn_region_any hm ?_;have hw:({w with drawn:=w.drawn+1}:World)=w.drew:=rfl;rw[hw];have ai:=hR.drew;have ah:Ext G h w G h w.drew:=(Ext.refl G h w).drew;have aa:∀k,(Array.replicate ops.size false).getD k false=true↔False:=fun k=>by
  rw[Array.getD_eq_getD_getElem?];rcases Nat.lt_or_ge k ops.size with h|h
  ·simp[h]
  ·simp[h]
 refine zOG (Gs:=G) (hs:=h) (ws:=w.drew) (ag0:=ag) (Q:=Q) hS aj hF ha.size (fun af w' ab=>hQ af w' ?_) ops.size (L:=0) (is:=is) (held:=[]) (a:=a) (h:=h) (G:=G) (val:=fun _=>undef) (agp:=ag) (fb:=fun _=>0) ?_ (by simp) (by rw[Array.toList_replicate,zEm])
 ·obtain⟨a',h',G',h1,h2,h3,h4⟩:=ab;exact⟨a',h',G',h1,h2,ah.trans h3,h4⟩
 ·refine⟨⟨ae,ad,hs⟩,ac,ai,Ext.refl _ _ _,ha,?_,?_,rfl,?_,?_,?_,?_,?_,?_,?_⟩
  ·exact(AA.start (ops:=ops) (ag0:=ag) (val:=fun _=>undef)).congr (fun k=>by simp) (fun _ hh=>hh.elim)
  ·exact(AA.start (ops:=ops) (ag0:=ag) (val:=fun _=>undef)).congr (fun k=>(aa k).symm) (fun _ hh=>hh.elim)
  ·exact fun k j hk=>((aa k).1 hk).elim
  ·exact fun k j hk=>by simp at hk
  ·exact fun k s hk=>by simp at hk
  ·exact fun k hk=>((aa k).1 hk).elim
  ·exact fun k hk=>by simp at hk
  ·exact fun k hk=>((aa k).1 hk).elim
  ·exact fun k k' hk=>((aa k).1 hk).elim
end
end Go.Ab
end
section
namespace Go.Ab
open Go.RowKit (Below)

section
variable{P:Program}{fns:FnsT}{summ:SumT}

theorem zKR{N:Nat}{w0 w:World}{G:GM}{h:AHeap}{n:Nat}{f:FuncId}{args:List AVal}{argsV:Array Value}{Q:AVal×AHeap->Prop}(hm:P.follows .mixedOrders=true)(hF:FnsOK P fns)(hM:SummOK P N w0 summ)(hR:Rel P N w0 G h w)(hv:VsR P G args argsV.toList)
  (hs:((run fns summ n).call f args h).sat Q):Calls P f argsV w (PostC P N w0 G h w Q):=
 callsIn_wide.1 ((zLE hF hM (fun _ hS=>zIm hm hS) n).call f args h G w argsV Q hR hv hs)
end
end Go.Ab
end
section
namespace Go.Ab

inductive D.le {α:Type}:D α->D α->Prop
 |fail (d:D α):D.le .fail d
 |ret (a:α):D.le (.ret a) (.ret a)
 |ask (n:Nat) (k k':Nat->D α) (h:∀i,D.le (k i) (k' i)):D.le (.ask n k) (.ask n k')

namespace D
variable{α β:Type}
theorem le_refl:∀d:D α,d.le d
 | .fail=>.fail _
 | .ret a=>.ret a
 | .ask n k=>.ask n k k fun i=>le_refl (k i)
theorem le_trans{d d' d'':D α}(a:d.le d')(b:d'.le d''):d.le d'':=by
 induction a generalizing d'' with
 |fail=>exact .fail _
 |ret a=>exact b
 |ask n k k' _ ih=>cases b with |ask _ _ k'' h=>exact .ask n k k'' fun i=>ih i (h i)
theorem le_sat{d d':D α}(h:d.le d'):∀{Q:α->Prop},d.sat Q->d'.sat Q:=by
 induction h with
 |fail=>intro Q hs;cases hs
 |ret a=>intro Q hs;exact hs
 |ask n k k' _ ih=>intro Q hs;exact⟨hs.1,fun i hi=>ih i (hs.2 i hi)⟩
theorem le_bind{d d':D α}(h:d.le d'){f f':α->D β}(hf:∀a,(f a).le (f' a)):(d.bind f).le (d'.bind f'):=by
 induction h with
 |fail=>exact .fail _
 |ret a=>exact hf a
 |ask n k k' _ ih=>exact .ask n _ _ ih
end D

def Self.le(S S':Self):Prop:=(∀f args h,(S.call f args h).le (S'.call f args h))/\∀ro c a h,(S.code ro c a h).le (S'.code ro c a h)

section
variable{S S':Self}(hS:S.le S')
include hS

theorem zPI(l:Nat)(args:List AVal)(h:AHeap):(zIM S l args h).le (zIM S' l args h):=by
 unfold zIM;split
 ·split
  ·refine D.le_bind (hS.2 _ _ _ _) fun p=>?_;split
   ·exact D.le_bind (hS.2 _ _ _ _) fun p=>D.le_refl _
   ·exact .fail _
  ·exact .fail _
 ·exact .fail _

theorem zKP(f:AVal)(args:List AVal)(h:AHeap):(zHA S f args h).le (zHA S' f args h):=by
 unfold zHA;split
 ·exact hS.1 _ _ _
 ·exact zPI hS _ _ _
 ·exact .fail _

theorem zRw(ro:Option Nat)(a:AAct)(h:AHeap)(dst:Option Tmp)(op:EOp):(eA S ro a h dst op).le (eA S' ro a h dst op):=by
 unfold eA;split
 ·split
  ·exact D.le_bind (zKP hS _ _ _) fun p=>D.le_refl _
  ·exact .fail _
 ·exact D.le_refl _
 ·exact D.le_refl _

theorem zMv(ro:Option Nat)(a:AAct)(h:AHeap)(s:Step):(zFc S ro a h s).le (zFc S' ro a h s):=by
 unfold zFc;split
 ·split
  ·exact D.le_refl _
  ·exact zRw hS _ _ _ _ _
 ·exact D.le_refl _
 ·exact .fail _

theorem zIU(ro:Option Nat):∀(l:List Step) (a:AAct) (h:AHeap),(zGe S ro l a h).le (zGe S' ro l a h)
 |[],_,_=>D.le_refl _
 |s::r,a,h=>D.le_bind (zMv hS ro a h s) fun _=>zIU ro r _ _

theorem zFK(ro:Option Nat):∀(l:List DStep) (hs:List Held) (a:AAct) (h:AHeap),(zCc S ro l hs a h).le (zCc S' ro l hs a h)
 |[],_,_,_=>D.le_refl _
 |s::r,hs,a,h=>by
  unfold zCc;split
  ·split
   ·split
    ·exact zFK ro r _ _ _
    ·split
     ·exact zFK ro r _ _ _
     ·exact .fail _
    ·exact .fail _
   ·refine D.le_bind (zRw hS _ _ _ _ _) fun p=>?_;split
    ·exact zFK ro r _ _ _
    ·exact .fail _
  ·exact zFK ro r _ _ _
  ·exact .fail _

theorem zCW(ro:Option Nat):∀(c:ACode) (a:AAct) (h:AHeap),(zCb S ro c a h).le (zCb S' ro c a h)
 | .skip,_,_=>D.le_refl _
 | .ops l,a,h=>D.le_bind (zIU hS ro l a h) fun _=>D.le_refl _
 | .draw l,a,h=>D.le_bind (zFK hS ro l [] a h) fun _=>D.le_refl _
 | .seq x y,a,h=>by
  refine D.le_bind (zCW ro x a h) fun p=>?_;split
  ·exact zCW ro y _ _
  ·exact D.le_refl _
 | .cond c x y,a,h=>by
  unfold zCb;split
  ·exact zCW ro x _ _
  ·exact zCW ro y _ _
  ·exact .fail _
 | .block id c,a,h=>D.le_bind (zCW ro c a h) fun _=>D.le_refl _
 | .loop c,a,h=>by
  refine D.le_bind (zCW ro c a h) fun p=>?_;split
  ·exact hS.2 _ _ _ _
  ·exact D.le_refl _
 | .exit id,_,_=>D.le_refl _
 | .ret,_,_=>D.le_refl _
 | .rangeF f ps assign body,a,h=>by
  unfold zCb;split
  ·exact D.le_bind (hS.1 _ _ _) fun p=>D.le_refl _
  ·exact .fail _
end

section
variable{fns:FnsT}{summ:SumT}{S S':Self}(hS:S.le S')
include hS

theorem zQA(f:FuncId)(args:List AVal)(h:AHeap):(zNH fns S f args h).le (zNH fns S' f args h):=by
 unfold zNH;split
 ·split
  ·exact D.le_bind (hS.2 _ _ _ _) fun p=>D.le_refl _
  ·exact .fail _
 ·exact .fail _

theorem zGR:∀(ds:List ADef) (h:AHeap),(zED fns S ds h).le (zED fns S' ds h)
 |[],_=>D.le_refl _
 | .collected r::ds,h=>by
  unfold zED;split
  ·exact zGR ds _
  ·exact .fail _
 | .fn f args::ds,h=>D.le_bind (zQA hS f args h) fun _=>zGR ds _

theorem zPs(f:FuncId)(args:List AVal)(h:AHeap):(zId fns summ S f args h).le (zId fns summ S' f args h):=by
 unfold zId;split
 ·exact D.le_refl _
 ·split
  ·split
   ·refine D.le_bind (hS.2 _ _ _ _) fun p=>?_;split
    ·exact .fail _
    ·exact D.le_bind (zGR hS _ _) fun _=>D.le_refl _
   ·exact .fail _
  ·exact .fail _
end

theorem Self.le_refl(S:Self):S.le S:=⟨fun _ _ _=>D.le_refl _,fun _ _ _ _=>D.le_refl _⟩

section
variable(fns:FnsT)(summ:SumT)

theorem zHV:∀n,(run fns summ n).le (run fns summ (n+1))
 |0=>⟨fun _ _ _=>.fail _,fun _ _ _ _=>.fail _⟩
 |n+1=>⟨fun f args h=>zPs (zHV n) f args h,fun ro c a h=>zCW (zHV n) ro c a h⟩

theorem zEL{n m:Nat}(h:n<=m):(run fns summ n).le (run fns summ m):=by
 induction h with
 |refl=>exact Self.le_refl _
 |step _ ih=>exact⟨fun f args h=>D.le_trans (ih.1 f args h) ((zHV fns summ _).1 f args h),fun ro c a h=>D.le_trans (ih.2 ro c a h) ((zHV fns summ _).2 ro c a h)⟩
end

def Ev{α:Type}(d:Nat->D α)(Q:α->Prop):Prop:=∃n,∀m,n<=m->(d m).sat Q

theorem Ev.mono{α:Type}{d:Nat->D α}{Q Q':α->Prop}(h:Ev d Q)(hq:∀a,Q a->Q' a):Ev d Q':=h.imp fun _ hn m hm=>D.sat_mono (hn m hm) hq

theorem zRh{α β:Type}{f:Nat->α->D β}{Q:β->Prop}:∀{d:D α},d.sat (fun a=>Ev (f · a) Q)->∃n,∀m,n<=m->d.sat fun a=>(f m a).sat Q
 | .ret a,h=>h
 | .fail,h=>h.elim
 | .ask n k,h=>by
  have:=fun i hi=>zRh (h.2 i hi);have:∀j,j<=n->∃b,∀m,b<=m->∀i,i<j->(k i).sat fun a=>(f m a).sat Q:=by
   intro j;induction j with
   |zero=>intro _;exact⟨0,fun _ _ i hi=>absurd hi (Nat.not_lt_zero i)⟩
   |succ j ih=>
    intro hj;obtain⟨b,hb⟩:=ih (by omega);obtain⟨c,hc⟩:=this j (by omega);refine⟨b+c,fun m hm i hi=>?_⟩;rcases Nat.lt_or_ge i j with h1|h1
    ·exact hb m (by omega) i h1
    ·have:i=j:=by omega
     subst this;exact hc m (by omega)
  obtain⟨b,hb⟩:=this n (Nat.le_refl n);exact⟨b,fun m hm=>⟨h.1,fun i hi=>hb m hm i hi⟩⟩

theorem Ev.bind{α β:Type}{d:Nat->D α}{f:Nat->α->D β}{Q:β->Prop}(hd:∀n m,n<=m->(d n).le (d m))(h:Ev d fun a=>Ev (f · a) Q):Ev (fun n=>(d n).bind (f n)) Q:=by obtain⟨n,hn⟩:=h;obtain⟨b,hb⟩:=zRh (hn n (Nat.le_refl n));refine⟨n+b,fun m hm=>?_⟩;rw[D.sat_bind];exact D.le_sat (hd n m (by omega)) (hb m (by omega))

section
variable(fns:FnsT)(summ:SumT)
def CallW(f:FuncId)(args:List AVal)(h:AHeap)(Q:AVal×AHeap->Prop):Prop:=Ev (fun n=>(run fns summ n).call f args h) Q
def CodeW(ro:Option Nat)(c:ACode)(a:AAct)(h:AHeap)(Q:AExit×AAct×AHeap->Prop):Prop:=Ev (fun n=>zCb (run fns summ n) ro c a h) Q
def StepsW(ro:Option Nat)(l:List Step)(a:AAct)(h:AHeap)(Q:AAct×AHeap->Prop):Prop:=Ev (fun n=>zGe (run fns summ n) ro l a h) Q
def StepW(ro:Option Nat)(s:Step)(a:AAct)(h:AHeap)(Q:AAct×AHeap->Prop):Prop:=Ev (fun n=>zFc (run fns summ n) ro a h s) Q
def DrawW(ro:Option Nat)(l:List DStep)(hs:List Held)(a:AAct)(h:AHeap)(Q:AAct×AHeap->Prop):Prop:=Ev (fun n=>zCc (run fns summ n) ro l hs a h) Q
def CallVW(f:AVal)(args:List AVal)(h:AHeap)(Q:AVal×AHeap->Prop):Prop:=Ev (fun n=>zHA (run fns summ n) f args h) Q
def EW(ro:Option Nat)(a:AAct)(h:AHeap)(dst:Option Tmp)(op:EOp)(Q:AAct×AHeap->Prop):Prop:=Ev (fun n=>eA (run fns summ n) ro a h dst op) Q
end
end Go.Ab
end
