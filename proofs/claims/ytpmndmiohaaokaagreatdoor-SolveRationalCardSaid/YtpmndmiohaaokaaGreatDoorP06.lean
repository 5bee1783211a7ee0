import Derived.Test.YtpmndmiohaaokaaGreatDoorP04
import Derived.Test.YtpmndmiohaaokaaGreatDoorP05
/-
  Part 6 of the proof.
-/
set_option linter.all false
section
namespace Go.Ab
open Go.RowKit (Below)

section
variable {P : Program} {N : Nat} {w0 : World} {S : Self} {ro rv : Option Nat} {ops : Array Oper} {l : List DStep} {fl M : Nat} {ag0 : Act} {Gs : GM} {hs : AHeap} {ws : World} {Q : AAct × AHeap -> Prop}
 {C : Nat -> Prop} {L : Nat} {is : List Nat} {held : List Held} {a : AAct} {h : AHeap} {G : GM} {ag : Act} {w : World} {val : Nat -> Value} {agp : Act} {fb : Nat -> Nat}

theorem Inv.commit (hF : Fit P M ops l fl) (hsz : M <= ag0.tmps.size) {i : Nat} (hI : Inv P N w0 S ro ops l fl M ag0 Gs hs ws Q C L (i :: is) held a h G ag w val agp fb) (hf : fl.testBit i = true) (hC : C i) :
  ∃ held' a' h' G' val' agp', Inv P N w0 S ro ops l fl M ag0 Gs hs ws Q C (L ||| 2 ^ i) is held' a' h' G' ag w val' agp' fb := by
 obtain ⟨plan, hm, hsat⟩ := hI.sat
 obtain ⟨y, zs, h1, h2, rfl⟩ := zBX hm
 obtain ⟨s, hck, hchk⟩ := zED (ops := ops) hI.chk
 have hsl := hck.get
 obtain ⟨y0, m, h9, rfl, hmC⟩ := hF.closed h1
 have hcl9 : ∀ t, TC (Pr ops) i t -> C t := fun t ht => by
  induction ht with
  | base h => exact hI.clC _ _ hC h
  | step _ h ih => exact hI.clC _ _ ih h
 have : y0 = s := Option.some.inj (h9.symm.trans hsl)
 subst this
 obtain ⟨o, st, ho, hcs, rfl⟩ := hF.getI hsl
 obtain ⟨hdst, hgd, hop⟩ := zCj hcs
 have hlt : ∀ t, o.dst = some t -> t < ag0.tmps.size := fun t ht => Nat.lt_of_lt_of_le ((zDL hdst).2 t ht) hsz
 obtain ⟨s2, h3, hal⟩ := hF.floatS i hf
 rw [hsl] at h3; cases h3
 obtain ⟨hE, hgn, e, hse, halE⟩ := zJa hal
 have hpr : ∀ j, Pr ops i j -> L.testBit j = true := fun j ⟨o', ho', hb⟩ => by
  rw [ho] at ho'; cases ho'
  exact hck.pred j hb
 have hce : cE P o.op = some e := by
  have hse' : st.op = .e e := hse
  rw [hop] at hse'
  unfold cOp at hse'
  split at hse'
  ·cases hse'
  ·split at hse'
   ·rename_i e' he'; injection hse' with hse'; subst hse'; exact he'
   ·cases hse'
 have hgn' : st.guard = none := hgn
 have hse' : st.op = .e e := hse
 simp only [zCf, hgn', zDY, hse'] at hsat
 rw [eA_al halE, D.sat_bind, D.sat_bind] at hsat
 obtain ⟨obj, vf, v, h', hfo, hq, had⟩ := zMC (N := N) (w0 := w0) (Gs := Gs) (hs := hs) (ws := ws) hI.rel.glob hI.act hce hse hal hsat
 obtain ⟨o', Ck, valk, agk, obj', vf', ho', haa, hcl, hpk, hnk, hCk, hvk, hfo', hvb, hwb, hNb, hsb, hun⟩ := hI.frec i hC hck.new
 rw [ho] at ho'; cases ho'
 have hlook : ∀ t, t ∈ zGA ops.toList o -> agp.tmps[t]? = agk.tmps[t]? := fun t ht => hI.aaL.look hF haa hI.clL hcl ho hck.new hnk hpr hpk (fun k hk => hvk k (hpk k hk)) ht
 have hfo2 : FO P o agp.eval obj' vf' := hfo'.congr (fun cs b => hF.nosel i o cs b ho) (fun x hx => (zGO hlook x hx).symm)
 obtain ⟨rfl, hvf⟩ := hfo.unique hfo2
 obtain ⟨G', hR', hE', hg', hv', hkeep, hfrom⟩ := had (w := w) (fb i) hI.rel hI.ext hwb hNb hsb hun
 have hvi : VR P G' v (val i) := by rw [hvb, <- hvf]; exact hv'
 simp only [D.sat_ret] at hq
 split at hq
 ·refine ⟨zGM m held, putA a st.dst v, h', G', val, agp.put o.dst (val i), ⟨⟨zs, h2, hq⟩, hchk, hR', hE', (hI.act.mono hg').put hdst hvi, ?_, hI.aaC, ?_, hI.clC, ?_, ?_, ?_, ?_, ?_, ?_⟩⟩
  ·refine (hI.aaL.put hF ho hlt hck.new (val i)).congr (fun k => ?_) (fun k _ => ?_)
   ·rw [zAj]
   ·by_cases hki : k = i
    ·subst hki; exact zGg
    ·exact zDB hki
  ·have : (agp.put o.dst (val i)).defers = agp.defers := by cases o.dst <;> rfl
   rw [this]; exact hI.defs
  ·intro k j hk hp
   rw [zAj] at hk ⊢
   rcases hk with hk | rfl
   ·exact .inl (hI.clL k j hk hp)
   ·exact .inl (hpr j hp)
  ·intro k s2 hk hc hs2
   rw [zAj] at hk
   rcases hk with hk | rfl
   ·exact hI.eff k s2 hk hc hs2
   ·exact absurd hC hc
  ·intro k hc hk
   exact hI.flo k hc fun hh => hk (zAj.2 (.inl hh))
  ·intro k hk hc
   have hk' : L.testBit k = true := by
    rw [zAj] at hk
    rcases hk with hk | rfl
    ·exact hk
    ·exact absurd hC hc
   refine (hI.pend k hk' hc).step (fun j hj => zAj.2 (.inl hj)) (fun _ _ => rfl) rfl fun b ver ob hb hm => ⟨⟨ob, hkeep _ _ hb, zGW hm (by
    cases hz : m.testBit k with
    | false => rfl
    | true => exact absurd (hcl9 k (hmC k hz)) hc)⟩, fun w2 hl b' hb' gi hg => hl b' hb' gi (hg' _ _ hg)⟩
  ·intro k hc hk
   have hk' : ¬ L.testBit k = true := fun hh => hk (zAj.2 (.inl hh))
   have hki : k ≠ i := fun hh => hk (zAj.2 (.inr hh))
   refine (hI.frec k hc hk').step (fun _ hj => hj) (fun _ _ => rfl) rfl rfl rfl fun id x gi hx hg => ?_
   rcases hfrom id x gi hx hg with hh | ⟨hx', hg2⟩
   ·rw [hh]
    exact fun hbb => hki (hI.fdis k i hc hk' hC hck.new hbb.symm)
   ·obtain ⟨_, _, _, _, _, _, _, _, _, _, _, _, _, _, _, _, _, _, hun2⟩ := hI.frec k hc hk'
    exact hun2 id x gi hx' hg2
  ·intro k k' hc hk hc' hk' he
   exact hI.fdis k k' hc (fun hh => hk (zAj.2 (.inl hh))) hc' (fun hh => hk' (zAj.2 (.inl hh))) he
 ·cases hq

theorem Inv.late (hF : Fit P M ops l fl) (hsz : M <= ag0.tmps.size) (hI : Inv P N w0 S ro ops l fl M ag0 Gs hs ws Q C L is held a h G ag w val agp fb) {i : Nat} {o : Oper} (ho : ops[i]? = some o) (hC : ¬ C i) (hpr : ∀ j, Pr ops i j -> C j) (hL : L.testBit i = true)
  {QQ : Exit -> Act -> World -> Prop} {K : Act -> World -> Prop} (hK : ∀ ag', Inv P N w0 S ro ops l fl M ag0 Gs hs ws Q (fun k => C k \/ k = i) L is held a h G ag' w val agp fb -> K ag' w) : wpOpIn (FR rv) 0 P ops QQ i K ag w := by
 obtain ⟨st, hcs, hli⟩ := hF.step i o ho
 obtain ⟨hdst, hgd, hop⟩ := zCj hcs
 have hlt : ∀ t, o.dst = some t -> t < ag0.tmps.size := fun t ht => Nat.lt_of_lt_of_le ((zDL hdst).2 t ht) hsz
 obtain ⟨o', Lk, valk, agk, ho', haa, hcl, hpk, hnk, hLk, hvk, hcase⟩ := hI.pend i hL hC
 rw [ho] at ho'; cases ho'
 have hlook : ∀ t, t ∈ zGA ops.toList o -> ag.tmps[t]? = agk.tmps[t]? := fun t ht => hI.aaC.look hF haa hI.clC hcl ho hC hnk hpr hpk (fun k hk => hvk k (hpk k hk)) ht
 have hnext : K (ag.put o.dst (val i)) w := by
  refine hK _ ⟨hI.sat, hI.chk, hI.rel, hI.ext, hI.act, hI.aaL, ?_, ?_, ?_, hI.clL, ?_, ?_, ?_, ?_, ?_⟩
  ·refine (hI.aaC.put hF ho hlt hC (val i)).congr (fun _ => Iff.rfl) (fun k _ => ?_)
   by_cases hki : k = i
   ·subst hki; exact zGg
   ·exact zDB hki
  ·have : (ag.put o.dst (val i)).defers = ag.defers := by cases o.dst <;> rfl
   rw [this]; exact hI.defs
  ·intro k j hk hp
   rcases hk with hk | rfl
   ·exact .inl (hI.clC k j hk hp)
   ·exact .inl (hpr j hp)
  ·intro k s hk hc hs
   exact hI.eff k s hk (fun hh => hc (.inl hh)) hs
  ·intro k hc hk
   rcases hc with hc | rfl
   ·exact hI.flo k hc hk
   ·exact absurd hL hk
  ·intro k hk hc
   exact hI.pend k hk (fun hh => hc (.inl hh))
  ·intro k hc hk
   rcases hc with hc | rfl
   ·obtain ⟨o2, Ck, valk2, agk2, obj, vf, h1, h2, h3, h4, h5, h6, h7⟩ := hI.frec k hc hk
    exact ⟨o2, Ck, valk2, agk2, obj, vf, h1, h2, h3, h4, h5, fun j hj => .inl (h6 j hj), h7⟩
   ·exact absurd hL hk
  ·intro k k' hc hk hc' hk' he
   rcases hc with hc | rfl
   ·rcases hc' with hc' | rfl
    ·exact hI.fdis k k' hc hk hc' hk' he
    ·exact absurd hL hk'
   ·exact absurd hL hk
 unfold wpOpIn
 simp only [ho]
 rw [zIW hlook]
 rcases hcase with ⟨hw, hv⟩ | ⟨hw, hnd, id, hrun, _⟩
 ·rw [hw]
  rw [hv] at hnext
  exact ⟨fun _ _ => trivial, hnext⟩
 ·rw [hw, if_pos rfl]
  refine ⟨fun _ _ => trivial, ?_⟩
  rw [Oper.semAt_eq _ _ _ hnd, execOp_congr o (fun cs b => hF.nosel i o cs b ho) (zGO hlook), hrun w (fun _ _ _ _ => rfl)]
  exact hnext

theorem Inv.lay (hF : Fit P M ops l fl) (hsz : M <= ag0.tmps.size) (hI : Inv P N w0 S ro ops l fl M ag0 Gs hs ws Q C L is held a h G ag w val agp fb) {i : Nat} {o : Oper} (ho : ops[i]? = some o) (hC : ¬ C i) (hpr : ∀ j, Pr ops i j -> C j) (hf : fl.testBit i = true)
  {QQ : Exit -> Act -> World -> Prop} {K : Act -> World -> Prop} (hK : ∀ ag' w' val' fb', Inv P N w0 S ro ops l fl M ag0 Gs hs ws Q (fun k => C k \/ k = i) L is held a h G ag' w' val' agp fb' -> K ag' w') : wpOpIn (FR rv) 0 P ops QQ i K ag w := by
 obtain ⟨st, hcs, hli⟩ := hF.step i o ho
 obtain ⟨hdst, hgd, hop⟩ := zCj hcs
 have hlt : ∀ t, o.dst = some t -> t < ag0.tmps.size := fun t ht => Nat.lt_of_lt_of_le ((zDL hdst).2 t ht) hsz
 obtain ⟨s2, h3, hal⟩ := hF.floatS i hf
 have hli' := hli
 rw [hli] at h3; cases h3
 obtain ⟨hE, hgn, e, hse, halE⟩ := zJa hal
 have hnL : ¬ L.testBit i = true := fun hh => by
  have := hI.eff i _ hh hC hli
  simp only at this hE
  rw [hE] at this; cases this
 have hprL : ∀ j, Pr ops i j -> L.testBit j = true := fun j hj => by
  have h4 := hF.floatP i j hf hj
  cases hb : L.testBit j with
  | true => rfl
  | false =>
   have := hI.flo j (hpr j hj) (by rw [hb]; simp)
   rw [h4] at this; cases this
 have hce : cE P o.op = some e := by
  have hse' : st.op = .e e := hse
  rw [hop] at hse'
  unfold cOp at hse'
  split at hse'
  ·cases hse'
  ·split at hse'
   ·rename_i e' he'; injection hse' with hse'; subst hse'; exact he'
   ·cases hse'
 obtain ⟨plan, hm, hsat⟩ := hI.sat
 obtain ⟨a', h', hag, hta⟩ := ahead hF ho hli hse hgn halE hI.chk hm hsat hnL hprL
 have hta' := zLh (h := h) hce halE hag hta
 obtain ⟨obj, vf, v, h'', hfo, _, _⟩ := zMC (N := N) (w0 := w0) (Gs := Gs) (hs := hs) (ws := ws) hI.rel.glob hI.act hce hse hal hta'
 have hlook : ∀ t, t ∈ zGA ops.toList o -> agp.tmps[t]? = ag.tmps[t]? := fun t ht => hI.aaL.look hF hI.aaC hI.clL hI.clC ho hnL hC hprL hpr (fun k hk => rfl) ht
 have hfo2 : FO P o ag.eval obj vf := hfo.congr (fun cs b => hF.nosel i o cs b ho) (zGO hlook)
 have hnd : ∀ c, o.op ≠ .defer c := fun c hc => by
  rw [hc] at hce
  simp only [cE] at hce
  split at hce
  ·split at hce
   ·simp only [oI] at hce; subst hce; cases halE
   ·cases hce
  ·cases hce
 obtain ⟨hR', hE'⟩ := hI.rel.extra (w' := w.alloc obj) (fun b hb => zBo hb) ((Below.refl N w).alloc hI.rel.size _)
 have hnext : K (ag.put o.dst (vf w.heap.size)) (w.alloc obj) := by
  have hvalL : ∀ j, L.testBit j = true -> upd val i (vf w.heap.size) j = val j := fun j hj => zDB fun hh => hnL (hh ▸ hj)
  have hvalC : ∀ j, C j -> upd val i (vf w.heap.size) j = val j := fun j hj => zDB fun hh => hC (hh ▸ hj)
  have hfbC : ∀ j, C j -> (fun k => if k = i then w.heap.size else fb k) j = fb j := fun j hj => by
   have hji : j ≠ i := fun hh => hC (hh ▸ hj)
   simp [hji]
  have hfblt : ∀ k, C k -> ¬ L.testBit k = true -> fb k < w.heap.size := fun k hc hk => by
   obtain ⟨_, _, _, _, _, _, _, _, _, _, _, _, _, _, _, hwb, _⟩ := hI.frec k hc hk
   exact zAs hwb
  refine hK _ _ (upd val i (vf w.heap.size)) (fun k => if k = i then w.heap.size else fb k) ⟨hI.sat, hI.chk, hR', hI.ext.trans hE', hI.act, ?_, ?_, ?_, ?_, hI.clL, ?_, ?_, ?_, ?_, ?_⟩
  ·exact hI.aaL.congr (fun _ => Iff.rfl) fun k hk => (hvalL k hk).symm
  ·exact hI.aaC.put hF ho hlt hC _
  ·have : (ag.put o.dst (vf w.heap.size)).defers = ag.defers := by cases o.dst <;> rfl
   rw [this]; exact hI.defs
  ·intro k j hk hp
   rcases hk with hk | rfl
   ·exact .inl (hI.clC k j hk hp)
   ·exact .inl (hpr j hp)
  ·intro k s hk hc hs
   exact hI.eff k s hk (fun hh => hc (.inl hh)) hs
  ·intro k hc hk
   rcases hc with hc | rfl
   ·exact hI.flo k hc hk
   ·exact hf
  ·intro k hk hc
   have hki : k ≠ i := fun hh => hc (.inr hh)
   refine (hI.pend k hk (fun hh => hc (.inl hh))).step (fun _ hj => hj) hvalL (zDB hki) fun b ver ob hb hm => ⟨⟨ob, hb, hm⟩, fun w2 hl b' hb' gi hg => ?_⟩
   rw [hl b' hb' gi hg]
   cases hb'
   obtain ⟨gi', hg', ob', hob', _⟩ := hI.rel.obj b ver ob hb
   rw [hg] at hg'; cases hg'
   exact zBo (zAs hob')
  ·intro k hc hk
   by_cases hki : k = i
   ·subst hki
    refine ⟨o, C, val, ag, obj, vf, ho, hI.aaC, hI.clC, hpr, hC, fun j hj => .inl hj, hvalC, hfo2, ?_, ?_, ?_, ?_, ?_⟩
    ·simp only [if_true]; exact zGg
    ·simp only [if_true]; exact zCp _ _
    ·simp only [if_true]; exact hI.rel.size
    ·simp only [if_true]; exact hI.ext.size
    ·simp only [if_true]
     intro id x gi hx hg hb
     obtain ⟨gi', hg', ob', hob', _⟩ := hI.rel.obj id x.1 x.2 hx
     rw [hg] at hg'; cases hg'
     have := zAs hob'
     omega
   ·have hc' := hc.resolve_right hki
    refine (hI.frec k hc' hk).step (fun _ hj => .inl hj) hvalC (zDB hki) (hfbC k hc') (zBo (hfblt k hc' hk)) ?_
    obtain ⟨_, _, _, _, _, _, _, _, _, _, _, _, _, _, _, _, _, _, hun⟩ := hI.frec k hc' hk
    exact hun
  ·intro k k' hc hk hc' hk' he
   by_cases hki : k = i
   ·by_cases hki' : k' = i
    ·rw [hki, hki']
    ·rw [if_pos hki, if_neg hki'] at he
     have := hfblt k' (hc'.resolve_right hki') hk'
     omega
   ·rw [if_neg hki] at he
    by_cases hki' : k' = i
    ·rw [if_pos hki'] at he
     have := hfblt k (hc.resolve_right hki) hk
     omega
    ·rw [if_neg hki'] at he
     exact hI.fdis k k' (hc.resolve_right hki) hk (hc'.resolve_right hki') hk' he
 unfold wpOpIn
 simp only [ho]
 have hgo : o.guard = none := by
  cases hg : o.guard with
  | none => rfl
  | some p =>
   rw [hg] at hgd
   obtain ⟨j, b⟩ := p
   have hgn' : st.guard = none := hgn
   rw [hgn'] at hgd
   simp only [zIh] at hgd
   split at hgd
   ·split at hgd <;> cases hgd
   ·cases hgd
 have hw : Region.wanted o (yielded ops ag.tmps) = true := by simp [Region.wanted, hgo]
 rw [hw, if_pos rfl]
 refine ⟨fun _ _ => trivial, ?_⟩
 rw [Oper.semAt_eq _ _ _ hnd, hfo2 w]
 exact hnext
end
end Go.Ab
end
section
namespace Go.Ab
open Go.RowKit (Below)

theorem zHk {h : AHeap} {m : Nat} : ∀ {hs : List Held}, zAf h m hs = true -> ∀ e ∈ hs, m.testBit e.i = true \/ ∃ ob, h.objs.get e.id = some (e.ver, ob)
 | [], _, e, he => by cases he
 | k :: r, hh, e, he => by
  simp only [zAf, Bool.and_eq_true, Bool.or_eq_true] at hh
  rcases List.mem_cons.1 he with rfl | he
  ·rcases hh.1 with h1 | h1
   ·exact .inl h1
   ·split at h1
    ·rename_i v ob hg
     have := Nat.eq_of_beq_eq_true h1
     subst this
     exact .inr ⟨ob, hg⟩
    ·cases h1
  ·exact zHk hh.2 e he

theorem zLY {ro : Option Nat} {ρ ρ' : Operand -> Value} (o : Oper) (hs : ∀ cs b, o.op ≠ .select cs b) (h : ∀ x ∈ o.op.operands, ρ x = ρ' x) : Oper.semAt ro ρ o = Oper.semAt ro ρ' o := by
 by_cases hd : ∃ c, o.op = .defer c
 ·obtain ⟨c, hc⟩ := hd
  cases ro with
  | none => rw [Oper.semAt_none, Oper.semAt_none]; exact execOp_congr o hs h
  | some l =>
   have := resolve_congr (ρ := ρ) (ρ' := ρ') c o.type (fun x hx => h x (by rw [hc]; simpa [Op.operands] using hx))
   unfold Oper.semAt
   rw [hc]
   simp only [this]
 ·have hd' : ∀ c, o.op ≠ .defer c := fun c hc => hd ⟨c, hc⟩
  rw [Oper.semAt_eq _ _ _ hd', Oper.semAt_eq _ _ _ hd']
  exact execOp_congr o hs h

theorem zOc {P : Program} {rv : Option Nat} {o : Oper} {ag agp : Act} {w : World} {next next' : Act -> World -> Prop} {QQ : Exit -> Act -> World -> Prop} (he : o.semAt rv ag.eval = o.semAt rv agp.eval) (hdef : ag.defers = agp.defers)
  (hn : ∀ ds v w', next' (({ agp with defers := ds } : Act).put o.dst v) w' -> next (({ ag with defers := ds } : Act).put o.dst v) w') (h : o.wpIn (FR rv) 0 P agp w next' (fun _ _ _ => False)) : o.wpIn (FR rv) 0 P ag w next QQ := by
 have hn0 : ∀ v w', next' (agp.put o.dst v) w' -> next (ag.put o.dst v) w' := fun v w' hh => by
  have := hn agp.defers v w' hh
  rw [<- hdef] at this
  exact this
 refine ⟨fun _ _ => trivial, ?_⟩
 have hh := h.2
 have he' : o.semAt (FR rv).round ag.eval = o.semAt (FR rv).round agp.eval := he
 rw [he']
 generalize (o.semAt (FR rv).round agp.eval).run P w = r at *
 cases r with
 | ok x w' =>
  cases x <;> simp only [Oper.uponIn] at hh ⊢ <;> first | exact hh.elim | skip
  case value v => exact hn0 v w' hh
  case skip => exact hn0 undef w' hh
  case defer d => rw [hdef]; exact hn _ _ w' hh
  case enter f args =>
   refine ⟨hh.1, hh.2.mono fun e w'' h2 => ?_⟩
   cases e with
   | returned v => exact hn0 v w'' h2
   | panicked c => exact h2.elim
   | outgrown => obtain ⟨_, _, h3⟩ := h2; exact h3.elim
  case row r args => exact ⟨hh.1, hh.2.mono fun v w'' h2 => hn0 v w'' h2⟩
  case round l f tmps as bd =>
   refine ⟨hh.1, hh.2.mono fun e w'' h2 => ?_⟩
   cases e with
   | returned v => exact hn0 v w'' h2
   | panicked c => exact h2.elim
   | outgrown => obtain ⟨_, _, h3⟩ := h2; exact h3.elim
 | halt x w' => cases x <;> simp only [Oper.uponIn] at hh <;> exact hh.elim

section
variable {P : Program} {N : Nat} {w0 : World} {S : Self} {ro rv : Option Nat} {ops : Array Oper} {l : List DStep} {fl M : Nat} {ag0 : Act} {Gs : GM} {hs : AHeap} {ws : World} {Q : AAct × AHeap -> Prop}
 {C : Nat -> Prop} {L : Nat} {is : List Nat} {held : List Held} {a : AAct} {h : AHeap} {G : GM} {ag : Act} {w : World} {val : Nat -> Value} {agp : Act} {fb : Nat -> Nat}

theorem Inv.turn (hS : SelfOK P N w0 S) (hro : roR Gs ro rv) (hF : Fit P M ops l fl) (hsz : M <= ag0.tmps.size) {i : Nat} (hI : Inv P N w0 S ro ops l fl M ag0 Gs hs ws Q C L (i :: is) held a h G ag w val agp fb) {o : Oper} (ho : ops[i]? = some o) (hC : ¬ C i) (hpr : ∀ j, Pr ops i j -> C j)
  {s : DStep} (hsl : l[i]? = some s) (hE : isE s.st = true)
  {QQ : Exit -> Act -> World -> Prop} {K : Act -> World -> Prop} (hK : ∀ held' ag' w' a' h' G' val' agp', Inv P N w0 S ro ops l fl M ag0 Gs hs ws Q (fun k => C k \/ k = i) (L ||| 2 ^ i) is held' a' h' G' ag' w' val' agp' fb -> K ag' w') : wpOpIn (FR rv) 0 P ops QQ i K ag w := by
 obtain ⟨plan, hm, hsat⟩ := hI.sat
 obtain ⟨y, zs, h1, h2, rfl⟩ := zBX hm
 obtain ⟨y0, m, h9, rfl, hmC⟩ := hF.closed h1
 rw [hsl] at h9; cases h9
 have hcl : ∀ t, TC (Pr ops) i t -> C t := fun t ht => by
  induction ht with
  | base h => exact hpr _ h
  | step _ h ih => exact hI.clC _ _ ih h
 obtain ⟨s', hck, hchk⟩ := zED (ops := ops) hI.chk
 have : s' = s := Option.some.inj (hck.get.symm.trans hsl)
 subst this
 obtain ⟨o', st, ho', hcs, rfl⟩ := hF.getI hsl
 rw [ho] at ho'; cases ho'
 obtain ⟨hdst, hgd, hop⟩ := zCj hcs
 have hlt : ∀ t, o.dst = some t -> t < ag0.tmps.size := fun t ht => Nat.lt_of_lt_of_le ((zDL hdst).2 t ht) hsz
 have hprL : ∀ j, Pr ops i j -> L.testBit j = true := fun j ⟨o', ho', hb⟩ => by
  rw [ho] at ho'; cases ho'
  exact hck.pred j hb
 have hlook : ∀ t, t ∈ zGA ops.toList o -> ag.tmps[t]? = agp.tmps[t]? := fun t ht => hI.aaC.look hF hI.aaL hI.clC hI.clL ho hC hck.new hpr hprL (fun k hk => rfl) ht
 have fin : ∀ (held' : List Held) (_ : ∀ k b ver, ¬ C k -> (⟨k, b, ver⟩ : Held) ∈ held -> (⟨k, b, ver⟩ : Held) ∈ held') (ds : List Deferred) (cv : Value) (a1 : AAct) (h1 : AHeap) (G1 : GM) (w1 : World), (zCf S ro zs held' a1 h1).sat Q -> Rel P N w0 G1 h1 w1 -> Ext G h w G1 h1 w1 -> ActR P G1 M a1 (({ agp with defers := ds } : Act).put o.dst cv) →
   (∀ k b ver ob, ¬ C k -> h.objs.get b = some (ver, ob) -> (⟨k, b, ver⟩ : Held) ∈ held -> (∃ ob', h1.objs.get b = some (ver, ob')) /\ ∀ gi, G b = some gi -> w1.heap[gi.blk]? = w.heap[gi.blk]?) →
   K (({ ag with defers := ds } : Act).put o.dst cv) w1 := by
  intro held' hsub ds cv a1 h1 G1 w1 hs1 hR1 hE1 ha1 hheld
  have hvalL : ∀ j, L.testBit j = true -> upd val i cv j = val j := fun j hj => zDB fun hh => hck.new (hh ▸ hj)
  have hvalC : ∀ j, C j -> upd val i cv j = val j := fun j hj => zDB fun hh => hC (hh ▸ hj)
  refine hK held' _ _ a1 h1 G1 (upd val i cv) (({ agp with defers := ds } : Act).put o.dst cv) ⟨⟨zs, h2, hs1⟩, hchk, hR1, hI.ext.trans hE1, ha1, ?_, ?_, ?_, ?_, ?_, ?_, ?_, ?_, ?_, ?_⟩
  ·refine ((hI.aaL.defers ds).put hF ho hlt hck.new cv).congr (fun k => ?_) (fun _ _ => rfl)
   rw [zAj]
  ·exact (hI.aaC.defers ds).put hF ho hlt hC cv
  ·cases o.dst <;> rfl
  ·intro k j hk hp
   rcases hk with hk | rfl
   ·exact .inl (hI.clC k j hk hp)
   ·exact .inl (hpr j hp)
  ·intro k j hk hp
   rw [zAj] at hk ⊢
   rcases hk with hk | rfl
   ·exact .inl (hI.clL k j hk hp)
   ·exact .inl (hprL j hp)
  ·intro k s2 hk hc hs2
   rw [zAj] at hk
   exact hI.eff k s2 (hk.resolve_right fun hh => hc (.inr hh)) (fun hh => hc (.inl hh)) hs2
  ·intro k hc hk
   rw [zAj] at hk
   exact hI.flo k (hc.resolve_right fun hh => hk (.inr hh)) (fun hh => hk (.inl hh))
  ·intro k hk hc
   rw [zAj] at hk
   have hki : k ≠ i := fun hh => hc (.inr hh)
   have hc' : ¬ C k := fun hh => hc (.inl hh)
   refine (hI.pend k (hk.resolve_right hki) hc').step (fun j hj => zAj.2 (.inl hj)) hvalL (zDB hki) fun b ver ob hb hm => ?_
   obtain ⟨⟨ob', h3⟩, h4⟩ := hheld k b ver ob hc' hb hm
   refine ⟨⟨ob', h3, hsub _ _ _ hc' hm⟩, fun w2 hl b' hb' gi hg => ?_⟩
   cases hb'
   rw [hl b rfl gi (hE1.gle _ _ hg), h4 gi hg]
  ·intro k hc hk
   have hki : k ≠ i := fun hh => hk (zAj.2 (.inr hh))
   have hk' : ¬ L.testBit k = true := fun hh => hk (zAj.2 (.inl hh))
   have hc' := hc.resolve_right hki
   have hfr := hI.frec k hc' hk'
   obtain ⟨_, _, _, _, _, _, _, _, _, _, _, _, _, _, _, hwb, hNb, _, hun⟩ := hI.frec k hc' hk'
   have hlt := zAs hwb
   refine hfr.step (fun _ hj => .inl hj) hvalC (zDB hki) rfl (hE1.frame _ hlt fun id x gi hx _ hg => hun id x gi hx hg) fun id x gi hx hg hb => ?_
   cases hr : x.2.ro with
   | true =>
    have := hR1.rolow id x.1 x.2 gi hx hg hr
    omega
   | false =>
    rcases hE1.owned id x gi hx hr hg with h3 | ⟨id0, x0, gi0, h3, _, h5, h6⟩
    ·omega
    ·exact hun id0 x0 gi0 h3 h5 (h6.trans hb)
  ·intro k k' hc hk hc' hk' he
   have hki : k ≠ i := fun hh => hk (zAj.2 (.inr hh))
   have hki' : k' ≠ i := fun hh => hk' (zAj.2 (.inr hh))
   exact hI.fdis k k' (hc.resolve_right hki) (fun hh => hk (zAj.2 (.inl hh))) (hc'.resolve_right hki') (fun hh => hk' (zAj.2 (.inl hh))) he
 unfold wpOpIn
 simp only [ho]
 rw [zIW hlook]
 simp only [zCf] at hsat
 split at hsat
 ·rename_i hw
  rw [zDJ hI.act hgd hw, if_pos rfl]
  split at hsat
  ·rename_i q hqq
   unfold isE at hE
   simp only at hE
   rw [hqq] at hE; cases hE
  ·rename_i e he
   have hce : cE P o.op = some e := by
    rw [hop] at he
    unfold cOp at he
    split at he
    ·cases he
    ·split at he
     ·rename_i e' he'; injection he with he; subst he; exact he'
     ·cases he
   rw [D.sat_bind] at hsat
   have hwp := zLw hS (hro.mono hI.ext.gle) hI.rel hI.act hdst hce hsat (fun _ _ _ => False)
   have hag : ({ ag with defers := ag.defers } : Act) = ag := rfl
   refine zOc (zLY o (fun cs b => hF.nosel i o cs b ho) (zGO hlook)) hI.defs (fun ds v w1 hp => ?_) hwp
   obtain ⟨a1, h1, G1, hq, hR1, hE1, ha1⟩ := hp
   simp only at hq
   split at hq
   ·rename_i hheld
    refine fin (zGM m held) (fun k b ver hc hm => zGW hm (by
     cases hz : m.testBit k with
     | false => rfl
     | true => exact absurd (hcl k (hmC k hz)) hc)) ds v a1 h1 G1 w1 hq hR1 hE1 ha1 fun k b ver ob hc hb hm => ?_
    rcases zHk hheld _ hm with h3 | ⟨ob', h3⟩
    ·exact absurd (hcl k (hmC k h3)) hc
    ·refine ⟨⟨ob', h3⟩, fun gi hg => ?_⟩
     rcases hE1.same b ver ob' h3 with h4 | ⟨_, h5⟩
     ·have := hI.rel.vers b ver ob hb
      omega
     ·exact h5 gi hg
   ·cases hq
 ·rename_i hw
  rw [zDJ hI.act hgd hw]
  refine ⟨fun _ _ => trivial, ?_⟩
  have := fin held (fun _ _ _ _ hm => hm) agp.defers undef _ h G w hsat hI.rel (Ext.refl _ _ _) (hI.act.put hdst ⟨#[], rfl, rfl⟩) (fun k b ver ob _ hb _ => ⟨⟨ob, hb⟩, fun _ _ => rfl⟩)
  rw [<- hI.defs] at this
  exact this
 ·cases hsat

theorem Inv.adv (hF : Fit P M ops l fl) (hsz : M <= ag0.tmps.size) {i : Nat} {o : Oper} (ho : ops[i]? = some o) (hC : ¬ C i) (hpr : ∀ j, Pr ops i j -> C j) (hf : fl.testBit i = false) :
  ∀ {is : List Nat} {L : Nat} {held : List Held} {a : AAct} {h : AHeap} {G : GM} {val : Nat -> Value} {agp : Act}, Inv P N w0 S ro ops l fl M ag0 Gs hs ws Q C L is held a h G ag w val agp fb -> ¬ L.testBit i = true →
   ∃ L' is' held' a' h' G' val' agp', Inv P N w0 S ro ops l fl M ag0 Gs hs ws Q C L' is' held' a' h' G' ag w val' agp' fb /\ (L'.testBit i = true \/ ∃ r s, is' = i :: r /\ l[i]? = some s /\ isE s.st = true)
 | [], L, held, a, h, G, val, agp, hI, hn => by
  obtain ⟨st, _, hli⟩ := hF.step i o ho
  exact absurd (zJP hI.chk _ (List.mem_of_getElem? hli)) hn
 | j :: r, L, held, a, h, G, val, agp, hI, hn => by
  obtain ⟨s, hck, hchk⟩ := zED (ops := ops) hI.chk
  obtain ⟨st, _, hli⟩ := hF.step i o ho
  have hsub : subM (zHJ o) (L ||| upF fl L l) = true := by
   rw [zKB]
   intro k hk
   have hp : Pr ops i k := ⟨o, ho, hk⟩
   rw [Nat.testBit_or, Bool.or_eq_true]
   by_cases hLk : L.testBit k = true
   ·exact .inl hLk
   ·right
    have hfk := hI.flo k (hpr k hp) hLk
    obtain ⟨sk, h1, _⟩ := hF.floatS k hfk
    obtain ⟨ok, stk, hok, _, rfl⟩ := hF.getI h1
    refine upF_iff.2 ⟨_, List.mem_of_getElem? h1, rfl, hfk, ?_⟩
    rw [zKB]
    intro k' hk'
    have hp' : Pr ops k k' := ⟨ok, hok, hk'⟩
    have hc' := hI.clC k k' (hpr k hp) hp'
    cases hb : L.testBit k' with
    | true => rfl
    | false =>
     have := hI.flo k' hc' (by rw [hb]; simp)
     rw [hF.floatP k k' hfk hp'] at this
     cases this
  cases hE : isE s.st with
  | false =>
   obtain ⟨held', a', val', agp', hI'⟩ := hI.quiet hF hsz hck.get hE
   by_cases hji : i = j
   ·exact ⟨_, _, _, _, _, _, _, _, hI', .inl (zAj.2 (.inr hji))⟩
   ·exact adv hF hsz ho hC hpr hf hI' fun hh => by
     rw [zAj] at hh
     rcases hh with hh | hh
     ·exact hn hh
     ·exact hji hh
  | true =>
   cases hfj : fl.testBit j with
   | true =>
    have hcj : C j := by
     have := hck.flo hfj _ (List.mem_of_getElem? hli) hf hn hsub
     exact hpr j ⟨o, ho, this⟩
    obtain ⟨_, a', h', G', val', agp', hI'⟩ := hI.commit hF hsz hfj hcj
    exact adv hF hsz ho hC hpr hf hI' fun hh => by
     rw [zAj] at hh
     rcases hh with hh | hh
     ·exact hn hh
     ·rw [<- hh, hf] at hfj; cases hfj
   | false =>
    have hij : i = j := hck.eff hfj hE _ (List.mem_of_getElem? hli) hf hn hsub
    subst hij
    exact ⟨_, _, _, _, _, _, _, _, hI, .inr ⟨r, s, rfl, hck.get, hE⟩⟩

theorem Inv.done (hF : Fit P M ops l fl) (hsz : M <= ag0.tmps.size) (hall : ∀ i o, ops[i]? = some o -> C i) :
  ∀ {is : List Nat} {L : Nat} {held : List Held} {a : AAct} {h : AHeap} {G : GM} {val : Nat -> Value} {agp : Act}, Inv P N w0 S ro ops l fl M ag0 Gs hs ws Q C L is held a h G ag w val agp fb -> PostA P N w0 Gs hs ws M Q ag w
 | [], L, held, a, h, G, val, agp, hI => by
  obtain ⟨plan, hm, hsat⟩ := hI.sat
  simp only [mapO, oI] at hm; subst hm
  have hL : ∀ k o, ops[k]? = some o -> L.testBit k = true := fun k o ho => by
   obtain ⟨st, _, hli⟩ := hF.step k o ho
   exact zJP hI.chk _ (List.mem_of_getElem? hli)
  have htm : ag.tmps = agp.tmps := by
   apply Array.ext_getElem?
   intro t
   exact hI.aaC.same hI.aaL fun k o ho _ => ⟨⟨fun _ => hL k o ho, fun _ => hall k o ho⟩, fun _ => rfl⟩
  have hagp : ag = agp := by
   obtain ⟨t, d⟩ := ag
   obtain ⟨t', d'⟩ := agp
   have h1 := hI.defs
   simp only at htm h1
   rw [htm, h1]
  rw [hagp]
  exact ⟨a, h, G, hsat, hI.rel, hI.ext, hI.act⟩
 | j :: r, L, held, a, h, G, val, agp, hI => by
  obtain ⟨s, hck, _⟩ := zED (ops := ops) hI.chk
  obtain ⟨o, ho⟩ := hF.lookup j s hck.get
  obtain ⟨_, a', h', G', val', agp', hI'⟩ := hI.commit hF hsz (hI.flo j (hall j o ho) hck.new) (hall j o ho)
  exact done hF hsz hall hI'

def zEr : List Bool -> Nat
 | [] => 0
 | false :: r => zEr r + 1
 | true :: r => zEr r
theorem zIn : ∀ {l : List Bool} {i : Nat}, l[i]? = some false -> zEr l = zEr (l.set i true) + 1
 | [], i, h => by simp at h
 | b :: r, 0, h => by simp at h; subst h; rfl
 | b :: r, i + 1, h => by
  have := zIn (l := r) (i := i) (by simpa using h)
  cases b <;> simp [zEr, this]
theorem zHh : ∀ {l : List Bool}, zEr l = 0 -> ∀ (i : Nat), l[i]? ≠ some false
 | [], _, i => by simp
 | b :: r, h, 0 => by cases b <;> simp [zEr] at h ⊢
 | b :: r, h, i + 1 => by
  cases b with
  | false => simp [zEr] at h
  | true => simpa using zHh (l := r) h i
theorem zEs : ∀ n, zEr (List.replicate n false) = n
 | 0 => rfl
 | n + 1 => by rw [List.replicate_succ]; simp [zEr, zEs n]

theorem zNW (hS : SelfOK P N w0 S) (hro : roR Gs ro rv) (hF : Fit P M ops l fl) (hsz : M <= ag0.tmps.size) {QQ : Exit -> Act -> World -> Prop} (hQ : ∀ ag' w', PostA P N w0 Gs hs ws M Q ag' w' -> QQ .normal ag' w') :
  ∀ (fuel : Nat) {listed : Array Bool} {L : Nat} {is : List Nat} {held : List Held} {a : AAct} {h : AHeap} {G : GM} {ag : Act} {w : World} {val : Nat -> Value} {agp : Act} {fb : Nat -> Nat},
   Inv P N w0 S ro ops l fl M ag0 Gs hs ws Q (fun k => listed.getD k false = true) L is held a h G ag w val agp fb -> listed.size = ops.size -> zEr listed.toList = fuel -> wpAnyIn (FR rv) 0 P .any ops QQ fuel listed ag w := by
 intro fuel
 -- nothing is left when nothing may come up
 have stop : ∀ {listed : Array Bool}, listed.size = ops.size -> Region.ready .any ops listed = [] -> ∀ i o, ops[i]? = some o -> listed.getD i false = true := by
  intro listed hls hr i
  induction i using Nat.strongRecOn with
  | _ i ih =>
   intro o ho
   cases hb : listed.getD i false with
   | true => rfl
   | false =>
    have hlt : i < listed.size := by
     rw [hls]
     rcases Nat.lt_or_ge i ops.size with h | h
     ·exact h
     ·rw [Array.getElem?_eq_none h] at ho; cases ho
    have : i ∈ Region.ready .any ops listed := by
     rw [mem_ready]
     refine ⟨?_, o, ho, fun e he hbd => ?_⟩
     ·simp [hlt] at hb ⊢; exact hb
     ·have hp : Pr ops i e.on := ⟨o, ho, zKj.2 ⟨e, he, hbd, rfl⟩⟩
      have hlt' := hF.early i e.on hp
      have : e.on < ops.size := by omega
      exact ih e.on hlt' ops[e.on] (by simp [this])
    rw [hr] at this; cases this
 induction fuel with
 | zero =>
  intro listed L is held a h G ag w val agp fb hI hls hfz
  have hr : Region.ready .any ops listed = [] := by
   cases hr : Region.ready .any ops listed with
   | nil => rfl
   | cons j r =>
    have hj : j ∈ Region.ready .any ops listed := by rw [hr]; exact List.mem_cons_self ..
    rw [mem_ready] at hj
    obtain ⟨hj0, o, ho, _⟩ := hj
    have hlt : j < listed.size := by
     rcases Nat.lt_or_ge j listed.size with h | h
     ·exact h
     ·simp [Array.getElem?_eq_none h] at hj0
    have : listed.toList[j]? = some false := by simp [hlt] at hj0 ⊢; exact hj0
    exact absurd this (zHh hfz j)
  exact ⟨hr, hQ _ _ (hI.done hF hsz (stop hls hr))⟩
 | succ fuel ih =>
  intro listed L is held a h G ag w val agp fb hI hls hfz
  refine ⟨fun hr => hQ _ _ (hI.done hF hsz (stop hls hr)), fun i hi => ?_⟩
  rw [mem_ready] at hi
  obtain ⟨hi0, o, ho, hall⟩ := hi
  have hlt : i < listed.size := by
   rcases Nat.lt_or_ge i listed.size with h | h
   ·exact h
   ·simp [Array.getElem?_eq_none h] at hi0
  have hC : ¬ listed.getD i false = true := by simp [hlt] at hi0 ⊢; exact hi0
  have hpr : ∀ j, Pr ops i j -> listed.getD j false = true := fun j ⟨o', ho', hb⟩ => by
   rw [ho] at ho'; cases ho'
   obtain ⟨e, he, hbd, rfl⟩ := zKj.1 hb
   exact hall e he hbd
  have hCs : (fun k => listed.getD k false = true \/ k = i) = fun k => (listed.setIfInBounds i true).getD k false = true := by
   funext k
   apply propext
   by_cases hk : k = i
   ·subst hk; simp [hlt]
   ·simp [hk, Array.getElem?_setIfInBounds_ne (Ne.symm hk)]
  have hfz' : zEr (listed.setIfInBounds i true).toList = fuel := by
   have h1 : listed.toList[i]? = some false := by simp [hlt] at hi0 ⊢; exact hi0
   have h2 := zIn h1
   rw [Array.toList_setIfInBounds]
   omega
  have hls' : (listed.setIfInBounds i true).size = ops.size := by rw [Array.size_setIfInBounds]; exact hls
  cases hf : fl.testBit i with
  | true => exact hI.lay hF hsz ho hC hpr hf fun ag' w' val' fb' hI' => ih (hCs ▸ hI') hls' hfz'
  | false =>
   have late : ∀ {L : Nat} {is : List Nat} {held : List Held} {a : AAct} {h : AHeap} {G : GM} {val : Nat -> Value} {agp : Act}, Inv P N w0 S ro ops l fl M ag0 Gs hs ws Q (fun k => listed.getD k false = true) L is held a h G ag w val agp fb -> L.testBit i = true →
     wpOpIn (FR rv) 0 P ops QQ i (wpAnyIn (FR rv) 0 P .any ops QQ fuel (listed.setIfInBounds i true)) ag w := fun hI2 hL => hI2.late hF hsz ho hC hpr hL fun ag' hI' => ih (hCs ▸ hI') hls' hfz'
   by_cases hL : L.testBit i = true
   ·exact late hI hL
   ·obtain ⟨L', is', held', a', h', G', val', agp', hI', hor⟩ := hI.adv hF hsz ho hC hpr hf hL
    rcases hor with hL' | ⟨r, s, rfl, hsl, hE⟩
    ·exact late hI' hL'
    ·exact hI'.turn hS hro hF hsz ho hC hpr hsl hE fun _ ag2 w2 a2 h2 G2 val2 agp2 hI2 => ih (hCs ▸ hI2) hls' hfz'

theorem zIk (hm : P.follows .mixedOrders = true) (hS : SelfOK P N w0 S) : DrawOK P N w0 S := by
 intro G h w a ag M ro rv hro hR ha id ops plan hp Q hs QQ hQ
 obtain ⟨l, fl, is, hF, hchk, hmap⟩ := zMe hp
 refine wpIn_region_any hm ?_
 have hw : ({ w with drawn := w.drawn + 1 } : World) = w.drew := rfl
 rw [hw]
 have hR' := hR.drew
 have hE' : Ext G h w G h w.drew := (Ext.refl G h w).drew
 have hrep : ∀ k, (Array.replicate ops.size false).getD k false = true ↔ False := fun k => by
  rw [Array.getD_eq_getD_getElem?]
  rcases Nat.lt_or_ge k ops.size with h | h
  ·simp [h]
  ·simp [h]
 refine zNW (Gs := G) (hs := h) (ws := w.drew) (ag0 := ag) (Q := Q) hS hro hF ha.size (fun ag' w' hpost => hQ ag' w' ?_) ops.size (L := 0) (is := is) (held := []) (a := a) (h := h) (G := G) (val := fun _ => undef) (agp := ag) (fb := fun _ => 0) ?_ (by simp) (by rw [Array.toList_replicate, zEs])
 ·obtain ⟨a', h', G', h1, h2, h3, h4⟩ := hpost
  exact ⟨a', h', G', h1, h2, hE'.trans h3, h4⟩
 ·refine ⟨⟨plan, hmap, hs⟩, hchk, hR', Ext.refl _ _ _, ha, ?_, ?_, rfl, ?_, ?_, ?_, ?_, ?_, ?_, ?_⟩
  ·exact (AA.start (ops := ops) (ag0 := ag) (val := fun _ => undef)).congr (fun k => by simp) (fun _ hh => hh.elim)
  ·exact (AA.start (ops := ops) (ag0 := ag) (val := fun _ => undef)).congr (fun k => (hrep k).symm) (fun _ hh => hh.elim)
  ·exact fun k j hk => ((hrep k).1 hk).elim
  ·exact fun k j hk => by simp at hk
  ·exact fun k s hk => by simp at hk
  ·exact fun k hk => ((hrep k).1 hk).elim
  ·exact fun k hk => by simp at hk
  ·exact fun k hk => ((hrep k).1 hk).elim
  ·exact fun k k' hk => ((hrep k).1 hk).elim
end
end Go.Ab
end
section
namespace Go.Ab
open Go.RowKit (Below)

section
variable {P : Program} {fns : FnsT} {summ : SumT}

theorem zKN {N : Nat} {w0 w : World} {G : GM} {h : AHeap} {n : Nat} {f : FuncId} {args : List AVal} {argsV : Array Value} {Q : AVal × AHeap -> Prop} (hm : P.follows .mixedOrders = true) (hF : FnsOK P fns) (hM : SummOK P N w0 summ) (hR : Rel P N w0 G h w) (hv : VsR P G args argsV.toList)
  (hs : ((run fns summ n).call f args h).sat Q) : Calls P f argsV w (PostC P N w0 G h w Q) :=
 callsIn_wide.1 ((zKs hF hM (fun _ hS => zIk hm hS) n).call f args h G w argsV Q hR hv hs)
end
end Go.Ab
end
section
namespace Go.Ab

inductive D.le {α : Type} : D α -> D α -> Prop
 | fail (d : D α) : D.le .fail d
 | ret (a : α) : D.le (.ret a) (.ret a)
 | ask (n : Nat) (k k' : Nat -> D α) (h : ∀ i, D.le (k i) (k' i)) : D.le (.ask n k) (.ask n k')

namespace D
variable {α β : Type}
theorem le_refl : ∀ d : D α, d.le d
 | .fail => .fail _
 | .ret a => .ret a
 | .ask n k => .ask n k k fun i => le_refl (k i)
theorem le_trans {d d' d'' : D α} (a : d.le d') (b : d'.le d'') : d.le d'' := by
 induction a generalizing d'' with
 | fail => exact .fail _
 | ret a => exact b
 | ask n k k' _ ih => cases b with | ask _ _ k'' h => exact .ask n k k'' fun i => ih i (h i)
theorem le_sat {d d' : D α} (h : d.le d') : ∀ {Q : α -> Prop}, d.sat Q -> d'.sat Q := by
 induction h with
 | fail => intro Q hs; cases hs
 | ret a => intro Q hs; exact hs
 | ask n k k' _ ih => intro Q hs; exact ⟨hs.1, fun i hi => ih i (hs.2 i hi)⟩
theorem le_bind {d d' : D α} (h : d.le d') {f f' : α -> D β} (hf : ∀ a, (f a).le (f' a)) : (d.bind f).le (d'.bind f') := by
 induction h with
 | fail => exact .fail _
 | ret a => exact hf a
 | ask n k k' _ ih => exact .ask n _ _ ih
end D

def Self.le (S S' : Self) : Prop := (∀ f args h, (S.call f args h).le (S'.call f args h)) /\ ∀ ro c a h, (S.code ro c a h).le (S'.code ro c a h)

section
variable {S S' : Self} (hS : S.le S')
include hS

theorem zOM (l : Nat) (args : List AVal) (h : AHeap) : (zII S l args h).le (zII S' l args h) := by
 unfold zII
 split
 ·split
  ·refine D.le_bind (hS.2 _ _ _ _) fun p => ?_
   split
   ·exact D.le_bind (hS.2 _ _ _ _) fun p => D.le_refl _
   ·exact .fail _
  ·exact .fail _
 ·exact .fail _

theorem zKL (f : AVal) (args : List AVal) (h : AHeap) : (zHA S f args h).le (zHA S' f args h) := by
 unfold zHA
 split
 ·exact hS.1 _ _ _
 ·exact zOM hS _ _ _
 ·exact .fail _

theorem eA_le (ro : Option Nat) (a : AAct) (h : AHeap) (dst : Option Tmp) (op : EOp) : (eA S ro a h dst op).le (eA S' ro a h dst op) := by
 unfold eA
 split
 ·split
  ·exact D.le_bind (zKL hS _ _ _) fun p => D.le_refl _
  ·exact .fail _
 ·exact D.le_refl _
 ·exact D.le_refl _

theorem zMU (ro : Option Nat) (a : AAct) (h : AHeap) (s : Step) : (zFi S ro a h s).le (zFi S' ro a h s) := by
 unfold zFi
 split
 ·split
  ·exact D.le_refl _
  ·exact eA_le hS _ _ _ _ _
 ·exact D.le_refl _
 ·exact .fail _

theorem zIQ (ro : Option Nat) : ∀ (l : List Step) (a : AAct) (h : AHeap), (zGf S ro l a h).le (zGf S' ro l a h)
 | [], _, _ => D.le_refl _
 | s :: r, a, h => D.le_bind (zMU hS ro a h s) fun _ => zIQ ro r _ _

theorem zFR (ro : Option Nat) : ∀ (l : List DStep) (hs : List Held) (a : AAct) (h : AHeap), (zCf S ro l hs a h).le (zCf S' ro l hs a h)
 | [], _, _, _ => D.le_refl _
 | s :: r, hs, a, h => by
  unfold zCf
  split
  ·split
   ·split
    ·exact zFR ro r _ _ _
    ·split
     ·exact zFR ro r _ _ _
     ·exact .fail _
    ·exact .fail _
   ·refine D.le_bind (eA_le hS _ _ _ _ _) fun p => ?_
    split
    ·exact zFR ro r _ _ _
    ·exact .fail _
  ·exact zFR ro r _ _ _
  ·exact .fail _

theorem zCZ (ro : Option Nat) : ∀ (c : ACode) (a : AAct) (h : AHeap), (zCe S ro c a h).le (zCe S' ro c a h)
 | .skip, _, _ => D.le_refl _
 | .ops l, a, h => D.le_bind (zIQ hS ro l a h) fun _ => D.le_refl _
 | .draw l, a, h => D.le_bind (zFR hS ro l [] a h) fun _ => D.le_refl _
 | .seq x y, a, h => by
  refine D.le_bind (zCZ ro x a h) fun p => ?_
  split
  ·exact zCZ ro y _ _
  ·exact D.le_refl _
 | .cond c x y, a, h => by
  unfold zCe
  split
  ·exact zCZ ro x _ _
  ·exact zCZ ro y _ _
  ·exact .fail _
 | .block id c, a, h => D.le_bind (zCZ ro c a h) fun _ => D.le_refl _
 | .loop c, a, h => by
  refine D.le_bind (zCZ ro c a h) fun p => ?_
  split
  ·exact hS.2 _ _ _ _
  ·exact D.le_refl _
 | .exit id, _, _ => D.le_refl _
 | .ret, _, _ => D.le_refl _
 | .rangeF f ps assign body, a, h => by
  unfold zCe
  split
  ·exact D.le_bind (hS.1 _ _ _) fun p => D.le_refl _
  ·exact .fail _
end

section
variable {fns : FnsT} {summ : SumT} {S S' : Self} (hS : S.le S')
include hS

theorem defdA_le (f : FuncId) (args : List AVal) (h : AHeap) : (zMf fns S f args h).le (zMf fns S' f args h) := by
 unfold zMf
 split
 ·split
  ·exact D.le_bind (hS.2 _ _ _ _) fun p => D.le_refl _
  ·exact .fail _
 ·exact .fail _

theorem zGT : ∀ (ds : List ADef) (h : AHeap), (zEK fns S ds h).le (zEK fns S' ds h)
 | [], _ => D.le_refl _
 | .collected r :: ds, h => by
  unfold zEK
  split
  ·exact zGT ds _
  ·exact .fail _
 | .fn f args :: ds, h => D.le_bind (defdA_le hS f args h) fun _ => zGT ds _

theorem callA_le (f : FuncId) (args : List AVal) (h : AHeap) : (zIZ fns summ S f args h).le (zIZ fns summ S' f args h) := by
 unfold zIZ
 split
 ·exact D.le_refl _
 ·split
  ·split
   ·refine D.le_bind (hS.2 _ _ _ _) fun p => ?_
    split
    ·exact .fail _
    ·exact D.le_bind (zGT hS _ _) fun _ => D.le_refl _
   ·exact .fail _
  ·exact .fail _
end

theorem Self.le_refl (S : Self) : S.le S := ⟨fun _ _ _ => D.le_refl _, fun _ _ _ _ => D.le_refl _⟩

section
variable (fns : FnsT) (summ : SumT)

theorem zHW : ∀ n, (run fns summ n).le (run fns summ (n + 1))
 | 0 => ⟨fun _ _ _ => .fail _, fun _ _ _ _ => .fail _⟩
 | n + 1 => ⟨fun f args h => callA_le (zHW n) f args h, fun ro c a h => zCZ (zHW n) ro c a h⟩

theorem zES {n m : Nat} (h : n <= m) : (run fns summ n).le (run fns summ m) := by
 induction h with
 | refl => exact Self.le_refl _
 | step _ ih => exact ⟨fun f args h => D.le_trans (ih.1 f args h) ((zHW fns summ _).1 f args h), fun ro c a h => D.le_trans (ih.2 ro c a h) ((zHW fns summ _).2 ro c a h)⟩
end

def Ev {α : Type} (d : Nat -> D α) (Q : α -> Prop) : Prop := ∃ n, ∀ m, n <= m -> (d m).sat Q

theorem Ev.mono {α : Type} {d : Nat -> D α} {Q Q' : α -> Prop} (h : Ev d Q) (hq : ∀ a, Q a -> Q' a) : Ev d Q' := h.imp fun _ hn m hm => D.sat_mono (hn m hm) hq

theorem sat_ev {α β : Type} {f : Nat -> α -> D β} {Q : β -> Prop} : ∀ {d : D α}, d.sat (fun a => Ev (f · a) Q) -> ∃ n, ∀ m, n <= m -> d.sat fun a => (f m a).sat Q
 | .ret a, h => h
 | .fail, h => h.elim
 | .ask n k, h => by
  have := fun i hi => sat_ev (h.2 i hi)
  have : ∀ j, j <= n -> ∃ b, ∀ m, b <= m -> ∀ i, i < j -> (k i).sat fun a => (f m a).sat Q := by
   intro j
   induction j with
   | zero => intro _; exact ⟨0, fun _ _ i hi => absurd hi (Nat.not_lt_zero i)⟩
   | succ j ih =>
    intro hj
    obtain ⟨b, hb⟩ := ih (by omega)
    obtain ⟨c, hc⟩ := this j (by omega)
    refine ⟨b + c, fun m hm i hi => ?_⟩
    rcases Nat.lt_or_ge i j with h1 | h1
    ·exact hb m (by omega) i h1
    ·have : i = j := by omega
     subst this
     exact hc m (by omega)
  obtain ⟨b, hb⟩ := this n (Nat.le_refl n)
  exact ⟨b, fun m hm => ⟨h.1, fun i hi => hb m hm i hi⟩⟩

theorem Ev.bind {α β : Type} {d : Nat -> D α} {f : Nat -> α -> D β} {Q : β -> Prop} (hd : ∀ n m, n <= m -> (d n).le (d m)) (h : Ev d fun a => Ev (f · a) Q) : Ev (fun n => (d n).bind (f n)) Q := by
 obtain ⟨n, hn⟩ := h
 obtain ⟨b, hb⟩ := sat_ev (hn n (Nat.le_refl n))
 refine ⟨n + b, fun m hm => ?_⟩
 rw [D.sat_bind]
 exact D.le_sat (hd n m (by omega)) (hb m (by omega))

section
variable (fns : FnsT) (summ : SumT)
def CallW (f : FuncId) (args : List AVal) (h : AHeap) (Q : AVal × AHeap -> Prop) : Prop := Ev (fun n => (run fns summ n).call f args h) Q
def CodeW (ro : Option Nat) (c : ACode) (a : AAct) (h : AHeap) (Q : AExit × AAct × AHeap -> Prop) : Prop := Ev (fun n => zCe (run fns summ n) ro c a h) Q
def StepsW (ro : Option Nat) (l : List Step) (a : AAct) (h : AHeap) (Q : AAct × AHeap -> Prop) : Prop := Ev (fun n => zGf (run fns summ n) ro l a h) Q
def StepW (ro : Option Nat) (s : Step) (a : AAct) (h : AHeap) (Q : AAct × AHeap -> Prop) : Prop := Ev (fun n => zFi (run fns summ n) ro a h s) Q
def DrawW (ro : Option Nat) (l : List DStep) (hs : List Held) (a : AAct) (h : AHeap) (Q : AAct × AHeap -> Prop) : Prop := Ev (fun n => zCf (run fns summ n) ro l hs a h) Q
def CallVW (f : AVal) (args : List AVal) (h : AHeap) (Q : AVal × AHeap -> Prop) : Prop := Ev (fun n => zHA (run fns summ n) f args h) Q
def EW (ro : Option Nat) (a : AAct) (h : AHeap) (dst : Option Tmp) (op : EOp) (Q : AAct × AHeap -> Prop) : Prop := Ev (fun n => eA (run fns summ n) ro a h dst op) Q
end
end Go.Ab
end
section
namespace Go.Ab
section
variable {fns : FnsT} {summ : SumT} {ro : Option Nat}

theorem zAm {α : Type} {d : D α} {Q : α -> Prop} (h : d.sat Q) : Ev (fun _ => d) Q := ⟨0, fun _ _ => h⟩
theorem zGN {α : Type} {d : Nat -> D α} {Q : α -> Prop} (h : Ev (fun n => d (n + 1)) Q) : Ev d Q := by
 obtain ⟨n, hn⟩ := h
 refine ⟨n + 1, fun m hm => ?_⟩
 obtain ⟨k, rfl⟩ : ∃ k, m = k + 1 := ⟨m - 1, by omega⟩
 exact hn k (by omega)

variable (fns summ) in
def Cd (ro : Option Nat) (c : ACode) (a : AAct) (h : AHeap) (Q : AExit -> AAct -> AHeap -> Prop) : Prop := CodeW fns summ ro c a h fun p => Q p.1 p.2.1 p.2.2
variable (fns summ) in
def St (ro : Option Nat) (l : List Step) (a : AAct) (h : AHeap) (K : AAct -> AHeap -> Prop) : Prop := StepsW fns summ ro l a h fun p => K p.1 p.2
variable (fns summ) in
def Dr (ro : Option Nat) (l : List DStep) (hs : List Held) (a : AAct) (h : AHeap) (K : AAct -> AHeap -> Prop) : Prop := DrawW fns summ ro l hs a h fun p => K p.1 p.2
variable (fns summ) in
def Cl (f : FuncId) (args : List AVal) (h : AHeap) (K : AVal -> AHeap -> Prop) : Prop := CallW fns summ f args h fun p => K p.1 p.2
variable (fns summ) in
def Cv (f : AVal) (args : List AVal) (h : AHeap) (K : AVal -> AHeap -> Prop) : Prop := CallVW fns summ f args h fun p => K p.1 p.2
variable (fns summ) in
def Ex (ro : Option Nat) (a : AAct) (h : AHeap) (dst : Option Tmp) (op : EOp) (K : AAct -> AHeap -> Prop) : Prop := EW fns summ ro a h dst op fun p => K p.1 p.2
variable (fns summ) in
def Lv (ds : List ADef) (h : AHeap) (K : AHeap -> Prop) : Prop := Ev (fun n => zEK fns (run fns summ n) ds h) K
def nxt (K : AAct -> AHeap -> Prop) (Q : AExit -> AAct -> AHeap -> Prop) : AExit -> AAct -> AHeap -> Prop
 | .normal, a, h => K a h
 | e, a, h => Q e a h
def blk (id : Nat) (Q : AExit -> AAct -> AHeap -> Prop) : AExit -> AAct -> AHeap -> Prop
 | .exit i, a, h => if i = id then Q .normal a h else Q (.exit i) a h
 | e, a, h => Q e a h

theorem Cd.mono {c : ACode} {a : AAct} {h : AHeap} {Q Q' : AExit -> AAct -> AHeap -> Prop} (k : Cd fns summ ro c a h Q) (hq : ∀ e a h, Q e a h -> Q' e a h) : Cd fns summ ro c a h Q' := Ev.mono k fun _ hp => hq _ _ _ hp
theorem St.mono {l : List Step} {a : AAct} {h : AHeap} {K K' : AAct -> AHeap -> Prop} (k : St fns summ ro l a h K) (hq : ∀ a h, K a h -> K' a h) : St fns summ ro l a h K' := Ev.mono k fun _ hp => hq _ _ hp
theorem Cl.mono {f : FuncId} {args : List AVal} {h : AHeap} {K K' : AVal -> AHeap -> Prop} (k : Cl fns summ f args h K) (hq : ∀ v h, K v h -> K' v h) : Cl fns summ f args h K' := Ev.mono k fun _ hp => hq _ _ hp
theorem Cv.mono {f : AVal} {args : List AVal} {h : AHeap} {K K' : AVal -> AHeap -> Prop} (k : Cv fns summ f args h K) (hq : ∀ v h, K v h -> K' v h) : Cv fns summ f args h K' := Ev.mono k fun _ hp => hq _ _ hp
theorem Lv.mono {ds : List ADef} {h : AHeap} {K K' : AHeap -> Prop} (k : Lv fns summ ds h K) (hq : ∀ h, K h -> K' h) : Lv fns summ ds h K' := Ev.mono k hq

theorem zAT {a : AAct} {h : AHeap} {Q : AExit -> AAct -> AHeap -> Prop} (k : Q .normal a h) : Cd fns summ ro .skip a h Q := zAm k
theorem zAO {a : AAct} {h : AHeap} {Q : AExit -> AAct -> AHeap -> Prop} (k : Q .ret a h) : Cd fns summ ro .ret a h Q := zAm k
theorem zCF {id : Nat} {a : AAct} {h : AHeap} {Q : AExit -> AAct -> AHeap -> Prop} (k : Q (.exit id) a h) : Cd fns summ ro (.exit id) a h Q := zAm k
theorem zAD {l : List Step} {a : AAct} {h : AHeap} {Q : AExit -> AAct -> AHeap -> Prop} (k : St fns summ ro l a h (Q .normal)) : Cd fns summ ro (.ops l) a h Q := by
 refine Ev.bind (fun n m hnm => zIQ (zES fns summ hnm) ro l a h) (Ev.mono k fun p hp => zAm hp)
theorem zBQ {l : List DStep} {a : AAct} {h : AHeap} {Q : AExit -> AAct -> AHeap -> Prop} (k : Dr fns summ ro l [] a h (Q .normal)) : Cd fns summ ro (.draw l) a h Q := by
 refine Ev.bind (fun n m hnm => zFR (zES fns summ hnm) ro l [] a h) (Ev.mono k fun p hp => zAm hp)
theorem zAE {x y : ACode} {a : AAct} {h : AHeap} {Q : AExit -> AAct -> AHeap -> Prop} (k : Cd fns summ ro x a h (nxt (fun a h => Cd fns summ ro y a h Q) Q)) : Cd fns summ ro (.seq x y) a h Q := by
 refine Ev.bind (fun n m hnm => zCZ (zES fns summ hnm) ro x a h) (Ev.mono k fun p hp => ?_)
 obtain ⟨e, a1, h1⟩ := p
 cases e
 ·exact hp
 ·exact zAm hp
 ·exact zAm hp
theorem zJO {c : AOpd} {x y : ACode} {a : AAct} {h : AHeap} {b : Bool} {Q : AExit -> AAct -> AHeap -> Prop} (hc : ev a c = some (.bool b)) (h1 : b = true -> Cd fns summ ro x a h Q) (h2 : b = false -> Cd fns summ ro y a h Q) : Cd fns summ ro (.cond c x y) a h Q := by
 cases b with
 | true => have := h1 rfl; unfold Cd CodeW Ev at *; simpa only [zCe, hc] using this
 | false => have := h2 rfl; unfold Cd CodeW Ev at *; simpa only [zCe, hc] using this
theorem zAJ {c : AOpd} {x y : ACode} {a : AAct} {h : AHeap} {Q : AExit -> AAct -> AHeap -> Prop} (hc : ev a c = some (.bool true)) (h1 : Cd fns summ ro x a h Q) : Cd fns summ ro (.cond c x y) a h Q := zJO hc (fun _ => h1) (fun h => by cases h)
theorem zAL {c : AOpd} {x y : ACode} {a : AAct} {h : AHeap} {Q : AExit -> AAct -> AHeap -> Prop} (hc : ev a c = some (.bool false)) (h1 : Cd fns summ ro y a h Q) : Cd fns summ ro (.cond c x y) a h Q := zJO hc (fun h => by cases h) (fun _ => h1)
theorem zBy {id : Nat} {c : ACode} {a : AAct} {h : AHeap} {Q : AExit -> AAct -> AHeap -> Prop} (k : Cd fns summ ro c a h (blk id Q)) : Cd fns summ ro (.block id c) a h Q := by
 refine Ev.bind (fun n m hnm => zCZ (zES fns summ hnm) ro c a h) (Ev.mono k fun p hp => zAm ?_)
 obtain ⟨e, a1, h1⟩ := p
 cases e with
 | normal => exact hp
 | ret => exact hp
 | exit i =>
  simp only [blk] at hp
  by_cases hi : i = id
  ·rw [if_pos hi] at hp
   have : Nat.beq i id = true := by rw [hi]; exact Nat.beq_refl id
   simp only [this]
   exact hp
  ·rw [if_neg hi] at hp
   have : Nat.beq i id = false := by
    cases e : Nat.beq i id
    ·rfl
    ·exact absurd (Nat.eq_of_beq_eq_true e) hi
   simp only [this]
   exact hp
theorem cd_loop1 {c : ACode} {a : AAct} {h : AHeap} {Q : AExit -> AAct -> AHeap -> Prop} (k : Cd fns summ ro c a h (nxt (fun a h => Cd fns summ ro (.loop c) a h Q) Q)) : Cd fns summ ro (.loop c) a h Q := by
 refine Ev.bind (fun n m hnm => zCZ (zES fns summ hnm) ro c a h) (Ev.mono k fun p hp => ?_)
 obtain ⟨e, a1, h1⟩ := p
 cases e
 ·exact zGN hp
 ·exact zAm hp
 ·exact zAm hp
theorem zDM {c : ACode} {Q : AExit -> AAct -> AHeap -> Prop} (I : Nat -> AAct -> AHeap -> Prop) (step : ∀ n a h, I n a h -> Cd fns summ ro c a h (nxt (fun a h => ∃ m, m < n /\ I m a h) Q)) :
  ∀ {n : Nat} {a : AAct} {h : AHeap}, I n a h -> Cd fns summ ro (.loop c) a h Q := by
 intro n
 induction n using Nat.strongRecOn with
 | _ n ih =>
  intro a h hi
  refine cd_loop1 ((step n a h hi).mono fun e a1 h1 hq => ?_)
  cases e with
  | normal => obtain ⟨m, hm, hI⟩ := hq; exact ih m hm hI
  | ret => exact hq
  | exit i => exact hq

theorem zAC {a : AAct} {h : AHeap} {K : AAct -> AHeap -> Prop} (k : K a h) : St fns summ ro [] a h K := zAm k
theorem zJy {s : Step} {l : List Step} {a : AAct} {h : AHeap} {K : AAct -> AHeap -> Prop} (k : StepW fns summ ro s a h fun p => St fns summ ro l p.1 p.2 K) : St fns summ ro (s :: l) a h K :=
 Ev.bind (fun n m hnm => zMU (zES fns summ hnm) ro a h s) k
theorem st_q {d : Option Tmp} {op : QOp} {l : List Step} {a : AAct} {h : AHeap} {K : AAct -> AHeap -> Prop} {v : AVal} {b : Option Nat} (hv : qA a h op = some (v, b)) (k : St fns summ ro l (putA a d v) h K) :
  St fns summ ro (⟨d, none, .q op⟩ :: l) a h K := by
 refine zJy ?_
 unfold StepW
 simp only [zFi, zDY, hv]
 exact zAm k
theorem st_qg {d : Option Tmp} {t : Tmp} {w : Bool} {op : QOp} {l : List Step} {a : AAct} {h : AHeap} {K : AAct -> AHeap -> Prop} {c : AVal} (hg : a.tmps.get t = some c)
  (k1 : c = .bool w -> ∃ v b, qA a h op = some (v, b) /\ St fns summ ro l (putA a d v) h K) (k2 : (c = .bool (!w) \/ c = .tuple []) -> St fns summ ro l (putA a d (.tuple [])) h K) (k3 : c = .bool w \/ c = .bool (!w) \/ c = .tuple []) :
  St fns summ ro (⟨d, some (t, w), .q op⟩ :: l) a h K := by
 refine zJy ?_
 unfold StepW
 rcases k3 with rfl | hc | hc
 ·obtain ⟨v, b, hv, k⟩ := k1 rfl
  simp only [zFi, zDY, hg, hv, beq_self_eq_true]
  exact zAm k
 ·have k := k2 (.inl hc)
  subst hc
  have : ((!w) == w) = false := by cases w <;> rfl
  simp only [zFi, zDY, hg, this]
  exact zAm k
 ·have k := k2 (.inr hc)
  subst hc
  simp only [zFi, zDY, hg]
  exact zAm k
theorem st_e {d : Option Tmp} {op : EOp} {l : List Step} {a : AAct} {h : AHeap} {K : AAct -> AHeap -> Prop} (k : Ex fns summ ro a h d op fun a h => St fns summ ro l a h K) :
  St fns summ ro (⟨d, none, .e op⟩ :: l) a h K := by
 refine zJy ?_
 unfold StepW
 simp only [zFi, zDY]
 exact k
theorem st_eg {d : Option Tmp} {t : Tmp} {w : Bool} {op : EOp} {l : List Step} {a : AAct} {h : AHeap} {K : AAct -> AHeap -> Prop} {c : AVal} (hg : a.tmps.get t = some c)
  (k1 : c = .bool w -> Ex fns summ ro a h d op fun a h => St fns summ ro l a h K) (k2 : (c = .bool (!w) \/ c = .tuple []) -> St fns summ ro l (putA a d (.tuple [])) h K) (k3 : c = .bool w \/ c = .bool (!w) \/ c = .tuple []) :
  St fns summ ro (⟨d, some (t, w), .e op⟩ :: l) a h K := by
 refine zJy ?_
 unfold StepW
 rcases k3 with rfl | hc | hc
 ·have k := k1 rfl
  simp only [zFi, zDY, hg, beq_self_eq_true]
  exact k
 ·have k := k2 (.inl hc)
  subst hc
  have : ((!w) == w) = false := by cases w <;> rfl
  simp only [zFi, zDY, hg, this]
  exact zAm k
 ·have k := k2 (.inr hc)
  subst hc
  simp only [zFi, zDY, hg]
  exact zAm k

theorem zBz {hs : List Held} {a : AAct} {h : AHeap} {K : AAct -> AHeap -> Prop} (k : K a h) : Dr fns summ ro [] hs a h K := zAm k
theorem dr_q {i p : Nat} {d : Option Tmp} {op : QOp} {l : List DStep} {hs : List Held} {a : AAct} {h : AHeap} {K : AAct -> AHeap -> Prop} {v : AVal} (hv : qA a h op = some (v, none)) (k : Dr fns summ ro l hs (putA a d v) h K) :
  Dr fns summ ro (⟨i, p, ⟨d, none, .q op⟩⟩ :: l) hs a h K := by
 unfold Dr DrawW at *
 simp only [zCf, zDY, hv]
 exact k
theorem zCs {i p : Nat} {d : Option Tmp} {op : QOp} {l : List DStep} {hs : List Held} {a : AAct} {h : AHeap} {K : AAct -> AHeap -> Prop} {v : AVal} {id ver : Nat} {o : AObj} (hv : qA a h op = some (v, some id)) (ho : h.objs.get id = some (ver, o))
  (k : Dr fns summ ro l ({ i := i, id, ver } :: hs) (putA a d v) h K) :
  Dr fns summ ro (⟨i, p, ⟨d, none, .q op⟩⟩ :: l) hs a h K := by
 unfold Dr DrawW at *
 simp only [zCf, zDY, hv, ho]
 exact k
@[simp] theorem dropH_nil (m : Nat) : zGM m [] = [] := rfl
@[simp] theorem dropH_cons (m : Nat) (k : Held) (r : List Held) : zGM m (k :: r) = if m.testBit k.i = true then zGM m r else k :: zGM m r := by
 simp only [zGM]
 cases m.testBit k.i <;> rfl
theorem dr_e {i p : Nat} {d : Option Tmp} {op : EOp} {l : List DStep} {hs : List Held} {a : AAct} {h : AHeap} {K : AAct -> AHeap -> Prop} (k : Ex fns summ ro a h d op fun a h => zAf h p hs = true /\ Dr fns summ ro l (zGM p hs) a h K) :
  Dr fns summ ro (⟨i, p, ⟨d, none, .e op⟩⟩ :: l) hs a h K := by
 unfold Dr DrawW at *
 simp only [zCf, zDY]
 refine Ev.bind (fun n m hnm => eA_le (zES fns summ hnm) ro a h d op) (Ev.mono k fun q hq => ?_)
 simp only [hq.1]
 exact hq.2
theorem dr_g {s : DStep} {t : Tmp} {w : Bool} {l : List DStep} {hs : List Held} {a : AAct} {h : AHeap} {K : AAct -> AHeap -> Prop} {c : AVal} (hgd : s.st.guard = some (t, w)) (hg : a.tmps.get t = some c)
  (k1 : c = .bool w -> Dr fns summ ro ({ s with st := { s.st with guard := none } } :: l) hs a h K) (k2 : (c = .bool (!w) \/ c = .tuple []) -> Dr fns summ ro l hs (putA a s.st.dst (.tuple [])) h K) (k3 : c = .bool w \/ c = .bool (!w) \/ c = .tuple []) :
  Dr fns summ ro (s :: l) hs a h K := by
 unfold Dr DrawW at *
 rcases k3 with rfl | hc | hc
 ·have k := k1 rfl
  simp only [zCf, zDY] at k
  simp only [zCf, hgd, zDY, hg, beq_self_eq_true]
  exact k
 ·have k := k2 (.inl hc)
  subst hc
  have : ((!w) == w) = false := by cases w <;> rfl
  simp only [zCf, hgd, zDY, hg, this]
  exact k
 ·have k := k2 (.inr hc)
  subst hc
  simp only [zCf, hgd, zDY, hg]
  exact k

theorem ex_turn {op : EOp} {dst : Option Tmp} {a : AAct} {h : AHeap} {K : AAct -> AHeap -> Prop} (h1 : ∀ f xs, op ≠ .call f xs) (h2 : ∀ f xs, op ≠ .defer f xs) {v : AVal} {h' : AHeap} (ht : zBU a h op = .ret (v, h')) (k : K (putA a dst v) h') : Ex fns summ ro a h dst op K := by
 unfold Ex EW
 cases op <;> first | exact absurd rfl (h1 _ _) | exact absurd rfl (h2 _ _) | (simp only [eA, ht, D.bind_ret]; exact zAm k)
theorem ex_turns {op : EOp} {dst : Option Tmp} {a : AAct} {h : AHeap} {K : AAct -> AHeap -> Prop} (h1 : ∀ f xs, op ≠ .call f xs) (h2 : ∀ f xs, op ≠ .defer f xs) (ht : (zBU a h op).sat fun p => K (putA a dst p.1) p.2) : Ex fns summ ro a h dst op K := by
 unfold Ex EW
 cases op <;> first | exact absurd rfl (h1 _ _) | exact absurd rfl (h2 _ _) | (simp only [eA]; exact zAm ((D.sat_bind _ _ _).2 ht))
theorem zFy {f : AOpd} {xs : List AOpd} {dst : Option Tmp} {a : AAct} {h : AHeap} {K : AAct -> AHeap -> Prop} {fv : AVal} {vs : List AVal} (hf : ev a f = some fv) (hv : evs a xs = some vs) (k : Cv fns summ fv vs h fun v h => K (putA a dst v) h) :
  Ex fns summ ro a h dst (.call f xs) K := by
 unfold Ex EW
 simp only [eA, hf, hv]
 exact Ev.bind (fun n m hnm => zKL (zES fns summ hnm) _ _ _) (Ev.mono k fun p hp => zAm hp)
theorem zGm {g : FuncId} {first captured args : List AVal} {h : AHeap} {K : AVal -> AHeap -> Prop} (k : Cl fns summ g (first ++ args ++ captured) h K) : Cv fns summ (.func g first captured) args h K := k
theorem zDh {f : FuncId} {args : List AVal} {h : AHeap} {d : D (AVal × AHeap)} {K : AVal -> AHeap -> Prop} (hs : summ f args h = some d) (k : d.sat fun p => K p.1 p.2) : Cl fns summ f args h K := by
 refine zGN ?_
 unfold Ev
 simp only [run, zIZ, hs]
 exact zAm k
theorem zOC {h : AHeap} {K : AHeap -> Prop} (k : K h) : Lv fns summ [] h K := zAm k
theorem zKc {r ver : Nat} {ds : List ADef} {h : AHeap} {K : AHeap -> Prop} (hr : h.objs.get r = some (ver, .dfr false)) (k : Lv fns summ ds (zAd h r (.dfr true)) K) : Lv fns summ (.collected r :: ds) h K := by
 unfold Lv at *
 simp only [zEK, hr]
 exact k
def fin (fns : FnsT) (summ : SumT) (rs : List ARes) (K : AVal -> AHeap -> Prop) : AExit -> AAct -> AHeap -> Prop
 | .exit _, _, _ => False
 | _, a, h => Lv fns summ a.defers h fun h => ∃ v, zCD a h rs = some v /\ K v h
theorem cl_enter {f : FuncId} {args : List AVal} {h : AHeap} {K : AVal -> AHeap -> Prop} {fn : AFunc} {t : T AVal} (hs : summ f args h = none) (hf : fns f = some fn) (hr : fn.recovers = none) (ht : zBb .leaf (List.range args.length) args = some t)
  (k : Cd fns summ none fn.body { tmps := t, defers := [] } h (fin fns summ fn.results K)) : Cl fns summ f args h K := by
 refine zGN (zGN ?_)
 simp only [run, zIZ, hs, hf, hr, ht]
 refine Ev.bind (fun n m hnm => zCZ (zES fns summ hnm) none fn.body _ h) (Ev.mono k fun p hp => ?_)
 obtain ⟨e, a1, h1⟩ := p
 have go : ∀ {h1 : AHeap}, (Lv fns summ a1.defers h1 fun h => ∃ v, zCD a1 h fn.results = some v /\ K v h) -> Ev (fun n => (zEK fns (run fns summ (n + 1)) a1.defers h1).bind fun h => (match zCD a1 h fn.results with | some v => .ret (v, h) | none => .fail : D (AVal × AHeap))) fun p => K p.1 p.2 := by
  intro h1 hl
  refine Ev.bind (fun n m hnm => zGT (zES fns summ (by omega)) _ _) ?_
  obtain ⟨n, hn⟩ := hl
  refine ⟨n, fun m hm => D.sat_mono (hn (m + 1) (by omega)) fun h2 hq => ?_⟩
  obtain ⟨v, hv, hk⟩ := hq
  simp only [hv]
  exact zAm hk
 cases e with
 | normal => exact go hp
 | ret => exact go hp
 | exit i => exact hp.elim
theorem zAI {rs : List ARes} {K : AVal -> AHeap -> Prop} {a : AAct} {h : AHeap} {v : AVal} (hd : a.defers = []) (hv : zCD a h rs = some v) (k : K v h) : fin fns summ rs K .ret a h := by
 show Lv fns summ a.defers h _
 rw [hd]
 exact zOC ⟨v, hv, k⟩
theorem zMh {rs : List ARes} {K : AVal -> AHeap -> Prop} {a : AAct} {h : AHeap} {v : AVal} (hd : a.defers = []) (hv : zCD a h rs = some v) (k : K v h) : fin fns summ rs K .normal a h := by
 show Lv fns summ a.defers h _
 rw [hd]
 exact zOC ⟨v, hv, k⟩
end
end Go.Ab
end
