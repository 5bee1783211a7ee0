import Derived.Test.YtapnoohglfhgeaaGreatDoorP05
import Derived.Test.YtapnoohglfhgeaaGreatDoorP06
/-
  Part 7 of the proof.
-/
set_option linter.all false
section
/-
  Drawn regions: blocks laid early are told of; what the machine does.
-/
namespace Go.Ab
open Go.RowKit (Below)

section
variable {P : Program} {N : Nat} {w0 : World} {S : Self} {ro rv : Option Nat} {ops : Array Oper} {l : List DStep} {fl M : Nat} {ag0 : Act} {Gs : GM} {hs : AHeap} {ws : World} {Q : AAct × AHeap → Prop}
  {C : Nat → Prop} {L : Nat} {is : List Nat} {held : List Held} {a : AAct} {h : AHeap} {G : GM} {ag : Act} {w : World} {val : Nat → Value} {agp : Act} {fb : Nat → Nat}

/-- The small language tells of a block that the machine has laid. -/
theorem Inv.commit (hF : Fit P M ops l fl) (hsz : M ≤ ag0.tmps.size) {i : Nat} (hI : Inv P N w0 S ro ops l fl M ag0 Gs hs ws Q C L (i :: is) held a h G ag w val agp fb) (hf : fl.testBit i = true) (hC : C i) :
    ∃ a' h' G' val' agp', Inv P N w0 S ro ops l fl M ag0 Gs hs ws Q C (L ||| 2 ^ i) is held a' h' G' ag w val' agp' fb := by
  obtain ⟨plan, hm, hsat⟩ := hI.sat
  obtain ⟨y, zs, h1, h2, rfl⟩ := mapO_cons hm
  obtain ⟨s, hck, hchk⟩ := chkP_cons (ops := ops) hI.chk
  have hsl := hck.get
  have : y = s := Option.some.inj (h1.symm.trans hsl)
  subst this
  obtain ⟨o, st, ho, hcs, rfl⟩ := hF.getI hsl
  obtain ⟨hdst, hgd, hop⟩ := cStep_spec hcs
  have hlt : ∀ t, o.dst = some t → t < ag0.tmps.size := fun t ht => Nat.lt_of_lt_of_le ((cDst_spec hdst).2 t ht) hsz
  obtain ⟨s2, h3, hal⟩ := hF.floatS i hf
  rw [hsl] at h3; cases h3
  obtain ⟨hE, hgn, e, hse, halE⟩ := isAl_isE hal
  have hpr : ∀ j, Pr ops i j → L.testBit j = true := fun j ⟨o', ho', hb⟩ => by
    rw [ho] at ho'; cases ho'
    exact hck.pred j hb
  have hce : cE P o.op = some e := by
    have hse' : st.op = .e e := hse
    rw [hop] at hse'
    unfold cOp at hse'
    split at hse'
    · cases hse'
    · split at hse'
      · rename_i e' he'; injection hse' with hse'; subst hse'; exact he'
      · cases hse'
  have hgn' : st.guard = none := hgn
  have hse' : st.op = .e e := hse
  simp only [drawA, hgn', wantA, hse'] at hsat
  rw [eA_al halE, D.sat_bind, D.sat_bind] at hsat
  obtain ⟨obj, vf, v, h', hfo, hq, had⟩ := float_ir (N := N) (w0 := w0) (Gs := Gs) (hs := hs) (ws := ws) hI.rel.glob hI.act hce hse hal hsat
  obtain ⟨o', Ck, valk, agk, obj', vf', ho', haa, hcl, hpk, hnk, hCk, hvk, hfo', hvb, hwb, hNb, hsb, hun⟩ := hI.frec i hC hck.new
  rw [ho] at ho'; cases ho'
  have hlook : ∀ t, t ∈ lookL ops.toList o → agp.tmps[t]? = agk.tmps[t]? := fun t ht => hI.aaL.look hF haa hI.clL hcl ho hck.new hnk hpr hpk (fun k hk => hvk k (hpk k hk)) ht
  have hfo2 : FO P o agp.eval obj' vf' := hfo'.congr (fun cs b => hF.nosel i o cs b ho) (fun x hx => (eval_same hlook x hx).symm)
  obtain ⟨rfl, hvf⟩ := hfo.unique hfo2
  obtain ⟨G', hR', hE', hg', hv', hkeep, hfrom⟩ := had (w := w) (fb i) hI.rel hI.ext hwb hNb hsb hun
  have hvi : VR P G' v (val i) := by rw [hvb, ← hvf]; exact hv'
  simp only [D.sat_ret] at hq
  split at hq
  · refine ⟨putA a st.dst v, h', G', val, agp.put o.dst (val i), ⟨⟨zs, h2, hq⟩, hchk, hR', hE', (hI.act.mono hg').put hdst hvi, ?_, hI.aaC, ?_, hI.clC, ?_, ?_, ?_, ?_, ?_, ?_⟩⟩
    · refine (hI.aaL.put hF ho hlt hck.new (val i)).congr (fun k => ?_) (fun k _ => ?_)
      · rw [bit_add]
      · by_cases hki : k = i
        · subst hki; exact upd_same
        · exact upd_ne hki
    · have : (agp.put o.dst (val i)).defers = agp.defers := by cases o.dst <;> rfl
      rw [this]; exact hI.defs
    · intro k j hk hp
      rw [bit_add] at hk ⊢
      rcases hk with hk | rfl
      · exact .inl (hI.clL k j hk hp)
      · exact .inl (hpr j hp)
    · intro k s2 hk hc hs2
      rw [bit_add] at hk
      rcases hk with hk | rfl
      · exact hI.eff k s2 hk hc hs2
      · exact absurd hC hc
    · intro k hc hk
      exact hI.flo k hc fun hh => hk (bit_add.2 (.inl hh))
    · intro k hk hc
      have hk' : L.testBit k = true := by
        rw [bit_add] at hk
        rcases hk with hk | rfl
        · exact hk
        · exact absurd hC hc
      refine (hI.pend k hk' hc).step (fun j hj => bit_add.2 (.inl hj)) (fun _ _ => rfl) rfl fun b ver ob hb hm => ⟨⟨ob, hkeep _ _ hb, hm⟩, fun w2 hl b' hb' gi hg => hl b' hb' gi (hg' _ _ hg)⟩
    · intro k hc hk
      have hk' : ¬ L.testBit k = true := fun hh => hk (bit_add.2 (.inl hh))
      have hki : k ≠ i := fun hh => hk (bit_add.2 (.inr hh))
      refine (hI.frec k hc hk').step (fun _ hj => hj) (fun _ _ => rfl) rfl rfl rfl fun id x gi hx hg => ?_
      rcases hfrom id x gi hx hg with hh | ⟨hx', hg2⟩
      · rw [hh]
        exact fun hbb => hki (hI.fdis k i hc hk' hC hck.new hbb.symm)
      · obtain ⟨_, _, _, _, _, _, _, _, _, _, _, _, _, _, _, _, _, _, hun2⟩ := hI.frec k hc hk'
        exact hun2 id x gi hx' hg2
    · intro k k' hc hk hc' hk' he
      exact hI.fdis k k' hc (fun hh => hk (bit_add.2 (.inl hh))) hc' (fun hh => hk' (bit_add.2 (.inl hh))) he
  · cases hq

/-- The machine does an operation that the small language has done. -/
theorem Inv.late (hF : Fit P M ops l fl) (hsz : M ≤ ag0.tmps.size) (hI : Inv P N w0 S ro ops l fl M ag0 Gs hs ws Q C L is held a h G ag w val agp fb) {i : Nat} {o : Oper} (ho : ops[i]? = some o) (hC : ¬ C i) (hpr : ∀ j, Pr ops i j → C j) (hL : L.testBit i = true)
    {QQ : Exit → Act → World → Prop} {K : Act → World → Prop} (hK : ∀ ag', Inv P N w0 S ro ops l fl M ag0 Gs hs ws Q (fun k => C k ∨ k = i) L is held a h G ag' w val agp fb → K ag' w) : wpOpIn (FR rv) 0 P ops QQ i K ag w := by
  obtain ⟨st, hcs, hli⟩ := hF.step i o ho
  obtain ⟨hdst, hgd, hop⟩ := cStep_spec hcs
  have hlt : ∀ t, o.dst = some t → t < ag0.tmps.size := fun t ht => Nat.lt_of_lt_of_le ((cDst_spec hdst).2 t ht) hsz
  obtain ⟨o', Lk, valk, agk, ho', haa, hcl, hpk, hnk, hLk, hvk, hcase⟩ := hI.pend i hL hC
  rw [ho] at ho'; cases ho'
  have hlook : ∀ t, t ∈ lookL ops.toList o → ag.tmps[t]? = agk.tmps[t]? := fun t ht => hI.aaC.look hF haa hI.clC hcl ho hC hnk hpr hpk (fun k hk => hvk k (hpk k hk)) ht
  have hnext : K (ag.put o.dst (val i)) w := by
    refine hK _ ⟨hI.sat, hI.chk, hI.rel, hI.ext, hI.act, hI.aaL, ?_, ?_, ?_, hI.clL, ?_, ?_, ?_, ?_, ?_⟩
    · refine (hI.aaC.put hF ho hlt hC (val i)).congr (fun _ => Iff.rfl) (fun k _ => ?_)
      by_cases hki : k = i
      · subst hki; exact upd_same
      · exact upd_ne hki
    · have : (ag.put o.dst (val i)).defers = ag.defers := by cases o.dst <;> rfl
      rw [this]; exact hI.defs
    · intro k j hk hp
      rcases hk with hk | rfl
      · exact .inl (hI.clC k j hk hp)
      · exact .inl (hpr j hp)
    · intro k s hk hc hs
      exact hI.eff k s hk (fun hh => hc (.inl hh)) hs
    · intro k hc hk
      rcases hc with hc | rfl
      · exact hI.flo k hc hk
      · exact absurd hL hk
    · intro k hk hc
      exact hI.pend k hk (fun hh => hc (.inl hh))
    · intro k hc hk
      rcases hc with hc | rfl
      · obtain ⟨o2, Ck, valk2, agk2, obj, vf, h1, h2, h3, h4, h5, h6, h7⟩ := hI.frec k hc hk
        exact ⟨o2, Ck, valk2, agk2, obj, vf, h1, h2, h3, h4, h5, fun j hj => .inl (h6 j hj), h7⟩
      · exact absurd hL hk
    · intro k k' hc hk hc' hk' he
      rcases hc with hc | rfl
      · rcases hc' with hc' | rfl
        · exact hI.fdis k k' hc hk hc' hk' he
        · exact absurd hL hk'
      · exact absurd hL hk
  unfold wpOpIn
  simp only [ho]
  rw [wanted_same hlook]
  rcases hcase with ⟨hw, hv⟩ | ⟨hw, hnd, id, hrun, _⟩
  · rw [hw]
    rw [hv] at hnext
    exact ⟨fun _ _ => trivial, hnext⟩
  · rw [hw, if_pos rfl]
    refine ⟨fun _ _ => trivial, ?_⟩
    rw [Oper.semAt_eq _ _ _ hnd, execOp_congr o (fun cs b => hF.nosel i o cs b ho) (eval_same hlook), hrun w (fun _ _ _ _ => rfl)]
    exact hnext

/-- The machine lays a block early. -/
theorem Inv.lay (hF : Fit P M ops l fl) (hsz : M ≤ ag0.tmps.size) (hI : Inv P N w0 S ro ops l fl M ag0 Gs hs ws Q C L is held a h G ag w val agp fb) {i : Nat} {o : Oper} (ho : ops[i]? = some o) (hC : ¬ C i) (hpr : ∀ j, Pr ops i j → C j) (hf : fl.testBit i = true)
    {QQ : Exit → Act → World → Prop} {K : Act → World → Prop} (hK : ∀ ag' w' val' fb', Inv P N w0 S ro ops l fl M ag0 Gs hs ws Q (fun k => C k ∨ k = i) L is held a h G ag' w' val' agp fb' → K ag' w') : wpOpIn (FR rv) 0 P ops QQ i K ag w := by
  obtain ⟨st, hcs, hli⟩ := hF.step i o ho
  obtain ⟨hdst, hgd, hop⟩ := cStep_spec hcs
  have hlt : ∀ t, o.dst = some t → t < ag0.tmps.size := fun t ht => Nat.lt_of_lt_of_le ((cDst_spec hdst).2 t ht) hsz
  obtain ⟨s2, h3, hal⟩ := hF.floatS i hf
  have hli' := hli
  rw [hli] at h3; cases h3
  obtain ⟨hE, hgn, e, hse, halE⟩ := isAl_isE hal
  have hnL : ¬ L.testBit i = true := fun hh => by
    have := hI.eff i _ hh hC hli
    simp only at this hE
    rw [hE] at this; cases this
  have hprL : ∀ j, Pr ops i j → L.testBit j = true := fun j hj => by
    have h4 := hF.floatP i j hf hj
    cases hb : L.testBit j with
    | true => rfl
    | false =>
      have := hI.flo j (hpr j hj) (by rw [hb]; simp)
      rw [h4] at this; cases this
  have hce : cE P o.op = some e := by
    have hse' : st.op = .e e := hse
    rw [hop] at hse'
    unfold cOp at hse'
    split at hse'
    · cases hse'
    · split at hse'
      · rename_i e' he'; injection hse' with hse'; subst hse'; exact he'
      · cases hse'
  obtain ⟨plan, hm, hsat⟩ := hI.sat
  obtain ⟨a', h', hag, hta⟩ := ahead hF ho hli hse hgn halE hI.chk hm hsat hnL hprL
  have hta' := turnA_agree (h := h) hce halE hag hta
  obtain ⟨obj, vf, v, h'', hfo, _, _⟩ := float_ir (N := N) (w0 := w0) (Gs := Gs) (hs := hs) (ws := ws) hI.rel.glob hI.act hce hse hal hta'
  have hlook : ∀ t, t ∈ lookL ops.toList o → agp.tmps[t]? = ag.tmps[t]? := fun t ht => hI.aaL.look hF hI.aaC hI.clL hI.clC ho hnL hC hprL hpr (fun k hk => rfl) ht
  have hfo2 : FO P o ag.eval obj vf := hfo.congr (fun cs b => hF.nosel i o cs b ho) (eval_same hlook)
  have hnd : ∀ c, o.op ≠ .defer c := fun c hc => by
    rw [hc] at hce
    simp only [cE] at hce
    split at hce
    · split at hce
      · simp only [Option.some.injEq] at hce; subst hce; cases halE
      · cases hce
    · cases hce
  obtain ⟨hR', hE'⟩ := hI.rel.extra (w' := w.alloc obj) (fun b hb => heap_alloc_lt hb) ((Below.refl N w).alloc hI.rel.size _)
  have hnext : K (ag.put o.dst (vf w.heap.size)) (w.alloc obj) := by
    have hvalL : ∀ j, L.testBit j = true → upd val i (vf w.heap.size) j = val j := fun j hj => upd_ne fun hh => hnL (hh ▸ hj)
    have hvalC : ∀ j, C j → upd val i (vf w.heap.size) j = val j := fun j hj => upd_ne fun hh => hC (hh ▸ hj)
    have hfbC : ∀ j, C j → (fun k => if k = i then w.heap.size else fb k) j = fb j := fun j hj => by
      have hji : j ≠ i := fun hh => hC (hh ▸ hj)
      simp [hji]
    have hfblt : ∀ k, C k → ¬ L.testBit k = true → fb k < w.heap.size := fun k hc hk => by
      obtain ⟨_, _, _, _, _, _, _, _, _, _, _, _, _, _, _, hwb, _⟩ := hI.frec k hc hk
      exact lt_of_heap hwb
    refine hK _ _ (upd val i (vf w.heap.size)) (fun k => if k = i then w.heap.size else fb k) ⟨hI.sat, hI.chk, hR', hI.ext.trans hE', hI.act, ?_, ?_, ?_, ?_, hI.clL, ?_, ?_, ?_, ?_, ?_⟩
    · exact hI.aaL.congr (fun _ => Iff.rfl) fun k hk => (hvalL k hk).symm
    · exact hI.aaC.put hF ho hlt hC _
    · have : (ag.put o.dst (vf w.heap.size)).defers = ag.defers := by cases o.dst <;> rfl
      rw [this]; exact hI.defs
    · intro k j hk hp
      rcases hk with hk | rfl
      · exact .inl (hI.clC k j hk hp)
      · exact .inl (hpr j hp)
    · intro k s hk hc hs
      exact hI.eff k s hk (fun hh => hc (.inl hh)) hs
    · intro k hc hk
      rcases hc with hc | rfl
      · exact hI.flo k hc hk
      · exact hf
    · intro k hk hc
      have hki : k ≠ i := fun hh => hc (.inr hh)
      refine (hI.pend k hk (fun hh => hc (.inl hh))).step (fun _ hj => hj) hvalL (upd_ne hki) fun b ver ob hb hm => ⟨⟨ob, hb, hm⟩, fun w2 hl b' hb' gi hg => ?_⟩
      rw [hl b' hb' gi hg]
      cases hb'
      obtain ⟨gi', hg', ob', hob', _⟩ := hI.rel.obj b ver ob hb
      rw [hg] at hg'; cases hg'
      exact heap_alloc_lt (lt_of_heap hob')
    · intro k hc hk
      by_cases hki : k = i
      · subst hki
        refine ⟨o, C, val, ag, obj, vf, ho, hI.aaC, hI.clC, hpr, hC, fun j hj => .inl hj, hvalC, hfo2, ?_, ?_, ?_, ?_, ?_⟩
        · simp only [if_true]; exact upd_same
        · simp only [if_true]; exact heap_alloc_new _ _
        · simp only [if_true]; exact hI.rel.size
        · simp only [if_true]; exact hI.ext.size
        · simp only [if_true]
          intro id x gi hx hg hb
          obtain ⟨gi', hg', ob', hob', _⟩ := hI.rel.obj id x.1 x.2 hx
          rw [hg] at hg'; cases hg'
          have := lt_of_heap hob'
          omega
      · have hc' := hc.resolve_right hki
        refine (hI.frec k hc' hk).step (fun _ hj => .inl hj) hvalC (upd_ne hki) (hfbC k hc') (heap_alloc_lt (hfblt k hc' hk)) ?_
        obtain ⟨_, _, _, _, _, _, _, _, _, _, _, _, _, _, _, _, _, _, hun⟩ := hI.frec k hc' hk
        exact hun
    · intro k k' hc hk hc' hk' he
      by_cases hki : k = i
      · by_cases hki' : k' = i
        · rw [hki, hki']
        · rw [if_pos hki, if_neg hki'] at he
          have := hfblt k' (hc'.resolve_right hki') hk'
          omega
      · rw [if_neg hki] at he
        by_cases hki' : k' = i
        · rw [if_pos hki'] at he
          have := hfblt k (hc.resolve_right hki) hk
          omega
        · rw [if_neg hki'] at he
          exact hI.fdis k k' (hc.resolve_right hki) hk (hc'.resolve_right hki') hk' he
  unfold wpOpIn
  simp only [ho]
  have hgo : o.guard = none := by
    cases hg : o.guard with
    | none => rfl
    | some p =>
      rw [hg] at hgd
      obtain ⟨j, b⟩ := p
      have hgn' : st.guard = none := hgn
      rw [hgn'] at hgd
      simp only [cGuard] at hgd
      split at hgd
      · split at hgd <;> cases hgd
      · cases hgd
  have hw : Region.wanted o (yielded ops ag.tmps) = true := by simp [Region.wanted, hgo]
  rw [hw, if_pos rfl]
  refine ⟨fun _ _ => trivial, ?_⟩
  rw [Oper.semAt_eq _ _ _ hnd, hfo2 w]
  exact hnext
end
end Go.Ab
end
section
/-
  Drawn regions are sound.
-/
namespace Go.Ab
open Go.RowKit (Below)

theorem heldOk_spec {h : AHeap} {m : Nat} : ∀ {hs : List Held}, heldOk h m hs = true → ∀ e ∈ hs, m.testBit e.i = true ∨ ∃ ob, h.objs.get e.id = some (e.ver, ob)
  | [], _, e, he => by cases he
  | k :: r, hh, e, he => by
    simp only [heldOk, Bool.and_eq_true, Bool.or_eq_true] at hh
    rcases List.mem_cons.1 he with rfl | he
    · rcases hh.1 with h1 | h1
      · exact .inl h1
      · split at h1
        · rename_i v ob hg
          have := Nat.eq_of_beq_eq_true h1
          subst this
          exact .inr ⟨ob, hg⟩
        · cases h1
    · exact heldOk_spec hh.2 e he

theorem semAt_congr {ro : Option Nat} {ρ ρ' : Operand → Value} (o : Oper) (hs : ∀ cs b, o.op ≠ .select cs b) (h : ∀ x ∈ o.op.operands, ρ x = ρ' x) : Oper.semAt ro ρ o = Oper.semAt ro ρ' o := by
  by_cases hd : ∃ c, o.op = .defer c
  · obtain ⟨c, hc⟩ := hd
    cases ro with
    | none => rw [Oper.semAt_none, Oper.semAt_none]; exact execOp_congr o hs h
    | some l =>
      have := resolve_congr (ρ := ρ) (ρ' := ρ') c o.type (fun x hx => h x (by rw [hc]; simpa [Op.operands] using hx))
      unfold Oper.semAt
      rw [hc]
      simp only [this]
  · have hd' : ∀ c, o.op ≠ .defer c := fun c hc => hd ⟨c, hc⟩
    rw [Oper.semAt_eq _ _ _ hd', Oper.semAt_eq _ _ _ hd']
    exact execOp_congr o hs h

theorem wpIn_swap {P : Program} {rv : Option Nat} {o : Oper} {ag agp : Act} {w : World} {next next' : Act → World → Prop} {QQ : Exit → Act → World → Prop} (he : o.semAt rv ag.eval = o.semAt rv agp.eval) (hdef : ag.defers = agp.defers)
    (hn : ∀ ds v w', next' (({ agp with defers := ds } : Act).put o.dst v) w' → next (({ ag with defers := ds } : Act).put o.dst v) w') (h : o.wpIn (FR rv) 0 P agp w next' (fun _ _ _ => False)) : o.wpIn (FR rv) 0 P ag w next QQ := by
  have hn0 : ∀ v w', next' (agp.put o.dst v) w' → next (ag.put o.dst v) w' := fun v w' hh => by
    have := hn agp.defers v w' hh
    rw [← hdef] at this
    exact this
  refine ⟨fun _ _ => trivial, ?_⟩
  have hh := h.2
  have he' : o.semAt (FR rv).round ag.eval = o.semAt (FR rv).round agp.eval := he
  rw [he']
  generalize (o.semAt (FR rv).round agp.eval).run P w = r at *
  cases r with
  | ok x w' =>
    cases x <;> simp only [Oper.uponIn] at hh ⊢ <;> first | exact hh.elim | skip
    case value v => exact hn0 v w' hh
    case skip => exact hn0 undef w' hh
    case defer d => rw [hdef]; exact hn _ _ w' hh
    case enter f args =>
      refine ⟨hh.1, hh.2.mono fun e w'' h2 => ?_⟩
      cases e with
      | returned v => exact hn0 v w'' h2
      | panicked c => exact h2.elim
      | outgrown => obtain ⟨_, _, h3⟩ := h2; exact h3.elim
    case row r args => exact ⟨hh.1, hh.2.mono fun v w'' h2 => hn0 v w'' h2⟩
    case round l f tmps as bd =>
      refine ⟨hh.1, hh.2.mono fun e w'' h2 => ?_⟩
      cases e with
      | returned v => exact hn0 v w'' h2
      | panicked c => exact h2.elim
      | outgrown => obtain ⟨_, _, h3⟩ := h2; exact h3.elim
  | halt x w' => cases x <;> simp only [Oper.uponIn] at hh <;> exact hh.elim

section
variable {P : Program} {N : Nat} {w0 : World} {S : Self} {ro rv : Option Nat} {ops : Array Oper} {l : List DStep} {fl M : Nat} {ag0 : Act} {Gs : GM} {hs : AHeap} {ws : World} {Q : AAct × AHeap → Prop}
  {C : Nat → Prop} {L : Nat} {is : List Nat} {held : List Held} {a : AAct} {h : AHeap} {G : GM} {ag : Act} {w : World} {val : Nat → Value} {agp : Act} {fb : Nat → Nat}

/-- Both do an operation that turns memory. -/
theorem Inv.turn (hS : SelfOK P N w0 S) (hro : roR Gs ro rv) (hF : Fit P M ops l fl) (hsz : M ≤ ag0.tmps.size) {i : Nat} (hI : Inv P N w0 S ro ops l fl M ag0 Gs hs ws Q C L (i :: is) held a h G ag w val agp fb) {o : Oper} (ho : ops[i]? = some o) (hC : ¬ C i) (hpr : ∀ j, Pr ops i j → C j)
    {s : DStep} (hsl : l[i]? = some s) (hE : isE s.st = true)
    {QQ : Exit → Act → World → Prop} {K : Act → World → Prop} (hK : ∀ ag' w' a' h' G' val' agp', Inv P N w0 S ro ops l fl M ag0 Gs hs ws Q (fun k => C k ∨ k = i) (L ||| 2 ^ i) is held a' h' G' ag' w' val' agp' fb → K ag' w') : wpOpIn (FR rv) 0 P ops QQ i K ag w := by
  obtain ⟨plan, hm, hsat⟩ := hI.sat
  obtain ⟨y, zs, h1, h2, rfl⟩ := mapO_cons hm
  rw [hsl] at h1; cases h1
  obtain ⟨s', hck, hchk⟩ := chkP_cons (ops := ops) hI.chk
  have : s' = s := Option.some.inj (hck.get.symm.trans hsl)
  subst this
  obtain ⟨o', st, ho', hcs, rfl⟩ := hF.getI hsl
  rw [ho] at ho'; cases ho'
  obtain ⟨hdst, hgd, hop⟩ := cStep_spec hcs
  have hlt : ∀ t, o.dst = some t → t < ag0.tmps.size := fun t ht => Nat.lt_of_lt_of_le ((cDst_spec hdst).2 t ht) hsz
  have hprL : ∀ j, Pr ops i j → L.testBit j = true := fun j ⟨o', ho', hb⟩ => by
    rw [ho] at ho'; cases ho'
    exact hck.pred j hb
  have hlook : ∀ t, t ∈ lookL ops.toList o → ag.tmps[t]? = agp.tmps[t]? := fun t ht => hI.aaC.look hF hI.aaL hI.clC hI.clL ho hC hck.new hpr hprL (fun k hk => rfl) ht
  have fin : ∀ (ds : List Deferred) (cv : Value) (a1 : AAct) (h1 : AHeap) (G1 : GM) (w1 : World), (drawA S ro zs held a1 h1).sat Q → Rel P N w0 G1 h1 w1 → Ext G h w G1 h1 w1 → ActR P G1 M a1 (({ agp with defers := ds } : Act).put o.dst cv) →
      (∀ k b ver ob, ¬ C k → h.objs.get b = some (ver, ob) → (⟨k, b, ver⟩ : Held) ∈ held → (∃ ob', h1.objs.get b = some (ver, ob')) ∧ ∀ gi, G b = some gi → w1.heap[gi.blk]? = w.heap[gi.blk]?) →
      K (({ ag with defers := ds } : Act).put o.dst cv) w1 := by
    intro ds cv a1 h1 G1 w1 hs1 hR1 hE1 ha1 hheld
    have hvalL : ∀ j, L.testBit j = true → upd val i cv j = val j := fun j hj => upd_ne fun hh => hck.new (hh ▸ hj)
    have hvalC : ∀ j, C j → upd val i cv j = val j := fun j hj => upd_ne fun hh => hC (hh ▸ hj)
    refine hK _ _ a1 h1 G1 (upd val i cv) (({ agp with defers := ds } : Act).put o.dst cv) ⟨⟨zs, h2, hs1⟩, hchk, hR1, hI.ext.trans hE1, ha1, ?_, ?_, ?_, ?_, ?_, ?_, ?_, ?_, ?_, ?_⟩
    · refine ((hI.aaL.defers ds).put hF ho hlt hck.new cv).congr (fun k => ?_) (fun _ _ => rfl)
      rw [bit_add]
    · exact (hI.aaC.defers ds).put hF ho hlt hC cv
    · cases o.dst <;> rfl
    · intro k j hk hp
      rcases hk with hk | rfl
      · exact .inl (hI.clC k j hk hp)
      · exact .inl (hpr j hp)
    · intro k j hk hp
      rw [bit_add] at hk ⊢
      rcases hk with hk | rfl
      · exact .inl (hI.clL k j hk hp)
      · exact .inl (hprL j hp)
    · intro k s2 hk hc hs2
      rw [bit_add] at hk
      exact hI.eff k s2 (hk.resolve_right fun hh => hc (.inr hh)) (fun hh => hc (.inl hh)) hs2
    · intro k hc hk
      rw [bit_add] at hk
      exact hI.flo k (hc.resolve_right fun hh => hk (.inr hh)) (fun hh => hk (.inl hh))
    · intro k hk hc
      rw [bit_add] at hk
      have hki : k ≠ i := fun hh => hc (.inr hh)
      have hc' : ¬ C k := fun hh => hc (.inl hh)
      refine (hI.pend k (hk.resolve_right hki) hc').step (fun j hj => bit_add.2 (.inl hj)) hvalL (upd_ne hki) fun b ver ob hb hm => ?_
      obtain ⟨⟨ob', h3⟩, h4⟩ := hheld k b ver ob hc' hb hm
      refine ⟨⟨ob', h3, hm⟩, fun w2 hl b' hb' gi hg => ?_⟩
      cases hb'
      rw [hl b rfl gi (hE1.gle _ _ hg), h4 gi hg]
    · intro k hc hk
      have hki : k ≠ i := fun hh => hk (bit_add.2 (.inr hh))
      have hk' : ¬ L.testBit k = true := fun hh => hk (bit_add.2 (.inl hh))
      have hc' := hc.resolve_right hki
      have hfr := hI.frec k hc' hk'
      obtain ⟨_, _, _, _, _, _, _, _, _, _, _, _, _, _, _, hwb, hNb, _, hun⟩ := hI.frec k hc' hk'
      have hlt := lt_of_heap hwb
      refine hfr.step (fun _ hj => .inl hj) hvalC (upd_ne hki) rfl (hE1.frame _ hlt fun id x gi hx _ hg => hun id x gi hx hg) fun id x gi hx hg hb => ?_
      cases hr : x.2.ro with
      | true =>
        have := hR1.rolow id x.1 x.2 gi hx hg hr
        omega
      | false =>
        rcases hE1.owned id x gi hx hr hg with h3 | ⟨id0, x0, gi0, h3, _, h5, h6⟩
        · omega
        · exact hun id0 x0 gi0 h3 h5 (h6.trans hb)
    · intro k k' hc hk hc' hk' he
      have hki : k ≠ i := fun hh => hk (bit_add.2 (.inr hh))
      have hki' : k' ≠ i := fun hh => hk' (bit_add.2 (.inr hh))
      exact hI.fdis k k' (hc.resolve_right hki) (fun hh => hk (bit_add.2 (.inl hh))) (hc'.resolve_right hki') (fun hh => hk' (bit_add.2 (.inl hh))) he
  unfold wpOpIn
  simp only [ho]
  rw [wanted_same hlook]
  simp only [drawA] at hsat
  split at hsat
  · rename_i hw
    rw [want_sound hI.act hgd hw, if_pos rfl]
    split at hsat
    · rename_i q hqq
      unfold isE at hE
      simp only at hE
      rw [hqq] at hE; cases hE
    · rename_i e he
      have hce : cE P o.op = some e := by
        rw [hop] at he
        unfold cOp at he
        split at he
        · cases he
        · split at he
          · rename_i e' he'; injection he with he; subst he; exact he'
          · cases he
      rw [D.sat_bind] at hsat
      have hwp := eA_sound hS (hro.mono hI.ext.gle) hI.rel hI.act hdst hce hsat (fun _ _ _ => False)
      have hag : ({ ag with defers := ag.defers } : Act) = ag := rfl
      refine wpIn_swap (semAt_congr o (fun cs b => hF.nosel i o cs b ho) (eval_same hlook)) hI.defs (fun ds v w1 hp => ?_) hwp
      obtain ⟨a1, h1, G1, hq, hR1, hE1, ha1⟩ := hp
      simp only at hq
      split at hq
      · rename_i hheld
        refine fin ds v a1 h1 G1 w1 hq hR1 hE1 ha1 fun k b ver ob hc hb hm => ?_
        rcases heldOk_spec hheld _ hm with h3 | ⟨ob', h3⟩
        · exact absurd (hpr k ⟨o, ho, h3⟩) hc
        · refine ⟨⟨ob', h3⟩, fun gi hg => ?_⟩
          rcases hE1.same b ver ob' h3 with h4 | ⟨_, h5⟩
          · have := hI.rel.vers b ver ob hb
            omega
          · exact h5 gi hg
      · cases hq
  · rename_i hw
    rw [want_sound hI.act hgd hw]
    refine ⟨fun _ _ => trivial, ?_⟩
    have := fin agp.defers undef _ h G w hsat hI.rel (Ext.refl _ _ _) (hI.act.put hdst ⟨#[], rfl, rfl⟩) (fun k b ver ob _ hb _ => ⟨⟨ob, hb⟩, fun _ _ => rfl⟩)
    rw [← hI.defs] at this
    exact this
  · cases hsat

/-- The small language goes on until it has done i, or is about to. -/
theorem Inv.adv (hF : Fit P M ops l fl) (hsz : M ≤ ag0.tmps.size) {i : Nat} {o : Oper} (ho : ops[i]? = some o) (hC : ¬ C i) (hpr : ∀ j, Pr ops i j → C j) (hf : fl.testBit i = false) :
    ∀ {is : List Nat} {L : Nat} {held : List Held} {a : AAct} {h : AHeap} {G : GM} {val : Nat → Value} {agp : Act}, Inv P N w0 S ro ops l fl M ag0 Gs hs ws Q C L is held a h G ag w val agp fb → ¬ L.testBit i = true →
      ∃ L' is' held' a' h' G' val' agp', Inv P N w0 S ro ops l fl M ag0 Gs hs ws Q C L' is' held' a' h' G' ag w val' agp' fb ∧ (L'.testBit i = true ∨ ∃ r s, is' = i :: r ∧ l[i]? = some s ∧ isE s.st = true)
  | [], L, held, a, h, G, val, agp, hI, hn => by
    obtain ⟨st, _, hli⟩ := hF.step i o ho
    exact absurd (chkP_nil hI.chk _ (List.mem_of_getElem? hli)) hn
  | j :: r, L, held, a, h, G, val, agp, hI, hn => by
    obtain ⟨s, hck, hchk⟩ := chkP_cons (ops := ops) hI.chk
    obtain ⟨st, _, hli⟩ := hF.step i o ho
    have hsub : subM (predM o) (L ||| upF fl L l) = true := by
      rw [subM_iff]
      intro k hk
      have hp : Pr ops i k := ⟨o, ho, hk⟩
      rw [Nat.testBit_or, Bool.or_eq_true]
      by_cases hLk : L.testBit k = true
      · exact .inl hLk
      · right
        have hfk := hI.flo k (hpr k hp) hLk
        obtain ⟨sk, h1, _⟩ := hF.floatS k hfk
        obtain ⟨ok, stk, hok, _, rfl⟩ := hF.getI h1
        refine upF_iff.2 ⟨_, List.mem_of_getElem? h1, rfl, hfk, ?_⟩
        rw [subM_iff]
        intro k' hk'
        have hp' : Pr ops k k' := ⟨ok, hok, hk'⟩
        have hc' := hI.clC k k' (hpr k hp) hp'
        cases hb : L.testBit k' with
        | true => rfl
        | false =>
          have := hI.flo k' hc' (by rw [hb]; simp)
          rw [hF.floatP k k' hfk hp'] at this
          cases this
    cases hE : isE s.st with
    | false =>
      obtain ⟨held', a', val', agp', hI'⟩ := hI.quiet hF hsz hck.get hE
      by_cases hji : i = j
      · exact ⟨_, _, _, _, _, _, _, _, hI', .inl (bit_add.2 (.inr hji))⟩
      · exact adv hF hsz ho hC hpr hf hI' fun hh => by
          rw [bit_add] at hh
          rcases hh with hh | hh
          · exact hn hh
          · exact hji hh
    | true =>
      cases hfj : fl.testBit j with
      | true =>
        have hcj : C j := by
          have := hck.flo hfj _ (List.mem_of_getElem? hli) hf hn hsub
          exact hpr j ⟨o, ho, this⟩
        obtain ⟨a', h', G', val', agp', hI'⟩ := hI.commit hF hsz hfj hcj
        exact adv hF hsz ho hC hpr hf hI' fun hh => by
          rw [bit_add] at hh
          rcases hh with hh | hh
          · exact hn hh
          · rw [← hh, hf] at hfj; cases hfj
      | false =>
        have hij : i = j := hck.eff hfj hE _ (List.mem_of_getElem? hli) hf hn hsub
        subst hij
        exact ⟨_, _, _, _, _, _, _, _, hI, .inr ⟨r, s, rfl, hck.get, hE⟩⟩

/-- All has been done. -/
theorem Inv.done (hF : Fit P M ops l fl) (hsz : M ≤ ag0.tmps.size) (hall : ∀ i o, ops[i]? = some o → C i) :
    ∀ {is : List Nat} {L : Nat} {held : List Held} {a : AAct} {h : AHeap} {G : GM} {val : Nat → Value} {agp : Act}, Inv P N w0 S ro ops l fl M ag0 Gs hs ws Q C L is held a h G ag w val agp fb → PostA P N w0 Gs hs ws M Q ag w
  | [], L, held, a, h, G, val, agp, hI => by
    obtain ⟨plan, hm, hsat⟩ := hI.sat
    simp only [mapO, Option.some.injEq] at hm; subst hm
    have hL : ∀ k o, ops[k]? = some o → L.testBit k = true := fun k o ho => by
      obtain ⟨st, _, hli⟩ := hF.step k o ho
      exact chkP_nil hI.chk _ (List.mem_of_getElem? hli)
    have htm : ag.tmps = agp.tmps := by
      apply Array.ext_getElem?
      intro t
      exact hI.aaC.same hI.aaL fun k o ho _ => ⟨⟨fun _ => hL k o ho, fun _ => hall k o ho⟩, fun _ => rfl⟩
    have hagp : ag = agp := by
      obtain ⟨t, d⟩ := ag
      obtain ⟨t', d'⟩ := agp
      have h1 := hI.defs
      simp only at htm h1
      rw [htm, h1]
    rw [hagp]
    exact ⟨a, h, G, hsat, hI.rel, hI.ext, hI.act⟩
  | j :: r, L, held, a, h, G, val, agp, hI => by
    obtain ⟨s, hck, _⟩ := chkP_cons (ops := ops) hI.chk
    obtain ⟨o, ho⟩ := hF.lookup j s hck.get
    obtain ⟨a', h', G', val', agp', hI'⟩ := hI.commit hF hsz (hI.flo j (hall j o ho) hck.new) (hall j o ho)
    exact done hF hsz hall hI'

/-! ### Those that have come up -/
def falses : List Bool → Nat
  | [] => 0
  | false :: r => falses r + 1
  | true :: r => falses r
theorem falses_set : ∀ {l : List Bool} {i : Nat}, l[i]? = some false → falses l = falses (l.set i true) + 1
  | [], i, h => by simp at h
  | b :: r, 0, h => by simp at h; subst h; rfl
  | b :: r, i + 1, h => by
    have := falses_set (l := r) (i := i) (by simpa using h)
    cases b <;> simp [falses, this]
theorem falses_zero : ∀ {l : List Bool}, falses l = 0 → ∀ (i : Nat), l[i]? ≠ some false
  | [], _, i => by simp
  | b :: r, h, 0 => by cases b <;> simp [falses] at h ⊢
  | b :: r, h, i + 1 => by
    cases b with
    | false => simp [falses] at h
    | true => simpa using falses_zero (l := r) h i
theorem falses_replicate : ∀ n, falses (List.replicate n false) = n
  | 0 => rfl
  | n + 1 => by rw [List.replicate_succ]; simp [falses, falses_replicate n]

theorem draw_main (hS : SelfOK P N w0 S) (hro : roR Gs ro rv) (hF : Fit P M ops l fl) (hsz : M ≤ ag0.tmps.size) {QQ : Exit → Act → World → Prop} (hQ : ∀ ag' w', PostA P N w0 Gs hs ws M Q ag' w' → QQ .normal ag' w') :
    ∀ (fuel : Nat) {listed : Array Bool} {L : Nat} {is : List Nat} {held : List Held} {a : AAct} {h : AHeap} {G : GM} {ag : Act} {w : World} {val : Nat → Value} {agp : Act} {fb : Nat → Nat},
      Inv P N w0 S ro ops l fl M ag0 Gs hs ws Q (fun k => listed.getD k false = true) L is held a h G ag w val agp fb → listed.size = ops.size → falses listed.toList = fuel → wpAnyIn (FR rv) 0 P .any ops QQ fuel listed ag w := by
  intro fuel
  -- nothing is left when nothing may come up
  have stop : ∀ {listed : Array Bool}, listed.size = ops.size → Region.ready .any ops listed = [] → ∀ i o, ops[i]? = some o → listed.getD i false = true := by
    intro listed hls hr i
    induction i using Nat.strongRecOn with
    | _ i ih =>
      intro o ho
      cases hb : listed.getD i false with
      | true => rfl
      | false =>
        have hlt : i < listed.size := by
          rw [hls]
          rcases Nat.lt_or_ge i ops.size with h | h
          · exact h
          · rw [Array.getElem?_eq_none h] at ho; cases ho
        have : i ∈ Region.ready .any ops listed := by
          rw [mem_ready]
          refine ⟨?_, o, ho, fun e he hbd => ?_⟩
          · simp [hlt] at hb ⊢; exact hb
          · have hp : Pr ops i e.on := ⟨o, ho, predM_iff.2 ⟨e, he, hbd, rfl⟩⟩
            have hlt' := hF.early i e.on hp
            have : e.on < ops.size := by omega
            exact ih e.on hlt' ops[e.on] (by simp [this])
        rw [hr] at this; cases this
  induction fuel with
  | zero =>
    intro listed L is held a h G ag w val agp fb hI hls hfz
    have hr : Region.ready .any ops listed = [] := by
      cases hr : Region.ready .any ops listed with
      | nil => rfl
      | cons j r =>
        have hj : j ∈ Region.ready .any ops listed := by rw [hr]; exact List.mem_cons_self ..
        rw [mem_ready] at hj
        obtain ⟨hj0, o, ho, _⟩ := hj
        have hlt : j < listed.size := by
          rcases Nat.lt_or_ge j listed.size with h | h
          · exact h
          · simp [Array.getElem?_eq_none h] at hj0
        have : listed.toList[j]? = some false := by simp [hlt] at hj0 ⊢; exact hj0
        exact absurd this (falses_zero hfz j)
    exact ⟨hr, hQ _ _ (hI.done hF hsz (stop hls hr))⟩
  | succ fuel ih =>
    intro listed L is held a h G ag w val agp fb hI hls hfz
    refine ⟨fun hr => hQ _ _ (hI.done hF hsz (stop hls hr)), fun i hi => ?_⟩
    rw [mem_ready] at hi
    obtain ⟨hi0, o, ho, hall⟩ := hi
    have hlt : i < listed.size := by
      rcases Nat.lt_or_ge i listed.size with h | h
      · exact h
      · simp [Array.getElem?_eq_none h] at hi0
    have hC : ¬ listed.getD i false = true := by simp [hlt] at hi0 ⊢; exact hi0
    have hpr : ∀ j, Pr ops i j → listed.getD j false = true := fun j ⟨o', ho', hb⟩ => by
      rw [ho] at ho'; cases ho'
      obtain ⟨e, he, hbd, rfl⟩ := predM_iff.1 hb
      exact hall e he hbd
    have hCs : (fun k => listed.getD k false = true ∨ k = i) = fun k => (listed.setIfInBounds i true).getD k false = true := by
      funext k
      apply propext
      by_cases hk : k = i
      · subst hk; simp [hlt]
      · simp [hk, Array.getElem?_setIfInBounds_ne (Ne.symm hk)]
    have hfz' : falses (listed.setIfInBounds i true).toList = fuel := by
      have h1 : listed.toList[i]? = some false := by simp [hlt] at hi0 ⊢; exact hi0
      have h2 := falses_set h1
      rw [Array.toList_setIfInBounds]
      omega
    have hls' : (listed.setIfInBounds i true).size = ops.size := by rw [Array.size_setIfInBounds]; exact hls
    cases hf : fl.testBit i with
    | true => exact hI.lay hF hsz ho hC hpr hf fun ag' w' val' fb' hI' => ih (hCs ▸ hI') hls' hfz'
    | false =>
      have late : ∀ {L : Nat} {is : List Nat} {held : List Held} {a : AAct} {h : AHeap} {G : GM} {val : Nat → Value} {agp : Act}, Inv P N w0 S ro ops l fl M ag0 Gs hs ws Q (fun k => listed.getD k false = true) L is held a h G ag w val agp fb → L.testBit i = true →
          wpOpIn (FR rv) 0 P ops QQ i (wpAnyIn (FR rv) 0 P .any ops QQ fuel (listed.setIfInBounds i true)) ag w := fun hI2 hL => hI2.late hF hsz ho hC hpr hL fun ag' hI' => ih (hCs ▸ hI') hls' hfz'
      by_cases hL : L.testBit i = true
      · exact late hI hL
      · obtain ⟨L', is', held', a', h', G', val', agp', hI', hor⟩ := hI.adv hF hsz ho hC hpr hf hL
        rcases hor with hL' | ⟨r, s, rfl, hsl, hE⟩
        · exact late hI' hL'
        · exact hI'.turn hS hro hF hsz ho hC hpr hsl hE fun ag2 w2 a2 h2 G2 val2 agp2 hI2 => ih (hCs ▸ hI2) hls' hfz'

theorem draw_sound (hm : P.follows .mixedOrders = true) (hS : SelfOK P N w0 S) : DrawOK P N w0 S := by
  intro G h w a ag M ro rv hro hR ha id ops plan hp Q hs QQ hQ
  obtain ⟨l, fl, is, hF, hchk, hmap⟩ := cDraw_spec hp
  refine wpIn_region_any hm ?_
  have hw : ({ w with drawn := w.drawn + 1 } : World) = w.drew := rfl
  rw [hw]
  have hR' := hR.drew
  have hE' : Ext G h w G h w.drew := (Ext.refl G h w).drew
  have hrep : ∀ k, (Array.replicate ops.size false).getD k false = true ↔ False := fun k => by
    rw [Array.getD_eq_getD_getElem?]
    rcases Nat.lt_or_ge k ops.size with h | h
    · simp [h]
    · simp [h]
  refine draw_main (Gs := G) (hs := h) (ws := w.drew) (ag0 := ag) (Q := Q) hS hro hF ha.size (fun ag' w' hpost => hQ ag' w' ?_) ops.size (L := 0) (is := is) (held := []) (a := a) (h := h) (G := G) (val := fun _ => undef) (agp := ag) (fb := fun _ => 0) ?_ (by simp) (by rw [Array.toList_replicate, falses_replicate])
  · obtain ⟨a', h', G', h1, h2, h3, h4⟩ := hpost
    exact ⟨a', h', G', h1, h2, hE'.trans h3, h4⟩
  · refine ⟨⟨plan, hmap, hs⟩, hchk, hR', Ext.refl _ _ _, ha, ?_, ?_, rfl, ?_, ?_, ?_, ?_, ?_, ?_, ?_⟩
    · exact (AA.start (ops := ops) (ag0 := ag) (val := fun _ => undef)).congr (fun k => by simp) (fun _ hh => hh.elim)
    · exact (AA.start (ops := ops) (ag0 := ag) (val := fun _ => undef)).congr (fun k => (hrep k).symm) (fun _ hh => hh.elim)
    · exact fun k j hk => ((hrep k).1 hk).elim
    · exact fun k j hk => by simp at hk
    · exact fun k s hk => by simp at hk
    · exact fun k hk => ((hrep k).1 hk).elim
    · exact fun k hk => by simp at hk
    · exact fun k hk => ((hrep k).1 hk).elim
    · exact fun k k' hk => ((hrep k).1 hk).elim
end
end Go.Ab
end
section
/-
  The small language's run is the machine's.
-/
namespace Go.Ab
open Go.RowKit (Below)

section
variable {P : Program} {fns : FuncId → Option AFunc} {summ : FuncId → List AVal → AHeap → Option (D (AVal × AHeap))}

/-- **A call that the small language brings to an answer is a call that the machine brings to that answer.** -/
theorem calls_of_run {N : Nat} {w0 w : World} {G : GM} {h : AHeap} {n : Nat} {f : FuncId} {args : List AVal} {argsV : Array Value} {Q : AVal × AHeap → Prop} (hm : P.follows .mixedOrders = true) (hF : FnsOK P fns) (hM : SummOK P N w0 summ) (hR : Rel P N w0 G h w) (hv : VsR P G args argsV.toList)
    (hs : ((run fns summ n).call f args h).sat Q) : Calls P f argsV w (PostC P N w0 G h w Q) :=
  callsIn_wide.1 ((run_sound hF hM (fun _ hS => draw_sound hm hS) n).call f args h G w argsV Q hR hv hs)
end
end Go.Ab
end
section
/-
  More fuel changes no answer: what is known of a call may be said without fuel.
-/
namespace Go.Ab

/-- It comes to the same, where the other one comes to something. -/
inductive D.le {α : Type} : D α → D α → Prop
  | fail (d : D α) : D.le .fail d
  | ret (a : α) : D.le (.ret a) (.ret a)
  | ask (n : Nat) (k k' : Nat → D α) (h : ∀ i, D.le (k i) (k' i)) : D.le (.ask n k) (.ask n k')

namespace D
variable {α β : Type}
theorem le_refl : ∀ d : D α, d.le d
  | .fail => .fail _
  | .ret a => .ret a
  | .ask n k => .ask n k k fun i => le_refl (k i)
theorem le_trans {d d' d'' : D α} (a : d.le d') (b : d'.le d'') : d.le d'' := by
  induction a generalizing d'' with
  | fail => exact .fail _
  | ret a => exact b
  | ask n k k' _ ih => cases b with | ask _ _ k'' h => exact .ask n k k'' fun i => ih i (h i)
theorem le_sat {d d' : D α} (h : d.le d') : ∀ {Q : α → Prop}, d.sat Q → d'.sat Q := by
  induction h with
  | fail => intro Q hs; cases hs
  | ret a => intro Q hs; exact hs
  | ask n k k' _ ih => intro Q hs; exact ⟨hs.1, fun i hi => ih i (hs.2 i hi)⟩
theorem le_bind {d d' : D α} (h : d.le d') {f f' : α → D β} (hf : ∀ a, (f a).le (f' a)) : (d.bind f).le (d'.bind f') := by
  induction h with
  | fail => exact .fail _
  | ret a => exact hf a
  | ask n k k' _ ih => exact .ask n _ _ ih
theorem le_bind' (d : D α) {f f' : α → D β} (hf : ∀ a, (f a).le (f' a)) : (d.bind f).le (d.bind f') := le_bind (le_refl d) hf
end D

def Self.le (S S' : Self) : Prop := (∀ f args h, (S.call f args h).le (S'.call f args h)) ∧ ∀ ro c a h, (S.code ro c a h).le (S'.code ro c a h)

section
variable {S S' : Self} (hS : S.le S')
include hS

theorem roundA_le (l : Nat) (args : List AVal) (h : AHeap) : (roundA S l args h).le (roundA S' l args h) := by
  unfold roundA
  split
  · split
    · refine D.le_bind (hS.2 _ _ _ _) fun p => ?_
      split
      · exact D.le_bind (hS.2 _ _ _ _) fun p => D.le_refl _
      · exact .fail _
    · exact .fail _
  · exact .fail _

theorem callVA_le (f : AVal) (args : List AVal) (h : AHeap) : (callVA S f args h).le (callVA S' f args h) := by
  unfold callVA
  split
  · exact hS.1 _ _ _
  · exact roundA_le hS _ _ _
  · exact .fail _

theorem eA_le (ro : Option Nat) (a : AAct) (h : AHeap) (dst : Option Tmp) (op : EOp) : (eA S ro a h dst op).le (eA S' ro a h dst op) := by
  unfold eA
  split
  · split
    · exact D.le_bind (callVA_le hS _ _ _) fun p => D.le_refl _
    · exact .fail _
  · exact D.le_refl _
  · exact D.le_refl _

theorem stepA_le (ro : Option Nat) (a : AAct) (h : AHeap) (s : Step) : (stepA S ro a h s).le (stepA S' ro a h s) := by
  unfold stepA
  split
  · split
    · exact D.le_refl _
    · exact eA_le hS _ _ _ _ _
  · exact D.le_refl _
  · exact .fail _

theorem stepsA_le (ro : Option Nat) : ∀ (l : List Step) (a : AAct) (h : AHeap), (stepsA S ro l a h).le (stepsA S' ro l a h)
  | [], _, _ => D.le_refl _
  | s :: r, a, h => D.le_bind (stepA_le hS ro a h s) fun _ => stepsA_le ro r _ _

theorem drawA_le (ro : Option Nat) : ∀ (l : List DStep) (hs : List Held) (a : AAct) (h : AHeap), (drawA S ro l hs a h).le (drawA S' ro l hs a h)
  | [], _, _, _ => D.le_refl _
  | s :: r, hs, a, h => by
    unfold drawA
    split
    · split
      · split
        · exact drawA_le ro r _ _ _
        · split
          · exact drawA_le ro r _ _ _
          · exact .fail _
        · exact .fail _
      · refine D.le_bind (eA_le hS _ _ _ _ _) fun p => ?_
        split
        · exact drawA_le ro r _ _ _
        · exact .fail _
    · exact drawA_le ro r _ _ _
    · exact .fail _

theorem codeA_le (ro : Option Nat) : ∀ (c : ACode) (a : AAct) (h : AHeap), (codeA S ro c a h).le (codeA S' ro c a h)
  | .skip, _, _ => D.le_refl _
  | .ops l, a, h => D.le_bind (stepsA_le hS ro l a h) fun _ => D.le_refl _
  | .draw l, a, h => D.le_bind (drawA_le hS ro l [] a h) fun _ => D.le_refl _
  | .seq x y, a, h => by
    refine D.le_bind (codeA_le ro x a h) fun p => ?_
    split
    · exact codeA_le ro y _ _
    · exact D.le_refl _
  | .cond c x y, a, h => by
    unfold codeA
    split
    · exact codeA_le ro x _ _
    · exact codeA_le ro y _ _
    · exact .fail _
  | .block id c, a, h => D.le_bind (codeA_le ro c a h) fun _ => D.le_refl _
  | .loop c, a, h => by
    refine D.le_bind (codeA_le ro c a h) fun p => ?_
    split
    · exact hS.2 _ _ _ _
    · exact D.le_refl _
  | .exit id, _, _ => D.le_refl _
  | .ret, _, _ => D.le_refl _
  | .rangeF f ps assign body, a, h => by
    unfold codeA
    split
    · exact D.le_bind (hS.1 _ _ _) fun p => D.le_refl _
    · exact .fail _
end

section
variable {fns : FuncId → Option AFunc} {summ : FuncId → List AVal → AHeap → Option (D (AVal × AHeap))} {S S' : Self} (hS : S.le S')
include hS

theorem defdA_le (f : FuncId) (args : List AVal) (h : AHeap) : (defdA fns S f args h).le (defdA fns S' f args h) := by
  unfold defdA
  split
  · split
    · exact D.le_bind (hS.2 _ _ _ _) fun p => D.le_refl _
    · exact .fail _
  · exact .fail _

theorem leaveA_le : ∀ (ds : List ADef) (h : AHeap), (leaveA fns S ds h).le (leaveA fns S' ds h)
  | [], _ => D.le_refl _
  | .collected r :: ds, h => by
    unfold leaveA
    split
    · exact leaveA_le ds _
    · exact .fail _
  | .fn f args :: ds, h => D.le_bind (defdA_le hS f args h) fun _ => leaveA_le ds _

theorem callA_le (f : FuncId) (args : List AVal) (h : AHeap) : (callA fns summ S f args h).le (callA fns summ S' f args h) := by
  unfold callA
  split
  · exact D.le_refl _
  · split
    · split
      · refine D.le_bind (hS.2 _ _ _ _) fun p => ?_
        split
        · exact .fail _
        · exact D.le_bind (leaveA_le hS _ _) fun _ => D.le_refl _
      · exact .fail _
    · exact .fail _
end

theorem Self.le_refl (S : Self) : S.le S := ⟨fun _ _ _ => D.le_refl _, fun _ _ _ _ => D.le_refl _⟩

section
variable (fns : FuncId → Option AFunc) (summ : FuncId → List AVal → AHeap → Option (D (AVal × AHeap)))

theorem run_succ : ∀ n, (run fns summ n).le (run fns summ (n + 1))
  | 0 => ⟨fun _ _ _ => .fail _, fun _ _ _ _ => .fail _⟩
  | n + 1 => ⟨fun f args h => callA_le (run_succ n) f args h, fun ro c a h => codeA_le (run_succ n) ro c a h⟩

theorem code_up {n m : Nat} (h : n ≤ m) {ro : Option Nat} {c : ACode} {a : AAct} {hp : AHeap} {Q : AExit × AAct × AHeap → Prop} (hs : (codeA (run fns summ n) ro c a hp).sat Q) : (codeA (run fns summ m) ro c a hp).sat Q := by
  induction h with
  | refl => exact hs
  | step _ ih => exact D.le_sat (codeA_le (run_succ fns summ _) ro c a hp) ih
theorem call_up {n m : Nat} (h : n ≤ m) {f : FuncId} {args : List AVal} {hp : AHeap} {Q : AVal × AHeap → Prop} (hs : ((run fns summ n).call f args hp).sat Q) : ((run fns summ m).call f args hp).sat Q := by
  induction h with
  | refl => exact hs
  | step _ ih => exact D.le_sat ((run_succ fns summ _).1 f args hp) ih
theorem run_le {n m : Nat} (h : n ≤ m) : (run fns summ n).le (run fns summ m) := by
  induction h with
  | refl => exact Self.le_refl _
  | step _ ih => exact ⟨fun f args h => D.le_trans (ih.1 f args h) ((run_succ fns summ _).1 f args h), fun ro c a h => D.le_trans (ih.2 ro c a h) ((run_succ fns summ _).2 ro c a h)⟩
end

/-! ### Without fuel -/
/-- What holds at some fuel, and at all more. -/
def Ev {α : Type} (d : Nat → D α) (Q : α → Prop) : Prop := ∃ n, ∀ m, n ≤ m → (d m).sat Q

theorem Ev.mono {α : Type} {d : Nat → D α} {Q Q' : α → Prop} (h : Ev d Q) (hq : ∀ a, Q a → Q' a) : Ev d Q' := h.imp fun _ hn m hm => D.sat_mono (hn m hm) hq

/-- If each answer has a fuel, all have one. -/
theorem sat_ev {α β : Type} {f : Nat → α → D β} {Q : β → Prop} : ∀ {d : D α}, d.sat (fun a => Ev (f · a) Q) → ∃ n, ∀ m, n ≤ m → d.sat fun a => (f m a).sat Q
  | .ret a, h => h
  | .fail, h => h.elim
  | .ask n k, h => by
    have := fun i hi => sat_ev (h.2 i hi)
    have : ∀ j, j ≤ n → ∃ b, ∀ m, b ≤ m → ∀ i, i < j → (k i).sat fun a => (f m a).sat Q := by
      intro j
      induction j with
      | zero => intro _; exact ⟨0, fun _ _ i hi => absurd hi (Nat.not_lt_zero i)⟩
      | succ j ih =>
        intro hj
        obtain ⟨b, hb⟩ := ih (by omega)
        obtain ⟨c, hc⟩ := this j (by omega)
        refine ⟨b + c, fun m hm i hi => ?_⟩
        rcases Nat.lt_or_ge i j with h1 | h1
        · exact hb m (by omega) i h1
        · have : i = j := by omega
          subst this
          exact hc m (by omega)
    obtain ⟨b, hb⟩ := this n (Nat.le_refl n)
    exact ⟨b, fun m hm => ⟨h.1, fun i hi => hb m hm i hi⟩⟩

/-- One behind the other. -/
theorem Ev.bind {α β : Type} {d : Nat → D α} {f : Nat → α → D β} {Q : β → Prop} (hd : ∀ n m, n ≤ m → (d n).le (d m)) (h : Ev d fun a => Ev (f · a) Q) : Ev (fun n => (d n).bind (f n)) Q := by
  obtain ⟨n, hn⟩ := h
  obtain ⟨b, hb⟩ := sat_ev (hn n (Nat.le_refl n))
  refine ⟨n + b, fun m hm => ?_⟩
  rw [D.sat_bind]
  exact D.le_sat (hd n m (by omega)) (hb m (by omega))

section
variable (fns : FuncId → Option AFunc) (summ : FuncId → List AVal → AHeap → Option (D (AVal × AHeap)))
/-- A call comes to an answer, and all that it may come to meets Q. -/
def CallW (f : FuncId) (args : List AVal) (h : AHeap) (Q : AVal × AHeap → Prop) : Prop := Ev (fun n => (run fns summ n).call f args h) Q
def CodeW (ro : Option Nat) (c : ACode) (a : AAct) (h : AHeap) (Q : AExit × AAct × AHeap → Prop) : Prop := Ev (fun n => codeA (run fns summ n) ro c a h) Q
def StepsW (ro : Option Nat) (l : List Step) (a : AAct) (h : AHeap) (Q : AAct × AHeap → Prop) : Prop := Ev (fun n => stepsA (run fns summ n) ro l a h) Q
def StepW (ro : Option Nat) (s : Step) (a : AAct) (h : AHeap) (Q : AAct × AHeap → Prop) : Prop := Ev (fun n => stepA (run fns summ n) ro a h s) Q
def DrawW (ro : Option Nat) (l : List DStep) (hs : List Held) (a : AAct) (h : AHeap) (Q : AAct × AHeap → Prop) : Prop := Ev (fun n => drawA (run fns summ n) ro l hs a h) Q
def CallVW (f : AVal) (args : List AVal) (h : AHeap) (Q : AVal × AHeap → Prop) : Prop := Ev (fun n => callVA (run fns summ n) f args h) Q
def EW (ro : Option Nat) (a : AAct) (h : AHeap) (dst : Option Tmp) (op : EOp) (Q : AAct × AHeap → Prop) : Prop := Ev (fun n => eA (run fns summ n) ro a h dst op) Q
def RoundW (l : Nat) (args : List AVal) (h : AHeap) (Q : AVal × AHeap → Prop) : Prop := Ev (fun n => roundA (run fns summ n) l args h) Q
end
end Go.Ab
end
