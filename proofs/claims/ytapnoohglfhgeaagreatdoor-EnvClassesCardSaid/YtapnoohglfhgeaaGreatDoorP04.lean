import Derived.Test.YtapnoohglfhgeaaGreatDoorP03
import Derived.Deep.Upon
import Derived.Laws.MakeOwn
import Derived.Great.BuildSlice
/-
  Part 4 of the proof.
-/
set_option linter.all false
section
/-
  Maps that are turned, and gone through.
-/
namespace Go.Ab
open Go.RowKit (Below)

section
variable {P : Program} {N : Nat} {w0 : World} {G G' : GM} {h h' : AHeap} {w w' : World} {a : AAct} {ag : Act} {M : Nat}

theorem update_sound (hR : Rel P N w0 G h w) {t : TypeId} {k : KeyK} {z m x v : AVal} {Mv X V : Value} (hm : cMap P t = some (k, z)) (hk : keysOk h k m x = true) (e : updateA h k m x v = some h')
    (hMv : VR P G m Mv) (hX : VR P G x X) (hV : VR P G v V) : ∃ w', Rel P N w0 G h' w' ∧ Ext G h w G h' w' ∧ (Instr.mapUpdate t Mv X V).run P w = .ok () w' := by
  obtain ⟨kt, et, hu, hck, hz⟩ := cMap_spec hm
  unfold updateA at e
  split at e
  · cases e
  · rename_i hi
    have hchk : ∀ b w', (Instr.checkKey b 10000 kt X).run P w' = .ok () w' := fun b w' => run_checkKey hck hX hi b w'
    split at e
    · rename_i r
      obtain ⟨g, hg, rfl⟩ := hMv
      split at e
      · rename_i ver es clock hget
        obtain ⟨gi, hgi, ob, hob, E, rfl, hE⟩ := hR.obj r ver _ hget
        rw [hg] at hgi; cases hgi
        have hN : N ≤ g.blk := hR.own r ver _ g hget hg rfl
        have hno : ∀ c e f, Obj.map E clock ≠ .cells c e f := by intro c e f hh; cases hh
        have hgo : ∀ w', w'.heap[g.blk]? = w.heap[g.blk]? → (getObj g.blk).run P w' = .ok (.map E clock) w' := fun w' hw' => run_getObj_of (by rw [hw']; exact hob) hno
        have hfind : ∀ {q}, findA k x es 0 = some q → ∃ R, Found P G E.toList 0 q R ∧ (Instr.findKey kt X E.toList).run P w = .ok R w := fun {q} hf => by
          obtain ⟨R, h1, h2⟩ := findKey_sound hck hX (· = w) (fun hp => keysOk_ptr hR hk hp r ver es clock rfl hget) hf hE
          exact ⟨R, h1, h2 w rfl⟩
        split at e
        · rename_i i v' hf
          simp only [Option.some.injEq] at e; subst e
          obtain ⟨R, ⟨en, rfl, _, _, h5⟩, h6⟩ := hfind hf
          obtain ⟨_, b, h8⟩ := findA_some hf
          simp only [Nat.sub_zero] at h5 h8
          obtain ⟨en', h9, h10, _, h12⟩ := ER.get hE h8
          rw [h5] at h9; cases h9
          have hEi : E[i]? = some en := by simpa using h5
          obtain ⟨K, w1, hw1, hK, hrun⟩ := run_keyThatStays (P := P) (((E[i]?).map (·.key)).getD X) X w
          have hKr : VR P G x K := by
            rcases hK with rfl | rfl
            · rw [hEi]; exact h10
            · exact hX
          obtain ⟨hR1, he1⟩ := Ext.drewR hw1 hR
          have hob1 : w1.heap[g.blk]? = some (.map E clock) := by rcases hw1 with rfl | rfl <;> exact hob
          have hE' : ER P G (setVal es i v) (E.modify i fun e => { e with key := K, val := V }).toList := by
            rw [Array.toList_modify]; exact ER.setVal hKr hV hE h8
          have hset := run_setObj_of (P := P) (.map (E.modify i fun e => { e with key := K, val := V }) clock) hob1 hno
          obtain ⟨h13, h14⟩ := hR1.put (w' := w1.putObj g.blk (.map (E.modify i fun e => { e with key := K, val := V }) clock)) (o' := .map (setVal es i v) clock) hget rfl rfl hg
            (World.putObj_heap_same (lt_of_heap hob1)) (fun k hk => World.putObj_heap_other hk) (putObj_below _ _ hN) ⟨_, rfl, hE'⟩
          refine ⟨_, h13, he1.trans h14, ?_⟩
          simp only [Instr.mapUpdate, Sem.run_bind, run_underlying hu, Result.andThen_ok, hgo w rfl, hchk, h6, hrun]
          exact hset
        · rename_i hf
          simp only [Option.some.injEq] at e; subst e
          obtain ⟨R, h1, h6⟩ := hfind hf
          cases h1
          have hE' : ER P G (es ++ [(x, v, clock)]) (E.push { key := X, val := V, born := clock }).toList := by
            rw [Array.toList_push]; exact ER.push hX hV hE
          have hset := run_setObj_of (P := P) (.map (E.push { key := X, val := V, born := clock }) (clock + 1)) hob hno
          obtain ⟨h13, h14⟩ := hR.put (w' := w.putObj g.blk (.map (E.push { key := X, val := V, born := clock }) (clock + 1))) (o' := .map (es ++ [(x, v, clock)]) (clock + 1)) hget rfl rfl hg
            (World.putObj_heap_same (lt_of_heap hob)) (fun k hk => World.putObj_heap_other hk) (putObj_below _ _ hN) ⟨_, rfl, hE'⟩
          refine ⟨_, h13, h14, ?_⟩
          simp only [Instr.mapUpdate, Sem.run_bind, run_underlying hu, Result.andThen_ok, hgo w rfl, hchk, h6]
          exact hset
        · cases e
      · cases e
    · cases e

theorem range_sound (hR : Rel P N w0 G h w) {t k e : TypeId} {r ver : Nat} {es : List (AVal × AVal × Nat)} {clock : Nat} {X : Value} (hu : P.underlying t = some (.map k e)) (hX : VR P G (.map (some r)) X) (hget : h.objs.get r = some (ver, .map es clock)) :
    ∃ G' w' cv, Rel P N w0 G' (newA h (.iter r clock [] clock)) w' ∧ Ext G h w G' (newA h (.iter r clock [] clock)) w' ∧ VR P G' (.ptr (some (h.next, 0))) cv ∧ (Instr.range t X).run P w = .ok cv w' := by
  obtain ⟨g, hg, rfl⟩ := hX
  obtain ⟨gi, hgi, ob, hob, E, rfl, hE⟩ := hR.obj r ver _ hget
  rw [hg] at hgi; cases hgi
  have hno : ∀ c e f, Obj.map E clock ≠ .cells c e f := by intro c e f hh; cases hh
  have hle : GLe G (addG G h.next ⟨w.heap.size, 0, 0, 0⟩) := addG_le (hR.fresh _ (Nat.le_refl _))
  obtain ⟨h1, h2⟩ := hR.alloc (o := .iter r clock [] clock) (ob := .mapIter (some g.blk) clock #[] clock) (gi := ⟨w.heap.size, 0, 0, 0⟩) rfl rfl ⟨g, hle _ _ hg, rfl, rfl⟩
  refine ⟨_, _, .pointer (some ⟨w.heap.size, 0, none⟩), h1, h2, ⟨_, addG_same, rfl⟩, ?_⟩
  simp only [Instr.range, Sem.run_bind, run_underlying hu, Result.andThen_ok, run_getObj_of hob hno]
  simp

theorem next_sound (hR : Rel P N w0 G h w) {b ver r ver' since last : Nat} {seen : List Nat} {es : List (AVal × AVal × Nat)} {clock : Nat} {X : Value} {t : TypeId} {Q : AVal × AHeap → Prop} (hX : VR P G (.ptr (some (b, 0))) X)
    (hget : h.objs.get b = some (ver, .iter r since seen last)) (hget' : h.objs.get r = some (ver', .map es clock)) (hc : clock = since) (hl : last = since) (hall : es.all (fun e => Nat.blt e.2.2 since) = true)
    (hs : D.sat (match es.filter fun e => !seen.contains e.2.2 with
      | [] => .ret (.tuple [.bool false], h)
      | _ => .ask (es.filter fun e => !seen.contains e.2.2).length fun i => (match (es.filter fun e => !seen.contains e.2.2)[i]? with
        | some (k, v, born) => .ret (.tuple [.bool true, k, v], putObjA h b (.iter r since (seen ++ [born]) last))
        | none => .fail)) Q) :
    ∃ v h' w' cv, Q (v, h') ∧ Rel P N w0 G h' w' ∧ Ext G h w G h' w' ∧ VR P G v cv ∧ (Instr.next X false t).run P w = .ok cv w' := by
  subst hc; subst hl
  obtain ⟨g, hg, rfl⟩ := hX
  obtain ⟨gi, hgi, ob, hob, gm, hgm, rfl, hoff⟩ := hR.obj b ver _ hget
  have hg' : G b = some g := hg
  rw [hg'] at hgi; cases hgi
  rw [hoff, Nat.zero_add]
  obtain ⟨gi, hgi, ob', hob', E, rfl, hE⟩ := hR.obj r ver' _ hget'
  rw [hgm] at hgi; cases hgi
  have hN : N ≤ g.blk := hR.own b ver _ g hget hg' rfl
  have hno : ∀ c e f, Obj.map E last ≠ .cells c e f := by intro c e f hh; cases hh
  have hno' : ∀ c e f, Obj.mapIter (some gm.blk) last seen.toArray last ≠ .cells c e f := by intro c e f hh; cases hh
  have hlt : ∀ e ∈ E.toList, e.born < last := by
    have := ER.all (f := fun b => Nat.blt b last) hE
    rw [hall, List.all_eq_true] at this
    intro e he
    exact Nat.blt_eq.mp (this e he)
  have hbad : (!seen.toArray.isEmpty && !E.isEmpty && E.all fun x => decide (x.born ≥ last)) = false := by
    rcases Nat.eq_zero_or_pos E.size with hz | hpos
    · simp [Array.size_eq_zero_iff.1 hz]
    · have : (E.all fun x => decide (x.born ≥ last)) = false := by
        rw [Bool.eq_false_iff]
        intro hh
        rw [Array.all_eq_true] at hh
        have := hh 0 hpos
        have h2 := hlt E[0] (by simp)
        simp at this
        omega
      rw [this]; simp
  have hleft := ER.filter (f := fun b => !seen.contains b) hE
  have hL : (E.filter fun e => !seen.toArray.contains e.born).toList = E.toList.filter fun e => !seen.contains e.born := by
    rw [Array.toList_filter]
    congr 1
    funext e
    simp
  have hold : (E.filter fun e => !seen.toArray.contains e.born).filter (fun e => e.born < last) = E.filter fun e => !seen.toArray.contains e.born := by
    apply Array.ext'
    rw [Array.toList_filter, hL, List.filter_eq_self]
    intro e he
    simpa using hlt e ((List.mem_filter.1 he).1)
  have hnew : (E.filter fun e => !seen.toArray.contains e.born).filter (fun e => e.born ≥ last) = #[] := by
    apply Array.ext'
    rw [Array.toList_filter, hL]
    show _ = []
    rw [List.filter_eq_nil_iff]
    intro e he
    have := hlt e ((List.mem_filter.1 he).1)
    simp; omega
  generalize hF : (es.filter fun e => !seen.contains e.2.2) = F at hs hleft
  have hlen := ER.length hleft
  have hpre : ∀ (f : Array MapEntry → Sem Value), True := fun _ => trivial
  cases F with
  | nil =>
    have hEl : (E.filter fun e => !seen.toArray.contains e.born) = #[] := by
      apply Array.ext'
      rw [hL]
      cases hleft' : (E.toList.filter fun e => !seen.contains e.born) with
      | nil => rfl
      | cons _ _ => rw [hleft'] at hlen; simp at hlen
    refine ⟨_, h, w, .tuple #[.bool false], hs, hR, Ext.refl _ _ _, ⟨_, rfl, _, _, rfl, rfl, rfl⟩, ?_⟩
    simp only [Instr.next, Sem.run_bind, Result.andThen_ok, run_getObj_of hob hno', run_getObj_of hob' hno, hbad, hold, hnew, hEl]
    simp [Question.forced]
  | cons e0 F0 =>
    have hs' : ∀ i, i < (e0 :: F0).length → D.sat (match (e0 :: F0)[i]? with
        | some (k, v, born) => (.ret (.tuple [.bool true, k, v], putObjA h b (.iter r last (seen ++ [born]) last)) : D (AVal × AHeap))
        | none => .fail) Q := hs.2
    generalize hA : (E.filter fun e => !seen.toArray.contains e.born) = A at hL hold hnew
    have hAs : A.size = (e0 :: F0).length := by rw [← hlen, ← hL]; simp
    have hne : A.isEmpty = false := by
      rw [Bool.eq_false_iff]; intro hh
      have : A.size = 0 := by simpa using hh
      rw [this] at hAs; simp at hAs
    -- which one the machine takes
    obtain ⟨i, w1, hi, hw1, hch⟩ : ∃ i w1, i < A.size ∧ (w1 = w ∨ w1 = w.drew) ∧ (choose (.mapNext A.size)).run P w = .ok i w1 := by
      rw [run_choose_drew]
      split
      · exact ⟨0, w, by rw [hAs]; simp, .inl rfl, rfl⟩
      · exact ⟨_, w.drew, Nat.mod_lt _ (by rw [hAs]; simp), .inr rfl, rfl⟩
    have hAi : ∃ k v born e, (e0 :: F0)[i]? = some (k, v, born) ∧ A[i]? = some e ∧ VR P G k e.key ∧ VR P G v e.val ∧ e.born = born := by
      have hi' : i < (e0 :: F0).length := by omega
      obtain ⟨k, v, born, hx⟩ : ∃ k v born, (e0 :: F0)[i] = (k, v, born) := ⟨_, _, _, rfl⟩
      have h1 : (e0 :: F0)[i]? = some (k, v, born) := by rw [List.getElem?_eq_getElem hi', hx]
      obtain ⟨e, h2, h3, h4, h5⟩ := ER.get hleft h1
      exact ⟨k, v, born, e, h1, by rw [← Array.getElem?_toList, hL]; exact h2, h3, h4, h5⟩
    obtain ⟨k, v, born, e, h1, h2, h3, h4, h5⟩ := hAi
    have hq := hs' i (by omega)
    rw [h1] at hq
    obtain ⟨hR1, he1⟩ := Ext.drewR hw1 hR
    have hob1 : w1.heap[g.blk]? = some (.mapIter (some gm.blk) last seen.toArray last) := by rcases hw1 with rfl | rfl <;> exact hob
    have hset := run_setObj_of (P := P) (.mapIter (some gm.blk) last (seen.toArray.push e.born) last) hob1 hno'
    obtain ⟨h13, h14⟩ := hR1.put (w' := w1.putObj g.blk (.mapIter (some gm.blk) last (seen.toArray.push e.born) last)) (o' := .iter r last (seen ++ [born]) last) hget rfl rfl hg'
      (World.putObj_heap_same (lt_of_heap hob1)) (fun k hk => World.putObj_heap_other hk) (putObj_below _ _ hN) ⟨gm, hgm, by rw [h5]; simp, hoff⟩
    refine ⟨_, _, _, .tuple #[.bool true, e.key, e.val], hq, h13, he1.trans h14, ⟨_, rfl, _, _, rfl, rfl, _, _, rfl, h3, _, _, rfl, h4, rfl⟩, ?_⟩
    have hAi' : A[i] = e := by
      rw [Array.getElem?_eq_getElem hi] at h2
      exact Option.some.inj h2
    simp only [Instr.next, Sem.run_bind, Result.andThen_ok, run_getObj_of hob hno', run_getObj_of hob' hno, hbad, hA, hold, hnew, hne]
    simp only [Bool.false_eq_true, if_false, Sem.run_pure, Result.andThen_ok, Array.append_empty, Array.empty_append, Array.size_map, hch, Sem.run_bind]
    simp only [Array.getElem?_map, h2, Option.map_some]
    rw [Sem.run_bind, hset]
    rfl

theorem entry_sound (hR : Rel P N w0 G h w) {b ver r ver' since last : Nat} {seen : List Nat} {es : List (AVal × AVal × Nat)} {clock stamp : Nat} {X : Value} {k v : AVal} {bb : Nat} (hX : VR P G (.ptr (some (b, 0))) X)
    (hget : h.objs.get b = some (ver, .iter r since seen last)) (hget' : h.objs.get r = some (ver', .map es clock)) (hst : seen.getLast? = some stamp) (hc : clock = last) (hf : es.find? (fun e => Nat.beq e.2.2 stamp) = some (k, v, bb)) :
    ∃ cv, VR P G (.tuple [k, v]) cv ∧ (Instr.entry X).run P w = .ok cv w := by
  subst hc
  obtain ⟨g, hg, rfl⟩ := hX
  obtain ⟨gi, hgi, ob, hob, gm, hgm, rfl, hoff⟩ := hR.obj b ver _ hget
  have hg' : G b = some g := hg
  rw [hg'] at hgi; cases hgi
  rw [hoff, Nat.zero_add]
  obtain ⟨gi, hgi, ob', hob', E, rfl, hE⟩ := hR.obj r ver' _ hget'
  rw [hgm] at hgi; cases hgi
  have hno : ∀ c e f, Obj.map E clock ≠ .cells c e f := by intro c e f hh; cases hh
  have hno' : ∀ c e f, Obj.mapIter (some gm.blk) since seen.toArray clock ≠ .cells c e f := by intro c e f hh; cases hh
  obtain ⟨e, h1, h2, h3⟩ := ER.find (f := fun b => Nat.beq b stamp) hE hf
  have h1' : E.find? (fun x => x.born == stamp) = some e := by
    rw [← Array.find?_toList]
    have hfe : (fun x : MapEntry => x.born == stamp) = fun x => Nat.beq x.born stamp := funext fun x => by rw [Bool.eq_iff_iff]; simp [Nat.beq_eq]
    rw [hfe]; exact h1
  have hb : seen.toArray.back? = some stamp := by simpa using hst
  refine ⟨.tuple #[e.key, e.val], ⟨_, rfl, _, _, rfl, h2, _, _, rfl, h3, rfl⟩, ?_⟩
  simp only [Instr.entry, Sem.run_bind, Result.andThen_ok, run_getObj_of hob hno', run_getObj_of hob' hno, hb]
  simp [h1']
end
end Go.Ab
end
section
/-
  Rows: appended to, made.
-/
namespace Go.Ab
open Go.RowKit (Below)

section
variable {P : Program} {N : Nat} {w0 : World} {G G' : GM} {h h' : AHeap} {w w' : World} {a : AAct} {ag : Act} {M : Nat}

/-- A block is turned, and told of by another number from now on. -/
theorem Rel.move (hR : Rel P N w0 G h w) {id ver : Nat} {o o' : AObj} {ob' : Obj} {gi : GI} (he : h.objs.get id = some (ver, o)) (hro : o.ro = false) (hro' : o'.ro = false) (hg : G id = some gi)
    (hw1 : w'.heap[gi.blk]? = some ob') (hw2 : ∀ b, b ≠ gi.blk → w'.heap[b]? = w.heap[b]?) (hw3 : Below N w w') (ho : OR P G gi o' ob') :
    Rel P N w0 (addG G h.next gi) (newA (dropA h id) o') w' ∧ Ext G h w (addG G h.next gi) (newA (dropA h id) o') w' := by
  have hle : GLe G (addG G h.next gi) := addG_le (hR.fresh _ (Nat.le_refl _))
  have hget : ∀ i, (newA (dropA h id) o').objs.get i = if i = h.next then some (h.next, o') else if i = id then none else h.objs.get i := fun i => by
    show ((h.objs.set id none).set h.next (some (h.next, o'))).get i = _
    rw [T.get_set, T.get_set]
  have hold : ∀ i x, i ≠ h.next → (newA (dropA h id) o').objs.get i = some x → h.objs.get i = some x ∧ i ≠ id := fun i x hi e => by
    rw [hget, if_neg hi] at e
    by_cases h1 : i = id
    · rw [if_pos h1] at e; cases e
    · rw [if_neg h1] at e; exact ⟨e, h1⟩
  have hother : ∀ i x g, i ≠ id → h.objs.get i = some x → G i = some g → g.blk ≠ gi.blk := fun i x g hne hx hgi hb =>
    hne (hR.inj id i _ x gi g he hx hro hg hgi hb.symm).symm
  have hnew : ∀ x, (newA (dropA h id) o').objs.get h.next = some x → x = (h.next, o') := fun x e => by rw [hget, if_pos rfl] at e; cases e; rfl
  constructor
  · constructor
    · intro i v o2 e
      by_cases hi : i = h.next
      · subst hi; cases hnew _ e
        exact ⟨gi, addG_same, ob', hw1, ho.mono hle⟩
      · obtain ⟨h1, h2⟩ := hold i _ hi e
        obtain ⟨g, h3, ob2, h4, h5⟩ := hR.obj i v o2 h1
        exact ⟨g, hle _ _ h3, ob2, by rw [hw2 _ (hother i _ g h2 h1 h3)]; exact h4, h5.mono hle⟩
    · intro i j x y g g' e e' hr hgi hgj hb
      by_cases hi : i = h.next
      · by_cases hj : j = h.next
        · rw [hi, hj]
        · obtain ⟨h1, h2⟩ := hold j _ hj e'
          rw [hi, addG_same] at hgi; cases hgi
          rw [addG_ne hj] at hgj
          exact absurd hb.symm (hother j _ g' h2 h1 hgj)
      · obtain ⟨h1, h2⟩ := hold i _ hi e
        rw [addG_ne hi] at hgi
        by_cases hj : j = h.next
        · rw [hj, addG_same] at hgj; cases hgj
          exact absurd hb (hother i _ g h2 h1 hgi)
        · obtain ⟨h3, h4⟩ := hold j _ hj e'
          rw [addG_ne hj] at hgj
          exact hR.inj i j x y g g' h1 h3 hr hgi hgj hb
    · intro i v o2 g e hgi hr
      by_cases hi : i = h.next
      · rw [hi, addG_same] at hgi; cases hgi
        exact hR.own id ver o gi he hg hro
      · obtain ⟨h1, h2⟩ := hold i _ hi e
        rw [addG_ne hi] at hgi
        exact hR.own i v o2 g h1 hgi hr
    · intro i hi
      have : h.next + 1 ≤ i := hi
      rw [addG_ne (by omega)]
      exact hR.fresh i (by omega)
    · intro i v o2 e
      show v < h.next + 1
      by_cases hi : i = h.next
      · subst hi; cases hnew _ e; omega
      · obtain ⟨h1, h2⟩ := hold i _ hi e
        have := hR.vers i v o2 h1; omega
    · intro g hgl
      obtain ⟨gi', h1, h2⟩ := hR.glob g hgl
      exact ⟨gi', hle _ _ h1, h2⟩
    · show _ ≤ h.next + 1; have := hR.low; omega
    · exact hR.below.trans hw3
    · exact Nat.le_trans hR.size hw3.size
    · intro i v o2 g e hgi hr
      by_cases hi : i = h.next
      · subst hi; cases hnew _ e; rw [hro'] at hr; cases hr
      · obtain ⟨h1, h2⟩ := hold i _ hi e
        rw [addG_ne hi] at hgi
        exact hR.rolow i v o2 g h1 hgi hr
  · constructor
    · exact hle
    · show h.next ≤ h.next + 1; omega
    · intro i v o2 e
      by_cases hi : i = h.next
      · subst hi; cases hnew _ e; exact .inl (Nat.le_refl _)
      · obtain ⟨h1, h2⟩ := hold i _ hi e
        exact .inr ⟨h1, fun g hgi => hw2 _ (hother i _ g h2 h1 hgi)⟩
    · intro b _ hno
      exact hw2 b fun hb => hno id _ gi he hro hg hb.symm
    · intro i x g e hr hgi
      by_cases hi : i = h.next
      · rw [hi, addG_same] at hgi; cases hgi
        exact .inr ⟨id, _, gi, he, hro, hg, rfl⟩
      · obtain ⟨h1, h2⟩ := hold i _ hi e
        rw [addG_ne hi] at hgi
        exact .inr ⟨i, x, g, h1, hr, hgi, rfl⟩
    · exact hw3.size

/-! ### Rows of zeros -/
theorem rep_getElem {α : Type} (xs : List α) : ∀ (n i : Nat), i < n * xs.length → (rep xs n)[i]? = xs[i % xs.length]?
  | 0, i, h => by simp at h
  | n + 1, i, h => by
    simp only [rep, List.getElem?_append]
    split
    · rename_i hi; rw [Nat.mod_eq_of_lt hi]
    · rename_i hi
      rw [rep_getElem xs n (i - xs.length) (by rw [Nat.add_mul] at h; omega)]
      rw [Nat.mod_eq_sub_mod (show i ≥ xs.length by omega)]
theorem rep_length {α : Type} (xs : List α) : ∀ n, (rep xs n).length = n * xs.length
  | 0 => by simp [rep]
  | n + 1 => by simp [rep, rep_length xs n, Nat.add_mul]; omega
theorem row_rep (zs : Array Value) (n m : Nat) (hm : m = n * zs.size) : ((Array.range m).map (zs[· % zs.size]!)).toList = rep zs.toList n := by
  subst hm
  apply List.ext_getElem?
  intro i
  rcases Nat.lt_or_ge i (n * zs.size) with h | h
  · rw [rep_getElem _ _ _ (by simpa using h)]
    have hz : 0 < zs.size := by
      rcases Nat.eq_zero_or_pos zs.size with h0 | h0
      · rw [h0] at h; simp at h
      · exact h0
    have hlt := Nat.mod_lt i hz
    simp [h, hlt]
  · rw [List.getElem?_eq_none (by simpa using h), List.getElem?_eq_none (by rw [rep_length]; simpa using h)]

/-! ### Growth -/
theorem growBy_le (need : Nat) : ∀ (r c : Nat), Builtin.growBy need r c ≤ max c (need + (need + 768) / 4)
  | 0, c => by simp [Builtin.growBy]; omega
  | r + 1, c => by
    simp only [Builtin.growBy]
    split
    · omega
    · have := growBy_le need r (c + (c + 768) / 4)
      omega
theorem nextslicecap_le {need old : Nat} (h : old < need) : Builtin.nextslicecap need old ≤ 2 * need + 2000 := by
  unfold Builtin.nextslicecap
  split
  · omega
  · split
    · omega
    · have := growBy_le need 4 old; omega

theorem roomA_spec {bytes need : Nat} (e : roomA bytes need = true) : 1 ≤ bytes ∧ (2 * need + 2000) * bytes ≤ 70368744177664 := by
  simp only [roomA, Bool.and_eq_true] at e
  exact ⟨Nat.le_of_ble_eq_true e.1, Nat.le_of_ble_eq_true e.2⟩
theorem roomA_need {bytes need : Nat} (e : roomA bytes need = true) : need ≤ 35184372088832 := by
  obtain ⟨h1, h2⟩ := roomA_spec e
  have := Nat.le_trans (Nat.mul_le_mul_left (2 * need + 2000) h1) h2
  omega
theorem roomA_grow {bytes need cap : Nat} (e : roomA bytes need = true) (h : cap < need) : need ≤ 140737488355328 ∧ Builtin.nextslicecap need cap * bytes ≤ 281474976710656 := by
  obtain ⟨h1, h2⟩ := roomA_spec e
  have h3 := roomA_need e
  have h4 := Nat.le_trans (Nat.mul_le_mul_right bytes (nextslicecap_le h)) h2
  exact ⟨by omega, by omega⟩
theorem room0A_grow {bytes need : Nat} (e : room0A bytes need = true) (h : 0 < need) : 0 + need ≤ 140737488355328 ∧ Builtin.nextslicecap (0 + need) 0 * bytes ≤ 281474976710656 := by
  simp only [room0A, Bool.and_eq_true] at e
  have h1 := Nat.le_of_ble_eq_true e.1
  have h2 : need * bytes ≤ 140737488355328 := Nat.le_of_ble_eq_true e.2
  have h3 : need * 1 ≤ need * bytes := Nat.mul_le_mul_left need h1
  rw [Nat.zero_add]
  refine ⟨by omega, ?_⟩
  unfold Builtin.nextslicecap
  rw [if_pos (by omega)]
  omega

/-- What is appended. -/
structure SrcR (P : Program) (G : GM) (tx : TypeId) (size n : Nat) (new : List AVal) (X : Value) (w : World) : Prop where
  src : ∃ news, Src P size tx X n news w ∧ VsR P G new news

theorem okApp_spec {d : TypeId} (e : okApp (P.underlying d) = true) : (∃ e', P.underlying d = some (.slice e')) ∨ P.underlying d = some .string := by
  unfold okApp at e
  split at e
  · rename_i t hh; exact .inl ⟨_, hh⟩
  · rename_i hh; exact .inr hh
  · cases e

theorem run_loadCells_zero (a : Addr) (w : World) : (loadCells a 0).run P w = .ok #[] w := rfl

theorem src_zero {tx : TypeId} {size : Nat} {x : AVal} {X : Value} (hk : okApp (P.underlying tx) = true) (hx : VR P G x X) (hl : lenA x = some 0) (w : World) : Src P size tx X 0 [] w := by
  have hsl : ∀ (A : Option Addr) (c : Nat) (w : World), (Builtin.firstCells size 0 (.slice A 0 c)).run P w = .ok #[] w := fun A c w => by
    cases A with
    | none => rfl
    | some a => simp [Builtin.firstCells, run_loadCells_zero]
  have mk : ∀ (A : Option Addr) (c : Nat), Src P size tx (.slice A 0 c) 0 [] w := fun A c =>
    ⟨okApp_spec hk, fun _ => rfl, hsl A c w, hsl A c w.drew, by simp, fun _ hh => by cases hh⟩
  unfold lenA at hl
  split at hl
  · rename_i p n
    simp only [Option.some.injEq] at hl; subst hl
    cases p with
    | none => obtain ⟨_, rfl⟩ := hx; exact mk none 0
    | some p => obtain ⟨g, c, _, rfl, _⟩ := hx; exact mk _ _
  · obtain ⟨A, rfl⟩ := hx; exact mk (some A) 0
  · obtain ⟨A, c, rfl⟩ := hx; exact mk (some A) c
  · rename_i s
    obtain ⟨b, rfl, rfl⟩ := hx
    have hz : b.size = 0 := by simpa using hl
    have hc : ∀ w : World, (Builtin.firstCells size 0 (.string b)).run P w = .ok #[] w := fun w => by
      have : (b.extract 0 0).data = #[] := by
        apply Array.ext'
        simp
      simp [Builtin.firstCells]
    exact ⟨okApp_spec hk, fun _ => by simp [Builtin.lenOf, hz], hc w, hc w.drew, by simp, fun _ hh => by cases hh⟩
  · cases hl

theorem src_some (hR : Rel P N w0 G h w) {tx : TypeId} {size m : Nat} {x : AVal} {X : Value} {new : List AVal} (hk : okApp (P.underlying tx) = true) (hx : VR P G x X) (hl : lenA x = some m) (hc : cellsOfA h size m x = some new) (ho : new.all Ab.one = true) :
    ∃ news, Src P size tx X m news w ∧ VsR P G new news := by
  unfold cellsOfA at hc
  split at hc
  · rename_i b o n
    simp only [lenA, Option.some.injEq] at hl; subst hl
    obtain ⟨g, c, hg, rfl, _⟩ := hx
    split at hc
    · rename_i ver ro el vs hget
      split at hc
      · rename_i hle
        simp only [Option.some.injEq] at hc; subst hc
        obtain ⟨gi, hgi, ob, hob, cs, tc, fr, rfl, hfr, hfit, hel, hvl, hvs⟩ := hR.obj b ver _ hget
        have hg' : G b = some g := hg
        rw [hg'] at hgi; cases hgi
        have h1 := (hvs.drop o).take (n * size)
        rw [List.drop_take, List.take_take, Nat.min_eq_left (by omega), List.drop_drop] at h1
        have hcell : ∀ j u, ((cs.toList.drop (g.off + o)).take (n * size))[j]? = some u → w.cell? ((⟨g.blk, g.off + o, none⟩ : Addr).add j) = some u := fun j u hu => by
          rw [addr_add, cell_of_block hob]
          rw [List.getElem?_take] at hu
          split at hu
          · rw [List.getElem?_drop] at hu; simpa using hu
          · cases hu
        have hlen : ((cs.toList.drop (g.off + o)).take (n * size)).length = n * size := by simp; omega
        have hone := h1.oneCells ho
        refine ⟨_, ⟨okApp_spec hk, fun _ => rfl, run_firstCells_some w size n _ n c _ hlen hcell, run_firstCells_some w.drew size n _ n c _ hlen (by simpa using hcell), hlen, hone⟩, h1⟩
      · cases hc
    · cases hc
  · rename_i s
    split at hc
    · rename_i hs1; subst hs1
      simp only [Option.some.injEq] at hc; subst hc
      obtain ⟨b, rfl, rfl⟩ := hx
      simp only [lenA, Option.some.injEq, List.length_map, Array.length_toList] at hl
      have hl' : b.size = m := hl
      subst hl'
      refine ⟨byteCells b, ⟨okApp_spec hk, fun _ => rfl, firstCells_string b w, firstCells_string b w.drew, by rw [byteCells_length, Nat.mul_one], fun u hu => by
        obtain ⟨_, _, rfl⟩ := List.mem_map.1 hu
        rfl⟩, ?_⟩
      have e1 : ((b.data.toList.map UInt8.toNat).take b.size) = b.data.toList.map UInt8.toNat := by
        apply List.take_of_length_le; simp
      rw [e1, List.map_map]
      unfold byteCells
      exact VsR.map_mk (fun b : UInt8 => AVal.int .u8 (Int.ofNat b.toNat)) (fun b : UInt8 => Value.int .u8 b.toNat) (fun _ => rfl) _
    · cases hc
  · cases hc

theorem run_append_room_row (t tx ty e : TypeId) (i : TypeInfo) (ht : P.underlying t = some (.slice e)) (hi : P.info? e = some i) (b sLen sCap : Nat) (x : Value) (n : Nat) (news : List Value) (hs : Src P i.size tx x n news w)
    (hroom : sLen + n ≤ sCap) {cur : Array Value} {el : TypeId} (hb : w.heap[b]? = some (.cells cur el (0, 0))) (hc : sLen * i.size + news.length ≤ cur.size) :
    (Builtin.append_ #[t, tx] ty #[.slice (some ⟨b, 0, none⟩) sLen sCap, x]).run P w = .ok (.slice (some ⟨b, 0, none⟩) (sLen + n) sCap) (w.setRow b (cur.toList.take (sLen * i.size) ++ news ++ cur.toList.drop (sLen * i.size + news.length)).toArray) := by
  have hst := run_storeCells_at (P := P) b (sLen * i.size) el news 0 cur w hb (by omega) hs.one
  simp only [Nat.add_zero] at hst
  rcases hs.kind with ⟨e', hk⟩ | hk <;> simp [Builtin.append_, run_underlying ht, run_underlying hk, sizeOf, typeInfo, hi, hs.len, hroom, hs.cells, Addr.add_lit, hst]

theorem append_sound (hR : Rel P N w0 G h w) {st xt ty e : TypeId} {i : TypeInfo} {z : Value} {s x v : AVal} {S X : Value} (ht : P.underlying st = some (.slice e)) (hk : okApp (P.underlying xt) = true) (hi : P.info? e = some i) (hz : i.zero = some z)
    (hsz : z.cells.size = i.size) (hS : VR P G s S) (hX : VR P G x X) (he : appendA h e i.size i.bytes s x = some (v, h')) :
    ∃ G' w' cv, Rel P N w0 G' h' w' ∧ Ext G h w G' h' w' ∧ VR P G' v cv ∧ (Builtin.append_ #[st, xt] ty #[S, X]).run P w = .ok cv w' := by
  have hcell : P.cellsOf e = i.size := by simp [Program.cellsOf, hi]
  unfold appendA at he
  split at he
  · cases he
  · rename_i hl0
    have hsrc := src_zero (size := i.size) hk hX hl0 w
    split at he
    · rename_i base n
      simp only [Option.some.injEq, Prod.mk.injEq] at he
      obtain ⟨rfl, rfl⟩ := he
      cases base with
      | none =>
        obtain ⟨rfl, rfl⟩ := hS
        exact ⟨G, w, _, hR, Ext.refl _ _ _, ⟨rfl, rfl⟩, run_append_nothing w st xt ty e i ht hi none 0 0 (Nat.le_refl _) X hsrc⟩
      | some p =>
        obtain ⟨g, c, hg, rfl, hnc, hcs⟩ := hS
        exact ⟨G, w, _, hR, Ext.refl _ _ _, ⟨g, c, hg, rfl, hnc, hcs⟩, run_append_nothing w st xt ty e i ht hi _ n c hnc X hsrc⟩
    · simp only [Option.some.injEq, Prod.mk.injEq] at he
      obtain ⟨rfl, rfl⟩ := he
      obtain ⟨A, rfl⟩ := hS
      exact ⟨G, w, _, hR, Ext.refl _ _ _, ⟨A, rfl⟩, run_append_nothing w st xt ty e i ht hi (some A) 0 0 (Nat.le_refl _) X hsrc⟩
    · cases he
  · rename_i m hm0 hlm
    have hmpos : 0 < m := Nat.pos_of_ne_zero fun hh => hm0 hh
    split at he
    · cases he
    · rename_i new hnew
      split at he
      · cases he
      · rename_i hone
        obtain ⟨news, hsrc, hnr⟩ := src_some hR hk hX hlm hnew hone
        have hnl := hnr.length
        have hnl' := hsrc.newsLen
        -- a new row, with nothing before it
        have grow : ∀ (A : Option Addr) (sLen sCap : Nat) (olds : List Value) (oldA : List AVal) (h0 : AHeap), sCap < sLen + m → (sLen + m ≤ 140737488355328 ∧ Builtin.nextslicecap (sLen + m) sCap * i.bytes ≤ 281474976710656) → VsR P G oldA olds → olds.length = sLen * i.size →
            (Builtin.firstCells i.size sLen (.slice A sLen sCap)).run P w.drew = .ok olds.toArray w.drew → Rel P N w0 G h0 w → Ext G h w G h0 w →
            ∃ G' w' cv, Rel P N w0 G' (newA h0 (.cells false e (oldA ++ new))) w' ∧ Ext G h w G' (newA h0 (.cells false e (oldA ++ new))) w' ∧ VR P G' (.slice (some (h0.next, 0)) (sLen + m)) cv ∧ (Builtin.append_ #[st, xt] ty #[.slice A sLen sCap, X]).run P w = .ok cv w' := by
          intro A sLen sCap olds oldA h0 hg hroom hold hol hrun hR0 hE0
          obtain ⟨hneed, hfit⟩ := hroom
          have hap := run_append_grow_src (P := P) w st xt ty e i z ht hi hz A sLen sCap olds hrun X m news hsrc hg (by omega) hfit
          have hgc : sLen + m ≤ grownCap w (sLen + m) sCap e := by
            exact Nat.le_add_right _ _
          generalize hgg : grownCap w (sLen + m) sCap e = gc at hap hgc
          have hall : VsR P G (oldA ++ new) (olds ++ news) := hold.append hnr
          have hlen := hall.length
          have hcsz : ((olds ++ news).toArray ++ Builtin.zeroCells z.cells (gc - (sLen + m))).size = gc * i.size := by
            rw [Array.size_append, size_zeroCells, hsz]
            simp only [List.size_toArray, List.length_append, hol, hnl', ← Nat.add_mul]
            congr 1; omega
          have hvs : VsR P G (oldA ++ new) (((olds ++ news).toArray ++ Builtin.zeroCells z.cells (gc - (sLen + m))).toList.take (oldA ++ new).length) := by
            rw [Array.toList_append, List.take_append_of_le_length (by rw [← hlen]; exact Nat.le_refl _), ← hlen, List.take_length]
            exact hall
          obtain ⟨h3, h4⟩ := alloc_cells hR0.drew e hvs (by
            rw [← hlen, Array.size_append]; simp)
          refine ⟨_, _, _, h3, (hE0.drew).trans h4, ⟨_, gc, addG_same, rfl, hgc, ?_⟩, hap⟩
          show 0 + gc * P.cellsOf e ≤ Array.size _
          rw [hcell, hcsz, Nat.zero_add]; exact Nat.le_refl _
        split at he
        · rename_i n
          split at he
          · rename_i hroom
            simp only [Option.some.injEq, Prod.mk.injEq] at he
            obtain ⟨rfl, rfl⟩ := he
            obtain ⟨rfl, rfl⟩ := hS
            have := grow none 0 0 [] [] h (by omega) (room0A_grow hroom hmpos) rfl (by simp) rfl hR (Ext.refl _ _ _)
            simpa using this
          · cases he
        · split at he
          · rename_i hroom
            simp only [Option.some.injEq, Prod.mk.injEq] at he
            obtain ⟨rfl, rfl⟩ := he
            obtain ⟨A, rfl⟩ := hS
            have := grow (some A) 0 0 [] [] h (by omega) (room0A_grow hroom hmpos) rfl (by simp) (by
              simp [Builtin.firstCells, run_loadCells_zero]) hR (Ext.refl _ _ _)
            simpa using this
          · cases he
        · rename_i b n
          obtain ⟨g, c, hg, rfl, hnc, hcs⟩ := hS
          split at he
          · rename_i ver el vs hget
            split at he
            · rename_i hcond
              obtain ⟨rfl, hnv, hroom⟩ := hcond
              simp only [Option.some.injEq, Prod.mk.injEq] at he
              obtain ⟨rfl, rfl⟩ := he
              obtain ⟨gi, hgi, ob, hob, cur, tc, fr, rfl, hfr, hfit, hel, hvl, hvs⟩ := hR.obj b ver _ hget
              have hg' : G b = some g := hg
              rw [hg'] at hgi; cases hgi
              obtain ⟨hcz, hoff, htc, hfr'⟩ := hfr rfl
              rw [htc, hfr'] at hob
              rw [hoff, List.drop_zero] at hvs
              rw [← hcz] at hvl
              rw [hoff, Nat.zero_add]
              have hN : N ≤ g.blk := hR.own b ver _ g hget hg' rfl
              have hold := hvs.take (n * i.size)
              rw [List.take_take, Nat.min_eq_left hnv] at hold
              have hol : (cur.toList.take (n * i.size)).length = n * i.size := by simp; omega
              rw [hel, hcell] at hcs
              by_cases hrm : n + m ≤ c
              · have hfits : n * i.size + news.length ≤ cur.size := by
                  rw [hnl', ← Nat.add_mul]
                  have := Nat.mul_le_mul_right i.size hrm
                  omega
                have hap := run_append_room_row (P := P) st xt ty el i ht hi g.blk n c X m news hsrc hrm hob hfits
                have hlen : (vs.take (n * i.size) ++ new).length = n * i.size + news.length := by
                  rw [List.length_append, ← hnl, List.length_take, Nat.min_eq_left hnv]
                obtain ⟨h3, h4⟩ := hR.move (w' := w.setRow g.blk (cur.toList.take (n * i.size) ++ news ++ cur.toList.drop (n * i.size + news.length)).toArray) (o' := .cells false el (vs.take (n * i.size) ++ new))
                  (ob' := .cells (cur.toList.take (n * i.size) ++ news ++ cur.toList.drop (n * i.size + news.length)).toArray el (0, 0)) hget rfl rfl hg'
                  (setRow_heap w g.blk cur _ el (0, 0) hob) (fun k hk => setRow_other g.blk k _ hk) (setRow_below g.blk _ hN)
                  ⟨_, _, (0, 0), rfl, fun _ => ⟨by simp; omega, hoff, rfl, rfl⟩, by simp; omega, hel, by rw [hlen]; omega, by
                    rw [hlen, hoff, List.drop_zero]
                    have h5 := hold.append hnr
                    have h6 : (cur.toList.take (n * i.size) ++ news ++ cur.toList.drop (n * i.size + news.length)).take (n * i.size + news.length) = cur.toList.take (n * i.size) ++ news := by
                      apply List.take_left'
                      rw [List.length_append, hol]
                    rw [h6]; exact h5⟩
                refine ⟨_, _, _, h3, h4, ⟨g, c, addG_same, by simp [hoff], hrm, ?_⟩, hap⟩
                show 0 + c * P.cellsOf g.elem ≤ _
                rw [hel, hcell]; omega
              · obtain ⟨hR0, hE0⟩ := hR.drop b
                have hfc : (Builtin.firstCells i.size n (.slice (some ⟨g.blk, 0, none⟩) n c)).run P w.drew = .ok (cur.toList.take (n * i.size)).toArray w.drew :=
                  run_firstCells_some w.drew i.size n _ n c _ hol (fun j u hu => by
                    rw [addr_add, cell_of_block (w := w.drew) hob]
                    rw [List.getElem?_take] at hu
                    split at hu
                    · simpa using hu
                    · cases hu)
                exact grow (some ⟨g.blk, 0, none⟩) n c _ _ (dropA h b) (by omega) (roomA_grow hroom (by omega)) hold hol hfc hR0 hE0
            · cases he
          · cases he
        · cases he
end
end Go.Ab
end
section
/-
  Every operation that turns memory and calls nothing is sound.
-/
namespace Go.Ab
open Go.RowKit (Below)

section
variable {P : Program} {N : Nat} {w0 : World} {G G' : GM} {h h' : AHeap} {w w' : World} {a : AAct} {ag : Act} {M : Nat}

theorem cElem_spec {t e : TypeId} (hc : cElem P t = some e) : P.underlying t = some (.slice e) := by
  unfold cElem at hc
  split at hc
  · rename_i e' hu; simp only [Option.some.injEq] at hc; subst hc; exact hu
  · cases hc

theorem cZero_info {t : TypeId} {z : AVal} (e : cZero P t = some z) : ∃ i Z, P.info? t = some i ∧ i.zero = some Z ∧ VR P G z Z := by
  unfold cZero at e
  split at e
  · rename_i i hi
    split at e
    · rename_i Z hz; exact ⟨i, Z, hi, hz, ofV_sound e⟩
    · cases e
  · cases e

theorem asNat_int {v : AVal} {V : Value} {n : Nat} (e : asNat v = some n) (hv : VR P G v V) : ∃ k, V = .int k (n : Int) := asNat_sound e hv

theorem mkslice_sound (hR : Rel P N w0 G h w) {t e : TypeId} {i : TypeInfo} {z : AVal} {L C : Value} {l c : Nat} {kl kc : IntKind} {op : Op} {Q : AVal × AHeap → Prop} (ht : P.underlying t = some (.slice e)) (hi : P.info? e = some i) (hz : cZero P e = some z)
    (hsz : (cellsA z).length = i.size) (hL : L = .int kl (l : Int)) (hC : C = .int kc (c : Int)) (hlc : l ≤ c) (hc40 : c ≤ 2 ^ 40) (hroom : roomA i.bytes c = true)
    (hq : Q (.slice (some (h.next, 0)) l, newA h (.cells false e (rep (cellsA z) c))))
    (hop : ∀ o : Oper, o.op = op → execOp ag.eval o = (do pure (Next.value (← Instr.makeSlice t L C)))) : EY P N w0 G h w ag op Q := by
  obtain ⟨i', Z, hi', hZ, hzr⟩ := cZero_info (G := G) hz
  rw [hi] at hi'; cases hi'
  obtain ⟨hb1, hb2⟩ := roomA_spec hroom
  have hZc := hzr.cells
  have hZl : Z.cells.size = i.size := by have := hZc.length; simp at this; omega
  have hcell : P.cellsOf e = i.size := by simp [Program.cellsOf, hi]
  have hcb : i.bytes * c ≤ 70368744177664 := by
    refine Nat.le_trans ?_ hb2
    rw [Nat.mul_comm]
    exact Nat.mul_le_mul_right _ (by omega)
  have hv : VsR P G (rep (cellsA z) c) (rep Z.cells.toList c) := VsR.rep c hZc
  -- the row
  have hrow : ∃ A : Array Value, A.toList = rep Z.cells.toList c ∧ (Instr.makeSlice t L C).run P w = .ok (.slice (some ⟨w.heap.size, 0, none⟩) l c) (w.alloc (.cells A e)) := by
    have hm := run_make (P := P) w t e i Z ht hi hZ kl kc (l : Int) (c : Int) (by omega) (by omega) (by
      have : ((i.bytes * c : Nat) : Int) ≤ ((70368744177664 : Nat) : Int) := Int.ofNat_le.2 hcb
      rw [Int.natCast_mul] at this
      omega) (by omega)
    refine ⟨madeCells Z.cells (c * i.size), row_rep _ _ _ (by rw [hZl]), ?_⟩
    subst hL; subst hC
    simpa using hm
  obtain ⟨A, hA, hrun⟩ := hrow
  have hA' : VsR P G (rep (cellsA z) c) A.toList := by rw [hA]; exact hv
  obtain ⟨h5, h6⟩ := hA'.whole
  exact e_row hR h5 (Nat.le_of_eq h6) hlc (by rw [← h6, rep_length, hsz, hcell]; exact Nat.le_refl _) hq hrun hop

/-- 'fill', a row. -/
theorem rowA_sound (hl : ∀ g, g < P.globals.size → ∃ gi, G g = some gi ∧ gi.blk = g ∧ gi.off = 0) (ha : ActR P G M a ag) {size : Nat} :
    ∀ {ps : List (Nat × Operand)} {ps' : List (Nat × AOpd)} {cells cs : List AVal} {L : Array Value},
    mapO (fun p => match cOpd P p.2 with | some x => some (p.1, x) | none => none) ps = some ps' → rowA a size cells ps' = some cs → VsR P G cells L.toList →
    ∃ L' : Array Value, Instr.fill (fun i => some (i * size, size)) L (ps.map fun p => (p.1, ag.eval p.2)) = some L' ∧ VsR P G cs L'.toList
  | [], ps', cells, cs, L, hm, hf, hv => by
    simp only [mapO, Option.some.injEq] at hm; subst hm
    simp only [rowA, Option.some.injEq] at hf; subst hf
    exact ⟨L, rfl, hv⟩
  | p :: ps, ps', cells, cs, L, hm, hf, hv => by
    obtain ⟨y, zs, h1, h2, rfl⟩ := mapO_cons hm
    split at h1
    · rename_i x hx
      simp only [Option.some.injEq] at h1; subst h1
      simp only [rowA] at hf
      split at hf
      · cases hf
      · rename_i v hv1
        split at hf
        · rename_i hlen
          have hval := ev_sound hl ha hx hv1
          have hc := hval.cells
          have hcl : (ag.eval p.2).cells.size = size := by have := hc.length; simp at this; omega
          have hLl : L.size = cells.length := by have := hv.length; simpa using this
          have hstep : VsR P G (cells.take (p.1 * size) ++ cellsA v ++ cells.drop (p.1 * size + size)) ((ag.eval p.2).cells.zipIdx.foldl (fun cs (q : Value × Nat) => cs.setIfInBounds (p.1 * size + q.2) q.1) L).toList := by
            rw [← Array.foldl_toList, Array.toList_zipIdx, foldl_set _ _ _ _ (by simp; omega)]
            have e1 : (ag.eval p.2).cells.toList.length = size := by simpa using hcl
            rw [e1]
            simpa using ((hv.take (p.1 * size)).append hc).append (hv.drop (p.1 * size + size))
          obtain ⟨L', h3, h4⟩ := rowA_sound hl ha h2 hf hstep
          refine ⟨L', ?_, h4⟩
          simp only [List.map_cons, Instr.fill]
          rw [if_neg (by simp; omega)]
          exact h3
        · cases hf
    · cases h1

theorem rowA_len {a : AAct} {size : Nat} : ∀ {ps : List (Nat × AOpd)} {cells cs : List AVal}, rowA a size cells ps = some cs → cs.length = cells.length
  | [], cells, cs, e => by simp only [rowA, Option.some.injEq] at e; rw [e]
  | (j, x) :: ps, cells, cs, e => by
    simp only [rowA] at e
    split at e
    · cases e
    · split at e
      · rename_i hh
        have := rowA_len e
        rw [this]; simp; omega
      · cases e

theorem bslice_sound (hR : Rel P N w0 G h w) (ha : ActR P G M a ag) {t e : TypeId} {z : AVal} {n s : Nat} {ps : Array (Nat × Operand)} {ps' : List (Nat × AOpd)} {cs : List AVal} {op : Op} {Q : AVal × AHeap → Prop} (ht : P.underlying t = some (.slice e)) (hs : cSize P e = some s) (hz : cZero P e = some z)
    (hsz : (cellsA z).length = s) (hn0 : n * s ≠ 0) (hns : n * s ≤ 2 ^ 20) (hp : cRow P ps = some ps') (hf : rowA a s (rep (cellsA z) n) ps' = some cs)
    (hq : Q (.slice (some (h.next, 0)) n, newA h (.cells false e cs)))
    (hop : ∀ o : Oper, o.op = op → execOp ag.eval o = (do pure (Next.value (← Instr.buildSlice t n (ps.map fun (i, x) => (i, ag.eval x)))))) : EY P N w0 G h w ag op Q := by
  obtain ⟨i, Z, hi, hZ, hzr⟩ := cZero_info (G := G) hz
  have hZc := hzr.cells
  have hZl : Z.cells.size = s := by have := hZc.length; simp at this; omega
  have hA : ((Array.range (n * s)).map (Z.cells[· % Z.cells.size]!)).toList = rep Z.cells.toList n := row_rep _ _ _ (by rw [hZl])
  obtain ⟨L', h1, h2⟩ := rowA_sound hR.glob ha hp hf (L := (Array.range (n * s)).map (Z.cells[· % Z.cells.size]!)) (by rw [hA]; exact VsR.rep n hZc)
  have hzv : ∀ w, (zeroValue e).run P w = .ok Z w := fun w => by simp [zeroValue, typeInfo, hi, hZ]
  have hbig : ¬ (n * s > 2 ^ 24) := by omega
  have his : i.size = s := by
    obtain ⟨i', h3, h4⟩ := cSize_some hs
    rw [hi] at h3; cases h3; exact h4
  have hrun := Go.run_buildSlice (P := P) w t e n (ps.map fun (i, x) => (i, ag.eval x)) L' i Z ht hi hZ (by rw [his]; exact hbig) (by rw [his]; exact hn0) (by
    rw [his, Array.toList_map]; exact h1)
  obtain ⟨h5, h6⟩ := h2.whole
  have hcl : cs.length = n * s := by
    have h7 : L'.size = n * s := by
      have := rowA_len hf
      rw [rep_length, hsz] at this
      omega
    omega
  exact e_row hR h5 (Nat.le_of_eq h6) (Nat.le_refl n) (by rw [← h6, hcl, cellsOf_c hs]; exact Nat.le_refl _) hq hrun hop
end
end Go.Ab
end
section
/-
  Every operation that turns memory and calls nothing is sound: put together.
-/
namespace Go.Ab
open Go.RowKit (Below)

section
variable {P : Program} {N : Nat} {w0 : World} {G G' : GM} {h h' : AHeap} {w w' : World} {a : AAct} {ag : Act} {M : Nat}

/-- What is not told of may be laid, or turned. -/
theorem Rel.extra (hR : Rel P N w0 G h w) (hw : ∀ b, b < w.heap.size → w'.heap[b]? = w.heap[b]?) (hb : Below N w w') : Rel P N w0 G h w' ∧ Ext G h w G h w' :=
  ⟨⟨fun id ver o e => by
      obtain ⟨gi, h1, ob, h2, h3⟩ := hR.obj id ver o e
      exact ⟨gi, h1, ob, by rw [hw _ (lt_of_heap h2)]; exact h2, h3⟩, hR.inj, hR.own, hR.fresh, hR.vers, hR.glob, hR.low, hR.below.trans hb, Nat.le_trans hR.size hb.size, hR.rolow⟩,
   ⟨GLe.refl G, Nat.le_refl _, fun id ver o e => .inr ⟨e, fun gi hg => by
      obtain ⟨gi', h1, ob, h2, h3⟩ := hR.obj id ver o e
      rw [hg] at h1; cases h1
      exact hw _ (lt_of_heap h2)⟩, fun b hb' _ => hw b hb', fun id x gi a b c => .inr ⟨id, x, gi, a, b, c, rfl⟩, hb.size⟩⟩

theorem run_newVar' (e : TypeId) (v : Value) (w : World) : (newVar e v).run P w = .ok ⟨w.heap.size, 0, none⟩ (w.alloc (.cells v.cells e)) := rfl

theorem exec_append {c : Call} {s x : Operand} {st xt : TypeId} (hc : c.callee = .builtin .append) (ha' : c.args.toList = [s, x]) (ht : c.argTypes.toList = [st, xt]) (o : Oper) (ho : o.op = .call c) :
    execOp ag.eval o = (do pure (Next.value (← Builtin.append_ #[st, xt] o.type #[ag.eval s, ag.eval x]))) := by
  have h1 : c.args = #[s, x] := by apply Array.ext'; simpa using ha'
  have h2 : c.argTypes = #[st, xt] := by apply Array.ext'; simpa using ht
  unfold execOp
  rw [ho]
  simp [resolve, hc, h1, h2, invoke, builtin]

theorem append_type (ts : Array TypeId) (t t' : TypeId) (xs : Array Value) : Builtin.append_ ts t xs = Builtin.append_ ts t' xs := rfl

theorem turnA_sound (hR : Rel P N w0 G h w) (ha : ActR P G M a ag) {op : Op} {e : EOp} {Q : AVal × AHeap → Prop} (hq : cE P op = some e) (hs : (turnA a h e).sat Q) : EY P N w0 G h w ag op Q := by
  have ev1 : ∀ {x : Operand} {x' : AOpd} {v : AVal}, cOpd P x = some x' → ev a x' = some v → VR P G v (ag.eval x) := fun h1 h2 => ev_sound hR.glob ha h1 h2
  cases op with
  | alloc t =>
    simp only [cE] at hq
    split at hq
    · rename_i z hz
      simp only [Option.some.injEq] at hq; subst hq
      obtain ⟨Z, hZ, hzr⟩ := cZero_sound (P := P) (G := G) hz
      exact e_var hR hZ.cells hs (s := Instr.alloc t true (.tuple #[])) (by simp [Instr.alloc, hzr, run_newVar']) (fun o ho => by unfold execOp; rw [ho])
    · cases hq
  | box t x =>
    simp only [cE] at hq
    split at hq
    · rename_i x' hx
      simp only [Option.some.injEq] at hq; subst hq
      simp only [turnA] at hs
      split at hs
      · rename_i v hv
        exact e_var hR (ev1 hx hv).cells hs (s := Instr.box t (ag.eval x)) (by simp [Instr.box, run_newVar']) (fun o ho => by unfold execOp; rw [ho])
      · cases hs
    · cases hq
  | buildSlice t n ps =>
    simp only [cE] at hq
    split at hq
    · cases hq
    · rename_i e' he
      split at hq
      · cases hq
      · rename_i s hsz
        split at hq
        · rename_i hn0 hps
          split at hq
          · rename_i hn
            subst hn
            simp only [Option.some.injEq] at hq; subst hq
            have hu := cElem_spec he
            obtain ⟨i, hi, his⟩ := cSize_some hsz
            have hp0 : ps = #[] := by apply Array.ext'; simpa using hps
            subst hp0
            obtain ⟨h1, h2⟩ := hR.extra (w' := w.alloc (.cells #[] e')) (fun b hb => heap_alloc_lt hb) ((Below.refl N w).alloc hR.size _)
            exact EY.val hs h1 h2 (s := Instr.buildSlice t 0 (Array.map (fun (i, x) => (i, ag.eval x)) #[])) (cv := .slice (some ⟨w.heap.size, 0, none⟩) 0 0) ⟨_, rfl⟩ (by
              have hz : (Array.map (fun _ => (default : Value)) (Array.range 0)) = #[] := by apply Array.ext'; simp
              simp [Instr.buildSlice, run_underlying hu, run_sizeOf_c hsz, Instr.fill, run_newRow, hz]) (fun o ho => by unfold execOp; rw [ho])
          · cases hq
        · cases hq
        · rename_i hn0 hn1
          split at hq
          · rename_i z ps' hz hps
            split at hq
            · rename_i hc
              simp only [Option.some.injEq] at hq; subst hq
              simp only [turnA] at hs
              split at hs
              · rename_i cs hcs
                exact bslice_sound hR ha (cElem_spec he) hsz hz hc.2 hn0 hc.1 hps hcs hs (fun o ho => by unfold execOp; rw [ho])
              · cases hs
            · cases hq
          · cases hq
  | makeMap t r =>
    simp only [cE] at hq
    split at hq
    · rename_i k v r' hu hr
      simp only [Option.some.injEq] at hq; subst hq
      cases r with
      | none =>
        simp only [cOpt, Option.some.injEq] at hr; subst hr
        obtain ⟨h1, h2⟩ := hR.alloc (o := .map [] 0) (ob := .map #[] 0) (gi := ⟨w.heap.size, 0, 0, 0⟩) rfl rfl ⟨#[], rfl, rfl⟩
        exact EY.val hs h1 h2 (s := Instr.makeMap t none) ⟨_, addG_same, rfl⟩ (by simp [Instr.makeMap]) (fun o ho => by unfold execOp; rw [ho]; rfl)
      | some x =>
        simp only [cOpt] at hr
        split at hr
        · rename_i x' hx
          simp only [Option.some.injEq] at hr; subst hr
          simp only [turnA] at hs
          split at hs
          · rename_i q q' hv
            have hv' : ag.eval x = .int q q' := ev1 hx hv
            obtain ⟨h1, h2⟩ := hR.alloc (o := .map [] 0) (ob := .map #[] 0) (gi := ⟨w.heap.size, 0, 0, 0⟩) rfl rfl ⟨#[], rfl, rfl⟩
            exact EY.val hs h1 h2 (s := Instr.makeMap t (some (ag.eval x))) ⟨_, addG_same, rfl⟩ (by simp [Instr.makeMap, run_underlying hu, asInt, asIntOf, hv']) (fun o ho => by unfold execOp; rw [ho]; rfl)
          · cases hs
        · cases hr
    · cases hq
  | makeSlice t l c =>
    simp only [cE] at hq
    split at hq
    · rename_i e' l' c' he hl hc
      split at hq
      · rename_i i z hi hz
        split at hq
        · rename_i hsz
          simp only [Option.some.injEq] at hq; subst hq
          simp only [turnA] at hs
          split at hs
          · rename_i lv cv hlv hcv
            split at hs
            · rename_i ln cn hln hcn
              split at hs
              · rename_i hcond
                obtain ⟨kl, hL⟩ := asNat_sound hln (ev1 hl hlv)
                obtain ⟨kc, hC⟩ := asNat_sound hcn (ev1 hc hcv)
                exact mkslice_sound hR (cElem_spec he) hi hz hsz hL hC hcond.1 hcond.2.1 hcond.2.2 hs (fun o ho => by unfold execOp; rw [ho])
              · cases hs
            · cases hs
          · cases hs
        · cases hq
      · cases hq
    · cases hq
  | store t x v =>
    simp only [cE] at hq
    split at hq
    · rename_i n x' v' hn hx hv
      simp only [Option.some.injEq] at hq; subst hq
      simp only [turnA] at hs
      split at hs
      · rename_i b o u hxv hvv
        split at hs
        · rename_i hl
          split at hs
          · rename_i h' hst
            obtain ⟨w', h1, h2, h3⟩ := store_sound hR hn (ev1 hx hxv) (ev1 hv hvv) hl hst
            exact EY.unit hs h1 h2 h3 (fun o ho => by unfold execOp; rw [ho])
          · cases hs
        · cases hs
      · cases hs
    · cases hq
  | mapUpdate t m k v =>
    simp only [cE] at hq
    split at hq
    · rename_i kk z m' k' v' hm hmo hko hvo
      simp only [Option.some.injEq] at hq; subst hq
      simp only [turnA] at hs
      split at hs
      · rename_i mv kv vv h1 h2 h3
        split at hs
        · rename_i hk
          split at hs
          · rename_i h' hup
            obtain ⟨w', h4, h5, h6⟩ := update_sound hR hm hk hup (ev1 hmo h1) (ev1 hko h2) (ev1 hvo h3)
            exact EY.unit hs h4 h5 h6 (fun o ho => by unfold execOp; rw [ho])
          · cases hs
        · cases hs
      · cases hs
    · cases hq
  | insert t m k v =>
    simp only [cE] at hq
    split at hq
    · rename_i kk z m' k' v' hm hmo hko hvo
      simp only [Option.some.injEq] at hq; subst hq
      simp only [turnA] at hs
      split at hs
      · rename_i mv kv vv h1 h2 h3
        split at hs
        · rename_i hk
          split at hs
          · rename_i h' hup
            obtain ⟨w', h4, h5, h6⟩ := update_sound hR hm hk hup (ev1 hmo h1) (ev1 hko h2) (ev1 hvo h3)
            exact EY.unit hs h4 h5 h6 (fun o ho => by unfold execOp; rw [ho])
          · cases hs
        · cases hs
      · cases hs
    · cases hq
  | lookup t m k ok =>
    simp only [cE] at hq
    split at hq
    · rename_i z m' k' hm hmo hko
      simp only [Option.some.injEq] at hq; subst hq
      simp only [turnA] at hs
      split at hs
      · rename_i mv kv h1 h2
        split at hs
        · rename_i hk
          split at hs
          · rename_i v id hlk
            obtain ⟨cv, h3, h4⟩ := lookA_sound hR hm hlk (ev1 hmo h1) (ev1 hko h2) (· = w) (keysOk_ptr hR hk)
            exact EY.val hs hR (Ext.refl _ _ _) h3 (h4 w (fun _ _ _ _ => rfl) rfl) (fun o ho => by unfold execOp; rw [ho])
          · cases hs
        · cases hs
      · cases hs
    · cases hq
  | range t x =>
    simp only [cE] at hq
    split at hq
    · rename_i k v x' hu hx
      simp only [Option.some.injEq] at hq; subst hq
      simp only [turnA] at hs
      split at hs
      · rename_i r hv
        split at hs
        · rename_i ver es clock hget
          obtain ⟨G', w', cv, h1, h2, h3, h4⟩ := range_sound hR hu (ev1 hx hv) hget
          exact EY.val hs h1 h2 h3 h4 (fun o ho => by unfold execOp; rw [ho])
        · cases hs
      · cases hs
    · cases hq
  | next x isS =>
    cases isS with
    | true => simp [cE] at hq
    | false =>
      simp only [cE] at hq
      split at hq
      · rename_i x' hx
        simp only [Option.some.injEq] at hq; subst hq
        simp only [turnA] at hs
        split at hs
        · rename_i b hv
          split at hs
          · rename_i ver r since seen last hget
            split at hs
            · rename_i ver' es clock hget'
              split at hs
              · rename_i hc
                have hn : ∀ t, ∃ v h' w' cv, Q (v, h') ∧ Rel P N w0 G h' w' ∧ Ext G h w G h' w' ∧ VR P G v cv ∧ (Instr.next (ag.eval x) false t).run P w = .ok cv w' := fun t =>
                  next_sound hR (ev1 hx hv) hget hget' hc.1 hc.2.1 hc.2.2 hs
                obtain ⟨v, h', w', cv, h1, h2, h3, h4, h5⟩ := hn 0
                exact EY.val h1 h2 h3 h4 h5 (fun o ho => by unfold execOp; rw [ho]; rfl)
              · cases hs
            · cases hs
          · cases hs
        · cases hs
      · cases hq
  | entry x =>
    simp only [cE] at hq
    split at hq
    · rename_i x' hx
      simp only [Option.some.injEq] at hq; subst hq
      simp only [turnA] at hs
      split at hs
      · rename_i b hv
        split at hs
        · rename_i ver r since seen last hget
          split at hs
          · rename_i ver' es clock stamp hget' hst
            split at hs
            · rename_i hc
              split at hs
              · rename_i k v bb hf
                obtain ⟨cv, h1, h2⟩ := entry_sound hR (ev1 hx hv) hget hget' hst hc hf
                exact EY.val hs hR (Ext.refl _ _ _) h1 h2 (fun o ho => by unfold execOp; rw [ho])
              · cases hs
            · cases hs
          · cases hs
        · cases hs
      · cases hs
    · cases hq
  | call c =>
    simp only [cE] at hq
    split at hq
    · rename_i hcal
      split at hq
      · rename_i s x st xt hargs htys
        split at hq
        · rename_i e' s' x' he hok hso hxo
          split at hq
          · rename_i i hi
            split at hq
            · cases hq
            · rename_i z hz hi0
              split at hq
              · rename_i hzs
                simp only [Option.some.injEq] at hq; subst hq
                simp only [turnA] at hs
                split at hs
                · rename_i sv xv h1 h2
                  split at hs
                  · rename_i r hap
                    obtain ⟨v, h'⟩ := r
                    obtain ⟨G', w', cv, h3, h4, h5, h6⟩ := append_sound (ty := 0) hR (cElem_spec he) hok hi hz hzs (ev1 hso h1) (ev1 hxo h2) hap
                    exact EY.val hs h3 h4 h5 h6 (fun o ho => exec_append hcal hargs htys o ho)
                  · cases hs
                · cases hs
              · cases hq
            · cases hq
          · cases hq
        · cases hq
      · cases hq
    · split at hq
      · simp only [Option.some.injEq] at hq; subst hq; cases hs
      · cases hq
    · cases hq
  | defer c =>
    simp only [cE] at hq
    split at hq
    · split at hq
      · simp only [Option.some.injEq] at hq; subst hq; cases hs
      · cases hq
    · cases hq
  | _ => cases hq
end
end Go.Ab
end
