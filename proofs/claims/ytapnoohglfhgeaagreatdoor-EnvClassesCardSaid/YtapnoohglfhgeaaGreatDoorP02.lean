import Derived.Test.YtapnoohglfhgeaaGreatDoorP01
import Derived.Laws.StructEq
/-
  Part 2 of the proof.
-/
set_option linter.all false
section
/-
  Values held against each other; keys.
-/
namespace Go.Ab
open Go.RowKit (Below)

section
variable {P : Program} {N : Nat} {w0 : World} {G G' : GM} {h : AHeap} {w : World} {a : AAct} {ag : Act} {M : Nat}

theorem cInts_spec {t : TypeId} {n : Nat} (e : cInts P t = some n) :
    P.stoodInHeld t = false ∧ P.eqGuardType P.depth t = false ∧ P.underlying t = some (.struct (P.fieldsOf t)) ∧ (P.fieldsOf t).size = n ∧ (∀ i, P.info? t = some i → i.size = n) ∧ (∃ i, P.info? t = some i) ∧
    ∀ (j : Nat) (f : Field), (P.fieldsOf t).toList[j]? = some f → f.name ≠ "_" ∧ (∃ k, P.underlying f.type = some (.int k)) ∧ f.offset = j := by
  unfold cInts at e
  split at e
  · rename_i fs hu
    have hf : P.fieldsOf t = fs := by simp [Program.fieldsOf, hu]
    split at e
    · rename_i hc
      simp only [Option.some.injEq] at e
      simp only [intsOk, Bool.and_eq_true, Bool.not_eq_true'] at hc
      obtain ⟨h1, h2, h3, h4, h5⟩ := hc
      rw [List.all_eq_true] at h3 h4
      rw [hf]
      refine ⟨h1, h2, hu, e, ?_, ?_, ?_⟩
      · intro i hi
        rw [hi] at h5
        have := Nat.eq_of_beq_eq_true h5
        omega
      · cases hi : P.info? t with
        | none => rw [hi] at h5; cases h5
        | some i => exact ⟨i, rfl⟩
      · intro j f hj
        have hm := h3 f (List.mem_of_getElem? hj)
        rw [Bool.and_eq_true] at hm
        refine ⟨by simpa using hm.1, ?_, ?_⟩
        · have := hm.2
          split at this
          · rename_i k hk; exact ⟨k, hk⟩
          · cases this
        · have := h4 (f, j) (by
            have hj' : fs.toList.zipIdx[j]? = some (f, j) := by rw [List.getElem?_zipIdx, hj]; simp
            exact List.mem_of_getElem? hj')
          exact Nat.eq_of_beq_eq_true this
    · cases e
  · cases e

/-- Integers, one by one. -/
theorem eqCells_spec : ∀ {xs ys : List AVal} {b : Bool} {X Y : List Value}, eqCells xs ys = some b → VsR P G xs X → VsR P G ys Y →
    ∃ l : List (IntKind × Int × Int), X = l.map (fun p => .int p.1 p.2.1) ∧ Y = l.map (fun p => .int p.1 p.2.2) ∧ b = l.all (fun p => p.2.1 == p.2.2)
  | [], [], b, X, Y, e, hX, hY => by
    simp only [eqCells, Option.some.injEq] at e
    cases hX; cases hY
    exact ⟨[], rfl, rfl, e.symm⟩
  | [], _ :: _, b, X, Y, e, hX, hY => by simp [eqCells] at e
  | x :: xs, [], b, X, Y, e, hX, hY => by cases x <;> simp [eqCells] at e
  | x :: xs, y :: ys, b, X, Y, e, hX, hY => by
    obtain ⟨u, us, rfl, hu, hus⟩ := hX
    obtain ⟨v, vs, rfl, hv, hvs⟩ := hY
    cases x with
    | int k m =>
      cases y with
      | int k' m' =>
        simp only [eqCells] at e
        split at e
        · rename_i hk; subst hk
          cases hu; cases hv
          split at e
          · rename_i hm
            obtain ⟨l, rfl, rfl, rfl⟩ := eqCells_spec e hus hvs
            exact ⟨(k, m, m') :: l, rfl, rfl, by simp [hm]⟩
          · rename_i hm
            split at e
            · rename_i b' hb'
              simp only [Option.some.injEq] at e; subst e
              obtain ⟨l, rfl, rfl, _⟩ := eqCells_spec hb' hus hvs
              exact ⟨(k, m, m') :: l, rfl, rfl, by simp [hm]⟩
            · cases e
        · cases e
      | _ => simp [eqCells] at e
    | _ => simp [eqCells] at e

theorem run_eqFields_ints (d : Nat) (l : List (IntKind × Int × Int)) (X Y : Array Value) (hX : X.toList = l.map (fun p => .int p.1 p.2.1)) (hY : Y.toList = l.map (fun p => .int p.1 p.2.2)) :
    ∀ (fs : List Field) (i : Nat), (∀ (j : Nat) (f : Field), fs[j]? = some f → f.name ≠ "_" ∧ (∃ k, P.underlying f.type = some (.int k)) ∧ f.offset = i + j) → i + fs.length = l.length → ∀ w,
    (Op.eqFields (d + 1) X Y fs).run P w = .ok ((l.drop i).all (fun p => p.2.1 == p.2.2)) w
  | [], i, _, hl, w => by
    have : l.drop i = [] := List.drop_eq_nil_of_le (by simp at hl; omega)
    simp [Op.eqFields, this]
  | f :: fs, i, hf, hl, w => by
    obtain ⟨h1, ⟨k, h2⟩, h3⟩ := hf 0 f rfl
    have hlt : i < l.length := by simp at hl; omega
    obtain ⟨p, hp⟩ : ∃ p, l[i]? = some p := ⟨l[i], List.getElem?_eq_getElem hlt⟩
    have hx : X[i]? = some (.int p.1 p.2.1) := by rw [← Array.getElem?_toList, hX, List.getElem?_map, hp]; rfl
    have hy : Y[i]? = some (.int p.1 p.2.2) := by rw [← Array.getElem?_toList, hY, List.getElem?_map, hp]; rfl
    have hagg : ∀ w, (isAgg f.type).run P w = .ok false w := fun w => by simp [isAgg, run_underlying h2]
    have h3' : f.offset = i := by simpa using h3
    have hdrop : l.drop i = p :: l.drop (i + 1) := by
      rw [List.drop_eq_getElem_cons hlt]
      rw [List.getElem?_eq_getElem hlt] at hp
      cases hp; rfl
    have ih := run_eqFields_ints d l X Y hX hY fs (i + 1) (fun j f' hj => by
      have := hf (j + 1) f' (by simpa using hj)
      refine ⟨this.1, this.2.1, ?_⟩
      rw [this.2.2]; omega) (by simp at hl; omega)
    simp only [Op.eqFields, h1, ne_eq, not_false_eq_true, if_true, Sem.run_bind, part, hagg, Result.andThen_ok, h3', Bool.false_eq_true, if_false, hx, hy, Sem.run_pure,
      run_equalIn_int _ _ _ _ _ _ _ h2, Sem.run_ite, ih, hdrop, List.all_cons]
    cases p.2.1 == p.2.2 <;> simp

theorem run_equalIn_ints {t : TypeId} {n : Nat} (e : cInts P t = some n) {xs ys : List AVal} {X Y : Array Value} {b : Bool} (hx : VsR P G xs X.toList) (hy : VsR P G ys Y.toList) (hn : xs.length = n) (hb : eqCells xs ys = some b) (d : Nat) (w : World) :
    (Op.equalIn (d + 2) t (.agg X) (.agg Y)).run P w = .ok b w := by
  obtain ⟨h1, _, h3, h4, _, _, h7⟩ := cInts_spec e
  obtain ⟨l, hX, hY, rfl⟩ := eqCells_spec hb hx hy
  rw [run_equalIn_struct w (d + 1) t X Y h3 h1]
  have hlen : l.length = n := by
    have := hx.length
    rw [hX] at this
    simp at this
    omega
  have := run_eqFields_ints (P := P) d l X Y hX hY (P.fieldsOf t).toList 0 (fun j f hj => by
    have := h7 j f hj
    exact ⟨this.1, this.2.1, by omega⟩) (by simp; omega) w
  simpa using this

set_option maxHeartbeats 2000000 in
/-- 'x == y' where neither is a number or a string. -/
theorem eqA_in {t : TypeId} {lit : Bool} {k : EqK} {u v : AVal} {U V : Value} {b : Bool} (hk : cEq P t lit = some k) (e : eqA k u v = some b) (hu : VR P G u U) (hv : VR P G v V) (d : Nat) (w : World) :
    (Op.equalIn (d + 2) t U V).run P w = .ok b w := by
  unfold cEq at hk
  split at hk
  all_goals first | (simp only [Option.some.injEq] at hk; subst hk) | skip
  · rename_i ht
    cases u <;> cases v <;> simp only [eqA] at e <;> first | cases e; done | skip
    cases hu; cases hv
    simp only [Option.some.injEq] at e; subst e
    simp [Op.equalIn, run_underlying ht]
  · rename_i el ht
    split at hk
    · rename_i ie hie
      simp only [Option.some.injEq] at hk; subst hk
      cases u <;> first | (simp [eqA] at e; done) | skip
      rename_i x
      cases v <;> first | (cases x <;> simp [eqA] at e; done) | skip
      rename_i y
      cases x with
      | none =>
        cases hu
        cases y with
        | none => cases hv; simp [eqA] at e; subst e; simp [Op.equalIn, run_underlying ht]
        | some q => obtain ⟨g, _, rfl⟩ := hv; simp [eqA] at e; subst e; simp [Op.equalIn, run_underlying ht]
      | some p =>
        obtain ⟨g, hg, rfl⟩ := hu
        cases y with
        | none => cases hv; simp [eqA] at e; subst e; simp [Op.equalIn, run_underlying ht]
        | some q =>
          obtain ⟨g', hg', rfl⟩ := hv
          simp only [eqA] at e
          split at e
          · rename_i hpq
            simp only [Option.some.injEq] at e; subst e
            have h1 : p.1 = q.1 := hpq.1
            have h2 : p.2 = q.2 := hpq.2
            rw [← h1, hg] at hg'; cases hg'
            have hsz : (sizeOf el).run P w = .ok ie.size w := by simp [sizeOf, typeInfo, hie]
            rw [← h2]
            simp only [Op.equalIn, Sem.run_bind, run_underlying ht, Result.andThen_ok, hsz]
            by_cases h0 : ie.size = 0
            · simp [h0]
            · simp [h0, sameAddr]
          · cases e
    · cases hk
  · rename_i ms ht
    cases u <;> first | (simp [eqA] at e; done) | skip
    · rename_i t' x'
      cases v <;> first | (simp [eqA] at e; done) | skip
      obtain ⟨y, rfl, _⟩ := hu
      cases hv
      simp [eqA] at e; subst e; simp [Op.equalIn, run_underlying ht]
    · cases v <;> first | (simp [eqA] at e; done) | skip
      · obtain ⟨y, rfl, _⟩ := hv
        cases hu
        simp [eqA] at e; subst e; simp [Op.equalIn, run_underlying ht]
      · cases hu; cases hv
        simp [eqA] at e; obtain ⟨_, rfl⟩ := e; simp [Op.equalIn, run_underlying ht]
  · rename_i el ht
    by_cases hsp : (u = .slice0 ∨ u = .sliceE) ∨ (v = .slice0 ∨ v = .sliceE)
    · rcases hsp with (rfl | rfl) | (rfl | rfl)
      · obtain ⟨a1, rfl⟩ := hu
        cases v <;> first | (simp [eqA] at e; done) | skip
        rename_i y m
        cases y with
        | none => obtain ⟨rfl, rfl⟩ := hv; simp [eqA] at e; subst e; simp [Op.equalIn, run_underlying ht]
        | some q => simp [eqA] at e
      · obtain ⟨a1, c1, rfl⟩ := hu
        cases v <;> first | (simp [eqA] at e; done) | skip
        rename_i y m
        cases y with
        | none => obtain ⟨rfl, rfl⟩ := hv; simp [eqA] at e; subst e; simp [Op.equalIn, run_underlying ht]
        | some q => simp [eqA] at e
      · obtain ⟨a1, rfl⟩ := hv
        cases u <;> first | (simp [eqA] at e; done) | skip
        rename_i y m
        cases y with
        | none => obtain ⟨rfl, rfl⟩ := hu; simp [eqA] at e; subst e; simp [Op.equalIn, run_underlying ht]
        | some q => simp [eqA] at e
      · obtain ⟨a1, c1, rfl⟩ := hv
        cases u <;> first | (simp [eqA] at e; done) | skip
        rename_i y m
        cases y with
        | none => obtain ⟨rfl, rfl⟩ := hu; simp [eqA] at e; subst e; simp [Op.equalIn, run_underlying ht]
        | some q => simp [eqA] at e
    have hn1 : u ≠ .slice0 := fun hh => hsp (.inl (.inl hh))
    have hn2 : u ≠ .sliceE := fun hh => hsp (.inl (.inr hh))
    have hn3 : v ≠ .slice0 := fun hh => hsp (.inr (.inl hh))
    have hn4 : v ≠ .sliceE := fun hh => hsp (.inr (.inr hh))
    clear hsp
    cases u <;> first | exact absurd rfl hn1 | exact absurd rfl hn2 | (simp [eqA] at e; done) | skip
    rename_i x n
    cases v <;> first | exact absurd rfl hn3 | exact absurd rfl hn4 | (cases x <;> simp [eqA] at e; done) | skip
    rename_i y m
    cases x with
    | none =>
      obtain ⟨rfl, rfl⟩ := hu
      cases y with
      | none => obtain ⟨rfl, rfl⟩ := hv; simp [eqA] at e; subst e; simp [Op.equalIn, run_underlying ht]
      | some q => obtain ⟨g, c, _, rfl, _⟩ := hv; simp [eqA] at e; subst e; simp [Op.equalIn, run_underlying ht]
    | some p =>
      obtain ⟨g, c, _, rfl, _⟩ := hu
      cases y with
      | none => obtain ⟨rfl, rfl⟩ := hv; simp [eqA] at e; subst e; simp [Op.equalIn, run_underlying ht]
      | some q => simp [eqA] at e
  · rename_i kk el ht
    cases u <;> first | (simp [eqA] at e; done) | skip
    rename_i x
    cases v <;> first | (cases x <;> simp [eqA] at e; done) | skip
    rename_i y
    cases x with
    | none =>
      cases hu
      cases y with
      | none => cases hv; simp [eqA] at e; subst e; simp [Op.equalIn, run_underlying ht]
      | some q => obtain ⟨g, _, rfl⟩ := hv; simp [eqA] at e; subst e; simp [Op.equalIn, run_underlying ht]
    | some p =>
      obtain ⟨g, _, rfl⟩ := hu
      cases y with
      | none => cases hv; simp [eqA] at e; subst e; simp [Op.equalIn, run_underlying ht]
      | some q => simp [eqA] at e
  · rename_i ps rs vd ht
    cases u <;> first | (simp [eqA] at e; done) | skip
    · cases v <;> first | (simp [eqA] at e; done) | skip
      obtain ⟨L, K, rfl, _, _⟩ := hu
      cases hv
      simp [eqA] at e; subst e; simp [Op.equalIn, run_underlying ht]
    · cases v <;> first | (simp [eqA] at e; done) | skip
      · obtain ⟨L, K, rfl, _, _⟩ := hv
        cases hu
        simp [eqA] at e; subst e; simp [Op.equalIn, run_underlying ht]
      · cases hu; cases hv
        simp [eqA] at e; subst e; simp [Op.equalIn, run_underlying ht]
  · split at hk
    · rename_i n hn
      simp only [Option.some.injEq] at hk; subst hk
      cases u <;> first | (simp [eqA] at e; done) | skip
      rename_i xs
      cases v <;> first | (simp [eqA] at e; done) | skip
      rename_i ys
      obtain ⟨X, rfl, hX⟩ := hu
      obtain ⟨Y, rfl, hY⟩ := hv
      simp only [eqA] at e
      split at e
      · rename_i hl
        exact run_equalIn_ints hn hX hY hl.1 e d w
      · cases e
    · cases hk

theorem eqA_sound {t : TypeId} {lit : Bool} {k : EqK} {u v : AVal} {U V : Value} {b : Bool} (hk : cEq P t lit = some k) (e : eqA k u v = some b) (hu : VR P G u U) (hv : VR P G v V) (w : World) :
    (Op.equal t U V).run P w = .ok b w := eqA_in hk e hu hv 9998 w
end
end Go.Ab
end
section
/-
  Each quiet operation.
-/
namespace Go.Ab
open Go.RowKit (Below)

section
variable {P : Program} {N : Nat} {w0 : World} {G G' : GM} {h : AHeap} {w : World} {a : AAct} {ag : Act} {M : Nat}

/-- What kind of value stands for an abstract one. -/
def vtag : Value → Nat
  | .bool _ => 0 | .int _ _ => 1 | .string _ => 2 | .pointer _ => 3 | .slice _ _ _ => 4 | .map _ => 5 | .func _ _ _ => 6 | .nilFunc => 7
  | .iface _ _ => 8 | .nilIface => 9 | .agg _ => 10 | .tuple _ => 11 | _ => 12
def atag : AVal → Nat
  | .bool _ => 0 | .int _ _ => 1 | .str _ => 2 | .ptr _ => 3 | .slice _ _ | .slice0 | .sliceE => 4 | .map _ => 5 | .func _ _ _ | .yield _ => 6 | .nilFunc => 7
  | .iface _ _ => 8 | .nilIface => 9 | .agg _ => 10 | .tuple _ => 11
theorem VR.tag {u : AVal} {U : Value} (hu : VR P G u U) : vtag U = atag u := by
  cases u with
  | agg l => obtain ⟨L, rfl, a⟩ := hu; rfl
  | tuple l => obtain ⟨L, rfl, a⟩ := hu; rfl
  | bool b => cases hu; rfl
  | int k n => cases hu; rfl
  | str s => obtain ⟨b, rfl, e⟩ := hu; rfl
  | ptr a =>
    cases a with
    | none => cases hu; rfl
    | some p => obtain ⟨g, e, rfl⟩ := hu; rfl
  | slice a n =>
    cases a with
    | none => obtain ⟨e, rfl⟩ := hu; rfl
    | some p => obtain ⟨g, c, e, rfl, k⟩ := hu; rfl
  | slice0 => obtain ⟨a, rfl⟩ := hu; rfl
  | sliceE => obtain ⟨a, c, rfl⟩ := hu; rfl
  | map r =>
    cases r with
    | none => cases hu; rfl
    | some r => obtain ⟨g, e, rfl⟩ := hu; rfl
  | func f l m => obtain ⟨L, M, rfl, a, b⟩ := hu; rfl
  | yield l => obtain ⟨g, e, rfl⟩ := hu; rfl
  | nilFunc => cases hu; rfl
  | iface t x => obtain ⟨y, rfl, a⟩ := hu; rfl
  | nilIface => cases hu; rfl

theorem VR.of_nilIface {u : AVal} (hu : VR P G u .nilIface) : u = .nilIface := by
  have := hu.tag
  cases u <;> first | rfl | (simp [vtag, atag] at this)
theorem VR.of_agg {u : AVal} {X : Array Value} (hu : VR P G u (.agg X)) : ∃ xs, u = .agg xs ∧ VsR P G xs X.toList := by
  have := hu.tag
  cases u <;> first | (simp [vtag, atag] at this; done) | skip
  obtain ⟨L, h1, h2⟩ := hu
  cases h1
  exact ⟨_, rfl, h2⟩

theorem cEq_kind {t : TypeId} {lit : Bool} {k : EqK} (hk : cEq P t lit = some k) : (∀ l, k = .iface l → l = lit) ∧ (∀ n, k = .agg n → cInts P t = some n) := by
  unfold cEq at hk
  split at hk
  all_goals first
    | (simp only [Option.some.injEq] at hk; subst hk; exact ⟨fun l e => by cases e; try rfl, fun n e => by cases e⟩)
    | skip
  · split at hk
    · simp only [Option.some.injEq] at hk; subst hk
      exact ⟨(fun l e => by cases e), (fun n e => by cases e)⟩
    · cases hk
  · split at hk
    · rename_i n hn
      simp only [Option.some.injEq] at hk; subst hk
      exact ⟨fun l e => (by cases e), fun m e => (by cases e; exact hn)⟩
    · cases hk

theorem run_unit_else {c : Prop} [Decidable c] {X : Sem Unit} {w : World} (hX : X.run P w = .ok () w) : (if c then pure () else X : Sem Unit).run P w = .ok () w := by
  split
  · rfl
  · exact hX

theorem eqA_guard {t : TypeId} {k : EqK} {x y : Operand} {u v : AVal} {U V : Value} {b : Bool} (hk : cEq P t (isC x || isC y) = some k) (e : eqA k u v = some b) (hu : VR P G u U) (hv : VR P G v V) (op : BinOp) (w : World) :
    (eqGuard op t x y U V).run P w = .ok () w := by
  unfold eqGuard
  refine run_unit_else ?_
  · split
    · -- two nils
      have h1 := hu.of_nilIface
      have h2 := hv.of_nilIface
      subst h1; subst h2
      have hl : (isC x || isC y) = true := by
        cases k <;> simp [eqA] at e
        rename_i l
        rw [← (cEq_kind hk).1 _ rfl]; exact e.1
      clear hk
      cases x <;> cases y <;> first | rfl | (simp [isC] at hl)
    · -- two structs
      obtain ⟨xs, rfl, _⟩ := hu.of_agg
      obtain ⟨ys, rfl, _⟩ := hv.of_agg
      cases k <;> simp [eqA] at e
      rename_i n
      have := (cInts_spec ((cEq_kind hk).2 _ rfl)).2.1
      simp [this]
    · rfl

/-- '==', '!=' where neither is a number or a string: which operation is carried out. -/
theorem binOp_eql {t : TypeId} {k : EqK} {u v : AVal} {U V : Value} {b : Bool} {lit : Bool} (hk : cEq P t lit = some k) (e : eqA k u v = some b) (hu : VR P G u U) (hv : VR P G v V) (w : World) :
    (binOp .eql t U V).run P w = .ok (.bool b) w ∧ (binOp .neq t U V).run P w = .ok (.bool (!b)) w := by
  have hr := eqA_sound hk e hu hv w
  have t1 := hu.tag
  have t2 := hv.tag
  have ht : atag u ≠ 1 ∧ atag u ≠ 2 ∧ atag u ≠ 12 := by
    cases k <;> cases u <;> first | (refine ⟨?_, ?_, ?_⟩ <;> simp [atag]; done) | (simp [eqA] at e)
  cases U <;> simp only [vtag] at t1 <;> first
    | (exfalso; omega)
    | (constructor <;> simp [binOp, hr])
end
end Go.Ab
end
section
/-
  Each quiet operation: what it yields.
-/
namespace Go.Ab
open Go.RowKit (Below)

section
variable {P : Program} {N : Nat} {w0 : World} {G G' : GM} {h : AHeap} {w : World} {a : AAct} {ag : Act} {M : Nat}

theorem asNat_sound {v : AVal} {V : Value} {n : Nat} (e : asNat v = some n) (hv : VR P G v V) : ∃ k, V = .int k (n : Int) := by
  cases v with
  | int k m =>
    simp only [asNat] at e
    split at e
    · rename_i hm; simp only [Option.some.injEq] at e; subst e
      cases hv; exact ⟨k, by rw [Int.toNat_of_nonneg hm]⟩
    · cases e
  | _ => simp [asNat] at e

/-- A bound of a slice expression. -/
theorem boundA_sound (hl : ∀ g, g < P.globals.size → ∃ gi, G g = some gi ∧ gi.blk = g ∧ gi.off = 0) (ha : ActR P G M a ag) {x : Option Operand} {x' : Option AOpd} {d most n : Nat} (hc : cOpt P x = some x') (e : boundA a x' d most = some n) :
    (x = none ∧ n = d) ∨ ∃ y, x = some y ∧ n ≤ most ∧ ∃ k, ag.eval y = .int k (n : Int) := by
  cases x with
  | none =>
    simp only [cOpt, Option.some.injEq] at hc; subst hc
    simp only [boundA, Option.some.injEq] at e
    exact .inl ⟨rfl, e.symm⟩
  | some y =>
    simp only [cOpt] at hc
    split at hc
    · rename_i y' hy
      simp only [Option.some.injEq] at hc; subst hc
      simp only [boundA] at e
      split at e
      · rename_i k m hv
        split at e
        · rename_i hm
          simp only [Option.some.injEq] at e; subst e
          have := ev_sound hl ha hy hv
          refine .inr ⟨y, rfl, hm.2, k, ?_⟩
          rw [this, Int.toNat_of_nonneg hm.1]
        · cases e
      · cases e
    · cases hc

theorem run_sliceBound {k : IntKind} {n y : Nat} (hn : n ≤ y) (code : BoundsCode) (w : World) : (Instr.sliceBound (.int k (n : Int)) y code).run P w = .ok n w := by
  have : (0 : Int) ≤ n ∧ (n : Int) ≤ y := by omega
  simp [Instr.sliceBound, asIntOf, this]

theorem run_sliceBounds (hl : ∀ g, g < P.globals.size → ∃ gi, G g = some gi ∧ gi.blk = g ∧ gi.off = 0) (ha : ActR P G M a ag) {lo hi : Option Operand} {lo' hi' : Option AOpd} {len cap l t : Nat} (h1 : cOpt P lo = some lo') (h2 : cOpt P hi = some hi')
    (e2 : boundA a hi' len len = some t) (e1 : boundA a lo' 0 t = some l) (hlc : len ≤ cap) (b : Bool) (w : World) :
    l ≤ t ∧ t ≤ len ∧ (Instr.sliceBounds b len cap (lo.map ag.eval) (hi.map ag.eval) none).run P w = .ok (l, t, cap) w := by
  have ht : t ≤ len := by
    rcases boundA_sound hl ha h2 e2 with ⟨_, rfl⟩ | ⟨y, _, hle, _⟩
    · exact Nat.le_refl _
    · exact hle
  have hl' : l ≤ t := by
    rcases boundA_sound hl ha h1 e1 with ⟨_, rfl⟩ | ⟨y, _, hle, _⟩
    · exact Nat.zero_le _
    · exact hle
  refine ⟨hl', ht, ?_⟩
  rcases boundA_sound hl ha h2 e2 with ⟨rfl, rfl⟩ | ⟨y, rfl, _, k, hy⟩ <;> rcases boundA_sound hl ha h1 e1 with ⟨rfl, rfl⟩ | ⟨z, rfl, _, k', hz⟩
  · simp [Instr.sliceBounds]
  · simp [Instr.sliceBounds, hz, run_sliceBound hl']
  · simp [Instr.sliceBounds, hy, run_sliceBound (Nat.le_trans ht hlc)]
  · simp [Instr.sliceBounds, hy, hz, run_sliceBound (Nat.le_trans ht hlc), run_sliceBound hl']

/-- Cells laid into cells, one after the other. -/
theorem foldl_set : ∀ (cs : List Value) (off j : Nat) (L : Array Value), off + j + cs.length ≤ L.size →
    ((cs.zipIdx j).foldl (fun (L : Array Value) p => L.setIfInBounds (off + p.2) p.1) L).toList = L.toList.take (off + j) ++ cs ++ L.toList.drop (off + j + cs.length)
  | [], off, j, L, _ => by simp
  | c :: cs, off, j, L, hle => by
    simp only [List.zipIdx_cons, List.foldl_cons]
    simp only [List.length_cons] at hle
    rw [foldl_set cs off (j + 1) _ (by simp; omega)]
    have hlt : off + j < L.toList.length := by simp; omega
    simp only [Array.toList_setIfInBounds]
    have e1 : (L.toList.set (off + j) c).take (off + (j + 1)) = L.toList.take (off + j) ++ [c] := by
      rw [show off + (j + 1) = off + j + 1 from rfl, List.take_add_one, List.take_set_of_le (Nat.le_refl _), List.getElem?_set_self hlt]
      rfl
    have e2 : (L.toList.set (off + j) c).drop (off + (j + 1) + cs.length) = L.toList.drop (off + j + (c :: cs).length) := by
      rw [List.drop_set_of_lt (by omega)]
      congr 1
      simp; omega
    rw [e1, e2]
    simp

/-- 'fill', a part. -/
theorem fillA_sound (hl : ∀ g, g < P.globals.size → ∃ gi, G g = some gi ∧ gi.blk = g ∧ gi.off = 0) (ha : ActR P G M a ag) {t : TypeId} {place : Nat → Option (Nat × Nat)} (hp : ∀ i f, cPlace P t i = some f → place i = some f) :
    ∀ {ps : List (Nat × Operand)} {ps' : List (Nat × Nat × AOpd)} {cells cs : List AVal} {L : Array Value},
    mapO (fun p => match cPlace P t p.1, cOpd P p.2 with | some f, some x => some (f.1, f.2, x) | _, _ => none) ps = some ps' → fillA a cells ps' = some cs → VsR P G cells L.toList →
    ∃ L' : Array Value, Instr.fill place L (ps.map fun p => (p.1, ag.eval p.2)) = some L' ∧ VsR P G cs L'.toList
  | [], ps', cells, cs, L, hm, hf, hv => by
    simp only [mapO, Option.some.injEq] at hm; subst hm
    simp only [fillA, Option.some.injEq] at hf; subst hf
    exact ⟨L, rfl, hv⟩
  | p :: ps, ps', cells, cs, L, hm, hf, hv => by
    obtain ⟨y, zs, h1, h2, rfl⟩ := mapO_cons hm
    split at h1
    · rename_i f x hpl hx
      simp only [Option.some.injEq] at h1; subst h1
      simp only [fillA] at hf
      split at hf
      · cases hf
      · rename_i v hv1
        split at hf
        · rename_i hlen
          have hval := ev_sound hl ha hx hv1
          have hc := hval.cells
          have hcl : (ag.eval p.2).cells.size = f.2 := by have := hc.length; simp at this; omega
          have hLl : L.size = cells.length := by have := hv.length; simpa using this
          have hplace := hp p.1 f hpl
          have hstep : VsR P G (cells.take f.1 ++ cellsA v ++ cells.drop (f.1 + f.2)) ((ag.eval p.2).cells.zipIdx.foldl (fun cs (q : Value × Nat) => cs.setIfInBounds (f.1 + q.2) q.1) L).toList := by
            rw [← Array.foldl_toList, Array.toList_zipIdx, foldl_set _ _ _ _ (by simp; omega)]
            have e1 : (ag.eval p.2).cells.toList.length = f.2 := by simpa using hcl
            rw [e1]
            simpa using ((hv.take f.1).append hc).append (hv.drop (f.1 + f.2))
          obtain ⟨L', h3, h4⟩ := fillA_sound hl ha hp h2 hf hstep
          refine ⟨L', ?_, h4⟩
          simp only [List.map_cons, Instr.fill, hplace]
          rw [if_neg (by simp; omega)]
          exact h3
        · cases hf
    · cases h1
end
end Go.Ab
end
section
/-
  The quiet operations' soundness.
-/
namespace Go.Ab
open Go.RowKit (Below)

section
variable {P : Program} {N : Nat} {w0 : World} {G G' : GM} {h : AHeap} {w : World} {a : AAct} {ag : Act} {M : Nat}

theorem cZero_sound {t : TypeId} {z : AVal} (e : cZero P t = some z) : ∃ Z, VR P G z Z ∧ ∀ w, (zeroValue t).run P w = .ok Z w := by
  unfold cZero at e
  split at e
  · rename_i i hi
    split at e
    · rename_i Z hZ
      exact ⟨Z, ofV_sound e, fun w => by simp [zeroValue, typeInfo, hi, hZ]⟩
    · cases e
  · cases e

theorem run_mapM_list {α β : Type} {f : α → Sem β} {g : α → β} (w : World) : ∀ (l : List α), (∀ x ∈ l, (f x).run P w = .ok (g x) w) → (l.mapM f).run P w = .ok (l.map g) w
  | [], _ => by simp
  | x :: l, hx => by
    rw [List.mapM_cons]
    simp [hx x (by simp), run_mapM_list w l (fun y hy => hx y (by simp [hy]))]
theorem run_mapM {α β : Type} {f : α → Sem β} {g : α → β} (w : World) (xs : Array α) (hx : ∀ x ∈ xs.toList, (f x).run P w = .ok (g x) w) : (xs.mapM f).run P w = .ok (xs.map g) w := by
  rw [Array.mapM_eq_mapM_toList]
  simp only [Sem.run_map, run_mapM_list w xs.toList hx, Result.andThen_ok]
  exact congrArg (Result.ok · w) (Array.ext' (by simp))

theorem build_sound (hl : ∀ g, g < P.globals.size → ∃ gi, G g = some gi ∧ gi.blk = g ∧ gi.off = 0) (ha : ActR P G M a ag) {t : TypeId} {ps : Array (Nat × Operand)} {z : List AVal} {ps' : List (Nat × Nat × AOpd)} {cs : List AVal} {id : Option Nat}
    (hz : cZero P t = some (.agg z)) (hp : cParts P t ps = some ps') (hf : fillA a z ps' = some cs)
    (hu : (∃ fs, P.underlying t = some (.struct fs) ∧ fs.toList.all (fun f => (P.info? f.type).isSome) = true) ∨ ∃ n e i, P.underlying t = some (.array n e) ∧ P.info? e = some i) :
    Yi P G id w (.agg cs) (Instr.build t (ps.map fun (i, x) => (i, ag.eval x))) := by
  obtain ⟨Z, hZ, hzr⟩ := cZero_sound (P := P) (G := G) hz
  obtain ⟨ZL, rfl, hZL⟩ := hZ
  rcases hu with ⟨fs, hu, hall⟩ | ⟨n, e, i, hu, hi⟩
  · rw [List.all_eq_true] at hall
    have hsz : ∀ f ∈ fs.toList, ∀ w, (sizeOf f.type).run P w = .ok (P.cellsOf f.type) w := fun f hf w => by
      have := hall f hf
      cases hi : P.info? f.type with
      | none => rw [hi] at this; cases this
      | some i => simp [sizeOf, typeInfo, hi, Program.cellsOf]
    obtain ⟨L', h1, h2⟩ := fillA_sound (place := fun i => (fs.map fun f => (f.offset, P.cellsOf f.type))[i]?) hl ha (t := t) (fun i f hpl => by
      unfold cPlace at hpl
      rw [hu] at hpl
      simp only at hpl
      split at hpl
      · rename_i fd hfd
        split at hpl
        · rename_i n hn
          simp only [Option.some.injEq] at hpl; subst hpl
          rw [Array.getElem?_map]
          rw [Array.getElem?_toList] at hfd
          rw [hfd]
          simp [cellsOf_c hn]
        · cases hpl
      · cases hpl) hp hf hZL
    refine ⟨.agg L', ⟨L', rfl, h2⟩, fun w' _ => ?_⟩
    have hm := run_mapM (P := P) (f := fun (f : Field) => (do pure (f.offset, ← sizeOf f.type) : Sem (Nat × Nat))) (g := fun f => (f.offset, P.cellsOf f.type)) w' fs (fun f hf => by simp [hsz f hf w'])
    simp only [Instr.build, Sem.run_bind, hzr, Result.andThen_ok, run_underlying hu, hm, Value.cells]
    have h1' : Instr.fill (fun x => (fs.map fun f => (f.offset, P.cellsOf f.type))[x]?) ZL (ps.map fun (i, x) => (i, ag.eval x)).toList = some L' := by
      rw [Array.toList_map]; exact h1
    simp only [h1', Sem.run_pure]
  · obtain ⟨L', h1, h2⟩ := fillA_sound (place := fun j => some (j * i.size, i.size)) hl ha (t := t) (fun j f hpl => by
      unfold cPlace at hpl
      rw [hu] at hpl
      simp only at hpl
      split at hpl
      · rename_i n hn
        simp only [Option.some.injEq] at hpl; subst hpl
        obtain ⟨i', h3, h4⟩ := cSize_some hn
        rw [hi] at h3; cases h3
        rw [h4]
      · cases hpl) hp hf hZL
    refine ⟨.agg L', ⟨L', rfl, h2⟩, fun w' _ => ?_⟩
    have hs : (sizeOf e).run P w' = .ok i.size w' := by simp [sizeOf, typeInfo, hi]
    simp only [Instr.build, Sem.run_bind, hzr, Result.andThen_ok, run_underlying hu, hs, Value.cells]
    have h1' : Instr.fill (fun j => some (j * i.size, i.size)) ZL (ps.map fun (i, x) => (i, ag.eval x)).toList = some L' := by
      rw [Array.toList_map]; exact h1
    simp only [h1', Sem.run_pure]
end
end Go.Ab
end
section
/-
  Maps: what is found under a key.
-/
namespace Go.Ab
open Go.RowKit (Below)

section
variable {P : Program} {N : Nat} {w0 : World} {G G' : GM} {h : AHeap} {w : World} {a : AAct} {ag : Act} {M : Nat}

theorem eqL_keys {x y : ByteArray} : eqL (x.data.toList.map UInt8.toNat) (y.data.toList.map UInt8.toNat) = (x == y) := by
  rw [eqL_eq, beq_toListBytes, ByteArray.toList_eq, ByteArray.toList_eq]
  by_cases hxy : x.data.toList = y.data.toList
  · simp [hxy]
  · have h1 : (x.data.toList == y.data.toList) = false := by simpa using hxy
    rw [h1]
    have h2 : ¬ x.data.toList.map UInt8.toNat = y.data.toList.map UInt8.toNat := fun h => hxy (map_toNat_inj h)
    simpa using h2

/-- Which comparing a key's type stands for. -/
theorem cKey_spec {t : TypeId} {k : KeyK} (hk : cKey P t = some k) :
    (k = .str ∧ P.underlying t = some .string) ∨ (k = .int ∧ ∃ i, P.underlying t = some (.int i)) ∨
    (k = .ptr ∧ ∃ e i, P.underlying t = some (.pointer e) ∧ P.info? e = some i ∧ i.size ≠ 0) ∨ (∃ n, k = .agg n ∧ cInts P t = some n) := by
  unfold cKey at hk
  split at hk
  · rename_i hu; simp only [Option.some.injEq] at hk; exact .inl ⟨hk.symm, hu⟩
  · rename_i i hu; simp only [Option.some.injEq] at hk; exact .inr (.inl ⟨hk.symm, i, hu⟩)
  · rename_i e hu
    split at hk
    · rename_i i hi
      split at hk
      · cases hk
      · simp only [Option.some.injEq] at hk
        exact .inr (.inr (.inl ⟨hk.symm, e, i, hu, hi, by assumption⟩))
    · cases hk
  · split at hk
    · rename_i n hn
      simp only [Option.some.injEq] at hk
      exact .inr (.inr (.inr ⟨n, hk.symm, hn⟩))
    · cases hk

/-- What was found, and where. -/
def Found (P : Program) (G : GM) (E : List MapEntry) (i : Nat) : Option (Nat × AVal) → Option (Nat × Value) → Prop
  | none, R => R = none
  | some (j, v), R => ∃ e, R = some (j, e.val) ∧ VR P G v e.val ∧ i ≤ j ∧ E[j - i]? = some e

theorem Found.cons {E : List MapEntry} {e : MapEntry} {i : Nat} {r : Option (Nat × AVal)} {R : Option (Nat × Value)} (hf : Found P G E (i + 1) r R) : Found P G (e :: E) i r R := by
  cases r with
  | none => exact hf
  | some p =>
    obtain ⟨j, v⟩ := p
    obtain ⟨e', h1, h2, h3, h4⟩ := hf
    refine ⟨e', h1, h2, by omega, ?_⟩
    rw [show j - i = (j - (i + 1)) + 1 from by omega]
    simpa using h4

theorem findAsking_sound {S : World → Prop} {kt : TypeId} {k : KeyK} {x : AVal} {X : Value} {L : AVal → Prop} (heq : ∀ y b Y, L y → keyA k x y = some b → VR P G y Y → ∀ w', S w' → (Op.equal kt X Y).run P w' = .ok b w') :
    ∀ {es : List (AVal × AVal × Nat)} {E : List MapEntry} {i : Nat} {r : Option (Nat × AVal)}, (∀ e ∈ es, L e.1) → findA k x es i = some r → ER P G es E →
      ∃ R, Found P G E i r R ∧ ∀ w', S w' → (Instr.findAsking kt X E i).run P w' = .ok R w'
  | [], E, i, r, _, hf, he => by
    simp only [findA, Option.some.injEq] at hf; subst hf
    cases he
    exact ⟨none, rfl, fun w' _ => by simp [Instr.findAsking]⟩
  | (y, v, b) :: es, E, i, r, hL, hf, he => by
    obtain ⟨e, es', rfl, h1, h2, h3, h4⟩ := he
    have hy : L y := hL _ (List.mem_cons_self ..)
    simp only [findA] at hf
    split at hf
    · rename_i hk
      simp only [Option.some.injEq] at hf; subst hf
      refine ⟨some (i, e.val), ⟨e, rfl, h2, Nat.le_refl _, by simp⟩, fun w' hS => ?_⟩
      simp [Instr.findAsking, heq y true _ hy hk h1 w' hS]
    · rename_i hk
      obtain ⟨R, h5, h6⟩ := findAsking_sound heq (fun e he => hL e (List.mem_cons_of_mem _ he)) hf h4
      refine ⟨R, h5.cons, fun w' hS => ?_⟩
      simp [Instr.findAsking, heq y false _ hy hk h1 w' hS, h6 w' hS]
    · cases hf

theorem findNow_sound {kd : TypeDesc} {k : KeyK} {x : AVal} {X : Value} (heq : ∀ y b Y, keyA k x y = some b → VR P G y Y → Instr.sameNow kd X Y = some b) :
    ∀ {es : List (AVal × AVal × Nat)} {E : List MapEntry} {i : Nat} {r : Option (Nat × AVal)}, findA k x es i = some r → ER P G es E →
      ∃ R, Found P G E i r R ∧ Instr.findNow kd X E i = some R
  | [], E, i, r, hf, he => by
    simp only [findA, Option.some.injEq] at hf; subst hf
    cases he
    exact ⟨none, rfl, rfl⟩
  | (y, v, b) :: es, E, i, r, hf, he => by
    obtain ⟨e, es', rfl, h1, h2, h3, h4⟩ := he
    simp only [findA] at hf
    split at hf
    · rename_i hk
      simp only [Option.some.injEq] at hf; subst hf
      exact ⟨some (i, e.val), ⟨e, rfl, h2, Nat.le_refl _, by simp⟩, by simp [Instr.findNow, heq y true _ hk h1]⟩
    · rename_i hk
      obtain ⟨R, h5, h6⟩ := findNow_sound heq hf h4
      exact ⟨R, h5.cons, by simp [Instr.findNow, heq y false _ hk h1, h6]⟩
    · cases hf

theorem findNow_struct {fs : Array Field} {X : Value} : ∀ {E : List MapEntry} {i : Nat} {R}, Instr.findNow (.struct fs) X E i = some R → E = [] ∧ R = none
  | [], i, R, e => by simp [Instr.findNow] at e; exact ⟨rfl, e.symm⟩
  | _ :: _, i, R, e => by simp [Instr.findNow, Instr.sameNow] at e

theorem findNow_pointer {el : TypeId} {X : Value} : ∀ {E : List MapEntry} {i : Nat} {R}, Instr.findNow (.pointer el) X E i = some R → E = [] ∧ R = none
  | [], i, R, e => by simp [Instr.findNow] at e; exact ⟨rfl, e.symm⟩
  | _ :: _, i, R, e => by simp [Instr.findNow, Instr.sameNow] at e

/-- What the machine asks of the world when it holds a pointer against those that are keys. -/
def PtrOK (P : Program) (G : GM) (es : List (AVal × AVal × Nat)) (x : AVal) (w : World) : Prop := ∀ y b Y X, (∃ e ∈ es, e.1 = y) → keyA .ptr x y = some b → VR P G x X → VR P G y Y → ∀ e i t, P.underlying t = some (.pointer e) → P.info? e = some i → i.size ≠ 0 → (Op.equal t X Y).run P w = .ok b w

theorem findKey_sound {kt : TypeId} {k : KeyK} (hk : cKey P kt = some k) {x : AVal} {X : Value} (hx : VR P G x X) (S : World → Prop)
    {es : List (AVal × AVal × Nat)} {E : List MapEntry} {r : Option (Nat × AVal)} (hS : k = .ptr → ∀ w, S w → PtrOK P G es x w) (hf : findA k x es 0 = some r) (he : ER P G es E) :
    ∃ R, Found P G E 0 r R ∧ ∀ w', S w' → (Instr.findKey kt X E).run P w' = .ok R w' := by
  rcases cKey_spec hk with ⟨rfl, hu⟩ | ⟨rfl, i, hu⟩ | ⟨rfl, el, i, hu, hi, hsz⟩ | ⟨n, rfl, hn⟩
  · obtain ⟨R, h1, h2⟩ := findNow_sound (kd := .string) (X := X) (fun y b Y hb hy => by
      cases x <;> cases y <;> simp only [keyA] at hb <;> first | cases hb; done | skip
      obtain ⟨x', rfl, rfl⟩ := hx
      obtain ⟨y', rfl, rfl⟩ := hy
      simp only [Option.some.injEq] at hb; subst hb
      simp [Instr.sameNow, eqL_keys]) hf he
    exact ⟨R, h1, fun w' _ => by simp [Instr.findKey, run_underlying hu, h2]⟩
  · obtain ⟨R, h1, h2⟩ := findNow_sound (kd := .int i) (X := X) (fun y b Y hb hy => by
      cases x <;> cases y <;> simp only [keyA] at hb <;> first | cases hb; done | skip
      cases hx; cases hy
      split at hb
      · rename_i hkk; simp only [Option.some.injEq] at hb; subst hb
        simp [Instr.sameNow, hkk]
      · cases hb) hf he
    exact ⟨R, h1, fun w' _ => by simp [Instr.findKey, run_underlying hu, h2]⟩
  · obtain ⟨R, h1, h2⟩ := findAsking_sound (S := S) (kt := kt) (X := X) (L := fun y => ∃ e ∈ es, e.1 = y) (fun y b Y hl hb hy w' hw' => hS rfl w' hw' y b Y X hl hb hx hy el i kt hu hi hsz) (fun e he => ⟨e, he, rfl⟩) hf he
    refine ⟨R, h1, fun w' hw' => ?_⟩
    simp only [Instr.findKey, Sem.run_bind, run_underlying hu, Result.andThen_ok]
    split
    · rename_i r' hr'
      obtain ⟨rfl, rfl⟩ := findNow_pointer hr'
      have := h2 w' hw'
      simp only [Instr.findAsking, Sem.run_pure, Result.ok.injEq] at this
      rw [← this.1]
      rfl
    · exact h2 w' hw'
  · obtain ⟨R, h1, h2⟩ := findAsking_sound (S := S) (kt := kt) (X := X) (L := fun _ => True) (fun y b Y _ hb hy w' _ => by
      cases x <;> cases y <;> simp only [keyA] at hb <;> first | cases hb; done | skip
      obtain ⟨XL, rfl, hXL⟩ := hx
      obtain ⟨YL, rfl, hYL⟩ := hy
      split at hb
      · rename_i hlen; exact run_equalIn_ints hn hXL hYL hlen.1 hb 9998 w'
      · cases hb) (fun _ _ => trivial) hf he
    refine ⟨R, h1, fun w' hw' => ?_⟩
    simp only [Instr.findKey, Sem.run_bind, run_underlying (cInts_spec hn).2.2.1, Result.andThen_ok]
    split
    · rename_i r' hr'
      obtain ⟨rfl, rfl⟩ := findNow_struct hr'
      have := h2 w' hw'
      simp only [Instr.findAsking, Sem.run_pure, Result.ok.injEq] at this
      rw [← this.1]
      rfl
    · exact h2 w' hw'

theorem run_forIn_unit {α : Type} (w : World) (f : α → PUnit → Sem (ForInStep PUnit)) : ∀ (l : List α), (∀ x ∈ l, (f x ⟨⟩).run P w = .ok (.yield ⟨⟩) w) → (forIn l PUnit.unit f).run P w = .ok ⟨⟩ w
  | [], _ => by simp
  | x :: l, hx => by
    rw [List.forIn_cons]
    simp [hx x (by simp), run_forIn_unit w f l (fun y hy => hx y (by simp [hy]))]

theorem run_checkKey' {kt : TypeId} {k : KeyK} (hk : cKey P kt = some k) {x : AVal} {X : Value} (hx : VR P G x X) (hi : isKey k x = true) (b : Bool) (D : Nat) (hD : ∃ d, D = d + 1) (w : World) : (Instr.checkKey b (D + 1) kt X).run P w = .ok () w := by
  rcases cKey_spec hk with ⟨rfl, hu⟩ | ⟨rfl, i, hu⟩ | ⟨rfl, el, i, hu, hi', hsz⟩ | ⟨n, rfl, hn⟩
  · cases x <;> simp [isKey] at hi
    obtain ⟨x', rfl, rfl⟩ := hx
    simp [Instr.checkKey, run_underlying hu]
  · cases x <;> simp [isKey] at hi
    cases hx
    simp [Instr.checkKey, run_underlying hu]
  · cases x <;> simp [isKey] at hi
    rename_i p
    cases p with
    | none => simp at hi
    | some p => obtain ⟨g, _, rfl⟩ := hx; simp [Instr.checkKey, run_underlying hu]
  · cases x <;> simp only [isKey, Bool.false_eq_true] at hi
    rename_i xs
    obtain ⟨XL, rfl, hXL⟩ := hx
    rw [Bool.and_eq_true] at hi
    obtain ⟨hlen, hall⟩ := hi
    rw [List.all_eq_true] at hall
    have hlen' := Nat.eq_of_beq_eq_true hlen
    obtain ⟨_, _, hu, hsz, _, _, hf⟩ := cInts_spec hn
    simp only [Instr.checkKey, Sem.run_bind, run_underlying hu, Result.andThen_ok]
    rw [← Array.forIn_toList]
    have := run_forIn_unit (P := P) w (fun (f : Field) (_ : PUnit) => (do
        if f.name ≠ "_" then Instr.checkKey b D f.type (← part f.type XL f.offset)
        pure (ForInStep.yield PUnit.unit))) (P.fieldsOf kt).toList (fun f hmem => by
      obtain ⟨j, hj⟩ := List.getElem?_of_mem hmem
      obtain ⟨h1, ⟨kk, h2⟩, h3⟩ := hf j f hj
      have hjlt : j < xs.length := by
        rw [hlen', ← hsz]
        have : j < (P.fieldsOf kt).toList.length := by
          rcases Nat.lt_or_ge j (P.fieldsOf kt).toList.length with hh | hh
          · exact hh
          · rw [List.getElem?_eq_none hh] at hj; cases hj
        simpa using this
      obtain ⟨v, hv1, hv2⟩ := hXL.get (List.getElem?_eq_getElem hjlt)
      have hint := hall xs[j] (List.getElem_mem _)
      have hagg : (isAgg f.type).run P w = .ok false w := by simp [isAgg, run_underlying h2]
      have hX : XL[j]? = some v := by simpa using hv1
      have hv3 : ∃ k m, v = .int k m := by
        cases hxx : xs[j] <;> rw [hxx] at hint hv2 <;> first | (simp at hint; done) | skip
        exact ⟨_, _, hv2⟩
      obtain ⟨k', m', rfl⟩ := hv3
      obtain ⟨d, rfl⟩ := hD
      simp [h1, part, hagg, h3, hX, Instr.checkKey, run_underlying h2])
    simp at this
    simp [this]

/-- A key of such a type may be one. -/
theorem run_checkKey {kt : TypeId} {k : KeyK} (hk : cKey P kt = some k) {x : AVal} {X : Value} (hx : VR P G x X) (hi : isKey k x = true) (b : Bool) (w : World) : (Instr.checkKey b 10000 kt X).run P w = .ok () w :=
  run_checkKey' hk hx hi b 9999 ⟨9998, rfl⟩ w
end
end Go.Ab
end
section
/-
  The quiet operations' soundness.
-/
namespace Go.Ab
open Go.RowKit (Below)

section
variable {P : Program} {N : Nat} {w0 : World} {G G' : GM} {h : AHeap} {w : World} {a : AAct} {ag : Act} {M : Nat}

theorem run_getObj_of {b : Nat} {o : Obj} (hb : w.heap[b]? = some o) (ho : ∀ c e f, o ≠ .cells c e f) : (getObj b).run P w = .ok o w := by
  cases o <;> simp [getObj, Sem.run, hb]
  exact absurd rfl (ho _ _ _)
theorem run_setObj_of {b : Nat} {o : Obj} (o' : Obj) (hb : w.heap[b]? = some o) (ho : ∀ c e f, o ≠ .cells c e f) : (setObj b o').run P w = .ok () { w with heap := w.heap.setIfInBounds b o' } := by
  cases o <;> simp [setObj, Sem.run, hb]
  exact absurd rfl (ho _ _ _)

theorem cMap_spec {t : TypeId} {k : KeyK} {z : AVal} (hm : cMap P t = some (k, z)) : ∃ kt et, P.underlying t = some (.map kt et) ∧ cKey P kt = some k ∧ cZero P et = some z := by
  unfold cMap at hm
  split at hm
  · rename_i kt et hu
    split at hm
    · rename_i k' z' h1 h2
      simp only [Option.some.injEq, Prod.mk.injEq] at hm
      obtain ⟨rfl, rfl⟩ := hm
      exact ⟨kt, et, hu, h1, h2⟩
    · cases hm
  · cases hm

theorem lookA_sound (hR : Rel P N w0 G h w) {t : TypeId} {k : KeyK} {z m x v : AVal} {ok : Bool} {id : Option Nat} {Mv X : Value} (hm : cMap P t = some (k, z)) (e : lookA h k z ok m x = some (v, id)) (hMv : VR P G m Mv) (hX : VR P G x X)
    (S : World → Prop) (hS : k = .ptr → ∀ r ver es c, m = .map (some r) → h.objs.get r = some (ver, .map es c) → ∀ w, S w → PtrOK P G es x w) :
    ∃ cv, VR P G v cv ∧ ∀ w', Look G id w w' → S w' → (Instr.lookup t Mv X ok).run P w' = .ok cv w' := by
  obtain ⟨kt, et, hu, hk, hz⟩ := cMap_spec hm
  obtain ⟨Z, hZ, hZr⟩ := cZero_sound (P := P) (G := G) hz
  unfold lookA at e
  split at e
  · cases e
  · rename_i hi
    have hck : ∀ b w', (Instr.checkKey b 10000 kt X).run P w' = .ok () w' := fun b w' => run_checkKey hk hX hi b w'
    split at e
    · simp only [Option.some.injEq, Prod.mk.injEq] at e
      obtain ⟨rfl, rfl⟩ := e
      cases hMv
      obtain ⟨R, h1, h2⟩ := findKey_sound (P := P) (G := G) hk hX S (es := []) (E := []) (r := none) (fun _ _ _ _ _ _ _ hl => by obtain ⟨_, he, _⟩ := hl; cases he) rfl rfl
      cases h1
      refine ⟨if ok then .tuple #[Z, .bool false] else Z, ?_, fun w' _ hs => ?_⟩
      · cases ok
        · exact hZ
        · exact ⟨_, rfl, Z, _, rfl, hZ, _, _, rfl, rfl, rfl⟩
      · have := h2 w' hs
        simp only [Instr.lookup, Sem.run_bind, run_underlying hu, Result.andThen_ok, Sem.run_pure, hck]
        simp [this, hZr]
    · rename_i r
      obtain ⟨g, hg, rfl⟩ := hMv
      split at e
      · rename_i ver es clock hget
        obtain ⟨gi, hgi, ob, hob, E, rfl, hE⟩ := hR.obj r ver _ hget
        rw [hg] at hgi; cases hgi
        have hobj : ∀ w', w'.heap[g.blk]? = w.heap[g.blk]? → (getObj g.blk).run P w' = .ok (.map E clock) w' := fun w' hw' =>
          run_getObj_of (by rw [hw']; exact hob) (by intro c e f hh; cases hh)
        split at e
        · rename_i j v' hf
          simp only [Option.some.injEq, Prod.mk.injEq] at e
          obtain ⟨rfl, rfl⟩ := e
          obtain ⟨R, ⟨en, rfl, h3, _, _⟩, h2⟩ := findKey_sound hk hX S (fun hp => hS hp r ver es clock rfl hget) hf hE
          refine ⟨if ok then .tuple #[en.val, .bool true] else en.val, ?_, fun w' hl hs => ?_⟩
          · cases ok
            · exact h3
            · exact ⟨_, rfl, _, _, rfl, h3, _, _, rfl, rfl, rfl⟩
          · have := h2 w' hs
            have ho := hobj w' (hl _ rfl _ hg)
            simp only [Instr.lookup, Sem.run_bind, run_underlying hu, Result.andThen_ok, Sem.run_pure, hck, ho]
            simp [this]
        · rename_i hf
          simp only [Option.some.injEq, Prod.mk.injEq] at e
          obtain ⟨rfl, rfl⟩ := e
          obtain ⟨R, h1, h2⟩ := findKey_sound hk hX S (fun hp => hS hp r ver es clock rfl hget) hf hE
          cases h1
          refine ⟨if ok then .tuple #[Z, .bool false] else Z, ?_, fun w' hl hs => ?_⟩
          · cases ok
            · exact hZ
            · exact ⟨_, rfl, Z, _, rfl, hZ, _, _, rfl, rfl, rfl⟩
          · have := h2 w' hs
            have ho := hobj w' (hl _ rfl _ hg)
            simp only [Instr.lookup, Sem.run_bind, run_underlying hu, Result.andThen_ok, Sem.run_pure, hck, ho]
            simp [this, hZr]
        · cases e
      · cases e
    · cases e

/-- What a quiet operation of the machine yields. -/
def QY (P : Program) (G : GM) (w : World) (ag : Act) (op : Op) (v : AVal) (id : Option Nat) : Prop :=
  ∃ cv, VR P G v cv ∧ ∀ (o : Oper), o.op = op → ∀ w', Look G id w w' → (execOp ag.eval o).run P w' = .ok (.value cv) w'

theorem QY.of_yi {op : Op} {v : AVal} {id : Option Nat} {s : Sem Value} (hy : Yi P G id w v s) (he : ∀ o : Oper, o.op = op → execOp ag.eval o = (do pure (Next.value (← s)))) : QY P G w ag op v id := by
  obtain ⟨cv, h1, h2⟩ := hy
  exact ⟨cv, h1, fun o ho w' hl => by rw [he o ho]; simp [h2 w' hl]⟩
theorem QY.of_run {op : Op} {v : AVal} {id : Option Nat} {s : Sem Value} {cv : Value} (h1 : VR P G v cv) (h2 : ∀ w', Look G id w w' → s.run P w' = .ok cv w') (he : ∀ o : Oper, o.op = op → execOp ag.eval o = (do pure (Next.value (← s)))) : QY P G w ag op v id :=
  QY.of_yi ⟨cv, h1, h2⟩ he

theorem exec_move {x : Operand} (o : Oper) (ho : o.op = .move x) : execOp ag.eval o = pure (.value (ag.eval x)) := by unfold execOp; rw [ho]

/-- 'len' of a string, a slice, a map. -/
theorem len_exec {x : Operand} {t : TypeId} {c : Call} (hc : c.callee = .builtin .len) (hx : c.args.toList = [x]) (ht : c.argTypes.toList = [t]) (o : Oper) (ho : o.op = .call c) :
    execOp ag.eval o = (do pure (Next.value (← Builtin.len_ c.argTypes o.type #[ag.eval x]))) := by
  have hx' : c.args = #[x] := by cases hh : c.args; rw [hh] at hx; simp at hx; rw [hx]
  unfold execOp
  rw [ho]
  simp [resolve, hc, invoke, builtin, hx']
theorem max_exec {x y : Operand} {c : Call} (hc : c.callee = .builtin .max) (hx : c.args.toList = [x, y]) (o : Oper) (ho : o.op = .call c) :
    execOp ag.eval o = (do pure (Next.value (← Builtin.max_ c.argTypes o.type #[ag.eval x, ag.eval y]))) := by
  have hx' : c.args = #[x, y] := by cases hh : c.args; rw [hh] at hx; simp at hx; rw [hx]
  unfold execOp
  rw [ho]
  simp [resolve, hc, invoke, builtin, hx']
theorem min_exec {x y : Operand} {c : Call} (hc : c.callee = .builtin .min) (hx : c.args.toList = [x, y]) (o : Oper) (ho : o.op = .call c) :
    execOp ag.eval o = (do pure (Next.value (← Builtin.min_ c.argTypes o.type #[ag.eval x, ag.eval y]))) := by
  have hx' : c.args = #[x, y] := by cases hh : c.args; rw [hh] at hx; simp at hx; rw [hx]
  unfold execOp
  rw [ho]
  simp [resolve, hc, invoke, builtin, hx']
end
end Go.Ab
end
