import Derived.Test.YtpmndmiohaaokaaGreatDoorP01
import Derived.Lib.IndexBytes
import Derived.Deep.AppendSrc
import Derived.Laws.CopyRow
import Derived.RangeFuncRecord
/-
  Part 2 of the proof.
-/
set_option linter.all false
section
namespace Go.Ab
open Go.RowKit (Below)

section
variable {P : Program} {N : Nat} {w0 : World} {G G' : GM} {h : AHeap} {w : World} {a : AAct} {ag : Act} {M : Nat}

theorem zEZ {t : TypeId} {z : AVal} (e : zGi P t = some z) : ∃ Z, VR P G z Z /\ ∀ w, (zeroValue t).run P w = .ok Z w := by
 unfold zGi at e
 split at e
 ·rename_i i hi
  split at e
  ·rename_i Z hZ
   exact ⟨Z, zHy e, fun w => by simp [zeroValue, typeInfo, hi, hZ]⟩
  ·cases e
 ·cases e

theorem zGd {α β : Type} {f : α -> Sem β} {g : α -> β} (w : World) : ∀ (l : List α), (∀ x ∈ l, (f x).run P w = .ok (g x) w) -> (l.mapM f).run P w = .ok (l.map g) w
 | [], _ => by simp
 | x :: l, hx => by
  rw [List.mapM_cons]
  simp [hx x (by simp), zGd w l (fun y hy => hx y (by simp [hy]))]
theorem run_mapM {α β : Type} {f : α -> Sem β} {g : α -> β} (w : World) (xs : Array α) (hx : ∀ x ∈ xs.toList, (f x).run P w = .ok (g x) w) : (xs.mapM f).run P w = .ok (xs.map g) w := by
 rw [Array.mapM_eq_mapM_toList]
 simp only [Sem.run_map, zGd w xs.toList hx, Result.andThen_ok]
 exact congrArg (Result.ok · w) (Array.ext' (by simp))

theorem zHZ (hl : ∀ g, g < P.globals.size -> ∃ gi, G g = some gi /\ gi.blk = g /\ gi.off = 0) (ha : ActR P G M a ag) {t : TypeId} {ps : Array (Nat × Operand)} {z : List AVal} {ps' : List (Nat × Nat × AOpd)} {cs : List AVal} {id : Option Nat}
  (hz : zGi P t = some (.agg z)) (hp : cParts P t ps = some ps') (hf : zCw a z ps' = some cs)
  (hu : (∃ fs, P.underlying t = some (.struct fs) /\ fs.toList.all (fun f => (P.info? f.type).isSome) = true) \/ ∃ n e i, P.underlying t = some (.array n e) /\ P.info? e = some i) :
  Yi P G id w (.agg cs) (Instr.build t (ps.map fun (i, x) => (i, ag.eval x))) := by
 obtain ⟨Z, hZ, hzr⟩ := zEZ (P := P) (G := G) hz
 obtain ⟨ZL, rfl, hZL⟩ := hZ
 rcases hu with ⟨fs, hu, hall⟩ | ⟨n, e, i, hu, hi⟩
 ·rw [List.all_eq_true] at hall
  have hsz : ∀ f ∈ fs.toList, ∀ w, (sizeOf f.type).run P w = .ok (P.cellsOf f.type) w := fun f hf w => by
   have := hall f hf
   cases hi : P.info? f.type with
   | none => rw [hi] at this; cases this
   | some i => simp [sizeOf, typeInfo, hi, Program.cellsOf]
  obtain ⟨L', h1, h2⟩ := zFz (place := fun i => (fs.map fun f => (f.offset, P.cellsOf f.type))[i]?) hl ha (t := t) (fun i f hpl => by
   unfold zKJ at hpl
   rw [hu] at hpl
   simp only at hpl
   split at hpl
   ·rename_i fd hfd
    split at hpl
    ·rename_i n hn
     simp only [oI] at hpl; subst hpl
     rw [Array.getElem?_map]
     rw [Array.getElem?_toList] at hfd
     rw [hfd]
     simp [zGJ hn]
    ·cases hpl
   ·cases hpl) hp hf hZL
  refine ⟨.agg L', ⟨L', rfl, h2⟩, fun w' _ => ?_⟩
  have hm := run_mapM (P := P) (f := fun (f : Field) => (do pure (f.offset, <- sizeOf f.type) : Sem (Nat × Nat))) (g := fun f => (f.offset, P.cellsOf f.type)) w' fs (fun f hf => by simp [hsz f hf w'])
  simp only [Instr.build, Sem.run_bind, hzr, Result.andThen_ok, run_underlying hu, hm, Value.cells]
  have h1' : Instr.fill (fun x => (fs.map fun f => (f.offset, P.cellsOf f.type))[x]?) ZL (ps.map fun (i, x) => (i, ag.eval x)).toList = some L' := by
   rw [Array.toList_map]; exact h1
  simp only [h1', Sem.run_pure]
 ·obtain ⟨L', h1, h2⟩ := zFz (place := fun j => some (j * i.size, i.size)) hl ha (t := t) (fun j f hpl => by
   unfold zKJ at hpl
   rw [hu] at hpl
   simp only at hpl
   split at hpl
   ·rename_i n hn
    simp only [oI] at hpl; subst hpl
    obtain ⟨i', h3, h4⟩ := zDI hn
    rw [hi] at h3; cases h3
    rw [h4]
   ·cases hpl) hp hf hZL
  refine ⟨.agg L', ⟨L', rfl, h2⟩, fun w' _ => ?_⟩
  have hs : (sizeOf e).run P w' = .ok i.size w' := by simp [sizeOf, typeInfo, hi]
  simp only [Instr.build, Sem.run_bind, hzr, Result.andThen_ok, run_underlying hu, hs, Value.cells]
  have h1' : Instr.fill (fun j => some (j * i.size, i.size)) ZL (ps.map fun (i, x) => (i, ag.eval x)).toList = some L' := by
   rw [Array.toList_map]; exact h1
  simp only [h1', Sem.run_pure]
end
end Go.Ab
end
section
namespace Go.Ab
open Go.RowKit (Below)

section
variable {P : Program} {N : Nat} {w0 : World} {G G' : GM} {h : AHeap} {w : World} {a : AAct} {ag : Act} {M : Nat}

theorem eqL_keys {x y : ByteArray} : eqL (x.data.toList.map UInt8.toNat) (y.data.toList.map UInt8.toNat) = (x == y) := by
 rw [zNd, beq_toListBytes, ByteArray.toList_eq, ByteArray.toList_eq]
 by_cases hxy : x.data.toList = y.data.toList
 ·simp [hxy]
 ·have h1 : (x.data.toList == y.data.toList) = false := by simpa using hxy
  rw [h1]
  have h2 : ¬ x.data.toList.map UInt8.toNat = y.data.toList.map UInt8.toNat := fun h => hxy (zEi h)
  simpa using h2

theorem zKH {t : TypeId} {k : KeyK} (hk : cKey P t = some k) :
  (k = .str /\ P.underlying t = some .string) \/ (k = .int /\ ∃ i, P.underlying t = some (.int i)) ∨
  (k = .ptr /\ ∃ e i, P.underlying t = some (.pointer e) /\ P.info? e = some i /\ i.size ≠ 0) \/ (∃ n, k = .agg n /\ zLB P t = some n) := by
 unfold cKey at hk
 split at hk
 ·rename_i hu; simp only [oI] at hk; exact .inl ⟨hk.symm, hu⟩
 ·rename_i i hu; simp only [oI] at hk; exact .inr (.inl ⟨hk.symm, i, hu⟩)
 ·rename_i e hu
  split at hk
  ·rename_i i hi
   split at hk
   ·cases hk
   ·simp only [oI] at hk
    exact .inr (.inr (.inl ⟨hk.symm, e, i, hu, hi, by assumption⟩))
  ·cases hk
 ·split at hk
  ·rename_i n hn
   simp only [oI] at hk
   exact .inr (.inr (.inr ⟨n, hk.symm, hn⟩))
  ·cases hk

def Found (P : Program) (G : GM) (E : List MapEntry) (i : Nat) : Option (Nat × AVal) -> Option (Nat × Value) -> Prop
 | none, R => R = none
 | some (j, v), R => ∃ e, R = some (j, e.val) /\ VR P G v e.val /\ i <= j /\ E[j - i]? = some e

theorem Found.cons {E : List MapEntry} {e : MapEntry} {i : Nat} {r : Option (Nat × AVal)} {R : Option (Nat × Value)} (hf : Found P G E (i + 1) r R) : Found P G (e :: E) i r R := by
 cases r with
 | none => exact hf
 | some p =>
  obtain ⟨j, v⟩ := p
  obtain ⟨e', h1, h2, h3, h4⟩ := hf
  refine ⟨e', h1, h2, by omega, ?_⟩
  rw [show j - i = (j - (i + 1)) + 1 from by omega]
  simpa using h4

theorem zCx {S : World -> Prop} {kt : TypeId} {k : KeyK} {x : AVal} {X : Value} {L : AVal -> Prop} (heq : ∀ y b Y, L y -> keyA k x y = some b -> VR P G y Y -> ∀ w', S w' -> (Op.equal kt X Y).run P w' = .ok b w') :
  ∀ {es : List (AVal × AVal × Nat)} {E : List MapEntry} {i : Nat} {r : Option (Nat × AVal)}, (∀ e ∈ es, L e.1) -> zBm k x es i = some r -> ER P G es E →
   ∃ R, Found P G E i r R /\ ∀ w', S w' -> (Instr.findAsking kt X E i).run P w' = .ok R w'
 | [], E, i, r, _, hf, he => by
  simp only [zBm, oI] at hf; subst hf
  cases he
  exact ⟨none, rfl, fun w' _ => by simp [Instr.findAsking]⟩
 | (y, v, b) :: es, E, i, r, hL, hf, he => by
  obtain ⟨e, es', rfl, h1, h2, h3, h4⟩ := he
  have hy : L y := hL _ (List.mem_cons_self ..)
  simp only [zBm] at hf
  split at hf
  ·rename_i hk
   simp only [oI] at hf; subst hf
   refine ⟨some (i, e.val), ⟨e, rfl, h2, Nat.le_refl _, by simp⟩, fun w' hS => ?_⟩
   simp [Instr.findAsking, heq y true _ hy hk h1 w' hS]
  ·rename_i hk
   obtain ⟨R, h5, h6⟩ := zCx heq (fun e he => hL e (List.mem_cons_of_mem _ he)) hf h4
   refine ⟨R, h5.cons, fun w' hS => ?_⟩
   simp [Instr.findAsking, heq y false _ hy hk h1 w' hS, h6 w' hS]
  ·cases hf

theorem zEf {kd : TypeDesc} {k : KeyK} {x : AVal} {X : Value} (heq : ∀ y b Y, keyA k x y = some b -> VR P G y Y -> Instr.sameNow kd X Y = some b) :
  ∀ {es : List (AVal × AVal × Nat)} {E : List MapEntry} {i : Nat} {r : Option (Nat × AVal)}, zBm k x es i = some r -> ER P G es E →
   ∃ R, Found P G E i r R /\ Instr.findNow kd X E i = some R
 | [], E, i, r, hf, he => by
  simp only [zBm, oI] at hf; subst hf
  cases he
  exact ⟨none, rfl, rfl⟩
 | (y, v, b) :: es, E, i, r, hf, he => by
  obtain ⟨e, es', rfl, h1, h2, h3, h4⟩ := he
  simp only [zBm] at hf
  split at hf
  ·rename_i hk
   simp only [oI] at hf; subst hf
   exact ⟨some (i, e.val), ⟨e, rfl, h2, Nat.le_refl _, by simp⟩, by simp [Instr.findNow, heq y true _ hk h1]⟩
  ·rename_i hk
   obtain ⟨R, h5, h6⟩ := zEf heq hf h4
   exact ⟨R, h5.cons, by simp [Instr.findNow, heq y false _ hk h1, h6]⟩
  ·cases hf

theorem zIa {fs : Array Field} {X : Value} : ∀ {E : List MapEntry} {i : Nat} {R}, Instr.findNow (.struct fs) X E i = some R -> E = [] /\ R = none
 | [], i, R, e => by simp [Instr.findNow] at e; exact ⟨rfl, e.symm⟩
 | _ :: _, i, R, e => by simp [Instr.findNow, Instr.sameNow] at e

theorem zHi {el : TypeId} {X : Value} : ∀ {E : List MapEntry} {i : Nat} {R}, Instr.findNow (.pointer el) X E i = some R -> E = [] /\ R = none
 | [], i, R, e => by simp [Instr.findNow] at e; exact ⟨rfl, e.symm⟩
 | _ :: _, i, R, e => by simp [Instr.findNow, Instr.sameNow] at e

def PtrOK (P : Program) (G : GM) (es : List (AVal × AVal × Nat)) (x : AVal) (w : World) : Prop := ∀ y b Y X, (∃ e ∈ es, e.1 = y) -> keyA .ptr x y = some b -> VR P G x X -> VR P G y Y -> ∀ e i t, P.underlying t = some (.pointer e) -> P.info? e = some i -> i.size ≠ 0 -> (Op.equal t X Y).run P w = .ok b w

theorem zDF {kt : TypeId} {k : KeyK} (hk : cKey P kt = some k) {x : AVal} {X : Value} (hx : VR P G x X) (S : World -> Prop)
  {es : List (AVal × AVal × Nat)} {E : List MapEntry} {r : Option (Nat × AVal)} (hS : k = .ptr -> ∀ w, S w -> PtrOK P G es x w) (hf : zBm k x es 0 = some r) (he : ER P G es E) :
  ∃ R, Found P G E 0 r R /\ ∀ w', S w' -> (Instr.findKey kt X E).run P w' = .ok R w' := by
 rcases zKH hk with ⟨rfl, hu⟩ | ⟨rfl, i, hu⟩ | ⟨rfl, el, i, hu, hi, hsz⟩ | ⟨n, rfl, hn⟩
 ·obtain ⟨R, h1, h2⟩ := zEf (kd := .string) (X := X) (fun y b Y hb hy => by
   cases x <;> cases y <;> simp only [keyA] at hb <;> first | cases hb; done | skip
   obtain ⟨x', rfl, rfl⟩ := hx
   obtain ⟨y', rfl, rfl⟩ := hy
   simp only [oI] at hb; subst hb
   simp [Instr.sameNow, eqL_keys]) hf he
  exact ⟨R, h1, fun w' _ => by simp [Instr.findKey, run_underlying hu, h2]⟩
 ·obtain ⟨R, h1, h2⟩ := zEf (kd := .int i) (X := X) (fun y b Y hb hy => by
   cases x <;> cases y <;> simp only [keyA] at hb <;> first | cases hb; done | skip
   cases hx; cases hy
   split at hb
   ·rename_i hkk; simp only [oI] at hb; subst hb
    simp [Instr.sameNow, hkk]
   ·cases hb) hf he
  exact ⟨R, h1, fun w' _ => by simp [Instr.findKey, run_underlying hu, h2]⟩
 ·obtain ⟨R, h1, h2⟩ := zCx (S := S) (kt := kt) (X := X) (L := fun y => ∃ e ∈ es, e.1 = y) (fun y b Y hl hb hy w' hw' => hS rfl w' hw' y b Y X hl hb hx hy el i kt hu hi hsz) (fun e he => ⟨e, he, rfl⟩) hf he
  refine ⟨R, h1, fun w' hw' => ?_⟩
  simp only [Instr.findKey, Sem.run_bind, run_underlying hu, Result.andThen_ok]
  split
  ·rename_i r' hr'
   obtain ⟨rfl, rfl⟩ := zHi hr'
   have := h2 w' hw'
   simp only [Instr.findAsking, Sem.run_pure, Result.ok.injEq] at this
   rw [<- this.1]
   rfl
  ·exact h2 w' hw'
 ·obtain ⟨R, h1, h2⟩ := zCx (S := S) (kt := kt) (X := X) (L := fun _ => True) (fun y b Y _ hb hy w' _ => by
   cases x <;> cases y <;> simp only [keyA] at hb <;> first | cases hb; done | skip
   obtain ⟨XL, rfl, hXL⟩ := hx
   obtain ⟨YL, rfl, hYL⟩ := hy
   split at hb
   ·rename_i hlen; exact zEt hn hXL hYL hlen.1 hb 9998 w'
   ·cases hb) (fun _ _ => trivial) hf he
  refine ⟨R, h1, fun w' hw' => ?_⟩
  simp only [Instr.findKey, Sem.run_bind, run_underlying (zFP hn).2.2.1, Result.andThen_ok]
  split
  ·rename_i r' hr'
   obtain ⟨rfl, rfl⟩ := zIa hr'
   have := h2 w' hw'
   simp only [Instr.findAsking, Sem.run_pure, Result.ok.injEq] at this
   rw [<- this.1]
   rfl
  ·exact h2 w' hw'

theorem zFs {α : Type} (w : World) (f : α -> PUnit -> Sem (ForInStep PUnit)) : ∀ (l : List α), (∀ x ∈ l, (f x ⟨⟩).run P w = .ok (.yield ⟨⟩) w) -> (forIn l PUnit.unit f).run P w = .ok ⟨⟩ w
 | [], _ => by simp
 | x :: l, hx => by
  rw [List.forIn_cons]
  simp [hx x (by simp), zFs w f l (fun y hy => hx y (by simp [hy]))]

theorem zJu {kt : TypeId} {k : KeyK} (hk : cKey P kt = some k) {x : AVal} {X : Value} (hx : VR P G x X) (hi : zEh k x = true) (b : Bool) (D : Nat) (hD : ∃ d, D = d + 1) (w : World) : (Instr.checkKey b (D + 1) kt X).run P w = .ok () w := by
 rcases zKH hk with ⟨rfl, hu⟩ | ⟨rfl, i, hu⟩ | ⟨rfl, el, i, hu, hi', hsz⟩ | ⟨n, rfl, hn⟩
 ·cases x <;> simp [zEh] at hi
  obtain ⟨x', rfl, rfl⟩ := hx
  simp [Instr.checkKey, run_underlying hu]
 ·cases x <;> simp [zEh] at hi
  cases hx
  simp [Instr.checkKey, run_underlying hu]
 ·cases x <;> simp [zEh] at hi
  rename_i p
  cases p with
  | none => simp at hi
  | some p => obtain ⟨g, _, rfl⟩ := hx; simp [Instr.checkKey, run_underlying hu]
 ·cases x <;> simp only [zEh, Bool.false_eq_true] at hi
  rename_i xs
  obtain ⟨XL, rfl, hXL⟩ := hx
  rw [Bool.and_eq_true] at hi
  obtain ⟨hlen, hall⟩ := hi
  rw [List.all_eq_true] at hall
  have hlen' := Nat.eq_of_beq_eq_true hlen
  obtain ⟨_, _, hu, hsz, _, _, hf⟩ := zFP hn
  simp only [Instr.checkKey, Sem.run_bind, run_underlying hu, Result.andThen_ok]
  rw [<- Array.forIn_toList]
  have := zFs (P := P) w (fun (f : Field) (_ : PUnit) => (do
    if f.name ≠ "_" then Instr.checkKey b D f.type (<- part f.type XL f.offset)
    pure (ForInStep.yield PUnit.unit))) (P.fieldsOf kt).toList (fun f hmem => by
   obtain ⟨j, hj⟩ := List.getElem?_of_mem hmem
   obtain ⟨h1, ⟨kk, h2⟩, h3⟩ := hf j f hj
   have hjlt : j < xs.length := by
    rw [hlen', <- hsz]
    have : j < (P.fieldsOf kt).toList.length := by
     rcases Nat.lt_or_ge j (P.fieldsOf kt).toList.length with hh | hh
     ·exact hh
     ·rw [List.getElem?_eq_none hh] at hj; cases hj
    simpa using this
   obtain ⟨v, hv1, hv2⟩ := hXL.get (List.getElem?_eq_getElem hjlt)
   have hint := hall xs[j] (List.getElem_mem _)
   have hagg : (isAgg f.type).run P w = .ok false w := by simp [isAgg, run_underlying h2]
   have hX : XL[j]? = some v := by simpa using hv1
   have hv3 : ∃ k m, v = .int k m := by
    cases hxx : xs[j] <;> rw [hxx] at hint hv2 <;> first | (simp at hint; done) | skip
    exact ⟨_, _, hv2⟩
   obtain ⟨k', m', rfl⟩ := hv3
   obtain ⟨d, rfl⟩ := hD
   simp [h1, part, hagg, h3, hX, Instr.checkKey, run_underlying h2])
  simp at this
  simp [this]

theorem zHE {kt : TypeId} {k : KeyK} (hk : cKey P kt = some k) {x : AVal} {X : Value} (hx : VR P G x X) (hi : zEh k x = true) (b : Bool) (w : World) : (Instr.checkKey b 10000 kt X).run P w = .ok () w :=
 zJu hk hx hi b 9999 ⟨9998, rfl⟩ w
end
end Go.Ab
end
section
namespace Go.Ab
open Go.RowKit (Below)

section
variable {P : Program} {N : Nat} {w0 : World} {G G' : GM} {h : AHeap} {w : World} {a : AAct} {ag : Act} {M : Nat}

theorem zAr {b : Nat} {o : Obj} (hb : w.heap[b]? = some o) (ho : ∀ c e f, o ≠ .cells c e f) : (getObj b).run P w = .ok o w := by
 cases o <;> simp [getObj, Sem.run, hb]
 exact absurd rfl (ho _ _ _)
theorem zDG {b : Nat} {o : Obj} (o' : Obj) (hb : w.heap[b]? = some o) (ho : ∀ c e f, o ≠ .cells c e f) : (setObj b o').run P w = .ok () { w with heap := w.heap.setIfInBounds b o' } := by
 cases o <;> simp [setObj, Sem.run, hb]
 exact absurd rfl (ho _ _ _)

theorem zKI {t : TypeId} {k : KeyK} {z : AVal} (hm : cMap P t = some (k, z)) : ∃ kt et, P.underlying t = some (.map kt et) /\ cKey P kt = some k /\ zGi P et = some z := by
 unfold cMap at hm
 split at hm
 ·rename_i kt et hu
  split at hm
  ·rename_i k' z' h1 h2
   simp only [oI, Prod.mk.injEq] at hm
   obtain ⟨rfl, rfl⟩ := hm
   exact ⟨kt, et, hu, h1, h2⟩
  ·cases hm
 ·cases hm

theorem zHs (hR : Rel P N w0 G h w) {t : TypeId} {k : KeyK} {z m x v : AVal} {ok : Bool} {id : Option Nat} {Mv X : Value} (hm : cMap P t = some (k, z)) (e : zCz h k z ok m x = some (v, id)) (hMv : VR P G m Mv) (hX : VR P G x X)
  (S : World -> Prop) (hS : k = .ptr -> ∀ r ver es c, m = .map (some r) -> h.objs.get r = some (ver, .map es c) -> ∀ w, S w -> PtrOK P G es x w) :
  ∃ cv, VR P G v cv /\ ∀ w', Look G id w w' -> S w' -> (Instr.lookup t Mv X ok).run P w' = .ok cv w' := by
 obtain ⟨kt, et, hu, hk, hz⟩ := zKI hm
 obtain ⟨Z, hZ, hZr⟩ := zEZ (P := P) (G := G) hz
 unfold zCz at e
 split at e
 ·cases e
 ·rename_i hi
  have hck : ∀ b w', (Instr.checkKey b 10000 kt X).run P w' = .ok () w' := fun b w' => zHE hk hX hi b w'
  split at e
  ·simp only [oI, Prod.mk.injEq] at e
   obtain ⟨rfl, rfl⟩ := e
   cases hMv
   obtain ⟨R, h1, h2⟩ := zDF (P := P) (G := G) hk hX S (es := []) (E := []) (r := none) (fun _ _ _ _ _ _ _ hl => by obtain ⟨_, he, _⟩ := hl; cases he) rfl rfl
   cases h1
   refine ⟨if ok then .tuple #[Z, .bool false] else Z, ?_, fun w' _ hs => ?_⟩
   ·cases ok
    ·exact hZ
    ·exact ⟨_, rfl, Z, _, rfl, hZ, _, _, rfl, rfl, rfl⟩
   ·have := h2 w' hs
    simp only [Instr.lookup, Sem.run_bind, run_underlying hu, Result.andThen_ok, Sem.run_pure, hck]
    simp [this, hZr]
  ·rename_i r
   obtain ⟨g, hg, rfl⟩ := hMv
   split at e
   ·rename_i ver es clock hget
    obtain ⟨gi, hgi, ob, hob, E, rfl, hE⟩ := hR.obj r ver _ hget
    rw [hg] at hgi; cases hgi
    have hobj : ∀ w', w'.heap[g.blk]? = w.heap[g.blk]? -> (getObj g.blk).run P w' = .ok (.map E clock) w' := fun w' hw' =>
     zAr (by rw [hw']; exact hob) (by intro c e f hh; cases hh)
    split at e
    ·rename_i j v' hf
     simp only [oI, Prod.mk.injEq] at e
     obtain ⟨rfl, rfl⟩ := e
     obtain ⟨R, ⟨en, rfl, h3, _, _⟩, h2⟩ := zDF hk hX S (fun hp => hS hp r ver es clock rfl hget) hf hE
     refine ⟨if ok then .tuple #[en.val, .bool true] else en.val, ?_, fun w' hl hs => ?_⟩
     ·cases ok
      ·exact h3
      ·exact ⟨_, rfl, _, _, rfl, h3, _, _, rfl, rfl, rfl⟩
     ·have := h2 w' hs
      have ho := hobj w' (hl _ rfl _ hg)
      simp only [Instr.lookup, Sem.run_bind, run_underlying hu, Result.andThen_ok, Sem.run_pure, hck, ho]
      simp [this]
    ·rename_i hf
     simp only [oI, Prod.mk.injEq] at e
     obtain ⟨rfl, rfl⟩ := e
     obtain ⟨R, h1, h2⟩ := zDF hk hX S (fun hp => hS hp r ver es clock rfl hget) hf hE
     cases h1
     refine ⟨if ok then .tuple #[Z, .bool false] else Z, ?_, fun w' hl hs => ?_⟩
     ·cases ok
      ·exact hZ
      ·exact ⟨_, rfl, Z, _, rfl, hZ, _, _, rfl, rfl, rfl⟩
     ·have := h2 w' hs
      have ho := hobj w' (hl _ rfl _ hg)
      simp only [Instr.lookup, Sem.run_bind, run_underlying hu, Result.andThen_ok, Sem.run_pure, hck, ho]
      simp [this, hZr]
    ·cases e
   ·cases e
  ·cases e

def QY (P : Program) (G : GM) (w : World) (ag : Act) (op : Op) (v : AVal) (id : Option Nat) : Prop :=
 ∃ cv, VR P G v cv /\ ∀ (o : Oper), o.op = op -> ∀ w', Look G id w w' -> (execOp ag.eval o).run P w' = .ok (.value cv) w'

theorem QY.of_yi {op : Op} {v : AVal} {id : Option Nat} {s : Sem Value} (hy : Yi P G id w v s) (he : ∀ o : Oper, o.op = op -> execOp ag.eval o = (do pure (Next.value (<- s)))) : QY P G w ag op v id := by
 obtain ⟨cv, h1, h2⟩ := hy
 exact ⟨cv, h1, fun o ho w' hl => by rw [he o ho]; simp [h2 w' hl]⟩
theorem zHS {x : Operand} {t : TypeId} {c : Call} (hc : c.callee = .builtin .len) (hx : c.args.toList = [x]) (ht : c.argTypes.toList = [t]) (o : Oper) (ho : o.op = .call c) :
  execOp ag.eval o = (do pure (Next.value (<- Builtin.len_ c.argTypes o.type #[ag.eval x]))) := by
 have hx' : c.args = #[x] := by cases hh : c.args; rw [hh] at hx; simp at hx; rw [hx]
 unfold execOp
 rw [ho]
 simp [resolve, hc, invoke, builtin, hx']
theorem max_exec {x y : Operand} {c : Call} (hc : c.callee = .builtin .max) (hx : c.args.toList = [x, y]) (o : Oper) (ho : o.op = .call c) :
  execOp ag.eval o = (do pure (Next.value (<- Builtin.max_ c.argTypes o.type #[ag.eval x, ag.eval y]))) := by
 have hx' : c.args = #[x, y] := by cases hh : c.args; rw [hh] at hx; simp at hx; rw [hx]
 unfold execOp
 rw [ho]
 simp [resolve, hc, invoke, builtin, hx']
theorem min_exec {x y : Operand} {c : Call} (hc : c.callee = .builtin .min) (hx : c.args.toList = [x, y]) (o : Oper) (ho : o.op = .call c) :
  execOp ag.eval o = (do pure (Next.value (<- Builtin.min_ c.argTypes o.type #[ag.eval x, ag.eval y]))) := by
 have hx' : c.args = #[x, y] := by cases hh : c.args; rw [hh] at hx; simp at hx; rw [hx]
 unfold execOp
 rw [ho]
 simp [resolve, hc, invoke, builtin, hx']
end
end Go.Ab
end
section
namespace Go.Ab
open Go.RowKit (Below)

section
variable {P : Program} {N : Nat} {w0 : World} {G G' : GM} {h : AHeap} {w : World} {a : AAct} {ag : Act} {M : Nat}

theorem VR.of_ptr {p : Nat × Nat} {V : Value} (hv : VR P G (.ptr (some p)) V) : ∃ g, G p.1 = some g /\ V = .pointer (some ⟨g.blk, g.off + p.2, none⟩) := hv

theorem q_lenS {x : Operand} {x' : AOpd} {c : Call} {t : TypeId} {s : List Nat} (hc : c.callee = .builtin .len) (hx : c.args.toList = [x]) (ht : c.argTypes.toList = [t]) (hu : P.underlying t = some .string)
  (hv : VR P G (.str s) (ag.eval x)) : QY P G w ag (.call c) (.int .i64 (Int.ofNat s.length)) none := by
 obtain ⟨b, hb, rfl⟩ := hv
 have ht' : c.argTypes = #[t] := by cases hh : c.argTypes; rw [hh] at ht; simp at ht; rw [ht]
 refine ⟨.int .i64 (Int.ofNat b.size), by simp [VR], fun o ho w' _ => ?_⟩
 rw [zHS hc hx ht o ho, hb, ht']
 simp [Builtin.len_, run_underlying hu, goInt]

theorem zMP {x : Operand} {c : Call} {t e : TypeId} {n : Nat} {A : Option Addr} {cp : Nat} (hc : c.callee = .builtin .len) (hx : c.args.toList = [x]) (ht : c.argTypes.toList = [t]) (hu : P.underlying t = some (.slice e))
  (hv : ag.eval x = .slice A n cp) : QY P G w ag (.call c) (.int .i64 (Int.ofNat n)) none := by
 have ht' : c.argTypes = #[t] := by cases hh : c.argTypes; rw [hh] at ht; simp at ht; rw [ht]
 refine ⟨.int .i64 (Int.ofNat n), rfl, fun o ho w' _ => ?_⟩
 rw [zHS hc hx ht o ho, hv, ht']
 simp [Builtin.len_, run_underlying hu, goInt]

theorem ER.length : ∀ {es : List (AVal × AVal × Nat)} {E : List MapEntry}, ER P G es E -> E.length = es.length
 | [], _, e => by cases e; rfl
 | (_, _, _) :: _, _, ⟨e, es', rfl, _, _, _, r⟩ => by simp [r.length]

theorem q_len (hR : Rel P N w0 G h w) (ha : ActR P G M a ag) {x : Operand} {c : Call} {t : TypeId} {q : QOp} {v : AVal} {id : Option Nat} (hc : c.callee = .builtin .len) (hx : c.args.toList = [x]) (ht : c.argTypes.toList = [t])
  (hq : cLen P x t = some q) (e : qA a h q = some (v, id)) : QY P G w ag (.call c) v id := by
 unfold cLen at hq
 split at hq
 ·rename_i x' hx' hu
  simp only [oI] at hq; subst hq
  simp only [qA] at e
  split at e
  ·rename_i s hs
   simp only [oI, Prod.mk.injEq] at e
   obtain ⟨rfl, rfl⟩ := e
   exact q_lenS (x' := x') hc hx ht hu (zBT hR.glob ha hx' hs)
  ·cases e
 ·rename_i el x' hx' hu
  simp only [oI] at hq; subst hq
  simp only [qA] at e
  split at e
  ·rename_i p n hs
   simp only [oI, Prod.mk.injEq] at e
   obtain ⟨rfl, rfl⟩ := e
   have hv := zBT hR.glob ha hx' hs
   cases p with
   | none => obtain ⟨rfl, hv⟩ := hv; exact zMP hc hx ht hu hv
   | some p => obtain ⟨g, c', _, hv, _⟩ := hv; exact zMP hc hx ht hu hv
  ·rename_i hs
   simp only [oI, Prod.mk.injEq] at e
   obtain ⟨rfl, rfl⟩ := e
   obtain ⟨A, hv⟩ := zBT hR.glob ha hx' hs
   exact zMP (n := 0) hc hx ht hu hv
  ·rename_i hs
   simp only [oI, Prod.mk.injEq] at e
   obtain ⟨rfl, rfl⟩ := e
   obtain ⟨A, c', hv⟩ := zBT hR.glob ha hx' hs
   exact zMP (n := 0) hc hx ht hu hv
  ·cases e
 ·rename_i kt et x' hx' hu
  simp only [oI] at hq; subst hq
  have ht' : c.argTypes = #[t] := by cases hh : c.argTypes; rw [hh] at ht; simp at ht; rw [ht]
  simp only [qA] at e
  split at e
  ·rename_i hs
   simp only [oI, Prod.mk.injEq] at e
   obtain ⟨rfl, rfl⟩ := e
   have hv := zBT hR.glob ha hx' hs
   refine ⟨.int .i64 0, rfl, fun o ho w' _ => ?_⟩
   rw [zHS hc hx ht o ho, hv, ht']
   simp [Builtin.len_, run_underlying hu, goInt]
  ·rename_i r hs
   split at e
   ·rename_i ver es clock hget
    simp only [oI, Prod.mk.injEq] at e
    obtain ⟨rfl, rfl⟩ := e
    obtain ⟨g, hg, hv⟩ := zBT hR.glob ha hx' hs
    obtain ⟨gi, hgi, ob, hob, E, rfl, hE⟩ := hR.obj r ver _ hget
    rw [hg] at hgi; cases hgi
    refine ⟨.int .i64 (Int.ofNat es.length), rfl, fun o ho w' hl => ?_⟩
    rw [zHS hc hx ht o ho, hv, ht']
    have := zAr (P := P) (w := w') (by rw [hl _ rfl _ hg]; exact hob) (by intro c e f hh; cases hh)
    have hlen := hE.length
    simp at hlen
    simp [Builtin.len_, run_underlying hu, goInt, this, hlen]
   ·cases e
  ·cases e
 ·cases hq

theorem zHb {t : TypeId} {i : Nat} {f : Field} (e : zLr P t i = some f) : ∃ fs, P.underlying t = some (.struct fs) /\ fs[i]? = some f := by
 unfold zLr at e
 split at e
 ·rename_i fs hu; exact ⟨fs, hu, by simpa using e⟩
 ·cases e

set_option maxHeartbeats 1000000 in
theorem zJo (hR : Rel P N w0 G h w) (ha : ActR P G M a ag) {op : Op} {q : QOp} {v : AVal} {id : Option Nat} (hq : cQ P op = some q) (e : qA a h q = some (v, id)) : QY P G w ag op v id := by
 have ev1 : ∀ {x : Operand} {x' : AOpd} {v : AVal}, cOpd P x = some x' -> ev a x' = some v -> VR P G v (ag.eval x) := fun h1 h2 => zBT hR.glob ha h1 h2
 cases op with
 | move x =>
  simp only [cQ] at hq
  split at hq
  ·rename_i x' hx
   simp only [oI] at hq; subst hq
   simp only [qA] at e
   split at e
   ·rename_i u hu
    simp only [oI, Prod.mk.injEq] at e
    obtain ⟨rfl, rfl⟩ := e
    exact ⟨_, ev1 hx hu, fun o ho w' _ => by unfold execOp; rw [ho]; rfl⟩
   ·cases e
  ·cases hq
 | assign x =>
  simp only [cQ] at hq
  split at hq
  ·rename_i x' hx
   simp only [oI] at hq; subst hq
   simp only [qA] at e
   split at e
   ·rename_i u hu
    simp only [oI, Prod.mk.injEq] at e
    obtain ⟨rfl, rfl⟩ := e
    exact ⟨_, ev1 hx hu, fun o ho w' _ => by unfold execOp; rw [ho]; rfl⟩
   ·cases e
  ·cases hq
 | pick c x y =>
  simp only [cQ] at hq
  split at hq
  ·rename_i c' x' y' hc hx hy
   simp only [oI] at hq; subst hq
   simp only [qA] at e
   split at e
   ·rename_i hb
    split at e
    ·rename_i u hu
     simp only [oI, Prod.mk.injEq] at e
     obtain ⟨rfl, rfl⟩ := e
     have hb' := ev1 hc hb
     exact ⟨_, ev1 hx hu, fun o ho w' _ => by unfold execOp; rw [ho]; simp only [VR] at hb'; simp [hb', asBool]⟩
    ·cases e
   ·rename_i hb
    split at e
    ·rename_i u hu
     simp only [oI, Prod.mk.injEq] at e
     obtain ⟨rfl, rfl⟩ := e
     have hb' := ev1 hc hb
     exact ⟨_, ev1 hy hu, fun o ho w' _ => by unfold execOp; rw [ho]; simp only [VR] at hb'; simp [hb', asBool]⟩
    ·cases e
   ·cases e
  ·cases hq
 | build t ps =>
  simp only [cQ] at hq
  split at hq
  ·rename_i fs z ps' hu hz hps
   split at hq
   ·rename_i hall
    simp only [oI] at hq; subst hq
    simp only [qA] at e
    split at e
    ·rename_i cs hcs
     simp only [oI, Prod.mk.injEq] at e
     obtain ⟨rfl, rfl⟩ := e
     exact QY.of_yi (zHZ (id := none) (w := w) hR.glob ha hz hps hcs (.inl ⟨fs, hu, hall⟩)) fun o ho => by unfold execOp; rw [ho]
    ·cases e
   ·cases hq
  ·rename_i n el z ps' hu hz hps
   split at hq
   ·rename_i i hi
    simp only [oI] at hq; subst hq
    simp only [qA] at e
    split at e
    ·rename_i cs hcs
     simp only [oI, Prod.mk.injEq] at e
     obtain ⟨rfl, rfl⟩ := e
     exact QY.of_yi (zHZ (id := none) (w := w) hR.glob ha hz hps hcs (.inr ⟨n, el, i, hu, hi⟩)) fun o ho => by unfold execOp; rw [ho]
    ·cases e
   ·cases hq
  ·cases hq
 | nilCheck x =>
  simp only [cQ] at hq
  split at hq
  ·rename_i x' hx
   simp only [oI] at hq; subst hq
   simp only [qA] at e
   split at e
   ·rename_i p hp
    simp only [oI, Prod.mk.injEq] at e
    obtain ⟨rfl, rfl⟩ := e
    have hv := ev1 hx hp
    obtain ⟨g, hg, hv'⟩ := hv.of_ptr
    exact ⟨_, hv, fun o ho w' _ => by unfold execOp; rw [ho]; simp [hv']⟩
   ·cases e
  ·cases hq
 | binOp op t x y ty =>
  simp only [cQ, cBin] at hq
  split at hq
  ·rename_i u' v' k hx hy hu
   simp only [oI] at hq; subst hq
   simp only [qA] at e
   split at e
   ·rename_i uu vv h1 h2
    split at e
    ·rename_i r hr
     simp only [oI, Prod.mk.injEq] at e
     obtain ⟨rfl, rfl⟩ := e
     obtain ⟨cv, h3, h4⟩ := zJA (G := G) (t := t) hr (ev1 hx h1) (ev1 hy h2)
     exact ⟨cv, h3, fun o ho w' _ => by
      unfold execOp; rw [ho]
      simp [zKX (t := t) (x := x) (y := y) hr (ev1 hx h1) (ev1 hy h2) w', h4 w']⟩
    ·cases e
   ·cases e
  ·rename_i u' v' hx hy hu
   simp only [oI] at hq; subst hq
   simp only [qA] at e
   split at e
   ·rename_i uu vv h1 h2
    split at e
    ·rename_i r hr
     simp only [oI, Prod.mk.injEq] at e
     obtain ⟨rfl, rfl⟩ := e
     obtain ⟨cv, h3, h4⟩ := zJA (G := G) (t := t) hr (ev1 hx h1) (ev1 hy h2)
     exact ⟨cv, h3, fun o ho w' _ => by
      unfold execOp; rw [ho]
      simp [zKX (t := t) (x := x) (y := y) hr (ev1 hx h1) (ev1 hy h2) w', h4 w']⟩
    ·cases e
   ·cases e
  ·rename_i u' v' hx hy _ _
   cases op <;> simp only at hq <;> first | cases hq; done | skip
   all_goals
    split at hq
    ·rename_i k hk
     simp only [oI] at hq; subst hq
     simp only [qA] at e
     split at e
     ·rename_i uu vv h1 h2
      split at e
      ·rename_i b hb
       simp only [oI, Prod.mk.injEq] at e
       obtain ⟨rfl, rfl⟩ := e
       exact ⟨_, rfl, fun o ho w' _ => by
        unfold execOp; rw [ho]
        simp [zNa hk hb (ev1 hx h1) (ev1 hy h2) _ w', (zKF hk hb (ev1 hx h1) (ev1 hy h2) w').1, (zKF hk hb (ev1 hx h1) (ev1 hy h2) w').2]⟩
      ·cases e
     ·cases e
    ·cases hq
  ·cases hq
 | unOp op t x =>
  simp only [cQ] at hq
  split at hq
  ·rename_i x' hx
   simp only [oI] at hq; subst hq
   simp only [qA] at e
   split at e
   ·rename_i b hb
    simp only [oI, Prod.mk.injEq] at e
    obtain ⟨rfl, rfl⟩ := e
    have hv := ev1 hx hb
    exact ⟨_, rfl, fun o ho w' _ => by unfold execOp; rw [ho]; simp only [VR] at hv; simp [hv, Op.unary]⟩
   ·cases e
  ·rename_i x' hx
   simp only [oI] at hq; subst hq
   simp only [qA] at e
   split at e
   ·rename_i k n hb
    simp only [oI, Prod.mk.injEq] at e
    obtain ⟨rfl, rfl⟩ := e
    have hv := ev1 hx hb
    exact ⟨_, rfl, fun o ho w' _ => by unfold execOp; rw [ho]; simp only [VR] at hv; simp [hv, Op.unary, Op.intArith]⟩
   ·cases e
  ·cases hq
 | convert src dst x =>
  simp only [cQ] at hq
  split at hq
  ·rename_i d k x' hs hd hx
   simp only [oI] at hq; subst hq
   simp only [qA] at e
   split at e
   ·rename_i k' n hb
    simp only [oI, Prod.mk.injEq] at e
    obtain ⟨rfl, rfl⟩ := e
    have hv := ev1 hx hb
    exact ⟨_, rfl, fun o ho w' _ => by unfold execOp; rw [ho]; simp only [VR] at hv; simp [hv, convert, run_underlying hs, run_underlying hd, Conv.intToInt]⟩
   ·cases e
  ·rename_i x' hs hd hx
   simp only [oI] at hq; subst hq
   simp only [qA] at e
   split at e
   ·rename_i s hb
    simp only [oI, Prod.mk.injEq] at e
    obtain ⟨rfl, rfl⟩ := e
    have hv := ev1 hx hb
    obtain ⟨b, hb', hb2⟩ := hv
    exact ⟨.string b, ⟨b, rfl, hb2⟩, fun o ho w' _ => by unfold execOp; rw [ho]; simp [hb', convert, run_underlying hs, run_underlying hd]⟩
   ·cases e
  ·cases hq
 | makeInterface t x =>
  simp only [cQ] at hq
  split at hq
  ·cases hq
  ·rename_i d x' hni hu hx
   simp only [oI] at hq; subst hq
   simp only [qA] at e
   split at e
   ·rename_i u hu'
    simp only [oI, Prod.mk.injEq] at e
    obtain ⟨rfl, rfl⟩ := e
    refine ⟨.iface t (ag.eval x), ⟨_, rfl, ev1 hx hu'⟩, fun o ho w' _ => ?_⟩
    unfold execOp; rw [ho]
    cases d <;> first | (simp [Instr.makeInterface, run_underlying hu]; done) | (exact absurd rfl (hni _))
   ·cases e
  ·cases hq
 | makeFunc fn first captured =>
  cases fn <;> simp only [cQ] at hq <;> first | cases hq; done | skip
  rename_i f
  split at hq
  ·rename_i l m hf hc
   simp only [oI] at hq; subst hq
   simp only [qA] at e
   split at e
   ·rename_i L K h1 h2
    simp only [oI, Prod.mk.injEq] at e
    obtain ⟨rfl, rfl⟩ := e
    refine ⟨.func (.func f) (first.map ag.eval) (captured.map ag.eval), ⟨_, _, rfl, zGP hR.glob ha hf h1, zGP hR.glob ha hc h2⟩, fun o ho w' _ => ?_⟩
    unfold execOp; rw [ho]
    simp [Instr.makeFunc]
   ·cases e
  ·cases hq
 | field t x i =>
  simp only [cQ] at hq
  split at hq
  ·rename_i f x' hf hx
   split at hq
   ·rename_i s hs
    simp only [oI] at hq; subst hq
    simp only [qA] at e
    split at e
    ·rename_i cs hcs
     split at e
     ·rename_i u hu
      simp only [oI, Prod.mk.injEq] at e
      obtain ⟨rfl, rfl⟩ := e
      obtain ⟨fs, hfs, hfi⟩ := zHb hf
      obtain ⟨L, hL, hLs⟩ := ev1 hx hcs
      obtain ⟨cv, h1, h2⟩ := zIB hs hLs hu
      refine ⟨cv, h1, fun o ho w' _ => ?_⟩
      unfold execOp; rw [ho]
      simp [Instr.field, run_underlying hfs, hfi, hL, asAgg, h2 w']
     ·cases e
    ·cases e
   ·cases hq
  ·cases hq
 | fieldAddr t x i =>
  simp only [cQ] at hq
  split at hq
  ·rename_i f x' hf hx
   split at hq
   ·rename_i n hs
    simp only [oI] at hq; subst hq
    simp only [qA] at e
    split at e
    ·rename_i b o hp
     simp only [oI, Prod.mk.injEq] at e
     obtain ⟨rfl, rfl⟩ := e
     obtain ⟨fs, hfs, hfi⟩ := zHb hf
     obtain ⟨g, hg, hv⟩ := ev1 hx hp
     refine ⟨.pointer (some ⟨g.blk, g.off + (o + f.offset), none⟩), ⟨g, hg, rfl⟩, fun o ho w' _ => ?_⟩
     unfold execOp; rw [ho]
     simp [Instr.fieldAt, run_underlying hfs, hfi, hv, Instr.sureAddr, fieldPlace, zAt hs, zDC, Nat.add_assoc]
    ·cases e
   ·cases hq
  ·cases hq
 | indexAddr t x i =>
  simp only [cQ] at hq
  split at hq
  ·rename_i el x' i' hu hx hi
   split at hq
   ·rename_i s hs
    simp only [oI] at hq; subst hq
    simp only [qA] at e
    split at e
    ·rename_i b o n vi h1 h2
     split at e
     ·rename_i j hj
      split at e
      ·rename_i hlt
       simp only [oI, Prod.mk.injEq] at e
       obtain ⟨rfl, rfl⟩ := e
       obtain ⟨g, cp, hg, hv, _⟩ := ev1 hx h1
       obtain ⟨k, hk⟩ := zCh hj (ev1 hi h2)
       refine ⟨.pointer (some ⟨g.blk, g.off + (o + j * s), none⟩), ⟨g, hg, rfl⟩, fun o ho w' _ => ?_⟩
       unfold execOp; rw [ho]
       have : (0 : Int) <= j /\ (j : Int) < n := by omega
       simp [Instr.indexAt, run_underlying hu, hv, hk, asIntOf, zAt hs, zDC, hlt, Nat.add_assoc]
      ·cases e
     ·cases e
    ·cases e
   ·cases hq
  ·rename_i n el x' i' hu hx hi
   split at hq
   ·rename_i s hs
    simp only [oI] at hq; subst hq
    simp only [qA] at e
    split at e
    ·rename_i b o vi h1 h2
     split at e
     ·rename_i j hj
      split at e
      ·rename_i hlt
       simp only [oI, Prod.mk.injEq] at e
       obtain ⟨rfl, rfl⟩ := e
       obtain ⟨g, hg, hv⟩ := ev1 hx h1
       obtain ⟨k, hk⟩ := zCh hj (ev1 hi h2)
       refine ⟨.pointer (some ⟨g.blk, g.off + (o + j * s), none⟩), ⟨g, hg, rfl⟩, fun o ho w' _ => ?_⟩
       unfold execOp; rw [ho]
       simp [Instr.indexAt, Instr.sureAddr, run_underlying hu, hv, hk, asIntOf, zAt hs, zDC, hlt, Nat.add_assoc]
      ·cases e
     ·cases e
    ·cases e
   ·cases hq
  ·cases hq
 | index t x i =>
  simp only [cQ] at hq
  split at hq
  ·rename_i x' i' hu hx hi
   simp only [oI] at hq; subst hq
   simp only [qA] at e
   split at e
   ·rename_i s vi h1 h2
    split at e
    ·rename_i j hj
     split at e
     ·rename_i c hc
      simp only [oI, Prod.mk.injEq] at e
      obtain ⟨rfl, rfl⟩ := e
      obtain ⟨b, hb, hb2⟩ := ev1 hx h1
      obtain ⟨k, hk⟩ := zCh hj (ev1 hi h2)
      rw [<- hb2, List.getElem?_map] at hc
      cases hbj : b.data.toList[j]? with
      | none => rw [hbj] at hc; cases hc
      | some y =>
       rw [hbj] at hc
       simp only [Option.map_some, oI] at hc
       have hby : b[j]? = some y := by
        have hlt : j < b.size := by
         rcases Nat.lt_or_ge j b.data.toList.length with hh | hh
         ·simpa using hh
         ·rw [List.getElem?_eq_none hh] at hbj; cases hbj
        rw [ByteArray.getElem?_lt' b j hlt]
        have := Lib.data_getElem? b j hlt
        rw [hbj] at this
        exact this.symm
       refine ⟨.int .u8 (Int.ofNat c), rfl, fun o ho w' _ => ?_⟩
       unfold execOp; rw [ho]
       simp [Instr.index, run_underlying hu, hb, hk, asIntOf, hby, hc]
     ·cases e
    ·cases e
   ·cases e
  ·rename_i n el x' i' hu hx hi
   split at hq
   ·rename_i hw s hs1 hs
    simp only [oI] at hq; subst hq
    simp only [qA] at e
    split at e
    ·rename_i cs vi h1 h2
     split at e
     ·rename_i j hj
      split at e
      ·rename_i hlt
       split at e
       ·rename_i u hu'
        simp only [oI, Prod.mk.injEq] at e
        obtain ⟨rfl, rfl⟩ := e
        obtain ⟨L, hL, hLs⟩ := ev1 hx h1
        obtain ⟨k, hk⟩ := zCh hj (ev1 hi h2)
        have hw' : (if hw.isSome = true then some s else none) = hw := by
         cases hw with
         | none => rfl
         | some m =>
          rcases zGI (P := P) hs1 w with ⟨hh, _⟩ | ⟨m', hh, _, hh2⟩
          ·cases hh
          ·cases hh
           rw [zAt hs] at hh2
           simp at hh2
           simp [hh2]
        rw [hw'] at hu'
        obtain ⟨cv, h3, h4⟩ := zIB hs1 hLs hu'
        refine ⟨cv, h3, fun o ho w' _ => ?_⟩
        unfold execOp; rw [ho]
        simp [Instr.index, run_underlying hu, hL, hk, asIntOf, zAt hs, hlt, h4 w']
       ·cases e
      ·cases e
     ·cases e
    ·cases e
   ·cases hq
  ·cases hq
 | slice t x lo hi mx =>
  cases mx with
  | none =>
   simp only [cQ] at hq
   split at hq
   ·rename_i x' lo' hi' hu hx hlo hhi
    simp only [oI] at hq; subst hq
    simp only [qA] at e
    split at e
    ·rename_i s h1
     split at e
     ·rename_i hh hhh
      split at e
      ·rename_i l hl
       simp only [oI, Prod.mk.injEq] at e
       obtain ⟨rfl, rfl⟩ := e
       obtain ⟨b, hb, rfl⟩ := ev1 hx h1
       have hsz : (b.data.toList.map UInt8.toNat).length = b.size := by simp
       rw [hsz] at hhh
       obtain ⟨hle, _, _⟩ := zAx (len := b.size) (cap := b.size) hR.glob ha hlo hhi hhh hl (Nat.le_refl _) false w
       refine ⟨.string (b.extract l hh), ⟨_, rfl, ?_⟩, fun o ho w' _ => ?_⟩
       ·rw [Lib.extract_data, List.drop_take, List.map_take, List.map_drop]
       ·obtain ⟨_, _, hr⟩ := zAx (len := b.size) (cap := b.size) hR.glob ha hlo hhi hhh hl (Nat.le_refl _) false w'
        unfold execOp; rw [ho]
        simp [Instr.sliceAt, Instr.slice, run_underlying hu, hb, hr]
      ·cases e
     ·cases e
    ·cases e
   ·rename_i el x' lo' hi' hu hx hlo hhi
    split at hq
    ·rename_i s hs
     simp only [oI] at hq; subst hq
     simp only [qA] at e
     split at e
     ·rename_i n h1
      split at e
      ·rename_i hh hhh
       split at e
       ·rename_i l hl
        simp only [oI, Prod.mk.injEq] at e
        obtain ⟨rfl, rfl⟩ := e
        obtain ⟨rfl, hv⟩ := ev1 hx h1
        obtain ⟨hle, hle2, _⟩ := zAx (len := 0) (cap := 0) hR.glob ha hlo hhi hhh hl (Nat.le_refl _) true w
        refine ⟨.slice none 0 0, ⟨rfl, rfl⟩, fun o ho w' _ => ?_⟩
        obtain ⟨_, _, hr⟩ := zAx (len := 0) (cap := 0) hR.glob ha hlo hhi hhh hl (Nat.le_refl _) true w'
        unfold execOp; rw [ho]
        have h2 : l = 0 := by omega
        have h3 : hh = 0 := by omega
        subst h2; subst h3
        simp [Instr.sliceAt, Instr.slice, run_underlying hu, hv, hr, zAt hs]
       ·cases e
      ·cases e
     ·rename_i b o n h1
      split at e
      ·rename_i hh hhh
       split at e
       ·rename_i hl
        obtain ⟨g, cp, hg, hv, hcap, hroom⟩ := ev1 hx h1
        simp only [oI, Prod.mk.injEq] at e
        obtain ⟨rfl, rfl⟩ := e
        obtain ⟨hle, hle2, _⟩ := zAx (len := n) (cap := cp) hR.glob ha hlo hhi hhh hl hcap true w
        refine ⟨.slice (some ⟨g.blk, g.off + o, none⟩) hh cp, ⟨g, cp, hg, rfl, by omega, hroom⟩, fun o' ho w' _ => ?_⟩
        obtain ⟨_, _, hr⟩ := zAx (len := n) (cap := cp) hR.glob ha hlo hhi hhh hl hcap true w'
        unfold execOp; rw [ho]
        simp [Instr.sliceAt, Instr.slice, run_underlying hu, hv, hr, zAt hs, zDC]
       ·rename_i l hl0 hl
        obtain ⟨g, cp, hg, hv, hcap, hroom⟩ := ev1 hx h1
        obtain ⟨hle, hle2, _⟩ := zAx (len := n) (cap := cp) hR.glob ha hlo hhi hhh hl hcap true w
        split at e
        ·rename_i hlt
         split at e
         ·rename_i ver ro e' vs hget
          split at e
          ·rename_i hel
           subst hel
           simp only [oI, Prod.mk.injEq] at e
           obtain ⟨rfl, rfl⟩ := e
           obtain ⟨gi, hgi, ob, hob, c, tc, fr, rfl, _, _, hge, _⟩ := hR.obj b ver _ hget
           rw [hg] at hgi; cases hgi
           have hsz : P.cellsOf g.elem = s := by rw [hge]; exact zGJ hs
           refine ⟨.slice (some ⟨g.blk, g.off + (o + l * s), none⟩) (hh - l) (cp - l), ⟨g, cp - l, hg, rfl, by omega, ?_⟩, fun o' ho w' _ => ?_⟩
           ·show o + l * s + (cp - l) * P.cellsOf g.elem <= g.size
            rw [hsz] at hroom ⊢
            have : l * s + (cp - l) * s = cp * s := by rw [<- Nat.add_mul]; congr 1; omega
            omega
           ·obtain ⟨_, _, hr⟩ := zAx (len := n) (cap := cp) hR.glob ha hlo hhi hhh hl hcap true w'
            unfold execOp; rw [ho]
            have hne : ¬ cp = l := by omega
            simp [Instr.sliceAt, Instr.slice, run_underlying hu, hv, hr, zAt hs, zDC, hne, Nat.add_assoc]
          ·cases e
         ·cases e
        ·simp only [oI, Prod.mk.injEq] at e
         obtain ⟨rfl, rfl⟩ := e
         refine ⟨.slice (if cp = l then some ⟨g.blk, g.off + o, none⟩ else (some (⟨g.blk, g.off + o, none⟩ : Addr)).map (·.add (l * s))) (hh - l) (cp - l), ⟨if cp = l then ⟨g.blk, g.off + o, none⟩ else (⟨g.blk, g.off + o, none⟩ : Addr).add (l * s), cp - l, by rw [show hh - l = 0 from by omega]; by_cases hcl : cp = l <;> simp [hcl]⟩, fun o' ho w' _ => ?_⟩
         obtain ⟨_, _, hr⟩ := zAx (len := n) (cap := cp) hR.glob ha hlo hhi hhh hl hcap true w'
         unfold execOp; rw [ho]
         simp [Instr.sliceAt, Instr.slice, run_underlying hu, hv, hr, zAt hs]
       ·cases e
      ·cases e
     ·cases e
    ·cases hq
   ·cases hq
  | some mx =>
   cases hi with
   | none => simp [cQ] at hq
   | some hi =>
    simp only [cQ] at hq
    split at hq
    ·rename_i el x' hz hu hx
     split at hq
     ·rename_i sz hs
      simp only [oI] at hq; subst hq
      simp only [Bool.and_eq_true] at hz
      obtain ⟨⟨hz1, hz2⟩, hz3⟩ := hz
      have hb : ∀ y, isZ y = true -> ∃ k, ag.eval y = .int k 0 := fun y hy => by
       cases y <;> simp only [isZ, Bool.false_eq_true] at hy
       rename_i c
       cases c <;> simp only [isZ, Bool.false_eq_true] at hy
       rename_i k n
       have : n = 0 := by simpa using hy
       subst this
       exact ⟨k, rfl⟩
      obtain ⟨k1, hk1⟩ := hb _ hz1
      obtain ⟨k2, hk2⟩ := hb _ hz2
      simp only [qA] at e
      have key : ∀ (A : Option Addr) (n c : Nat) (v : AVal), ag.eval x = .slice A n c -> VR P G v (.slice A 0 0) -> QY P G w ag (.slice t x lo (some hi) (some mx)) v none := by
       intro A n c v hv hvr
       refine ⟨.slice A 0 0, hvr, fun o ho w' _ => ?_⟩
       have hsb : ∀ y code, (Instr.sliceBound (.int k1 0) y code).run P w' = .ok 0 w' := fun y code => by have := zBe (P := P) (k := k1) (Nat.zero_le y) code w'; simpa using this
       have hsb2 : ∀ y code, (Instr.sliceBound (.int k2 0) y code).run P w' = .ok 0 w' := fun y code => by have := zBe (P := P) (k := k2) (Nat.zero_le y) code w'; simpa using this
       have hbounds : (Instr.sliceBounds true n c (lo.map ag.eval) (some (ag.eval hi)) (some (ag.eval mx))).run P w' = .ok (0, 0, 0) w' := by
        cases lo with
        | none => simp [Instr.sliceBounds, hk1, hk2, hsb, hsb2]
        | some l =>
         obtain ⟨k3, hk3⟩ := hb _ hz3
         have hsb3 : ∀ y code, (Instr.sliceBound (.int k3 0) y code).run P w' = .ok 0 w' := fun y code => by have := zBe (P := P) (k := k3) (Nat.zero_le y) code w'; simpa using this
         simp [Instr.sliceBounds, hk1, hk2, hk3, hsb, hsb2, hsb3]
       unfold execOp; rw [ho]
       simp [Instr.sliceAt, Instr.slice, run_underlying hu, hv, hbounds, zAt hs]
      split at e
      ·rename_i n h1
       simp only [oI, Prod.mk.injEq] at e
       obtain ⟨rfl, rfl⟩ := e
       obtain ⟨rfl, hv⟩ := ev1 hx h1
       exact key _ _ _ _ hv ⟨rfl, rfl⟩
      ·rename_i p n h1
       simp only [oI, Prod.mk.injEq] at e
       obtain ⟨rfl, rfl⟩ := e
       obtain ⟨g, c, _, hv, _⟩ := ev1 hx h1
       exact key _ _ _ _ hv ⟨_, rfl⟩
      ·rename_i h1
       simp only [oI, Prod.mk.injEq] at e
       obtain ⟨rfl, rfl⟩ := e
       obtain ⟨A, hv⟩ := ev1 hx h1
       exact key _ _ _ _ hv ⟨_, rfl⟩
      ·cases e
     ·cases hq
    ·cases hq
 | extract x i =>
  simp only [cQ] at hq
  split at hq
  ·rename_i x' hx
   simp only [oI] at hq; subst hq
   simp only [qA] at e
   split at e
   ·rename_i vs hvs
    split at e
    ·rename_i u hu
     simp only [oI, Prod.mk.injEq] at e
     obtain ⟨rfl, rfl⟩ := e
     obtain ⟨L, hL, hLs⟩ := ev1 hx hvs
     obtain ⟨cv, h1, h2⟩ := hLs.get hu
     have h1' : L[i]? = some cv := by simpa using h1
     exact ⟨cv, h2, fun o ho w' _ => by unfold execOp; rw [ho]; simp [hL, Instr.extract, h1']⟩
    ·cases e
   ·cases e
  ·cases hq
 | load t x =>
  simp only [cQ] at hq
  split at hq
  ·rename_i s x' hs hx
   simp only [oI] at hq; subst hq
   simp only [qA] at e
   split at e
   ·rename_i b o hp
    split at e
    ·rename_i ver ro el vs hget
     split at e
     ·rename_i u hu
      simp only [oI, Prod.mk.injEq] at e
      obtain ⟨rfl, rfl⟩ := e
      obtain ⟨g, hg, hv⟩ := ev1 hx hp
      obtain ⟨gi, hgi, ob, hob, c, tc, fr, rfl, _, _, _, _, hvs⟩ := hR.obj b ver _ hget
      rw [hg] at hgi; cases hgi
      obtain ⟨cv, h1, h2⟩ := zGc (b := g.blk) (o := o) (e := tc) (fr := fr) hs hvs hu
      refine ⟨cv, h1, fun o' ho w' hl => ?_⟩
      have := h2 w' (by rw [hl _ rfl _ hg]; exact hob)
      unfold execOp; rw [ho]
      simp [Instr.loadAt, hv, Instr.sureAddr, this]
     ·cases e
    ·cases e
   ·cases e
  ·cases hq
 | lookup t m k ok =>
  simp only [cQ] at hq
  split at hq
  ·cases hq
  ·rename_i kk z m' k' hne hm hm' hk'
   simp only [oI] at hq; subst hq
   have e' : ∃ mv kv, ev a m' = some mv /\ ev a k' = some kv /\ zCz h kk z ok mv kv = some (v, id) := by
    cases kk with
    | ptr => exact absurd rfl hne
    | _ =>
     simp only [qA] at e
     split at e
     ·exact ⟨_, _, by assumption, by assumption, e⟩
     ·cases e
   obtain ⟨mv, kv, h1, h2, e'⟩ := e'
   obtain ⟨cv, h3, h4⟩ := zHs (P := P) hR hm e' (ev1 hm' h1) (ev1 hk' h2) (fun _ => True) (fun hh => absurd hh hne)
   refine ⟨cv, h3, fun o ho w' hl => ?_⟩
   unfold execOp; rw [ho]
   simp [h4 w' hl trivial]
  ·cases hq
 | call c =>
  simp only [cQ] at hq
  split at hq
  ·rename_i x t hc hx ht
   exact q_len hR ha hc hx ht hq e
  ·rename_i x y hc hx
   split at hq
   ·rename_i x' y' hx' hy'
    simp only [oI] at hq; subst hq
    simp only [qA] at e
    split at e
    ·rename_i k u k' u' h1 h2
     simp only [oI, Prod.mk.injEq] at e
     obtain ⟨rfl, rfl⟩ := e
     have h3 := ev1 hx' h1
     have h4 := ev1 hy' h2
     simp only [VR] at h3 h4
     refine ⟨_, rfl, fun o ho w' _ => ?_⟩
     rw [max_exec hc hx o ho, h3, h4]
     simp [run_max_int2]
    ·cases e
   ·cases hq
  ·rename_i x y hc hx
   split at hq
   ·rename_i x' y' hx' hy'
    simp only [oI] at hq; subst hq
    simp only [qA] at e
    split at e
    ·rename_i k u k' u' h1 h2
     simp only [oI, Prod.mk.injEq] at e
     obtain ⟨rfl, rfl⟩ := e
     have h3 := ev1 hx' h1
     have h4 := ev1 hy' h2
     simp only [VR] at h3 h4
     refine ⟨_, rfl, fun o ho w' _ => ?_⟩
     rw [min_exec hc hx o ho, h3, h4]
     simp [run_min_int2]
    ·cases e
   ·cases hq
  ·cases hq
 | _ => simp [cQ] at hq
end
end Go.Ab
end
section
namespace Go.Ab
open Go.RowKit (Below)

section
variable {P : Program} {N : Nat} {w0 : World} {G G' : GM} {h h' : AHeap} {w w' : World} {a : AAct} {ag : Act} {M : Nat}

def EY (P : Program) (N : Nat) (w0 : World) (G : GM) (h : AHeap) (w : World) (ag : Act) (op : Op) (Q : AVal × AHeap -> Prop) : Prop :=
 ∃ v h' G' w' cv nx, Q (v, h') /\ Rel P N w0 G' h' w' /\ Ext G h w G' h' w' /\ VR P G' v cv /\ (nx = .value cv \/ (nx = .skip /\ cv = undef)) /\ ∀ o : Oper, o.op = op -> (execOp ag.eval o).run P w = .ok nx w'

theorem EY.val {op : Op} {Q : AVal × AHeap -> Prop} {v : AVal} {cv : Value} {s : Sem Value} (hq : Q (v, h')) (hr : Rel P N w0 G' h' w') (he : Ext G h w G' h' w') (hv : VR P G' v cv) (hs : s.run P w = .ok cv w')
  (hop : ∀ o : Oper, o.op = op -> execOp ag.eval o = (do pure (Next.value (<- s)))) : EY P N w0 G h w ag op Q :=
 ⟨v, h', G', w', cv, .value cv, hq, hr, he, hv, .inl rfl, fun o ho => by rw [hop o ho]; simp [hs]⟩
theorem EY.unit {op : Op} {Q : AVal × AHeap -> Prop} {s : Sem Unit} (hq : Q (.tuple [], h')) (hr : Rel P N w0 G' h' w') (he : Ext G h w G' h' w') (hs : s.run P w = .ok () w')
  (hop : ∀ o : Oper, o.op = op -> execOp ag.eval o = (do s; pure .skip)) : EY P N w0 G h w ag op Q :=
 ⟨.tuple [], h', G', w', undef, .skip, hq, hr, he, ⟨#[], rfl, rfl⟩, .inr ⟨rfl, rfl⟩, fun o ho => by rw [hop o ho]; simp [hs]⟩

theorem zFt (hR : Rel P N w0 G h w) {vs : List AVal} {c : Array Value} (e : TypeId) (hv : VsR P G vs (c.toList.take vs.length)) (hl : vs.length <= c.size) :
  Rel P N w0 (addG G h.next ⟨w.heap.size, c.size, e, 0⟩) (newA h (.cells false e vs)) (w.alloc (.cells c e)) /\ Ext G h w (addG G h.next ⟨w.heap.size, c.size, e, 0⟩) (newA h (.cells false e vs)) (w.alloc (.cells c e)) :=
 hR.alloc rfl rfl ⟨c, e, (0, 0), rfl, fun _ => ⟨rfl, rfl, rfl, rfl⟩, by simp, rfl, hl, by rw [zlZ]; exact hv.mono (zEW (hR.fresh _ (Nat.le_refl _)))⟩

theorem zJG (e : TypeId) (c : Array Value) : (newRow e c).run P w = .ok ⟨w.heap.size, 0, none⟩ (w.alloc (.cells c e)) := rfl

theorem VsR.whole {vs : List AVal} {c : Array Value} (hv : VsR P G vs c.toList) : VsR P G vs (c.toList.take vs.length) /\ vs.length = c.size := by
 have := hv.length
 have e : c.toList.take vs.length = c.toList := by rw [<- this]; exact List.take_length
 rw [e]; exact ⟨hv, by simpa using this.symm⟩

theorem e_var (hR : Rel P N w0 G h w) {op : Op} {Q : AVal × AHeap -> Prop} {s : Sem Value} {e : TypeId} {vs : List AVal} {c : Array Value} (hv : VsR P G vs c.toList)
  (hq : Q (.ptr (some (h.next, 0)), newA h (.cells false e vs))) (hs : s.run P w = .ok (.pointer (some ⟨w.heap.size, 0, none⟩)) (w.alloc (.cells c e)))
  (hop : ∀ o : Oper, o.op = op -> execOp ag.eval o = (do pure (Next.value (<- s)))) : EY P N w0 G h w ag op Q := by
 obtain ⟨h1, h2⟩ := hv.whole
 obtain ⟨h3, h4⟩ := zFt hR e h1 (Nat.le_of_eq h2)
 exact EY.val hq h3 h4 ⟨_, zAe, rfl⟩ hs hop

theorem e_row (hR : Rel P N w0 G h w) {op : Op} {Q : AVal × AHeap -> Prop} {s : Sem Value} {e : TypeId} {vs : List AVal} {c : Array Value} {n m : Nat} (hv : VsR P G vs (c.toList.take vs.length)) (hl : vs.length <= c.size) (hnm : n <= m) (hm : m * P.cellsOf e <= c.size)
  (hq : Q (.slice (some (h.next, 0)) n, newA h (.cells false e vs))) (hs : s.run P w = .ok (.slice (some ⟨w.heap.size, 0, none⟩) n m) (w.alloc (.cells c e)))
  (hop : ∀ o : Oper, o.op = op -> execOp ag.eval o = (do pure (Next.value (<- s)))) : EY P N w0 G h w ag op Q := by
 obtain ⟨h3, h4⟩ := zFt hR e hv hl
 exact EY.val hq h3 h4 ⟨_, m, zAe, rfl, hnm, by simpa using hm⟩ hs hop

theorem zFM (g k : Nat) (cs : Array Value) (hk : k ≠ g) : (w.setRow g cs).heap[k]? = w.heap[k]? := by
 show (w.heap.modify g _)[k]? = _
 rw [Array.getElem?_modify]; simp [Ne.symm hk]
theorem zHF (g : Nat) (cs : Array Value) (hN : N <= g) : Below N w (w.setRow g cs) :=
 ⟨rfl, rfl, rfl, by simp [World.setRow], fun k hk => zFM g k cs (by omega)⟩
theorem zDb (g : Nat) (o : Obj) (hN : N <= g) : Below N w (w.putObj g o) :=
 ⟨rfl, rfl, rfl, by simp, fun k hk => World.putObj_heap_other (by omega)⟩

theorem VsR.lay {vs : List AVal} {cur : List Value} {cs : List AVal} {news : List Value} {o : Nat} (hv : VsR P G vs (cur.take vs.length)) (hl : vs.length <= cur.length) (hc : VsR P G cs news) (ho : o + cs.length <= vs.length) :
  VsR P G (vs.take o ++ cs ++ vs.drop (o + cs.length)) ((cur.take o ++ news ++ cur.drop (o + cs.length)).take (vs.take o ++ cs ++ vs.drop (o + cs.length)).length) := by
 have hn := hc.length
 have h1 : (vs.take o ++ cs ++ vs.drop (o + cs.length)).length = vs.length := by simp; omega
 rw [h1]
 have h2 : (cur.take o ++ news ++ cur.drop (o + cs.length)).take vs.length = (cur.take vs.length).take o ++ news ++ (cur.take vs.length).drop (o + cs.length) := by
  apply List.ext_getElem?
  intro i
  simp only [List.getElem?_append, List.getElem?_take, List.getElem?_drop, List.length_append, List.length_take]
  grind
 rw [h2]
 exact ((hv.take o).append hc).append (hv.drop _)

theorem VsR.oneCells : ∀ {xs : List AVal} {vs : List Value}, VsR P G xs vs -> xs.all Ab.one = true -> ∀ v ∈ vs, v.oneCell' = true
 | [], _, e, _, v, hv => by subst e; cases hv
 | x :: xs, _, ⟨y, ys, e, a, b⟩, h1, v, hv => by
  subst e
  simp only [List.all_cons, Bool.and_eq_true] at h1
  rcases List.mem_cons.1 hv with rfl | hv
  ·exact a.oneCell h1.1
  ·exact b.oneCells h1.2 v hv

theorem zLd (hR : Rel P N w0 G h w) {t : TypeId} {v : AVal} {X V : Value} {b o n : Nat} (hn : zFh P t = some n) (hx : VR P G (.ptr (some (b, o))) X) (hv : VR P G v V) (hl : (zAi v).length = n) (e : zDW h b o (zAi v) = some h') :
  ∃ w', Rel P N w0 G h' w' /\ Ext G h w G h' w' /\ (Instr.storeAt t X V).run P w = .ok () w' := by
 obtain ⟨g, hg, rfl⟩ := hx
 unfold zDW at e
 split at e
 ·rename_i ver el vs hget
  split at e
  ·rename_i hc
   simp only [oI] at e; subst e
   obtain ⟨gi, hgi, ob, hob, c, el', fr, rfl, hfr, hfit, hel, hle, hvs⟩ := hR.obj b ver _ hget
   have hg' : G b = some g := hg
   rw [hg'] at hgi; cases hgi
   obtain ⟨hsz, hoff, hel', hfr'⟩ := hfr rfl
   subst hel'; subst hfr'
   rw [hoff, Nat.zero_add]
   rw [hoff, zlZ] at hvs
   rw [<- hsz] at hle
   have hN : N <= g.blk := hR.own b ver _ g hget hg' rfl
   have hcs := hv.cells
   have hcl := hcs.length
   have hone := hcs.oneCells hc.2
   have hrun := run_storeCells_at (P := P) g.blk o el' V.cells.toList 0 c w hob (by omega) hone
   simp only [Nat.add_zero, hcl, List.append_assoc] at hrun
   refine ⟨w.setRow g.blk (c.toList.take o ++ V.cells.toList ++ c.toList.drop (o + (zAi v).length)).toArray, ?_, ?_, ?_⟩
   rotate_left 2
   ·have hsz' : V.cells.size = n := by rw [<- hl, <- hcl]; simp
    simp [Instr.storeAt, Instr.sureAddr, storeVar, zAt hn, hsz']
    exact hrun
   all_goals
    have hput := hR.put (w' := w.setRow g.blk (c.toList.take o ++ V.cells.toList ++ c.toList.drop (o + (zAi v).length)).toArray) (o' := .cells false el' (vs.take o ++ zAi v ++ vs.drop (o + (zAi v).length)))
     (ob' := .cells (c.toList.take o ++ V.cells.toList ++ c.toList.drop (o + (zAi v).length)).toArray el' (0, 0)) hget rfl rfl hg'
     (setRow_heap w g.blk c _ el' (0, 0) hob) (fun k hk => zFM g.blk k _ hk) (zHF g.blk _ hN)
     ⟨_, _, (0, 0), rfl, fun _ => ⟨by simp; simp at hcl; omega, hoff, rfl, rfl⟩, by simp; simp at hcl; omega, hel, by simp; simp at hcl; omega, by
      rw [hoff, zlZ]
      have := VsR.lay (cur := c.toList) hvs (by simpa using hle) hcs hc.1
      simpa using this⟩
   ·exact hput.1
   ·exact hput.2
  ·cases e
 ·cases e
end
end Go.Ab
end
