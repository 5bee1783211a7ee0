import Derived.Test.YtapnoohglfhgeaaGreatDoorP13
/-
  Part 14 of the proof.
-/
set_option linter.all false
section
/-
  How a node looks, as a text.
-/
namespace Go.Ab.S
open Go.Ab
set_option maxHeartbeats 8000000
theorem digF_len : ∀ (f k n : Nat), 0 < k → n < 10 ^ k → (digF f n).length ≤ k
  | 0, k, n, hk, _ => by simp only [digF, List.length_singleton]; omega
  | f + 1, k, n, hk, hn => by
    rw [digF]
    by_cases h10 : n < 10
    · rw [if_pos h10]; simp only [List.length_singleton]; omega
    · rw [if_neg h10, List.length_append]
      obtain ⟨k', rfl⟩ : ∃ k', k = k' + 1 := ⟨k - 1, by omega⟩
      have hk' : 0 < k' := by
        rcases Nat.eq_zero_or_pos k' with rfl | h
        · omega
        · exact h
      have := digF_len f k' (n / 10) hk' (by rw [Nat.pow_succ] at hn; omega)
      simp only [List.length_cons, List.length_nil]; omega
theorem digN_len (k n : Nat) (hk : 0 < k) (hn : n < 10 ^ k) : (digN n).length ≤ k := digF_len _ k n hk hn
theorem digF_ne : ∀ (f n : Nat), digF f n ≠ []
  | 0, _ => by simp [digF]
  | f + 1, n => by rw [digF]; split <;> simp
theorem digN_ne (n : Nat) : digN n ≠ [] := digF_ne _ _
/-- Each is a digit. -/
theorem digF_dig : ∀ (f n : Nat), ∀ c ∈ digF f n, 48 ≤ c ∧ c ≤ 57
  | 0, n => by intro c hc; simp only [digF, List.mem_singleton] at hc; omega
  | f + 1, n => by
    rw [digF]
    split
    · intro c hc; simp only [List.mem_singleton] at hc; omega
    · intro c hc
      rcases List.mem_append.1 hc with hc | hc
      · exact digF_dig f _ c hc
      · simp only [List.mem_singleton] at hc; omega
theorem digN_lt (n : Nat) : ∀ c ∈ digN n, c < 256 := fun c hc => by have := digF_dig 19 n c hc; omega
theorem itoaN_ne (n : Int) : itoaN n ≠ [] := by
  unfold itoaN; split
  · simp
  · exact digN_ne _
theorem itoaN_lt (n : Int) : ∀ c ∈ itoaN n, c < 256 := by
  unfold itoaN; split
  · intro c hc
    rcases List.mem_cons.1 hc with rfl | hc
    · omega
    · exact digN_lt _ c hc
  · exact digN_lt _
theorem itoaN_len {n : Int} (h0 : -9223372036854775808 ≤ n) (h1 : n ≤ 9223372036854775807) : (itoaN n).length ≤ 20 := by
  unfold itoaN; split
  · have := digN_len 19 n.natAbs (by decide) (by omega)
    simp only [List.length_cons]; omega
  · have := digN_len 19 n.toNat (by decide) (by omega)
    omega
def labS (l : List (List Nat)) : List Nat := (l.map fun x => 32 :: x).flatten
def argS (cl : Int → Int) (l : List Int) : List Nat := (l.map fun a => 44 :: itoaN (cl a)).flatten
def headS (n : Node) : List Nat := itoaN n.kind ++ n.name
/-- How a node looks. -/
def lookS (n : Node) (cl : Int → Int) : List Nat := headS n ++ labS n.labels ++ argS cl n.args
theorem flat_take {α : Type} (f : α → List Nat) (l : List α) {j : Nat} (hj : j < l.length) : ((l.take (j + 1)).map f).flatten = ((l.take j).map f).flatten ++ f l[j] := by
  rw [List.take_succ_eq_append_getElem hj, List.map_append, List.flatten_append]; simp
theorem flat_le {α : Type} (f : α → List Nat) (l : List α) (j : Nat) : ((l.take j).map f).flatten.length ≤ (l.map f).flatten.length := by
  have : l.map f = (l.take j).map f ++ (l.drop j).map f := by rw [← List.map_append, List.take_append_drop]
  rw [this, List.flatten_append, List.length_append]; omega
section
variable {fns : FuncId → Option AFunc} {summ : FuncId → List AVal → AHeap → Option (D (AVal × AHeap))}
variable (H : Has fns summ)
include H
theorem look_ok (n : Node) (hs : NodeSm n) (cl : Int → Int) (fv av lv : AVal) (h : AHeap) (hw : WF h) (ha : IntsAt h av n.args) (hl : StrsAt h lv n.labels)
    (hk : -9223372036854775808 ≤ n.kind ∧ n.kind ≤ 9223372036854775807) (hc : ∀ a ∈ n.args, -9223372036854775808 ≤ cl a ∧ cl a ≤ 9223372036854775807)
    (hf : ∀ a ∈ n.args, ∀ h', Grow h h' → Cv fns summ fv [.int .i64 a] h' fun r h'' => r = .int .i64 (cl a) ∧ h'' = h')
    (hlen : (lookS n cl).length ≤ 1000000) (hby : ∀ c ∈ lookS n cl, c < 256) : Cl fns summ 121 [nodeV n av lv, fv] h fun r h' => r = .str (lookS n cl) ∧ Grow h h' := by
  have hl1 := ha.len
  have hl2 := hl.len
  unfold nodeV
  refine H.go (fn := F_look) rfl (by decide) rfl rfl ?_
  unfold F_look
  dsimp only [qQ, qE, qN, gQ, gE, vi]
  refine zAC (zAD ?_)
  refine st_box (by exact e1) (by exact cc) hw ?_
  intro bn h1 hbn gr1 on
  have w1 := gr1.wf
  repeat with_reducible first | refine zAA ?_ | refine zAB ?_ | refine zAC ?_ | refine zAD ?_ | (apply st_q; exact q1)
  refine st_alloc w1 ?_
  intro b h2 hb gr2 ob
  have w2 := gr2.wf
  have hbt : BAt h2 h1.next b [] := ⟨hb, b, .ptr none, .slice none 0, ob, .inl rfl, .inl ⟨rfl, rfl, rfl⟩⟩
  have on2 := gr2.keep _ _ on
  repeat with_reducible first | refine zAA ?_ | refine zAB ?_ | refine zAC ?_ | refine cd_draw ?_ | (apply dr_q; exact q1) | (apply dr_ql; exact q1; exact og1)
  have hlk : (headS n ++ labS n.labels ++ argS cl n.args).length ≤ 1000000 := hlen
  rw [List.length_append, List.length_append] at hlk
  have hki : (itoaN n.kind).length + n.name.length ≤ 1000000 := by
    have : (headS n).length = (itoaN n.kind).length + n.name.length := List.length_append
    omega
  refine dr_e (ex_callF (by exact s1) (cl_summ (H.itoa n.kind h2 hk.1 hk.2) ?_))
  rw [D.sat_ret]
  refine ⟨by simp [heldOk, on2], ?_⟩
  have hadd : (itoaN n.kind).length + n.name.length < 1000000000000 := by omega
  repeat with_reducible (apply dr_q; exact q1)
  refine dr_e (ex_callF (by exact s1) ((WriteString_ok H (itoaN n.kind ++ n.name) [] (by simp [itoaN_ne]) (by simp only [List.length_nil, List.length_append]; omega) h1.next b h2 h1 hbt w2 w1 gr2 (Nat.le_refl _) gr2.next).mono ?_))
  rintro _ h3 ⟨hb3, gr3, nx3⟩
  have on3 := gr3.keep _ _ on
  rw [List.nil_append] at hb3
  refine ⟨by simp [heldOk, on3], ?_⟩
  have hm1 : bn < h1.next := w1.lt on
  clear hbt on2
  repeat with_reducible first | refine zAA ?_ | refine zAB ?_ | refine zAC ?_ | refine zAD ?_ | refine dr_nil ?_ | (apply st_q; exact q1)
  refine cd_count (N := n.labels.length) (by have := hs.labels; omega) (fun j a hp => BAt hp h1.next b (headS n ++ labS (n.labels.take j)) ∧ Grow h1 hp ∧ h1.next ≤ hp.next ∧ a.defers = [] ∧ ev a (.tmp 2) = some (.ptr (some (bn, 0))) ∧ ev a (.tmp 5) = some (.ptr (some (b, 0))) ∧ ev a (.tmp 1) = some fv ∧ ev a (.tmp 18) = some lv)
    (by rintro j a hp t w (rfl | rfl | rfl) ⟨k1, k2, k3, k4, k5, k6, k7, k8⟩ <;> exact ⟨k1, k2, k3, by rw [zAV]; exact k4, by exact e1, by exact e1, by exact e1, by exact e1⟩) (by decide) ?_ ?_ ⟨by simpa [labS, headS] using hb3, gr3, nx3, by exact n1, by exact e1, by exact e1, by exact e1, by exact e1⟩ (by exact e1) (by exact e1)
  · rintro j a hp hj ⟨kb, kg, kn, hd, h2', h5, h1', h18⟩ hi hn
    obtain ⟨b0, o0, ver0, ro0, e0, vs0, hix, hget, hvo⟩ := (hl.mono (gr1.trans kg)).at (List.getElem?_eq_getElem hj)
    have hw32 : ([32] ++ n.labels[j]) = 32 :: n.labels[j] := rfl
    have htk := flat_take (fun x => 32 :: x) n.labels hj
    have hle := flat_le (fun x => 32 :: x) n.labels (j + 1)
    have hlb : (labS (n.labels.take (j + 1))).length = (labS (n.labels.take j)).length + (1 + n.labels[j].length) := by
      simp only [labS, htk, List.length_append, List.length_cons]; omega
    have hle' : (labS (n.labels.take (j + 1))).length ≤ (labS n.labels).length := hle
    have hadd : ([32] : List Nat).length + n.labels[j].length < 1000000000000 := by simp only [List.length_singleton]; omega
    have hte : headS n ++ labS (n.labels.take (j + 1)) = headS n ++ labS (n.labels.take j) ++ ([32] ++ n.labels[j]) := by
      simp only [labS, htk, List.append_assoc, hw32]
    clear hle htk hw32 on3
    repeat with_reducible first | refine zAA ?_ | refine zAB ?_ | refine zAC ?_ | refine zAD ?_ | refine zAK ?_ | (apply st_q; exact q1)
    refine zAS (by exact s1) ((WriteString_ok H ([32] ++ n.labels[j]) (headS n ++ labS (n.labels.take j)) (by simp) (by simp only [List.length_append, List.length_singleton]; omega) h1.next b hp h1 kb kg.wf w1 kg (Nat.le_refl _) kn).mono ?_)
    rintro _ h4 ⟨hb4, gr4, nx4⟩
    rw [← hte] at hb4
    clear hte hlb hle'
    repeat with_reducible first | refine zAA ?_ | refine zAJ ?_ | refine zAB ?_
    exact ⟨⟨hb4, gr4, nx4, by exact n1, by exact e1, by exact e1, by exact e1, by exact e1⟩, by exact e1, by exact e1⟩
  · rintro a hp ⟨kb, kg, kn, hd, h2', h5, h1', h18⟩
    rw [List.take_length] at kb
    have onp := kg.keep _ _ on
    clear on3
    repeat with_reducible first | refine zAA ?_ | refine zAB ?_ | refine zAC ?_ | refine zAD ?_ | (apply st_q; exact q1)
    refine cd_count (N := n.args.length) (by have := hs.args; omega) (fun j a hp => BAt hp h1.next b (headS n ++ labS n.labels ++ argS cl (n.args.take j)) ∧ Grow h1 hp ∧ h1.next ≤ hp.next ∧ a.defers = [] ∧ ev a (.tmp 5) = some (.ptr (some (b, 0))) ∧ ev a (.tmp 1) = some fv ∧ ev a (.tmp 29) = some av)
      (by rintro j a hp t w (rfl | rfl | rfl) ⟨k1, k2, k3, k4, k5, k6, k7⟩ <;> exact ⟨k1, k2, k3, by rw [zAV]; exact k4, by exact e1, by exact e1, by exact e1⟩) (by decide) ?_ ?_ ⟨by simpa [argS] using kb, kg, kn, by exact n1, by exact e1, by exact e1, by exact e1⟩ (by exact e1) (by exact e1)
    · rintro j a hp hj ⟨kb, kg, kn, hd, h5, h1', h29⟩ hi hn
      obtain ⟨b0, o0, ver0, ro0, e0, vs0, hix, hget, hvo⟩ := (ha.mono (gr1.trans kg)).at (List.getElem?_eq_getElem hj)
      have hmem : n.args[j] ∈ n.args := List.getElem_mem hj
      have htk := flat_take (fun a => 44 :: itoaN (cl a)) n.args hj
      have hle := flat_le (fun a => 44 :: itoaN (cl a)) n.args (j + 1)
      have hlb : (argS cl (n.args.take (j + 1))).length = (argS cl (n.args.take j)).length + (1 + (itoaN (cl n.args[j])).length) := by
        simp only [argS, htk, List.length_append, List.length_cons]; omega
      have hle' : (argS cl (n.args.take (j + 1))).length ≤ (argS cl n.args).length := hle
      have hadd : ([44] : List Nat).length + (itoaN (cl n.args[j])).length < 1000000000000 := by simp only [List.length_singleton]; omega
      have hte : headS n ++ labS n.labels ++ argS cl (n.args.take (j + 1)) = headS n ++ labS n.labels ++ argS cl (n.args.take j) ++ ([44] ++ itoaN (cl n.args[j])) := by
        simp only [argS, htk, List.append_assoc]; rfl
      clear hle htk onp
      repeat with_reducible first | refine zAA ?_ | refine zAB ?_ | refine zAC ?_ | refine zAD ?_ | refine zAK ?_ | (apply st_q; exact q1)
      refine st_e (ex_call (by exact e1) (by exact s1) ((hf _ hmem hp (gr1.trans kg)).mono ?_))
      rintro _ _ ⟨rfl, rfl⟩
      skip
      refine zAS (by exact s1) (cl_summ (H.itoa _ _ (hc _ hmem).1 (hc _ hmem).2) ?_)
      rw [D.sat_ret]
      repeat with_reducible (apply st_q; exact q1)
      refine zAS (by exact s1) ((WriteString_ok H ([44] ++ itoaN (cl n.args[j])) (headS n ++ labS n.labels ++ argS cl (n.args.take j)) (by simp) (by simp only [List.length_append, List.length_singleton]; omega) h1.next b _ h1 kb kg.wf w1 kg (Nat.le_refl _) kn).mono ?_)
      rintro _ h4 ⟨hb4, gr4, nx4⟩
      rw [← hte] at hb4
      clear hte hlb hle'
      repeat with_reducible first | refine zAA ?_ | refine zAJ ?_ | refine zAB ?_
      exact ⟨⟨hb4, gr4, nx4, by exact n1, by exact e1, by exact e1, by exact e1⟩, by exact e1, by exact e1⟩
    · rintro a hp ⟨kb, kg, kn, hd, h5, h1', h29⟩
      rw [List.take_length] at kb
      have hS : headS n ++ labS n.labels ++ argS cl n.args = lookS n cl := rfl
      rw [hS] at kb
      have hne : lookS n cl ≠ [] := by simp [lookS, headS, itoaN_ne]
      obtain ⟨_, ver, p, v, o, _, B⟩ := kb
      rcases B with ⟨_, h0, _⟩ | ⟨_, h0, _⟩ | ⟨c, vs, ver', hc', rfl, oc, hle, htk⟩
      · exact absurd (List.length_eq_zero_iff.1 h0) hne
      · exact absurd (List.length_eq_zero_iff.1 h0) hne
      rw [Nat.mul_one] at htk
      have ht := H.text b ver p c ver' vs (lookS n cl) hp o oc htk hne hby hlen
      clear onp hlk hki htk
      repeat with_reducible first | refine zAA ?_ | refine zAC ?_ | refine zAD ?_
      refine zAS (by exact s1) (cl_summ ht ?_)
      rw [D.sat_ret]
      have gr9 : Grow h (dropA hp c) := gr1.trans (kg.drop w1 hc')
      repeat' with_reducible first | refine zAA ?_ | refine zAB ?_ | refine zAG ?_ | (apply st_q; exact q1) | (apply zAE; exact n1; exact r1)
      exact ⟨rfl, gr9⟩
end
end Go.Ab.S
end
section
/-
  Going through what follows from one thing, with a list of what waits: when it comes out true.
-/
namespace Go.Ab.S
section
variable {α : Type} [BEq α] [LawfulBEq α] (ok : α → Bool) (nx : α → List α) (bad : α → α → Bool)
def walkG : Nat → List α → List α → Bool
  | 0, _, _ => false
  | _ + 1, [], _ => true
  | m + 1, p :: w, met => if met.contains p then walkG m w met else if ok p && !(met.any (bad p)) then walkG m (nx p ++ w) (met ++ [p]) else false
/-- So much may still be put behind. -/
def leftW (met : List α) : List α → Nat
  | [] => 0
  | p :: r => (if met.contains p then 0 else (nx p).length) + leftW met r
theorem leftW_le (met : List α) (p : α) : ∀ ps : List α, leftW nx (met ++ [p]) ps ≤ leftW nx met ps
  | [] => Nat.le_refl _
  | q :: r => by
    have ih := leftW_le met p r
    simp only [leftW]
    cases h : met.contains q with
    | true =>
      have : (met ++ [p]).contains q = true := by simp at h ⊢; exact .inl h
      rw [this]; simpa using ih
    | false =>
      cases h2 : (met ++ [p]).contains q <;> simp <;> omega
theorem leftW_put {met : List α} {p : α} (hp : met.contains p = false) : ∀ {ps : List α}, p ∈ ps → leftW nx (met ++ [p]) ps + (nx p).length ≤ leftW nx met ps
  | [], h => by cases h
  | q :: r, h => by
    have hle := leftW_le nx met p r
    simp only [leftW]
    by_cases hq : q = p
    · subst hq
      have : (met ++ [q]).contains q = true := by simp
      rw [this, hp]; simp; omega
    · have hr : p ∈ r := by
        rcases List.mem_cons.1 h with h | h
        · exact absurd h.symm hq
        · exact h
      have ih := leftW_put hp hr
      have : (met ++ [p]).contains q = met.contains q := by
        rw [Bool.eq_iff_iff]; simp [hq]
      rw [this]; omega
theorem leftW_anti {met : List α} : ∀ {ps : List α}, leftW nx met ps ≤ leftW nx [] ps
  | [] => Nat.le_refl _
  | q :: r => by
    have ih := leftW_anti (met := met) (ps := r)
    simp only [leftW]
    split <;> simp <;> omega
/-- It comes out true: there is a closed lot. -/
theorem walk_sound (hsym : ∀ p q, bad p q = bad q p) : ∀ (m : Nat) (w met : List α), walkG ok nx bad m w met = true → (∀ p ∈ met, ok p = true ∧ ∀ q ∈ nx p, q ∈ met ∨ q ∈ w) → (∀ p ∈ met, ∀ q ∈ met, p ≠ q → bad p q = false) →
    ∃ S : List α, (∀ p ∈ met, p ∈ S) ∧ (∀ p ∈ w, p ∈ S) ∧ (∀ p ∈ S, ok p = true ∧ ∀ q ∈ nx p, q ∈ S) ∧ ∀ p ∈ S, ∀ q ∈ S, p ≠ q → bad p q = false
  | 0, _, _, h, _, _ => by simp [walkG] at h
  | m + 1, [], met, h, h1, h2 => ⟨met, fun _ h => h, fun _ h => (by cases h), fun p hp => ⟨(h1 p hp).1, fun q hq => by
      rcases (h1 p hp).2 q hq with h | h
      · exact h
      · cases h⟩, h2⟩
  | m + 1, p :: w, met, h, h1, h2 => by
    rw [walkG] at h
    split at h
    · rename_i hc
      have hc : p ∈ met := by simpa using hc
      obtain ⟨S, s1, s2, s3⟩ := walk_sound hsym m w met h (fun q hq => ⟨(h1 q hq).1, fun r hr => by
        rcases (h1 q hq).2 r hr with h | h
        · exact .inl h
        · rcases List.mem_cons.1 h with rfl | h
          · exact .inl hc
          · exact .inr h⟩) h2
      exact ⟨S, s1, fun q hq => by
        rcases List.mem_cons.1 hq with rfl | hq
        · exact s1 _ hc
        · exact s2 q hq, s3⟩
    · rename_i hc
      split at h
      · rename_i hk
        simp only [Bool.and_eq_true, Bool.not_eq_true', List.any_eq_false] at hk
        obtain ⟨S, s1, s2, s3⟩ := walk_sound hsym m (nx p ++ w) (met ++ [p]) h (fun q hq => by
          rcases List.mem_append.1 hq with hq | hq
          · refine ⟨(h1 q hq).1, fun r hr => ?_⟩
            rcases (h1 q hq).2 r hr with h | h
            · exact .inl (List.mem_append.2 (.inl h))
            · rcases List.mem_cons.1 h with rfl | h
              · exact .inl (by simp)
              · exact .inr (List.mem_append.2 (.inr h))
          · simp only [List.mem_singleton] at hq
            subst hq
            exact ⟨hk.1, fun r hr => .inr (List.mem_append.2 (.inl hr))⟩) (fun q hq r hr hne => by
          rcases List.mem_append.1 hq with kq | kq <;> rcases List.mem_append.1 hr with kr | kr
          · exact h2 q kq r kr hne
          · simp only [List.mem_singleton] at kr; subst kr
            rw [hsym]
            exact Bool.eq_false_iff.2 (hk.2 q kq)
          · simp only [List.mem_singleton] at kq; subst kq
            exact Bool.eq_false_iff.2 (hk.2 r kr)
          · simp only [List.mem_singleton] at kq kr; subst kq; exact absurd kr.symm hne)
        exact ⟨S, fun q hq => s1 q (List.mem_append.2 (.inl hq)), fun q hq => by
          rcases List.mem_cons.1 hq with rfl | hq
          · exact s1 _ (by simp)
          · exact s2 q (List.mem_append.2 (.inr hq)), s3⟩
      · cases h
theorem walk_complete {S : α → Prop} (hS : ∀ p, S p → ok p = true ∧ ∀ q ∈ nx p, S q) (hb : ∀ p q, S p → S q → p ≠ q → bad p q = false) {ps : List α} (hps : ∀ p, S p → p ∈ ps) : ∀ (m : Nat) (w met : List α), (∀ p ∈ w, S p) → (∀ p ∈ met, S p) →
    w.length + leftW nx met ps < m → walkG ok nx bad m w met = true
  | 0, _, _, _, _, h => by omega
  | m + 1, [], _, _, _, _ => rfl
  | m + 1, p :: w, met, h1, h2, h => by
    rw [walkG]
    have hp := h1 p (by simp)
    have hw : ∀ q ∈ w, S q := fun q hq => h1 q (by simp [hq])
    cases hc : met.contains p with
    | true =>
      rw [if_pos rfl]
      exact walk_complete hS hb hps m w met hw h2 (by simp only [List.length_cons] at h; omega)
    | false =>
      have hnb : met.any (bad p) = false := by
        rw [List.any_eq_false]
        intro q hq
        have hne : p ≠ q := by rintro rfl; simp at hc; exact hc hq
        simp [hb p q hp (h2 q hq) hne]
      rw [if_neg (by simp), (hS p hp).1, hnb]
      simp only [Bool.not_false, Bool.and_self, if_true]
      refine walk_complete hS hb hps m (nx p ++ w) (met ++ [p]) (fun q hq => ?_) (fun q hq => ?_) ?_
      · rcases List.mem_append.1 hq with hq | hq
        · exact (hS p hp).2 q hq
        · exact hw q hq
      · rcases List.mem_append.1 hq with hq | hq
        · exact h2 q hq
        · simp only [List.mem_singleton] at hq; subst hq; exact hp
      · have := leftW_put nx hc (hps p hp)
        simp only [List.length_append, List.length_cons] at h ⊢
        omega
/-- **It comes out true just if there is a lot that is closed.** -/
theorem walk_iff (hsym : ∀ p q, bad p q = bad q p) {ps : List α} (r : α) (hr : r ∈ ps) (hps : ∀ p ∈ ps, ok p = true → ∀ q ∈ nx p, q ∈ ps) :
    walkG ok nx bad (2 + leftW nx [] ps) [r] [] = true ↔ ∃ S : α → Prop, S r ∧ (∀ p, S p → p ∈ ps ∧ ok p = true ∧ ∀ q ∈ nx p, S q) ∧ ∀ p q, S p → S q → p ≠ q → bad p q = false := by
  constructor
  · intro h
    obtain ⟨S, _, s2, s3, s4⟩ := walk_sound ok nx bad hsym _ _ _ h (by intro p hp; cases hp) (by intro p hp; cases hp)
    exact ⟨fun p => p ∈ S ∧ p ∈ ps, ⟨s2 r (by simp), hr⟩, fun p hp => ⟨hp.2, (s3 p hp.1).1, fun q hq => ⟨(s3 p hp.1).2 q hq, hps p hp.2 (s3 p hp.1).1 q hq⟩⟩, fun p q hp hq => s4 p hp.1 q hq.1⟩
  · rintro ⟨S, h1, h2, h3⟩
    exact walk_complete ok nx bad (S := S) (fun p hp => (h2 p hp).2) h3 (fun p hp => (h2 p hp).1) _ _ _ (by simpa using h1) (by simp) (by simp only [List.length_cons, List.length_nil]; omega)
end
end Go.Ab.S
end
section
/-
  Which nodes are one in the least graph: the plain law of it.
-/
namespace Go.Ab.S
open Go.Ab
set_option maxHeartbeats 1000000
/-! ### Texts taken apart -/
theorem split_eq (p : Nat → Bool) : ∀ {a b r s : List Nat}, (∀ x ∈ a, p x = true) → (∀ x ∈ b, p x = true) → (∀ x, r.head? = some x → p x = false) → (∀ x, s.head? = some x → p x = false) → a ++ r = b ++ s → a = b ∧ r = s
  | [], [], _, _, _, _, _, _, h => ⟨rfl, h⟩
  | [], y :: b, r, s, _, hb, hr, _, h => by
    have h : r = y :: (b ++ s) := h
    have := hr y (by rw [h]; rfl)
    rw [hb y (by simp)] at this; cases this
  | x :: a, [], r, s, ha, _, _, hs, h => by
    have h : x :: (a ++ r) = s := h
    have := hs x (by rw [← h]; rfl)
    rw [ha x (by simp)] at this; cases this
  | x :: a, y :: b, r, s, ha, hb, hr, hs, h => by
    simp only [List.cons_append, List.cons.injEq] at h
    obtain ⟨h1, h2⟩ := split_eq p (fun z hz => ha z (by simp [hz])) (fun z hz => hb z (by simp [hz])) hr hs h.2
    exact ⟨by rw [h.1, h1], h2⟩
def isDig (c : Nat) : Bool := Nat.ble 48 c && Nat.ble c 57
theorem dig_is {n c : Nat} (h : c ∈ digN n) : isDig c = true := by
  have := digF_dig 19 n c h
  simp only [isDig, Bool.and_eq_true]
  exact ⟨Nat.ble_eq_true_of_le this.1, Nat.ble_eq_true_of_le this.2⟩
theorem digF_inj : ∀ (f n m : Nat), n < 10 ^ (f + 1) → m < 10 ^ (f + 1) → digF f n = digF f m → n = m
  | 0, n, m, hn, hm, h => by simp only [digF, List.cons.injEq, and_true] at h; omega
  | f + 1, n, m, hn, hm, h => by
    rw [Nat.pow_succ] at hn hm
    rw [digF, digF] at h
    split at h <;> split at h
    · simp only [List.cons.injEq, and_true] at h; omega
    · have := congrArg List.length h
      have h0 := digF_ne f (m / 10)
      have h1 : (digF f (m / 10)).length ≠ 0 := fun e => h0 (List.length_eq_zero_iff.1 e)
      rw [List.length_append] at this
      simp only [List.length_singleton] at this
      omega
    · have := congrArg List.length h
      have h0 := digF_ne f (n / 10)
      have h1 : (digF f (n / 10)).length ≠ 0 := fun e => h0 (List.length_eq_zero_iff.1 e)
      rw [List.length_append] at this
      simp only [List.length_singleton] at this
      omega
    · have h2 := List.append_inj' h rfl
      have := digF_inj f (n / 10) (m / 10) (by omega) (by omega) h2.1
      simp only [List.cons.injEq, and_true] at h2
      omega
theorem digN_inj {n m : Nat} (hn : n < 2 ^ 60) (hm : m < 2 ^ 60) (h : digN n = digN m) : n = m := by
  have e : (2 : Nat) ^ 60 ≤ 10 ^ (19 + 1) := by decide
  exact digF_inj 19 n m (by omega) (by omega) h
/-- A class's number. -/
def InR (x : Int) : Prop := 0 ≤ x ∧ x < 2 ^ 60
theorem itoa_dig {x : Int} (h : InR x) : ∀ c ∈ itoaN x, isDig c = true := by
  unfold itoaN
  rw [if_neg (by have := h.1; omega)]
  intro c hc; exact dig_is hc
theorem itoa_inj {x y : Int} (hx : InR x) (hy : InR y) (h : itoaN x = itoaN y) : x = y := by
  unfold itoaN at h
  rw [if_neg (by have := hx.1; omega), if_neg (by have := hy.1; omega)] at h
  have h1 := hx.1; have h2 := hx.2; have h3 := hy.1; have h4 := hy.2
  have := digN_inj (by omega) (by omega) h
  omega
theorem eqL_iff : ∀ {a b : List Nat}, eqL a b = true ↔ a = b
  | [], [] => by simp [eqL]
  | [], _ :: _ => by simp [eqL]
  | _ :: _, [] => by simp [eqL]
  | x :: a, y :: b => by
    rw [eqL]
    cases h : Nat.beq x y with
    | true =>
      have := Nat.eq_of_beq_eq_true h
      subst this
      simp [eqL_iff (a := a) (b := b)]
    | false =>
      have : x ≠ y := by rintro rfl; rw [Nat.beq_refl] at h; cases h
      simp [this]
theorem eqLL_iff : ∀ {a b : List (List Nat)}, eqLL a b = true ↔ a = b
  | [], [] => by simp [eqLL]
  | [], _ :: _ => by simp [eqLL]
  | _ :: _, [] => by simp [eqLL]
  | x :: a, y :: b => by simp [eqLL, eqL_iff, eqLL_iff (a := a) (b := b)]
theorem eqII_iff : ∀ {a b : List Int}, eqII a b = true ↔ a = b
  | [], [] => by simp [eqII]
  | [], _ :: _ => by simp [eqII]
  | _ :: _, [] => by simp [eqII]
  | x :: a, y :: b => by simp [eqII, eqII_iff (a := a) (b := b)]
/-- Letters of names: none that stands between. -/
theorem wordG_goes : ∀ (s : List Nat) (i : Nat), wordG i s = i + s.length → ∀ c ∈ s, goesF c false = true
  | [], _, _ => by intro c hc; cases hc
  | x :: s, i, h => by
    rw [wordG] at h
    split at h
    · rename_i hg
      intro c hc
      rcases List.mem_cons.1 hc with rfl | hc
      · revert hg; simp only [goesF]
        cases (i == 0) <;> simp <;> omega
      · exact wordG_goes s (i + 1) (by rw [h]; simp only [List.length_cons]; omega) c hc
    · simp only [List.length_cons] at h; omega
theorem name_goes {s : List Nat} (h : isNameF s = true) : ∀ c ∈ s, 48 ≤ c ∧ c ≤ 122 ∧ c ≠ 58 := by
  simp only [isNameF, Bool.and_eq_true, beq_iff_eq] at h
  intro c hc
  have := wordG_goes s 0 (by rw [Nat.zero_add]; exact h.1.2) c hc
  simp only [goesF, Bool.or_eq_true, Bool.and_eq_true, decide_eq_true_eq, beq_iff_eq] at this
  omega
theorem ris_names : ∀ {l : List (List Nat)} {p : Option (List Nat)}, risG p l = true → ∀ s ∈ l, isNameF s = true
  | [], _, _ => by intro s hs; cases hs
  | x :: l, p, h => by
    simp only [risG, Bool.and_eq_true] at h
    intro s hs
    rcases List.mem_cons.1 hs with rfl | hs
    · exact h.1.1
    · exact ris_names h.2 s hs
theorem lab_inj : ∀ {a b : List (List Nat)}, (∀ s ∈ a, ∀ c ∈ s, c ≠ 32) → (∀ s ∈ b, ∀ c ∈ s, c ≠ 32) → labS a = labS b → a = b
  | [], [], _, _, _ => rfl
  | [], y :: b, _, _, h => by simp [labS] at h
  | x :: a, [], _, _, h => by simp [labS] at h
  | x :: a, y :: b, ha, hb, h => by
    simp only [labS, List.map_cons, List.flatten_cons, List.cons_append, List.cons.injEq, true_and] at h
    have hh : ∀ (l : List (List Nat)) z, ((l.map fun x => 32 :: x).flatten).head? = some z → (z != 32) = false := by
      intro l z hz
      cases l with
      | nil => simp at hz
      | cons w l => simp at hz; simp [← hz]
    obtain ⟨h1, h2⟩ := split_eq (fun c => c != 32) (fun c hc => by simpa using ha x (by simp) c hc) (fun c hc => by simpa using hb y (by simp) c hc) (hh a) (hh b) h
    rw [h1, lab_inj (fun s hs => ha s (by simp [hs])) (fun s hs => hb s (by simp [hs])) h2]
theorem arg_inj {f g : Int → Int} : ∀ {a b : List Int}, (∀ x ∈ a, InR (f x)) → (∀ x ∈ b, InR (g x)) → argS f a = argS g b → a.map f = b.map g
  | [], [], _, _, _ => rfl
  | [], y :: b, _, _, h => by simp [argS] at h
  | x :: a, [], _, _, h => by simp [argS] at h
  | x :: a, y :: b, ha, hb, h => by
    simp only [argS, List.map_cons, List.flatten_cons, List.cons_append, List.cons.injEq, true_and] at h
    have hh : ∀ (k : Int → Int) (l : List Int) z, ((l.map fun a => 44 :: itoaN (k a)).flatten).head? = some z → isDig z = false := by
      intro k l z hz
      cases l with
      | nil => simp at hz
      | cons w l => simp at hz; rw [← hz]; rfl
    obtain ⟨h1, h2⟩ := split_eq isDig (itoa_dig (ha x (by simp))) (itoa_dig (hb y (by simp))) (hh f a) (hh g b) h
    rw [List.map_cons, List.map_cons, itoa_inj (ha x (by simp)) (hb y (by simp)) h1, arg_inj (fun z hz => ha z (by simp [hz])) (fun z hz => hb z (by simp [hz])) h2]

/-! ### How a node is told -/
def cfreeF (n : Node) : Bool := n.kind == 1 || n.isOpen
def clAt (cl : List Int) (a : Int) : Int := cl.getD a.toNat 0
/-- What a node is known by. -/
def keyS (cl : List Int) (i : Nat) (n : Node) : List Nat := itoaN (clAt cl i) ++ [58] ++ (if cfreeF n then 35 :: itoaN i else []) ++ lookS n (clAt cl)
theorem may_kind {n : Node} {N : Int} (h : mayF n N = true) : (n.kind = 1 ∧ n.labels = [] ∧ n.isOpen = false ∧ n.name = [] ∧ n.args = []) ∨ (n.kind = 2 ∧ n.labels = [] ∧ n.isOpen = false ∧ arIs n.name = true ∧ n.args.length = arK n.name) ∨ (n.kind = 3 ∧ n.name = [] ∧ n.labels.length = n.args.length ∧ risingF n.labels = true) := by
  unfold mayF at h
  split at h
  · cases h
  split at h
  · rename_i h1
    simp only [Bool.and_eq_true, beq_iff_eq, Bool.not_eq_true', eqL_iff, List.length_eq_zero_iff] at h h1
    exact .inl ⟨h1, h.1.1.1, h.1.1.2, h.1.2, h.2⟩
  split at h
  · rename_i h1
    simp only [Bool.and_eq_true, beq_iff_eq, Bool.not_eq_true', eqL_iff, List.length_eq_zero_iff] at h h1
    exact .inr (.inl ⟨h1, h.1.1.1, h.1.1.2, h.1.2, h.2⟩)
  split at h
  · rename_i h1
    simp only [Bool.and_eq_true, beq_iff_eq, eqL_iff] at h h1
    exact .inr (.inr ⟨h1, h.1.1, h.1.2, h.2⟩)
  · cases h
theorem ar_names {s : List Nat} (h : arIs s = true) : ∀ c ∈ s, c ≠ 44 := by
  simp only [arIs, Bool.or_eq_true, eqL_iff] at h
  rcases h with ((((h | h) | h) | h) | h) | h <;> subst h <;> decide
theorem key_inj {cl : List Int} {i j : Nat} {n m : Node} {N : Int} (hcl : ∀ a, InR (clAt cl a)) (hi : InR i) (hj : InR j) (hn : mayF n N = true) (hm : mayF m N = true) (h : keyS cl i n = keyS cl j m) :
    clAt cl i = clAt cl j ∧ ((cfreeF n = true ∨ cfreeF m = true) → i = j) ∧ n.kind = m.kind ∧ n.name = m.name ∧ n.labels = m.labels ∧ n.args.map (clAt cl) = m.args.map (clAt cl) ∧ cfreeF n = cfreeF m := by
  unfold keyS at h
  simp only [List.append_assoc, List.singleton_append] at h
  obtain ⟨h1, h2⟩ := split_eq isDig (itoa_dig (hcl _)) (itoa_dig (hcl _)) (by intro x hx; simp at hx; rw [← hx]; rfl) (by intro x hx; simp at hx; rw [← hx]; rfl) h
  have e1 := itoa_inj (hcl _) (hcl _) h1
  replace h2 := List.append_cancel_left (as := [58]) h2
  simp only [List.append_eq] at h2
  have hd : ∀ {n : Node}, mayF n N = true → ∃ d : Nat, d ∈ [49, 50, 51] ∧ ∃ r, lookS n (clAt cl) = d :: r ∧ n.kind = (d : Int) - 48 ∧ r = n.name ++ labS n.labels ++ argS (clAt cl) n.args := by
    intro n hn
    rcases may_kind hn with ⟨hk, _⟩ | ⟨hk, _⟩ | ⟨hk, _⟩
    · exact ⟨49, by simp, _, by simp only [lookS, headS, hk]; rfl, by rw [hk]; rfl, rfl⟩
    · exact ⟨50, by simp, _, by simp only [lookS, headS, hk]; rfl, by rw [hk]; rfl, rfl⟩
    · exact ⟨51, by simp, _, by simp only [lookS, headS, hk]; rfl, by rw [hk]; rfl, rfl⟩
  have hr : ∀ {n : Node}, mayF n N = true → cfreeF n = true → ∀ x, (n.name ++ labS n.labels ++ argS (clAt cl) n.args).head? = some x → isDig x = false := by
    intro n hn hf x hx
    rcases may_kind hn with ⟨hk, k1, k2, k3, k4⟩ | ⟨hk, k1, k2, k3, k4⟩ | ⟨hk, k1, k2, k3⟩
    · rw [k1, k3, k4] at hx; simp [labS, argS] at hx
    · simp [cfreeF, hk, k2] at hf
    · rw [k1, List.nil_append] at hx
      cases hl : n.labels with
      | nil =>
        rw [hl] at hx
        cases ha : n.args with
        | nil => rw [ha] at hx; simp [labS, argS] at hx
        | cons a r => rw [ha] at hx; simp [labS, argS] at hx; rw [← hx]; rfl
      | cons s r => rw [hl] at hx; simp [labS] at hx; rw [← hx]; rfl
  obtain ⟨d, hd1, r, hd2, hd3, hd4⟩ := hd hn
  obtain ⟨d', hd1', r', hd2', hd3', hd4'⟩ := hd hm
  rw [hd2, hd2'] at h2
  have key : d :: r = d' :: r' ∧ (cfreeF n = true ∨ cfreeF m = true → i = j) ∧ cfreeF n = cfreeF m := by
    cases hfn : cfreeF n <;> cases hfm : cfreeF m <;> rw [hfn, hfm] at h2
    · simp only [Bool.false_eq_true, if_false, List.nil_append] at h2
      exact ⟨h2, by simp, rfl⟩
    · simp only [Bool.false_eq_true, if_false, if_true, List.nil_append, List.cons_append, List.cons.injEq] at h2
      have := h2.1; revert hd1; subst this; simp
    · simp only [Bool.false_eq_true, if_false, if_true, List.nil_append, List.cons_append, List.cons.injEq] at h2
      have := h2.1; revert hd1'; subst this; simp
    · simp only [if_true, List.cons_append, List.cons.injEq, true_and] at h2
      have hdig : ∀ d, d ∈ ([49, 50, 51] : List Nat) → isDig d = true := by decide
      rw [hd4, hd4'] at h2
      obtain ⟨h3, h4⟩ := split_eq isDig (a := itoaN i ++ [d]) (b := itoaN j ++ [d']) (fun x hx => by
          rcases List.mem_append.1 hx with hx | hx
          · exact itoa_dig hi x hx
          · simp only [List.mem_singleton] at hx; subst hx; exact hdig _ hd1) (fun x hx => by
          rcases List.mem_append.1 hx with hx | hx
          · exact itoa_dig hj x hx
          · simp only [List.mem_singleton] at hx; subst hx; exact hdig _ hd1') (hr hn hfn) (hr hm hfm) (by simpa using h2)
      obtain ⟨h5, h6⟩ := List.append_inj' h3 rfl
      have := itoa_inj hi hj h5
      simp only [List.cons.injEq, and_true] at h6
      rw [hd4, hd4', h4, h6]
      exact ⟨rfl, fun _ => by omega, rfl⟩
  obtain ⟨k1, k2, k3⟩ := key
  simp only [List.cons.injEq] at k1
  have hkind : n.kind = m.kind := by rw [hd3, hd3', k1.1]
  have hrest := k1.2
  rw [hd4, hd4'] at hrest
  have hno : ∀ {n : Node}, mayF n N = true → (∀ c ∈ n.name ++ labS n.labels, (c != 44) = true) ∧ (∀ s ∈ n.labels, ∀ c ∈ s, c ≠ 32) := by
    intro n hn
    have hlab : risingF n.labels = true → (∀ c ∈ labS n.labels, c ≠ 44) ∧ (∀ s ∈ n.labels, ∀ c ∈ s, c ≠ 32) := by
      intro hri
      have hnm := ris_names (p := none) hri
      refine ⟨fun c hc => ?_, fun s hs c hc => ?_⟩
      · simp only [labS, List.mem_flatten, List.mem_map] at hc
        obtain ⟨_, ⟨s, hs, rfl⟩, hc⟩ := hc
        rcases List.mem_cons.1 hc with rfl | hc
        · decide
        · have := name_goes (hnm s hs) c hc; omega
      · have := name_goes (hnm s hs) c hc; omega
    rcases may_kind hn with ⟨hk, k1, k2, k3, k4⟩ | ⟨hk, k1, k2, k3, k4⟩ | ⟨hk, k1, k2, k3⟩
    · rw [k1, k3]; exact ⟨fun c hc => by simp [labS] at hc, fun s hs => by cases hs⟩
    · rw [k1]
      refine ⟨fun c hc => ?_, fun s hs => by cases hs⟩
      simp [labS] at hc
      simpa using ar_names k3 c hc
    · rw [k1, List.nil_append]
      obtain ⟨h1, h2⟩ := hlab k3
      exact ⟨fun c hc => by simpa using h1 c hc, h2⟩
  have hh : ∀ (l : List Int) z, (argS (clAt cl) l).head? = some z → (z != 44) = false := by
    intro l z hz
    cases l with
    | nil => simp [argS] at hz
    | cons w l => simp [argS] at hz; simp [← hz]
  obtain ⟨h5, h6⟩ := split_eq (fun c => c != 44) (hno hn).1 (hno hm).1 (hh _) (hh _) hrest
  have hargs := arg_inj (fun x _ => hcl x) (fun x _ => hcl x) h6
  have hnl : n.name = m.name ∧ n.labels = m.labels := by
    rcases may_kind hn with ⟨hk, q1, _, q3, _⟩ | ⟨hk, q1, _⟩ | ⟨hk, q1, _⟩
    · rcases may_kind hm with ⟨hk', q1', _, q3', _⟩ | ⟨hk', _⟩ | ⟨hk', _⟩
      · rw [q1, q1', q3, q3']; exact ⟨rfl, rfl⟩
      · omega
      · omega
    · rcases may_kind hm with ⟨hk', _⟩ | ⟨hk', q1', _⟩ | ⟨hk', _⟩
      · omega
      · rw [q1, q1']
        rw [q1, q1'] at h5
        simp [labS] at h5
        exact ⟨h5, rfl⟩
      · omega
    · rcases may_kind hm with ⟨hk', _⟩ | ⟨hk', _⟩ | ⟨hk', q1', _⟩
      · omega
      · omega
      · rw [q1, q1'] at h5 ⊢
        exact ⟨rfl, lab_inj (hno hn).2 (hno hm).2 (by simpa using h5)⟩
  exact ⟨e1, k2, hkind, hnl.1, hnl.2, hargs, k3⟩
end Go.Ab.S
end
section
/-
  Classes that stay, and those that must be one.
-/
namespace Go.Ab.S
open Go.Ab
set_option maxHeartbeats 1000000
def firstIx (k : List Nat) : List (List Nat) → Nat
  | [] => 0
  | x :: r => if eqL k x then 0 else firstIx k r + 1
theorem firstIx_spec {k : List Nat} : ∀ {l : List (List Nat)}, k ∈ l → l[firstIx k l]? = some k ∧ ∀ j, j < firstIx k l → l[j]? ≠ some k
  | [], h => by cases h
  | x :: r, h => by
    rw [firstIx]
    by_cases hk : k = x
    · rw [if_pos (eqL_iff.2 hk)]
      exact ⟨by rw [hk]; rfl, fun j hj => by omega⟩
    · rw [if_neg (by rw [eqL_iff]; exact hk)]
      have hr : k ∈ r := by
        rcases List.mem_cons.1 h with h | h
        · exact absurd h hk
        · exact h
      obtain ⟨h1, h2⟩ := firstIx_spec hr
      refine ⟨by simpa using h1, fun j hj => ?_⟩
      cases j with
      | zero => simp; exact fun e => hk e.symm
      | succ j => simpa using h2 j (by omega)
theorem firstIx_le {k : List Nat} {l : List (List Nat)} {i : Nat} (h : l[i]? = some k) : firstIx k l ≤ i := by
  rcases Nat.lt_or_ge i (firstIx k l) with hlt | hge
  · exact absurd h ((firstIx_spec (List.mem_of_getElem? h)).2 i hlt)
  · exact hge
def keysF (ns : List Node) (cl : List Int) : List (List Nat) := (List.range ns.length).map fun i => keyS cl i (ns.getD i dNode)
def refineF (ns : List Node) (cl : List Int) : List Int := (keysF ns cl).map fun k => (firstIx k (keysF ns cl) : Int)
def classesG (ns : List Node) : Nat → List Int → List Int
  | 0, cl => cl
  | m + 1, cl => if eqII (refineF ns cl) cl then refineF ns cl else classesG ns m (refineF ns cl)
def zAM (g : Graph) : List Int := classesG g.nodes (g.nodes.length + 1) (List.replicate g.nodes.length 0)
def mapN (cl : List Int) (n : Node) : Node := { n with args := n.args.map (clAt cl) }
def leastF (g : Graph) : Graph := if zAT g = 0 then trimF ⟨g.nodes.map (mapN (zAM g)), clAt (zAM g) g.root⟩ else ⟨[], 0⟩

theorem keysF_len (ns : List Node) (cl : List Int) : (keysF ns cl).length = ns.length := by simp [keysF]
theorem keysF_get {ns : List Node} {cl : List Int} {i : Nat} (h : i < ns.length) : (keysF ns cl)[i]? = some (keyS cl i (ns.getD i dNode)) := by
  simp [keysF, h]
theorem refineF_len (ns : List Node) (cl : List Int) : (refineF ns cl).length = ns.length := by simp [refineF, keysF_len]
theorem clAt_nat (cl : List Int) (i : Nat) : clAt cl (i : Int) = cl.getD i 0 := rfl
theorem refineF_at {ns : List Node} {cl : List Int} {i : Nat} (h : i < ns.length) : clAt (refineF ns cl) (i : Int) = (firstIx (keyS cl i (ns.getD i dNode)) (keysF ns cl) : Int) := by
  rw [clAt_nat, List.getD, refineF, List.getElem?_map, keysF_get h]; rfl
/-- Each class is told by its least node. -/
structure ClsOK (N : Nat) (cl : List Int) : Prop where
  len : cl.length = N
  le : ∀ i : Nat, i < N → ∃ j : Nat, clAt cl i = j ∧ j ≤ i ∧ clAt cl j = j
theorem clAt_out {cl : List Int} {a : Int} (h : (cl.length : Int) ≤ a) : clAt cl a = 0 := by
  unfold clAt; rw [List.getD, List.getElem?_eq_none (by omega)]; rfl
theorem ClsOK.inR {N : Nat} {cl : List Int} (k : ClsOK N cl) (hN : N < 2 ^ 60) (a : Int) : InR (clAt cl a) := by
  by_cases h : a.toNat < N
  · obtain ⟨j, h1, h2, _⟩ := k.le a.toNat h
    have : clAt cl a = j := h1
    rw [this]; exact ⟨by omega, by omega⟩
  · have : clAt cl a = 0 := by unfold clAt; rw [List.getD, List.getElem?_eq_none (by rw [k.len]; omega)]; rfl
    rw [this]; exact ⟨by decide, by decide⟩
theorem ClsOK.zero (N : Nat) : ClsOK N (List.replicate N 0) := by
  refine ⟨by simp, fun i hi => ⟨0, ?_, by omega, ?_⟩⟩
  · rw [clAt_nat, List.getD, List.getElem?_replicate, if_pos hi]; rfl
  · rw [clAt_nat, List.getD, List.getElem?_replicate]; split <;> rfl
theorem refine_eq {ns : List Node} {cl : List Int} {i j : Nat} (hi : i < ns.length) (hj : j < ns.length) : clAt (refineF ns cl) i = clAt (refineF ns cl) j ↔ keyS cl i (ns.getD i dNode) = keyS cl j (ns.getD j dNode) := by
  rw [refineF_at hi, refineF_at hj]
  have mi := List.mem_of_getElem? (keysF_get (cl := cl) hi)
  have mj := List.mem_of_getElem? (keysF_get (cl := cl) hj)
  constructor
  · intro h
    have h : firstIx (keyS cl i (ns.getD i dNode)) (keysF ns cl) = firstIx (keyS cl j (ns.getD j dNode)) (keysF ns cl) := by omega
    have h1 := (firstIx_spec mi).1
    rw [h, (firstIx_spec mj).1] at h1
    exact (Option.some.inj h1).symm
  · intro h; rw [h]
theorem refine_le {ns : List Node} {cl : List Int} {i : Nat} (hi : i < ns.length) : ∃ j : Nat, clAt (refineF ns cl) i = j ∧ j ≤ i ∧ keyS cl j (ns.getD j dNode) = keyS cl i (ns.getD i dNode) := by
  have mi := List.mem_of_getElem? (keysF_get (cl := cl) hi)
  have hle := firstIx_le (keysF_get (cl := cl) hi)
  refine ⟨_, refineF_at hi, hle, ?_⟩
  have h1 := (firstIx_spec mi).1
  rw [keysF_get (by omega)] at h1
  exact Option.some.inj h1
theorem ClsOK.refine (ns : List Node) (cl : List Int) : ClsOK ns.length (refineF ns cl) := by
  refine ⟨refineF_len _ _, fun i hi => ?_⟩
  obtain ⟨j, h1, h2, h3⟩ := refine_le (cl := cl) hi
  exact ⟨j, h1, h2, by rw [(refine_eq (i := j) (by omega) hi).2 h3]; exact h1⟩

/-! ### They get more -/
theorem countP_lt {α : Type} {p q : α → Bool} : ∀ {l : List α}, (∀ x ∈ l, p x = true → q x = true) → (∃ x ∈ l, p x = false ∧ q x = true) → l.countP p < l.countP q
  | [], _, h => by obtain ⟨x, hx, _⟩ := h; cases hx
  | y :: l, h, hx => by
    have hle : l.countP p ≤ l.countP q := List.countP_mono_left fun x hx => h x (by simp [hx])
    obtain ⟨x, hx, h1, h2⟩ := hx
    rcases List.mem_cons.1 hx with rfl | hx
    · simp only [List.countP_cons, h1, h2]; simp; omega
    · have ih := countP_lt (l := l) (fun x hx => h x (by simp [hx])) ⟨x, hx, h1, h2⟩
      simp only [List.countP_cons]
      have := h y (by simp)
      cases hp : p y <;> cases hq : q y <;> simp <;> first | omega | (rw [this hp] at hq; cases hq)
def fixc (N : Nat) (cl : List Int) : Nat := (List.range N).countP fun i : Nat => clAt cl (i : Int) == (i : Int)
theorem fixc_le (N : Nat) (cl : List Int) : fixc N cl ≤ N := by
  have := List.countP_le_length (p := fun i : Nat => clAt cl i == (i : Int)) (l := List.range N)
  rwa [List.length_range] at this
/-- What is known of the nodes. -/
def NsOK (ns : List Node) : Prop := ns.length < 2 ^ 60 ∧ ∀ n ∈ ns, mayF n ns.length = true
theorem NsOK.at {ns : List Node} (h : NsOK ns) {i : Nat} (hi : i < ns.length) : mayF (ns.getD i dNode) ns.length = true := by
  rw [List.getD, List.getElem?_eq_getElem hi]; exact h.2 _ (List.getElem_mem hi)
theorem key_cl {ns : List Node} (hns : NsOK ns) {cl : List Int} (k : ClsOK ns.length cl) {i j : Nat} (hi : i < ns.length) (hj : j < ns.length) (h : keyS cl i (ns.getD i dNode) = keyS cl j (ns.getD j dNode)) :
    clAt cl i = clAt cl j ∧ ((cfreeF (ns.getD i dNode) = true ∨ cfreeF (ns.getD j dNode) = true) → i = j) ∧ (ns.getD i dNode).kind = (ns.getD j dNode).kind ∧ (ns.getD i dNode).name = (ns.getD j dNode).name ∧ (ns.getD i dNode).labels = (ns.getD j dNode).labels ∧ (ns.getD i dNode).args.map (clAt cl) = (ns.getD j dNode).args.map (clAt cl) ∧ cfreeF (ns.getD i dNode) = cfreeF (ns.getD j dNode) :=
  key_inj (k.inR hns.1) ⟨by omega, by have := hns.1; omega⟩ ⟨by omega, by have := hns.1; omega⟩ (hns.at hi) (hns.at hj) h
theorem refine_more {ns : List Node} (hns : NsOK ns) {cl : List Int} (k : ClsOK ns.length cl) (hne : eqII (refineF ns cl) cl = false) : fixc ns.length cl < fixc ns.length (refineF ns cl) := by
  refine countP_lt (fun i hi hp => ?_) ?_
  · have hi := List.mem_range.1 hi
    have hp : clAt cl i = (i : Int) := by simpa using hp
    obtain ⟨j, h1, h2, h3⟩ := refine_le (cl := cl) hi
    have h4 := (key_cl hns k (by omega) hi h3).1
    obtain ⟨j', h5, h6, _⟩ := k.le j (by omega)
    have : j = i := by omega
    subst this
    simpa using h1
  · apply Classical.byContradiction
    intro hno
    have hall : ∀ i : Nat, i < ns.length → clAt (refineF ns cl) i = clAt cl i := by
      intro i hi
      obtain ⟨j, h1, h2, h3⟩ := refine_le (cl := cl) hi
      have hj : j < ns.length := by omega
      have h4 := (key_cl hns k hj hi h3).1
      obtain ⟨j', q1, q2, q3⟩ := (ClsOK.refine ns cl).le i hi
      have : j' = j := by omega
      subst this
      have hfix : clAt cl j' = (j' : Int) := by
        apply Classical.byContradiction
        intro hc
        exact hno ⟨j', List.mem_range.2 hj, by simpa using hc, by simpa using q3⟩
      omega
    have : refineF ns cl = cl := by
      apply List.ext_getElem?
      intro i
      by_cases hi : i < ns.length
      · have h := hall i hi
        rw [clAt_nat, clAt_nat, List.getD, List.getD, List.getElem?_eq_getElem (by rw [refineF_len]; exact hi), List.getElem?_eq_getElem (by rw [k.len]; exact hi)] at h
        rw [List.getElem?_eq_getElem (by rw [refineF_len]; exact hi), List.getElem?_eq_getElem (by rw [k.len]; exact hi)]
        simpa using h
      · rw [List.getElem?_eq_none (by rw [refineF_len]; omega), List.getElem?_eq_none (by rw [k.len]; omega)]
    rw [eqII_iff.2 this] at hne; cases hne
/-- They are such that nothing changes any more. -/
theorem classesG_ok {ns : List Node} (hns : NsOK ns) : ∀ (m : Nat) (cl : List Int), ClsOK ns.length cl → ns.length - fixc ns.length cl < m → refineF ns (classesG ns m cl) = classesG ns m cl ∧ ClsOK ns.length (classesG ns m cl)
  | 0, _, _, h => by omega
  | m + 1, cl, k, h => by
    rw [classesG]
    cases he : eqII (refineF ns cl) cl with
    | true =>
      have := eqII_iff.1 he
      simp only [if_true]
      exact ⟨by rw [this]; exact this, ClsOK.refine ns cl⟩
    | false =>
      simp only [Bool.false_eq_true, if_false]
      have h1 := refine_more hns k he
      have h2 := fixc_le ns.length (refineF ns cl)
      exact classesG_ok hns m _ (ClsOK.refine ns cl) (by omega)
/-- What must be one. -/
def Bis (ns : List Node) (E : Nat → Nat → Prop) : Prop := ∀ i j, E i j → i < ns.length ∧ j < ns.length ∧ (i = j ∨ (cfreeF (ns.getD i dNode) = false ∧ cfreeF (ns.getD j dNode) = false ∧ (ns.getD i dNode).kind = (ns.getD j dNode).kind ∧ (ns.getD i dNode).name = (ns.getD j dNode).name ∧ (ns.getD i dNode).labels = (ns.getD j dNode).labels ∧ (ns.getD i dNode).args.length = (ns.getD j dNode).args.length ∧
  ∀ (k : Nat) (a b : Int), (ns.getD i dNode).args[k]? = some a → (ns.getD j dNode).args[k]? = some b → E a.toNat b.toNat))
theorem bis_key {ns : List Node} {E : Nat → Nat → Prop} (hE : Bis ns E) {cl : List Int} (hc : ∀ i j, E i j → clAt cl i = clAt cl j) {i j : Nat} (h : E i j) : keyS cl i (ns.getD i dNode) = keyS cl j (ns.getD j dNode) := by
  obtain ⟨hi, hj, rfl | ⟨h1, h2, h3, h4, h5, h6, h7⟩⟩ := hE i j h
  · rfl
  · have ha : (ns.getD i dNode).args.map (clAt cl) = (ns.getD j dNode).args.map (clAt cl) := by
      apply List.ext_getElem?
      intro k
      rw [List.getElem?_map, List.getElem?_map]
      by_cases hk : k < (ns.getD i dNode).args.length
      · have hk' : k < (ns.getD j dNode).args.length := by omega
        rw [List.getElem?_eq_getElem hk, List.getElem?_eq_getElem hk']
        exact congrArg some (hc _ _ (h7 k _ _ (List.getElem?_eq_getElem hk) (List.getElem?_eq_getElem hk')))
      · rw [List.getElem?_eq_none (by omega), List.getElem?_eq_none (by omega)]
    have hargs : argS (clAt cl) (ns.getD i dNode).args = argS (clAt cl) (ns.getD j dNode).args := by
      have : ∀ l : List Int, argS (clAt cl) l = ((l.map (clAt cl)).map fun x => 44 :: itoaN x).flatten := fun l => by simp [argS, List.map_map]; rfl
      rw [this, this, ha]
    unfold keyS
    rw [hc i j h, h1, h2]
    simp only [lookS, headS, h3, h4, h5, hargs, Bool.false_eq_true, if_false]
theorem classesG_bis {ns : List Node} {E : Nat → Nat → Prop} (hE : Bis ns E) : ∀ (m : Nat) (cl : List Int), (∀ i j, E i j → clAt cl i = clAt cl j) → ∀ i j, E i j → clAt (classesG ns m cl) i = clAt (classesG ns m cl) j
  | 0, _, h => h
  | m + 1, cl, h => by
    have hr : ∀ i j, E i j → clAt (refineF ns cl) i = clAt (refineF ns cl) j := fun i j hij => (refine_eq (hE i j hij).1 (hE i j hij).2.1).2 (bis_key hE h hij)
    rw [classesG]
    split
    · exact hr
    · exact classesG_bis hE m _ hr
theorem check_ns {g : Graph} (h : zAT g = 0) : NsOK g.nodes := by
  obtain ⟨_, _, h1, h2⟩ := check_root h
  exact ⟨Nat.lt_of_le_of_lt h1 (by decide), h2⟩
theorem classes_ok {g : Graph} (h : zAT g = 0) : refineF g.nodes (zAM g) = zAM g ∧ ClsOK g.nodes.length (zAM g) :=
  classesG_ok (check_ns h) _ _ (ClsOK.zero _) (by omega)
/-- **What is one is alike; free nodes stand alone.** -/
theorem classes_alike {g : Graph} (h : zAT g = 0) {i j : Nat} (hi : i < g.nodes.length) (hj : j < g.nodes.length) (he : clAt (zAM g) i = clAt (zAM g) j) :
    ((cfreeF (g.nodes.getD i dNode) = true ∨ cfreeF (g.nodes.getD j dNode) = true) → i = j) ∧ (g.nodes.getD i dNode).kind = (g.nodes.getD j dNode).kind ∧ (g.nodes.getD i dNode).name = (g.nodes.getD j dNode).name ∧ (g.nodes.getD i dNode).labels = (g.nodes.getD j dNode).labels ∧ (g.nodes.getD i dNode).args.map (clAt (zAM g)) = (g.nodes.getD j dNode).args.map (clAt (zAM g)) ∧ cfreeF (g.nodes.getD i dNode) = cfreeF (g.nodes.getD j dNode) := by
  obtain ⟨h1, h2⟩ := classes_ok h
  rw [← h1] at he
  exact (key_cl (check_ns h) h2 hi hj ((refine_eq hi hj).1 he)).2
/-- **What may be one is one.** -/
theorem classes_most {g : Graph} {E : Nat → Nat → Prop} (hE : Bis g.nodes E) {i j : Nat} (h : E i j) : clAt (zAM g) i = clAt (zAM g) j :=
  classesG_bis hE _ _ (fun i j hij => by
    obtain ⟨i', h1, h2, h3⟩ := (ClsOK.zero g.nodes.length).le i (hE i j hij).1
    have z : ∀ k : Nat, clAt (List.replicate g.nodes.length 0) k = 0 := fun k => by
      rw [clAt_nat, List.getD, List.getElem?_replicate]; split <;> rfl
    rw [z, z]) _ _ h
end Go.Ab.S
end
