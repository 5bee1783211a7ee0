import Derived.Test.YtapnoohglfhgeaaGreatDoorP11
/-
  Part 12 of the proof.
-/
set_option linter.all false
section
/-
  What is reached: the law of it, and small rules.
-/
namespace Go.Ab.S
open Go.Ab
set_option maxHeartbeats 4000000
section
variable {fns : FuncId → Option AFunc} {summ : FuncId → List AVal → AHeap → Option (D (AVal × AHeap))} {ro : Option Nat}
theorem rep_one (z : AVal) : ∀ n, rep [z] n = List.replicate n z
  | 0 => rfl
  | n + 1 => by simp only [rep, rep_one z n, List.replicate_succ]; rfl
theorem st_mkslice {d : Option Tmp} {e : TypeId} {bytes n : Nat} {z : AVal} {x y : AOpd} {l : List Step} {a : AAct} {h : AHeap} {K : AAct → AHeap → Prop} (hx : ev a x = some (.int .i64 (Int.ofNat n))) (hy : ev a y = some (.int .i64 (Int.ofNat n))) (hn : n ≤ 2 ^ 30) (hr : roomA bytes n = true) (w : WF h)
    (k : ∀ b h', h.next ≤ b → Grow h h' → h'.objs.get b = some (b, .cells false e (List.replicate n z)) → St fns summ ro l (putA a d (.slice (some (b, 0)) n)) h' K) : St fns summ ro (⟨d, none, .e (.mkslice e 1 bytes [z] x y)⟩ :: l) a h K := by
  refine st_t (by intro _ _ hh; cases hh) (by intro _ _ hh; cases hh) (v := .slice (some (h.next, 0)) n) (h' := newA h (.cells false e (List.replicate n z))) ?_ (k _ _ (Nat.le_refl _) ((Grow.refl w).new _) (zAQ _ _))
  have h1 : asNat (.int .i64 (Int.ofNat n)) = some n := by simp [asNat]
  have h30 : (2 : Nat) ^ 30 ≤ 2 ^ 40 := by decide
  have hc : n ≤ n ∧ n ≤ 2 ^ 40 ∧ roomA bytes n = true := ⟨Nat.le_refl _, Nat.le_trans hn h30, hr⟩
  simp only [turnA, hx, hy, h1, if_pos hc, rep_one]
theorem st_bslice1 {d : Option Tmp} {e : TypeId} {sz : Nat} {z cs : List AVal} {x : AOpd} {v : AVal} {l : List Step} {a : AAct} {h : AHeap} {K : AAct → AHeap → Prop} (hx : ev a x = some v) (hcs : cellsA v = cs) (hl : cs.length = sz) (hz : z.length = sz) (w : WF h)
    (k : ∀ b h', h.next ≤ b → Grow h h' → h'.objs.get b = some (b, .cells false e cs) → St fns summ ro l (putA a d (.slice (some (b, 0)) 1)) h' K) : St fns summ ro (⟨d, none, .e (.bslice e sz 1 z [(0, x)])⟩ :: l) a h K := by
  refine st_t (by intro _ _ hh; cases hh) (by intro _ _ hh; cases hh) (v := .slice (some (h.next, 0)) 1) (h' := newA h (.cells false e cs)) ?_ (k _ _ (Nat.le_refl _) ((Grow.refl w).new _) (zAQ _ _))
  have hr : rep z 1 = z := by simp [rep]
  have hcc : cs.length = sz ∧ 0 * sz + sz ≤ z.length := ⟨hl, by omega⟩
  have hd : z.drop (0 * sz + sz) = [] := List.drop_eq_nil_of_le (by omega)
  simp only [turnA, hr, rowA, hx, hcs, if_pos hcc, hd]
  simp
/-- One element is put behind. -/
theorem st_append1 {d : Option Tmp} {e : TypeId} {sz base bytes n b ver : Nat} {cells new : List AVal} {rb : Bool} {eb : TypeId} {v : AVal} {x y : AOpd} {l : List Step} {a : AAct} {h : AHeap} {K : AAct → AHeap → Prop} (hs : ev a x = some v) (hx : ev a y = some (.slice (some (b, 0)) 1)) (B : Built h base e sz v n cells)
    (hb : h.objs.get b = some (ver, .cells rb eb new)) (hnl : new.length = sz) (ho : new.all one = true) (hr : roomA bytes (n + 1) = true) (w : WF h) (hbase : base ≤ h.next)
    (k : ∀ v' h', Built h' base e sz v' (n + 1) (cells ++ new) → (∀ c j, v' = .slice (some (c, 0)) j → h.next ≤ c) → WF h' → h.next ≤ h'.next → (∀ h0, WF h0 → Grow h0 h → h0.next ≤ base → Grow h0 h') → (∀ c p, h.objs.get c = some p → (∀ n, v ≠ .slice (some (c, 0)) n) → h'.objs.get c = some p) → St fns summ ro l (putA a d v') h' K) :
    St fns summ ro (⟨d, none, .e (.append e sz bytes x y)⟩ :: l) a h K :=
  st_append hs hx B (m := 1) rfl (by decide) (by simp only [cellsOfA, hb, Nat.one_mul, Nat.zero_add]; rw [if_pos (by omega), List.drop_zero, List.take_of_length_le (by omega)]) ho hr (by omega) w hbase k
end

/-! ### What is reached -/
def argsN (ns : List Node) (i : Int) : List Int := match ns[i.toNat]? with | some n => n.args | none => []
/-- Gone through, what waits being on the left. -/
def reachG (ns : List Node) : Nat → List Int → List Int → List Int
  | 0, _, out => out
  | _ + 1, [], out => out
  | m + 1, a :: st, out => if out.contains a then reachG ns m st out else reachG ns m (argsN ns a ++ st) (out ++ [a])
def leftG (out : List Int) : List Node → Nat → Nat
  | [], _ => 0
  | n :: r, i => (if out.contains (i : Int) then 0 else n.args.length) + leftG out r (i + 1)
def zAU (g : Graph) : List Int := if zAT g = 0 then reachG g.nodes (1 + leftG [] g.nodes 0) [g.root] [] else []
theorem leftG_put (out : List Int) (a : Nat) : ∀ (ns : List Node) (i : Nat), (a < i → leftG (out ++ [(a : Int)]) ns i = leftG out ns i) ∧ (i ≤ a → out.contains (a : Int) = false → ∀ n, ns[a - i]? = some n → leftG (out ++ [(a : Int)]) ns i + n.args.length = leftG out ns i)
  | [], i => ⟨fun _ => rfl, fun _ _ n h => by simp at h⟩
  | n :: r, i => by
    have ih := leftG_put out a r (i + 1)
    have hc : ∀ j : Nat, j ≠ a → (out ++ [(a : Int)]).contains (j : Int) = out.contains (j : Int) := fun j hj => by
      have : ¬ (j : Int) = (a : Int) := by omega
      simp [this]
    refine ⟨fun h => ?_, fun h ho m hm => ?_⟩
    · simp only [leftG, hc i (by omega), ih.1 (by omega)]
    · by_cases hi : i = a
      · subst hi
        simp only [Nat.sub_self, List.getElem?_cons_zero, Option.some.injEq] at hm
        subst hm
        have h1 : (out ++ [(i : Int)]).contains (i : Int) = true := by simp
        simp only [leftG, h1, ho, if_true, Bool.false_eq_true, if_false, ih.1 (by omega)]
        omega
      · have h2 : r[a - (i + 1)]? = some m := by
          rw [show a - i = (a - (i + 1)) + 1 by omega, List.getElem?_cons_succ] at hm
          exact hm
        have := ih.2 (by omega) ho m h2
        simp only [leftG, hc i hi]
        omega
theorem leftG_le (out : List Int) : ∀ (ns : List Node) (i : Nat), leftG out ns i ≤ leftG [] ns i
  | [], _ => Nat.le_refl _
  | n :: r, i => by
    have := leftG_le out r (i + 1)
    simp only [leftG]
    split <;> simp <;> omega
def metC (n : Nat) (out : List Int) : List AVal := (List.range n).map fun (i : Nat) => AVal.bool (out.contains (i : Int))
theorem metC_get {n : Nat} {out : List Int} {i : Nat} (h : i < n) : (metC n out)[i]? = some (.bool (out.contains (i : Int))) := by
  simp [metC, h]
theorem metC_nil (n : Nat) : List.replicate n (AVal.bool false) = metC n [] := by
  apply List.ext_getElem?
  intro i
  by_cases h : i < n
  · rw [metC_get h]; simp [h]
  · simp [metC, h]
theorem metC_put {n : Nat} {out : List Int} {a : Nat} (h : a < n) : (metC n out).take a ++ [AVal.bool true] ++ (metC n out).drop (a + 1) = metC n (out ++ [(a : Int)]) := by
  apply List.ext_getElem?
  intro i
  by_cases hi : i < n
  · rw [metC_get hi]
    rcases Nat.lt_trichotomy i a with h1 | h1 | h1
    · have : ¬ (i : Int) = (a : Int) := by omega
      rw [List.append_assoc, List.getElem?_append_left (by simp [metC]; omega), List.getElem?_take, if_pos h1, metC_get hi]
      simp [this]
    · subst h1
      rw [List.append_assoc, List.getElem?_append_right (by simp [metC]; omega)]
      simp [metC, Nat.min_eq_left (Nat.le_of_lt h)]
    · have : ¬ (i : Int) = (a : Int) := by omega
      rw [List.getElem?_append_right (by simp [metC]; omega)]
      have hl : ((metC n out).take a ++ [AVal.bool true]).length = a + 1 := by simp [metC]; omega
      rw [hl, List.getElem?_drop, show a + 1 + (i - (a + 1)) = i by omega, metC_get hi]
      simp [this]
  · have h1 : ((metC n out).take a ++ [AVal.bool true] ++ (metC n out).drop (a + 1)).length = n := by simp [metC]; omega
    rw [List.getElem?_eq_none (by omega), List.getElem?_eq_none (by simp [metC]; omega)]
end Go.Ab.S
end
section
/-
  What is reached.
-/
namespace Go.Ab.S
open Go.Ab
set_option maxHeartbeats 8000000
theorem check_root {g : Graph} (h : zAT g = 0) : 0 ≤ g.root ∧ g.root < g.nodes.length ∧ g.nodes.length ≤ 1048576 ∧ ∀ n ∈ g.nodes, mayF n g.nodes.length = true := by
  unfold zAT at h
  by_cases h1 : (Int.ofNat g.nodes.length : Int) > 1048576
  · rw [if_pos h1] at h; cases h
  rw [if_neg h1] at h
  by_cases h2 : g.root < 0
  · rw [if_pos h2] at h; cases h
  rw [if_neg h2] at h
  by_cases h3 : g.root ≥ Int.ofNat g.nodes.length
  · rw [if_pos h3] at h; cases h
  rw [if_neg h3] at h
  by_cases h4 : g.nodes.any (fun n => !mayF n g.nodes.length) = true
  · rw [if_pos h4] at h; cases h
  simp only [Int.ofNat_eq_natCast] at h1 h3
  refine ⟨by omega, by omega, by omega, fun n hn => ?_⟩
  have h5 : ¬ ∃ x, x ∈ g.nodes ∧ (!mayF x g.nodes.length) = true := by simpa using h4
  cases hm : mayF n g.nodes.length
  · exact absurd ⟨n, hn, by rw [hm]; rfl⟩ h5
  · rfl
theorem may_args {n : Node} {size : Int} (h : mayF n size = true) : ∀ a ∈ n.args, 0 ≤ a ∧ a < size := by
  intro a ha
  unfold mayF at h
  by_cases h1 : n.args.any (fun a => decide (a < 0) || decide (a ≥ size)) = true
  · rw [if_pos h1] at h; cases h
  have h2 : ¬ ∃ x, x ∈ n.args ∧ (x < 0 ∨ size ≤ x) := by simpa using h1
  rcases Int.lt_or_le a 0 with h3 | h3
  · exact absurd ⟨a, ha, .inl h3⟩ h2
  rcases Int.lt_or_le a size with h4 | h4
  · exact ⟨h3, h4⟩
  · exact absurd ⟨a, ha, .inr h4⟩ h2
/-- All that waits and that is to be gone through is a node's number. -/
def Ok (N : Nat) (l : List Int) : Prop := ∀ a ∈ l, 0 ≤ a ∧ a < (N : Int)
/-- So many numbers at the most. -/
structure GSm (g : Graph) : Prop extends GraphSm g where
  total : g.nodes.length + leftG [] g.nodes 0 ≤ 2 ^ 30
  labs : ∀ n ∈ g.nodes, n.labels.length ≤ 2 ^ 30
theorem built_ints {h : AHeap} {base : Nat} {e : TypeId} {v : AVal} {l : List Int} (B : Built h base e 1 v l.length (l.map (AVal.int .i64))) : IntsAt h v l :=
  B.sl (by decide) (xs := l.map intC) (by
    have : (l.map intC).flatten = l.map (AVal.int .i64) := by
      clear B
      induction l with
      | nil => rfl
      | cons a r ih => simp only [List.map_cons, List.flatten_cons, ih]; rfl
    rw [this]) (by intro c hc; obtain ⟨a, _, rfl⟩ := List.mem_map.1 hc; rfl) (by simp)
/-- Where no row of that sort lies, none is being built. -/
theorem built_ne {h : AHeap} {base : Nat} {e : TypeId} {sz n : Nat} {v : AVal} {cells : List AVal} (B : Built h base e sz v n cells) {c : Nat} {p : Nat × AObj} (hc : h.objs.get c = some p) (hp : ∀ vs, p.2 ≠ .cells false e vs) : ∀ k, v ≠ .slice (some (c, 0)) k := by
  rintro k rfl
  rcases B with ⟨h1, _⟩ | ⟨h1, _⟩ | ⟨b, vs, ver, _, h1, h2, _⟩
  · cases h1
  · cases h1
  · simp only [AVal.slice.injEq, Option.some.injEq, Prod.mk.injEq] at h1
    obtain ⟨⟨rfl, _⟩, _⟩ := h1
    rw [h2] at hc
    simp only [Option.some.injEq] at hc
    exact hp vs (by rw [← hc])
theorem built_stay {h h' : AHeap} {base : Nat} {e : TypeId} {sz n : Nat} {v : AVal} {cells : List AVal} (B : Built h base e sz v n cells) (hk : ∀ c p, h.objs.get c = some p → (∃ vs, p.2 = .cells false e vs) → (∃ k, v = .slice (some (c, 0)) k) → h'.objs.get c = some p) : Built h' base e sz v n cells := by
  rcases B with B | B | ⟨b, vs, ver, h0, h1, h2, h3⟩
  · exact .inl B
  · exact .inr (.inl B)
  · exact .inr (.inr ⟨b, vs, ver, h0, h1, hk _ _ h2 ⟨vs, rfl⟩ ⟨n, h1⟩, h3⟩)
theorem built_but {h h' : AHeap} {base : Nat} {e : TypeId} {sz n c : Nat} {v : AVal} {cells : List AVal} {p : Nat × AObj} (B : Built h base e sz v n cells) (hb : But c h h') (hc : h.objs.get c = some p) (hp : ∀ vs, p.2 ≠ .cells false e vs) : Built h' base e sz v n cells :=
  built_stay B fun c' p' h1 ⟨vs, h2⟩ _ => hb.keep c' (by rintro rfl; rw [hc] at h1; simp only [Option.some.injEq] at h1; exact hp vs (h1 ▸ h2)) _ h1

/-- What is known all the while of what goes through a graph. -/
structure RInv (h0 : AHeap) (b1 bm b4 N : Nat) (nv : AVal) (root : Int) (vo : AVal) (ds : List Nat) (st outM out : List Int) (hp : AHeap) : Prop where
  grow : Grow h0 hp
  o1 : ∃ ver, hp.objs.get b1 = some (ver, .cells false 24 [nv, .int .i64 root])
  om : ∃ ver, hp.objs.get bm = some (ver, .cells false 4 (metC N outM))
  o4 : ∃ ver vw, hp.objs.get b4 = some (ver, .cells false 58 [vw]) ∧ Built hp h0.next 3 1 vw st.length (st.reverse.map (AVal.int .i64)) ∧ ∀ c n k, vw = .slice (some (c, 0)) n → vo ≠ .slice (some (c, 0)) k
  oo : Built hp h0.next 3 1 vo out.length (out.map (AVal.int .i64))
  ds : ds.Nodup ∧ ∀ r ∈ ds, h0.next ≤ r ∧ ∃ ver, hp.objs.get r = some (ver, .dfr false)
  low : h0.next ≤ bm ∧ h0.next ≤ b4 ∧ b4 < hp.next ∧ bm < hp.next
/-- It is kept where only other blocks are turned. -/
theorem RInv.other {h0 : AHeap} {b1 bm b4 N : Nat} {nv : AVal} {root : Int} {vo : AVal} {ds : List Nat} {st outM out : List Int} {hp hq : AHeap} (I : RInv h0 b1 bm b4 N nv root vo ds st outM out hp) (g : Grow hp hq) : RInv h0 b1 bm b4 N nv root vo ds st outM out hq := by
  obtain ⟨v1, k1⟩ := I.o1
  obtain ⟨vm, km⟩ := I.om
  obtain ⟨v4, vw, k4, kB, kn⟩ := I.o4
  exact ⟨I.grow.trans g, ⟨v1, g.keep _ _ k1⟩, ⟨vm, g.keep _ _ km⟩, ⟨v4, vw, g.keep _ _ k4, kB.grow g, kn⟩, I.oo.grow g, ⟨I.ds.1, fun r hr => by
    obtain ⟨a, ver, b⟩ := I.ds.2 r hr
    exact ⟨a, ver, g.keep _ _ b⟩⟩, ⟨I.low.1, I.low.2.1, Nat.lt_of_lt_of_le I.low.2.2.1 g.next, Nat.lt_of_lt_of_le I.low.2.2.2 g.next⟩⟩
theorem cells_of_len {v : AVal} {n : Nat} (h : lenO v = some n) : cellsA v = [v] := by
  cases v <;> first | rfl | cases h
theorem RInv_but {h0 : AHeap} {b1 bm b4 N c : Nat} {nv : AVal} {root : Int} {vo : AVal} {ds : List Nat} {st outM out : List Int} {hp hq : AHeap} {p : Nat × AObj} (I : RInv h0 b1 bm b4 N nv root vo ds st outM out hp) (w0 : WF h0) (b : But c hp hq) (hc : hp.objs.get c = some p) (h1 : ∀ r e vs, p.2 ≠ .cells r e vs) (h2 : ∀ s, p.2 ≠ .dfr s) (hb : h0.next ≤ c) : RInv h0 b1 bm b4 N nv root vo ds st outM out hq := by
  obtain ⟨vr1, k1⟩ := I.o1
  obtain ⟨vrm, km⟩ := I.om
  obtain ⟨vr4, vw, k4, kB, kn⟩ := I.o4
  have ne : ∀ {d q}, hp.objs.get d = some q → (∃ r e vs, q.2 = .cells r e vs) → d ≠ c := by
    rintro d q hd ⟨r, e, vs, hh⟩ rfl
    rw [hc] at hd
    simp only [Option.some.injEq] at hd
    exact h1 r e vs (hd ▸ hh)
  refine ⟨b.grow h0 w0 I.grow hb, ⟨_, b.keep _ (ne k1 ⟨_, _, _, rfl⟩) _ k1⟩, ⟨_, b.keep _ (ne km ⟨_, _, _, rfl⟩) _ km⟩, ⟨_, _, b.keep _ (ne k4 ⟨_, _, _, rfl⟩) _ k4, built_but kB b hc (fun vs hh => h1 _ _ _ hh), kn⟩, built_but I.oo b hc (fun vs hh => h1 _ _ _ hh), ⟨I.ds.1, fun r hr => ?_⟩, I.low.1, I.low.2.1, Nat.lt_of_lt_of_le I.low.2.2.1 b.next, Nat.lt_of_lt_of_le I.low.2.2.2 b.next⟩
  obtain ⟨q1, ver, q2⟩ := I.ds.2 r hr
  exact ⟨q1, ver, b.keep r (by rintro rfl; rw [hc] at q2; simp only [Option.some.injEq] at q2; exact h2 false (by rw [q2])) _ q2⟩
section
variable {fns : FuncId → Option AFunc} {summ : FuncId → List AVal → AHeap → Option (D (AVal × AHeap))}
theorem st_sliceHi {ro : Option Nat} {d : Option Tmp} {e : TypeId} {sz b o n m : Nat} {kd : IntKind} {x y : AOpd} {l : List Step} {a : AAct} {h : AHeap} {K : AAct → AHeap → Prop} (hx : ev a x = some (.slice (some (b, o)) n)) (hy : ev a y = some (.int kd (m : Nat))) (hm : m ≤ n) (k : St fns summ ro l (putA a d (.slice (some (b, o)) m)) h K) :
    St fns summ ro (⟨d, none, .q (.slice e sz x none (some y))⟩ :: l) a h K := by
  refine st_q (v := .slice (some (b, o)) m) (b := none) ?_ k
  simp only [qA_slice, hx, boundA, hy, Int.toNat_natCast]
  rw [if_pos (show (0 : Int) ≤ (m : Nat) ∧ m ≤ n from ⟨by omega, hm⟩)]
theorem cd_gen {ro : Option Nat} {c : ACode} {a : AAct} {h : AHeap} {Q : AExit → AAct → AHeap → Prop} (I : AAct → Prop) (ha : I a) (k : ∀ a, I a → Cd fns summ ro c a h Q) : Cd fns summ ro c a h Q := k a ha
/-- A mark of a range over a function, and its loop. -/
theorem fin_normalD {rs : List ARes} {K : AVal → AHeap → Prop} {a : AAct} {h : AHeap} {ds : List ADef} (hd : a.defers = ds) (k : Lv fns summ ds h fun h => ∃ v, resultsA a h rs = some v ∧ K v h) : fin fns summ rs K .normal a h := by
  show Lv fns summ a.defers h _
  rw [hd]; exact k
theorem fin_retD {rs : List ARes} {K : AVal → AHeap → Prop} {a : AAct} {h : AHeap} {ds : List ADef} (hd : a.defers = ds) (k : Lv fns summ ds h fun h => ∃ v, resultsA a h rs = some v ∧ K v h) : fin fns summ rs K .ret a h := by
  show Lv fns summ a.defers h _
  rw [hd]; exact k
theorem nD {a : AAct} {ds : List ADef} (hv : a.defers = ds := by first | (simp only [zAV, *]; done) | (simp only [zAV]; assumption)) : a.defers = ds := hv
end
section
variable {fns : FuncId → Option AFunc} {summ : FuncId → List AVal → AHeap → Option (D (AVal × AHeap))}
variable (H : Has fns summ)
include H
theorem Reach_ok (g : Graph) (hg : GSm g) (v : AVal) (h : AHeap) (hw : WF h) (hv : GraphAt h v g) : Cl fns summ 79 [v] h fun r h' => Built h' h.next 3 1 r (zAU g).length ((zAU g).map (AVal.int .i64)) ∧ Grow h h' := by
  obtain ⟨nv, rfl, hN⟩ := hv
  have hlen := hN.len
  refine H.go (fn := F_Reach) rfl (by decide) rfl rfl ?_
  unfold F_Reach
  dsimp only [qQ, qE, qN, gQ, gE, vi]
  refine zAC (zAD ?_)
  refine st_box (by exact e1) (by exact cc) hw ?_
  rintro b1 h1 hb1 g1 o1
  have hpart : partA (some 2) [nv, .int .i64 g.root] 0 = some (.agg [nv, .int .i64 g.root]) := rfl
  repeat with_reducible first | refine zAA ?_ | refine zAB ?_ | refine zAC ?_ | refine zAD ?_ | (apply st_q; exact q1)
  refine zAS (by exact s1) ((Check_ok H g hg.toGraphSm _ h1 g1.wf ⟨nv, rfl, hN.mono g1⟩).mono ?_)
  rintro _ h2 ⟨rfl, g2⟩
  replace o1 := g2.keep _ _ o1
  have g02 := g1.trans g2
  cases hck : (zAT g != 0)
  · obtain ⟨ra, rb, rN, rm⟩ := check_root (show zAT g = 0 by simpa using hck)
    have hroom : ∀ k, k ≤ 2 ^ 30 + 1 → roomA 8 k = true := fun k hk => by
      have e30 : (2 : Nat) ^ 30 = 1073741824 := by decide
      have e46 : (2 : Nat) ^ 46 = 70368744177664 := by decide
      simp only [roomA, Bool.and_eq_true]
      exact ⟨rfl, Nat.ble_eq.mpr (by omega)⟩
    have hroom1 : roomA 1 g.nodes.length = true := by
      have e46 : (2 : Nat) ^ 46 = 70368744177664 := by decide
      simp only [roomA, Bool.and_eq_true]
      exact ⟨rfl, Nat.ble_eq.mpr (by omega)⟩
    have h30 : (1048576 : Nat) ≤ 2 ^ 30 := by decide
    repeat with_reducible first | refine zAA ?_ | refine zAB ?_ | refine zAC ?_ | refine zAD ?_ | refine zAL ?_ | (apply st_q; exact q1) | (apply zAI; exact e1)
    refine st_mkslice (by exact e1) (by exact e1) (by omega) hroom1 g2.wf ?_
    rintro bm h3 hbm g3 om
    have l1 := g2.wf.lt o1
    replace o1 := g3.keep _ _ o1
    rw [metC_nil] at om
    repeat with_reducible first | refine zAA ?_ | refine zAB ?_ | refine zAC ?_ | refine zAD ?_ | (apply st_q; exact q1)
    refine st_bslice1 (by exact e1) (by exact cc) rfl rfl g3.wf ?_
    rintro bs h4 hbs g4 os
    have lm := g3.wf.lt om
    refine st_alloc g4.wf ?_
    rintro b4 h5 hb4 g5 o4
    have ls := g4.wf.lt os
    refine zAP (by exact e1) (by exact e1) (by exact cc) rfl g5.wf o4 (by simp) rfl ?_
    rintro v4 h6 p6 o4'
    simp only [List.take_zero, List.nil_append, List.length_cons, List.length_nil, List.drop_succ_cons, List.drop_zero, List.append_nil, Nat.zero_add, Nat.reduceAdd, List.drop_nil, List.cons_append] at o4'
    have gA : Grow h4 h6 := p6.grow h4 g4.wf g5 hb4
    have g06 : Grow h h6 := ((g02.trans g3).trans g4).trans gA
    have hI : RInv h b1 bm b4 g.nodes.length nv g.root (.slice none 0) [] [g.root] [] [] h6 := by
      have n2 := g02.next
      have n3 := g3.next
      have n4 := g4.next
      have n6 := gA.next
      refine ⟨g06, ⟨_, gA.keep _ _ (g4.keep _ _ o1)⟩, ⟨_, gA.keep _ _ (g4.keep _ _ om)⟩, ⟨_, _, o4', .inr (.inr ⟨bs, _, _, by omega, rfl, gA.keep _ _ os, by simp, rfl⟩), fun c n k _ hh => by cases hh⟩, .inl ⟨rfl, rfl, rfl⟩, ⟨List.nodup_nil, fun r hr => by cases hr⟩, by omega, by omega, g06.wf.lt o4', by omega⟩
    clear om os o4 o4' gA g3 g4 g5 p6 lm ls l1 hbm hbs hb4 o1 g2 g02 g1 hb1
    repeat with_reducible first | refine zAA ?_ | refine zAB ?_ | refine zAC ?_ | refine zAD ?_ | (apply st_q; exact q1)
    refine cd_block ?_
    refine cd_loop (fun m a hp => ∃ st out vo ds, m = st.length + leftG out g.nodes 0 ∧ out.length + m ≤ 1 + leftG [] g.nodes 0 ∧ reachG g.nodes (1 + leftG [] g.nodes 0) [g.root] [] = reachG g.nodes m st out ∧ Ok g.nodes.length st ∧ RInv h b1 bm b4 g.nodes.length nv g.root vo ds st out out hp ∧ a.defers = ds.map ADef.collected ∧
      ev a (.tmp 1) = some (.ptr (some (b1, 0))) ∧ ev a (.tmp 3) = some (.slice (some (bm, 0)) g.nodes.length) ∧ ev a (.tmp 4) = some (.ptr (some (b4, 0))) ∧ ev a (.tmp 5) = some vo) ?_ (n := 1 + leftG [] g.nodes 0)
      ⟨[g.root], [], _, [], by simp, by simp, rfl, by intro a ha; simp at ha; subst ha; exact ⟨ra, rb⟩, hI, by exact n1, by exact e1, by exact e1, by exact e1, by exact e1⟩
    clear hI g06
    rintro m a hp ⟨st, out, vo, ds, hm, hmo, hre, hok, I, hd, h1', h3', h4', h5'⟩
    obtain ⟨ver4, vw, k4, kB, kn⟩ := I.o4
    have hlw := kB.len
    cases st with
    | nil =>
      have hz : decide (Int.ofNat 0 > 0) = false := rfl
      have hout : out = zAU g := by
        have : zAU g = reachG g.nodes (1 + leftG [] g.nodes 0) [g.root] [] := if_pos (show zAT g = 0 by simpa using hck)
        rw [this, hre]
        cases m <;> rfl
      repeat with_reducible first | refine zAA ?_ | refine nxt_exit ?_ | refine blk_same ?_ | refine zAB ?_ | refine zAC ?_ | refine zAD ?_ | refine cd_exit ?_ | refine zAG ?_ | (apply st_q; exact q1) | (apply zAI; exact e1)
      refine fin_retD (ds := ds.map ADef.collected) (by exact nD) (lv_all (base := h.next) ds I.grow.wf I.ds.1 I.ds.2 fun h' w' hl hs hg' => ⟨vo, by exact r1, ?_, hg' h hw I.grow (Nat.le_refl _)⟩)
      rw [← hout]
      refine built_stay I.oo fun c p hc hp _ => ?_
      rw [hs c (fun hcd => ?_)]
      · exact hc
      · obtain ⟨_, ver, hd⟩ := I.ds.2 c hcd
        obtain ⟨vs, hp⟩ := hp
        rw [hd] at hc
        simp only [Option.some.injEq] at hc
        rw [← hc] at hp
        cases hp
    | cons x st =>
      obtain ⟨x0, x1⟩ := hok x (by simp)
      obtain ⟨k, rfl⟩ : ∃ k : Nat, x = (k : Int) := ⟨x.toNat, by omega⟩
      have hkN : k < g.nodes.length := by omega
      have hok' : Ok g.nodes.length st := fun b hb => hok b (by simp [hb])
      have ht := hg.total
      have e30 : (2 : Nat) ^ 30 = 1073741824 := by decide
      simp only [List.length_cons] at hlw hm kB
      have hz : decide (Int.ofNat (st.length + 1) > 0) = true := by simp
      -- the top of what waits
      rcases kB with ⟨_, hh, _⟩ | ⟨_, hh, _⟩ | ⟨bw, vsw, verw, hbw, rfl, hgw, hlenw, htw⟩
      · cases hh
      · cases hh
      rw [Nat.mul_one] at hlenw htw
      have hw1 : IntKind.i64.wrap (Int.ofNat (st.length + 1) - 1) = (st.length : Int) := by
        simp only [Int.ofNat_eq_natCast]
        rw [wrap_small (by omega) (by omega)]; omega
      have hix : slA (.slice (some (bw, 0)) (st.length + 1)) 1 st.length = some (bw, st.length) := by simp [slA]
      have hvo : vsw[st.length]? = some (.int .i64 (k : Nat)) := by
        have := congrArg (fun l => l[st.length]?) htw
        simp only [List.getElem?_take, if_pos (Nat.lt_succ_self _)] at this
        rw [this]
        simp
      repeat with_reducible first | refine zAA ?_ | refine zAB ?_ | refine zAC ?_ | refine zAD ?_ | refine zAK ?_ | refine zAL ?_ | (apply st_q; exact q1) | (apply zAF; exact e1)
      refine st_sliceHi (by exact e1) (by exact e1) (by omega) ?_
      refine zAP (by exact e1) (by exact e1) (by exact cc) rfl I.grow.wf k4 (by simp) rfl ?_
      rintro v4' hq p4 o4'
      simp only [List.take_zero, List.nil_append, List.length_cons, List.length_nil, List.drop_succ_cons, List.drop_zero, List.append_nil, Nat.zero_add, Nat.reduceAdd, List.drop_nil, List.cons_append] at o4'
      obtain ⟨vr1, k1⟩ := I.o1
      obtain ⟨vrm, km⟩ := I.om
      have hIq : RInv h b1 bm b4 g.nodes.length nv g.root vo ds st out out hq := by
        have nb1 : b1 ≠ b4 := by rintro rfl; rw [k4] at k1; cases k1
        have nbm : bm ≠ b4 := by rintro rfl; rw [k4] at km; cases km
        have nbw : bw ≠ b4 := by rintro rfl; rw [k4] at hgw; cases hgw
        refine ⟨p4.grow h hw I.grow I.low.2.1, ⟨_, p4.keep _ nb1 _ k1⟩, ⟨_, p4.keep _ nbm _ km⟩, ⟨_, _, o4', .inr (.inr ⟨bw, vsw, _, hbw, rfl, p4.keep _ nbw _ hgw, by omega, ?_⟩), fun c n k hc => ?_⟩, built_but I.oo p4 k4 (fun vs hh => by cases hh), ⟨I.ds.1, fun r hr => ?_⟩, I.low.1, I.low.2.1, Nat.lt_of_lt_of_le I.low.2.2.1 p4.next, Nat.lt_of_lt_of_le I.low.2.2.2 p4.next⟩
        · have := congrArg (List.take st.length) htw
          rw [List.take_take, Nat.min_eq_left (by omega)] at this
          rw [Nat.mul_one, this]
          simp [List.take_left']
        · simp only [AVal.slice.injEq] at hc
          obtain ⟨hc, rfl⟩ := hc
          exact kn c _ k (by rw [hc])
        · obtain ⟨q1, ver, q2⟩ := I.ds.2 r hr
          exact ⟨q1, ver, p4.keep r (by rintro rfl; rw [k4] at q2; cases q2) _ q2⟩
      obtain ⟨vrm', km'⟩ := hIq.om
      have hixm : slA (.slice (some (bm, 0)) g.nodes.length) 1 k = some (bm, k) := by simp [slA, hkN]
      have hmk : (metC g.nodes.length out)[k]? = some (.bool (out.contains (k : Int))) := metC_get hkN
      clear hw1 hix hvo hlw hz hlenw htw hgw k4 k1 km I p4 kn
      obtain ⟨m', rfl⟩ : ∃ m', m = m' + 1 := ⟨m - 1, by omega⟩
      have hck2 : g.nodes[k]? = some g.nodes[k] := List.getElem?_eq_getElem hkN
      have hargsN : argsN g.nodes (k : Int) = g.nodes[k].args := by simp only [argsN, Int.toNat_natCast, hck2]
      cases hcon : out.contains (k : Int)
      · have hput := (leftG_put out k g.nodes 0).2 (Nat.zero_le _) hcon g.nodes[k] (by simpa using hck2)
        have hre' : reachG g.nodes (1 + leftG [] g.nodes 0) [g.root] [] = reachG g.nodes m' (g.nodes[k].args ++ st) (out ++ [(k : Int)]) := by
          rw [hre, reachG, hcon, hargsN]; rfl
        rw [hcon] at hmk
        clear hre
        have hmkl : (metC g.nodes.length out).length = g.nodes.length := by simp [metC]
        repeat with_reducible first | refine zAA ?_ | refine zAB ?_ | refine zAC ?_ | refine zAD ?_ | refine zAL ?_ | (apply st_q; exact q1) | (apply zAI; exact e1)
        refine zAP (by exact e1) (by exact e1) (by exact cc) rfl hIq.grow.wf km' (by simp only [hmkl, List.length_cons, List.length_nil]; omega) rfl ?_
        rintro v5 h5 p5 o5
        simp only [List.length_cons, List.length_nil, Nat.zero_add] at o5
        rw [metC_put hkN] at o5
        have hI5 : RInv h b1 bm b4 g.nodes.length nv g.root vo ds st (out ++ [(k : Int)]) out h5 := by
          obtain ⟨vr1, k1⟩ := hIq.o1
          obtain ⟨vr4, vw, k4, kB, kn⟩ := hIq.o4
          have nb1 : b1 ≠ bm := by rintro rfl; rw [km'] at k1; cases k1
          have nb4 : b4 ≠ bm := by rintro rfl; rw [km'] at k4; cases k4
          refine ⟨p5.grow h hw hIq.grow hIq.low.1, ⟨_, p5.keep _ nb1 _ k1⟩, ⟨_, o5⟩, ⟨_, _, p5.keep _ nb4 _ k4, built_but kB p5 km' (fun vs hh => by cases hh), kn⟩, built_but hIq.oo p5 km' (fun vs hh => by cases hh), ⟨hIq.ds.1, fun r hr => ?_⟩, hIq.low.1, hIq.low.2.1, Nat.lt_of_lt_of_le hIq.low.2.2.1 p5.next, Nat.lt_of_lt_of_le hIq.low.2.2.2 p5.next⟩
          obtain ⟨q1, ver, q2⟩ := hIq.ds.2 r hr
          exact ⟨q1, ver, p5.keep r (by rintro rfl; rw [km'] at q2; cases q2) _ q2⟩
        clear o5 p5 km' hmk hIq
        repeat with_reducible first | refine zAA ?_ | refine zAB ?_ | refine zAC ?_ | refine zAD ?_ | (apply st_q; exact q1)
        refine st_bslice1 (by exact e1) (by exact cc) rfl rfl hI5.grow.wf ?_
        rintro bx h6 hbx g6 ox
        have hI6 := hI5.other g6
        refine st_append1 (by exact e1) (by exact e1) hI6.oo ox rfl rfl (hroom _ (by omega)) hI6.grow.wf hI6.grow.next ?_
        rintro vo' h7 B7 f7 w7 n7 gr7 kp7
        have hI7 : RInv h b1 bm b4 g.nodes.length nv g.root vo' ds st (out ++ [(k : Int)]) (out ++ [(k : Int)]) h7 := by
          obtain ⟨vr1, k1⟩ := hI6.o1
          obtain ⟨vrm, km⟩ := hI6.om
          obtain ⟨vr4, vw, k4, kB, kn⟩ := hI6.o4
          refine ⟨gr7 h hw hI6.grow (Nat.le_refl _), ⟨_, kp7 _ _ k1 (built_ne hI6.oo k1 fun vs hh => by cases hh)⟩, ⟨_, kp7 _ _ km (built_ne hI6.oo km fun vs hh => by cases hh)⟩, ⟨_, _, kp7 _ _ k4 (built_ne hI6.oo k4 fun vs hh => by cases hh), built_stay kB (fun c p hc _ ⟨j, hj⟩ => kp7 _ _ hc (fun n => kn c j n hj)), fun c n j hc hh => ?_⟩, by simpa using B7, ⟨hI6.ds.1, fun r hr => ?_⟩, hI6.low.1, hI6.low.2.1, Nat.lt_of_lt_of_le hI6.low.2.2.1 n7, Nat.lt_of_lt_of_le hI6.low.2.2.2 n7⟩
          · have := f7 c j hh
            rcases kB with ⟨q, _⟩ | ⟨q, _⟩ | ⟨b', vs', ver', _, q, q2, _⟩
            · rw [q] at hc; cases hc
            · rw [q] at hc; cases hc
            · rw [q] at hc
              simp only [AVal.slice.injEq, Option.some.injEq, Prod.mk.injEq] at hc
              obtain ⟨⟨rfl, _⟩, _⟩ := hc
              have := hI6.grow.wf.lt q2
              omega
          · obtain ⟨q1, ver, q2⟩ := hI6.ds.2 r hr
            exact ⟨q1, ver, kp7 _ _ q2 (built_ne hI6.oo q2 fun vs hh => by cases hh)⟩
        clear B7 f7 w7 n7 gr7 kp7 hI6 hI5 ox g6
        obtain ⟨vr1, k1⟩ := hI7.o1
        obtain ⟨bn, on, vern, ron, en, vsn, av, lv, hixn, hgn', _, _, _, _, hav, _, _, ha, _⟩ := hN.at hck2
        have hgn := hI7.grow.keep _ _ hgn'
        clear hgn'
        repeat with_reducible first | refine zAA ?_ | refine zAB ?_ | refine zAC ?_ | refine zAD ?_ | (apply st_q; exact q1)
        refine zAS (by exact s1) ((Backward_ok H av h7 hI7.grow.wf (one_of_len ha.len)).mono ?_)
        rintro _ h8 ⟨bb, verb, rfl, hbb, ob, g8⟩
        have hI8 := hI7.other g8
        have hb4bb : b4 < bb := Nat.lt_of_lt_of_le hI7.low.2.2.1 hbb
        clear hgn k1 hixn hav hI7 g8
        repeat with_reducible first | refine zAA ?_ | refine zAB ?_
        refine cd_gen (fun A => A.defers = ds.map ADef.collected ∧ ev A (.tmp 1) = some (.ptr (some (b1, 0))) ∧ ev A (.tmp 3) = some (.slice (some (bm, 0)) g.nodes.length) ∧ ev A (.tmp 4) = some (.ptr (some (b4, 0))) ∧ ev A (.tmp 5) = some vo' ∧ ev A (.tmp 50) = some (.func 154 [] [.ptr (some (bb, 0))]))
          ⟨by exact nD, by exact e1, by exact e1, by exact e1, by exact e1, by exact e1⟩ ?_
        clear hd h1' h3' h4' h5'
        rintro A ⟨hd, h1', h3', h4', h5', h50⟩
        refine cd_block ?_
        refine cd_rangeF h50 ?_
        have hla : g.nodes[k].args.length < 2 ^ 60 := (hg.all _ (List.getElem_mem hkN)).args
        have hlt : g.nodes[k].args.length ≤ leftG [] g.nodes 0 := by
          have h1 := leftG_le out g.nodes 0
          omega
        refine (Backward1_ok H g.nodes[k].args hla av (.yield (h8.next + 1)) bb (fun kk hq => RInv h b1 bm b4 g.nodes.length nv g.root vo' ds (g.nodes[k].args.drop (g.nodes[k].args.length - kk) ++ st) (out ++ [(k : Int)]) (out ++ [(k : Int)]) hq ∧ (∃ ver, hq.objs.get bb = some (ver, .cells false 58 [av])) ∧
          (∃ ver, hq.objs.get (h8.next + 1) = some (ver, .loop .ready none A.tmps [51, 52] (.ops [⟨some 8, none, .q (.mov (.tmp 52))⟩]) (.block 3 (.ops [⟨some 53, none, .q (.load none (.tmp 4))⟩, ⟨some 54, none, .q (.mov (.tmp 8))⟩, ⟨some 55, none, .e (.bslice 3 1 1 [.int .i64 0] [(0, .tmp 54)])⟩, ⟨some 56, none, .e (.append 3 1 8 (.tmp 53) (.tmp 55))⟩, ⟨none, none, .e (.store 1 (.tmp 4) (.tmp 56))⟩])) h8.next)) ∧
          (∃ ver, hq.objs.get h8.next = some (ver, .dfr false))) ?_ ?_ _ ?_).mono ?_
        · rintro kk hq ⟨I, ⟨ver, o⟩, _⟩
          exact ⟨ver, _, _, o, ha.mono I.grow⟩
        · rintro kk hq ⟨I, ⟨vbb, obb⟩, ⟨vl, ol⟩, ⟨vd, od⟩⟩ hkk
          have hT4 : ev { tmps := A.tmps, defers := [] } (.tmp 4) = some (.ptr (some (b4, 0))) := h4'
          refine cv_yield ol rfl ?_
          clear hd h1' h3' h4' h5' h50
          repeat with_reducible first | refine zAA ?_ | refine zAB ?_ | refine zAD ?_ | (apply st_q; exact q1)
          refine ⟨_, _, _, _, _, _, _, ol, ?_⟩
          have pL := but_put I.grow.wf ol (.loop .busy none A.tmps [51, 52] (.ops [⟨some 8, none, .q (.mov (.tmp 52))⟩]) (.block 3 (.ops [⟨some 53, none, .q (.load none (.tmp 4))⟩, ⟨some 54, none, .q (.mov (.tmp 8))⟩, ⟨some 55, none, .e (.bslice 3 1 1 [.int .i64 0] [(0, .tmp 54)])⟩, ⟨some 56, none, .e (.append 3 1 8 (.tmp 53) (.tmp 55))⟩, ⟨none, none, .e (.store 1 (.tmp 4) (.tmp 56))⟩])) h8.next)
          have oL := zAR hq (h8.next + 1) (.loop .busy none A.tmps [51, 52] (.ops [⟨some 8, none, .q (.mov (.tmp 52))⟩]) (.block 3 (.ops [⟨some 53, none, .q (.load none (.tmp 4))⟩, ⟨some 54, none, .q (.mov (.tmp 8))⟩, ⟨some 55, none, .e (.bslice 3 1 1 [.int .i64 0] [(0, .tmp 54)])⟩, ⟨some 56, none, .e (.append 3 1 8 (.tmp 53) (.tmp 55))⟩, ⟨none, none, .e (.store 1 (.tmp 4) (.tmp 56))⟩])) h8.next)
          have n8 := hI8.grow.next
          have I9 := RInv_but I hw pL ol (fun r e vs hh => by cases hh) (fun s hh => by cases hh) (by omega)
          have obb9 := pL.keep bb (by rintro rfl; rw [ol] at obb; cases obb) _ obb
          have od9 := pL.keep h8.next (by omega) _ od
          generalize putObjA hq (h8.next + 1) _ = h9 at oL I9 obb9 od9 ⊢
          clear pL I obb od ol
          obtain ⟨ver4, vw, k4, kB, kn⟩ := I9.o4
          repeat with_reducible first | refine cd_blockO ?_ | (apply st_q; exact q1)
          have hkl : (g.nodes[k].args.drop (g.nodes[k].args.length - kk) ++ st).length = kk + st.length := by simp; omega
          have hle2 := leftG_le out g.nodes 0
          refine st_bslice1 (by exact e1) (by exact cc) rfl rfl I9.grow.wf ?_
          rintro bz h10 hbz g10 oz
          have I10 := I9.other g10
          have k4' := g10.keep _ _ k4
          have kB' := kB.grow g10
          refine st_append1 (by exact e1) (by exact e1) kB' oz rfl rfl (hroom _ (by omega)) I10.grow.wf I10.grow.next ?_
          rintro vw' h11 B11 f11 w11 n11 gr11 kp11
          have k4'' := kp11 _ _ k4' (built_ne kB' k4' fun vs hh => by cases hh)
          have hone := one_of_len B11.len
          refine zAP (by exact e1) (by exact e1) (cells_of_len B11.len) rfl w11 k4'' (by simp) (by simp only [List.all_cons, List.all_nil, hone, Bool.and_true]) ?_
          rintro v12 h12 p12 o12
          simp only [List.take_zero, List.nil_append, List.length_cons, List.length_nil, List.drop_succ_cons, List.drop_zero, List.append_nil, Nat.zero_add, Nat.reduceAdd, List.drop_nil, List.cons_append] at o12
          have hdrop : g.nodes[k].args.drop (g.nodes[k].args.length - (kk + 1)) = g.nodes[k].args[g.nodes[k].args.length - 1 - kk]'(by omega) :: g.nodes[k].args.drop (g.nodes[k].args.length - kk) := by
            rw [show g.nodes[k].args.length - (kk + 1) = g.nodes[k].args.length - 1 - kk by omega, List.drop_eq_getElem_cons (by omega), show g.nodes[k].args.length - 1 - kk + 1 = g.nodes[k].args.length - kk by omega]
          have I12 : RInv h b1 bm b4 g.nodes.length nv g.root vo' ds (g.nodes[k].args.drop (g.nodes[k].args.length - (kk + 1)) ++ st) (out ++ [(k : Int)]) (out ++ [(k : Int)]) h12 := by
            obtain ⟨vr1, k1⟩ := I10.o1
            obtain ⟨vrm, km⟩ := I10.om
            have q1 := kp11 _ _ k1 (built_ne kB' k1 fun vs hh => by cases hh)
            have qm := kp11 _ _ km (built_ne kB' km fun vs hh => by cases hh)
            have n1 : b1 ≠ b4 := by rintro rfl; rw [k4''] at q1; cases q1
            have nm : bm ≠ b4 := by rintro rfl; rw [k4''] at qm; cases qm
            have hB : Built h11 h.next 3 1 vw' ((g.nodes[k].args.drop (g.nodes[k].args.length - (kk + 1)) ++ st).length) ((g.nodes[k].args.drop (g.nodes[k].args.length - (kk + 1)) ++ st).reverse.map (AVal.int .i64)) := by
              rw [hdrop]
              simpa using B11
            refine ⟨p12.grow h hw (gr11 h hw I10.grow (Nat.le_refl _)) I10.low.2.1, ⟨_, p12.keep _ n1 _ q1⟩, ⟨_, p12.keep _ nm _ qm⟩, ⟨_, _, o12, built_but hB p12 k4'' (fun vs hh => by cases hh), fun c n j hc hh => ?_⟩, ?_, ⟨I10.ds.1, fun r hr => ?_⟩, I10.low.1, I10.low.2.1, Nat.lt_of_lt_of_le (Nat.lt_of_lt_of_le I10.low.2.2.1 n11) p12.next, Nat.lt_of_lt_of_le (Nat.lt_of_lt_of_le I10.low.2.2.2 n11) p12.next⟩
            · have h1 := f11 c n hc
              rcases I10.oo with ⟨q, _⟩ | ⟨q, _⟩ | ⟨b', vs', ver', _, q, q2, _⟩
              · rw [q] at hh; cases hh
              · rw [q] at hh; cases hh
              · rw [q] at hh
                simp only [AVal.slice.injEq, Option.some.injEq, Prod.mk.injEq] at hh
                obtain ⟨⟨rfl, _⟩, _⟩ := hh
                have := I10.grow.wf.lt q2
                omega
            · have hoo : Built h11 h.next 3 1 vo' (out ++ [(k : Int)]).length ((out ++ [(k : Int)]).map (AVal.int .i64)) := built_stay I10.oo fun c p hc _ ⟨j, hj⟩ => kp11 _ _ hc fun n hh => kn c n j hh hj
              exact built_but hoo p12 k4'' fun vs hh => by cases hh
            · obtain ⟨q1, ver, q2⟩ := I10.ds.2 r hr
              have q3 := kp11 _ _ q2 (built_ne kB' q2 fun vs hh => by cases hh)
              exact ⟨q1, ver, p12.keep r (by rintro rfl; rw [k4''] at q3; cases q3) _ q3⟩
          have oL10 := g10.keep _ _ oL
          have oL11 := kp11 _ _ oL10 (built_ne kB' oL10 fun vs hh => by cases hh)
          have oL12 := p12.keep _ (by rintro e; rw [e, k4''] at oL11; cases oL11) _ oL11
          have ob10 := g10.keep _ _ obb9
          have hav1 := one_of_len ha.len
          have ob11 := kp11 _ _ ob10 (built_ne kB' ob10 fun vs hh => by cases hh)
          have ob12 := p12.keep bb (by omega) _ ob11
          have od10 := g10.keep _ _ od9
          have od11 := kp11 _ _ od10 (built_ne kB' od10 fun vs hh => by cases hh)
          have od12 := p12.keep _ (by rintro e; rw [e, k4''] at od11; cases od11) _ od11
          repeat with_reducible first | refine zAJ ?_ | refine zAB ?_
          have pE := but_put I12.grow.wf oL12 (.loop .ready none A.tmps [51, 52] (.ops [⟨some 8, none, .q (.mov (.tmp 52))⟩]) (.block 3 (.ops [⟨some 53, none, .q (.load none (.tmp 4))⟩, ⟨some 54, none, .q (.mov (.tmp 8))⟩, ⟨some 55, none, .e (.bslice 3 1 1 [.int .i64 0] [(0, .tmp 54)])⟩, ⟨some 56, none, .e (.append 3 1 8 (.tmp 53) (.tmp 55))⟩, ⟨none, none, .e (.store 1 (.tmp 4) (.tmp 56))⟩])) h8.next)
          exact ⟨_, _, _, _, _, _, _, _, oL12, rfl, RInv_but I12 hw pE oL12 (fun r e vs hh => by cases hh) (fun s hh => by cases hh) (by omega), ⟨_, pE.keep bb (by rintro rfl; rw [oL12] at ob12; cases ob12) _ ob12⟩, ⟨_, zAR _ _ _⟩, ⟨_, pE.keep h8.next (by omega) _ od12⟩⟩
        · have wf9 := (Grow.refl hI8.grow.wf).new (.dfr false)
          have g9 := wf9.new (.loop .ready none A.tmps [51, 52] (.ops [⟨some 8, none, .q (.mov (.tmp 52))⟩]) (.block 3 (.ops [⟨some 53, none, .q (.load none (.tmp 4))⟩, ⟨some 54, none, .q (.mov (.tmp 8))⟩, ⟨some 55, none, .e (.bslice 3 1 1 [.int .i64 0] [(0, .tmp 54)])⟩, ⟨some 56, none, .e (.append 3 1 8 (.tmp 53) (.tmp 55))⟩, ⟨none, none, .e (.store 1 (.tmp 4) (.tmp 56))⟩])) h8.next)
          have od : (newA (newA h8 (.dfr false)) (.loop .ready none A.tmps [51, 52] (.ops [⟨some 8, none, .q (.mov (.tmp 52))⟩]) (.block 3 (.ops [⟨some 53, none, .q (.load none (.tmp 4))⟩, ⟨some 54, none, .q (.mov (.tmp 8))⟩, ⟨some 55, none, .e (.bslice 3 1 1 [.int .i64 0] [(0, .tmp 54)])⟩, ⟨some 56, none, .e (.append 3 1 8 (.tmp 53) (.tmp 55))⟩, ⟨none, none, .e (.store 1 (.tmp 4) (.tmp 56))⟩])) h8.next)).objs.get h8.next = some (h8.next, .dfr false) := by
            rw [new_get_ne _ _ (by rw [new_next]; omega)]
            exact zAQ _ _
          exact ⟨by simpa using hI8.other g9, ⟨_, g9.keep _ _ ob⟩, ⟨_, zAQ _ _⟩, ⟨_, od⟩⟩
        · rintro _ h13 ⟨I, _, ⟨vl, ol⟩, ⟨vd, od⟩⟩
          refine ⟨_, _, _, _, _, _, _, _, ol, (by intro hh; cases hh), ?_⟩
          have pL := but_put I.grow.wf ol (.loop .exhausted none A.tmps [51, 52] (.ops [⟨some 8, none, .q (.mov (.tmp 52))⟩]) (.block 3 (.ops [⟨some 53, none, .q (.load none (.tmp 4))⟩, ⟨some 54, none, .q (.mov (.tmp 8))⟩, ⟨some 55, none, .e (.bslice 3 1 1 [.int .i64 0] [(0, .tmp 54)])⟩, ⟨some 56, none, .e (.append 3 1 8 (.tmp 53) (.tmp 55))⟩, ⟨none, none, .e (.store 1 (.tmp 4) (.tmp 56))⟩])) h8.next)
          have n8 := hI8.grow.next
          have I14 := RInv_but I hw pL ol (fun r e vs hh => by cases hh) (fun s hh => by cases hh) (by omega)
          have od14 := pL.keep h8.next (by omega) _ od
          rw [Nat.sub_self, List.drop_zero] at I14
          refine zAJ ?_
          refine zAJ ?_
          refine zAA ?_
          have hnd : h8.next ∉ ds := fun hm => by
            obtain ⟨_, ver, hd⟩ := hI8.ds.2 _ hm
            have := hI8.grow.wf.lt hd
            omega
          have I15 : RInv h b1 bm b4 g.nodes.length nv g.root vo' (h8.next :: ds) (g.nodes[k].args ++ st) (out ++ [(k : Int)]) (out ++ [(k : Int)]) (putObjA h13 (h8.next + 1) (.loop .exhausted none A.tmps [51, 52] (.ops [⟨some 8, none, .q (.mov (.tmp 52))⟩]) (.block 3 (.ops [⟨some 53, none, .q (.load none (.tmp 4))⟩, ⟨some 54, none, .q (.mov (.tmp 8))⟩, ⟨some 55, none, .e (.bslice 3 1 1 [.int .i64 0] [(0, .tmp 54)])⟩, ⟨some 56, none, .e (.append 3 1 8 (.tmp 53) (.tmp 55))⟩, ⟨none, none, .e (.store 1 (.tmp 4) (.tmp 56))⟩])) h8.next)) :=
            { I14 with ds := ⟨List.nodup_cons.2 ⟨hnd, I14.ds.1⟩, fun r hr => by
                rcases List.mem_cons.1 hr with rfl | hr
                · exact ⟨n8, _, od14⟩
                · exact I14.ds.2 r hr⟩ }
          have hoka : Ok g.nodes.length (g.nodes[k].args ++ st) := fun b hb => by
            rcases List.mem_append.1 hb with hb | hb
            · exact may_args (rm _ (List.getElem_mem hkN)) b hb
            · exact hok' b hb
          refine ⟨m', Nat.lt_succ_self _, _, _, _, _, ?_, ?_, hre', hoka, I15, ?_, h1', h3', h4', h5'⟩
          · simp only [List.length_append]; omega
          · simp only [List.length_append, List.length_cons, List.length_nil]; omega
          · show ADef.collected h8.next :: A.defers = _
            rw [hd]; rfl
      · have hre' : reachG g.nodes (1 + leftG [] g.nodes 0) [g.root] [] = reachG g.nodes m' st out := by
          rw [hre, reachG, hcon]; rfl
        rw [hcon] at hmk
        clear hre
        repeat with_reducible first | refine zAA ?_ | refine nxt_exit ?_ | refine blk_same ?_ | refine zAB ?_ | refine zAC ?_ | refine zAD ?_ | refine cd_exit ?_ | (apply st_q; exact q1) | (apply zAF; exact e1)
        exact ⟨m', Nat.lt_succ_self _, st, out, vo, ds, by omega, by omega, hre', hok', hIq, by exact nD, by exact e1, by exact e1, by exact e1, by exact e1⟩
  · repeat' with_reducible first | refine zAA ?_ | refine zAN ?_ | refine zAB ?_ | refine zAC ?_ | refine zAD ?_ | refine zAG ?_ | (apply st_q; exact q1) | (apply zAF; exact e1) | (apply zAE; exact n1; exact r1)
    exact ⟨.inl ⟨rfl, by simp [zAU, show ¬ zAT g = 0 by simpa using hck], by simp [zAU, show ¬ zAT g = 0 by simpa using hck]⟩, g02⟩
end
end Go.Ab.S
end
section
/-
  Copies of rows.
-/
namespace Go.Ab.S
open Go.Ab
set_option maxHeartbeats 8000000
theorem slForms {v : AVal} {n : Nat} (h : lenO v = some n) : v = .slice none n ∨ (∃ b o, v = .slice (some (b, o)) n) ∨ (v = .slice0 ∧ n = 0) ∨ (v = .sliceE ∧ n = 0) := by
  cases v with
  | slice p k =>
    simp only [lenO, Option.some.injEq] at h
    subst h
    cases p with
    | none => exact .inl rfl
    | some p => exact .inr (.inl ⟨p.1, p.2, rfl⟩)
  | slice0 => simp only [lenO, Option.some.injEq] at h; exact .inr (.inr (.inl ⟨rfl, h.symm⟩))
  | sliceE => simp only [lenO, Option.some.injEq] at h; exact .inr (.inr (.inr ⟨rfl, h.symm⟩))
  | _ => cases h
theorem take_flat {vs : List AVal} {sz : Nat} : ∀ (xs : List (List AVal)) (o : Nat), (∀ i x, xs[i]? = some x → x.length = sz ∧ (vs.drop (o + i * sz)).take sz = x) → (vs.drop o).take (xs.length * sz) = xs.flatten
  | [], o, _ => by simp
  | x :: r, o, h => by
    have h0 := (h 0 x rfl).2
    rw [Nat.zero_mul, Nat.add_zero] at h0
    have ih := take_flat r (o + sz) fun i y hy => by
      have := h (i + 1) y (by simpa using hy)
      rw [Nat.succ_mul] at this
      rw [show o + sz + i * sz = o + (i * sz + sz) by omega]
      exact this
    rw [List.length_cons, Nat.succ_mul, Nat.add_comm, List.take_add, h0, List.drop_drop, ih, List.flatten_cons]
/-- All elements of a row at once. -/
theorem SlAt_cells {h : AHeap} {sz b o n : Nat} {xs : List (List AVal)} (k : SlAt h sz (.slice (some (b, o)) n) xs) (hn : 0 < n) (hz : 0 < sz) : n = xs.length ∧ ∃ ver ro e vs, h.objs.get b = some (ver, .cells ro e vs) ∧ o + n * sz ≤ vs.length ∧ (vs.drop o).take (n * sz) = xs.flatten ∧ xs.flatten.length = n * sz := by
  have hl : n = xs.length := by have := k.1; simp only [lenO, Option.some.injEq] at this; exact this
  subst hl
  refine ⟨rfl, ?_⟩
  have hsl : ∀ i, i < xs.length → slA (.slice (some (b, o)) xs.length) sz i = some (b, o + i * sz) := fun i hi => by simp [slA, hi]
  obtain ⟨_, b0, o0, ver, ro, e, vs, h1, h2, h3⟩ := k.2 0 _ (List.getElem?_eq_getElem hn)
  rw [hsl 0 hn] at h1
  simp only [Option.some.injEq, Prod.mk.injEq] at h1
  obtain ⟨rfl, _⟩ := h1
  have hall : ∀ i x, xs[i]? = some x → x.length = sz ∧ (vs.drop (o + i * sz)).take sz = x := fun i x hx => by
    obtain ⟨q1, b1, o1, ver1, ro1, e1, vs1, q2, q3, q4⟩ := k.2 i x hx
    rw [hsl i (List.getElem?_eq_some_iff.1 hx).1] at q2
    simp only [Option.some.injEq, Prod.mk.injEq] at q2
    obtain ⟨rfl, rfl⟩ := q2
    rw [h2] at q3
    simp only [Option.some.injEq, Prod.mk.injEq, AObj.cells.injEq] at q3
    obtain ⟨_, _, _, rfl⟩ := q3
    exact ⟨q1, q4⟩
  have hf := take_flat xs o hall
  have hlast := hall (xs.length - 1) _ (List.getElem?_eq_getElem (by omega))
  have hle : o + (xs.length - 1) * sz + sz ≤ vs.length := by
    have := congrArg List.length hlast.2
    rw [hlast.1, List.length_take, List.length_drop] at this
    omega
  have hm : (xs.length - 1) * sz + sz = xs.length * sz := by rw [← Nat.succ_mul]; congr 1; omega
  refine ⟨ver, ro, e, vs, h2, by omega, hf, ?_⟩
  rw [← hf, List.length_take, List.length_drop]; omega
section
variable {fns : FuncId → Option AFunc} {summ : FuncId → List AVal → AHeap → Option (D (AVal × AHeap))}
variable (H : Has fns summ)
/-- A row put behind nothing. -/
theorem st_append0 {e : TypeId} {bytes sz m : Nat} {ro : Option Nat} {d : Option Tmp} {x y : AOpd} {l : List Step} {a : AAct} {h : AHeap} {K : AAct → AHeap → Prop} {xv : AVal} {new : List AVal} (hs : ev a x = some .slice0) (hx : ev a y = some xv) (hl : lenA xv = some m) (hm : 0 < m) (hc : cellsOfA h sz m xv = some new) (ho : new.all one = true) (hr : room0A bytes m = true) (hnl : new.length = m * sz) (w : WF h)
    (k : ∀ r h', Built h' h.next e sz r m new → Grow h h' → St fns summ ro l (putA a d r) h' K) : St fns summ ro (⟨d, none, .e (.append e sz bytes x y)⟩ :: l) a h K := by
  obtain ⟨m', rfl⟩ : ∃ m', m = m' + 1 := ⟨m - 1, by omega⟩
  refine st_t (by intro _ _ hh; cases hh) (by intro _ _ hh; cases hh) (v := .slice (some (h.next, 0)) (m' + 1)) (h' := newA h (.cells false e new)) ?_ (k _ _ (.inr (.inr ⟨h.next, new, h.next, Nat.le_refl _, rfl, zAQ _ _, ?_, ?_⟩)) ((Grow.refl w).new _))
  · simp only [turnA, hs, hx, appendA, hl, hc, ho, hr, if_true]
  · rw [hnl]; exact Nat.le_refl _
  · exact List.take_of_length_le (by rw [hnl]; exact Nat.le_refl _)
/-- A copy by 'append(S[:0:0], s...)', laid out. -/
theorem clone_gen {e : TypeId} {bytes sz : Nat} {ro : Option Nat} {d : Option Tmp} {x y : AOpd} {l : List Step} {a : AAct} {h : AHeap} {K : AAct → AHeap → Prop} {v : AVal} {xs : List (List AVal)} (hx : ev a x = some .slice0) (hy : ev a y = some v) (hv : SlAt h sz v xs) (hz : 0 < sz) (hnn : v ≠ .slice none xs.length ∨ xs ≠ []) (ho : xs.flatten.all one = true) (hr : room0A bytes xs.length = true) (w : WF h)
    (k : ∀ r h', Built h' h.next e sz r xs.length xs.flatten → Grow h h' → St fns summ ro l (putA a d r) h' K) : St fns summ ro (⟨d, none, .e (.append e sz bytes x y)⟩ :: l) a h K := by
  rcases Nat.eq_zero_or_pos xs.length with h0 | h0
  · have hx0 : xs = [] := List.length_eq_zero_iff.1 h0
    subst hx0
    have hla : lenA v = some 0 := by
      have := hv.1
      cases v <;> first | exact this | cases this
    refine st_t (by intro _ _ hh; cases hh) (by intro _ _ hh; cases hh) (v := .slice0) (h' := h) ?_ (k _ _ (.inr (.inl ⟨rfl, rfl, rfl⟩)) (Grow.refl w))
    simp only [turnA, hx, hy, appendA, hla]
  · rcases slForms hv.1 with rfl | ⟨b, o, rfl⟩ | ⟨_, hh⟩ | ⟨_, hh⟩
    · obtain ⟨_, b, o, ver, ro, e, vs, h1, _⟩ := hv.2 0 _ (List.getElem?_eq_getElem h0)
      cases h1
    · obtain ⟨_, ver, rb, eb, vs, h2, h3, h4, h5⟩ := SlAt_cells hv h0 hz
      exact st_append0 hx hy (m := xs.length) rfl h0 (new := xs.flatten) (by simp only [cellsOfA, h2, if_pos h3, h4]) ho hr h5 w k
    · omega
    · omega
include H
theorem roomOK {b k : Nat} (hb : 1 ≤ b ∧ b ≤ 128) (hk : k ≤ 2 ^ 31) : roomA b k = true := by
  have e31 : (2 : Nat) ^ 31 = 2147483648 := by decide
  have e46 : (2 : Nat) ^ 46 = 70368744177664 := by decide
  simp only [roomA, Bool.and_eq_true]
  refine ⟨Nat.ble_eq.mpr hb.1, Nat.ble_eq.mpr ?_⟩
  calc (2 * k + 2000) * b ≤ (2 * k + 2000) * 128 := Nat.mul_le_mul_left _ hb.2
    _ ≤ 2 ^ 46 := by omega
omit H
theorem intsFlat (l : List Int) : (l.map intC).flatten = l.map (AVal.int .i64) := by
  induction l with
  | nil => rfl
  | cons a r ih => simp only [List.map_cons, List.flatten_cons, ih]; rfl
theorem strsFlat (l : List (List Nat)) : (l.map strC).flatten = l.map AVal.str := by
  induction l with
  | nil => rfl
  | cons a r ih => simp only [List.map_cons, List.flatten_cons, ih]; rfl
include H
theorem CloneInt_ok (l : List Int) (hl : l.length ≤ 2 ^ 31) (v : AVal) (h : AHeap) (hw : WF h) (hv : IntsAt h v l) : Cl fns summ 80 [v] h fun r h' => Built h' h.next 3 1 r l.length (l.map (AVal.int .i64)) ∧ Grow h h' := by
  refine H.go (fn := F_CloneInt) rfl (by decide) rfl rfl ?_
  unfold F_CloneInt
  dsimp only [qQ, qE, qN, gQ, gE, vi]
  by_cases hnil : v = .slice none (l.map intC).length
  · have hl0 : l = [] := by
      cases l with
      | nil => rfl
      | cons a r =>
        obtain ⟨_, b, o, ver, ro, e, vs, h1, _⟩ := hv.2 0 (intC a) rfl
        rw [hnil] at h1; cases h1
    subst hl0
    subst hnil
    repeat' with_reducible first | refine zAA ?_ | refine zAN ?_ | refine zAB ?_ | refine zAC ?_ | refine zAD ?_ | refine zAG ?_ | (apply st_q; exact q1) | (apply zAF; exact e1) | (apply zAE; exact n1; exact r1)
    exact ⟨.inl ⟨rfl, rfl, rfl⟩, Grow.refl hw⟩
  · have heq : eqA .slice v (.slice none 0) = some false := by
      rcases slForms hv.1 with h1 | ⟨b, o, rfl⟩ | ⟨rfl, _⟩ | ⟨rfl, _⟩
      · exact absurd h1 hnil
      · rfl
      · rfl
      · rfl
    have hroom := room0_of (roomOK H (b := 8) (by decide) hl)
    repeat with_reducible first | refine zAA ?_ | refine zAB ?_ | refine zAC ?_ | refine zAD ?_ | (apply st_q; exact q1)
    refine st_q (v := .bool false) (b := none) (by simp only [qA_eql, ev_put, ev_start, ev_val, Nat.reduceEqDiff, if_true, if_false, heq]; rfl) ?_
    repeat with_reducible first | refine zAA ?_ | refine zAB ?_ | refine zAC ?_ | refine zAD ?_ | refine zAL ?_ | (apply zAI; exact e1)
    refine st_T (by exact tE) (by exact t1) ?_
    repeat with_reducible (apply st_q; exact q1)
    refine clone_gen (by exact e1) (by exact e1) hv (by decide) (.inl hnil) (by rw [intsFlat]; simp [one]) (by simpa using hroom) hw ?_
    intro r h' B g
    rw [intsFlat, List.length_map] at B
    repeat' with_reducible first | refine zAA ?_ | refine zAB ?_ | refine zAG ?_ | (apply st_q; exact q1) | (apply zAE; exact n1; exact r1)
    exact ⟨B, g⟩
theorem CloneStr_ok (l : List (List Nat)) (hl : l.length * 16 ≤ 140737488355328) (v : AVal) (h : AHeap) (hw : WF h) (hv : StrsAt h v l) : Cl fns summ 43 [v] h fun r h' => Built h' h.next 9 1 r l.length (l.map AVal.str) ∧ Grow h h' := by
  refine H.go (fn := F_CloneStr) rfl (by decide) rfl rfl ?_
  unfold F_CloneStr
  dsimp only [qQ, qE, qN, gQ, gE, vi]
  by_cases hnil : v = .slice none (l.map strC).length
  · have hl0 : l = [] := by
      cases l with
      | nil => rfl
      | cons a r =>
        obtain ⟨_, b, o, ver, ro, e, vs, h1, _⟩ := hv.2 0 (strC a) rfl
        rw [hnil] at h1; cases h1
    subst hl0
    subst hnil
    repeat' with_reducible first | refine zAA ?_ | refine zAN ?_ | refine zAB ?_ | refine zAC ?_ | refine zAD ?_ | refine zAG ?_ | (apply st_q; exact q1) | (apply zAF; exact e1) | (apply zAE; exact n1; exact r1)
    exact ⟨.inl ⟨rfl, rfl, rfl⟩, Grow.refl hw⟩
  · have heq : eqA .slice v (.slice none 0) = some false := by
      rcases slForms hv.1 with h1 | ⟨b, o, rfl⟩ | ⟨rfl, _⟩ | ⟨rfl, _⟩
      · exact absurd h1 hnil
      · rfl
      · rfl
      · rfl
    have hroom : room0A 16 l.length = true := by
      simp only [room0A, Bool.and_eq_true]
      exact ⟨rfl, Nat.ble_eq.mpr hl⟩
    repeat with_reducible first | refine zAA ?_ | refine zAB ?_ | refine zAC ?_ | refine zAD ?_ | (apply st_q; exact q1)
    refine st_q (v := .bool false) (b := none) (by simp only [qA_eql, ev_put, ev_start, ev_val, Nat.reduceEqDiff, if_true, if_false, heq]; rfl) ?_
    repeat with_reducible first | refine zAA ?_ | refine zAB ?_ | refine zAC ?_ | refine zAD ?_ | refine zAL ?_ | (apply zAI; exact e1)
    refine st_T (by exact tE) (by exact t1) ?_
    repeat with_reducible (apply st_q; exact q1)
    refine clone_gen (by exact e1) (by exact e1) hv (by decide) (.inl hnil) (by rw [strsFlat]; simp [one]) (by simpa using hroom) hw ?_
    intro r h' B g
    rw [strsFlat, List.length_map] at B
    repeat' with_reducible first | refine zAA ?_ | refine zAB ?_ | refine zAG ?_ | (apply st_q; exact q1) | (apply zAE; exact n1; exact r1)
    exact ⟨B, g⟩
end
end Go.Ab.S
end
section
/-
  What is left of a graph: the law of it.
-/
namespace Go.Ab.S
open Go.Ab
set_option maxHeartbeats 8000000
theorem reachG_ok {ns : List Node} {N : Nat} (hN : ∀ a : Int, 0 ≤ a → a < N → Ok N (argsN ns a)) : ∀ (m : Nat) (st out : List Int), Ok N st → Ok N out → out.Nodup → Ok N (reachG ns m st out) ∧ (reachG ns m st out).Nodup
  | 0, _, _, _, h2, h3 => ⟨h2, h3⟩
  | _ + 1, [], _, _, h2, h3 => ⟨h2, h3⟩
  | m + 1, a :: st, out, h1, h2, h3 => by
    have hst : Ok N st := fun b hb => h1 b (by simp [hb])
    have ha := h1 a (by simp)
    rw [reachG]
    split
    · exact reachG_ok hN m st out hst h2 h3
    · rename_i hc
      refine reachG_ok hN m _ _ (fun b hb => ?_) (fun b hb => ?_) ?_
      · rcases List.mem_append.1 hb with hb | hb
        · exact hN a ha.1 ha.2 b hb
        · exact hst b hb
      · rcases List.mem_append.1 hb with hb | hb
        · exact h2 b hb
        · simp only [List.mem_singleton] at hb; subst hb; exact ha
      · rw [List.nodup_append]
        refine ⟨h3, by simp, fun b hb c hc' => ?_⟩
        simp only [List.mem_singleton] at hc'
        rintro rfl
        subst hc'
        exact hc (by simpa using hb)
theorem reachF_ok (g : Graph) : Ok g.nodes.length (zAU g) ∧ (zAU g).Nodup := by
  unfold zAU
  split
  · rename_i hc
    obtain ⟨h0, h1, _, hm⟩ := check_root hc
    refine reachG_ok (fun a a0 a1 => ?_) _ _ _ (fun b hb => ?_) (fun b hb => (by cases hb)) List.nodup_nil
    · have hk : a.toNat < g.nodes.length := by omega
      simp only [argsN, List.getElem?_eq_getElem hk]
      exact may_args (hm _ (List.getElem_mem hk))
    · simp only [List.mem_singleton] at hb; subst hb; exact ⟨h0, h1⟩
  · exact ⟨fun b hb => (by cases hb), List.nodup_nil⟩
theorem reachG_len {ns : List Node} : ∀ (m : Nat) (st out : List Int), (reachG ns m st out).length ≤ out.length + m
  | 0, _, out => Nat.le_refl _
  | _ + 1, [], out => Nat.le_add_right _ _
  | m + 1, a :: st, out => by
    rw [reachG]
    split
    · have := reachG_len (ns := ns) m st out; omega
    · have := reachG_len (ns := ns) m (argsN ns a ++ st) (out ++ [a])
      simp only [List.length_append, List.length_cons, List.length_nil] at this; omega
theorem reachF_len {g : Graph} (hg : GSm g) : (zAU g).length ≤ 2 ^ 30 + 1 := by
  have := hg.total
  unfold zAU
  split
  · have h := reachG_len (ns := g.nodes) (1 + leftG [] g.nodes 0) [g.root] []
    simp only [List.length_nil] at h; omega
  · simp
/-- A node's number behind. -/
def toIdx (l : List Int) (a : Int) : Nat := if l.contains a then l.idxOf a else 0
def dNode : Node := ⟨0, [], [], [], false⟩
def zAH (g : Graph) (i : Int) : Node := g.nodes.getD i.toNat dNode
def trimN (l : List Int) (n : Node) : Node := { n with args := n.args.map fun a => (toIdx l a : Int) }
def trimF (g : Graph) : Graph := ⟨(zAU g).map fun i => trimN (zAU g) (zAH g i), 0⟩
/-- Entries: each number's place. -/
def toEs : Nat → List Int → List (AVal × AVal × Nat)
  | _, [] => []
  | i, a :: r => (.int .i64 a, .int .i64 (i : Nat), i) :: toEs (i + 1) r
theorem toEs_put : ∀ (l : List Int) (i : Nat) (a : Int), toEs i (l ++ [a]) = toEs i l ++ [(.int .i64 a, .int .i64 ((i + l.length : Nat) : Int), i + l.length)]
  | [], i, a => rfl
  | b :: l, i, a => by
    simp only [List.cons_append, toEs, toEs_put l (i + 1) a, List.length_cons, show i + 1 + l.length = i + (l.length + 1) by omega]
theorem toEs_find (a : Int) : ∀ (l : List Int) (i j : Nat), findA .int (.int .i64 a) (toEs i l) j = some (if l.contains a then some (j + l.idxOf a, .int .i64 ((i + l.idxOf a : Nat) : Int)) else none)
  | [], _, _ => rfl
  | b :: l, i, j => by
    simp only [toEs, findA, keyA, if_true]
    by_cases h : a = b
    · subst h; simp
    · have h1 : (a == b) = false := by simpa using h
      have h2 : (b == a) = false := by simpa using Ne.symm h
      have ih := toEs_find a l (i + 1) (j + 1)
      rw [h1]
      simp only [ih, List.contains_cons, h1, Bool.false_or, List.idxOf_cons, h2, cond_false]
      split
      · congr 2
        · exact Prod.ext (by simp; omega) (by simp; omega)
      · rfl
theorem look_to {h : AHeap} {r ver c : Nat} {l : List Int} (hg : h.objs.get r = some (ver, .map (toEs 0 l) c)) (a : Int) : lookA h .int (.int .i64 0) false (.map (some r)) (.int .i64 a) = some (.int .i64 (toIdx l a : Nat), some r) := by
  have := toEs_find a l 0 0
  simp only [lookA, isKey, hg, this, toIdx]
  cases hc : l.contains a <;> simp
end Go.Ab.S
end
