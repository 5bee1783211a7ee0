import Derived.Test.YtpmndmiohaaokaaGreatDoorP09
import Derived.Test.YtpmndmiohaaokaaGreatDoorP12
/-
  Part 13 of the proof.
-/
set_option linter.all false
section
namespace Go.Ab.S
open Go.Ab
set_option maxHeartbeats 8000000
def idxI (x y : Node) (i : Nat) : Nat := if x.kind == 3 then bsAt y.labels (x.labels.getD i []) else i
def zGG (x y : Node) : Bool := if x.kind == 3 then x.labels.all (bsIs y.labels) else true
def fwdI (x y : Node) : List Pr := (List.range x.args.length).map fun i => (x.args.getD i 0, y.args.getD (idxI x y i) 0)
structure Fit (x y : Node) : Prop where
 obj : x.kind = 3 -> x.labels.length = x.args.length /\ y.labels.length = y.args.length /\ Rises y.labels
 con : x.kind ≠ 3 -> y.args.length = x.args.length
 small : x.args.length <= 4096 /\ y.args.length <= 4096
theorem zNN {l : List (List Nat)} {s : List Nat} (h : bsIs l s = true) : bsAt l s < l.length := by
 unfold bsIs at h
 split at h
 ·rename_i x hx; exact (List.getElem?_eq_some_iff.1 hx).1
 ·cases h
def okN (x y : Node) : Bool := x.kind == 1 || (((x.kind == y.kind && eqL x.name y.name) && (x.isOpen || (!y.isOpen && eqLL x.labels y.labels))) && zGG x y)
def nxN (x y : Node) : List Pr := if x.kind == 1 then [] else (fwdI x y).reverse
def okI (g h : Graph) (p : Pr) : Bool := okN (zAB g p.1) (zAB h p.2)
def nxI (g h : Graph) (p : Pr) : List Pr := nxN (zAB g p.1) (zAB h p.2)
def badI (g : Graph) (p q : Pr) : Bool := zAU (zAB g p.1) && p.1 == q.1
theorem zNm {g h : Graph} (hg : GTi g) (hh : GTi h) (cg : zAF g = 0) (ch : zAF h = 0) {x y : Node} (hx : x ∈ g.nodes) (hy : y ∈ h.nodes) (hk : x.kind = y.kind) (hn : x.name = y.name) (h1 : x.kind ≠ 1) : Fit x y := by
 have mx := zAN ((zBA cg).2 x hx)
 have my := zAN ((zBA ch).2 y hy)
 have t1 := hg.tinyA x hx
 have t2 := hh.tinyA y hy
 refine ⟨fun hk3 => ?_, fun hk3 => ?_, by omega, by omega⟩
 ·rcases mx with ⟨k, _⟩ | ⟨k, _⟩ | ⟨k, _, l1, _⟩
  ·omega
  ·omega
  rcases my with ⟨k', _⟩ | ⟨k', _⟩ | ⟨k', _, l2, r2⟩
  ·omega
  ·omega
  exact ⟨l1, l2, zBF r2⟩
 ·rcases mx with ⟨k, _⟩ | ⟨k, _, _, _, l1⟩ | ⟨k, _, l1, _⟩
  ·omega
  ·rcases my with ⟨k', _⟩ | ⟨k', _, _, _, l2⟩ | ⟨k', _, _⟩
   ·omega
   ·rw [l1, l2, hn]
   ·omega
  ·omega
def isF (g h : Graph) : Bool := zAF g == 0 && (zAF h == 0 && zEp (okI g (zAv h)) (nxI g (zAv h)) (badI g) (2 + zDQ (nxI g (zAv h)) [] (zBn g (zAv h))) [(g.root, (zAv h).root)] [])
theorem nxI_in {g h : Graph} (hg : GTi g) (hh : GTi h) (cg : zAF g = 0) (ch : zAF h = 0) {p : Pr} (hp : p ∈ zBn g h) (ho : okI g h p = true) : ∀ q ∈ nxI g h p, q ∈ zBn g h := by
 intro q hq
 obtain ⟨⟨a0, a1⟩, b0, b1⟩ := zBH.1 hp
 have hx := zDS a0 a1
 have hy := zDS b0 b1
 simp only [okI, okN, Bool.or_eq_true, Bool.and_eq_true, beq_iff_eq] at ho
 simp only [nxI, nxN] at hq
 split at hq
 ·cases hq
 ·rename_i hk1
  have hk1' : (zAB g p.1).kind ≠ 1 := by simpa using hk1
  rcases ho with ho | ⟨⟨⟨h1, h2⟩, _⟩, h4⟩
  ·exact absurd ho hk1'
  have hf := zNm hg hh cg ch hx hy h1 (zBJ.1 h2) hk1'
  simp only [fwdI, List.mem_reverse, List.mem_map, List.mem_range] at hq
  obtain ⟨i, hi, rfl⟩ := hq
  have hidx : idxI (zAB g p.1) (zAB h p.2) i < (zAB h p.2).args.length := by
   by_cases hk3 : (zAB g p.1).kind = 3
   ·obtain ⟨q1, q2, q3⟩ := hf.obj hk3
    have hk3' : ((zAB g p.1).kind == 3) = true := by simpa using hk3
    rw [zGG, hk3'] at h4
    simp only [if_true, List.all_eq_true] at h4
    have hil : i < (zAB g p.1).labels.length := by omega
    have := zNN (h4 _ (List.getElem_mem hil))
    rw [idxI, hk3']
    simp only [if_true, List.getD, List.getElem?_eq_getElem hil, Option.getD_some]
    omega
   ·have hk3' : ((zAB g p.1).kind == 3) = false := by simpa using hk3
    rw [idxI, hk3', hf.con hk3]; simpa using hi
  simp only [List.getD, List.getElem?_eq_getElem hi, List.getElem?_eq_getElem hidx, Option.getD_some]
  exact zBH.2 ⟨zAu ((zBA cg).2 _ hx) _ (List.getElem_mem hi), zAu ((zBA ch).2 _ hy) _ (List.getElem_mem hidx)⟩
theorem zIU {g : Graph} (h1 : g.nodes.length + zAk [] g.nodes 0 <= 4096) (h2 : ∀ n ∈ g.nodes, n.labels.length <= 4096 /\ ∀ s ∈ n.labels, s.length < 2 ^ 60) : GTi g := by
 have e30 : (2 : Nat) ^ 30 = 1073741824 := by decide
 have e60 : (2 : Nat) ^ 60 = 1152921504606846976 := by decide
 refine ⟨⟨⟨by omega, fun n hn => ⟨?_, ?_, (h2 n hn).2⟩⟩, by omega, fun n hn => ?_⟩, by omega, fun n hn => ?_⟩
 ·have := zDP g.nodes 0 n hn; omega
 ·have := (h2 n hn).1; omega
 ·have := (h2 n hn).1; omega
 ·have := zDP g.nodes 0 n hn; omega
end Go.Ab.S
end
section
namespace Go.Ab.S
open Go.Ab
set_option maxHeartbeats 1000000
structure InstR (g L : Graph) (S : Int -> Int -> Prop) : Prop where
 root : S g.root L.root
 range : ∀ a b, S a b -> (0 <= a /\ a < g.nodes.length) /\ (0 <= b /\ b < L.nodes.length)
 node : ∀ a b, S a b -> (zAB g a).kind = 1 \/ ((zAB g a).kind ≠ 1 /\ (zAB g a).kind = (zAB L b).kind /\ (zAB g a).name = (zAB L b).name /\ ((zAB g a).isOpen = true \/ ((zAB L b).isOpen = false /\ (zAB g a).labels = (zAB L b).labels)) /\ zGG (zAB g a) (zAB L b) = true ∧
  ∀ i, i < (zAB g a).args.length -> S ((zAB g a).args.getD i 0) ((zAB L b).args.getD (idxI (zAB g a) (zAB L b) i) 0))
 one : ∀ a b c, S a b -> S a c -> zAU (zAB g a) = true -> b = c
structure SameR (g h : Graph) (R : Int -> Int -> Prop) : Prop where
 root : R g.root h.root
 range : ∀ a b, R a b -> (0 <= a /\ a < g.nodes.length) /\ (0 <= b /\ b < h.nodes.length)
 node : ∀ a b, R a b -> (zAB g a).kind = (zAB h b).kind /\ (zAB g a).name = (zAB h b).name /\ (zAB g a).isOpen = (zAB h b).isOpen /\ (zAB g a).labels = (zAB h b).labels /\ (zAB g a).args.length = (zAB h b).args.length ∧
  ∀ i, i < (zAB g a).args.length -> R ((zAB g a).args.getD i 0) ((zAB h b).args.getD i 0)
 one : ∀ a b c, R a b -> R a c -> zAU (zAB g a) = true -> b = c
 one' : ∀ a b c, R a c -> R b c -> zAU (zAB g a) = true -> a = b
theorem SameR.flip {g h : Graph} {R : Int -> Int -> Prop} (k : SameR g h R) : SameR h g (fun a b => R b a) := by
 have hf : ∀ a b, R a b -> zAU (zAB h b) = true -> zAU (zAB g a) = true := fun a b hab hf => by
  obtain ⟨h1, _, h3, _⟩ := k.node a b hab
  simpa only [zAU, h1, h3] using hf
 refine ⟨k.root, fun a b hab => (k.range b a hab).symm, fun a b hab => ?_, fun a b c h1 h2 h3 => k.one' b c a h1 h2 (hf _ _ h1 h3), fun a b c h1 h2 h3 => k.one c a b h1 h2 (hf _ _ h1 h3)⟩
 obtain ⟨h1, h2, h3, h4, h5, h6⟩ := k.node b a hab
 exact ⟨h1.symm, h2.symm, h3.symm, h4.symm, h5.symm, fun i hi => h6 i (by omega)⟩
theorem isF_iff {g h : Graph} (hg : GTi g) (hh : GTi h) (cg : zAF g = 0) (ch : zAF h = 0) : isF g h = true ↔ ∃ S, InstR g (zAv h) S := by
 have cL := (zCa ch).check
 have tL := zMm hh ch
 have rg := zAZ cg
 have rL := zAZ cL
 have e : isF g h = zEp (okI g (zAv h)) (nxI g (zAv h)) (badI g) (2 + zDQ (nxI g (zAv h)) [] (zBn g (zAv h))) [(g.root, (zAv h).root)] [] := by
  rw [isF, cg, ch]; rfl
 have hsym : ∀ p q : Pr, badI g p q = badI g q p := fun p q => by
  unfold badI
  by_cases hpq : p.1 = q.1
  ·rw [hpq]
  ·have h1 : (p.1 == q.1) = false := by simpa using hpq
   have h2 : (q.1 == p.1) = false := by simpa using fun h => hpq h.symm
   rw [h1, h2]; simp
 rw [e, zMa _ _ _ hsym (ps := zBn g (zAv h)) _ (zBH.2 ⟨⟨rg.1, rg.2.1⟩, rL.1, rL.2.1⟩) fun p hp ho => nxI_in hg tL cg cL hp ho]
 constructor
 ·rintro ⟨S, h1, h2, h3⟩
  refine ⟨fun a b => S (a, b), h1, fun a b hab => zBH.1 (h2 _ hab).1, fun a b hab => ?_, fun a b c hab hac hf => ?_⟩
  ·obtain ⟨_, ho, hn⟩ := h2 _ hab
   simp only [okI, okN, Bool.or_eq_true, Bool.and_eq_true, beq_iff_eq, zBJ, zHQ, Bool.not_eq_true'] at ho
   by_cases hk : (zAB g a).kind = 1
   ·exact .inl hk
   ·rcases ho with ho | ⟨⟨⟨k1, k2⟩, k3⟩, k4⟩
    ·exact absurd ho hk
    refine .inr ⟨hk, k1, k2, k3, k4, fun i hi => ?_⟩
    refine hn _ ?_
    have hk' : ((zAB g a).kind == 1) = false := by simpa using hk
    simp only [nxI, nxN, hk', Bool.false_eq_true, if_false, fwdI, List.mem_reverse, List.mem_map, List.mem_range]
    exact ⟨i, hi, rfl⟩
  ·apply Classical.byContradiction
   intro hbc
   have := h3 _ _ hab hac (fun hh => hbc (Prod.mk.inj hh).2)
   simp [badI, hf] at this
 ·rintro ⟨S, k⟩
  refine ⟨fun p => S p.1 p.2, k.root, fun p hp => ⟨zBH.2 (k.range _ _ hp), ?_, fun q hq => ?_⟩, fun p q hp hq hpq => ?_⟩
  ·simp only [okI, okN, Bool.or_eq_true, Bool.and_eq_true, beq_iff_eq, zBJ, zHQ, Bool.not_eq_true']
   rcases k.node _ _ hp with h1 | ⟨_, h1, h2, h3, h4, _⟩
   ·exact .inl h1
   ·exact .inr ⟨⟨⟨h1, h2⟩, h3⟩, h4⟩
  ·simp only [nxI, nxN] at hq
   split at hq
   ·cases hq
   ·rename_i hk
    have hk' : (zAB g p.1).kind ≠ 1 := by simpa using hk
    simp only [fwdI, List.mem_reverse, List.mem_map, List.mem_range] at hq
    obtain ⟨i, hi, rfl⟩ := hq
    rcases k.node _ _ hp with h1 | ⟨_, _, _, _, _, h5⟩
    ·exact absurd h1 hk'
    ·exact h5 i hi
  ·cases hb : badI g p q with
   | false => rfl
   | true =>
    simp only [badI, Bool.and_eq_true, beq_iff_eq] at hb
    have := k.one p.1 p.2 q.2 hp (by rw [hb.2]; exact hq) hb.1
    exact absurd (Prod.ext hb.2 this) hpq
theorem zIs {n : Node} {N : Int} (h : mayF n N = true) : zEu n = zAU n := by
 rcases zAN h with ⟨k, _, o, _⟩ | ⟨k, _, o, _⟩ | ⟨k, _⟩
 ·simp [zEu, zAU, k]
 ·simp [zEu, zAU, k, o]
 ·simp [zEu, zAU, k]
theorem zOf {a b : List Int} {q : Pr} : q ∈ List.zip a b ↔ ∃ i, i < a.length /\ i < b.length /\ q = (a.getD i 0, b.getD i 0) := by
 constructor
 ·intro hq
  obtain ⟨i, hi, rfl⟩ := List.mem_iff_getElem.1 hq
  rw [List.length_zip] at hi
  refine ⟨i, by omega, by omega, ?_⟩
  rw [List.getElem_zip, List.getD, List.getD, List.getElem?_eq_getElem (by omega), List.getElem?_eq_getElem (by omega)]; rfl
 ·rintro ⟨i, h1, h2, rfl⟩
  have hz : i < (List.zip a b).length := by rw [List.length_zip]; omega
  have := List.getElem_mem hz
  rw [List.getElem_zip] at this
  rw [List.getD, List.getD, List.getElem?_eq_getElem h1, List.getElem?_eq_getElem h2]
  exact this
theorem zIM {g h : Graph} (cg : zAF g = 0) (ch : zAF h = 0) : zFJ g h = true ↔ ∃ R, SameR g h R := by
 have rg := zAZ cg
 have rh := zAZ ch
 have e : zFJ g h = zEp (okS g h) (nxS g h) (badS g) (2 + zDQ (nxS g h) [] (zBn g h)) [(g.root, h.root)] [] := by
  rw [zFJ, cg, ch]; rfl
 have hsym : ∀ p q : Pr, badS g p q = badS g q p := fun p q => by
  unfold badS
  rw [Bool.eq_iff_iff]
  simp only [Bool.and_eq_true, Bool.or_eq_true, beq_iff_eq]
  constructor <;> rintro ⟨h1, h2, h3⟩ <;> exact ⟨h2, h1, h3.elim (fun h => .inl h.symm) (fun h => .inr h.symm)⟩
 rw [e, zMa _ _ _ hsym (ps := zBn g h) _ (zBH.2 ⟨⟨rg.1, rg.2.1⟩, rh.1, rh.2.1⟩) fun p hp _ => nxS_in cg ch hp]
 have hal : ∀ x y : Node, zEx x y = true ↔ x.kind = y.kind /\ x.name = y.name /\ x.isOpen = y.isOpen /\ x.labels = y.labels /\ x.args.length = y.args.length := fun x y => by
  simp only [zEx, Bool.and_eq_true, beq_iff_eq, zBJ, zHQ]
  constructor
  ·rintro ⟨⟨⟨⟨h1, h2⟩, h3⟩, h4⟩, h5⟩; exact ⟨h1, h2, h3, h5, h4⟩
  ·rintro ⟨h1, h2, h3, h4, h5⟩; exact ⟨⟨⟨⟨h1, h2⟩, h3⟩, h5⟩, h4⟩
 constructor
 ·rintro ⟨S, h1, h2, h3⟩
  have hfr : ∀ p, S p -> zEu (zAB g p.1) = zAU (zAB g p.1) := fun p hp => by
   obtain ⟨⟨a0, a1⟩, _⟩ := zBH.1 (h2 _ hp).1
   exact zIs ((zBA cg).2 _ (zDS a0 a1))
  refine ⟨fun a b => S (a, b), h1, fun a b hab => zBH.1 (h2 _ hab).1, fun a b hab => ?_, fun a b c hab hac hf => ?_, fun a b c hac hbc hf => ?_⟩
  ·obtain ⟨_, ho, hn⟩ := h2 _ hab
   obtain ⟨k1, k2, k3, k4, k5⟩ := (hal _ _).1 ho
   refine ⟨k1, k2, k3, k4, k5, fun i hi => hn _ ?_⟩
   have k5' : (zAB g a).args.length = (zAB h b).args.length := k5
   simp only [nxS, List.mem_reverse]
   exact zOf.2 ⟨i, hi, by omega, rfl⟩
  ·apply Classical.byContradiction
   intro hbc
   have := h3 _ _ hab hac (fun hh => hbc (Prod.mk.inj hh).2)
   rw [<- hfr _ hab] at hf
   simp [badS, hf] at this
  ·apply Classical.byContradiction
   intro hab
   have := h3 _ _ hac hbc (fun hh => hab (Prod.mk.inj hh).1)
   rw [<- hfr _ hac] at hf
   have hf2 : zEu (zAB g b) = true := by
    have q1 := (hal _ _).1 (h2 _ hac).2.1
    have q2 := (hal _ _).1 (h2 _ hbc).2.1
    simp only at q1 q2
    simpa only [zEu, q1.1, q1.2.2.1, <- q2.1, <- q2.2.2.1] using hf
   simp [badS, hf, hf2] at this
 ·rintro ⟨R, k⟩
  refine ⟨fun p => R p.1 p.2, k.root, fun p hp => ⟨zBH.2 (k.range _ _ hp), ?_, fun q hq => ?_⟩, fun p q hp hq hpq => ?_⟩
  ·obtain ⟨h1, h2, h3, h4, h5, _⟩ := k.node _ _ hp
   exact (hal _ _).2 ⟨h1, h2, h3, h4, h5⟩
  ·simp only [nxS, List.mem_reverse] at hq
   obtain ⟨i, h1, _, rfl⟩ := zOf.1 hq
   exact (k.node _ _ hp).2.2.2.2.2 i h1
  ·cases hb : badS g p q with
   | false => rfl
   | true =>
    simp only [badS, Bool.and_eq_true, Bool.or_eq_true, beq_iff_eq] at hb
    obtain ⟨⟨a0, a1⟩, _⟩ := k.range _ _ hp
    have hf : zAU (zAB g p.1) = true := by
     rw [<- zIs ((zBA cg).2 _ (zDS a0 a1))]; exact hb.1
    rcases hb.2.2 with h | h
    ·have := k.one p.1 p.2 q.2 hp (by rw [h]; exact hq) hf
     exact absurd (Prod.ext h this) hpq
    ·have := k.one' p.1 q.1 p.2 hp (by rw [h]; exact hq) hf
     exact absurd (Prod.ext this h) hpq
theorem zJM {l : List (List Nat)} (hr : Rises l) {i : Nat} {s : List Nat} (h : l[i]? = some s) : bsAt l s = i /\ bsIs l s = true := by
 have hi : i < l.length := (List.getElem?_eq_some_iff.1 h).1
 have h1 : bsAt l s = i := bs_split hr (by omega) (fun j x hj hx => hr j i hj x s hx h) (fun j x hj hx => by
  rcases Nat.eq_or_lt_of_le hj with rfl | hj
  ·rw [h] at hx; cases hx; exact zCt s
  ·cases hc : zBB x s with
   | false => rfl
   | true => exact absurd (zCW (hr i j hj s x h hx) hc) (by rw [zCt]; simp))
 refine ⟨h1, ?_⟩
 rw [bsIs, h1, h]; exact zBJ.2 rfl
theorem bs_mem {l : List (List Nat)} {s : List Nat} (h : bsIs l s = true) : l[bsAt l s]? = some s := by
 unfold bsIs at h
 split at h
 ·rename_i x hx; rw [hx, zBJ.1 h]
 ·cases h
theorem zEl {l : List (List Nat)} (hr : Rises l) {i j : Nat} {s : List Nat} (h1 : l[i]? = some s) (h2 : l[j]? = some s) : i = j := by
 rw [<- (zJM hr h1).1, (zJM hr h2).1]
theorem zFI : ∀ {a b : List (List Nat)}, Rises a -> Rises b -> (∀ s, s ∈ a ↔ s ∈ b) -> a = b
 | [], [], _, _, _ => rfl
 | [], y :: b, _, _, h => by have := (h y).2 (by simp); cases this
 | x :: a, [], _, _, h => by have := (h x).1 (by simp); cases this
 | x :: a, y :: b, ra, rb, h => by
  have tail : ∀ {z : List Nat} {l : List (List Nat)}, Rises (z :: l) -> Rises l /\ ∀ s ∈ l, zBB z s = true := fun {z l} hr => by
   refine ⟨fun i j hij u v hu hv => hr (i + 1) (j + 1) (by omega) u v (by simpa using hu) (by simpa using hv), fun s hs => ?_⟩
   obtain ⟨i, hi, rfl⟩ := List.mem_iff_getElem.1 hs
   exact hr 0 (i + 1) (by omega) z _ rfl (by simp)
  have hxy : x = y := by
   rcases zGU x y with hl | hl | hl
   ·have := (h x).1 (by simp)
    rcases List.mem_cons.1 this with h' | h'
    ·exact h'
    ·have := (tail rb).2 x h'
     exact absurd (zCW hl this) (by rw [zCt]; simp)
   ·exact hl
   ·have := (h y).2 (by simp)
    rcases List.mem_cons.1 this with h' | h'
    ·exact h'.symm
    ·have := (tail ra).2 y h'
     exact absurd (zCW hl this) (by rw [zCt]; simp)
  subst hxy
  have : a = b := zFI (tail ra).1 (tail rb).1 fun s => by
   constructor
   ·intro hs
    have := (h s).1 (by simp [hs])
    rcases List.mem_cons.1 this with rfl | h'
    ·have := (tail ra).2 _ hs; rw [zCt] at this; cases this
    ·exact h'
   ·intro hs
    have := (h s).2 (by simp [hs])
    rcases List.mem_cons.1 this with rfl | h'
    ·have := (tail rb).2 _ hs; rw [zCt] at this; cases this
    ·exact h'
  rw [this]
end Go.Ab.S
end
section
namespace Go.Ab.S
open Go.Ab
set_option maxHeartbeats 1000000
section
variable {g h k : Graph}
theorem zLR {L : Graph} {q : Int -> Int} (Q : Quo g L q) {i : Int} (hi : Rch g i) {j : Nat} (hj : j < (zAB g i).args.length) : (zAB L (q i)).args.getD j 0 = q ((zAB g i).args.getD j 0) := by
 rw [Q.node i hi]
 simp only [List.getD, List.getElem?_map, List.getElem?_eq_getElem hj]; rfl
theorem zCL {l : List Int} {i : Nat} (h : i < l.length) : l.getD i 0 ∈ l := by
 rw [List.getD, List.getElem?_eq_getElem h]; exact List.getElem_mem h
theorem zDA {i : Int} (hi : Rch g i) {j : Nat} (hj : j < (zAB g i).args.length) : Rch g ((zAB g i).args.getD j 0) := hi.step (zCL hj)
theorem zAl (cg : zAF g = 0) {a : Int} (ha : 0 <= a /\ a < g.nodes.length) : mayF (zAB g a) g.nodes.length = true := (zBA cg).2 _ (zFG ha)
theorem zEg {x y : Node} {N M : Int} (hx : mayF x N = true) (hl : x.labels = y.labels) {i : Nat} (hi : i < x.args.length) : idxI x y i = i := by
 rw [idxI]
 split
 ·rename_i hk
  have hk : x.kind = 3 := by simpa using hk
  rcases zAN hx with ⟨k', _⟩ | ⟨k', _⟩ | ⟨_, _, l1, r1⟩
  ·omega
  ·omega
  have hil : i < x.labels.length := by omega
  rw [<- hl]
  refine (zJM (zBF r1) ?_).1
  simp [List.getD, List.getElem?_eq_getElem hil]
 ·rfl
theorem ok_same {x y : Node} {N : Int} (hx : mayF x N = true) (hl : x.labels = y.labels) : zGG x y = true := by
 rw [zGG]
 split
 ·rename_i hk
  have hk : x.kind = 3 := by simpa using hk
  rcases zAN hx with ⟨k', _⟩ | ⟨k', _⟩ | ⟨_, _, l1, r1⟩
  ·omega
  ·omega
  rw [List.all_eq_true, <- hl]
  intro s hs
  obtain ⟨i, hi, rfl⟩ := List.mem_iff_getElem.1 hs
  exact (zJM (zBF r1) (List.getElem?_eq_getElem hi)).2
 ·rfl
theorem zFC (cg : zAF g = 0) (ch : zAF h = 0) {R : Int -> Int -> Prop} (K : SameR g h R) : ∃ S, InstR g (zAv h) S := by
 have Q := zCa ch
 refine ⟨fun a z => ∃ b, R a b /\ Rch h b /\ z = qL h b, ⟨_, K.root, .root, Q.root⟩, ?_, ?_, ?_⟩
 ·rintro a _ ⟨b, h1, h2, rfl⟩
  exact ⟨(K.range a b h1).1, Q.range b h2⟩
 ·rintro a _ ⟨b, h1, h2, rfl⟩
  obtain ⟨k1, k2, k3, k4, k5, k6⟩ := K.node a b h1
  have hm := zAl cg (K.range a b h1).1
  by_cases hk : (zAB g a).kind = 1
  ·exact .inl hk
  have hn := Q.node b h2
  have hlab : (zAB g a).labels = (zAB (zAv h) (qL h b)).labels := by rw [hn]; exact k4
  refine .inr ⟨hk, by rw [hn]; exact k1, by rw [hn]; exact k2, ?_, ok_same hm hlab, fun i hi => ?_⟩
  ·cases ho : (zAB g a).isOpen
   ·exact .inr ⟨by rw [hn]; show (zAB h b).isOpen = false; rw [<- k3]; exact ho, hlab⟩
   ·exact .inl rfl
  ·rw [zEg (M := 0) hm hlab hi, zLR Q h2 (by omega)]
   exact ⟨_, k6 i hi, zDA h2 (by omega), rfl⟩
 ·rintro a _ _ ⟨b, h1, _, rfl⟩ ⟨b', h1', _, rfl⟩ hf
  rw [K.one a b b' h1 h1' hf]
theorem zON (g : Graph) (cg : zAF g = 0) : ∃ R, SameR g g R :=
 ⟨fun a b => a = b /\ Rch g a, ⟨rfl, .root⟩, fun a b hab => by obtain ⟨rfl, hr⟩ := hab; exact ⟨hr.ok cg, hr.ok cg⟩, fun a b hab => by
  obtain ⟨rfl, hr⟩ := hab
  exact ⟨rfl, rfl, rfl, rfl, rfl, fun i hi => ⟨rfl, zDA hr hi⟩⟩, fun a b c h1 h2 _ => by rw [<- h1.1, <- h2.1], fun a b c h1 h2 _ => by rw [h1.1, h2.1]⟩
theorem zEF (cg : zAF g = 0) (ch : zAF h = 0) {S : Int -> Int -> Prop} (K : InstR g (zAv h) S) {a b : Int} (hb : Rch h b) (hab : S a (qL h b)) :
  (zAB g a).kind = 1 \/ ((zAB g a).kind ≠ 1 /\ (zAB g a).kind = (zAB h b).kind /\ (zAB g a).name = (zAB h b).name /\ ((zAB g a).isOpen = true \/ ((zAB h b).isOpen = false /\ (zAB g a).labels = (zAB h b).labels)) /\ ((zAB g a).kind = 3 -> ∀ s ∈ (zAB g a).labels, s ∈ (zAB h b).labels) ∧
  ∀ i, i < (zAB g a).args.length -> idxI (zAB g a) (zAB h b) i < (zAB h b).args.length /\ S ((zAB g a).args.getD i 0) (qL h ((zAB h b).args.getD (idxI (zAB g a) (zAB h b) i) 0))) := by
 have Q := zCa ch
 have hn := Q.node b hb
 have mg := zAl cg (K.range _ _ hab).1
 have mh := zAl ch (hb.ok ch)
 rcases K.node a _ hab with h1 | ⟨h1, h2, h3, h4, h5, h6⟩
 ·exact .inl h1
 have e2 : (zAB (zAv h) (qL h b)).kind = (zAB h b).kind := by rw [hn]
 have e3 : (zAB (zAv h) (qL h b)).name = (zAB h b).name := by rw [hn]
 have e4 : (zAB (zAv h) (qL h b)).isOpen = (zAB h b).isOpen := by rw [hn]
 have e5 : (zAB (zAv h) (qL h b)).labels = (zAB h b).labels := by rw [hn]
 have eidx : ∀ i, idxI (zAB g a) (zAB (zAv h) (qL h b)) i = idxI (zAB g a) (zAB h b) i := fun i => by rw [idxI, idxI, e5]
 rw [e2] at h2
 rw [e3] at h3
 rw [e4, e5] at h4
 have hfound : (zAB g a).kind = 3 -> ∀ s ∈ (zAB g a).labels, bsIs (zAB h b).labels s = true := by
  intro hk s hs
  have hk' : ((zAB g a).kind == 3) = true := by simpa using hk
  rw [zGG, hk', e5] at h5
  simp only [if_true, List.all_eq_true] at h5
  exact h5 s hs
 refine .inr ⟨h1, h2, h3, h4, fun hk s hs => List.mem_of_getElem? (bs_mem (hfound hk s hs)), fun i hi => ?_⟩
 have hidx : idxI (zAB g a) (zAB h b) i < (zAB h b).args.length := by
  by_cases hk : (zAB g a).kind = 3
  ·have hk' : ((zAB g a).kind == 3) = true := by simpa using hk
   rcases zAN mg with ⟨k', _⟩ | ⟨k', _⟩ | ⟨_, _, l1, _⟩
   ·omega
   ·omega
   rcases zAN mh with ⟨k', _⟩ | ⟨k', _⟩ | ⟨_, _, l2, _⟩
   ·omega
   ·omega
   have hil : i < (zAB g a).labels.length := by omega
   have := zNN (hfound hk _ (List.getElem_mem hil))
   rw [idxI, hk']
   simp only [if_true, List.getD, List.getElem?_eq_getElem hil, Option.getD_some]
   omega
  ·have hk' : ((zAB g a).kind == 3) = false := by simpa using hk
   rw [idxI, hk']
   rcases zAN mg with ⟨k', _⟩ | ⟨k', _, _, _, l1⟩ | ⟨k', _⟩
   ·omega
   ·rcases zAN mh with ⟨k'', _⟩ | ⟨k'', _, _, _, l2⟩ | ⟨k'', _⟩
    ·omega
    ·simp only [Bool.false_eq_true, if_false]; rw [l2, <- h3, <- l1]; exact hi
    ·omega
   ·omega
 refine ⟨hidx, ?_⟩
 have := h6 i hi
 rw [eidx, zLR Q hb hidx] at this
 exact this
theorem zKu (cg : zAF g = 0) (ch : zAF h = 0) {S : Int -> Int -> Prop} {T : Int -> Int -> Prop} (K : InstR g (zAv h) S) (J : InstR h (zAv g) T) : ∃ R, SameR g h R := by
 have Qh := zCa ch
 have Qg := zCa cg
 have key : ∀ a b, Rch g a -> Rch h b -> S a (qL h b) -> T b (qL g a) -> (zAB g a).kind = (zAB h b).kind /\ (zAB g a).name = (zAB h b).name /\ (zAB g a).isOpen = (zAB h b).isOpen /\ (zAB g a).labels = (zAB h b).labels /\ (zAB g a).args.length = (zAB h b).args.length := by
  intro a b ha hb h1 h2
  have ma := zAl cg (ha.ok cg)
  have mb := zAl ch (hb.ok ch)
  have na := zEF cg ch K hb h1
  have nb := zEF ch cg J ha h2
  rcases na with k1 | ⟨k1, k2, k3, k4, k5, _⟩
  ·have hkb : (zAB h b).kind = 1 := by
    rcases nb with q | ⟨_, q, _⟩
    ·exact q
    ·rw [q]; exact k1
   rcases zAN ma with ⟨_, l1, o1, n1', a1⟩ | ⟨q, _⟩ | ⟨q, _⟩
   ·rcases zAN mb with ⟨_, l2, o2, n2, a2⟩ | ⟨q, _⟩ | ⟨q, _⟩
    ·rw [k1, hkb, l1, l2, o1, o2, n1', n2, a1, a2]; exact ⟨rfl, rfl, rfl, rfl, rfl⟩
    ·omega
    ·omega
   ·omega
   ·omega
  ·rcases nb with q | ⟨_, _, _, q4, q5, _⟩
   ·omega
   have ho : (zAB g a).isOpen = (zAB h b).isOpen := by
    cases o1 : (zAB g a).isOpen <;> cases o2 : (zAB h b).isOpen
    ·rfl
    ·rcases k4 with k4 | k4
     ·rw [o1] at k4; cases k4
     ·rw [o2] at k4; cases k4.1
    ·rcases q4 with q4 | q4
     ·rw [o2] at q4; cases q4
     ·rw [o1] at q4; cases q4.1
    ·rfl
   rcases zAN ma with ⟨q, _⟩ | ⟨q, l1, o1, n1', a1⟩ | ⟨q, n1', a1, r1⟩
   ·omega
   ·rcases zAN mb with ⟨q', _⟩ | ⟨q', l2, o2, n2, a2⟩ | ⟨q', _⟩
    ·omega
    ·exact ⟨k2, k3, ho, by rw [l1, l2], by rw [a1, a2, k3]⟩
    ·omega
   ·rcases zAN mb with ⟨q', _⟩ | ⟨q', _⟩ | ⟨q', n2, a2, r2⟩
    ·omega
    ·omega
    ·have hl : (zAB g a).labels = (zAB h b).labels := zFI (zBF r1) (zBF r2) fun s => ⟨k5 q s, q5 q' s⟩
     exact ⟨k2, k3, ho, hl, by rw [<- a1, <- a2, hl]⟩
 refine ⟨fun a b => Rch g a /\ Rch h b /\ S a (qL h b) /\ T b (qL g a), ⟨.root, .root, ?_, ?_⟩, ?_, ?_, ?_, ?_⟩
 ·rw [<- Qh.root]; exact K.root
 ·rw [<- Qg.root]; exact J.root
 ·rintro a b ⟨ha, hb, _⟩; exact ⟨ha.ok cg, hb.ok ch⟩
 ·rintro a b ⟨ha, hb, h1, h2⟩
  obtain ⟨k1, k2, k3, k4, k5⟩ := key a b ha hb h1 h2
  refine ⟨k1, k2, k3, k4, k5, fun i hi => ⟨zDA ha hi, zDA hb (by omega), ?_, ?_⟩⟩
  ·rcases zEF cg ch K hb h1 with q | ⟨_, _, _, _, _, q⟩
   ·rcases zAN (zAl cg (ha.ok cg)) with ⟨_, _, _, _, a1⟩ | ⟨q', _⟩ | ⟨q', _⟩
    ·rw [a1] at hi; simp at hi
    ·omega
    ·omega
   ·have := (q i hi).2
    rwa [zEg (M := 0) (zAl cg (ha.ok cg)) k4 hi] at this
  ·rcases zEF ch cg J ha h2 with q | ⟨_, _, _, _, _, q⟩
   ·rcases zAN (zAl ch (hb.ok ch)) with ⟨_, _, _, _, a1⟩ | ⟨q', _⟩ | ⟨q', _⟩
    ·rw [k5, a1] at hi; simp at hi
    ·omega
    ·omega
   ·have := (q i (by omega)).2
    rwa [zEg (M := 0) (zAl ch (hb.ok ch)) k4.symm (by omega)] at this
 ·rintro a b c ⟨ha, hb, h1, h2⟩ ⟨_, hc, h1', _⟩ hf
  have := K.one a _ _ h1 h1' hf
  refine Qh.inj b c hb hc ?_ this
  obtain ⟨k1, _, k3, _⟩ := key a b ha hb h1 h2
  simpa only [zAU, k1, k3] using hf
 ·rintro a b c ⟨ha, hc, h1, h2⟩ ⟨hb, _, h1', h2'⟩ hf
  obtain ⟨k1, _, k3, _⟩ := key a c ha hc h1 h2
  have hfc : zAU (zAB h c) = true := by simpa only [zAU, k1, k3] using hf
  exact Qg.inj a b ha hb hf (J.one c _ _ h2 h2' hfc)
theorem zMk (cg : zAF g = 0) (ch : zAF h = 0) (ck : zAF k = 0) {S T : Int -> Int -> Prop} (K : InstR g (zAv h) S) (J : InstR h (zAv k) T) : ∃ U, InstR g (zAv k) U := by
 have Qh := zCa ch
 have Qk := zCa ck
 have hmin := zLM ck
 -- what two nodes of one class are matched with is one
 have uniq : ∀ b b' z z', Rch h b -> Rch h b' -> qL h b = qL h b' -> T b z -> T b' z' -> z = z' := by
  intro b b' z z' hb hb' he h1 h2
  refine hmin (fun x y => ∃ b b', Rch h b /\ Rch h b' /\ qL h b = qL h b' /\ T b x /\ T b' y) ?_ z z' ⟨b, b', hb, hb', he, h1, h2⟩
  rintro x y ⟨b, b', hb, hb', he, h1, h2⟩
  refine ⟨(J.range _ _ h1).2, (J.range _ _ h2).2, ?_⟩
  by_cases hf : zAU (zAB h b) = true
  ·have := Qh.inj b b' hb hb' hf he
   subst this
   exact .inl (J.one b x y h1 h2 hf)
  have hf0 : zAU (zAB h b) = false := by simpa using hf
  have nb := Qh.node b hb
  have nb' := Qh.node b' hb'
  rw [he, nb'] at nb
  have f1 := congrArg Node.kind nb
  have f2 := congrArg Node.name nb
  have f3 := congrArg Node.args nb
  have f4 := congrArg Node.labels nb
  have f5 := congrArg Node.isOpen nb
  simp only at f1 f2 f3 f4 f5
  simp only [zAU, Bool.or_eq_false_iff, beq_eq_false_iff_ne] at hf0
  have mb := zAl ch (hb.ok ch)
  have mb' := zAl ch (hb'.ok ch)
  rcases J.node b x h1 with q | ⟨_, q1, q2, q3, q4, q5⟩
  ·exact absurd q hf0.1
  rcases J.node b' y h2 with q | ⟨_, r1, r2, r3, r4, r5⟩
  ·rw [f1] at q; exact absurd q hf0.1
  rcases q3 with q3 | ⟨q3, q3'⟩
  ·rw [hf0.2] at q3; cases q3
  rcases r3 with r3 | ⟨r3, r3'⟩
  ·rw [f5, hf0.2] at r3; cases r3
  have cL := Qk.check
  have mx := zAl cL (J.range _ _ h1).2
  have my := zAl cL (J.range _ _ h2).2
  have hal : (zAB h b).args.length = (zAB (zAv k) x).args.length := by
   rcases zAN mb with ⟨k', _⟩ | ⟨k', _, _, _, l1⟩ | ⟨k', _, l1, _⟩
   ·exact absurd k' hf0.1
   ·rcases zAN mx with ⟨k'', _⟩ | ⟨_, _, _, _, l2⟩ | ⟨k'', _⟩
    ·omega
    ·rw [l1, l2, q2]
    ·omega
   ·rcases zAN mx with ⟨k'', _⟩ | ⟨k'', _⟩ | ⟨_, _, l2, _⟩
    ·omega
    ·omega
    ·rw [<- l1, <- l2, q3']
  have hal' : (zAB h b').args.length = (zAB (zAv k) y).args.length := by
   rcases zAN mb' with ⟨k', _⟩ | ⟨k', _, _, _, l1⟩ | ⟨k', _, l1, _⟩
   ·rw [f1] at k'; exact absurd k' hf0.1
   ·rcases zAN my with ⟨k'', _⟩ | ⟨_, _, _, _, l2⟩ | ⟨k'', _⟩
    ·omega
    ·rw [l1, l2, r2]
    ·omega
   ·rcases zAN my with ⟨k'', _⟩ | ⟨k'', _⟩ | ⟨_, _, l2, _⟩
    ·omega
    ·omega
    ·rw [<- l1, <- l2, r3']
  have hab : (zAB h b').args.length = (zAB h b).args.length := by simpa using congrArg List.length f3
  refine .inr ⟨?_, ?_, by rw [<- q1, <- r1, f1], by rw [<- q2, <- r2, f2], by rw [<- q3', <- r3', f4], by omega, fun j c d hc hd => ?_⟩
  ·simp only [zAU, q3, Bool.or_false, beq_eq_false_iff_ne]; rw [<- q1]; exact hf0.1
  ·simp only [zAU, r3, Bool.or_false, beq_eq_false_iff_ne]; rw [<- r1, f1]; exact hf0.1
  ·have hj : j < (zAB h b).args.length := by
    have := (List.getElem?_eq_some_iff.1 hc).1; omega
   have hj' : j < (zAB h b').args.length := by omega
   have t1 := q5 j hj
   have t2 := r5 j hj'
   rw [zEg (M := 0) mb q3' hj] at t1
   rw [zEg (M := 0) mb' r3' hj'] at t2
   rw [show (zAB (zAv k) x).args.getD j 0 = c by rw [List.getD, hc]; rfl] at t1
   rw [show (zAB (zAv k) y).args.getD j 0 = d by rw [List.getD, hd]; rfl] at t2
   refine ⟨_, _, zDA hb hj, zDA hb' hj', ?_, t1, t2⟩
   have := congrArg (fun l => l[j]?) f3
   simp only [List.getElem?_map, List.getElem?_eq_getElem hj, List.getElem?_eq_getElem hj', Option.map_some, oI] at this
   rw [List.getD, List.getD, List.getElem?_eq_getElem hj, List.getElem?_eq_getElem hj']
   exact this.symm
 refine ⟨fun a z => ∃ b, Rch h b /\ S a (qL h b) /\ T b z, ⟨h.root, .root, by rw [<- Qh.root]; exact K.root, J.root⟩, ?_, ?_, ?_⟩
 ·rintro a z ⟨b, hb, h1, h2⟩; exact ⟨(K.range _ _ h1).1, (J.range _ _ h2).2⟩
 ·rintro a z ⟨b, hb, h1, h2⟩
  have ma := zAl cg (K.range _ _ h1).1
  have mb := zAl ch (hb.ok ch)
  have mz := zAl Qk.check (J.range _ _ h2).2
  rcases zEF cg ch K hb h1 with q | ⟨q0, q1, q2, q3, q4, q5⟩
  ·exact .inl q
  rcases J.node b z h2 with r | ⟨r0, r1, r2, r3, r4, r5⟩
  ·rw [<- q1] at r; exact absurd r q0
  have hlz : (zAB h b).kind = 3 -> ∀ s ∈ (zAB h b).labels, bsIs (zAB (zAv k) z).labels s = true := fun hk s hs => by
   have hk' : ((zAB h b).kind == 3) = true := by simpa using hk
   rw [zGG, hk'] at r4
   simp only [if_true, List.all_eq_true] at r4
   exact r4 s hs
  refine .inr ⟨q0, q1.trans r1, q2.trans r2, ?_, ?_, fun i hi => ?_⟩
  ·rcases q3 with q3 | ⟨q3, q3'⟩
   ·exact .inl q3
   ·rcases r3 with r3 | ⟨r3, r3'⟩
    ·rw [q3] at r3; cases r3
    ·exact .inr ⟨r3, q3'.trans r3'⟩
  ·rw [zGG]
   split
   ·rename_i hk
    have hk : (zAB g a).kind = 3 := by simpa using hk
    rw [List.all_eq_true]
    intro s hs
    exact hlz (by omega) s (q4 hk s hs)
   ·rfl
  ·obtain ⟨hidx, hs⟩ := q5 i hi
   refine ⟨_, zDA hb hidx, hs, ?_⟩
   have := r5 _ hidx
   have he : idxI (zAB h b) (zAB (zAv k) z) (idxI (zAB g a) (zAB h b) i) = idxI (zAB g a) (zAB (zAv k) z) i := by
    by_cases hk : (zAB g a).kind = 3
    ·have hk' : ((zAB g a).kind == 3) = true := by simpa using hk
     have hkb' : ((zAB h b).kind == 3) = true := by rw [<- q1]; exact hk'
     rcases zAN ma with ⟨k', _⟩ | ⟨k', _⟩ | ⟨_, _, l1, _⟩
     ·omega
     ·omega
     have hil : i < (zAB g a).labels.length := by omega
     have hsg : (zAB g a).labels.getD i [] = (zAB g a).labels[i] := by simp [List.getD, List.getElem?_eq_getElem hil]
     have hin := q4 hk _ (List.getElem_mem hil)
     rcases zAN mb with ⟨k', _⟩ | ⟨k', _⟩ | ⟨_, _, l2, r2'⟩
     ·omega
     ·omega
     obtain ⟨j, hj, hje⟩ := List.mem_iff_getElem.1 hin
     have hbs := zJM (zBF r2') (show (zAB h b).labels[j]? = some (zAB g a).labels[i] by rw [List.getElem?_eq_getElem hj, hje])
     simp only [idxI, hk', hkb', if_true, hsg, hbs.1]
     rw [List.getD, List.getElem?_eq_getElem hj, hje]; rfl
    ·have hk' : ((zAB g a).kind == 3) = false := by simpa using hk
     have hkb' : ((zAB h b).kind == 3) = false := by rw [<- q1]; exact hk'
     simp [idxI, hk', hkb']
   rwa [he] at this
 ·rintro a z z' ⟨b, hb, h1, h2⟩ ⟨b', hb', h1', h2'⟩ hf
  exact uniq b b' z z' hb hb' (K.one a _ _ h1 h1' hf) h2 h2'
end
end Go.Ab.S
end
section
namespace Go.Ab.S
open Go.Ab
set_option maxHeartbeats 1000000
section
variable {g h k : Graph}
end
def gV : Graph := ⟨[⟨1, [], [], [], false⟩], 0⟩
theorem zGQ (g : Graph) : g.nodes.length + zAk [] g.nodes 0 <= zDO g := by
 have : ∀ (ns : List Node) (i : Nat), zAk [] ns i <= sumL zBr ns := by
  intro ns
  induction ns with
  | nil => intro i; simp [zAk, sumL]
  | cons n r ih => intro i; simp only [zAk, sumL, zBr]; have := ih (i + 1); simp; omega
 have := this g.nodes 0
 simp only [zDO]; omega
theorem zIt {g : Graph} {n : Node} (hn : n ∈ g.nodes) : zBr n <= zDO g := by
 have : ∀ (ns : List Node), n ∈ ns -> zBr n <= sumL zBr ns := by
  intro ns
  induction ns with
  | nil => intro h; cases h
  | cons m r ih =>
   intro h
   simp only [sumL]
   rcases List.mem_cons.1 h with rfl | h
   ·omega
   ·have := ih h; omega
 have := this g.nodes hn
 simp only [zDO]; omega
structure Sane (g : Graph) : Prop where
 great : zDO g < 2 ^ 60
 sm : GraphSm g
theorem Sane.tiny {g : Graph} (h : Sane g) (hg : zDO g <= 300) : GTi g := by
 have e30 : (2 : Nat) ^ 30 = 1073741824 := by decide
 have h1 := zGQ g
 refine ⟨⟨h.sm, by omega, fun n hn => ?_⟩, by omega, fun n hn => ?_⟩
 ·have := zIt hn
  simp only [zBr] at this; omega
 ·have := zIt hn
  simp only [zBr] at this; omega
end Go.Ab.S
end
section
namespace Go.Ab.S
open Go Go.Ab
set_option maxHeartbeats 1000000
def InG (g : Graph) (a : Int) : Prop := 0 <= a /\ a < g.nodes.length
inductive Uni (g : Graph) (ps : List Pr) : Int -> Int -> Prop
 | refl {a : Int} : InG g a -> Uni g ps a a
 | symm {a b : Int} : Uni g ps a b -> Uni g ps b a
 | trans {a b c : Int} : Uni g ps a b -> Uni g ps b c -> Uni g ps a c
 | pair {a b : Int} : (a, b) ∈ ps -> InG g a -> InG g b -> Uni g ps a b
 | con {a b : Int} {i : Nat} : Uni g ps a b -> (zAB g a).kind = 2 -> (zAB g b).kind = 2 -> (zAB g a).name = (zAB g b).name -> i < (zAB g a).args.length -> Uni g ps ((zAB g a).args.getD i 0) ((zAB g b).args.getD i 0)
 | obj {a b : Int} {i j : Nat} {l : List Nat} : Uni g ps a b -> (zAB g a).kind = 3 -> (zAB g b).kind = 3 -> (zAB g a).labels[i]? = some l -> (zAB g b).labels[j]? = some l -> Uni g ps ((zAB g a).args.getD i 0) ((zAB g b).args.getD j 0)
def okP (x y : Node) : Prop := x.kind = 1 \/ y.kind = 1 \/ (x.kind = y.kind /\ x.name = y.name /\ (x.kind = 3 -> (x.isOpen = false -> ∀ l ∈ y.labels, l ∈ x.labels) /\ (y.isOpen = false -> ∀ l ∈ x.labels, l ∈ y.labels)))
def Consi (g : Graph) (ps : List Pr) : Prop := ∀ a b, Uni g ps a b -> okP (zAB g a) (zAB g b)
structure Clz where
 kind : Int
 name : List Nat
 args : List Int
 fields : List (List Nat × Int)
 isOpen : Bool
structure ClzOK (g : Graph) (rt : Int -> Int) (r : Int) (c : Clz) : Prop where
 like : ∀ m, InG g m -> rt m = r -> (zAB g m).kind = 1 \/ ((zAB g m).kind = c.kind /\ (zAB g m).name = c.name)
 one : ∃ m, InG g m /\ rt m = r /\ (zAB g m).kind = c.kind /\ (zAB g m).name = c.name
 args : c.kind = 2 -> ∃ m, InG g m /\ rt m = r /\ (zAB g m).kind = 2 /\ c.args = (zAB g m).args
 noargs : c.kind ≠ 2 -> c.args = []
 nofields : c.kind ≠ 3 -> c.fields = [] /\ c.isOpen = false
 keys : ∀ l, (∃ a, (l, a) ∈ c.fields) ↔ ∃ m, InG g m /\ rt m = r /\ (zAB g m).kind = 3 /\ l ∈ (zAB g m).labels
 vals : ∀ l a, (l, a) ∈ c.fields -> ∃ m i, InG g m /\ rt m = r /\ (zAB g m).kind = 3 /\ (zAB g m).labels[i]? = some l /\ (zAB g m).args.getD i 0 = a
 opn : c.kind = 3 -> (c.isOpen = true ↔ ∀ m, InG g m -> rt m = r -> (zAB g m).kind = 3 -> (zAB g m).isOpen = true)
 shut : ∀ m, InG g m -> rt m = r -> (zAB g m).kind = 3 -> (zAB g m).isOpen = false -> ∀ l a, (l, a) ∈ c.fields -> l ∈ (zAB g m).labels
 nodup : (c.fields.map (·.1)).Nodup
def Due (g : Graph) (rt : Int -> Int) (ws : List Pr) (a b : Int) : Prop := ∀ E : Int -> Int -> Prop, Equivalence E -> (∀ i j, InG g i -> InG g j -> rt i = rt j -> E i j) -> (∀ p ∈ ws, E p.1 p.2) -> E a b
structure UInv (g : Graph) (ps : List Pr) (rt : Int -> Int) (has : Int -> Clz) (ws : List Pr) : Prop where
 rng : ∀ a, InG g a -> InG g (rt a) /\ rt (rt a) = rt a
 cls : ∀ r, InG g r -> rt r = r -> ClzOK g rt r (has r)
 sound : ∀ a b, InG g a -> InG g b -> rt a = rt b -> Uni g ps a b
 waits : ∀ p ∈ ws, Uni g ps p.1 p.2
 prs : ∀ p ∈ ps, Due g rt ws p.1 p.2
 con : ∀ m, InG g m -> (zAB g m).kind = 2 -> ∀ i, i < (zAB g m).args.length -> Due g rt ws ((zAB g m).args.getD i 0) ((has (rt m)).args.getD i 0)
 obj : ∀ m i l a, InG g m -> (zAB g m).kind = 3 -> (zAB g m).labels[i]? = some l -> (l, a) ∈ (has (rt m)).fields -> Due g rt ws ((zAB g m).args.getD i 0) a
theorem zGl {g : Graph} (hc : zAF g = 0) {a b : Int} (ha : InG g a) (hb : InG g b) (k1 : (zAB g a).kind = 2) (k2 : (zAB g b).kind = 2) (hn : (zAB g a).name = (zAB g b).name) : (zAB g a).args.length = (zAB g b).args.length := by
 rcases zAN (zAl hc ha) with ⟨q, _⟩ | ⟨_, _, _, _, l1⟩ | ⟨q, _⟩
 ·omega
 ·rcases zAN (zAl hc hb) with ⟨q, _⟩ | ⟨_, _, _, _, l2⟩ | ⟨q, _⟩
  ·omega
  ·rw [l1, l2, hn]
  ·omega
 ·omega
theorem zCX {g : Graph} (hc : zAF g = 0) {a : Int} (ha : InG g a) (k : (zAB g a).kind = 3) : (zAB g a).labels.length = (zAB g a).args.length /\ Rises (zAB g a).labels /\ (zAB g a).name = [] := by
 rcases zAN (zAl hc ha) with ⟨q, _⟩ | ⟨q, _⟩ | ⟨_, hn, hl, hr⟩
 ·omega
 ·omega
 ·exact ⟨hl, zBF hr, hn⟩
theorem Uni.inG {g : Graph} (hc : zAF g = 0) {ps : List Pr} {a b : Int} (h : Uni g ps a b) : InG g a /\ InG g b := by
 induction h with
 | refl h => exact ⟨h, h⟩
 | symm _ ih => exact ih.symm
 | trans _ _ h1 h2 => exact ⟨h1.1, h2.2⟩
 | pair _ h1 h2 => exact ⟨h1, h2⟩
 | @con a b i _ ka kb hn hi ih =>
  have := zGl hc ih.1 ih.2 ka kb hn
  exact ⟨zAu (zAl hc ih.1) _ (zCL hi), zAu (zAl hc ih.2) _ (zCL (by omega))⟩
 | @obj a b i j l _ ka kb hi hj ih =>
  have h1 := (zCX hc ih.1 ka).1
  have h2 := (zCX hc ih.2 kb).1
  have h3 := (List.getElem?_eq_some_iff.1 hi).1
  have h4 := (List.getElem?_eq_some_iff.1 hj).1
  exact ⟨zAu (zAl hc ih.1) _ (zCL (by omega)), zAu (zAl hc ih.2) _ (zCL (by omega))⟩
section
variable {g : Graph} {ps : List Pr} {rt : Int -> Int} {has : Int -> Clz} {ws : List Pr}
theorem Due.refl (a : Int) : Due g rt ws a a := fun _ hE _ _ => hE.refl a
theorem Due.symm {a b : Int} (h : Due g rt ws a b) : Due g rt ws b a := fun E hE h1 h2 => hE.symm (h E hE h1 h2)
theorem Due.trans {a b c : Int} (h : Due g rt ws a b) (k : Due g rt ws b c) : Due g rt ws a c := fun E hE h1 h2 => hE.trans (h E hE h1 h2) (k E hE h1 h2)
theorem Due.more {rt' : Int -> Int} {ws' : List Pr} (h1 : ∀ i j, InG g i -> InG g j -> rt i = rt j -> Due g rt' ws' i j) (h2 : ∀ p ∈ ws, Due g rt' ws' p.1 p.2) {a b : Int} (h : Due g rt ws a b) : Due g rt' ws' a b :=
 fun E hE k1 k2 => h E hE (fun i j hi hj hij => h1 i j hi hj hij E hE k1 k2) fun p hp => h2 p hp E hE k1 k2
theorem Due.wait {p : Pr} (h : p ∈ ws) : Due g rt ws p.1 p.2 := fun _ _ _ h2 => h2 p h
theorem Due.same {a b : Int} (ha : InG g a) (hb : InG g b) (h : rt a = rt b) : Due g rt ws a b := fun _ _ h1 _ => h1 a b ha hb h
theorem Due.done {a b : Int} (h : Due g rt [] a b) : rt a = rt b :=
 h (fun i j => rt i = rt j) ⟨fun _ => rfl, fun h => h.symm, fun h k => h.trans k⟩ (fun _ _ _ _ h => h) fun p hp => by cases hp
theorem UInv.drop (hc : zAF g = 0) {p : Pr} (I : UInv g ps rt has (p :: ws)) (h : rt p.1 = rt p.2) : UInv g ps rt has ws := by
 have hp := (I.waits p (by simp)).inG hc
 have hD : ∀ {a b : Int}, Due g rt (p :: ws) a b -> Due g rt ws a b := fun k => k.more (fun i j hi hj hij => .same hi hj hij) fun q hq => by
  rcases List.mem_cons.1 hq with rfl | hq
  ·exact .same hp.1 hp.2 h
  ·exact .wait hq
 exact ⟨I.rng, I.cls, I.sound, fun q hq => I.waits q (by simp [hq]), fun q hq => hD (I.prs q hq), fun m hm hk i hi => hD (I.con m hm hk i hi), fun m i l a hm hk hl ha => hD (I.obj m i l a hm hk hl ha)⟩
theorem UInv.ok (I : UInv g ps rt has ws) {a b : Int} (ha : InG g a) (hb : InG g b) (h : rt a = rt b) : okP (zAB g a) (zAB g b) := by
 obtain ⟨hr, hrr⟩ := I.rng a ha
 have C := I.cls _ hr hrr
 rcases C.like a ha rfl with k | ⟨k1, k2⟩
 ·exact .inl k
 rcases C.like b hb h.symm with k | ⟨k3, k4⟩
 ·exact .inr (.inl k)
 refine .inr (.inr ⟨by rw [k1, k3], by rw [k2, k4], fun k => ⟨fun ho l hl => ?_, fun ho l hl => ?_⟩⟩)
 ·obtain ⟨v, hv⟩ := (C.keys l).2 ⟨b, hb, h.symm, by rw [k3, <- k1]; exact k, hl⟩
  exact C.shut a ha rfl k ho l v hv
 ·obtain ⟨v, hv⟩ := (C.keys l).2 ⟨a, ha, rfl, k, hl⟩
  exact C.shut b hb h.symm (by rw [k3, <- k1]; exact k) ho l v hv
theorem UInv.fin (hc : zAF g = 0) (I : UInv g ps rt has []) : (∀ a b, InG g a -> InG g b -> (rt a = rt b ↔ Uni g ps a b)) /\ Consi g ps := by
 have h1 : ∀ a b, Uni g ps a b -> rt a = rt b := by
  intro a b h
  induction h with
  | refl => rfl
  | symm _ ih => exact ih.symm
  | trans _ _ h1 h2 => exact h1.trans h2
  | pair h _ _ => exact (I.prs _ h).done
  | @con a b i hu ka kb hn hi ih =>
   have hin := hu.inG hc
   have e1 := (I.con a hin.1 ka i hi).done
   have e2 := (I.con b hin.2 kb i (by rw [<- zGl hc hin.1 hin.2 ka kb hn]; exact hi)).done
   rw [e1, e2, ih]
  | @obj a b i j l hu ka kb hi hj ih =>
   have hin := hu.inG hc
   obtain ⟨hr, hrr⟩ := I.rng a hin.1
   obtain ⟨v, hv⟩ := ((I.cls _ hr hrr).keys l).2 ⟨a, hin.1, rfl, ka, List.mem_of_getElem? hi⟩
   have e1 := (I.obj a i l v hin.1 ka hi hv).done
   have e2 := (I.obj b j l v hin.2 kb hj (by rw [<- ih]; exact hv)).done
   rw [e1, e2]
 exact ⟨fun a b ha hb => ⟨I.sound a b ha hb, h1 a b⟩, fun a b h => I.ok (h.inG hc).1 (h.inG hc).2 (h1 a b h)⟩
inductive Merge (cy cx : Clz) : Clz -> List Pr -> Prop
 | varY : cy.kind = 1 -> Merge cy cx cx []
 | varX : cy.kind ≠ 1 -> cx.kind = 1 -> Merge cy cx cy []
 | con : cy.kind = 2 -> cx.kind = 2 -> cy.name = cx.name -> Merge cy cx cy ((List.range cy.args.length).map fun i => (cy.args.getD i 0, cx.args.getD i 0))
 | obj {c : Clz} {new : List Pr} : cy.kind = 3 -> cx.kind = 3 -> cy.name = cx.name -> c.kind = 3 -> c.name = cx.name -> c.args = [] →
   (∀ l a, (l, a) ∈ c.fields ↔ (l, a) ∈ cx.fields \/ ((l, a) ∈ cy.fields /\ ∀ b, (l, b) ∉ cx.fields)) -> (c.fields.map (·.1)).Nodup -> c.isOpen = (cx.isOpen && cy.isOpen) →
   (cx.isOpen = false -> ∀ l a, (l, a) ∈ cy.fields -> ∃ b, (l, b) ∈ cx.fields) -> (cy.isOpen = false -> ∀ l a, (l, a) ∈ cx.fields -> ∃ b, (l, b) ∈ cy.fields) →
   (∀ q, q ∈ new ↔ ∃ l, (l, q.1) ∈ cy.fields /\ (l, q.2) ∈ cx.fields) -> Merge cy cx c new
def Clash (cy cx : Clz) : Prop := cy.kind ≠ 1 /\ cx.kind ≠ 1 /\ (cy.kind ≠ cx.kind \/ cy.name ≠ cx.name \/ (cy.kind = 3 /\ cx.kind = 3 /\ ((cx.isOpen = false /\ ∃ l a, (l, a) ∈ cy.fields /\ ∀ b, (l, b) ∉ cx.fields) \/ (cy.isOpen = false /\ ∃ l a, (l, a) ∈ cx.fields /\ ∀ b, (l, b) ∉ cy.fields))))
theorem UInv.clash (I : UInv g ps rt has ws) {p : Pr} (hp : p ∈ ws) {x y : Int} (hx : InG g x) (hy : InG g y) (kx : rt x = x) (ky : rt y = y) (hU : Uni g ps x y) (hcl : Clash (has y) (has x)) : ¬ Consi g ps := by
 intro hC
 have hu : ∀ i j, InG g i -> InG g j -> rt i = y -> rt j = x -> okP (zAB g i) (zAB g j) := fun i j hi hj h1 h2 =>
  hC i j ((I.sound i y hi hy (by rw [h1, ky])).trans (hU.symm.trans (I.sound x j hx hj (by rw [h2, kx]))))
 have Cx := I.cls x hx kx
 have Cy := I.cls y hy ky
 obtain ⟨n1, n2, h⟩ := hcl
 obtain ⟨i, i1, i2, i3, i4⟩ := Cy.one
 obtain ⟨j, j1, j2, j3, j4⟩ := Cx.one
 have hij := hu i j i1 j1 i2 j2
 rcases hij with q | q | ⟨q1, q2, _⟩
 ·omega
 ·omega
 rcases h with h | h | ⟨k1, k2, h⟩
 ·omega
 ·rw [i4, j4] at q2; exact h q2
 rcases h with ⟨ho, l, a, hl, hno⟩ | ⟨ho, l, a, hl, hno⟩
 ·have : ¬ ∀ m, InG g m -> rt m = x -> (zAB g m).kind = 3 -> (zAB g m).isOpen = true := fun hh => by
   have := (Cx.opn k2).2 hh
   rw [ho] at this; cases this
  simp only [Classical.not_forall] at this
  obtain ⟨m, m1, m2, m3, m4⟩ := this
  have m4 : (zAB g m).isOpen = false := by simpa using m4
  obtain ⟨k, k', b1, b2, b3, b4, _⟩ := Cy.vals l a hl
  rcases hu k m b1 m1 b2 m2 with q | q | ⟨_, _, q⟩
  ·omega
  ·omega
  have hlm := (q b3).2 m4 l (List.mem_of_getElem? b4)
  obtain ⟨b, hb⟩ := (Cx.keys l).2 ⟨m, m1, m2, m3, hlm⟩
  exact hno b hb
 ·have : ¬ ∀ m, InG g m -> rt m = y -> (zAB g m).kind = 3 -> (zAB g m).isOpen = true := fun hh => by
   have := (Cy.opn k1).2 hh
   rw [ho] at this; cases this
  simp only [Classical.not_forall] at this
  obtain ⟨m, m1, m2, m3, m4⟩ := this
  have m4 : (zAB g m).isOpen = false := by simpa using m4
  obtain ⟨k, k', b1, b2, b3, b4, _⟩ := Cx.vals l a hl
  rcases hu m k m1 b1 m2 b2 with q | q | ⟨_, _, q⟩
  ·omega
  ·omega
  have hlm := (q m3).1 m4 l (List.mem_of_getElem? b4)
  obtain ⟨b, hb⟩ := (Cy.keys l).2 ⟨m, m1, m2, m3, hlm⟩
  exact hno b hb
end
end Go.Ab.S
end
section
namespace Go.Ab.S
open Go Go.Ab
set_option maxHeartbeats 1000000
def zFx (n : Node) : Clz := ⟨n.kind, n.name, if n.kind = 2 then n.args else [], if n.kind = 3 then List.zip n.labels n.args else [], n.isOpen⟩
theorem zip_at {α β : Type} {a : List α} {b : List β} {x : α} {y : β} (h : (x, y) ∈ List.zip a b) : ∃ i : Nat, a[i]? = some x /\ b[i]? = some y := by
 obtain ⟨i, hi, he⟩ := List.mem_iff_getElem.1 h
 rw [List.getElem_zip, Prod.mk.injEq] at he
 simp only [List.length_zip] at hi
 exact ⟨i, by rw [List.getElem?_eq_getElem (by omega), he.1], by rw [List.getElem?_eq_getElem (by omega), he.2]⟩
theorem at_zip {α β : Type} {a : List α} {b : List β} {x : α} {y : β} {i : Nat} (h1 : a[i]? = some x) (h2 : b[i]? = some y) : (x, y) ∈ List.zip a b := by
 obtain ⟨i1, rfl⟩ := List.getElem?_eq_some_iff.1 h1
 obtain ⟨i2, rfl⟩ := List.getElem?_eq_some_iff.1 h2
 refine List.mem_iff_getElem.2 ⟨i, by simp only [List.length_zip]; omega, by rw [List.getElem_zip]⟩
theorem zOe {α β : Type} : ∀ {a : List α} {b : List β}, a.length = b.length -> (List.zip a b).map (·.1) = a
 | [], [], _ => rfl
 | x :: a, y :: b, h => by simp only [List.zip_cons_cons, List.map_cons, zOe (a := a) (b := b) (by simpa using h)]
 | [], _ :: _, h => by cases h
 | _ :: _, [], h => by cases h
theorem zGt {l : List (List Nat)} (hr : Rises l) : l.Nodup := by
 rw [List.nodup_iff_pairwise_ne, List.pairwise_iff_getElem]
 intro i j hi hj hij he
 have := zEl hr (List.getElem?_eq_getElem hi) ((List.getElem?_eq_getElem hj).trans (congrArg some he.symm))
 omega
section
variable {g : Graph} {ps : List Pr} {rt : Int -> Int} {has : Int -> Clz} {ws : List Pr}
theorem UInv.start (hc : zAF g = 0) (hps : ∀ p ∈ ps, InG g p.1 /\ InG g p.2) : UInv g ps id (fun r => zFx (zAB g r)) ps := by
 have hf : ∀ {r : Int} {l : List Nat} {a : Int}, (l, a) ∈ (zFx (zAB g r)).fields -> (zAB g r).kind = 3 /\ ∃ i : Nat, (zAB g r).labels[i]? = some l /\ (zAB g r).args[i]? = some a := by
  intro r l a h
  simp only [zFx] at h
  split at h
  ·rename_i k; exact ⟨k, zip_at h⟩
  ·cases h
 refine ⟨fun a ha => ⟨ha, rfl⟩, fun r hr _ => ?_, fun a b ha _ hab => by rw [show a = b from hab]; exact .refl (by rw [<- show a = b from hab]; exact ha), fun p hp => .pair hp (hps p hp).1 (hps p hp).2, fun p hp => .wait hp, fun m hm hk i hi => ?_, fun m i l a hm hk hl ha => ?_⟩
 ·refine ⟨fun m _ h => by rw [show m = r from h]; exact .inr ⟨rfl, rfl⟩, ⟨r, hr, rfl, rfl, rfl⟩, fun k => ⟨r, hr, rfl, k, if_pos k⟩, fun k => if_neg k, fun k => ⟨if_neg k, ?_⟩, fun l => ⟨?_, ?_⟩, fun l a h => ?_, fun k => ⟨fun h m _ hm _ => by rw [show m = r from hm]; exact h, fun h => h r hr rfl k⟩, fun m _ hm hk ho l a h => ?_, ?_⟩
  ·rcases zAN (zAl hc hr) with ⟨_, _, q, _⟩ | ⟨_, _, q, _⟩ | ⟨q, _⟩
   ·exact q
   ·exact q
   ·exact absurd q k
  ·rintro ⟨a, h⟩
   obtain ⟨k, i, h1, _⟩ := hf h
   exact ⟨r, hr, rfl, k, List.mem_of_getElem? h1⟩
  ·rintro ⟨m, hm, hmr, k, hl⟩
   obtain rfl : m = r := hmr
   obtain ⟨i, hi, rfl⟩ := List.mem_iff_getElem.1 hl
   have := (zCX hc hr k).1
   refine ⟨(zAB g m).args[i], ?_⟩
   simp only [zFx, if_pos k]
   exact at_zip (List.getElem?_eq_getElem hi) (List.getElem?_eq_getElem _)
  ·obtain ⟨k, i, h1, h2⟩ := hf h
   exact ⟨r, i, hr, rfl, k, h1, by rw [List.getD, h2]; rfl⟩
  ·obtain rfl : m = r := hm
   obtain ⟨_, i, h1, _⟩ := hf h
   exact List.mem_of_getElem? h1
  ·simp only [zFx]
   split
   ·rename_i k
    obtain ⟨h1, h2, _⟩ := zCX hc hr k
    rw [zOe h1]; exact zGt h2
   ·exact List.nodup_nil
 ·simp only [id, zFx, if_pos hk]; exact .refl _
 ·obtain ⟨_, j, h1, h2⟩ := hf ha
  have := zEl (zCX hc hm hk).2.1 hl h1
  subst this
  simp only [id] at h2
  rw [List.getD, h2]; exact .refl _
theorem ClzOK.congr {rt' : Int -> Int} {r : Int} {c : Clz} (C : ClzOK g rt r c) (h : ∀ m, InG g m -> (rt' m = r ↔ rt m = r)) : ClzOK g rt' r c := by
 refine ⟨fun m hm hr => C.like m hm ((h m hm).1 hr), ?_, fun k => ?_, C.noargs, C.nofields, fun l => (C.keys l).trans ⟨?_, ?_⟩, fun l a hl => ?_, fun k => (C.opn k).trans ⟨fun q m hm hr => q m hm ((h m hm).1 hr), fun q m hm hr => q m hm ((h m hm).2 hr)⟩, fun m hm hr => C.shut m hm ((h m hm).1 hr), C.nodup⟩
 ·obtain ⟨m, h1, h2, h3⟩ := C.one
  exact ⟨m, h1, (h m h1).2 h2, h3⟩
 ·obtain ⟨m, h1, h2, h3⟩ := C.args k
  exact ⟨m, h1, (h m h1).2 h2, h3⟩
 ·rintro ⟨m, h1, h2, h3⟩
  exact ⟨m, h1, (h m h1).2 h2, h3⟩
 ·rintro ⟨m, h1, h2, h3⟩
  exact ⟨m, h1, (h m h1).1 h2, h3⟩
 ·obtain ⟨m, i, h1, h2, h3⟩ := C.vals l a hl
  exact ⟨m, i, h1, (h m h1).2 h2, h3⟩
theorem ClzOK.vars {rt' : Int -> Int} {r s x : Int} {c d : Clz} (C : ClzOK g rt r c) (D : ClzOK g rt s d) (hd : d.kind = 1) (h : ∀ m, InG g m -> (rt' m = x ↔ rt m = r \/ rt m = s)) : ClzOK g rt' x c := by
 have hv : ∀ m, InG g m -> rt m = s -> (zAB g m).kind = 1 := fun m hm hr => by
  rcases D.like m hm hr with q | ⟨q, _⟩
  ·exact q
  ·rw [q, hd]
 have h3 : ∀ m, InG g m -> rt' m = x -> (zAB g m).kind ≠ 1 -> rt m = r := fun m hm hr hk => by
  rcases (h m hm).1 hr with q | q
  ·exact q
  ·exact absurd (hv m hm q) hk
 refine ⟨fun m hm hr => ?_, ?_, fun k => ?_, C.noargs, C.nofields, fun l => (C.keys l).trans ⟨?_, ?_⟩, fun l a hl => ?_, fun k => (C.opn k).trans ⟨fun q m hm hr hk => q m hm (h3 m hm hr (by omega)) hk, fun q m hm hr => q m hm ((h m hm).2 (.inl hr))⟩, fun m hm hr hk => C.shut m hm (h3 m hm hr (by omega)) hk, C.nodup⟩
 ·by_cases hk : (zAB g m).kind = 1
  ·exact .inl hk
  ·exact C.like m hm (h3 m hm hr hk)
 ·obtain ⟨m, h1, h2, h3⟩ := C.one
  exact ⟨m, h1, (h m h1).2 (.inl h2), h3⟩
 ·obtain ⟨m, h1, h2, h3⟩ := C.args k
  exact ⟨m, h1, (h m h1).2 (.inl h2), h3⟩
 ·rintro ⟨m, h1, h2, h3⟩
  exact ⟨m, h1, (h m h1).2 (.inl h2), h3⟩
 ·rintro ⟨m, h1, h2, hk, h4⟩
  exact ⟨m, h1, h3 m h1 h2 (by omega), hk, h4⟩
 ·obtain ⟨m, i, h1, h2, h3⟩ := C.vals l a hl
  exact ⟨m, i, h1, (h m h1).2 (.inl h2), h3⟩
theorem Merge.ok (hc : zAF g = 0) {rt' : Int -> Int} {x y : Int} {cx cy c : Clz} {new : List Pr} (Cx : ClzOK g rt x cx) (Cy : ClzOK g rt y cy) (hm : Merge cy cx c new) (h : ∀ m, InG g m -> (rt' m = x ↔ rt m = x \/ rt m = y)) : ClzOK g rt' x c := by
 cases hm with
 | varY k => exact Cx.vars Cy k h
 | varX _ k => exact Cy.vars Cx k fun m hm => (h m hm).trans Or.comm
 | con k1 k2 hn =>
  have no3 : ∀ m, InG g m -> rt' m = x -> (zAB g m).kind ≠ 3 := fun m hm hr hk => by
   rcases (h m hm).1 hr with q | q
   ·rcases Cx.like m hm q with q | ⟨q, _⟩ <;> omega
   ·rcases Cy.like m hm q with q | ⟨q, _⟩ <;> omega
  obtain ⟨f1, f2⟩ := Cy.nofields (by omega)
  refine ⟨fun m hm hr => ?_, ?_, fun k => ?_, Cy.noargs, Cy.nofields, fun l => ⟨?_, ?_⟩, fun l a hl => ?_, fun k => by omega, fun m hm hr hk => absurd hk (no3 m hm hr), Cy.nodup⟩
  ·rcases (h m hm).1 hr with q | q
   ·rw [k1, hn, <- k2]; exact Cx.like m hm q
   ·exact Cy.like m hm q
  ·obtain ⟨m, h1, h2, h3⟩ := Cy.one
   exact ⟨m, h1, (h m h1).2 (.inr h2), h3⟩
  ·obtain ⟨m, h1, h2, h3⟩ := Cy.args k
   exact ⟨m, h1, (h m h1).2 (.inr h2), h3⟩
  ·rintro ⟨a, ha⟩; rw [f1] at ha; cases ha
  ·rintro ⟨m, h1, h2, h3, _⟩; exact absurd h3 (no3 m h1 h2)
  ·rw [f1] at hl; cases hl
 | obj k1 k2 hn k3 k4 k5 hfs hnd ho hx hy hnew =>
  have key : ∀ l, (∃ a, (l, a) ∈ c.fields) ↔ (∃ a, (l, a) ∈ cx.fields) \/ ∃ a, (l, a) ∈ cy.fields := fun l => by
   constructor
   ·rintro ⟨a, ha⟩
    rcases (hfs l a).1 ha with q | ⟨q, _⟩
    ·exact .inl ⟨a, q⟩
    ·exact .inr ⟨a, q⟩
   ·rintro (⟨a, ha⟩ | ⟨a, ha⟩)
    ·exact ⟨a, (hfs l a).2 (.inl ha)⟩
    ·by_cases hex : ∃ b, (l, b) ∈ cx.fields
     ·obtain ⟨b, hb⟩ := hex; exact ⟨b, (hfs l b).2 (.inl hb)⟩
     ·exact ⟨a, (hfs l a).2 (.inr ⟨ha, fun b hb => hex ⟨b, hb⟩⟩)⟩
  refine ⟨fun m hm hr => ?_, ?_, fun k => by omega, fun _ => k5, fun k => absurd k3 k, fun l => (key l).trans ⟨?_, ?_⟩, fun l a hl => ?_, fun _ => ?_, fun m hm hr hk hs l a hl => ?_, hnd⟩
  ·rcases (h m hm).1 hr with q | q
   ·rw [k3, <- k2, k4]; exact Cx.like m hm q
   ·rw [k3, <- k1, k4, <- hn]; exact Cy.like m hm q
  ·obtain ⟨m, h1, h2, h3, h4⟩ := Cx.one
   exact ⟨m, h1, (h m h1).2 (.inl h2), by rw [h3, k2, k3], by rw [h4, k4]⟩
  ·rintro (q | q)
   ·obtain ⟨m, h1, h2, h3⟩ := (Cx.keys l).1 q
    exact ⟨m, h1, (h m h1).2 (.inl h2), h3⟩
   ·obtain ⟨m, h1, h2, h3⟩ := (Cy.keys l).1 q
    exact ⟨m, h1, (h m h1).2 (.inr h2), h3⟩
  ·rintro ⟨m, h1, h2, h3⟩
   rcases (h m h1).1 h2 with q | q
   ·exact .inl ((Cx.keys l).2 ⟨m, h1, q, h3⟩)
   ·exact .inr ((Cy.keys l).2 ⟨m, h1, q, h3⟩)
  ·rcases (hfs l a).1 hl with q | ⟨q, _⟩
   ·obtain ⟨m, i, h1, h2, h3⟩ := Cx.vals l a q
    exact ⟨m, i, h1, (h m h1).2 (.inl h2), h3⟩
   ·obtain ⟨m, i, h1, h2, h3⟩ := Cy.vals l a q
    exact ⟨m, i, h1, (h m h1).2 (.inr h2), h3⟩
  ·rw [ho, Bool.and_eq_true, Cx.opn k2, Cy.opn k1]
   constructor
   ·rintro ⟨q1, q2⟩ m hm hr
    rcases (h m hm).1 hr with q | q
    ·exact q1 m hm q
    ·exact q2 m hm q
   ·intro q
    exact ⟨fun m hm hr => q m hm ((h m hm).2 (.inl hr)), fun m hm hr => q m hm ((h m hm).2 (.inr hr))⟩
  ·rcases (h m hm).1 hr with q | q
   ·have hcl : cx.isOpen = false := by
     cases hh : cx.isOpen
     ·rfl
     ·rw [(Cx.opn k2).1 hh m hm q hk] at hs; cases hs
    have : ∃ b, (l, b) ∈ cx.fields := by
     rcases (hfs l a).1 hl with z | ⟨z, _⟩
     ·exact ⟨a, z⟩
     ·exact hx hcl l a z
    obtain ⟨b, hb⟩ := this
    exact Cx.shut m hm q hk hs l b hb
   ·have hcl : cy.isOpen = false := by
     cases hh : cy.isOpen
     ·rfl
     ·rw [(Cy.opn k1).1 hh m hm q hk] at hs; cases hs
    have : ∃ b, (l, b) ∈ cy.fields := by
     rcases (hfs l a).1 hl with z | ⟨z, _⟩
     ·exact hy hcl l a z
     ·exact ⟨a, z⟩
    obtain ⟨b, hb⟩ := this
    exact Cy.shut m hm q hk hs l b hb
end
end Go.Ab.S
end
