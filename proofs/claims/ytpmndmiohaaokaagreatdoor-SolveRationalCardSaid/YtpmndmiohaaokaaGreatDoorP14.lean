import Derived.Test.YtpmndmiohaaokaaGreatDoorP12
import Derived.Test.YtpmndmiohaaokaaGreatDoorP13
/-
  Part 14 of the proof.
-/
set_option linter.all false
section
namespace Go.Ab.S
open Go Go.Ab
set_option maxHeartbeats 1000000
section
variable {g : Graph} {ps : List Pr} {rt : Int -> Int} {has : Int -> Clz} {ws : List Pr}
theorem UInv.join (hc : zAF g = 0) {p : Pr} (I : UInv g ps rt has (p :: ws)) {x y : Int} (hx : InG g x) (hy : InG g y) (kx : rt x = x) (ky : rt y = y) (hne : x ≠ y) (hxy : (rt p.1 = x /\ rt p.2 = y) \/ (rt p.1 = y /\ rt p.2 = x)) {c : Clz} {new ws' : List Pr} (hm : Merge (has y) (has x) c new) (hw : ∀ q, q ∈ ws' ↔ q ∈ ws \/ q ∈ new) :
  UInv g ps (fun a => if rt a = y then x else rt a) (fun r => if r = x then c else has r) ws' := by
 have hpu := I.waits p (by simp)
 have hp := hpu.inG hc
 have hU : Uni g ps x y := by
  rcases hxy with ⟨h1, h2⟩ | ⟨h1, h2⟩
  ·exact (I.sound x p.1 hx hp.1 (by rw [h1, kx])).trans (hpu.trans (I.sound p.2 y hp.2 hy (by rw [h2, ky])))
  ·exact (I.sound x p.2 hx hp.2 (by rw [h2, kx])).trans (hpu.symm.trans (I.sound p.1 y hp.1 hy (by rw [h1, ky])))
 generalize hrt : (fun a => if rt a = y then x else rt a) = rt'
 have r1 : ∀ m, rt' m = if rt m = y then x else rt m := fun m => by rw [<- hrt]
 have rx : ∀ m, rt' m = x ↔ rt m = x \/ rt m = y := fun m => by
  rw [r1]; split
  ·rename_i h; simp [h]
  ·rename_i h; simp [h]
 have ro : ∀ m r, r ≠ x -> r ≠ y -> (rt' m = r ↔ rt m = r) := fun m r h1 h2 => by
  rw [r1]; split
  ·rename_i h; rw [h]; exact ⟨fun q => absurd q.symm h1, fun q => absurd q.symm h2⟩
  ·exact Iff.rfl
 have rs : ∀ {i j}, rt i = rt j -> rt' i = rt' j := fun h => by rw [r1, r1, h]
 have Cx := I.cls x hx kx
 have Cy := I.cls y hy ky
 have hD : ∀ {a b : Int}, Due g rt (p :: ws) a b -> Due g rt' ws' a b := fun k => k.more (fun i j hi hj hij => .same hi hj (rs hij)) fun q hq => by
  rcases List.mem_cons.1 hq with rfl | hq
  ·refine .same hp.1 hp.2 ?_
   have h1 : rt' q.1 = x := (rx _).2 (by rcases hxy with ⟨h, _⟩ | ⟨h, _⟩ <;> simp [h])
   have h2 : rt' q.2 = x := (rx _).2 (by rcases hxy with ⟨_, h⟩ | ⟨_, h⟩ <;> simp [h])
   rw [h1, h2]
  ·exact .wait ((hw q).2 (.inl hq))
 have hnew : ∀ {q}, q ∈ new -> Due g rt' ws' q.1 q.2 := fun hq => .wait ((hw _).2 (.inr hq))
 have hxyU : ∀ {i j}, InG g i -> InG g j -> rt i = x -> rt j = y -> Uni g ps i j := fun hi hj h1 h2 => (I.sound _ x hi hx (by rw [h1, kx])).trans (hU.trans (I.sound y _ hy hj (by rw [h2, ky])))
 have hroot : ∀ r, r ≠ x -> rt' r = r -> rt r = r /\ r ≠ y := fun r h1 h2 => by
  rw [r1] at h2
  split at h2
  ·exact absurd h2.symm h1
  ·rename_i h; exact ⟨h2, fun q => h (by rw [q, ky])⟩
 refine ⟨fun a ha => ?_, fun r hr hrr => ?_, fun a b ha hb hab => ?_, fun q hq => ?_, fun q hq => hD (I.prs q hq), fun m hm' hk i hi => ?_, fun m i l a hm' hk hl ha => ?_⟩
 ·obtain ⟨h1, h2⟩ := I.rng a ha
  by_cases h : rt a = y
  ·rw [r1 a, if_pos h]
   exact ⟨hx, (rx x).2 (.inl kx)⟩
  ·rw [r1 a, if_neg h]
   exact ⟨h1, by rw [r1, h2, if_neg h]⟩
 ·by_cases h : r = x
  ·subst h
   rw [if_pos rfl]
   exact hm.ok hc Cx Cy fun m _ => rx m
  ·rw [if_neg h]
   obtain ⟨h1, h2⟩ := hroot r h hrr
   exact (I.cls r hr h1).congr fun m _ => ro m r h h2
 ·have key : ∀ m, InG g m -> Uni g ps m (rt' m) := fun m hm' => by
   obtain ⟨h1, h2⟩ := I.rng m hm'
   rw [r1]; split
   ·rename_i h
    exact (hxyU hx hm' kx h).symm
   ·exact I.sound m _ hm' h1 h2.symm
  exact (key a ha).trans (by rw [hab]; exact (key b hb).symm)
 ·rcases (hw q).1 hq with h | h
  ·exact I.waits q (by simp [h])
  ·cases hm with
   | varY => cases h
   | varX => cases h
   | con k1 k2 hn =>
    obtain ⟨i, hi, rfl⟩ := List.mem_map.1 h
    have hi := List.mem_range.1 hi
    obtain ⟨m, m1, m2, m3, m4⟩ := Cx.args k2
    obtain ⟨n, n1, n2, n3, n4⟩ := Cy.args k1
    have e1 : (zAB g n).name = (zAB g m).name := by
     rcases Cx.like m m1 m2 with z | ⟨_, z⟩
     ·omega
     rcases Cy.like n n1 n2 with w | ⟨_, w⟩
     ·omega
     rw [z, w, hn]
    rw [m4, n4]
    exact .con (hxyU m1 n1 m2 n2).symm n3 m3 e1 (by rw [<- n4]; exact hi)
   | obj k1 k2 hn k3 k4 k5 hfs hnd ho h1 h2 hnw =>
    obtain ⟨l, q1, q2⟩ := (hnw q).1 h
    obtain ⟨m, i, m1, m2, m3, m4, m5⟩ := Cy.vals l _ q1
    obtain ⟨n, j, n1, n2, n3, n4, n5⟩ := Cx.vals l _ q2
    rw [<- m5, <- n5]
    exact .obj (hxyU n1 m1 n2 m2).symm m3 n3 m4 n4
 ·by_cases h : rt' m = x
  ·rw [if_pos h]
   rcases (rx m).1 h with q | q
   ·have hx' := I.con m hm' hk i hi
    rw [q] at hx'
    have hxk : (has x).kind = 2 /\ (has x).name = (zAB g m).name := by
     rcases Cx.like m hm' q with z | ⟨z, w⟩
     ·omega
     ·exact ⟨by rw [<- z, hk], w.symm⟩
    cases hm with
    | varY => exact hD hx'
    | varX _ k => omega
    | con k1 k2 hn =>
     refine (hD hx').trans (Due.symm ?_)
     obtain ⟨n, n1, n2, n3, n4⟩ := Cy.args k1
     have e1 : (zAB g n).name = (zAB g m).name := by
      rcases Cy.like n n1 n2 with w | ⟨_, w⟩
      ·omega
      rw [w, hn, hxk.2]
     have hl := zGl hc n1 hm' n3 hk e1
     exact hnew (q := ((has y).args.getD i 0, (has x).args.getD i 0)) (List.mem_map.2 ⟨i, List.mem_range.2 (by rw [n4]; omega), rfl⟩)
    | obj k1 k2 => omega
   ·have hy' := I.con m hm' hk i hi
    rw [q] at hy'
    have hyk : (has y).kind = 2 := by
     rcases Cy.like m hm' q with z | ⟨z, _⟩
     ·omega
     ·rw [<- z, hk]
    cases hm with
    | varY k => omega
    | varX => exact hD hy'
    | con => exact hD hy'
    | obj k1 k2 => omega
  ·rw [if_neg h]
   have : rt' m = rt m := by
    rw [r1]; split
    ·rename_i q; exact absurd ((rx m).2 (.inr q)) h
    ·rfl
   rw [this]
   exact hD (I.con m hm' hk i hi)
 ·by_cases h : rt' m = x
  ·rw [if_pos h] at ha
   rcases (rx m).1 h with q | q
   ·have hxk : (has x).kind = 3 := by
     rcases Cx.like m hm' q with z | ⟨z, _⟩
     ·omega
     ·rw [<- z, hk]
    have hold : ∀ b, (l, b) ∈ (has x).fields -> Due g rt' ws' ((zAB g m).args.getD i 0) b := fun b hb => hD (I.obj m i l b hm' hk hl (by rw [q]; exact hb))
    cases hm with
    | varY => exact hold a ha
    | varX _ k => omega
    | con k1 k2 => omega
    | obj k1 k2 hn k3 k4 k5 hfs hnd ho h1 h2 hnw =>
     rcases (hfs l a).1 ha with z | ⟨_, z⟩
     ·exact hold a z
     ·obtain ⟨b, hb⟩ := (Cx.keys l).2 ⟨m, hm', q, hk, List.mem_of_getElem? hl⟩
      exact absurd hb (z b)
   ·have hyk : (has y).kind = 3 := by
     rcases Cy.like m hm' q with z | ⟨z, _⟩
     ·omega
     ·rw [<- z, hk]
    have hold : ∀ b, (l, b) ∈ (has y).fields -> Due g rt' ws' ((zAB g m).args.getD i 0) b := fun b hb => hD (I.obj m i l b hm' hk hl (by rw [q]; exact hb))
    cases hm with
    | varY k => omega
    | varX => exact hold a ha
    | con k1 => omega
    | obj k1 k2 hn k3 k4 k5 hfs hnd ho h1 h2 hnw =>
     rcases (hfs l a).1 ha with z | ⟨z, _⟩
     ·obtain ⟨b, hb⟩ := (Cy.keys l).2 ⟨m, hm', q, hk, List.mem_of_getElem? hl⟩
      exact (hold b hb).trans (hnew (q := (b, a)) ((hnw (b, a)).2 ⟨l, hb, z⟩))
     ·exact hold a z
  ·rw [if_neg h] at ha
   have : rt' m = rt m := by
    rw [r1]; split
    ·rename_i q; exact absurd ((rx m).2 (.inr q)) h
    ·rfl
   rw [this] at ha
   exact hD (I.obj m i l a hm' hk hl ha)
end
end Go.Ab.S
end
section
namespace Go.Ab.S
open Go Go.Ab
set_option maxHeartbeats 1000000
def zDl : List (List Nat × Int) -> List Nat -> Int
 | [], _ => 0
 | (k, a) :: r, l => if k = l then a else zDl r l
theorem zEL : ∀ {fs : List (List Nat × Int)} {l : List Nat} {a : Int}, (fs.map (·.1)).Nodup -> (l, a) ∈ fs -> zDl fs l = a
 | (k, b) :: r, l, a, hn, h => by
  simp only [List.map_cons, List.nodup_cons] at hn
  rw [zDl]
  rcases List.mem_cons.1 h with h | h
  ·cases h; rw [if_pos rfl]
  ·rw [if_neg, zEL hn.2 h]
   rintro rfl
   exact hn.1 (List.mem_map.2 ⟨_, h, rfl⟩)
def zGo (c : Clz) (f : Int -> Int) (ls : List (List Nat)) : Node := ⟨c.kind, c.name, c.args.map f ++ ls.map fun l => f (zDl c.fields l), ls, c.isOpen⟩
structure ObjOut (g : Graph) (ps : List Pr) (R : List Int) (i : Int) (N : Node) : Prop where
 kind : N.kind = 3
 name : N.name = []
 len : N.labels.length = N.args.length
 rises : zEm N.labels = true
 labels : ∀ l, l ∈ N.labels ↔ ∃ m, Uni g ps i m /\ (zAB g m).kind = 3 /\ l ∈ (zAB g m).labels
 args : ∀ (k : Nat) l, N.labels[k]? = some l -> ∀ m (j : Nat), Uni g ps i m -> (zAB g m).kind = 3 -> (zAB g m).labels[j]? = some l -> N.args.getD k 0 = clAt R ((zAB g m).args.getD j 0)
 isOpen : N.isOpen = true ↔ ∀ m, Uni g ps i m -> (zAB g m).kind = 3 -> (zAB g m).isOpen = true
structure UOut (g : Graph) (ps : List Pr) (U : Graph) (R : List Int) : Prop where
 consi : Consi g ps
 lenR : R.length = g.nodes.length
 lenU : U.nodes.length = g.nodes.length
 root : U.root = clAt R g.root
 rep : ∀ i, InG g i -> Uni g ps i (clAt R i) /\ ∀ j, Uni g ps i j -> clAt R i <= j
 var : ∀ i, InG g i -> (∀ m, Uni g ps i m -> (zAB g m).kind = 1) -> zAB U i = ⟨1, [], [], [], false⟩
 con : ∀ i m, Uni g ps i m -> (zAB g m).kind = 2 -> zAB U i = ⟨2, (zAB g m).name, (zAB g m).args.map (clAt R), [], false⟩
 obj : ∀ i m, Uni g ps i m -> (zAB g m).kind = 3 -> ObjOut g ps R i (zAB U i)
theorem zKq : ∀ {l : List (List Nat)} {p : Option (List Nat)}, (∀ s ∈ l, zCy s = true) -> Rises l -> (∀ q, p = some q -> ∀ s, l.head? = some s -> zBB q s = true) -> risG p l = true
 | [], _, _, _, _ => rfl
 | x :: l, p, h, hr, hp => by
  have h1 := h x (by simp)
  have h3 : risG (some x) l = true := zKq (fun s hs => h s (by simp [hs])) (fun i j hij a b ha hb => hr (i + 1) (j + 1) (by omega) a b (by simpa using ha) (by simpa using hb)) fun q hq s hs => by
   cases hq
   refine hr 0 1 (by omega) x s rfl ?_
   cases l with
   | nil => cases hs
   | cons y l => simpa using hs
  simp only [risG, h1, h3, Bool.true_and, Bool.and_true]
  cases p with
  | none => rfl
  | some q => exact hp q rfl x rfl
section
variable {g : Graph} {ps : List Pr} {rt : Int -> Int} {has : Int -> Clz}
theorem UInv.out (hc : zAF g = 0) (I : UInv g ps rt has []) {U : Graph} {R : List Int} (lenR : R.length = g.nodes.length) (lenU : U.nodes.length = g.nodes.length) (root : U.root = clAt R g.root)
  (rep : ∀ i, InG g i -> InG g (clAt R i) /\ rt (clAt R i) = rt i /\ ∀ j, InG g j -> rt j = rt i -> clAt R i <= j)
  (nodes : ∀ i, InG g i -> ∃ ls, Rises ls /\ (∀ l, l ∈ ls ↔ ∃ a, (l, a) ∈ (has (rt i)).fields) /\ zAB U i = zGo (has (rt i)) (clAt R) ls) : UOut g ps U R := by
 obtain ⟨hU, hC⟩ := I.fin hc
 have hto : ∀ {a b}, Uni g ps a b -> rt a = rt b := fun h => (hU _ _ (h.inG hc).1 (h.inG hc).2).2 h
 have hrep : ∀ i, InG g i -> Uni g ps i (clAt R i) /\ ∀ j, Uni g ps i j -> clAt R i <= j := fun i hi => by
  obtain ⟨h1, h2, h3⟩ := rep i hi
  exact ⟨(hU i _ hi h1).1 h2.symm, fun j hj => h3 j (hj.inG hc).2 (hto hj).symm⟩
 have heq : ∀ {a b}, Uni g ps a b -> clAt R a = clAt R b := fun {a b} h => by
  have h1 := (hrep a (h.inG hc).1)
  have h2 := (hrep b (h.inG hc).2)
  have h3 := h1.2 _ (h.trans h2.1)
  have h4 := h2.2 _ (h.symm.trans h1.1)
  omega
 refine ⟨hC, lenR, lenU, root, hrep, fun i hi hv => ?_, fun i m him hk => ?_, fun i m him hk => ?_⟩
 ·obtain ⟨ls, h1, h2, h3⟩ := nodes i hi
  obtain ⟨hr, hrr⟩ := I.rng i hi
  have C := I.cls _ hr hrr
  obtain ⟨m, m1, m2, m3, m4⟩ := C.one
  have hm := hv m ((hU i m hi m1).1 m2.symm)
  have hn : (zAB g m).name = [] := by
   rcases zAN (zAl hc m1) with ⟨_, _, _, q, _⟩ | ⟨q, _⟩ | ⟨q, _⟩
   ·exact q
   ·omega
   ·omega
  obtain ⟨f1, f2⟩ := C.nofields (by omega)
  have hl : ls = [] := by
   cases ls with
   | nil => rfl
   | cons x r => obtain ⟨a, ha⟩ := (h2 x).1 (by simp); rw [f1] at ha; cases ha
  rw [h3, zGo, hl, <- m3, hm, <- m4, hn, C.noargs (by omega), f2]; rfl
 ·have hin := him.inG hc
  obtain ⟨ls, h1, h2, h3⟩ := nodes i hin.1
  obtain ⟨hr, hrr⟩ := I.rng i hin.1
  have C := I.cls _ hr hrr
  have hck : (has (rt i)).kind = 2 /\ (has (rt i)).name = (zAB g m).name := by
   rcases C.like m hin.2 (hto him).symm with q | ⟨q, w⟩
   ·omega
   ·exact ⟨by rw [<- q, hk], w.symm⟩
  obtain ⟨f1, f2⟩ := C.nofields (by omega)
  have hl : ls = [] := by
   cases ls with
   | nil => rfl
   | cons x r => obtain ⟨a, ha⟩ := (h2 x).1 (by simp); rw [f1] at ha; cases ha
  obtain ⟨m', m1, m2, m3, m4⟩ := C.args hck.1
  have hmm : Uni g ps m' m := ((hU i m' hin.1 m1).1 m2.symm).symm.trans him
  have hnm : (zAB g m').name = (zAB g m).name := by
   rcases C.like m' m1 m2 with q | ⟨_, w⟩
   ·omega
   ·rw [w, hck.2]
  have hlen := zGl hc m1 hin.2 m3 hk hnm
  have hargs : (zAB g m').args.map (clAt R) = (zAB g m).args.map (clAt R) := by
   apply List.ext_getElem
   ·simpa using hlen
   ·intro k k1 k2
    simp only [List.length_map] at k1 k2
    have := heq (.con hmm m3 hk hnm k1)
    simp only [List.getD, List.getElem?_eq_getElem k1, List.getElem?_eq_getElem k2, Option.getD_some] at this
    simpa using this
  rw [h3, zGo, hl, hck.1, hck.2, m4, f2, hargs]
  simp
 ·have hin := him.inG hc
  obtain ⟨ls, h1, h2, h3⟩ := nodes i hin.1
  obtain ⟨hr, hrr⟩ := I.rng i hin.1
  have C := I.cls _ hr hrr
  have hck : (has (rt i)).kind = 3 /\ (has (rt i)).name = (zAB g m).name := by
   rcases C.like m hin.2 (hto him).symm with q | ⟨q, w⟩
   ·omega
   ·exact ⟨by rw [<- q, hk], w.symm⟩
  have hna := C.noargs (by omega)
  have hmem : ∀ m, InG g m -> (rt m = rt i ↔ Uni g ps i m) := fun m hm => ⟨fun h => (hU i m hin.1 hm).1 h.symm, fun h => (hto h).symm⟩
  have hlab : ∀ l, l ∈ ls ↔ ∃ m, Uni g ps i m /\ (zAB g m).kind = 3 /\ l ∈ (zAB g m).labels := fun l => by
   rw [h2, C.keys]
   constructor
   ·rintro ⟨m, q1, q2, q3⟩; exact ⟨m, (hmem m q1).1 q2, q3⟩
   ·rintro ⟨m, q1, q3⟩; exact ⟨m, (q1.inG hc).2, (hmem m (q1.inG hc).2).2 q1, q3⟩
  rw [h3]
  refine ⟨hck.1, ?_, ?_, ?_, hlab, fun k l hkl m' j hm' hk' hj => ?_, ?_⟩
  ·show (has (rt i)).name = []
   rw [hck.2]; exact (zCX hc hin.2 hk).2.2
  ·show ls.length = ((has (rt i)).args.map (clAt R) ++ ls.map fun l => clAt R (zDl (has (rt i)).fields l)).length
   rw [hna]; simp
  ·refine zKq (fun s hs => ?_) h1 fun q hq => by cases hq
   obtain ⟨m', q1, q2, q3⟩ := (hlab s).1 hs
   rcases zAN (zAl hc (q1.inG hc).2) with ⟨q, _⟩ | ⟨q, _⟩ | ⟨_, _, _, hr⟩
   ·omega
   ·omega
   ·exact zGb hr s q3
  ·change ls[k]? = some l at hkl
   show ((has (rt i)).args.map (clAt R) ++ ls.map fun l => clAt R (zDl (has (rt i)).fields l)).getD k 0 = _
   rw [hna, List.map_nil, zlA, List.getD, List.getElem?_map, hkl]
   show clAt R (zDl (has (rt i)).fields l) = _
   obtain ⟨a, ha⟩ := (h2 l).1 (List.mem_of_getElem? hkl)
   rw [zEL C.nodup ha]
   have hin' := (hm'.inG hc).2
   have hd := (I.obj m' j l a hin' hk' hj (by rw [(hmem m' hin').2 hm']; exact ha)).done
   obtain ⟨n, q, n1, n2, n3, n4, n5⟩ := C.vals l a ha
   have : Uni g ps ((zAB g n).args.getD q 0) ((zAB g m').args.getD j 0) := .obj (((hmem n n1).1 n2).symm.trans hm') n3 hk' n4 hj
   rw [<- n5]
   exact heq this
  ·refine (C.opn hck.1).trans ⟨fun h m' hm' => h m' (hm'.inG hc).2 ((hmem m' (hm'.inG hc).2).2 hm'), fun h m' q1 q2 => h m' ((hmem m' q1).1 q2)⟩
end
section
variable {g : Graph} {ps : List Pr} {U : Graph} {R : List Int}
theorem UOut.eq (hc : zAF g = 0) (O : UOut g ps U R) {a b : Int} (h : Uni g ps a b) : clAt R a = clAt R b := by
 have h1 := O.rep a (h.inG hc).1
 have h2 := O.rep b (h.inG hc).2
 have h3 := h1.2 _ (h.trans h2.1)
 have h4 := h2.2 _ (h.symm.trans h1.1)
 omega
theorem UOut.inR (hc : zAF g = 0) (O : UOut g ps U R) {a : Int} (h : InG g a) : InG g (clAt R a) := ((O.rep a h).1.inG hc).2
theorem UOut.check (hc : zAF g = 0) (O : UOut g ps U R) : zAF U = 0 := by
 obtain ⟨g0, g1, g2, g3⟩ := zAZ hc
 have hr := O.inR hc (a := g.root) ⟨g0, g1⟩
 refine zEz (by rw [O.root]; exact hr.1) (by rw [O.root, O.lenU]; exact hr.2) (by rw [O.lenU]; exact g2) fun n hn => ?_
 rw [<- zGF U] at hn
 obtain ⟨i, hi, rfl⟩ := List.mem_map.1 hn
 have hi := zHU.1 hi
 rw [O.lenU] at hi ⊢
 by_cases h2 : ∃ m, Uni g ps i m /\ (zAB g m).kind = 2
 ·obtain ⟨m, h2, h3⟩ := h2
  have hm := zAl hc (h2.inG hc).2
  rw [O.con i m h2 h3]
  have := zJh hm (clAt R) fun a ha => O.inR hc (zAu hm a ha)
  rcases zAN hm with ⟨q, _⟩ | ⟨_, q1, q2, _⟩ | ⟨q, _⟩
  ·omega
  ·rw [h3, q1, q2] at this; exact this
  ·omega
 ·by_cases h3 : ∃ m, Uni g ps i m /\ (zAB g m).kind = 3
  ·obtain ⟨m, h3, h4⟩ := h3
   have Q := O.obj i m h3 h4
   generalize zAB U i = N at Q
   have hargs : N.args.any (fun a => decide (a < 0) || decide (a >= (g.nodes.length : Int))) = false := by
    rw [List.any_eq_false]
    intro a ha
    obtain ⟨k, hk, rfl⟩ := List.mem_iff_getElem.1 ha
    have hkl : k < N.labels.length := by rw [Q.len]; exact hk
    obtain ⟨m', m1, m2, m3⟩ := (Q.labels _).1 (List.getElem_mem hkl)
    obtain ⟨j, hj, hje⟩ := List.mem_iff_getElem.1 m3
    have hval := Q.args k _ (List.getElem?_eq_getElem hkl) m' j m1 m2 (by rw [List.getElem?_eq_getElem hj, hje])
    rw [List.getD, List.getElem?_eq_getElem hk, Option.getD_some] at hval
    have hin := (m1.inG hc).2
    have hjl : j < (zAB g m').args.length := by rw [<- (zCX hc hin m2).1]; exact hj
    have hrange := O.inR hc (zAu (zAl hc hin) _ (zCL hjl))
    simp only [InG] at hrange
    rw [hval]
    simp only [Bool.or_eq_true, decide_eq_true_eq, not_or]
    omega
   obtain ⟨k, nm, ar, ls, op⟩ := N
   have e1 := Q.kind; have e2 := Q.name; have e3 := Q.len; have e4 := Q.rises
   simp only at e1 e2 e3 e4 hargs
   subst e1; subst e2
   simp only [mayF, hargs, Bool.false_eq_true, if_false, e4, e3]
   have z : (ar.length == ar.length) = true := by simp
   rw [z]; rfl
  ·have hv := O.var i hi fun m hm => by
    rcases zAN (zAl hc (hm.inG hc).2) with ⟨q, _⟩ | ⟨q, _⟩ | ⟨q, _⟩
    ·exact q
    ·exact absurd ⟨m, hm, q⟩ h2
    ·exact absurd ⟨m, hm, q⟩ h3
   rw [hv]; rfl
theorem UOut.one (hc : zAF g = 0) {ps' : List Pr} {U' : Graph} {R' : List Int} (O : UOut g ps U R) (O' : UOut g ps' U' R') (h : ∀ a b, Uni g ps a b ↔ Uni g ps' a b) : R = R' /\ U = U' := by
 have hR : ∀ i, InG g i -> clAt R i = clAt R' i := fun i hi => by
  have h1 := O.rep i hi
  have h2 := O'.rep i hi
  have h3 := h1.2 _ ((h _ _).2 h2.1)
  have h4 := h2.2 _ ((h _ _).1 h1.1)
  omega
 have eR : R = R' := by
  apply List.ext_getElem
  ·rw [O.lenR, O'.lenR]
  ·intro k k1 k2
   have := hR (k : Int) ⟨by omega, by rw [O.lenR] at k1; omega⟩
   rw [zCn, zCn, List.getD, List.getD, List.getElem?_eq_getElem k1, List.getElem?_eq_getElem k2] at this
   simpa using this
 refine ⟨eR, ?_⟩
 subst eR
 have hroot : U.root = U'.root := by rw [O.root, O'.root]
 have hnodes : U.nodes = U'.nodes := by
  rw [<- zGF U, <- zGF U', O.lenU, O'.lenU]
  refine List.map_congr_left fun i hi => ?_
  have hi : InG g i := zHU.1 hi
  by_cases h2 : ∃ m, Uni g ps i m /\ (zAB g m).kind = 2
  ·obtain ⟨m, h2, h3⟩ := h2
   rw [O.con i m h2 h3, O'.con i m ((h _ _).1 h2) h3]
  ·by_cases h3 : ∃ m, Uni g ps i m /\ (zAB g m).kind = 3
   ·obtain ⟨m, h3, h4⟩ := h3
    have Q := O.obj i m h3 h4
    have Q' := O'.obj i m ((h _ _).1 h3) h4
    have hl : (zAB U i).labels = (zAB U' i).labels := zFI (zBF Q.rises) (zBF Q'.rises) fun l => by
     rw [Q.labels, Q'.labels]
     exact ⟨fun ⟨m, k1, k2⟩ => ⟨m, (h _ _).1 k1, k2⟩, fun ⟨m, k1, k2⟩ => ⟨m, (h _ _).2 k1, k2⟩⟩
    have ho : (zAB U i).isOpen = (zAB U' i).isOpen := by
     rw [Bool.eq_iff_iff, Q.isOpen, Q'.isOpen]
     exact ⟨fun q m hm => q m ((h _ _).2 hm), fun q m hm => q m ((h _ _).1 hm)⟩
    have ha : (zAB U i).args = (zAB U' i).args := by
     apply List.ext_getElem
     ·rw [<- Q.len, <- Q'.len, hl]
     ·intro k k1 k2
      have hkl : k < (zAB U i).labels.length := by rw [Q.len]; exact k1
      obtain ⟨m', m1, m2, m3⟩ := (Q.labels _).1 (List.getElem_mem hkl)
      obtain ⟨j, hj, hje⟩ := List.mem_iff_getElem.1 m3
      have a1 := Q.args k _ (List.getElem?_eq_getElem hkl) m' j m1 m2 (by rw [List.getElem?_eq_getElem hj, hje])
      have a2 := Q'.args k _ (by rw [<- hl]; exact List.getElem?_eq_getElem hkl) m' j ((h _ _).1 m1) m2 (by rw [List.getElem?_eq_getElem hj, hje])
      rw [<- a2, List.getD, List.getD, List.getElem?_eq_getElem k1, List.getElem?_eq_getElem k2] at a1
      simpa using a1
    have hk := Q.kind.trans Q'.kind.symm
    have hn := Q.name.trans Q'.name.symm
    generalize zAB U i = N at hl ho ha hk hn
    generalize zAB U' i = N' at hl ho ha hk hn
    cases N; cases N'
    simp only at hl ho ha hk hn
    subst hl; subst ho; subst ha; subst hk; subst hn; rfl
   ·have hv : ∀ m, Uni g ps i m -> (zAB g m).kind = 1 := fun m hm => by
     rcases zAN (zAl hc (hm.inG hc).2) with ⟨q, _⟩ | ⟨q, _⟩ | ⟨q, _⟩
     ·exact q
     ·exact absurd ⟨m, hm, q⟩ h2
     ·exact absurd ⟨m, hm, q⟩ h3
    rw [O.var i hi hv, O'.var i hi fun m hm => hv m ((h _ _).2 hm)]
 cases U; cases U'
 simp only at hroot hnodes
 subst hroot; subst hnodes; rfl
end
end Go.Ab.S
end
section
namespace Go.Ab.S
open Go Go.Ab
set_option maxHeartbeats 1000000
def InN (N : Nat) (a : Int) : Prop := 0 <= a /\ a < N
theorem zHO {l : List Int} {i : Nat} (hi : i < l.length) (v a : Int) (ha : 0 <= a) : clAt (l.set i v) a = if a = (i : Int) then v else clAt l a := by
 simp only [clAt, List.getD, List.getElem?_set]
 by_cases h : a = (i : Int)
 ·subst h; simp [hi]
 ·rw [if_neg h, if_neg (by omega)]
structure UF (N : Nat) (on rk : List Int) (rt : Int -> Int) (K : Nat) : Prop where
 lo : on.length = N
 lr : rk.length = N
 rng : ∀ a, InN N a -> InN N (clAt on a)
 same : ∀ a, InN N a -> rt (clAt on a) = rt a
 fix : ∀ a, InN N a -> (clAt on a = a ↔ rt a = a)
 up : ∀ a, InN N a -> clAt on a ≠ a -> clAt rk a < clAt rk (clAt on a)
 rk : ∀ a, InN N a -> 0 <= clAt rk a /\ clAt rk a <= K
section
variable {N K : Nat} {on rk : List Int} {rt : Int -> Int}
theorem UF.squash (u : UF N on rk rt K) {i : Nat} (hi : i < N) (hne : clAt on (i : Int) ≠ i) : UF N (on.set i (clAt on (clAt on (i : Int)))) rk rt K := by
 have ha : InN N (i : Int) := ⟨by omega, by omega⟩
 have hc := u.rng _ ha
 have hu := u.up _ ha hne
 have hil : i < on.length := by rw [u.lo]; exact hi
 have hup : clAt on (clAt on (i : Int)) ≠ i /\ clAt rk (i : Int) < clAt rk (clAt on (clAt on (i : Int))) := by
  by_cases h : clAt on (clAt on (i : Int)) = clAt on (i : Int)
  ·rw [h]; exact ⟨hne, hu⟩
  ·have := u.up _ hc h
   refine ⟨fun h2 => ?_, by omega⟩
   rw [h2] at this; omega
 have e : ∀ a, InN N a -> clAt (on.set i (clAt on (clAt on (i : Int)))) a = if a = (i : Int) then clAt on (clAt on (i : Int)) else clAt on a := fun a h => zHO hil _ a h.1
 refine ⟨by rw [List.length_set, u.lo], u.lr, fun a h => ?_, fun a h => ?_, fun a h => ?_, fun a h => ?_, u.rk⟩
 ·rw [e a h]; split
  ·exact u.rng _ hc
  ·exact u.rng _ h
 ·rw [e a h]; split
  ·rename_i q; rw [q, u.same _ hc, u.same _ ha]
  ·exact u.same _ h
 ·rw [e a h]; split
  ·rename_i q; rw [q]
   exact ⟨fun h2 => absurd h2 hup.1, fun h2 => absurd ((u.fix _ ha).2 h2) hne⟩
  ·exact u.fix _ h
 ·rw [e a h]; split
  ·rename_i q; rw [q]; exact fun _ => hup.2
  ·exact u.up _ h
theorem UF.link (u : UF N on rk rt K) {x y : Nat} (hx : x < N) (hy : y < N) (kx : rt (x : Int) = x) (ky : rt (y : Int) = y) (hne : x ≠ y) {rk' : List Int} (hr : (clAt rk (y : Int) < clAt rk (x : Int) /\ rk' = rk) \/ (clAt rk (y : Int) = clAt rk (x : Int) /\ rk' = rk.set x (clAt rk (x : Int) + 1))) :
  UF N (on.set y x) rk' (fun a => if rt a = y then x else rt a) (K + 1) := by
 have ix : InN N (x : Int) := ⟨by omega, by omega⟩
 have iy : InN N (y : Int) := ⟨by omega, by omega⟩
 have e : ∀ a, InN N a -> clAt (on.set y (x : Int)) a = if a = (y : Int) then (x : Int) else clAt on a := fun a h => zHO (by rw [u.lo]; exact hy) _ a h.1
 have fx : clAt on (x : Int) = x := (u.fix _ ix).2 kx
 have fy : clAt on (y : Int) = y := (u.fix _ iy).2 ky
 have er : rk'.length = N /\ ∀ a, InN N a -> (a = (x : Int) -> clAt rk a <= clAt rk' a /\ clAt rk (y : Int) < clAt rk' a /\ clAt rk' a <= clAt rk a + 1) /\ (a ≠ (x : Int) -> clAt rk' a = clAt rk a) := by
  rcases hr with ⟨h1, rfl⟩ | ⟨h1, rfl⟩
  ·exact ⟨u.lr, fun a _ => ⟨fun h => by subst h; omega, fun _ => rfl⟩⟩
  ·refine ⟨by rw [List.length_set, u.lr], fun a h => ?_⟩
   rw [zHO (by rw [u.lr]; exact hx) _ a h.1]
   refine ⟨fun h2 => ?_, fun h2 => by rw [if_neg h2]⟩
   subst h2; rw [if_pos rfl]; omega
 obtain ⟨lr, er⟩ := er
 refine ⟨by rw [List.length_set, u.lo], lr, fun a h => ?_, fun a h => ?_, fun a h => ?_, fun a h => ?_, fun a h => ?_⟩
 ·rw [e a h]; split
  ·exact ix
  ·exact u.rng _ h
 ·rw [e a h]
  by_cases q : a = (y : Int)
  ·rw [if_pos q, q, ky, if_pos rfl, kx, if_neg (by omega)]
  ·rw [if_neg q, u.same _ h]
 ·rw [e a h]
  by_cases q : a = (y : Int)
  ·rw [if_pos q, q, ky, if_pos rfl]
  ·rw [if_neg q]
   show _ ↔ (if rt a = (y : Int) then (x : Int) else rt a) = a
   by_cases q2 : rt a = (y : Int)
   ·rw [if_pos q2]
    constructor
    ·intro h2
     have := (u.fix _ h).1 h2; omega
    ·intro h2
     have h3 : a = (x : Int) := h2.symm
     rw [h3, kx] at q2; omega
   ·rw [if_neg q2]; exact u.fix _ h
 ·rw [e a h]
  by_cases q : a = (y : Int)
  ·rw [if_pos q, q]
   intro _
   rw [(er _ iy).2 (by omega)]
   exact ((er _ ix).1 rfl).2.1
  ·rw [if_neg q]
   intro h2
   have h3 := u.up _ h h2
   have h4 : a ≠ (x : Int) := fun h5 => h2 (by rw [h5, fx])
   rw [(er _ h).2 h4]
   by_cases h5 : clAt on a = (x : Int)
   ·rw [h5] at h3 ⊢
    have := ((er _ ix).1 rfl).1; omega
   ·rw [(er _ (u.rng _ h)).2 h5]; exact h3
 ·have h1 := u.rk _ h
  by_cases q : a = (x : Int)
  ·have h2 := (er _ h).1 q
   omega
  ·rw [(er _ h).2 q]; omega
def zGS (n : Nat) : List Int := (List.range n).map fun (i : Nat) => (i : Int)
theorem zJZ {n : Nat} {a : Int} (h : InN n a) : clAt (zGS n) a = a := by
 have h1 := h.1; have h2 := h.2
 simp only [clAt, zGS, List.getD, List.getElem?_map]
 rw [List.getElem?_range (by omega)]
 simp; omega
theorem UF.start (n : Nat) : UF n (zGS n) (List.replicate n 0) id 0 := by
 have hz : ∀ a, clAt (List.replicate n (0 : Int)) a = 0 := fun a => by
  simp only [clAt, List.getD, List.getElem?_replicate]; split <;> rfl
 refine ⟨by simp [zGS], by simp, fun a h => by rw [zJZ h]; exact h, fun a h => by rw [zJZ h], fun a h => by rw [zJZ h]; simp, fun a h h2 => absurd (zJZ h) h2, fun a h => by rw [hz]; omega⟩
def zDd (N : Nat) (rt : Int -> Int) : Nat := (List.range N).countP fun i : Nat => rt (i : Int) == (i : Int)
theorem zMy {x y : Nat} (hy : y < N) (ky : rt (y : Int) = y) (kx : rt (x : Int) = x) (hne : x ≠ y) : zDd N (fun a => if rt a = (y : Int) then (x : Int) else rt a) < zDd N rt := by
 refine zHe (fun i _ h => ?_) ⟨y, List.mem_range.2 hy, ?_, by simpa using ky⟩
 ·simp only [beq_iff_eq] at h ⊢
  by_cases q : rt (i : Int) = (y : Int)
  ·rw [if_pos q] at h
   rw [<- h, kx]
  ·rwa [if_neg q] at h
 ·simp only [ky, if_true]
  simpa using fun h : (x : Int) = (y : Int) => hne (by omega)
theorem zIH (n : Nat) : zDd n id <= n := by
 have := List.countP_le_length (p := fun i : Nat => (id (i : Int)) == (i : Int)) (l := List.range n)
 rw [List.length_range] at this; exact this
end
abbrev Fld := List Nat × Int
def fEs : Nat -> List Fld -> List (AVal × AVal × Nat)
 | _, [] => []
 | i, p :: r => (.str p.1, .int .i64 p.2, i) :: fEs (i + 1) r
theorem zLJ : ∀ (l : List Fld) (i : Nat), (fEs i l).length = l.length
 | [], _ => rfl
 | _ :: l, i => by simp only [fEs, zlC, zLJ l (i + 1)]
theorem zLK : ∀ (l : List Fld) (i : Nat) (p : Fld), fEs i (l ++ [p]) = fEs i l ++ [(.str p.1, .int .i64 p.2, i + l.length)]
 | [], i, p => rfl
 | b :: l, i, p => by simp only [zlK, fEs, zLK l (i + 1) p, zlC, show i + 1 + l.length = i + (l.length + 1) by omega]
def zBq : List Fld -> List Nat -> Option Int
 | [], _ => none
 | p :: r, s => if p.1 = s then some p.2 else zBq r s
theorem eqL_dec (a b : List Nat) : eqL a b = decide (a = b) := by
 rw [Bool.eq_iff_iff, zBJ, decide_eq_true_eq]
theorem zHR (s : List Nat) : ∀ (l : List Fld) (i j : Nat), ∃ k, zBm .str (.str s) (fEs i l) j = some ((zBq l s).map fun a => (k, .int .i64 a))
 | [], _, _ => ⟨0, rfl⟩
 | p :: l, i, j => by
  simp only [fEs, zBm, keyA, eqL_dec, zBq]
  by_cases h : p.1 = s
  ·subst h; exact ⟨j, by simp⟩
  ·obtain ⟨k, hk⟩ := zHR s l (i + 1) (j + 1)
   refine ⟨k, ?_⟩
   rw [decide_eq_false (fun e => h e.symm), if_neg h]
   exact hk
theorem fEs_look {h : AHeap} {r ver c : Nat} {l : List Fld} (hg : h.objs.get r = some (ver, .map (fEs 0 l) c)) (s : List Nat) : zCz h .str (.int .i64 0) true (.map (some r)) (.str s) = some (.tuple [.int .i64 ((zBq l s).getD 0), .bool (zBq l s).isSome], some r) := by
 obtain ⟨k, hk⟩ := zHR s l 0 0
 simp only [zCz, zEh, hg, hk]
 cases zBq l s <;> rfl
theorem zNh {h : AHeap} {r ver c : Nat} {l : List Fld} (hg : h.objs.get r = some (ver, .map (fEs 0 l) c)) (s : List Nat) : zCz h .str (.int .i64 0) false (.map (some r)) (.str s) = some (.int .i64 ((zBq l s).getD 0), some r) := by
 obtain ⟨k, hk⟩ := zHR s l 0 0
 simp only [zCz, zEh, hg, hk]
 cases zBq l s <;> rfl
theorem zMB {l : List Fld} {s : List Nat} (h : zBq l s = none) : zBm .str (.str s) (fEs 0 l) 0 = some none := by
 obtain ⟨k, hk⟩ := zHR s l 0 0
 rw [hk, h]; rfl
theorem zHg : ∀ {l : List Fld} {i : Nat} {e : AVal × AVal × Nat}, e ∈ fEs i l -> ∃ k, ∃ hk : k < l.length, e = (.str l[k].1, .int .i64 l[k].2, i + k)
 | p :: l, i, e, h => by
  simp only [fEs, List.mem_cons] at h
  rcases h with rfl | h
  ·exact ⟨0, by simp, rfl⟩
  ·obtain ⟨k, hk, rfl⟩ := zHg h
   exact ⟨k + 1, by simpa using hk, by simp only [List.getElem_cons_succ]; congr 2; omega⟩
theorem zNf : ∀ {l : List Fld} {i k : Nat} (hk : k < l.length), (fEs i l).find? (fun e => Nat.beq e.2.2 (i + k)) = some (.str l[k].1, .int .i64 l[k].2, i + k)
 | p :: l, i, 0, _ => by simp [fEs, List.find?]
 | p :: l, i, k + 1, hk => by
  have hne : Nat.beq i (i + (k + 1)) = false := by
   cases h : Nat.beq i (i + (k + 1))
   ·rfl
   ·have := Nat.eq_of_beq_eq_true h; omega
  have ih := zNf (l := l) (i := i + 1) (k := k) (by simpa using hk)
  rw [show i + 1 + k = i + (k + 1) by omega] at ih
  simp only [fEs, List.find?, hne]
  exact ih
theorem zNg : ∀ {l : List Fld} {i k : Nat} (hk : k < l.length), (.str l[k].1, .int .i64 l[k].2, i + k) ∈ fEs i l
 | p :: l, i, 0, _ => by simp [fEs]
 | p :: l, i, k + 1, hk => by
  have := zNg (l := l) (i := i + 1) (k := k) (by simpa using hk)
  rw [show i + 1 + k = i + (k + 1) by omega] at this
  simp only [fEs, List.getElem_cons_succ]
  exact List.mem_cons_of_mem _ this
theorem zFV : ∀ {l : List Fld} {s : List Nat} {a : Int}, zBq l s = some a -> (s, a) ∈ l
 | p :: l, s, a, h => by
  rw [zBq] at h
  split at h
  ·rename_i q; cases h; subst q; exact List.mem_cons_self ..
  ·exact List.mem_cons_of_mem _ (zFV h)
theorem zCk : ∀ {l : List Fld} {s : List Nat}, zBq l s = none ↔ ∀ a, (s, a) ∉ l
 | [], s => by simp [zBq]
 | p :: l, s => by
  rw [zBq]
  split
  ·rename_i q; subst q
   simp only [reduceCtorEq, false_iff, Classical.not_forall, Classical.not_not]
   exact ⟨p.2, List.mem_cons_self ..⟩
  ·rename_i q
   rw [zCk]
   constructor
   ·intro h a ha
    rcases List.mem_cons.1 ha with ha | ha
    ·exact q (by rw [<- ha])
    ·exact h a ha
   ·intro h a ha; exact h a (List.mem_cons_of_mem _ ha)
theorem findF_in {l : List Fld} (hn : (l.map (·.1)).Nodup) {s : List Nat} {a : Int} (h : (s, a) ∈ l) : zBq l s = some a := by
 cases hf : zBq l s with
 | none => exact absurd h (zCk.1 hf a)
 | some b =>
  have hb := zFV hf
  have h1 := zEL hn h
  have h2 := zEL hn hb
  rw [<- h1, h2]
theorem zIx : ∀ (l : List Fld) (s : List Nat), zDl l s = (zBq l s).getD 0
 | [], _ => rfl
 | (k, a) :: l, s => by
  rw [zDl, zBq]
  split
  ·rfl
  ·exact zIx l s
theorem zNj (l r : List Fld) (s : List Nat) : zBq (l ++ r) s = (zBq l s).or (zBq r s) := by
 induction l with
 | nil => rfl
 | cons p l ih =>
  rw [zlK, zBq, zBq]
  split
  ·rfl
  ·exact ih
def zIb (fX : List Fld) (seen : List Nat) : List Fld := seen.filterMap fun i => fX[i]?
def zCg (fX fY : List Fld) (seen : List Nat) : List Fld := (zIb fX seen).filter fun p => (zBq fY p.1).isNone
def newW (fX fY : List Fld) (seen : List Nat) : List Pr := (zIb fX seen).filterMap fun p => (zBq fY p.1).map fun b => (p.2, b)
section
variable {fX fY : List Fld} {seen : List Nat} {i : Nat}
theorem zMM (hi : i < fX.length) : zIb fX (seen ++ [i]) = zIb fX seen ++ [fX[i]] := by
 simp [zIb, hi]
theorem zGX {p : Fld} : p ∈ zIb fX seen ↔ ∃ i ∈ seen, fX[i]? = some p := by simp [zIb]
theorem adds_new (hi : i < fX.length) (h : zBq fY fX[i].1 = none) : zCg fX fY (seen ++ [i]) = zCg fX fY seen ++ [fX[i]] /\ newW fX fY (seen ++ [i]) = newW fX fY seen := by
 simp [zCg, newW, zMM hi, h]
theorem adds_old (hi : i < fX.length) {b : Int} (h : zBq fY fX[i].1 = some b) : zCg fX fY (seen ++ [i]) = zCg fX fY seen /\ newW fX fY (seen ++ [i]) = newW fX fY seen ++ [(fX[i].2, b)] := by
 simp [zCg, newW, zMM hi, h]
theorem zMi (hn : (fX.map (·.1)).Nodup) (hi : i < fX.length) (hs : i ∉ seen) : zBq (fY ++ zCg fX fY seen) fX[i].1 = zBq fY fX[i].1 := by
 rw [zNj]
 have : zBq (zCg fX fY seen) fX[i].1 = none := zCk.2 fun a ha => by
  obtain ⟨j, hj, hp⟩ := zGX.1 (List.mem_filter.1 ha).1
  obtain ⟨hjl, hje⟩ := List.getElem?_eq_some_iff.1 hp
  have h1 : (fX.map (·.1))[j]'(by simpa using hjl) = (fX.map (·.1))[i]'(by simpa using hi) := by simp [hje]
  have h2 := (List.getElem_inj hn).1 h1
  exact hs (h2 ▸ hj)
 rw [this]; cases zBq fY fX[i].1 <;> rfl
theorem zOE : (newW fX fY seen).length <= seen.length := by
 refine Nat.le_trans (List.length_filterMap_le ..) (List.length_filterMap_le ..)
theorem zLL (hX : (fX.map (·.1)).Nodup) (hY : (fY.map (·.1)).Nodup) : ∀ (seen : List Nat), seen.Nodup -> ((fY ++ zCg fX fY seen).map (·.1)).Nodup := by
 intro seen hs
 rw [List.map_append, List.nodup_append]
 refine ⟨hY, ?_, ?_⟩
 ·have hp : ((zIb fX seen).map (·.1)).Nodup := by
   induction seen with
   | nil => exact List.nodup_nil
   | cons i r ih =>
    have hs' := List.nodup_cons.1 hs
    simp only [zIb, List.filterMap_cons]
    cases hi : fX[i]? with
    | none => exact ih hs'.2
    | some p =>
     simp only [List.map_cons, List.nodup_cons]
     refine ⟨fun hm => ?_, ih hs'.2⟩
     obtain ⟨q, hq, he⟩ := List.mem_map.1 hm
     obtain ⟨j, hj, hjq⟩ := zGX.1 hq
     obtain ⟨hil, hie⟩ := List.getElem?_eq_some_iff.1 hi
     obtain ⟨hjl, hje⟩ := List.getElem?_eq_some_iff.1 hjq
     have h1 : (fX.map (·.1))[j]'(by simpa using hjl) = (fX.map (·.1))[i]'(by simpa using hil) := by simp [hje, hie, he]
     have h2 := (List.getElem_inj hX).1 h1
     exact hs'.1 (h2 ▸ hj)
  exact hp.sublist (List.Sublist.map _ (List.filter_sublist ..))
 ·intro a ha b hb hab
  subst hab
  obtain ⟨p, hp, rfl⟩ := List.mem_map.1 ha
  obtain ⟨q, hq, he⟩ := List.mem_map.1 hb
  have h1 := (List.mem_filter.1 hq).2
  simp only [Option.isNone_iff_eq_none] at h1
  exact zCk.1 h1 p.2 (by rw [he]; exact hp)
theorem zOD {s : List Nat} {a : Int} (hall : ∀ i, i < fX.length -> i ∈ seen) : (s, a) ∈ fY ++ zCg fX fY seen ↔ (s, a) ∈ fY \/ ((s, a) ∈ fX /\ ∀ b, (s, b) ∉ fY) := by
 rw [List.mem_append]
 refine or_congr_right ?_
 rw [zCg, List.mem_filter, zGX, Option.isNone_iff_eq_none, zCk]
 refine and_congr_left fun _ => ⟨fun ⟨i, _, hi⟩ => List.mem_of_getElem? hi, fun h => ?_⟩
 obtain ⟨i, hi, he⟩ := List.mem_iff_getElem.1 h
 exact ⟨i, hall i hi, by rw [List.getElem?_eq_getElem hi, he]⟩
theorem mem_new (hX : (fX.map (·.1)).Nodup) (hY : (fY.map (·.1)).Nodup) (hall : ∀ i, i < fX.length -> i ∈ seen) {q : Pr} : q ∈ newW fX fY seen ↔ ∃ l, (l, q.1) ∈ fX /\ (l, q.2) ∈ fY := by
 rw [newW, List.mem_filterMap]
 constructor
 ·rintro ⟨p, hp, h⟩
  obtain ⟨i, _, hi⟩ := zGX.1 hp
  cases hf : zBq fY p.1 with
  | none => rw [hf] at h; cases h
  | some b => rw [hf] at h; cases h; exact ⟨p.1, List.mem_of_getElem? hi, zFV hf⟩
 ·rintro ⟨l, h1, h2⟩
  obtain ⟨i, hi, he⟩ := List.mem_iff_getElem.1 h1
  refine ⟨(l, q.1), zGX.2 ⟨i, hall i hi, by rw [List.getElem?_eq_getElem hi, he]⟩, ?_⟩
  rw [findF_in hY h2]; rfl
end
theorem zCm {α : Type} [BEq α] [LawfulBEq α] : ∀ (a b : List α), a.Nodup -> (∀ x ∈ a, x ∈ b) -> a.length <= b.length
 | [], b, _, _ => Nat.zero_le _
 | y :: a, b, hn, hs => by
  have hn' := List.nodup_cons.1 hn
  have hy : y ∈ b := hs y (by simp)
  have ih := zCm a (b.erase y) hn'.2 fun x hx => (List.mem_erase_of_ne (by rintro rfl; exact hn'.1 hx)).2 (hs x (by simp [hx]))
  rw [List.length_erase_of_mem hy] at ih
  have := List.length_pos_of_mem hy
  simp only [zlC]; omega
theorem zNC {α : Type} [BEq α] [LawfulBEq α] {a b : List α} (hn : a.Nodup) (hs : ∀ x ∈ a, x ∈ b) (hl : b.length <= a.length) (hb : b.Nodup) : ∀ x ∈ b, x ∈ a := by
 intro x hx
 apply Classical.byContradiction
 intro h
 have := zCm (x :: a) b (List.nodup_cons.2 ⟨h, hn⟩) fun y hy => by
  rcases List.mem_cons.1 hy with rfl | hy
  ·exact hx
  ·exact hs y hy
 simp only [zlC] at this; omega
theorem zOG {cX cY : Clz} {seen : List Nat} (kX : cX.kind = 3) (kY : cY.kind = 3) (hn : cX.name = cY.name) (nX : (cX.fields.map (·.1)).Nodup) (nY : (cY.fields.map (·.1)).Nodup) (aY : cY.args = []) (hs : seen.Nodup) (hall : ∀ i, i < cX.fields.length -> i ∈ seen)
  (hopen : ∀ i, (hi : i < cX.fields.length) -> cY.isOpen = true \/ (zBq cY.fields cX.fields[i].1).isSome = true) :
  (cX.isOpen = false /\ cX.fields.length < (cY.fields ++ zCg cX.fields cY.fields seen).length -> Clash cX cY) ∧
  (¬ (cX.isOpen = false /\ cX.fields.length < (cY.fields ++ zCg cX.fields cY.fields seen).length) -> Merge cX cY ⟨3, cY.name, [], cY.fields ++ zCg cX.fields cY.fields seen, cY.isOpen && cX.isOpen⟩ (newW cX.fields cY.fields seen)) := by
 have hnd := zLL nX nY seen hs
 have hmem := fun s a => @zOD cX.fields cY.fields seen s a hall
 generalize hF : cY.fields ++ zCg cX.fields cY.fields seen = F at hnd hmem
 have hsub : ∀ s ∈ cX.fields.map (·.1), s ∈ F.map (·.1) := fun s h => by
  obtain ⟨p, hp, rfl⟩ := List.mem_map.1 h
  by_cases hq : ∃ b, (p.1, b) ∈ cY.fields
  ·obtain ⟨b, hb⟩ := hq
   exact List.mem_map.2 ⟨(p.1, b), (hmem _ _).2 (.inl hb), rfl⟩
  ·exact List.mem_map.2 ⟨p, (hmem p.1 p.2).2 (.inr ⟨hp, fun b hb => hq ⟨b, hb⟩⟩), rfl⟩
 constructor
 ·rintro ⟨ho, hl⟩
  have : ¬ ∀ s ∈ F.map (·.1), s ∈ cX.fields.map (·.1) := fun h => by
   have := zCm _ _ hnd h
   rw [List.length_map, List.length_map] at this; omega
  simp only [Classical.not_forall] at this
  obtain ⟨s, hsF, hsX⟩ := this
  obtain ⟨p, hp, rfl⟩ := List.mem_map.1 hsF
  refine ⟨by omega, by omega, .inr (.inr ⟨kX, kY, .inr ⟨ho, p.1, p.2, ?_, fun b hb => hsX (List.mem_map.2 ⟨_, hb, rfl⟩)⟩⟩)⟩
  rcases (hmem p.1 p.2).1 hp with h | ⟨h, _⟩
  ·exact h
  ·exact absurd (List.mem_map.2 ⟨_, h, rfl⟩) hsX
 ·intro hno
  refine .obj kX kY hn rfl rfl rfl (fun l a => hmem l a) hnd rfl (fun ho l a hla => ?_) (fun ho l a hla => ?_) fun q => mem_new nX nY hall
  ·obtain ⟨i, hi, he⟩ := List.mem_iff_getElem.1 hla
   rcases hopen i hi with h | h
   ·rw [ho] at h; cases h
   ·rw [he] at h
    obtain ⟨b, hb⟩ := Option.isSome_iff_exists.1 h
    exact ⟨b, zFV hb⟩
  ·have hl : F.length <= cX.fields.length := by
    rcases Nat.lt_or_ge cX.fields.length F.length with h | h
    ·exact absurd ⟨ho, h⟩ hno
    ·exact h
   have := zNC nX hsub (by rw [List.length_map, List.length_map]; exact hl) hnd l (List.mem_map.2 ⟨(l, a), (hmem l a).2 (.inl hla), rfl⟩)
   obtain ⟨p, hp, rfl⟩ := List.mem_map.1 this
   exact ⟨p.2, hp⟩
end Go.Ab.S
end
section
namespace Go.Ab.S
open Go.Ab
set_option maxHeartbeats 8000000
def swP (q : Pr) : Pr := (q.2, q.1)
def flM (g : Graph) (met : List Pr) : List Pr := met.filter fun q => zEu (zAB g q.1)
structure SInv (h0 : AHeap) (b2 b3 r5 r6 r7 : Nat) (nv mv : AVal) (g h : Graph) (w met fl fl' : List Pr) (vw : AVal) (hp : AHeap) : Prop where
 grow : Grow h0 hp
 o2 : ∃ ver, hp.objs.get b2 = some (ver, .cells false 24 [nv, .int .i64 g.root])
 o3 : ∃ ver, hp.objs.get b3 = some (ver, .cells false 24 [mv, .int .i64 h.root])
 o5 : ∃ ver es c, hp.objs.get r5 = some (ver, .map es c) /\ MP es met
 o6 : ∃ ver es c, hp.objs.get r6 = some (ver, .map es c) /\ FA es fl
 o7 : ∃ ver es c, hp.objs.get r7 = some (ver, .map es c) /\ FA es fl'
 bw : Built hp h0.next 83 2 vw w.length (rowC w)
 low : h0.next <= r5 /\ h0.next <= r6 /\ h0.next <= r7 /\ r5 ≠ r6 /\ r5 ≠ r7 /\ r6 ≠ r7
section
variable {h0 : AHeap} {b2 b3 r5 r6 r7 : Nat} {nv mv : AVal} {g h : Graph} {w w' met fl fl' : List Pr} {vw vw' : AVal} {hp hq : AHeap} (I : SInv h0 b2 b3 r5 r6 r7 nv mv g h w met fl fl' vw hp)
include I
theorem SInv.other (gr : Grow hp hq) : SInv h0 b2 b3 r5 r6 r7 nv mv g h w met fl fl' vw hq := by
 obtain ⟨v2, k2⟩ := I.o2
 obtain ⟨v3, k3⟩ := I.o3
 obtain ⟨v5, e5, c5, k5, f5⟩ := I.o5
 obtain ⟨v6, e6, c6, k6, f6⟩ := I.o6
 obtain ⟨v7, e7, c7, k7, f7⟩ := I.o7
 exact ⟨I.grow.trans gr, ⟨v2, gr.keep _ _ k2⟩, ⟨v3, gr.keep _ _ k3⟩, ⟨_, _, _, gr.keep _ _ k5, f5⟩, ⟨_, _, _, gr.keep _ _ k6, f6⟩, ⟨_, _, _, gr.keep _ _ k7, f7⟩, I.bw.grow gr, I.low⟩
theorem SInv.row (B : Built hp h0.next 83 2 vw' w'.length (rowC w')) : SInv h0 b2 b3 r5 r6 r7 nv mv g h w' met fl fl' vw' hp :=
 ⟨I.grow, I.o2, I.o3, I.o5, I.o6, I.o7, B, I.low⟩
theorem SInv.push (gr : Grow h0 hq) (kp : ∀ c p, hp.objs.get c = some p -> (∀ n, vw ≠ .slice (some (c, 0)) n) -> hq.objs.get c = some p) (B : Built hq h0.next 83 2 vw' w'.length (rowC w')) : SInv h0 b2 b3 r5 r6 r7 nv mv g h w' met fl fl' vw' hq := by
 obtain ⟨v2, k2⟩ := I.o2
 obtain ⟨v3, k3⟩ := I.o3
 obtain ⟨v5, e5, c5, k5, f5⟩ := I.o5
 obtain ⟨v6, e6, c6, k6, f6⟩ := I.o6
 obtain ⟨v7, e7, c7, k7, f7⟩ := I.o7
 have kk : ∀ c p, hp.objs.get c = some p -> (∀ vs, p.2 ≠ .cells false 83 vs) -> hq.objs.get c = some p := fun c p hc hne => kp c p hc (zAK I.bw hc hne)
 exact ⟨gr, ⟨v2, kk _ _ k2 (fun vs hh => by cases hh)⟩, ⟨v3, kk _ _ k3 (fun vs hh => by cases hh)⟩, ⟨_, _, _, kk _ _ k5 (fun vs hh => by cases hh), f5⟩, ⟨_, _, _, kk _ _ k6 (fun vs hh => by cases hh), f6⟩, ⟨_, _, _, kk _ _ k7 (fun vs hh => by cases hh), f7⟩, B, I.low⟩
theorem SInv.put5 (w0 : WF h0) {ver : Nat} {es : List (AVal × AVal × Nat)} {c : Nat} {met' : List Pr} (p : But r5 hp hq) (o : hq.objs.get r5 = some (ver, .map es c)) (f : MP es met') : SInv h0 b2 b3 r5 r6 r7 nv mv g h w met' fl fl' vw hq := by
 obtain ⟨v2, k2⟩ := I.o2
 obtain ⟨v3, k3⟩ := I.o3
 obtain ⟨v5, e5, c5, k5, f5⟩ := I.o5
 obtain ⟨v6, e6, c6, k6, f6⟩ := I.o6
 obtain ⟨v7, e7, c7, k7, f7⟩ := I.o7
 obtain ⟨l5, l6, l7, n56, n57, n67⟩ := I.low
 exact ⟨p.grow h0 w0 I.grow l5, ⟨_, p.kp k5 k2 rfl⟩, ⟨_, p.kp k5 k3 rfl⟩, ⟨_, _, _, o, f⟩, ⟨_, _, _, p.keep _ (Ne.symm n56) _ k6, f6⟩, ⟨_, _, _, p.keep _ (Ne.symm n57) _ k7, f7⟩, zAS I.bw p k5 (fun vs hh => by cases hh), l5, l6, l7, n56, n57, n67⟩
theorem SInv.put6 (w0 : WF h0) {ver : Nat} {es : List (AVal × AVal × Nat)} {c : Nat} {fl2 : List Pr} (p : But r6 hp hq) (o : hq.objs.get r6 = some (ver, .map es c)) (f : FA es fl2) : SInv h0 b2 b3 r5 r6 r7 nv mv g h w met fl2 fl' vw hq := by
 obtain ⟨v2, k2⟩ := I.o2
 obtain ⟨v3, k3⟩ := I.o3
 obtain ⟨v5, e5, c5, k5, f5⟩ := I.o5
 obtain ⟨v6, e6, c6, k6, f6⟩ := I.o6
 obtain ⟨v7, e7, c7, k7, f7⟩ := I.o7
 obtain ⟨l5, l6, l7, n56, n57, n67⟩ := I.low
 exact ⟨p.grow h0 w0 I.grow l6, ⟨_, p.kp k6 k2 rfl⟩, ⟨_, p.kp k6 k3 rfl⟩, ⟨_, _, _, p.keep _ n56 _ k5, f5⟩, ⟨_, _, _, o, f⟩, ⟨_, _, _, p.keep _ (Ne.symm n67) _ k7, f7⟩, zAS I.bw p k6 (fun vs hh => by cases hh), l5, l6, l7, n56, n57, n67⟩
theorem SInv.put7 (w0 : WF h0) {ver : Nat} {es : List (AVal × AVal × Nat)} {c : Nat} {fl2 : List Pr} (p : But r7 hp hq) (o : hq.objs.get r7 = some (ver, .map es c)) (f : FA es fl2) : SInv h0 b2 b3 r5 r6 r7 nv mv g h w met fl fl2 vw hq := by
 obtain ⟨v2, k2⟩ := I.o2
 obtain ⟨v3, k3⟩ := I.o3
 obtain ⟨v5, e5, c5, k5, f5⟩ := I.o5
 obtain ⟨v6, e6, c6, k6, f6⟩ := I.o6
 obtain ⟨v7, e7, c7, k7, f7⟩ := I.o7
 obtain ⟨l5, l6, l7, n56, n57, n67⟩ := I.low
 exact ⟨p.grow h0 w0 I.grow l7, ⟨_, p.kp k7 k2 rfl⟩, ⟨_, p.kp k7 k3 rfl⟩, ⟨_, _, _, p.keep _ n57 _ k5, f5⟩, ⟨_, _, _, p.keep _ n67 _ k6, f6⟩, ⟨_, _, _, o, f⟩, zAS I.bw p k7 (fun vs hh => by cases hh), l5, l6, l7, n56, n57, n67⟩
end
theorem zEa {fns : FnsT} {summ : SumT} {ro : Option Nat} {c : ACode} {a : AAct} {h : AHeap} {Q : AExit -> AAct -> AHeap -> Prop} (I : AAct -> AHeap -> Prop) (k1 : Cd fns summ ro c a h (nxt I Q)) (k2 : ∀ a h, I a h -> Q .normal a h) : Cd fns summ ro c a h Q :=
 k1.mono fun e a1 h1 hq => by cases e with
  | normal => exact k2 a1 h1 hq
  | ret => exact hq
  | exit i => exact hq
theorem zNn (g : Graph) (met : List Pr) (p : Pr) : flM g (met ++ [p]) = flM g met ++ (if zEu (zAB g p.1) then [p] else []) := by
 simp only [flM, List.filter_append]
 congr 1
 cases h : zEu (zAB g p.1) <;> simp [h]
theorem bad_any {g : Graph} {met : List Pr} {p : Pr} (hp : p ∉ met) (hf : zEu (zAB g p.1) = true) : met.any (badS g p) = (((flM g met).any fun q => q.1 == p.1) || (((flM g met).map swP).any fun q => q.1 == p.2)) := by
 unfold flM
 rw [Bool.eq_iff_iff]
 simp only [List.any_eq_true, badS, hf, Bool.true_and, Bool.and_eq_true, Bool.or_eq_true, List.mem_filter, List.mem_map, beq_iff_eq, swP]
 constructor
 ·rintro ⟨q, hq, hq2, h | h⟩
  ·exact .inl ⟨q, ⟨hq, hq2⟩, h.symm⟩
  ·exact .inr ⟨_, ⟨q, ⟨hq, hq2⟩, rfl⟩, h.symm⟩
 ·rintro (⟨q, ⟨hq, hq2⟩, h⟩ | ⟨_, ⟨q, ⟨hq, hq2⟩, rfl⟩, h⟩)
  ·exact ⟨q, hq, hq2, .inl h.symm⟩
  ·exact ⟨q, hq, hq2, .inr h.symm⟩
theorem bad_none {g : Graph} {met : List Pr} {p : Pr} (hf : zEu (zAB g p.1) = false) : met.any (badS g p) = false := by
 rw [List.any_eq_false]; intro q _; simp [badS, hf]
def zMN : ACode :=
 .seq (
 .ops [
 ⟨(some 111), none, .q (.fieldA 2 (.tmp 10))⟩,
 ⟨(some 112), none, .q (.load none (.tmp 111))⟩,
 ⟨(some 113), none, .q (.lenV (.tmp 112))⟩,
 ⟨(some 114), none, .q (.mov (.val (.int .i64 0)))⟩]) (
 .block 2 (
 .loop (
 .seq (
 .ops [
 ⟨(some 115), none, .q (.num .lss (.tmp 114) (.tmp 113))⟩]) (
 .seq (
 .cond (.tmp 115) (
 .skip) (
 .exit 2)) (
 .seq (
 .block 3 (
 .seq (
 .ops [
 ⟨(some 116), none, .q (.mov (.tmp 114))⟩,
 ⟨(some 16), none, .q (.mov (.tmp 116))⟩]) (
 .draw [
 ⟨0, 0, ⟨(some 117), none, .q (.mov (.tmp 8))⟩⟩,
 ⟨1, 0, ⟨(some 118), none, .q (.fieldA 2 (.tmp 10))⟩⟩,
 ⟨2, 2, ⟨(some 119), none, .q (.load none (.tmp 118))⟩⟩,
 ⟨3, 0, ⟨(some 120), none, .q (.mov (.tmp 16))⟩⟩,
 ⟨4, 14, ⟨(some 121), none, .q (.indexA 1 (.tmp 119) (.tmp 120))⟩⟩,
 ⟨5, 30, ⟨(some 122), none, .q (.load none (.tmp 121))⟩⟩,
 ⟨6, 0, ⟨(some 123), none, .q (.fieldA 2 (.tmp 11))⟩⟩,
 ⟨7, 64, ⟨(some 124), none, .q (.load none (.tmp 123))⟩⟩,
 ⟨8, 0, ⟨(some 125), none, .q (.mov (.tmp 16))⟩⟩,
 ⟨9, 448, ⟨(some 126), none, .q (.indexA 1 (.tmp 124) (.tmp 125))⟩⟩,
 ⟨10, 960, ⟨(some 127), none, .q (.load none (.tmp 126))⟩⟩,
 ⟨11, 2046, ⟨(some 128), none, .q (.build [(.int .i64 0), (.int .i64 0)] [(0, 1, (.tmp 122)), (1, 1, (.tmp 127))])⟩⟩,
 ⟨12, 4094, ⟨(some 129), none, .e (.bslice 83 2 1 [(.int .i64 0), (.int .i64 0)] [(0, (.tmp 128))])⟩⟩,
 ⟨13, 8191, ⟨(some 130), none, .e (.append 83 2 16 (.tmp 117) (.tmp 129))⟩⟩,
 ⟨14, 16383, ⟨(some 8), none, .q (.mov (.tmp 130))⟩⟩]))) (
 .ops [
 ⟨(some 131), none, .q (.num .add (.tmp 114) (.val (.int .i64 1)))⟩,
 ⟨(some 114), none, .q (.mov (.tmp 131))⟩]))))))
section
variable {fns : FnsT} {summ : SumT}
theorem push_ok {h0 : AHeap} {b2 b3 r5 r6 r7 b10 b11 : Nat} {nv mv : AVal} {g h : Graph} {w met fl fl' : List Pr} {vw : AVal} {hq : AHeap} {a : AAct} {Q : AExit -> AAct -> AHeap -> Prop} (w0 : WF h0) (I : SInv h0 b2 b3 r5 r6 r7 nv mv g h w met fl fl' vw hq) {x y : Node} {av lv bv mv' : AVal}
  (o10 : ∃ ver, hq.objs.get b10 = some (ver, .cells false 36 [.int .i64 x.kind, .str x.name, av, lv, .bool x.isOpen])) (o11 : ∃ ver, hq.objs.get b11 = some (ver, .cells false 36 [.int .i64 y.kind, .str y.name, bv, mv', .bool y.isOpen]))
  (ha : IntsAt h0 av x.args) (hb : IntsAt h0 bv y.args) (hxy : x.args.length = y.args.length) (hx : x.args.length <= 4096) (hw : w.length <= 2 ^ 36) (hd : a.defers = [])
  (h2' : ev a (.tmp 2) = some (.ptr (some (b2, 0)))) (h3' : ev a (.tmp 3) = some (.ptr (some (b3, 0)))) (h5' : ev a (.tmp 5) = some (.map (some r5))) (h6' : ev a (.tmp 6) = some (.map (some r6))) (h7' : ev a (.tmp 7) = some (.map (some r7))) (h8' : ev a (.tmp 8) = some vw) (h10' : ev a (.tmp 10) = some (.ptr (some (b10, 0)))) (h11' : ev a (.tmp 11) = some (.ptr (some (b11, 0))))
  (k : ∀ a hr vw', SInv h0 b2 b3 r5 r6 r7 nv mv g h ((List.zip x.args y.args).reverse ++ w) met fl fl' vw' hr -> a.defers = [] -> ev a (.tmp 2) = some (.ptr (some (b2, 0))) -> ev a (.tmp 3) = some (.ptr (some (b3, 0))) -> ev a (.tmp 5) = some (.map (some r5)) -> ev a (.tmp 6) = some (.map (some r6)) -> ev a (.tmp 7) = some (.map (some r7)) -> ev a (.tmp 8) = some vw' -> Q .normal a hr) : Cd fns summ none zMN a hq Q := by
 have hla := ha.len
 have hlb := hb.len
 have e36 : (2 : Nat) ^ 36 = 68719476736 := by decide
 have e37 : (2 : Nat) ^ 37 = 137438953472 := by decide
 obtain ⟨v10, o10⟩ := o10
 obtain ⟨v11, o11⟩ := o11
 unfold zMN
 repeat with_reducible first | refine zAA ?_ | refine zAC ?_ | refine zAE ?_ | refine zAD ?_ | (apply st_q; exact q1)
 refine zAz (N := x.args.length) (by omega) (fun j a hr => ∃ vx, SInv h0 b2 b3 r5 r6 r7 nv mv g h (((List.zip x.args y.args).take j).reverse ++ w) met fl fl' vx hr /\ (∃ ver, hr.objs.get b10 = some (ver, .cells false 36 [.int .i64 x.kind, .str x.name, av, lv, .bool x.isOpen])) /\ (∃ ver, hr.objs.get b11 = some (ver, .cells false 36 [.int .i64 y.kind, .str y.name, bv, mv', .bool y.isOpen])) /\ a.defers = [] ∧
   ev a (.tmp 2) = some (.ptr (some (b2, 0))) /\ ev a (.tmp 3) = some (.ptr (some (b3, 0))) /\ ev a (.tmp 5) = some (.map (some r5)) /\ ev a (.tmp 6) = some (.map (some r6)) /\ ev a (.tmp 7) = some (.map (some r7)) /\ ev a (.tmp 8) = some vx /\ ev a (.tmp 10) = some (.ptr (some (b10, 0))) /\ ev a (.tmp 11) = some (.ptr (some (b11, 0))))
  (by rintro j a hp t w (rfl | rfl | rfl) ⟨vx, k1, k2, k3, k4, k5, k6, k7, k8, k9, k10, k11, k12⟩ <;> exact ⟨vx, k1, k2, k3, by rw [zAc]; exact k4, by exact e1, by exact e1, by exact e1, by exact e1, by exact e1, by exact e1, by exact e1, by exact e1⟩) (by decide) ?_ ?_ ⟨vw, by simpa using I, ⟨_, o10⟩, ⟨_, o11⟩, by exact n1, by exact e1, by exact e1, by exact e1, by exact e1, by exact e1, by exact e1, by exact e1, by exact e1⟩ (by exact e1) (by exact e1)
 ·clear I o10 o11 hd h2' h3' h5' h6' h7' h8' h10' h11'
  rintro j a hr hj ⟨vx, I, ⟨v10, o10⟩, ⟨v11, o11⟩, hd, h2', h3', h5', h6', h7', h8', h10', h11'⟩ hi hn
  have hjy : j < y.args.length := by omega
  obtain ⟨ba, oa, vera, ra, ea, vsa, hixa, hga0, hva⟩ := ha.at (List.getElem?_eq_getElem hj)
  obtain ⟨bb, ob, verb, rb, eb, vsb, hixb, hgb0, hvb⟩ := hb.at (List.getElem?_eq_getElem hjy)
  have hga := I.grow.keep _ _ hga0
  have hgb := I.grow.keep _ _ hgb0
  have hzl : j < (List.zip x.args y.args).length := by rw [List.length_zip]; omega
  have hwl : (((List.zip x.args y.args).take j).reverse ++ w).length <= 2 ^ 36 + 4096 := by
   rw [List.length_append, List.length_reverse, List.length_take]; omega
  have hst : ((List.zip x.args y.args).take (j + 1)).reverse ++ w = (x.args[j], y.args[j]) :: (((List.zip x.args y.args).take j).reverse ++ w) := by
   rw [List.take_succ_eq_append_getElem hzl, List.reverse_append, List.getElem_zip]; rfl
  have hroom : zCv 16 ((((List.zip x.args y.args).take j).reverse ++ w).length + 1) = true := roomP (by omega)
  clear hla hlb hx hw hwl hzl
  replace hxy := Hid.mk hxy
  repeat with_reducible first | refine zAA ?_ | refine zAC ?_ | refine zAE ?_ | refine zAD ?_ | refine zAP ?_ | refine zBQ ?_ | (apply zNV; exact e1; exact e1) | (apply dr_q; exact q1) | (apply zCs; exact q1; exact og1) | (apply st_q; exact q1)
  refine zBD (zAp (v := .agg (zCb (x.args[j], y.args[j]))) (cs := zCb (x.args[j], y.args[j])) (by exact e1) rfl rfl rfl I.grow.wf ?_)
  rintro bx h9 hbx g9 ox
  refine zAC ⟨by simp [zAf, Nat.testBit, g9.keep _ _ o10, g9.keep _ _ o11, g9.keep _ _ hga, g9.keep _ _ hgb], ?_⟩
  have B9 := I.bw.grow g9
  have I9 := I.other g9
  refine zBD (zAy (by exact e1) (by exact e1) B9 ox rfl rfl hroom g9.wf (by have := I9.grow.next; omega) ?_)
  rintro vx' h10 B10 f10 w10 n10 gr10 kp10
  have G10 := gr10 h0 w0 I9.grow (Nat.le_refl _)
  rw [<- zEQ, <- hst] at B10
  have hll : (((List.zip x.args y.args).take (j + 1)).reverse ++ w).length = (((List.zip x.args y.args).take j).reverse ++ w).length + 1 := by rw [hst]; rfl
  rw [<- hll] at B10
  have I10 := I9.push G10 kp10 B10
  have o10' := kp10 _ _ (g9.keep _ _ o10) (zAK B9 (g9.keep _ _ o10) fun vs hh => by cases hh)
  have o11' := kp10 _ _ (g9.keep _ _ o11) (zAK B9 (g9.keep _ _ o11) fun vs hh => by cases hh)
  refine zAC ⟨by simp [zAf, Nat.testBit, o10', o11', G10.keep _ _ hga0, G10.keep _ _ hgb0], ?_⟩
  clear I I9 B9 B10 kp10 gr10 f10 ox o10 o11 hga hgb hga0 hgb0 hixa hixb hva hvb g9 hst hll
  repeat with_reducible first | refine zAA ?_ | refine zAQ ?_ | refine zBz ?_ | (apply dr_q; exact q1)
  exact ⟨⟨vx', I10, ⟨_, o10'⟩, ⟨_, o11'⟩, by exact n1, by exact e1, by exact e1, by exact e1, by exact e1, by exact e1, by exact e1, by exact e1, by exact e1⟩, by exact e1, by exact e1⟩
 ·rintro a hr ⟨vx, I, _, _, k4, k5, k6, k7, k8, k9, k10, _, _⟩
  rw [List.take_of_length_le (by rw [List.length_zip]; omega)] at I
  exact k a hr vx I k4 k5 k6 k7 k8 k9 k10
end
end Go.Ab.S
end
