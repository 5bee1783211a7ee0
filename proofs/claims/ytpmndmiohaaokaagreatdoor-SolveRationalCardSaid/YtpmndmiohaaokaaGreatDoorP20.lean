import Derived.Test.YtpmndmiohaaokaaGreatDoorP14
import Derived.Test.YtpmndmiohaaokaaGreatDoorP16
import Derived.Test.YtpmndmiohaaokaaGreatDoorP19
/-
  Part 20 of the proof.
-/
set_option linter.all false
section
namespace Go.Ab.S
open Go Go.Ab
set_option maxHeartbeats 1000000
def zAw (g h : Graph) : Graph := ⟨g.nodes ++ h.nodes.map (shN g.nodes.length), g.root⟩
theorem zCJ (g h : Graph) : (zAw g h).nodes.length = g.nodes.length + h.nodes.length := by simp [zAw]
theorem both_l {g h : Graph} {a : Int} (ha : InG g a) : zAB (zAw g h) a = zAB g a := by
 have : a.toNat < g.nodes.length := by have := ha.1; have := ha.2; omega
 simp only [zAB, zAw, List.getD]
 rw [List.getElem?_append_left this]
theorem both_r {g h : Graph} {a : Int} (ha : InG h a) : zAB (zAw g h) (a + g.nodes.length) = shN g.nodes.length (zAB h a) := by
 have h1 := ha.1
 have h2 := ha.2
 have hi : a.toNat < h.nodes.length := by omega
 simp only [zAB, zAw, List.getD]
 rw [show (a + (g.nodes.length : Int)).toNat = a.toNat + g.nodes.length by omega, List.getElem?_append_right (by omega), Nat.add_sub_cancel, List.getElem?_map, List.getElem?_eq_getElem hi]; rfl
theorem zLm {g h : Graph} {a : Int} (ha : InG g a) : InG (zAw g h) a := ⟨ha.1, by have := ha.2; rw [zCJ]; omega⟩
theorem zLn {g h : Graph} {a : Int} (ha : InG h a) : InG (zAw g h) (a + g.nodes.length) := ⟨by have := ha.1; omega, by have := ha.2; rw [zCJ]; omega⟩
theorem zNL {g h : Graph} {a : Int} (ha : InG (zAw g h) a) : InG g a \/ ∃ b, InG h b /\ a = b + g.nodes.length := by
 have h1 := ha.1
 have h2 := ha.2
 rw [zCJ] at h2
 by_cases h3 : a < g.nodes.length
 ·exact .inl ⟨h1, h3⟩
 ·exact .inr ⟨a - g.nodes.length, ⟨by omega, by omega⟩, by omega⟩
theorem zCi {g h : Graph} (cg : zAF g = 0) (ch : zAF h = 0) (hs : g.nodes.length + h.nodes.length <= 1048576) : zAF (zAw g h) = 0 := by
 obtain ⟨g0, g1, g2, g3⟩ := zAZ cg
 obtain ⟨h0, h1, h2, h3⟩ := zAZ ch
 refine zEz g0 (by rw [zCJ]; show g.root < _; omega) (by rw [zCJ]; exact hs) fun n hn => ?_
 rw [zCJ]
 simp only [zAw, List.mem_append, List.mem_map] at hn
 rcases hn with hn | ⟨m, hm, rfl⟩
 ·rw [<- sh0 n]; exact sh_may (g3 n hn) (by omega) (by omega)
 ·exact sh_may (h3 m hm) (by omega) (by omega)
theorem quo_rch {g L : Graph} {q : Int -> Int} (Q : Quo g L q) {a : Int} (h : Rch g a) : Rch L (q a) := by
 induction h with
 | root => rw [<- Q.root]; exact .root
 | step hr hb ih => exact .step ih (by rw [Q.node _ hr]; exact List.mem_map.2 ⟨_, hb, rfl⟩)
def qT (U : Graph) (x : Int) : Int := (zBx (zAM U) x : Int)
section
variable {G X U : Graph} {ps : List Pr} {R : List Int} {k : Int}
theorem zMJ (cG : zAF G = 0) (cX : zAF X = 0) (O : UOut G ps U R) (hin : ∀ a, InG X a -> InG G (a + k)) (hnode : ∀ a, InG X a -> zAB G (a + k) = shN k (zAB X a)) (hroot : Uni G ps (X.root + k) G.root) {a : Int} (ha : Rch X a) : Rch U (clAt R (a + k)) := by
 induction ha with
 | root => rw [O.eq cG hroot, <- O.root]; exact .root
 | @step a b hr hb ih =>
  have hia := hr.ok cX
  have hG := hin a hia
  have hm := (O.rep _ hG).1.symm
  refine .step ih ?_
  obtain ⟨i, hi, hib⟩ := List.mem_iff_getElem.1 hb
  rcases zAN (zAl cX hia) with ⟨_, _, _, _, q⟩ | ⟨q, _⟩ | ⟨q, _, ql, _⟩
  ·rw [q] at hb; cases hb
  ·rw [O.con _ _ hm (by rw [hnode a hia]; exact q), hnode a hia]
   exact List.mem_map.2 ⟨b + k, List.mem_map.2 ⟨b, hb, rfl⟩, rfl⟩
  ·have hk : (zAB G (a + k)).kind = 3 := by rw [hnode a hia]; exact q
   have Q := O.obj _ _ hm hk
   have hil : i < (zAB X a).labels.length := by omega
   have hlab : (zAB G (a + k)).labels[i]? = some (zAB X a).labels[i] := by rw [hnode a hia]; exact List.getElem?_eq_getElem hil
   obtain ⟨j, hj, hje⟩ := List.mem_iff_getElem.1 ((Q.labels _).2 ⟨_, hm, hk, List.mem_of_getElem? hlab⟩)
   have := Q.args j _ (by rw [List.getElem?_eq_getElem hj, hje]) _ i hm hk hlab
   rw [hnode a hia, zLk hi, List.getD, List.getD, List.getElem?_eq_getElem hi, Option.getD_some, hib, List.getElem?_eq_getElem (by rw [<- Q.len]; exact hj), Option.getD_some] at this
   rw [<- this]; exact List.getElem_mem _
theorem zKd (cG : zAF G = 0) (cX : zAF X = 0) (O : UOut G ps U R) (hin : ∀ a, InG X a -> InG G (a + k)) (hnode : ∀ a, InG X a -> zAB G (a + k) = shN k (zAB X a)) (hroot : Uni G ps (X.root + k) G.root) : ∃ S, InstB X (zCE U) S := by
 have cU := O.check cG
 have T := zHX cU
 refine ⟨fun a z => Rch X a /\ z = qT U (clAt R (a + k)), ⟨.root, ?_⟩, ?_, ?_, ?_⟩
 ·rw [T.root, O.root, <- O.eq cG hroot]; rfl
 ·rintro a _ ⟨ha, rfl⟩
  exact ⟨ha.ok cX, quo_rch T (zMJ cG cX O hin hnode hroot ha)⟩
 ·rintro a _ ⟨ha, rfl⟩
  have hia := ha.ok cX
  have hG := hin a hia
  have hm := (O.rep _ hG).1.symm
  have hn := T.node _ (zMJ cG cX O hin hnode hroot ha)
  change zAB (zCE U) (qT U (clAt R (a + k))) = _ at hn
  rw [hn]
  rcases zAN (zAl cX hia) with ⟨q, _⟩ | ⟨q, ql, qo, qa, qn⟩ | ⟨q, qn, ql, qr⟩
  ·exact .inl q
  ·have hU := O.con _ _ hm (by rw [hnode a hia]; exact q)
   rw [hU, hnode a hia]
   refine .inr ⟨by omega, q, rfl, .inr ⟨rfl, ql⟩, fun h3 => by omega, fun i hi => ?_⟩
   have hx : ∀ y : Node, idxI (zAB X a) y i = i := fun y => by rw [idxI, if_neg (by simp; omega)]
   rw [hx]
   refine ⟨by simpa [shN] using hi, zDA ha hi, ?_⟩
   simp only [shN, List.map_map, List.getD, List.getElem?_map, List.getElem?_eq_getElem hi]; rfl
  ·have hk : (zAB G (a + k)).kind = 3 := by rw [hnode a hia]; exact q
   have Q := O.obj _ _ hm hk
   have hlG : (zAB G (a + k)).labels = (zAB X a).labels := by rw [hnode a hia]; rfl
   have hsub : ∀ l ∈ (zAB X a).labels, l ∈ (zAB U (clAt R (a + k))).labels := fun l hl => (Q.labels l).2 ⟨_, hm, hk, by rw [hlG]; exact hl⟩
   refine .inr ⟨by omega, by rw [q]; exact Q.kind.symm, by rw [qn]; exact Q.name.symm, ?_, fun _ => hsub, fun i hi => ?_⟩
   ·cases ho : (zAB X a).isOpen
    ·refine .inr ⟨?_, zFI (zBF qr) (zBF Q.rises) fun l => ⟨hsub l, fun hl => ?_⟩⟩
     ·show (zAB U (clAt R (a + k))).isOpen = false
      cases hh : (zAB U (clAt R (a + k))).isOpen
      ·rfl
      ·have := Q.isOpen.1 hh _ hm hk
       rw [hnode a hia] at this
       exact absurd this (by show ¬ (zAB X a).isOpen = true; rw [ho]; decide)
     ·obtain ⟨m, m1, m2, m3⟩ := (Q.labels l).1 hl
      rcases O.consi _ _ (hm.symm.trans m1) with z | z | ⟨_, _, z⟩
      ·omega
      ·omega
      ·have := (z hk).1 (by rw [hnode a hia]; exact ho) l m3
       rw [hlG] at this; exact this
    ·exact .inl rfl
   ·have hil : i < (zAB X a).labels.length := by omega
    have hl : (zAB X a).labels[i]? = some (zAB X a).labels[i] := List.getElem?_eq_getElem hil
    obtain ⟨j, hj, hje⟩ := List.mem_iff_getElem.1 (hsub _ (List.getElem_mem hil))
    have hjl : (zAB U (clAt R (a + k))).labels[j]? = some (zAB X a).labels[i] := by rw [List.getElem?_eq_getElem hj, hje]
    have hidx : idxI (zAB X a) { zAB U (clAt R (a + k)) with args := (zAB U (clAt R (a + k))).args.map fun a => (zBx (zAM U) a : Int) } i = j := by
     rw [idxI, if_pos (by simp; omega), List.getD, hl, Option.getD_some]
     exact (zJM (zBF Q.rises) hjl).1
    have hja : j < (zAB U (clAt R (a + k))).args.length := by rw [<- Q.len]; exact hj
    rw [hidx]
    refine ⟨by simpa using hja, zDA ha hi, ?_⟩
    have := Q.args j _ hjl _ i hm hk (by rw [hlG]; exact hl)
    rw [hnode a hia, zLk hi] at this
    rw [<- this]
    simp only [List.getD, List.getElem?_map, List.getElem?_eq_getElem hja]; rfl
 ·rintro a _ _ ⟨_, rfl⟩ ⟨_, rfl⟩ _; rfl
end
section
variable {g h : Graph} {T : Int -> Int -> Prop}
theorem zHl (cg : zAF g = 0) (ch : zAF h = 0) (K : InstB g h T) {a b c : Int} (h1 : T a b) (h2 : T a c) : clAt (zAH h) b = clAt (zAH h) c := by
 have inH : ∀ {a b}, T a b -> InG h b := fun h => (K.range _ _ h).2.ok ch
 have hb := inH h1
 have hc := inH h2
 have key := zHC (g := h) (E := fun i j => (i < h.nodes.length /\ j < h.nodes.length) /\ (clAt (zAH h) (i : Int) = clAt (zAH h) (j : Int) \/ ∃ a, T a (i : Int) /\ T a (j : Int))) (i := b.toNat) (j := c.toNat) ?_ ?_
 ·rw [show (b.toNat : Int) = b by have := hb.1; omega, show (c.toNat : Int) = c by have := hc.1; omega] at key
  exact key
 ·rintro i j ⟨⟨hi, hj⟩, hE⟩
  refine ⟨hi, hj, ?_⟩
  have same : clAt (zAH h) (i : Int) = clAt (zAH h) (j : Int) -> i = j \/ (zAU (h.nodes.getD i zAo) = false /\ zAU (h.nodes.getD j zAo) = false /\ (h.nodes.getD i zAo).kind = (h.nodes.getD j zAo).kind /\ (h.nodes.getD i zAo).name = (h.nodes.getD j zAo).name /\ (h.nodes.getD i zAo).labels = (h.nodes.getD j zAo).labels /\ (h.nodes.getD i zAo).args.length = (h.nodes.getD j zAo).args.length ∧
    ∀ (k : Nat) (a b : Int), (h.nodes.getD i zAo).args[k]? = some a -> (h.nodes.getD j zAo).args[k]? = some b -> (a.toNat < h.nodes.length /\ b.toNat < h.nodes.length) /\ (clAt (zAH h) (a.toNat : Int) = clAt (zAH h) (b.toNat : Int) \/ ∃ x, T x (a.toNat : Int) /\ T x (b.toNat : Int))) := fun he => by
   obtain ⟨q1, q2, q3, q4, q5, q6⟩ := zEc ch hi hj he
   cases cf : zAU (h.nodes.getD i zAo)
   ·refine .inr ⟨rfl, by rw [<- q6, cf], q2, q3, q4, by have := congrArg List.length q5; simpa using this, fun m x y hx hy => ?_⟩
    have rx := zAu ((zBA ch).at hi) x (List.mem_of_getElem? hx)
    have ry := zAu ((zBA ch).at hj) y (List.mem_of_getElem? hy)
    refine ⟨⟨by omega, by omega⟩, .inl ?_⟩
    have := congrArg (fun l => l[m]?) q5
    simp only [List.getElem?_map, hx, hy, Option.map_some, oI] at this
    rw [show (x.toNat : Int) = x by omega, show (y.toNat : Int) = y by omega]
    exact this
   ·exact .inl (q1 (.inl cf))
  rcases hE with he | ⟨a, ha, hb⟩
  ·exact same he
  have hra := (K.range _ _ ha).1
  cases cf : zAU (zAB g a)
  ·have cf' := cf
   simp only [zAU, Bool.or_eq_false_iff, beq_eq_false_iff_ne] at cf'
   rcases K.node _ _ ha with q | ⟨_, q1, q2, q3, _, q5⟩
   ·exact absurd q cf'.1
   rcases K.node _ _ hb with r | ⟨_, r1, r2, r3, _, r5⟩
   ·exact absurd r cf'.1
   rcases q3 with q3 | ⟨q3, q4⟩
   ·rw [cf'.2] at q3; cases q3
   rcases r3 with r3 | ⟨r3, r4⟩
   ·rw [cf'.2] at r3; cases r3
   have ei : zAB h (i : Int) = h.nodes.getD i zAo := rfl
   have ej : zAB h (j : Int) = h.nodes.getD j zAo := rfl
   have mi := zAl ch (inH ha)
   have mj := zAl ch (inH hb)
   have ma := zAl cg hra
   have li : (zAB h (i : Int)).args.length = (zAB g a).args.length := by
    rcases zAN ma with ⟨z, _⟩ | ⟨z, _, _, _, z1⟩ | ⟨z, _, z1, _⟩
    ·omega
    ·rcases zAN mi with ⟨w, _⟩ | ⟨_, _, _, _, w⟩ | ⟨w, _⟩
     ·omega
     ·rw [w, z1, q2]
     ·omega
    ·rcases zAN mi with ⟨w, _⟩ | ⟨w, _⟩ | ⟨_, _, w, _⟩
     ·omega
     ·omega
     ·rw [<- w, <- z1, q4]
   have lj : (zAB h (j : Int)).args.length = (zAB g a).args.length := by
    rcases zAN ma with ⟨z, _⟩ | ⟨z, _, _, _, z1⟩ | ⟨z, _, z1, _⟩
    ·omega
    ·rcases zAN mj with ⟨w, _⟩ | ⟨_, _, _, _, w⟩ | ⟨w, _⟩
     ·omega
     ·rw [w, z1, r2]
     ·omega
    ·rcases zAN mj with ⟨w, _⟩ | ⟨w, _⟩ | ⟨_, _, w, _⟩
     ·omega
     ·omega
     ·rw [<- w, <- z1, r4]
   rw [ei] at q1 q2 q3 q4 q5 li
   rw [ej] at r1 r2 r3 r4 r5 lj
   refine .inr ⟨?_, ?_, by rw [<- q1, r1], by rw [<- q2, r2], by rw [<- q4, r4], by omega, fun m x y hx hy => ?_⟩
   ·simp only [zAU, q3, Bool.or_false, beq_eq_false_iff_ne]; omega
   ·simp only [zAU, r3, Bool.or_false, beq_eq_false_iff_ne]; omega
   ·have hm : m < (zAB g a).args.length := by have := (List.getElem?_eq_some_iff.1 hx).1; omega
    have t1 := q5 m hm
    have t2 := r5 m hm
    rw [zEg (M := 0) ma q4 hm] at t1
    rw [zEg (M := 0) ma r4 hm] at t2
    have gx : ∀ (l : List Int) (x : Int), l[m]? = some x -> l.getD m 0 = x := fun l x h => by rw [List.getD, h]; rfl
    rw [gx _ _ hx] at t1
    rw [gx _ _ hy] at t2
    have rx := inH t1.2
    have ry := inH t2.2
    have a1 := rx.1; have a2 := rx.2; have a3 := ry.1; have a4 := ry.2
    refine ⟨⟨by omega, by omega⟩, .inr ⟨(zAB g a).args.getD m 0, ?_, ?_⟩⟩
    ·rw [show (x.toNat : Int) = x by omega]; exact t1.2
    ·rw [show (y.toNat : Int) = y by omega]; exact t2.2
  ·exact same (K.one a _ _ ha hb cf)
 ·have a1 := hb.1; have a2 := hb.2; have a3 := hc.1; have a4 := hc.2
  refine ⟨⟨by omega, by omega⟩, .inr ⟨a, ?_, ?_⟩⟩
  ·rw [show (b.toNat : Int) = b by omega]; exact h1
  ·rw [show (c.toNat : Int) = c by omega]; exact h2
end
end Go.Ab.S
end
section
namespace Go.Ab.S
open Go Go.Ab
set_option maxHeartbeats 1000000
structure Emb (G g h : Graph) (k j : Int) : Prop where
 inl : ∀ a, InG g a -> InG G (a + k)
 nl : ∀ a, InG g a -> zAB G (a + k) = shN k (zAB g a)
 inr : ∀ b, InG h b -> InG G (b + j)
 nr : ∀ b, InG h b -> zAB G (b + j) = shN j (zAB h b)
 cas : ∀ x, InG G x -> (∃ a, InG g a /\ x = a + k) \/ ∃ b, InG h b /\ x = b + j
 dis : ∀ a b, InG g a -> InG h b -> a + k ≠ b + j
theorem zJT (g h : Graph) : Emb (zAw g h) g h 0 g.nodes.length := by
 refine ⟨fun a ha => by rw [Int.add_zero]; exact zLm ha, fun a ha => by rw [Int.add_zero, sh0]; exact both_l ha, fun b hb => zLn hb, fun b hb => both_r hb, fun x hx => ?_, fun a b ha hb => ?_⟩
 ·rcases zNL hx with h1 | h1
  ·exact .inl ⟨x, h1, by omega⟩
  ·exact .inr h1
 ·have := ha.2; have := hb.1; omega
theorem Emb.flip {G g h : Graph} {k j : Int} (e : Emb G g h k j) : Emb G h g j k := ⟨e.inr, e.nr, e.inl, e.nl, fun x hx => (e.cas x hx).symm, fun a b ha hb h => e.dis b a hb ha h.symm⟩
theorem zEd {h : Graph} (ch : zAF h = 0) {b c : Int} (hb : InG h b) (hc : InG h c) (he : clAt (zAH h) b = clAt (zAH h) c) :
  (zAB h b).kind = (zAB h c).kind /\ (zAB h b).name = (zAB h c).name /\ (zAB h b).labels = (zAB h c).labels /\ (zAB h b).isOpen = (zAB h c).isOpen /\ (zAB h b).args.length = (zAB h c).args.length ∧
  (∀ i, i < (zAB h b).args.length -> clAt (zAH h) ((zAB h b).args.getD i 0) = clAt (zAH h) ((zAB h c).args.getD i 0)) /\ (zAU (zAB h b) = true -> b = c) := by
 have b1 := hb.1; have b2 := hb.2; have c1 := hc.1; have c2 := hc.2
 have he' : clAt (zAH h) (b.toNat : Int) = clAt (zAH h) (c.toNat : Int) := by
  rw [show (b.toNat : Int) = b by omega, show (c.toNat : Int) = c by omega]; exact he
 obtain ⟨q1, q2, q3, q4, q5, q6⟩ := zEc ch (i := b.toNat) (j := c.toNat) (by omega) (by omega) he'
 change (zAU (zAB h b) = true \/ zAU (zAB h c) = true) -> _ at q1
 change (zAB h b).kind = (zAB h c).kind at q2
 change (zAB h b).name = (zAB h c).name at q3
 change (zAB h b).labels = (zAB h c).labels at q4
 change (zAB h b).args.map _ = (zAB h c).args.map _ at q5
 change zAU (zAB h b) = zAU (zAB h c) at q6
 have hlen : (zAB h b).args.length = (zAB h c).args.length := by have := congrArg List.length q5; simpa using this
 refine ⟨q2, q3, q4, ?_, hlen, fun i hi => ?_, fun hf => by have := q1 (.inl hf); omega⟩
 ·rcases zAN (zAl ch hb) with ⟨z, _, o, _⟩ | ⟨z, _, o, _⟩ | ⟨z, _⟩
  ·rcases zAN (zAl ch hc) with ⟨_, _, o', _⟩ | ⟨w, _⟩ | ⟨w, _⟩
   ·rw [o, o']
   ·omega
   ·omega
  ·rcases zAN (zAl ch hc) with ⟨w, _⟩ | ⟨_, _, o', _⟩ | ⟨w, _⟩
   ·omega
   ·rw [o, o']
   ·omega
  ·have e1 : ((zAB h b).kind == 1) = false := by simp; omega
   have e2 : ((zAB h c).kind == 1) = false := by simp; omega
   simpa only [zAU, e1, e2, Bool.false_or] using q6
 ·have := congrArg (fun l => l[i]?) q5
  simp only [List.getElem?_map, List.getElem?_eq_getElem hi, List.getElem?_eq_getElem (hlen ▸ hi : i < (zAB h c).args.length), Option.map_some, oI] at this
  simp only [List.getD, List.getElem?_eq_getElem hi, List.getElem?_eq_getElem (hlen ▸ hi : i < (zAB h c).args.length), Option.getD_some]
  exact this
end Go.Ab.S
end
section
namespace Go.Ab.S
open Go Go.Ab
set_option maxHeartbeats 1000000
section
variable {G X t : Graph} {T : Int -> Int -> Prop} {o a b : Int}
theorem zOO (K : InstB X t T) (hn : zAB G (a + o) = shN o (zAB X a)) (t1 : T a b) : (zAB G (a + o)).kind = 1 \/ ((zAB G (a + o)).kind = (zAB t b).kind /\ (zAB G (a + o)).name = (zAB t b).name /\ ((zAB G (a + o)).kind = 3 -> ∀ l ∈ (zAB G (a + o)).labels, l ∈ (zAB t b).labels) /\ ((zAB G (a + o)).isOpen = false -> (zAB G (a + o)).labels = (zAB t b).labels /\ (zAB t b).isOpen = false)) := by
 rw [hn]
 rcases K.node _ _ t1 with q | ⟨_, q2, q3, q4, q5, _⟩
 ·exact .inl q
 ·refine .inr ⟨q2, q3, q5, fun ho => ?_⟩
  rcases q4 with q4 | ⟨q4, q6⟩
  ·exact absurd q4 (by show ¬ (zAB X a).isOpen = true; rw [show (zAB X a).isOpen = false from ho]; decide)
  ·exact ⟨q6, q4⟩
theorem sd_con (K : InstB X t T) (hn : zAB G (a + o) = shN o (zAB X a)) (t1 : T a b) (hk : (zAB G (a + o)).kind = 2) {i : Nat} (hi : i < (zAB G (a + o)).args.length) : ∃ a', (zAB G (a + o)).args.getD i 0 = a' + o /\ InG X a' /\ T a' ((zAB t b).args.getD i 0) := by
 rw [hn] at hk hi ⊢
 have hi' : i < (zAB X a).args.length := by simpa [shN] using hi
 have hk' : (zAB X a).kind = 2 := hk
 rcases K.node _ _ t1 with q | ⟨_, _, _, _, _, q5⟩
 ·omega
 have := (q5 i hi').2
 rw [idxI, if_neg (by simp; omega)] at this
 exact ⟨_, zLk hi', (K.range _ _ this).1, this⟩
theorem sd_obj (cX : zAF X = 0) (ct : zAF t = 0) (K : InstB X t T) (hn : zAB G (a + o) = shN o (zAB X a)) (t1 : T a b) (hk : (zAB G (a + o)).kind = 3) {i : Nat} {l : List Nat} (hi : (zAB G (a + o)).labels[i]? = some l) : ∃ i' : Nat, (zAB t b).labels[i']? = some l /\ ∃ a', (zAB G (a + o)).args.getD i 0 = a' + o /\ InG X a' /\ T a' ((zAB t b).args.getD i' 0) := by
 rw [hn] at hk hi ⊢
 have ha := (K.range _ _ t1).1
 have i1 := (K.range _ _ t1).2.ok ct
 have hk' : (zAB X a).kind = 3 := hk
 have hi' : (zAB X a).labels[i]? = some l := hi
 have hil := (List.getElem?_eq_some_iff.1 hi').1
 have hia : i < (zAB X a).args.length := by rw [<- (zCX cX ha hk').1]; exact hil
 rcases K.node _ _ t1 with q | ⟨_, q2, _, _, q4, q5⟩
 ·omega
 have hu : (zAB t b).kind = 3 := by omega
 obtain ⟨i', hi2, he⟩ := List.mem_iff_getElem.1 (q4 hk' l (List.mem_of_getElem? hi'))
 have hget : (zAB t b).labels[i']? = some l := by rw [List.getElem?_eq_getElem hi2, he]
 have hidx : idxI (zAB X a) (zAB t b) i = i' := by
  rw [idxI, if_pos (by simp; omega), List.getD, hi', Option.getD_some]
  exact (zJM (zCX ct i1 hu).2.1 hget).1
 have := (q5 i hia).2
 rw [hidx] at this
 exact ⟨i', hget, _, zLk hia, (K.range _ _ this).1, this⟩
end
def Mtt (g h : Graph) (k j : Int) (T1 T2 : Int -> Int -> Prop) (x b : Int) : Prop := (∃ a, x = a + k /\ InG g a /\ T1 a b) \/ ∃ a, x = a + j /\ InG h a /\ T2 a b
section
variable {G g h t U : Graph} {k j : Int} {T1 T2 : Int -> Int -> Prop} {ps : List Pr} {R : List Int}
variable (cG : zAF G = 0) (cg : zAF g = 0) (ch : zAF h = 0) (ct : zAF t = 0) (e : Emb G g h k j) (K1 : InstB g t T1) (K2 : InstB h t T2)
include cG cg ch ct e K1 K2
theorem Mtt.inT {x b : Int} (m : Mtt g h k j T1 T2 x b) : InG t b := by
 rcases m with ⟨a, _, _, t1⟩ | ⟨a, _, _, t1⟩
 ·exact (K1.range _ _ t1).2.ok ct
 ·exact (K2.range _ _ t1).2.ok ct
theorem Mtt.inX {x b : Int} (m : Mtt g h k j T1 T2 x b) : InG G x := by
 rcases m with ⟨a, rfl, ha, _⟩ | ⟨a, rfl, ha, _⟩
 ·exact e.inl a ha
 ·exact e.inr a ha
theorem Mtt.uniq {x b c : Int} (m : Mtt g h k j T1 T2 x b) (n : Mtt g h k j T1 T2 x c) : clAt (zAH t) b = clAt (zAH t) c := by
 rcases m with ⟨a, rfl, ha, t1⟩ | ⟨a, rfl, ha, t1⟩
 ·rcases n with ⟨a', he, ha', t2⟩ | ⟨a', he, ha', t2⟩
  ·obtain rfl : a = a' := by omega
   exact zHl cg ct K1 t1 t2
  ·exact absurd he (e.dis a a' ha ha')
 ·rcases n with ⟨a', he, ha', t2⟩ | ⟨a', he, ha', t2⟩
  ·exact absurd he.symm (e.dis a' a ha' ha)
  ·obtain rfl : a = a' := by omega
   exact zHl ch ct K2 t1 t2
theorem Mtt.node {x u : Int} (m : Mtt g h k j T1 T2 x u) : (zAB G x).kind = 1 \/ ((zAB G x).kind = (zAB t u).kind /\ (zAB G x).name = (zAB t u).name /\ ((zAB G x).kind = 3 -> ∀ l ∈ (zAB G x).labels, l ∈ (zAB t u).labels) /\ ((zAB G x).isOpen = false -> (zAB G x).labels = (zAB t u).labels /\ (zAB t u).isOpen = false)) := by
 rcases m with ⟨a, rfl, ha, t1⟩ | ⟨a, rfl, ha, t1⟩
 ·exact zOO K1 (e.nl a ha) t1
 ·exact zOO K2 (e.nr a ha) t1
theorem Mtt.con {x u : Int} (m : Mtt g h k j T1 T2 x u) (hk : (zAB G x).kind = 2) {i : Nat} (hi : i < (zAB G x).args.length) : Mtt g h k j T1 T2 ((zAB G x).args.getD i 0) ((zAB t u).args.getD i 0) := by
 rcases m with ⟨a, rfl, ha, t1⟩ | ⟨a, rfl, ha, t1⟩
 ·exact .inl (sd_con K1 (e.nl a ha) t1 hk hi)
 ·exact .inr (sd_con K2 (e.nr a ha) t1 hk hi)
theorem Mtt.obj {x u : Int} (m : Mtt g h k j T1 T2 x u) (hk : (zAB G x).kind = 3) {i : Nat} {l : List Nat} (hi : (zAB G x).labels[i]? = some l) : ∃ i' : Nat, (zAB t u).labels[i']? = some l /\ Mtt g h k j T1 T2 ((zAB G x).args.getD i 0) ((zAB t u).args.getD i' 0) := by
 rcases m with ⟨a, rfl, ha, t1⟩ | ⟨a, rfl, ha, t1⟩
 ·obtain ⟨i', h1, h2⟩ := sd_obj cg ct K1 (e.nl a ha) t1 hk hi
  exact ⟨i', h1, .inl h2⟩
 ·obtain ⟨i', h1, h2⟩ := sd_obj ch ct K2 (e.nr a ha) t1 hk hi
  exact ⟨i', h1, .inr h2⟩
theorem Mtt.conlen {x u : Int} (m : Mtt g h k j T1 T2 x u) (hk : (zAB G x).kind = 2) : (zAB t u).kind = 2 /\ (zAB t u).args.length = (zAB G x).args.length /\ (zAB t u).labels = [] /\ (zAB t u).isOpen = false := by
 rcases m.node cG cg ch ct e K1 K2 with q | ⟨q1, q2, _⟩
 ·omega
 rcases zAN (zAl cG (m.inX cG cg ch ct e K1 K2)) with ⟨z, _⟩ | ⟨_, _, _, _, z⟩ | ⟨z, _⟩
 ·omega
 ·rcases zAN (zAl ct (m.inT cG cg ch ct e K1 K2)) with ⟨w, _⟩ | ⟨w0, w1, w2, _, w⟩ | ⟨w, _⟩
  ·omega
  ·exact ⟨w0, by rw [w, z, q2], w1, w2⟩
  ·omega
 ·omega
theorem zMZ (hps : ∀ p ∈ ps, p = (g.root + k, h.root + j) \/ p = (h.root + j, g.root + k)) {x y : Int} (hu : Uni G ps x y) : (x = y /\ InG G x) \/ ∃ b c, Mtt g h k j T1 T2 x b /\ Mtt g h k j T1 T2 y c /\ clAt (zAH t) b = clAt (zAH t) c := by
 have rg := zAZ cg
 have rh := zAZ ch
 have m1 : Mtt g h k j T1 T2 (g.root + k) t.root := .inl ⟨_, rfl, ⟨rg.1, rg.2.1⟩, K1.root⟩
 have m2 : Mtt g h k j T1 T2 (h.root + j) t.root := .inr ⟨_, rfl, ⟨rh.1, rh.2.1⟩, K2.root⟩
 induction hu with
 | refl hz => exact .inl ⟨rfl, hz⟩
 | symm _ ih =>
  rcases ih with ⟨rfl, hz⟩ | ⟨b, c, h1, h2, h3⟩
  ·exact .inl ⟨rfl, hz⟩
  ·exact .inr ⟨c, b, h2, h1, h3.symm⟩
 | trans _ _ ih1 ih2 =>
  rcases ih1 with ⟨rfl, hz⟩ | ⟨b, c, h1, h2, h3⟩
  ·exact ih2
  ·rcases ih2 with ⟨rfl, hz⟩ | ⟨b', c', h1', h2', h3'⟩
   ·exact .inr ⟨b, c, h1, h2, h3⟩
   ·exact .inr ⟨b, c', h1, h2', by rw [h3, Mtt.uniq cG cg ch ct e K1 K2 h2 h1', h3']⟩
 | pair hp _ _ =>
  rcases hps _ hp with h1 | h1
  ·cases h1; exact .inr ⟨_, _, m1, m2, rfl⟩
  ·cases h1; exact .inr ⟨_, _, m2, m1, rfl⟩
 | @con a b i hab ka kb hn hi ih =>
  rcases ih with ⟨rfl, hz⟩ | ⟨u, w, h1, h2, h3⟩
  ·exact .inl ⟨rfl, zAu (zAl cG hz) _ (zCL hi)⟩
  ·have hin := hab.inG cG
   have n1 := Mtt.con cG cg ch ct e K1 K2 h1 ka hi
   have n2 := Mtt.con cG cg ch ct e K1 K2 h2 kb (i := i) (by rw [<- zGl cG hin.1 hin.2 ka kb hn]; exact hi)
   obtain ⟨_, l1, _⟩ := Mtt.conlen cG cg ch ct e K1 K2 h1 ka
   exact .inr ⟨_, _, n1, n2, (zEd ct (h1.inT cG cg ch ct e K1 K2) (h2.inT cG cg ch ct e K1 K2) h3).2.2.2.2.2.1 i (by omega)⟩
 | @obj a b i i2 l hab ka kb hi hj ih =>
  rcases ih with ⟨rfl, hz⟩ | ⟨u, w, h1, h2, h3⟩
  ·obtain ⟨z1, z2, _⟩ := zCX cG hz ka
   obtain rfl := zEl z2 hi hj
   exact .inl ⟨rfl, zAu (zAl cG hz) _ (zCL (by rw [<- z1]; exact (List.getElem?_eq_some_iff.1 hi).1))⟩
  ·obtain ⟨i', l1, n1⟩ := Mtt.obj cG cg ch ct e K1 K2 h1 ka hi
   obtain ⟨j', l2, n2⟩ := Mtt.obj cG cg ch ct e K1 K2 h2 kb hj
   have hu1 := h1.inT cG cg ch ct e K1 K2
   obtain ⟨q1, _, q3, _, _, q6, _⟩ := zEd ct hu1 (h2.inT cG cg ch ct e K1 K2) h3
   have ku : (zAB t u).kind = 3 := by
    rcases Mtt.node cG cg ch ct e K1 K2 h1 with q | ⟨q, _⟩ <;> omega
   obtain ⟨z1, z2, _⟩ := zCX ct hu1 ku
   rw [<- q3] at l2
   obtain rfl := zEl z2 l1 l2
   exact .inr ⟨_, _, n1, n2, q6 i' (by rw [<- z1]; exact (List.getElem?_eq_some_iff.1 l1).1)⟩
theorem uni_move (hps : ∀ p ∈ ps, p = (g.root + k, h.root + j) \/ p = (h.root + j, g.root + k)) {x y b : Int} (hu : Uni G ps x y) (m : Mtt g h k j T1 T2 x b) : ∃ c, Mtt g h k j T1 T2 y c /\ clAt (zAH t) c = clAt (zAH t) b := by
 rcases zMZ cG cg ch ct e K1 K2 hps hu with ⟨rfl, _⟩ | ⟨b', c, h1, h2, h3⟩
 ·exact ⟨b, m, rfl⟩
 ·exact ⟨c, h2, by rw [<- h3]; exact Mtt.uniq cG cg ch ct e K1 K2 h1 m⟩
theorem zND (hps : ∀ p ∈ ps, p = (g.root + k, h.root + j) \/ p = (h.root + j, g.root + k)) : Consi G ps := by
 intro x y hu
 rcases zMZ cG cg ch ct e K1 K2 hps hu with ⟨rfl, _⟩ | ⟨b, c, h1, h2, h3⟩
 ·exact .inr (.inr ⟨rfl, rfl, fun _ => ⟨fun _ l hl => hl, fun _ l hl => hl⟩⟩)
 ·obtain ⟨q1, q2, q3, q4, _⟩ := zEd ct (h1.inT cG cg ch ct e K1 K2) (h2.inT cG cg ch ct e K1 K2) h3
  rcases Mtt.node cG cg ch ct e K1 K2 h1 with z | ⟨z1, z2, z3, z4⟩
  ·exact .inl z
  rcases Mtt.node cG cg ch ct e K1 K2 h2 with w | ⟨w1, w2, w3, w4⟩
  ·exact .inr (.inl w)
  refine .inr (.inr ⟨by omega, by rw [z2, w2, q2], fun hk => ⟨fun ho l hl => ?_, fun ho l hl => ?_⟩⟩)
  ·rw [(z4 ho).1, q3]; exact w3 (by omega) l hl
  ·rw [(w4 ho).1, <- q3]; exact z3 hk l hl
theorem uni_most (O : UOut G ps U R) (hps : ∀ p ∈ ps, p = (g.root + k, h.root + j) \/ p = (h.root + j, g.root + k)) (hroot : Uni G ps (g.root + k) G.root) : ∃ S, InstB (zCE U) t S := by
 have cU := O.check cG
 have Q := zHX cU
 have rg := zAZ cg
 have m1 : Mtt g h k j T1 T2 (g.root + k) t.root := .inl ⟨_, rfl, ⟨rg.1, rg.2.1⟩, K1.root⟩
 have mv := @uni_move G g h t k j T1 T2 ps cG cg ch ct e K1 K2 hps
 have inG : ∀ {x}, Rch U x -> InG G x := fun hx => by have := hx.ok cU; rw [O.lenU] at this; exact this
 have inT := @Mtt.inT G g h t k j T1 T2 cG cg ch ct e K1 K2
 have hin : ∀ {x y}, Uni G ps x y -> InG G y := fun hu => (hu.inG cG).2
 refine ⟨fun z b => Rch t b /\ ∃ x b', Rch U x /\ z = qT U x /\ Mtt g h k j T1 T2 x b' /\ clAt (zAH t) b' = clAt (zAH t) b, ⟨.root, ?_⟩, ?_, ?_, ?_⟩
 ·obtain ⟨c, mc, hc⟩ := mv (hroot.trans (O.rep _ (hin hroot)).1) m1
  exact ⟨_, c, .root, Q.root, by rw [O.root]; exact mc, hc⟩
 ·rintro _ b ⟨hb, x, b', hx, rfl, _⟩
  exact ⟨Q.range _ hx, hb⟩
 ·rintro _ b ⟨hb, x, b', hx, rfl, mx, hbb⟩
  have hib := hb.ok ct
  have hn := Q.node x hx
  change zAB (zCE U) (qT U x) = _ at hn
  rw [hn]
  -- what an argument stands for
  have harg : ∀ {y c d : Int}, y ∈ (zAB U x).args -> ∀ {z : Int}, InG G z -> y = clAt R z -> Mtt g h k j T1 T2 z c -> clAt (zAH t) c = clAt (zAH t) d -> Rch t d -> Rch t d /\ ∃ x' b', Rch U x' /\ qT U y = qT U x' /\ Mtt g h k j T1 T2 x' b' /\ clAt (zAH t) b' = clAt (zAH t) d := by
   intro y c d hy z hz hyz mz hcd hd
   obtain ⟨c', m', e'⟩ := mv (O.rep z hz).1 mz
   exact ⟨hd, y, c', .step hx hy, rfl, by rw [hyz]; exact m', by rw [e', hcd]⟩
  by_cases h2 : ∃ m, Uni G ps x m /\ (zAB G m).kind = 2
  ·obtain ⟨m, hxm, hk⟩ := h2
   obtain ⟨c, mc, hcb⟩ := mv hxm mx
   rw [hbb] at hcb
   obtain ⟨t1, t2, t3, t4⟩ := mc.conlen cG cg ch ct e K1 K2 hk
   obtain ⟨f1, f2, f3, f4, f5, f6, _⟩ := zEd ct (inT mc) hib hcb
   have hname : (zAB G m).name = (zAB t c).name := by
    rcases mc.node cG cg ch ct e K1 K2 with q | ⟨_, q, _⟩
    ·omega
    ·exact q
   rw [O.con x m hxm hk]
   refine .inr ⟨by show (2 : Int) ≠ 1; decide, by show (2 : Int) = _; rw [<- f1, t1], by show (zAB G m).name = _; rw [hname, f2], .inr ⟨by rw [<- f4, t4], by show [] = _; rw [<- f3, t3]⟩, fun h3 => absurd h3 (by show ¬ (2 : Int) = 3; decide), fun i hi => ?_⟩
   have hi' : i < (zAB G m).args.length := by simpa using hi
   rw [idxI, if_neg (by simp)]
   refine ⟨by omega, ?_⟩
   have hget : (((zAB G m).args.map (clAt R)).map fun a => (zBx (zAM U) a : Int)).getD i 0 = qT U (clAt R ((zAB G m).args.getD i 0)) := by
    simp only [List.getD, List.getElem?_map, List.getElem?_eq_getElem hi']; rfl
   show (fun z b => Rch t b /\ ∃ x b', Rch U x /\ z = qT U x /\ Mtt g h k j T1 T2 x b' /\ clAt (zAH t) b' = clAt (zAH t) b) ((((zAB G m).args.map (clAt R)).map fun a => (zBx (zAM U) a : Int)).getD i 0) _
   rw [hget]
   exact harg (by rw [O.con x m hxm hk]; exact List.mem_map.2 ⟨_, zCL hi', rfl⟩) (zAu (zAl cG (hin hxm)) _ (zCL hi')) rfl (mc.con cG cg ch ct e K1 K2 hk hi') (f6 i (by omega)) (zDA hb (by omega))
  ·by_cases h3 : ∃ m, Uni G ps x m /\ (zAB G m).kind = 3
   ·obtain ⟨m, hxm, hk⟩ := h3
    have P := O.obj x m hxm hk
    have look : ∀ m', Uni G ps x m' -> (zAB G m').kind = 3 -> ∃ c, Mtt g h k j T1 T2 m' c /\ (zAB t c).kind = 3 /\ clAt (zAH t) c = clAt (zAH t) b /\ (zAB t c).labels = (zAB t b).labels /\ (zAB t c).isOpen = (zAB t b).isOpen /\ (zAB t b).kind = 3 := fun m' hm' hk' => by
     obtain ⟨c, mc, hcb⟩ := mv hm' mx
     rw [hbb] at hcb
     obtain ⟨f1, _, f3, f4, _⟩ := zEd ct (inT mc) hib hcb
     rcases mc.node cG cg ch ct e K1 K2 with q | ⟨q, _⟩
     ·omega
     ·exact ⟨c, mc, by omega, hcb, f3, f4, by omega⟩
    obtain ⟨_, _, _, _, _, _, kb⟩ := look m hxm hk
    obtain ⟨lb, rb, nb⟩ := zCX ct hib kb
    have hsub : ∀ l ∈ (zAB U x).labels, l ∈ (zAB t b).labels := fun l hl => by
     obtain ⟨m', m1, m2, m3⟩ := (P.labels l).1 hl
     obtain ⟨c, mc, _, _, f3, _⟩ := look m' m1 m2
     rcases mc.node cG cg ch ct e K1 K2 with q | ⟨_, _, q, _⟩
     ·omega
     ·rw [<- f3]; exact q m2 l m3
    refine .inr ⟨by show (zAB U x).kind ≠ 1; rw [P.kind]; decide, by show (zAB U x).kind = _; rw [P.kind, kb], by show (zAB U x).name = _; rw [P.name, nb], ?_, fun _ => hsub, fun i hi => ?_⟩
    ·cases ho : (zAB U x).isOpen
     ·have : ¬ ∀ m, Uni G ps x m -> (zAB G m).kind = 3 -> (zAB G m).isOpen = true := fun hh => by
       have := P.isOpen.2 hh
       rw [ho] at this; cases this
      simp only [Classical.not_forall] at this
      obtain ⟨m', m1, m2, m3⟩ := this
      have m3 : (zAB G m').isOpen = false := by simpa using m3
      obtain ⟨c, mc, _, _, f3, f4, _⟩ := look m' m1 m2
      rcases mc.node cG cg ch ct e K1 K2 with q | ⟨_, _, _, q⟩
      ·omega
      obtain ⟨q1, q2⟩ := q m3
      refine .inr ⟨by rw [<- f4, q2], zFI (zBF P.rises) rb fun l => ⟨hsub l, fun hl => (P.labels l).2 ⟨m', m1, m2, by rw [q1, f3]; exact hl⟩⟩⟩
     ·exact .inl rfl
    ·have hi' : i < (zAB U x).args.length := by simpa using hi
     have hil : i < (zAB U x).labels.length := by rw [P.len]; exact hi'
     obtain ⟨m', m1, m2, m3⟩ := (P.labels _).1 (List.getElem_mem hil)
     obtain ⟨p, hp, hpe⟩ := List.mem_iff_getElem.1 m3
     have hpl : (zAB G m').labels[p]? = some (zAB U x).labels[i] := by rw [List.getElem?_eq_getElem hp, hpe]
     have hval := P.args i _ (List.getElem?_eq_getElem hil) m' p m1 m2 hpl
     obtain ⟨c, mc, kc, hcb, f3, _⟩ := look m' m1 m2
     obtain ⟨i', hi1, hm⟩ := mc.obj cG cg ch ct e K1 K2 m2 hpl
     have hi1b : (zAB t b).labels[i']? = some (zAB U x).labels[i] := by rw [<- f3]; exact hi1
     have hidx : idxI { zAB U x with args := (zAB U x).args.map fun a => (zBx (zAM U) a : Int) } (zAB t b) i = i' := by
      rw [idxI, if_pos (by show ((zAB U x).kind == 3) = true; rw [P.kind]; rfl), List.getD]
      show bsAt _ (((zAB U x).labels[i]?).getD []) = i'
      rw [List.getElem?_eq_getElem hil, Option.getD_some]
      exact (zJM rb hi1b).1
     have hib' : i' < (zAB t b).args.length := by rw [<- lb]; exact (List.getElem?_eq_some_iff.1 hi1b).1
     rw [hidx]
     refine ⟨hib', ?_⟩
     have hget : ((zAB U x).args.map fun a => (zBx (zAM U) a : Int)).getD i 0 = qT U ((zAB U x).args.getD i 0) := by
      simp only [List.getD, List.getElem?_map, List.getElem?_eq_getElem hi']; rfl
     show (fun z b => Rch t b /\ ∃ x b', Rch U x /\ z = qT U x /\ Mtt g h k j T1 T2 x b' /\ clAt (zAH t) b' = clAt (zAH t) b) (((zAB U x).args.map fun a => (zBx (zAM U) a : Int)).getD i 0) _
     rw [hget]
     have hpa : p < (zAB G m').args.length := by rw [<- (zCX cG (hin m1) m2).1]; exact hp
     refine harg (zCL hi') (zAu (zAl cG (hin m1)) _ (zCL hpa)) hval hm ?_ (zDA hb hib')
     obtain ⟨_, _, _, _, _, f6, _⟩ := zEd ct (inT mc) hib hcb
     exact f6 i' (by rw [<- (zCX ct (inT mc) kc).1]; exact (List.getElem?_eq_some_iff.1 hi1).1)
   ·have hv := O.var x (inG hx) fun m hm => by
     rcases zAN (zAl cG (hin hm)) with ⟨q, _⟩ | ⟨q, _⟩ | ⟨q, _⟩
     ·exact q
     ·exact absurd ⟨m, hm, q⟩ h2
     ·exact absurd ⟨m, hm, q⟩ h3
    rw [hv]; exact .inl rfl
 ·rintro _ b c ⟨hb, x, b', hx, rfl, mx, hbb⟩ ⟨hc, x', c', hx', he, mx', hcc⟩ hf
  have hfU : zAU (zAB U x) = true := by
   have hn := Q.node x hx
   change zAB (zCE U) (qT U x) = _ at hn
   rw [hn] at hf; exact hf
  obtain rfl := Q.inj _ _ hx hx' hfU he
  rw [<- hbb, <- hcc]
  exact Mtt.uniq cG cg ch ct e K1 K2 mx mx'
end
def Ins (g h : Graph) : Prop := ∃ S, InstB g h S
def zBa (g h : Graph) : List Pr := [(g.root, (g.nodes.length : Int) + h.root)]
section
variable {g h k t U : Graph} {R : List Int}
theorem Ins.refl (cg : zAF g = 0) : Ins g g := by
 obtain ⟨_, K⟩ := zON g cg
 exact (zGR cg cg).1 (zFC cg cg K)
theorem Ins.trans (cg : zAF g = 0) (ch : zAF h = 0) (ck : zAF k = 0) (h1 : Ins g h) (h2 : Ins h k) : Ins g k := by
 obtain ⟨_, K⟩ := (zGR cg ch).2 h1
 obtain ⟨_, J⟩ := (zGR ch ck).2 h2
 exact (zGR cg ck).1 (zMk cg ch ck K J)
theorem zEo (cg : zAF g = 0) (ch : zAF h = 0) : zFJ g h = true ↔ Ins g h /\ Ins h g := by
 rw [zIM cg ch]
 constructor
 ·rintro ⟨R, K⟩; exact ⟨(zGR cg ch).1 (zFC cg ch K), (zGR ch cg).1 (zFC ch cg K.flip)⟩
 ·rintro ⟨h1, h2⟩
  obtain ⟨S, K⟩ := (zGR cg ch).2 h1
  obtain ⟨T, J⟩ := (zGR ch cg).2 h2
  exact zKu cg ch K J
variable (cg : zAF g = 0) (ch : zAF h = 0) (hs : g.nodes.length + h.nodes.length <= 1048576)
include cg ch hs
theorem zGv : Uni (zAw g h) (zBa g h) (g.root + 0) (zAw g h).root /\ Uni (zAw g h) (zBa g h) (h.root + g.nodes.length) (zAw g h).root := by
 have rg := zAZ cg
 have rh := zAZ ch
 have i1 : InG (zAw g h) g.root := zLm ⟨rg.1, rg.2.1⟩
 have i2 : InG (zAw g h) (h.root + g.nodes.length) := zLn ⟨rh.1, rh.2.1⟩
 refine ⟨by rw [Int.add_zero]; exact .refl i1, .symm (.pair ?_ i1 i2)⟩
 rw [zBa, Int.add_comm]; exact List.mem_singleton.2 rfl
theorem zHT (ct : zAF t = 0) (h1 : Ins g t) (h2 : Ins h t) : Consi (zAw g h) (zBa g h) := by
 obtain ⟨_, K1⟩ := h1
 obtain ⟨_, K2⟩ := h2
 refine zND (zCi cg ch hs) cg ch ct (zJT g h) K1 K2 fun p hp => .inl ?_
 rw [List.mem_singleton.1 hp, Int.add_zero, Int.add_comm]
theorem zKe (ct : zAF t = 0) (h1 : Ins g t) (h2 : Ins h t) (O : UOut (zAw g h) (zBa g h) U R) : Ins (zCE U) t := by
 obtain ⟨_, K1⟩ := h1
 obtain ⟨_, K2⟩ := h2
 refine uni_most (zCi cg ch hs) cg ch ct (zJT g h) K1 K2 O (fun p hp => .inl ?_) (zGv cg ch hs).1
 rw [List.mem_singleton.1 hp, Int.add_zero, Int.add_comm]
theorem zHt (O : UOut (zAw g h) (zBa g h) U R) : Ins g (zCE U) /\ Ins h (zCE U) := by
 have E := zJT g h
 exact ⟨zKd (zCi cg ch hs) cg O E.inl E.nl (zGv cg ch hs).1, zKd (zCi cg ch hs) ch O E.inr E.nr (zGv cg ch hs).2⟩
omit hs in
theorem zKf (hs : g.nodes.length + h.nodes.length <= 1048576) (O : UOut (zAw g h) (zBa g h) U R) : zAF (zCE U) = 0 := (zHX (O.check (zCi cg ch hs))).check
end
end Go.Ab.S
end
section
namespace Go.Ab.S
open Go Go.Ab
set_option maxHeartbeats 1000000
section
variable {g U : Graph} {ps : List Pr} {R : List Int}
theorem Uni.mono {ps' : List Pr} (h : ∀ p ∈ ps, p ∈ ps') {a b : Int} (u : Uni g ps a b) : Uni g ps' a b := by
 induction u with
 | refl h1 => exact .refl h1
 | symm _ ih => exact .symm ih
 | trans _ _ h1 h2 => exact .trans h1 h2
 | pair hp h1 h2 => exact .pair (h _ hp) h1 h2
 | con _ ka kb hn hi ih => exact .con ih ka kb hn hi
 | obj _ ka kb hi hj ih => exact .obj ih ka kb hi hj
theorem kinds (hc : zAF g = 0) {a : Int} (ha : InG g a) : (zAB g a).kind = 1 \/ (zAB g a).kind = 2 \/ (zAB g a).kind = 3 := by
 rcases zAN (zAl hc ha) with ⟨q, _⟩ | ⟨q, _⟩ | ⟨q, _⟩
 ·exact .inl q
 ·exact .inr (.inl q)
 ·exact .inr (.inr q)
theorem UOut.cases (hc : zAF g = 0) (O : UOut g ps U R) {a : Int} (h : InG g a) : ((zAB U a).kind = 1 /\ ∀ m, Uni g ps a m -> (zAB g m).kind = 1) \/ ((zAB U a).kind = 2 /\ ∃ m, Uni g ps a m /\ (zAB g m).kind = 2) \/ ((zAB U a).kind = 3 /\ ∃ m, Uni g ps a m /\ (zAB g m).kind = 3) := by
 by_cases h2 : ∃ m, Uni g ps a m /\ (zAB g m).kind = 2
 ·obtain ⟨m, h3, h4⟩ := h2
  exact .inr (.inl ⟨by rw [O.con a m h3 h4], m, h3, h4⟩)
 ·by_cases h3 : ∃ m, Uni g ps a m /\ (zAB g m).kind = 3
  ·obtain ⟨m, h3, h4⟩ := h3
   exact .inr (.inr ⟨(O.obj a m h3 h4).kind, m, h3, h4⟩)
  ·have hv : ∀ m, Uni g ps a m -> (zAB g m).kind = 1 := fun m hm => by
    rcases kinds hc (hm.inG hc).2 with q | q | q
    ·exact q
    ·exact absurd ⟨m, hm, q⟩ h2
    ·exact absurd ⟨m, hm, q⟩ h3
   exact .inl ⟨by rw [O.var a h hv], hv⟩
end
structure Stage (g : Graph) (ps1 ps : List Pr) (D : Graph) (R1 : List Int) (rest : List Pr) : Prop where
 sub : ∀ p ∈ ps1, p ∈ ps
 sound : ∀ p ∈ rest, Uni g ps p.1 p.2
 full : ∀ p ∈ ps, InG g p.1 -> InG g p.2 -> Uni D rest (clAt R1 p.1) (clAt R1 p.2)
section
variable {g D U X : Graph} {ps1 ps rest : List Pr} {R1 R RX : List Int} (hc : zAF g = 0) (O1 : UOut g ps1 D R1) (S : Stage g ps1 ps D R1 rest)
include hc O1 S
end
end Go.Ab.S
end
section
namespace Go.Ab.S
open Go Go.Ab
set_option maxHeartbeats 1000000
section
variable {g U : Graph} {R : List Int} {x y : Int} (hc : zAF g = 0) (hx : InG g x) (hy : InG g y) (hv : (zAB g x).kind = 1)
include hc hx hy hv
end
def lM : List Nat := [109]
def lNext : List Nat := [110, 101, 120, 116]
def intL : List Nat := [105, 110, 116]
def zIc (n i : Nat) : Node := ⟨3, [], [(n : Int), (((i + 1) % n : Nat) : Int)], [lM, lNext], false⟩
def zMw : Node := ⟨2, intL, [], [], false⟩
def zCu (n : Nat) : Graph := ⟨(List.range n).map (zIc n) ++ [zMw], 0⟩
theorem zFc (n : Nat) : (zCu n).nodes.length = n + 1 := by simp [zCu]
theorem zJr {n : Nat} {a : Int} (h0 : 0 <= a) (h1 : a < n) : zAB (zCu n) a = zIc n a.toNat := by
 have hi : a.toNat < ((List.range n).map (zIc n)).length := by simp; omega
 simp only [zAB, zCu, List.getD]
 rw [List.getElem?_append_left hi, List.getElem?_map, List.getElem?_range (by omega)]; rfl
theorem zHV (n : Nat) : zAB (zCu n) n = zMw := by
 simp only [zAB, zCu, List.getD, Int.toNat_natCast]
 rw [List.getElem?_append_right (by simp)]; simp
theorem zGs {n : Nat} (h0 : 0 < n) (h1 : n <= 1000) : zAF (zCu n) = 0 := by
 have hl := zFc n
 have hr : zEm [lM, lNext] = true := by decide
 refine zEz (by show (0 : Int) <= 0; omega) (by rw [hl]; show (0 : Int) < _; omega) (by rw [hl]; omega) fun m hm => ?_
 rw [hl]
 simp only [zCu, List.mem_append, List.mem_map, List.mem_range, List.mem_singleton] at hm
 rcases hm with ⟨i, hi, rfl⟩ | rfl
 ·have hmod := Nat.mod_lt (i + 1) h0
  have ha : (zIc n i).args.any (fun a => decide (a < 0) || decide (a >= ((n + 1 : Nat) : Int))) = false := by
   simp only [zIc, List.any_cons, List.any_nil, Bool.or_false, Bool.or_eq_false_iff, decide_eq_false_iff_not]
   omega
  simp only [mayF, ha, Bool.false_eq_true, if_false]
  simp only [zIc, hr]
  rfl
 ·simp only [mayF]; rfl
theorem zKp {a b : Nat} (ha : 0 < a) (hb : 0 < b) : ∃ T, SameR (zCu a) (zCu b) T := by
 refine ⟨fun u v => ((0 <= u /\ u < a) /\ (0 <= v /\ v < b)) \/ (u = a /\ v = b), .inl ⟨⟨Int.le_refl 0, by show (0 : Int) < a; omega⟩, Int.le_refl 0, by show (0 : Int) < b; omega⟩, ?_, ?_, ?_, ?_⟩
 ·rw [zFc, zFc]
  rintro u v (⟨h1, h2⟩ | ⟨rfl, rfl⟩)
  ·omega
  ·omega
 ·rintro u v (⟨h1, h2⟩ | ⟨rfl, rfl⟩)
  ·rw [zJr h1.1 h1.2, zJr h2.1 h2.2]
   refine ⟨rfl, rfl, rfl, rfl, rfl, fun i hi => ?_⟩
   have e1 := Nat.mod_lt (u.toNat + 1) ha
   have e2 := Nat.mod_lt (v.toNat + 1) hb
   match i, hi with
   | 0, _ => exact .inr ⟨rfl, rfl⟩
   | 1, _ => exact .inl ⟨⟨by show (0 : Int) <= (((u.toNat + 1) % a : Nat) : Int); omega, by show (((u.toNat + 1) % a : Nat) : Int) < a; omega⟩, by show (0 : Int) <= (((v.toNat + 1) % b : Nat) : Int); omega, by show (((v.toNat + 1) % b : Nat) : Int) < b; omega⟩
   | i + 2, hi => exact absurd hi (by show ¬ (i + 2 < 2); omega)
  ·rw [zHV, zHV]
   exact ⟨rfl, rfl, rfl, rfl, rfl, fun i hi => by simp [zMw] at hi⟩
 ·rintro u v w (⟨h1, _⟩ | ⟨rfl, rfl⟩) h2 hf
  ·rw [zJr h1.1 h1.2] at hf; cases hf
  ·rw [zHV] at hf; cases hf
 ·rintro u v w (⟨h1, _⟩ | ⟨rfl, rfl⟩) h2 hf
  ·rw [zJr h1.1 h1.2] at hf; cases hf
  ·rw [zHV] at hf; cases hf
theorem zOb : ∀ n : Nat, ((List.range n).map fun _ => 2).sum = n * 2
 | 0 => rfl
 | n + 1 => by rw [List.range_succ, List.map_append, List.sum_append, zOb n]; simp; omega
theorem ring_tiny {n : Nat} (h1 : n <= 12) : GTi (zCu n) := by
 have e30 : (2 : Nat) ^ 30 = 1073741824 := by decide
 have e60 : (2 : Nat) ^ 60 = 1152921504606846976 := by decide
 have hl := zFc n
 have ht : zAk [] (zCu n).nodes 0 = n * 2 := by
  rw [zCO]
  simp only [zCu, List.map_append, List.map_map, List.sum_append]
  have : ((fun n : Node => n.args.length) ∘ zIc n) = fun _ => 2 := by funext i; rfl
  rw [this, zOb]
  simp [zMw]
 have hn : ∀ m ∈ (zCu n).nodes, m.args.length <= 2 /\ m.labels.length <= 2 /\ ∀ s ∈ m.labels, s.length <= 4 := by
  intro m hm
  simp only [zCu, List.mem_append, List.mem_map, List.mem_range, List.mem_singleton] at hm
  rcases hm with ⟨i, hi, rfl⟩ | rfl
  ·refine ⟨by simp [zIc], by simp [zIc], fun s hs => ?_⟩
   simp only [zIc, List.mem_cons, List.not_mem_nil, or_false] at hs
   rcases hs with rfl | rfl <;> decide
  ·exact ⟨by simp [zMw], by simp [zMw], fun s hs => by cases hs⟩
 refine ⟨⟨⟨by omega, fun m hm => ?_⟩, by omega, fun m hm => ?_⟩, by omega, fun m hm => ?_⟩
 ·obtain ⟨q1, q2, q3⟩ := hn m hm
  exact ⟨by omega, by omega, fun s hs => by have := q3 s hs; omega⟩
 ·have := hn m hm; omega
 ·have := hn m hm; omega
end Go.Ab.S
end
section
namespace Go.Ab.S
open Go Go.Ab
set_option maxHeartbeats 1000000
def Bd (A : Nat) (S : List (List Nat)) (g : Graph) : Prop := ∀ n ∈ g.nodes, (n.kind = 2 -> n.args.length <= A) /\ ∀ l ∈ n.labels, l ∈ S
section
variable {A : Nat} {S : List (List Nat)} {g h U : Graph} {ps : List Pr} {R : List Int}
theorem Bd.row (hc : zAF g = 0) (B : Bd A S g) {n : Node} (hn : n ∈ g.nodes) : n.args.length <= max A S.length /\ n.labels.length <= S.length := by
 obtain ⟨b1, b2⟩ := B n hn
 rcases zAN ((zBA hc).2 n hn) with ⟨_, q2, _, _, q5⟩ | ⟨q1, q2, _⟩ | ⟨_, _, q3, q4⟩
 ·rw [q2, q5]; simp
 ·rw [q2]; have := b1 q1; simp; omega
 ·have h1 := zCm n.labels S (zGt (zBF q4)) b2
  omega
theorem Bd.node (B : Bd A S g) {a : Int} (ha : InG g a) : ((zAB g a).kind = 2 -> (zAB g a).args.length <= A) /\ ∀ l ∈ (zAB g a).labels, l ∈ S := B _ (zFG ha)
theorem Bd.left (hc : zAF g = 0) (B : Bd A S g) : zAk [] g.nodes 0 <= g.nodes.length * max A S.length := by
 rw [zCO]
 have : ∀ ns : List Node, (∀ n ∈ ns, n.args.length <= max A S.length) -> (ns.map fun n => n.args.length).sum <= ns.length * max A S.length := by
  intro ns
  induction ns with
  | nil => intro _; simp
  | cons n r ih =>
   intro h
   have h1 := ih fun m hm => h m (by simp [hm])
   have h2 := h n (by simp)
   simp only [List.map_cons, List.sum_cons, zlC, Nat.succ_mul]; omega
 exact this g.nodes fun n hn => (B.row hc hn).1
theorem Bd.gsm (hc : zAF g = 0) (B : Bd A S g) (hS : S.length <= 2 ^ 30) (hT : ∀ s ∈ S, s.length < 2 ^ 60) (hz : g.nodes.length + g.nodes.length * max A S.length <= 2 ^ 30) : GSm g := by
 have e30 : (2 : Nat) ^ 30 = 1073741824 := by decide
 have e60 : (2 : Nat) ^ 60 = 1152921504606846976 := by decide
 have hL := B.left hc
 refine ⟨⟨by omega, fun n hn => ?_⟩, by omega, fun n hn => ?_⟩
 ·obtain ⟨h1, h2⟩ := B.row hc hn
  have h3 := zDP g.nodes 0 n hn
  exact ⟨by omega, by omega, fun s hs => hT s ((B n hn).2 s hs)⟩
 ·have := (B.row hc hn).2; omega
theorem Bd.gti (hc : zAF g = 0) (B : Bd A S g) (hN : g.nodes.length <= 4096) (hA : A <= 4096) (hS : S.length <= 4096) (hT : ∀ s ∈ S, s.length < 2 ^ 60) : GTi g := by
 have e30 : (2 : Nat) ^ 30 = 1073741824 := by decide
 have h1 : g.nodes.length * max A S.length <= 4096 * 4096 := Nat.mul_le_mul hN (by omega)
 exact ⟨B.gsm hc (by omega) hT (by omega), hN, fun n hn => by have := (B.row hc hn).1; omega⟩
theorem Bd.mono {A' : Nat} {S' : List (List Nat)} (B : Bd A S g) (hA : A <= A') (hS : ∀ s ∈ S, s ∈ S') : Bd A' S' g := fun n hn => ⟨fun k => Nat.le_trans ((B n hn).1 k) hA, fun l hl => hS l ((B n hn).2 l hl)⟩
theorem Bd.uni (hc : zAF g = 0) (B : Bd A S g) (O : UOut g ps U R) : Bd A S U := by
 intro n hn
 obtain ⟨k, hk, rfl⟩ := List.mem_iff_getElem.1 hn
 have ha : InG g (k : Int) := ⟨by omega, by rw [O.lenU] at hk; omega⟩
 have hnd : zAB U (k : Int) = U.nodes[k] := by simp [zAB, hk]
 rw [<- hnd]
 rcases O.cases hc ha with ⟨q, hv⟩ | ⟨q, m, h1, h2⟩ | ⟨q, m, h1, h2⟩
 ·rw [O.var _ ha hv]
  exact ⟨fun h => by simp at h, fun l hl => by simp at hl⟩
 ·rw [O.con _ m h1 h2]
  exact ⟨fun _ => by rw [List.length_map]; exact (B.node (h1.inG hc).2).1 h2, fun l hl => by simp at hl⟩
 ·refine ⟨fun h => by omega, fun l hl => ?_⟩
  obtain ⟨m', k1, k2, k3⟩ := ((O.obj _ m h1 h2).labels l).1 hl
  exact (B.node (k1.inG hc).2).2 l k3
theorem Bd.both (B : Bd A S g) (B' : Bd A S h) : Bd A S (zAw g h) := by
 intro n hn
 rcases List.mem_append.1 hn with hn | hn
 ·exact B n hn
 ·obtain ⟨m, hm, rfl⟩ := List.mem_map.1 hn
  exact ⟨fun k => by have := (B' m hm).1 k; simpa [shN] using this, fun l hl => (B' m hm).2 l hl⟩
theorem Bd.trim (hc : zAF g = 0) (B : Bd A S g) : Bd A S (zCE g) := by
 intro n hn
 obtain ⟨i, hi, rfl⟩ := List.mem_map.1 hn
 obtain ⟨k1, k2⟩ := (zCc g).1 i hi
 have hb := B.node (a := i) ⟨k1, k2⟩
 exact ⟨fun k => by have := hb.1 k; simpa [zEw] using this, fun l hl => hb.2 l hl⟩
def zCl (g : Graph) : List (List Nat) := g.nodes.flatMap (·.labels)
theorem Bd.self (g : Graph) : Bd (zAk [] g.nodes 0) (zCl g) g := fun n hn => ⟨fun _ => zDP _ _ n hn, fun l hl => List.mem_flatMap.2 ⟨n, hn, hl⟩⟩
theorem zEI (hc : zAF g = 0) : (zCl g).length <= zAk [] g.nodes 0 := by
 rw [zCO, zCl, List.length_flatMap]
 have : ∀ ns : List Node, (∀ n ∈ ns, mayF n g.nodes.length = true) -> (ns.map fun n => n.labels.length).sum <= (ns.map fun n => n.args.length).sum := by
  intro ns
  induction ns with
  | nil => intro _; exact Nat.le_refl _
  | cons n r ih =>
   intro h
   have h2 := ih fun n hn => h n (by simp [hn])
   have h3 : n.labels.length <= n.args.length := by
    rcases zAN (h n (by simp)) with ⟨_, q, _⟩ | ⟨_, q, _⟩ | ⟨_, _, q, _⟩
    ·rw [q]; simp
    ·rw [q]; simp
    ·omega
   simp only [List.map_cons, List.sum_cons]; omega
 exact this g.nodes (zBA hc).2
theorem zFY (hg : GraphSm g) : ∀ s ∈ zCl g, s.length < 2 ^ 60 := fun s hs => by
 obtain ⟨n, hn, hl⟩ := List.mem_flatMap.1 hs
 exact (hg.all n hn).texts s hl
theorem UOut.gsm (hc : zAF g = 0) (hg : GTi g) (hz : (g.nodes.length + 1) * (zAk [] g.nodes 0 + 1) <= 2 ^ 30) (O : UOut g ps U R) : GSm U := by
 have h1 := zEI hc
 have h2 := (Bd.self g).uni hc O
 have hm : max (zAk [] g.nodes 0) (zCl g).length = zAk [] g.nodes 0 := by omega
 have e30 : (2 : Nat) ^ 30 = 1073741824 := by decide
 have ht := hg.total
 refine h2.gsm (O.check hc) (by omega) (zFY hg.toGraphSm) ?_
 rw [hm, O.lenU]
 rw [Nat.succ_mul, Nat.mul_succ] at hz
 omega
end
theorem reach_le (g : Graph) : (zAM g).length <= g.nodes.length := by
 have h := zCm (zAM g) (zGS g.nodes.length) (zCc g).2 fun a ha => by
  obtain ⟨h1, h2⟩ := (zCc g).1 a ha
  exact List.mem_map.2 ⟨a.toNat, List.mem_range.2 (by omega), by omega⟩
 simpa [zGS] using h
theorem trim_le (g : Graph) : (zCE g).nodes.length <= g.nodes.length := by
 have := reach_le g
 simpa [zCE] using this
end Go.Ab.S
end
