import Derived.Test.YtpmndmiohaaokaaGreatDoorP14
import Derived.Test.YtpmndmiohaaokaaGreatDoorP16
import Derived.Test.YtpmndmiohaaokaaGreatDoorP19
/-
  Part 20 of the proof.
-/
set_option linter.all false
section
namespace Go.Ab.S
open Go Go.Ab
set_option maxHeartbeats 1000000
structure Emb (G g h : Graph) (k j : Int) : Prop where
 inl : ∀ a, InG g a -> InG G (a + k)
 nl : ∀ a, InG g a -> zAB G (a + k) = shN k (zAB g a)
 inr : ∀ b, InG h b -> InG G (b + j)
 nr : ∀ b, InG h b -> zAB G (b + j) = shN j (zAB h b)
 cas : ∀ x, InG G x -> (∃ a, InG g a /\ x = a + k) \/ ∃ b, InG h b /\ x = b + j
 dis : ∀ a b, InG g a -> InG h b -> a + k ≠ b + j
theorem zJN (g h : Graph) : Emb (zAz g h) g h 0 g.nodes.length := by
 refine ⟨fun a ha => by rw [Int.add_zero]; exact zLj ha, fun a ha => by rw [Int.add_zero, sh0]; exact zRe ha, fun b hb => zLk hb, fun b hb => zRf hb, fun x hx => ?_, fun a b ha hb => ?_⟩
 ·rcases zNG hx with h1 | h1
  ·exact .inl ⟨x, h1, by omega⟩
  ·exact .inr h1
 ·have := ha.2; have := hb.1; omega
theorem Emb.flip {G g h : Graph} {k j : Int} (e : Emb G g h k j) : Emb G h g j k := ⟨e.inr, e.nr, e.inl, e.nl, fun x hx => (e.cas x hx).symm, fun a b ha hb h => e.dis b a hb ha h.symm⟩
theorem zEZ {h : Graph} (ch : zAF h = 0) {b c : Int} (hb : InG h b) (hc : InG h c) (he : clAt (zAH h) b = clAt (zAH h) c) :
  (zAB h b).kind = (zAB h c).kind /\ (zAB h b).name = (zAB h c).name /\ (zAB h b).labels = (zAB h c).labels /\ (zAB h b).isOpen = (zAB h c).isOpen /\ (zAB h b).args.length = (zAB h c).args.length ∧
  (∀ i, i < (zAB h b).args.length -> clAt (zAH h) ((zAB h b).args.getD i 0) = clAt (zAH h) ((zAB h c).args.getD i 0)) /\ (zAV (zAB h b) = true -> b = c) := by
 have b1 := hb.1; have b2 := hb.2; have c1 := hc.1; have c2 := hc.2
 have he' : clAt (zAH h) (b.toNat : Int) = clAt (zAH h) (c.toNat : Int) := by
  rw [show (b.toNat : Int) = b by omega, show (c.toNat : Int) = c by omega]; exact he
 obtain ⟨q1, q2, q3, q4, q5, q6⟩ := zEY ch (i := b.toNat) (j := c.toNat) (by omega) (by omega) he'
 change (zAV (zAB h b) = true \/ zAV (zAB h c) = true) -> _ at q1
 change (zAB h b).kind = (zAB h c).kind at q2
 change (zAB h b).name = (zAB h c).name at q3
 change (zAB h b).labels = (zAB h c).labels at q4
 change (zAB h b).args.map _ = (zAB h c).args.map _ at q5
 change zAV (zAB h b) = zAV (zAB h c) at q6
 have hlen : (zAB h b).args.length = (zAB h c).args.length := by have := congrArg List.length q5; simpa using this
 refine ⟨q2, q3, q4, ?_, hlen, fun i hi => ?_, fun hf => by have := q1 (.inl hf); omega⟩
 ·rcases zAM (zAh ch hb) with ⟨z, _, o, _⟩ | ⟨z, _, o, _⟩ | ⟨z, _⟩
  ·rcases zAM (zAh ch hc) with ⟨_, _, o', _⟩ | ⟨w, _⟩ | ⟨w, _⟩
   ·rw [o, o']
   ·omega
   ·omega
  ·rcases zAM (zAh ch hc) with ⟨w, _⟩ | ⟨_, _, o', _⟩ | ⟨w, _⟩
   ·omega
   ·rw [o, o']
   ·omega
  ·have e1 : ((zAB h b).kind == 1) = false := by simp; omega
   have e2 : ((zAB h c).kind == 1) = false := by simp; omega
   simpa only [zAV, e1, e2, Bool.false_or] using q6
 ·have := congrArg (fun l => l[i]?) q5
  simp only [zgM, zgG hi, zgG (hlen ▸ hi : i < (zAB h c).args.length), Option.map_some, oI] at this
  simp only [List.getD, zgG hi, zgG (hlen ▸ hi : i < (zAB h c).args.length), Option.getD_some]
  exact this
end Go.Ab.S
end
section
namespace Go.Ab.S
open Go Go.Ab
set_option maxHeartbeats 1000000
section
variable {G X t : Graph} {T : Int -> Int -> Prop} {o a b : Int}
theorem zOM (K : InstB X t T) (hn : zAB G (a + o) = shN o (zAB X a)) (t1 : T a b) : (zAB G (a + o)).kind = 1 \/ ((zAB G (a + o)).kind = (zAB t b).kind /\ (zAB G (a + o)).name = (zAB t b).name /\ ((zAB G (a + o)).kind = 3 -> ∀ l ∈ (zAB G (a + o)).labels, l ∈ (zAB t b).labels) /\ ((zAB G (a + o)).isOpen = false -> (zAB G (a + o)).labels = (zAB t b).labels /\ (zAB t b).isOpen = false)) := by
 rw [hn]
 rcases K.node _ _ t1 with q | ⟨_, q2, q3, q4, q5, _⟩
 ·exact .inl q
 ·refine .inr ⟨q2, q3, q5, fun ho => ?_⟩
  rcases q4 with q4 | ⟨q4, q6⟩
  ·exact absurd q4 (by show ¬ (zAB X a).isOpen = true; rw [show (zAB X a).isOpen = false from ho]; decide)
  ·exact ⟨q6, q4⟩
theorem zQO (K : InstB X t T) (hn : zAB G (a + o) = shN o (zAB X a)) (t1 : T a b) (hk : (zAB G (a + o)).kind = 2) {i : Nat} (hi : i < (zAB G (a + o)).args.length) : ∃ a', (zAB G (a + o)).args.getD i 0 = a' + o /\ InG X a' /\ T a' ((zAB t b).args.getD i 0) := by
 rw [hn] at hk hi ⊢
 have hi' : i < (zAB X a).args.length := by simpa [shN] using hi
 have hk' : (zAB X a).kind = 2 := hk
 rcases K.node _ _ t1 with q | ⟨_, _, _, _, _, q5⟩
 ·omega
 have := (q5 i hi').2
 rw [idxI, if_neg (by simp; omega)] at this
 exact ⟨_, zLh hi', (K.range _ _ this).1, this⟩
theorem zQP (cX : zAF X = 0) (ct : zAF t = 0) (K : InstB X t T) (hn : zAB G (a + o) = shN o (zAB X a)) (t1 : T a b) (hk : (zAB G (a + o)).kind = 3) {i : Nat} {l : List Nat} (hi : (zAB G (a + o)).labels[i]? = some l) : ∃ i' : Nat, (zAB t b).labels[i']? = some l /\ ∃ a', (zAB G (a + o)).args.getD i 0 = a' + o /\ InG X a' /\ T a' ((zAB t b).args.getD i' 0) := by
 rw [hn] at hk hi ⊢
 have ha := (K.range _ _ t1).1
 have i1 := (K.range _ _ t1).2.ok ct
 have hk' : (zAB X a).kind = 3 := hk
 have hi' : (zAB X a).labels[i]? = some l := hi
 have hil := (zgS.1 hi').1
 have hia : i < (zAB X a).args.length := by rw [<- (zBq cX ha hk').1]; exact hil
 rcases K.node _ _ t1 with q | ⟨_, q2, _, _, q4, q5⟩
 ·omega
 have hu : (zAB t b).kind = 3 := by omega
 obtain ⟨i', hi2, he⟩ := List.mem_iff_getElem.1 (q4 hk' l (List.mem_of_getElem? hi'))
 have hget : (zAB t b).labels[i']? = some l := by rw [zgG hi2, he]
 have hidx : idxI (zAB X a) (zAB t b) i = i' := by
  rw [idxI, if_pos (by simp; omega), List.getD, hi', Option.getD_some]
  exact (zJG (zBq ct i1 hu).2.1 hget).1
 have := (q5 i hia).2
 rw [hidx] at this
 exact ⟨i', hget, _, zLh hia, (K.range _ _ this).1, this⟩
end
def Mtt (g h : Graph) (k j : Int) (T1 T2 : Int -> Int -> Prop) (x b : Int) : Prop := (∃ a, x = a + k /\ InG g a /\ T1 a b) \/ ∃ a, x = a + j /\ InG h a /\ T2 a b
section
variable {G g h t U : Graph} {k j : Int} {T1 T2 : Int -> Int -> Prop} {ps : List Pr} {R : List Int}
variable (cG : zAF G = 0) (cg : zAF g = 0) (ch : zAF h = 0) (ct : zAF t = 0) (e : Emb G g h k j) (K1 : InstB g t T1) (K2 : InstB h t T2)
include cG cg ch ct e K1 K2
theorem Mtt.inT {x b : Int} (m : Mtt g h k j T1 T2 x b) : InG t b := by
 rcases m with ⟨a, _, _, t1⟩ | ⟨a, _, _, t1⟩
 ·exact (K1.range _ _ t1).2.ok ct
 ·exact (K2.range _ _ t1).2.ok ct
theorem Mtt.inX {x b : Int} (m : Mtt g h k j T1 T2 x b) : InG G x := by
 rcases m with ⟨a, rfl, ha, _⟩ | ⟨a, rfl, ha, _⟩
 ·exact e.inl a ha
 ·exact e.inr a ha
theorem Mtt.uniq {x b c : Int} (m : Mtt g h k j T1 T2 x b) (n : Mtt g h k j T1 T2 x c) : clAt (zAH t) b = clAt (zAH t) c := by
 rcases m with ⟨a, rfl, ha, t1⟩ | ⟨a, rfl, ha, t1⟩
 ·rcases n with ⟨a', he, ha', t2⟩ | ⟨a', he, ha', t2⟩
  ·obtain rfl : a = a' := by omega
   exact zHh cg ct K1 t1 t2
  ·exact absurd he (e.dis a a' ha ha')
 ·rcases n with ⟨a', he, ha', t2⟩ | ⟨a', he, ha', t2⟩
  ·exact absurd he.symm (e.dis a' a ha' ha)
  ·obtain rfl : a = a' := by omega
   exact zHh ch ct K2 t1 t2
theorem Mtt.node {x u : Int} (m : Mtt g h k j T1 T2 x u) : (zAB G x).kind = 1 \/ ((zAB G x).kind = (zAB t u).kind /\ (zAB G x).name = (zAB t u).name /\ ((zAB G x).kind = 3 -> ∀ l ∈ (zAB G x).labels, l ∈ (zAB t u).labels) /\ ((zAB G x).isOpen = false -> (zAB G x).labels = (zAB t u).labels /\ (zAB t u).isOpen = false)) := by
 rcases m with ⟨a, rfl, ha, t1⟩ | ⟨a, rfl, ha, t1⟩
 ·exact zOM K1 (e.nl a ha) t1
 ·exact zOM K2 (e.nr a ha) t1
theorem Mtt.con {x u : Int} (m : Mtt g h k j T1 T2 x u) (hk : (zAB G x).kind = 2) {i : Nat} (hi : i < (zAB G x).args.length) : Mtt g h k j T1 T2 ((zAB G x).args.getD i 0) ((zAB t u).args.getD i 0) := by
 rcases m with ⟨a, rfl, ha, t1⟩ | ⟨a, rfl, ha, t1⟩
 ·exact .inl (zQO K1 (e.nl a ha) t1 hk hi)
 ·exact .inr (zQO K2 (e.nr a ha) t1 hk hi)
theorem Mtt.obj {x u : Int} (m : Mtt g h k j T1 T2 x u) (hk : (zAB G x).kind = 3) {i : Nat} {l : List Nat} (hi : (zAB G x).labels[i]? = some l) : ∃ i' : Nat, (zAB t u).labels[i']? = some l /\ Mtt g h k j T1 T2 ((zAB G x).args.getD i 0) ((zAB t u).args.getD i' 0) := by
 rcases m with ⟨a, rfl, ha, t1⟩ | ⟨a, rfl, ha, t1⟩
 ·obtain ⟨i', h1, h2⟩ := zQP cg ct K1 (e.nl a ha) t1 hk hi
  exact ⟨i', h1, .inl h2⟩
 ·obtain ⟨i', h1, h2⟩ := zQP ch ct K2 (e.nr a ha) t1 hk hi
  exact ⟨i', h1, .inr h2⟩
theorem Mtt.conlen {x u : Int} (m : Mtt g h k j T1 T2 x u) (hk : (zAB G x).kind = 2) : (zAB t u).kind = 2 /\ (zAB t u).args.length = (zAB G x).args.length /\ (zAB t u).labels = [] /\ (zAB t u).isOpen = false := by
 rcases m.node cG cg ch ct e K1 K2 with q | ⟨q1, q2, _⟩
 ·omega
 rcases zAM (zAh cG (m.inX cG cg ch ct e K1 K2)) with ⟨z, _⟩ | ⟨_, _, _, _, z⟩ | ⟨z, _⟩
 ·omega
 ·rcases zAM (zAh ct (m.inT cG cg ch ct e K1 K2)) with ⟨w, _⟩ | ⟨w0, w1, w2, _, w⟩ | ⟨w, _⟩
  ·omega
  ·exact ⟨w0, by rw [w, z, q2], w1, w2⟩
  ·omega
 ·omega
theorem zMW (hps : ∀ p ∈ ps, p = (g.root + k, h.root + j) \/ p = (h.root + j, g.root + k)) {x y : Int} (hu : Uni G ps x y) : (x = y /\ InG G x) \/ ∃ b c, Mtt g h k j T1 T2 x b /\ Mtt g h k j T1 T2 y c /\ clAt (zAH t) b = clAt (zAH t) c := by
 have rg := zAU cg
 have rh := zAU ch
 have m1 : Mtt g h k j T1 T2 (g.root + k) t.root := .inl ⟨_, rfl, ⟨rg.1, rg.2.1⟩, K1.root⟩
 have m2 : Mtt g h k j T1 T2 (h.root + j) t.root := .inr ⟨_, rfl, ⟨rh.1, rh.2.1⟩, K2.root⟩
 induction hu with
 | refl hz => exact .inl ⟨rfl, hz⟩
 | symm _ ih =>
  rcases ih with ⟨rfl, hz⟩ | ⟨b, c, h1, h2, h3⟩
  ·exact .inl ⟨rfl, hz⟩
  ·exact .inr ⟨c, b, h2, h1, h3.symm⟩
 | trans _ _ ih1 ih2 =>
  rcases ih1 with ⟨rfl, hz⟩ | ⟨b, c, h1, h2, h3⟩
  ·exact ih2
  ·rcases ih2 with ⟨rfl, hz⟩ | ⟨b', c', h1', h2', h3'⟩
   ·exact .inr ⟨b, c, h1, h2, h3⟩
   ·exact .inr ⟨b, c', h1, h2', by rw [h3, Mtt.uniq cG cg ch ct e K1 K2 h2 h1', h3']⟩
 | pair hp _ _ =>
  rcases hps _ hp with h1 | h1
  ·cases h1; exact .inr ⟨_, _, m1, m2, rfl⟩
  ·cases h1; exact .inr ⟨_, _, m2, m1, rfl⟩
 | @con a b i hab ka kb hn hi ih =>
  rcases ih with ⟨rfl, hz⟩ | ⟨u, w, h1, h2, h3⟩
  ·exact .inl ⟨rfl, zAr (zAh cG hz) _ (zBV hi)⟩
  ·have hin := hab.inG cG
   have n1 := Mtt.con cG cg ch ct e K1 K2 h1 ka hi
   have n2 := Mtt.con cG cg ch ct e K1 K2 h2 kb (i := i) (by rw [<- zGd cG hin.1 hin.2 ka kb hn]; exact hi)
   obtain ⟨_, l1, _⟩ := Mtt.conlen cG cg ch ct e K1 K2 h1 ka
   exact .inr ⟨_, _, n1, n2, (zEZ ct (h1.inT cG cg ch ct e K1 K2) (h2.inT cG cg ch ct e K1 K2) h3).2.2.2.2.2.1 i (by omega)⟩
 | @obj a b i i2 l hab ka kb hi hj ih =>
  rcases ih with ⟨rfl, hz⟩ | ⟨u, w, h1, h2, h3⟩
  ·obtain ⟨z1, z2, _⟩ := zBq cG hz ka
   obtain rfl := zCn z2 hi hj
   exact .inl ⟨rfl, zAr (zAh cG hz) _ (zBV (by rw [<- z1]; exact (zgS.1 hi).1))⟩
  ·obtain ⟨i', l1, n1⟩ := Mtt.obj cG cg ch ct e K1 K2 h1 ka hi
   obtain ⟨j', l2, n2⟩ := Mtt.obj cG cg ch ct e K1 K2 h2 kb hj
   have hu1 := h1.inT cG cg ch ct e K1 K2
   obtain ⟨q1, _, q3, _, _, q6, _⟩ := zEZ ct hu1 (h2.inT cG cg ch ct e K1 K2) h3
   have ku : (zAB t u).kind = 3 := by
    rcases Mtt.node cG cg ch ct e K1 K2 h1 with q | ⟨q, _⟩ <;> omega
   obtain ⟨z1, z2, _⟩ := zBq ct hu1 ku
   rw [<- q3] at l2
   obtain rfl := zCn z2 l1 l2
   exact .inr ⟨_, _, n1, n2, q6 i' (by rw [<- z1]; exact (zgS.1 l1).1)⟩
theorem zPw (hps : ∀ p ∈ ps, p = (g.root + k, h.root + j) \/ p = (h.root + j, g.root + k)) {x y b : Int} (hu : Uni G ps x y) (m : Mtt g h k j T1 T2 x b) : ∃ c, Mtt g h k j T1 T2 y c /\ clAt (zAH t) c = clAt (zAH t) b := by
 rcases zMW cG cg ch ct e K1 K2 hps hu with ⟨rfl, _⟩ | ⟨b', c, h1, h2, h3⟩
 ·exact ⟨b, m, rfl⟩
 ·exact ⟨c, h2, by rw [<- h3]; exact Mtt.uniq cG cg ch ct e K1 K2 h1 m⟩
theorem zMz (hps : ∀ p ∈ ps, p = (g.root + k, h.root + j) \/ p = (h.root + j, g.root + k)) : Consi G ps := by
 intro x y hu
 rcases zMW cG cg ch ct e K1 K2 hps hu with ⟨rfl, _⟩ | ⟨b, c, h1, h2, h3⟩
 ·exact .inr (.inr ⟨rfl, rfl, fun _ => ⟨fun _ l hl => hl, fun _ l hl => hl⟩⟩)
 ·obtain ⟨q1, q2, q3, q4, _⟩ := zEZ ct (h1.inT cG cg ch ct e K1 K2) (h2.inT cG cg ch ct e K1 K2) h3
  rcases Mtt.node cG cg ch ct e K1 K2 h1 with z | ⟨z1, z2, z3, z4⟩
  ·exact .inl z
  rcases Mtt.node cG cg ch ct e K1 K2 h2 with w | ⟨w1, w2, w3, w4⟩
  ·exact .inr (.inl w)
  refine .inr (.inr ⟨by omega, by rw [z2, w2, q2], fun hk => ⟨fun ho l hl => ?_, fun ho l hl => ?_⟩⟩)
  ·rw [(z4 ho).1, q3]; exact w3 (by omega) l hl
  ·rw [(w4 ho).1, <- q3]; exact z3 hk l hl
theorem zPv (O : UOut G ps U R) (hps : ∀ p ∈ ps, p = (g.root + k, h.root + j) \/ p = (h.root + j, g.root + k)) (hroot : Uni G ps (g.root + k) G.root) : ∃ S, InstB (zCE U) t S := by
 have cU := O.check cG
 have Q := zHT cU
 have rg := zAU cg
 have m1 : Mtt g h k j T1 T2 (g.root + k) t.root := .inl ⟨_, rfl, ⟨rg.1, rg.2.1⟩, K1.root⟩
 have mv := @zPw G g h t k j T1 T2 ps cG cg ch ct e K1 K2 hps
 have inG : ∀ {x}, Rch U x -> InG G x := fun hx => by have := hx.ok cU; rw [O.lenU] at this; exact this
 have inT := @Mtt.inT G g h t k j T1 T2 cG cg ch ct e K1 K2
 have hin : ∀ {x y}, Uni G ps x y -> InG G y := fun hu => (hu.inG cG).2
 refine ⟨fun z b => Rch t b /\ ∃ x b', Rch U x /\ z = qT U x /\ Mtt g h k j T1 T2 x b' /\ clAt (zAH t) b' = clAt (zAH t) b, ⟨.root, ?_⟩, ?_, ?_, ?_⟩
 ·obtain ⟨c, mc, hc⟩ := mv (hroot.trans (O.rep _ (hin hroot)).1) m1
  exact ⟨_, c, .root, Q.root, by rw [O.root]; exact mc, hc⟩
 ·rintro _ b ⟨hb, x, b', hx, rfl, _⟩
  exact ⟨Q.range _ hx, hb⟩
 ·rintro _ b ⟨hb, x, b', hx, rfl, mx, hbb⟩
  have hib := hb.ok ct
  have hn := Q.node x hx
  change zAB (zCE U) (qT U x) = _ at hn
  rw [hn]
  -- what an argument stands for
  have harg : ∀ {y c d : Int}, y ∈ (zAB U x).args -> ∀ {z : Int}, InG G z -> y = clAt R z -> Mtt g h k j T1 T2 z c -> clAt (zAH t) c = clAt (zAH t) d -> Rch t d -> Rch t d /\ ∃ x' b', Rch U x' /\ qT U y = qT U x' /\ Mtt g h k j T1 T2 x' b' /\ clAt (zAH t) b' = clAt (zAH t) d := by
   intro y c d hy z hz hyz mz hcd hd
   obtain ⟨c', m', e'⟩ := mv (O.rep z hz).1 mz
   exact ⟨hd, y, c', .step hx hy, rfl, by rw [hyz]; exact m', by rw [e', hcd]⟩
  by_cases h2 : ∃ m, Uni G ps x m /\ (zAB G m).kind = 2
  ·obtain ⟨m, hxm, hk⟩ := h2
   obtain ⟨c, mc, hcb⟩ := mv hxm mx
   rw [hbb] at hcb
   obtain ⟨t1, t2, t3, t4⟩ := mc.conlen cG cg ch ct e K1 K2 hk
   obtain ⟨f1, f2, f3, f4, f5, f6, _⟩ := zEZ ct (inT mc) hib hcb
   have hname : (zAB G m).name = (zAB t c).name := by
    rcases mc.node cG cg ch ct e K1 K2 with q | ⟨_, q, _⟩
    ·omega
    ·exact q
   rw [O.con x m hxm hk]
   refine .inr ⟨by show (2 : Int) ≠ 1; decide, by show (2 : Int) = _; rw [<- f1, t1], by show (zAB G m).name = _; rw [hname, f2], .inr ⟨by rw [<- f4, t4], by show [] = _; rw [<- f3, t3]⟩, fun h3 => absurd h3 (by show ¬ (2 : Int) = 3; decide), fun i hi => ?_⟩
   have hi' : i < (zAB G m).args.length := by simpa using hi
   rw [idxI, if_neg (by simp)]
   refine ⟨by omega, ?_⟩
   have hget : (((zAB G m).args.map (clAt R)).map fun a => (zBy (zAN U) a : Int)).getD i 0 = qT U (clAt R ((zAB G m).args.getD i 0)) := by
    simp only [List.getD, zgM, zgG hi']; rfl
   show (fun z b => Rch t b /\ ∃ x b', Rch U x /\ z = qT U x /\ Mtt g h k j T1 T2 x b' /\ clAt (zAH t) b' = clAt (zAH t) b) ((((zAB G m).args.map (clAt R)).map fun a => (zBy (zAN U) a : Int)).getD i 0) _
   rw [hget]
   exact harg (by rw [O.con x m hxm hk]; exact List.mem_map.2 ⟨_, zBV hi', rfl⟩) (zAr (zAh cG (hin hxm)) _ (zBV hi')) rfl (mc.con cG cg ch ct e K1 K2 hk hi') (f6 i (by omega)) (zDA hb (by omega))
  ·by_cases h3 : ∃ m, Uni G ps x m /\ (zAB G m).kind = 3
   ·obtain ⟨m, hxm, hk⟩ := h3
    have P := O.obj x m hxm hk
    have look : ∀ m', Uni G ps x m' -> (zAB G m').kind = 3 -> ∃ c, Mtt g h k j T1 T2 m' c /\ (zAB t c).kind = 3 /\ clAt (zAH t) c = clAt (zAH t) b /\ (zAB t c).labels = (zAB t b).labels /\ (zAB t c).isOpen = (zAB t b).isOpen /\ (zAB t b).kind = 3 := fun m' hm' hk' => by
     obtain ⟨c, mc, hcb⟩ := mv hm' mx
     rw [hbb] at hcb
     obtain ⟨f1, _, f3, f4, _⟩ := zEZ ct (inT mc) hib hcb
     rcases mc.node cG cg ch ct e K1 K2 with q | ⟨q, _⟩
     ·omega
     ·exact ⟨c, mc, by omega, hcb, f3, f4, by omega⟩
    obtain ⟨_, _, _, _, _, _, kb⟩ := look m hxm hk
    obtain ⟨lb, rb, nb⟩ := zBq ct hib kb
    have hsub : ∀ l ∈ (zAB U x).labels, l ∈ (zAB t b).labels := fun l hl => by
     obtain ⟨m', m1, m2, m3⟩ := (P.labels l).1 hl
     obtain ⟨c, mc, _, _, f3, _⟩ := look m' m1 m2
     rcases mc.node cG cg ch ct e K1 K2 with q | ⟨_, _, q, _⟩
     ·omega
     ·rw [<- f3]; exact q m2 l m3
    refine .inr ⟨by show (zAB U x).kind ≠ 1; rw [P.kind]; decide, by show (zAB U x).kind = _; rw [P.kind, kb], by show (zAB U x).name = _; rw [P.name, nb], ?_, fun _ => hsub, fun i hi => ?_⟩
    ·cases ho : (zAB U x).isOpen
     ·have : ¬ ∀ m, Uni G ps x m -> (zAB G m).kind = 3 -> (zAB G m).isOpen = true := fun hh => by
       have := P.isOpen.2 hh
       rw [ho] at this; cases this
      simp only [Classical.not_forall] at this
      obtain ⟨m', m1, m2, m3⟩ := this
      have m3 : (zAB G m').isOpen = false := by simpa using m3
      obtain ⟨c, mc, _, _, f3, f4, _⟩ := look m' m1 m2
      rcases mc.node cG cg ch ct e K1 K2 with q | ⟨_, _, _, q⟩
      ·omega
      obtain ⟨q1, q2⟩ := q m3
      refine .inr ⟨by rw [<- f4, q2], zEL (zBC P.rises) rb fun l => ⟨hsub l, fun hl => (P.labels l).2 ⟨m', m1, m2, by rw [q1, f3]; exact hl⟩⟩⟩
     ·exact .inl rfl
    ·have hi' : i < (zAB U x).args.length := by simpa using hi
     have hil : i < (zAB U x).labels.length := by rw [P.len]; exact hi'
     obtain ⟨m', m1, m2, m3⟩ := (P.labels _).1 (List.getElem_mem hil)
     obtain ⟨p, hp, hpe⟩ := List.mem_iff_getElem.1 m3
     have hpl : (zAB G m').labels[p]? = some (zAB U x).labels[i] := by rw [zgG hp, hpe]
     have hval := P.args i _ (zgG hil) m' p m1 m2 hpl
     obtain ⟨c, mc, kc, hcb, f3, _⟩ := look m' m1 m2
     obtain ⟨i', hi1, hm⟩ := mc.obj cG cg ch ct e K1 K2 m2 hpl
     have hi1b : (zAB t b).labels[i']? = some (zAB U x).labels[i] := by rw [<- f3]; exact hi1
     have hidx : idxI { zAB U x with args := (zAB U x).args.map fun a => (zBy (zAN U) a : Int) } (zAB t b) i = i' := by
      rw [idxI, if_pos (by show ((zAB U x).kind == 3) = true; rw [P.kind]; rfl), List.getD]
      show bsAt _ (((zAB U x).labels[i]?).getD []) = i'
      rw [zgG hil, Option.getD_some]
      exact (zJG rb hi1b).1
     have hib' : i' < (zAB t b).args.length := by rw [<- lb]; exact (zgS.1 hi1b).1
     rw [hidx]
     refine ⟨hib', ?_⟩
     have hget : ((zAB U x).args.map fun a => (zBy (zAN U) a : Int)).getD i 0 = qT U ((zAB U x).args.getD i 0) := by
      simp only [List.getD, zgM, zgG hi']; rfl
     show (fun z b => Rch t b /\ ∃ x b', Rch U x /\ z = qT U x /\ Mtt g h k j T1 T2 x b' /\ clAt (zAH t) b' = clAt (zAH t) b) (((zAB U x).args.map fun a => (zBy (zAN U) a : Int)).getD i 0) _
     rw [hget]
     have hpa : p < (zAB G m').args.length := by rw [<- (zBq cG (hin m1) m2).1]; exact hp
     refine harg (zBV hi') (zAr (zAh cG (hin m1)) _ (zBV hpa)) hval hm ?_ (zDA hb hib')
     obtain ⟨_, _, _, _, _, f6, _⟩ := zEZ ct (inT mc) hib hcb
     exact f6 i' (by rw [<- (zBq ct (inT mc) kc).1]; exact (zgS.1 hi1).1)
   ·have hv := O.var x (inG hx) fun m hm => by
     rcases zAM (zAh cG (hin hm)) with ⟨q, _⟩ | ⟨q, _⟩ | ⟨q, _⟩
     ·exact q
     ·exact absurd ⟨m, hm, q⟩ h2
     ·exact absurd ⟨m, hm, q⟩ h3
    rw [hv]; exact .inl rfl
 ·rintro _ b c ⟨hb, x, b', hx, rfl, mx, hbb⟩ ⟨hc, x', c', hx', he, mx', hcc⟩ hf
  have hfU : zAV (zAB U x) = true := by
   have hn := Q.node x hx
   change zAB (zCE U) (qT U x) = _ at hn
   rw [hn] at hf; exact hf
  obtain rfl := Q.inj _ _ hx hx' hfU he
  rw [<- hbb, <- hcc]
  exact Mtt.uniq cG cg ch ct e K1 K2 mx mx'
end
def Ins (g h : Graph) : Prop := ∃ S, InstB g h S
def zBj (g h : Graph) : List Pr := [(g.root, (g.nodes.length : Int) + h.root)]
section
variable {g h k t U : Graph} {R : List Int}
theorem Ins.refl (cg : zAF g = 0) : Ins g g := by
 obtain ⟨_, K⟩ := zOL g cg
 exact (zGI cg cg).1 (zEy cg cg K)
theorem Ins.trans (cg : zAF g = 0) (ch : zAF h = 0) (ck : zAF k = 0) (h1 : Ins g h) (h2 : Ins h k) : Ins g k := by
 obtain ⟨_, K⟩ := (zGI cg ch).2 h1
 obtain ⟨_, J⟩ := (zGI ch ck).2 h2
 exact (zGI cg ck).1 (zMh cg ch ck K J)
theorem zPk (cg : zAF g = 0) (ch : zAF h = 0) : zGp g h = true ↔ Ins g h /\ Ins h g := by
 rw [zKq cg ch]
 constructor
 ·rintro ⟨R, K⟩; exact ⟨(zGI cg ch).1 (zEy cg ch K), (zGI ch cg).1 (zEy ch cg K.flip)⟩
 ·rintro ⟨h1, h2⟩
  obtain ⟨S, K⟩ := (zGI cg ch).2 h1
  obtain ⟨T, J⟩ := (zGI ch cg).2 h2
  exact zKr cg ch K J
variable (cg : zAF g = 0) (ch : zAF h = 0) (hs : g.nodes.length + h.nodes.length <= 1048576)
include cg ch hs
theorem zGn : Uni (zAz g h) (zBj g h) (g.root + 0) (zAz g h).root /\ Uni (zAz g h) (zBj g h) (h.root + g.nodes.length) (zAz g h).root := by
 have rg := zAU cg
 have rh := zAU ch
 have i1 : InG (zAz g h) g.root := zLj ⟨rg.1, rg.2.1⟩
 have i2 : InG (zAz g h) (h.root + g.nodes.length) := zLk ⟨rh.1, rh.2.1⟩
 refine ⟨by rw [Int.add_zero]; exact .refl i1, .symm (.pair ?_ i1 i2)⟩
 rw [zBj, Int.add_comm]; exact List.mem_singleton.2 rfl
theorem zJc (ct : zAF t = 0) (h1 : Ins g t) (h2 : Ins h t) : Consi (zAz g h) (zBj g h) := by
 obtain ⟨_, K1⟩ := h1
 obtain ⟨_, K2⟩ := h2
 refine zMz (zCj cg ch hs) cg ch ct (zJN g h) K1 K2 fun p hp => .inl ?_
 rw [List.mem_singleton.1 hp, Int.add_zero, Int.add_comm]
theorem zKZ (ct : zAF t = 0) (h1 : Ins g t) (h2 : Ins h t) (O : UOut (zAz g h) (zBj g h) U R) : Ins (zCE U) t := by
 obtain ⟨_, K1⟩ := h1
 obtain ⟨_, K2⟩ := h2
 refine zPv (zCj cg ch hs) cg ch ct (zJN g h) K1 K2 O (fun p hp => .inl ?_) (zGn cg ch hs).1
 rw [List.mem_singleton.1 hp, Int.add_zero, Int.add_comm]
theorem zHp (O : UOut (zAz g h) (zBj g h) U R) : Ins g (zCE U) /\ Ins h (zCE U) := by
 have E := zJN g h
 exact ⟨zKY (zCj cg ch hs) cg O E.inl E.nl (zGn cg ch hs).1, zKY (zCj cg ch hs) ch O E.inr E.nr (zGn cg ch hs).2⟩
omit hs in
theorem zKa (hs : g.nodes.length + h.nodes.length <= 1048576) (O : UOut (zAz g h) (zBj g h) U R) : zAF (zCE U) = 0 := (zHT (O.check (zCj cg ch hs))).check
end
end Go.Ab.S
end
section
namespace Go.Ab.S
open Go Go.Ab
set_option maxHeartbeats 1000000
section
variable {g U : Graph} {ps : List Pr} {R : List Int}
theorem Uni.mono {ps' : List Pr} (h : ∀ p ∈ ps, p ∈ ps') {a b : Int} (u : Uni g ps a b) : Uni g ps' a b := by
 induction u with
 | refl h1 => exact .refl h1
 | symm _ ih => exact .symm ih
 | trans _ _ h1 h2 => exact .trans h1 h2
 | pair hp h1 h2 => exact .pair (h _ hp) h1 h2
 | con _ ka kb hn hi ih => exact .con ih ka kb hn hi
 | obj _ ka kb hi hj ih => exact .obj ih ka kb hi hj
theorem zRy (hc : zAF g = 0) {a : Int} (ha : InG g a) : (zAB g a).kind = 1 \/ (zAB g a).kind = 2 \/ (zAB g a).kind = 3 := by
 rcases zAM (zAh hc ha) with ⟨q, _⟩ | ⟨q, _⟩ | ⟨q, _⟩
 ·exact .inl q
 ·exact .inr (.inl q)
 ·exact .inr (.inr q)
theorem UOut.inU (O : UOut g ps U R) {a : Int} : InG U a ↔ InG g a := by rw [InG, InG, O.lenU]
theorem UOut.idem (hc : zAF g = 0) (O : UOut g ps U R) {a : Int} (h : InG g a) : clAt R (clAt R a) = clAt R a := (O.eq hc (O.rep a h).1).symm
theorem UOut.cases (hc : zAF g = 0) (O : UOut g ps U R) {a : Int} (h : InG g a) : ((zAB U a).kind = 1 /\ ∀ m, Uni g ps a m -> (zAB g m).kind = 1) \/ ((zAB U a).kind = 2 /\ ∃ m, Uni g ps a m /\ (zAB g m).kind = 2) \/ ((zAB U a).kind = 3 /\ ∃ m, Uni g ps a m /\ (zAB g m).kind = 3) := by
 by_cases h2 : ∃ m, Uni g ps a m /\ (zAB g m).kind = 2
 ·obtain ⟨m, h3, h4⟩ := h2
  exact .inr (.inl ⟨by rw [O.con a m h3 h4], m, h3, h4⟩)
 ·by_cases h3 : ∃ m, Uni g ps a m /\ (zAB g m).kind = 3
  ·obtain ⟨m, h3, h4⟩ := h3
   exact .inr (.inr ⟨(O.obj a m h3 h4).kind, m, h3, h4⟩)
  ·have hv : ∀ m, Uni g ps a m -> (zAB g m).kind = 1 := fun m hm => by
    rcases zRy hc (hm.inG hc).2 with q | q | q
    ·exact q
    ·exact absurd ⟨m, hm, q⟩ h2
    ·exact absurd ⟨m, hm, q⟩ h3
   exact .inl ⟨by rw [O.var a h hv], hv⟩
theorem UOut.oarg (hc : zAF g = 0) (O : UOut g ps U R) {a m : Int} (h : Uni g ps a m) (hk : (zAB g m).kind = 3) {i : Nat} {l : List Nat} (hl : (zAB U a).labels[i]? = some l) : ∃ m' p, Uni g ps a m' /\ (zAB g m').kind = 3 /\ (zAB g m').labels[p]? = some l /\ (zAB U a).args.getD i 0 = clAt R ((zAB g m').args.getD p 0) /\ InG g ((zAB g m').args.getD p 0) := by
 have P := O.obj a m h hk
 obtain ⟨m', m1, m2, m3⟩ := (P.labels l).1 (List.mem_of_getElem? hl)
 obtain ⟨p, hp, hpe⟩ := List.mem_iff_getElem.1 m3
 have hpl : (zAB g m').labels[p]? = some l := by rw [zgG hp, hpe]
 have hin := (m1.inG hc).2
 exact ⟨m', p, m1, m2, hpl, P.args i l hl m' p m1 m2 hpl, zAr (zAh hc hin) _ (zBV (by rw [<- (zBq hc hin m2).1]; exact hp))⟩
theorem UOut.arg (hc : zAF g = 0) (O : UOut g ps U R) {a b : Int} (h : InG g a) (hb : b ∈ (zAB U a).args) : ∃ z, InG g z /\ b = clAt R z := by
 rcases O.cases hc h with ⟨_, hv⟩ | ⟨_, m, h1, h2⟩ | ⟨_, m, h1, h2⟩
 ·rw [O.var a h hv] at hb; cases hb
 ·rw [O.con a m h1 h2] at hb
  obtain ⟨z, hz, rfl⟩ := List.mem_map.1 hb
  exact ⟨z, zAr (zAh hc (h1.inG hc).2) _ hz, rfl⟩
 ·obtain ⟨i, hi, rfl⟩ := List.mem_iff_getElem.1 hb
  have hil : i < (zAB U a).labels.length := by rw [(O.obj a m h1 h2).len]; exact hi
  obtain ⟨m', p, _, _, _, h3, h4⟩ := O.oarg hc h1 h2 (zgG hil)
  rw [List.getD, zgG hi, Option.getD_some] at h3
  exact ⟨_, h4, h3⟩
theorem UOut.rch (hc : zAF g = 0) (O : UOut g ps U R) {a : Int} (h : Rch U a) : ∃ z, InG g z /\ a = clAt R z := by
 have cU := O.check hc
 cases h with
 | root => exact ⟨g.root, ⟨(zAU hc).1, (zAU hc).2.1⟩, O.root⟩
 | step hr hb => exact O.arg hc (O.inU.1 (hr.ok cU)) hb
theorem UOut.rch' (hc : zAF g = 0) (O : UOut g ps U R) {a : Int} (h : Rch U a) : clAt R a = a := by
 obtain ⟨z, hz, rfl⟩ := O.rch hc h
 exact O.idem hc hz
end
structure Stage (g : Graph) (ps1 ps : List Pr) (D : Graph) (R1 : List Int) (rest : List Pr) : Prop where
 sub : ∀ p ∈ ps1, p ∈ ps
 sound : ∀ p ∈ rest, Uni g ps p.1 p.2
 full : ∀ p ∈ ps, InG g p.1 -> InG g p.2 -> Uni D rest (clAt R1 p.1) (clAt R1 p.2)
section
variable {g D U X : Graph} {ps1 ps rest : List Pr} {R1 R RX : List Int} (hc : zAF g = 0) (O1 : UOut g ps1 D R1) (S : Stage g ps1 ps D R1 rest)
include hc O1 S
end
end Go.Ab.S
end
section
namespace Go.Ab.S
open Go Go.Ab
set_option maxHeartbeats 1000000
def sgV (x y a : Int) : Int := if a = x then y else a
def putV (x y : Int) (n : Node) : Node := { n with args := n.args.map (sgV x y) }
def putG (g : Graph) (x y : Int) : Graph := ⟨g.nodes.map (putV x y), sgV x y g.root⟩
section
variable {g U : Graph} {R : List Int} {x y : Int} (hc : zAF g = 0) (hx : InG g x) (hy : InG g y) (hv : (zAB g x).kind = 1)
include hc hx hy hv
theorem zLf {a b : Int} (h : Uni g [(x, y)] a b) : a = b \/ ((a = x \/ a = y) /\ (b = x \/ b = y)) := by
 induction h with
 | refl _ => exact .inl rfl
 | symm _ ih =>
  rcases ih with h | h
  ·exact .inl h.symm
  ·exact .inr h.symm
 | trans _ _ h1 h2 =>
  rcases h1 with rfl | h1
  ·exact h2
  ·rcases h2 with rfl | h2
   ·exact .inr h1
   ·exact .inr ⟨h1.1, h2.2⟩
 | pair hp _ _ => cases List.mem_singleton.1 hp; exact .inr ⟨.inl rfl, .inr rfl⟩
 | @con a b i hab ka kb hn hi ih =>
  rcases ih with rfl | ⟨h1, h2⟩
  ·exact .inl rfl
  ·rcases h1 with rfl | rfl
   ·omega
   ·rcases h2 with rfl | rfl
    ·omega
    ·exact .inl rfl
 | @obj a b i j l hab ka kb hi hj ih =>
  have hin := hab.inG hc
  rcases ih with rfl | ⟨h1, h2⟩
  ·rw [zCn (zBq hc hin.1 ka).2.1 hi hj]; exact .inl rfl
  ·rcases h1 with rfl | rfl
   ·omega
   ·rcases h2 with rfl | rfl
    ·omega
    ·rw [zCn (zBq hc hin.1 ka).2.1 hi hj]; exact .inl rfl
theorem zOX : Consi g [(x, y)] := by
 intro a b h
 rcases zLf hc hx hy hv h with rfl | ⟨h1, h2⟩
 ·exact .inr (.inr ⟨rfl, rfl, fun _ => ⟨fun _ l hl => hl, fun _ l hl => hl⟩⟩)
 ·rcases h1 with rfl | rfl
  ·exact .inl hv
  ·rcases h2 with rfl | rfl
   ·exact .inr (.inl hv)
   ·exact .inr (.inr ⟨rfl, rfl, fun _ => ⟨fun _ l hl => hl, fun _ l hl => hl⟩⟩)
theorem zRT (O : UOut g [(x, y)] U R) : clAt R x = min x y /\ clAt R y = min x y := by
 have hp : Uni g [(x, y)] x y := .pair (by simp) hx hy
 have h1 := O.rep x hx
 have h2 := h1.2 _ (.refl hx)
 have h3 := h1.2 _ hp
 have h4 := O.eq hc hp
 have h5 := zLf hc hx hy hv h1.1
 omega
theorem zOI : (putG g x y).nodes.length = g.nodes.length := by simp [putG]
theorem zML {a : Int} (ha : InG g a) : zAB (putG g x y) a = putV x y (zAB g a) := by
 have h1 := ha.1; have h2 := ha.2
 have hi : a.toNat < g.nodes.length := by omega
 simp only [zAB, putG, List.getD, zgM, zgG hi]; rfl
theorem zKi : zAF (putG g x y) = 0 := by
 obtain ⟨r0, r1, r2, r3⟩ := zAU hc
 have hl := zOI hc hx hy hv
 have hs : ∀ a, InG g a -> InG g (sgV x y a) := fun a ha => by
  rw [sgV]; split
  ·exact hy
  ·exact ha
 have hr := hs g.root ⟨r0, r1⟩
 refine zEu hr.1 (by rw [hl]; exact hr.2) (by rw [hl]; exact r2) fun n hn => ?_
 rw [hl]
 obtain ⟨m, hm, rfl⟩ := List.mem_map.1 hn
 exact zHo (r3 m hm) (sgV x y) fun a ha => hs a (zAr (r3 m hm) a ha)
theorem zPy (O : UOut g [(x, y)] U R) : ∃ T, SameR U (putG g x y) T := by
 have cU := O.check hc
 have cP := zKi hc hx hy hv
 have hl := zOI hc hx hy hv
 have uni := @zLf g x y hc hx hy hv
 have hp : Uni g [(x, y)] x y := .pair (by simp) hx hy
 have inP : ∀ {a}, Rch (putG g x y) a -> InG g a := fun h => by have := h.ok cP; rw [hl] at this; exact this
 have sg : ∀ {a}, InG g a -> Uni g [(x, y)] a (sgV x y a) := fun {a} ha => by
  rw [sgV]; split
  ·rename_i h; rw [h]; exact hp
  ·exact .refl ha
 have notx : ∀ {v}, Rch (putG g x y) v -> v = x -> x = y := by
  intro v hv' e
  have : ∃ z, v = sgV x y z := by
   cases hv' with
   | root => exact ⟨g.root, rfl⟩
   | @step a b hr hb =>
    rw [zML hc hx hy hv (inP hr)] at hb
    obtain ⟨z, _, rfl⟩ := List.mem_map.1 hb
    exact ⟨z, rfl⟩
  obtain ⟨z, rfl⟩ := this
  rw [sgV] at e
  split at e
  ·exact e.symm
  ·rename_i h; exact absurd e h
 -- but for variables there is but the node itself
 have only : ∀ {v m}, Rch (putG g x y) v -> Uni g [(x, y)] v m -> (zAB g m).kind ≠ 1 -> m = v := by
  intro v m hv' h hk
  rcases uni h with h | ⟨h1, h2⟩
  ·exact h.symm
  ·have hmy : m = y := by
    rcases h2 with rfl | h2
    ·exact absurd hv hk
    ·exact h2
   rcases h1 with h1 | h1
   ·rw [hmy, h1, notx hv' h1]
   ·rw [hmy, h1]
 refine ⟨fun u v => Rch U u /\ Rch (putG g x y) v /\ Uni g [(x, y)] u v, ⟨.root, .root, ?_⟩, fun u v h => ⟨h.1.ok cU, h.2.1.ok cP⟩, ?_, ?_, ?_⟩
 ·have hr : InG g g.root := ⟨(zAU hc).1, (zAU hc).2.1⟩
  rw [O.root]
  exact (O.rep _ hr).1.symm.trans (sg hr)
 ·rintro u v ⟨hu, hvv, huv⟩
  have hiv := inP hvv
  have hiu := O.inU.1 (hu.ok cU)
  have hn := zML hc hx hy hv hiv
  have argS : ∀ {i : Nat}, i < (zAB U u).args.length -> ∀ hi' : i < (zAB g v).args.length, (zAB U u).args.getD i 0 = clAt R ((zAB g v).args.getD i 0) -> Rch U ((zAB U u).args.getD i 0) /\ Rch (putG g x y) (((zAB g v).args.map (sgV x y)).getD i 0) /\ Uni g [(x, y)] ((zAB U u).args.getD i 0) (((zAB g v).args.map (sgV x y)).getD i 0) := by
   intro i hi hi' he
   have hz := zAr (zAh hc hiv) _ (zBV hi')
   have e2 : ((zAB g v).args.map (sgV x y)).getD i 0 = sgV x y ((zAB g v).args.getD i 0) := by simp only [List.getD, zgM, zgG hi']; rfl
   refine ⟨.step hu (zBV hi), .step hvv ?_, ?_⟩
   ·rw [hn]; exact zBV (by simpa [putV] using hi')
   ·rw [he, e2]; exact (O.rep _ hz).1.symm.trans (sg hz)
  rw [hn]
  rcases zRy hc hiv with hk | hk | hk
  ·have hall : ∀ m, Uni g [(x, y)] u m -> (zAB g m).kind = 1 := fun m hm => by
    apply Classical.byContradiction
    intro h
    rw [only hvv (huv.symm.trans hm) h] at h; exact h hk
   rcases zAM (zAh hc hiv) with ⟨_, q2, q3, q4, q5⟩ | ⟨q, _⟩ | ⟨q, _⟩
   ·rw [O.var u hiu hall]
    exact ⟨hk.symm, q4.symm, q3.symm, q2.symm, by show (0 : Nat) = ((zAB g v).args.map (sgV x y)).length; rw [q5]; rfl, fun i hi => by cases hi⟩
   ·omega
   ·omega
  ·have hU := O.con u v huv hk
   rcases zAM (zAh hc hiv) with ⟨q, _⟩ | ⟨_, q2, q3, _⟩ | ⟨q, _⟩
   ·omega
   ·refine ⟨by rw [hU]; exact hk.symm, by rw [hU]; rfl, by rw [hU]; exact q3.symm, by rw [hU]; exact q2.symm, by rw [hU]; simp [putV], fun i hi => ?_⟩
    have hi' : i < (zAB g v).args.length := by rw [hU] at hi; simpa using hi
    exact argS hi hi' (by rw [hU]; simp only [List.getD, zgM, zgG hi']; rfl)
   ·omega
  ·have P := O.obj u v huv hk
   obtain ⟨z1, z2, z3⟩ := zBq hc hiv hk
   have hon : ∀ {m}, Uni g [(x, y)] u m -> (zAB g m).kind = 3 -> m = v := fun hm hk' => only hvv (huv.symm.trans hm) (by omega)
   have hlab : (zAB U u).labels = (zAB g v).labels := zEL (zBC P.rises) z2 fun l => by
    rw [P.labels]
    constructor
    ·rintro ⟨m, m1, m2, m3⟩; rw [hon m1 m2] at m3; exact m3
    ·intro h; exact ⟨v, huv, hk, h⟩
   refine ⟨by rw [P.kind]; exact hk.symm, by rw [P.name]; exact z3.symm, ?_, hlab, by rw [<- P.len, hlab, z1]; simp [putV], fun i hi => ?_⟩
   ·show (zAB U u).isOpen = (zAB g v).isOpen
    rw [Bool.eq_iff_iff, P.isOpen]
    exact ⟨fun h => h v huv hk, fun h m m1 m2 => by rw [hon m1 m2]; exact h⟩
   ·have hi' : i < (zAB g v).args.length := by rw [<- z1, <- hlab, P.len]; exact hi
    have hil : i < (zAB g v).labels.length := by omega
    exact argS hi hi' (P.args i _ (by rw [hlab]; exact zgG hil) v i huv hk (zgG hil))
 ·rintro u v v' ⟨_, h1, k1⟩ ⟨_, h2, k2⟩ _
  rcases uni (k1.symm.trans k2) with h | ⟨q1, q2⟩
  ·exact h
  ·rcases q1 with q1 | q1 <;> rcases q2 with q2 | q2
   ·rw [q1, q2]
   ·rw [q1, q2, notx h1 q1]
   ·rw [q1, q2, <- notx h2 q2]
   ·rw [q1, q2]
 ·rintro u u' v ⟨h1, _, k1⟩ ⟨h2, _, k2⟩ _
  have := O.eq hc (k1.trans k2.symm)
  rwa [O.rch' hc h1, O.rch' hc h2] at this
end
end Go.Ab.S
end
section
namespace Go.Ab.S
open Go Go.Ab
set_option maxHeartbeats 1000000
def Bd (A : Nat) (S : List (List Nat)) (g : Graph) : Prop := ∀ n ∈ g.nodes, (n.kind = 2 -> n.args.length <= A) /\ ∀ l ∈ n.labels, l ∈ S
section
variable {A : Nat} {S : List (List Nat)} {g h U : Graph} {ps : List Pr} {R : List Int}
theorem Bd.row (hc : zAF g = 0) (B : Bd A S g) {n : Node} (hn : n ∈ g.nodes) : n.args.length <= max A S.length /\ n.labels.length <= S.length := by
 obtain ⟨b1, b2⟩ := B n hn
 rcases zAM ((zBB hc).2 n hn) with ⟨_, q2, _, _, q5⟩ | ⟨q1, q2, _⟩ | ⟨_, _, q3, q4⟩
 ·rw [q2, q5]; simp
 ·rw [q2]; have := b1 q1; simp; omega
 ·have h1 := zCp n.labels S (zGl (zBC q4)) b2
  omega
theorem Bd.node (B : Bd A S g) {a : Int} (ha : InG g a) : ((zAB g a).kind = 2 -> (zAB g a).args.length <= A) /\ ∀ l ∈ (zAB g a).labels, l ∈ S := B _ (zFC ha)
theorem Bd.left (hc : zAF g = 0) (B : Bd A S g) : zAj [] g.nodes 0 <= g.nodes.length * max A S.length := by
 rw [zCH]
 have : ∀ ns : List Node, (∀ n ∈ ns, n.args.length <= max A S.length) -> (ns.map fun n => n.args.length).sum <= ns.length * max A S.length := by
  intro ns
  induction ns with
  | nil => intro _; simp
  | cons n r ih =>
   intro h
   have h1 := ih fun m hm => h m (by simp [hm])
   have h2 := h n (by simp)
   simp only [List.map_cons, List.sum_cons, zlC, Nat.succ_mul]; omega
 exact this g.nodes fun n hn => (B.row hc hn).1
theorem Bd.gsm (hc : zAF g = 0) (B : Bd A S g) (hS : S.length <= 2 ^ 30) (hT : ∀ s ∈ S, s.length < 2 ^ 60) (hz : g.nodes.length + g.nodes.length * max A S.length <= 2 ^ 30) : GSm g := by
 have e30 : (2 : Nat) ^ 30 = 1073741824 := by decide
 have e60 : (2 : Nat) ^ 60 = 1152921504606846976 := by decide
 have hL := B.left hc
 refine ⟨⟨by omega, fun n hn => ?_⟩, by omega, fun n hn => ?_⟩
 ·obtain ⟨h1, h2⟩ := B.row hc hn
  have h3 := zDQ g.nodes 0 n hn
  exact ⟨by omega, by omega, fun s hs => hT s ((B n hn).2 s hs)⟩
 ·have := (B.row hc hn).2; omega
theorem Bd.gti (hc : zAF g = 0) (B : Bd A S g) (hN : g.nodes.length <= 4096) (hA : A <= 4096) (hS : S.length <= 4096) (hT : ∀ s ∈ S, s.length < 2 ^ 60) : GTi g := by
 have e30 : (2 : Nat) ^ 30 = 1073741824 := by decide
 have h1 : g.nodes.length * max A S.length <= 4096 * 4096 := Nat.mul_le_mul hN (by omega)
 exact ⟨B.gsm hc (by omega) hT (by omega), hN, fun n hn => by have := (B.row hc hn).1; omega⟩
theorem Bd.mono {A' : Nat} {S' : List (List Nat)} (B : Bd A S g) (hA : A <= A') (hS : ∀ s ∈ S, s ∈ S') : Bd A' S' g := fun n hn => ⟨fun k => Nat.le_trans ((B n hn).1 k) hA, fun l hl => hS l ((B n hn).2 l hl)⟩
theorem Bd.uni (hc : zAF g = 0) (B : Bd A S g) (O : UOut g ps U R) : Bd A S U := by
 intro n hn
 obtain ⟨k, hk, rfl⟩ := List.mem_iff_getElem.1 hn
 have ha : InG g (k : Int) := ⟨by omega, by rw [O.lenU] at hk; omega⟩
 have hnd : zAB U (k : Int) = U.nodes[k] := by simp [zAB, hk]
 rw [<- hnd]
 rcases O.cases hc ha with ⟨q, hv⟩ | ⟨q, m, h1, h2⟩ | ⟨q, m, h1, h2⟩
 ·rw [O.var _ ha hv]
  exact ⟨fun h => by simp at h, fun l hl => by simp at hl⟩
 ·rw [O.con _ m h1 h2]
  exact ⟨fun _ => by rw [List.length_map]; exact (B.node (h1.inG hc).2).1 h2, fun l hl => by simp at hl⟩
 ·refine ⟨fun h => by omega, fun l hl => ?_⟩
  obtain ⟨m', k1, k2, k3⟩ := ((O.obj _ m h1 h2).labels l).1 hl
  exact (B.node (k1.inG hc).2).2 l k3
theorem Bd.both (B : Bd A S g) (B' : Bd A S h) : Bd A S (zAz g h) := by
 intro n hn
 rcases List.mem_append.1 hn with hn | hn
 ·exact B n hn
 ·obtain ⟨m, hm, rfl⟩ := List.mem_map.1 hn
  exact ⟨fun k => by have := (B' m hm).1 k; simpa [shN] using this, fun l hl => (B' m hm).2 l hl⟩
theorem Bd.trim (hc : zAF g = 0) (B : Bd A S g) : Bd A S (zCE g) := by
 intro n hn
 obtain ⟨i, hi, rfl⟩ := List.mem_map.1 hn
 obtain ⟨k1, k2⟩ := (zCc g).1 i hi
 have hb := B.node (a := i) ⟨k1, k2⟩
 exact ⟨fun k => by have := hb.1 k; simpa [zEs] using this, fun l hl => hb.2 l hl⟩
def zJY (g : Graph) : List (List Nat) := g.nodes.flatMap (·.labels)
theorem Bd.self (g : Graph) : Bd (zAj [] g.nodes 0) (zJY g) g := fun n hn => ⟨fun _ => zDQ _ _ n hn, fun l hl => List.mem_flatMap.2 ⟨n, hn, hl⟩⟩
theorem zGK (hc : zAF g = 0) : (zJY g).length <= zAj [] g.nodes 0 := by
 rw [zCH, zJY, List.length_flatMap]
 have : ∀ ns : List Node, (∀ n ∈ ns, mayF n g.nodes.length = true) -> (ns.map fun n => n.labels.length).sum <= (ns.map fun n => n.args.length).sum := by
  intro ns
  induction ns with
  | nil => intro _; exact Nat.le_refl _
  | cons n r ih =>
   intro h
   have h2 := ih fun n hn => h n (by simp [hn])
   have h3 : n.labels.length <= n.args.length := by
    rcases zAM (h n (by simp)) with ⟨_, q, _⟩ | ⟨_, q, _⟩ | ⟨_, _, q, _⟩
    ·rw [q]; simp
    ·rw [q]; simp
    ·omega
   simp only [List.map_cons, List.sum_cons]; omega
 exact this g.nodes (zBB hc).2
theorem zHN (hg : GraphSm g) : ∀ s ∈ zJY g, s.length < 2 ^ 60 := fun s hs => by
 obtain ⟨n, hn, hl⟩ := List.mem_flatMap.1 hs
 exact (hg.all n hn).texts s hl
theorem UOut.gsm (hc : zAF g = 0) (hg : GTi g) (hz : (g.nodes.length + 1) * (zAj [] g.nodes 0 + 1) <= 2 ^ 30) (O : UOut g ps U R) : GSm U := by
 have h1 := zGK hc
 have h2 := (Bd.self g).uni hc O
 have hm : max (zAj [] g.nodes 0) (zJY g).length = zAj [] g.nodes 0 := by omega
 have e30 : (2 : Nat) ^ 30 = 1073741824 := by decide
 have ht := hg.total
 refine h2.gsm (O.check hc) (by omega) (zHN hg.toGraphSm) ?_
 rw [hm, O.lenU]
 rw [Nat.succ_mul, Nat.mul_succ] at hz
 omega
end
theorem zPd (g : Graph) : (zAN g).length <= g.nodes.length := by
 have h := zCp (zAN g) (zGJ g.nodes.length) (zCc g).2 fun a ha => by
  obtain ⟨h1, h2⟩ := (zCc g).1 a ha
  exact List.mem_map.2 ⟨a.toNat, List.mem_range.2 (by omega), by omega⟩
 simpa [zGJ] using h
theorem zRP (g : Graph) : (zCE g).nodes.length <= g.nodes.length := by
 have := zPd g
 simpa [zCE] using this
end Go.Ab.S
end
