import Derived.Test.YtpmndmiohaaokaaGreatDoorP11
/-
  Part 12 of the proof.
-/
set_option linter.all false
section
namespace Go.Ab.S
open Go.Ab
set_option maxHeartbeats 1000000
def zCV (k : List Nat) : List (List Nat) -> Nat
 | [] => 0
 | x :: r => if eqL k x then 0 else zCV k r + 1
theorem zCY {k : List Nat} : ∀ {l : List (List Nat)}, k ∈ l -> l[zCV k l]? = some k /\ ∀ j, j < zCV k l -> l[j]? ≠ some k
 | [], h => by cases h
 | x :: r, h => by
  rw [zCV]
  by_cases hk : k = x
  ·rw [if_pos (zBJ.2 hk)]
   exact ⟨by rw [hk]; rfl, fun j hj => by omega⟩
  ·rw [if_neg (by rw [zBJ]; exact hk)]
   have hr : k ∈ r := by
    rcases List.mem_cons.1 h with h | h
    ·exact absurd h hk
    ·exact h
   obtain ⟨h1, h2⟩ := zCY hr
   refine ⟨by simpa using h1, fun j hj => ?_⟩
   cases j with
   | zero => simp; exact fun e => hk e.symm
   | succ j => simpa using h2 j (by omega)
theorem zIp {k : List Nat} {l : List (List Nat)} {i : Nat} (h : l[i]? = some k) : zCV k l <= i := by
 rcases Nat.lt_or_ge i (zCV k l) with hlt | hge
 ·exact absurd h ((zCY (List.mem_of_getElem? h)).2 i hlt)
 ·exact hge
def zJd (ns : List Node) (cl : List Int) : List (List Nat) := (List.range ns.length).map fun i => keyS cl i (ns.getD i zAo)
def zBd (ns : List Node) (cl : List Int) : List Int := (zJd ns cl).map fun k => (zCV k (zJd ns cl) : Int)
def zDE (ns : List Node) : Nat -> List Int -> List Int
 | 0, cl => cl
 | m + 1, cl => if eqII (zBd ns cl) cl then zBd ns cl else zDE ns m (zBd ns cl)
def zAH (g : Graph) : List Int := zDE g.nodes (g.nodes.length + 1) (List.replicate g.nodes.length 0)
def mapN (cl : List Int) (n : Node) : Node := { n with args := n.args.map (clAt cl) }
def zAv (g : Graph) : Graph := if zAF g = 0 then zCE ⟨g.nodes.map (mapN (zAH g)), clAt (zAH g) g.root⟩ else ⟨[], 0⟩

theorem zNw (ns : List Node) (cl : List Int) : (zJd ns cl).length = ns.length := by simp [zJd]
theorem zEH {ns : List Node} {cl : List Int} {i : Nat} (h : i < ns.length) : (zJd ns cl)[i]? = some (keyS cl i (ns.getD i zAo)) := by
 simp [zJd, h]
theorem zEk (ns : List Node) (cl : List Int) : (zBd ns cl).length = ns.length := by simp [zBd, zNw]
theorem zCn (cl : List Int) (i : Nat) : clAt cl (i : Int) = cl.getD i 0 := rfl
theorem zGr {ns : List Node} {cl : List Int} {i : Nat} (h : i < ns.length) : clAt (zBd ns cl) (i : Int) = (zCV (keyS cl i (ns.getD i zAo)) (zJd ns cl) : Int) := by
 rw [zCn, List.getD, zBd, List.getElem?_map, zEH h]; rfl
structure ClsOK (N : Nat) (cl : List Int) : Prop where
 len : cl.length = N
 le : ∀ i : Nat, i < N -> ∃ j : Nat, clAt cl i = j /\ j <= i /\ clAt cl j = j
theorem ClsOK.inR {N : Nat} {cl : List Int} (k : ClsOK N cl) (hN : N < 2 ^ 60) (a : Int) : InR (clAt cl a) := by
 by_cases h : a.toNat < N
 ·obtain ⟨j, h1, h2, _⟩ := k.le a.toNat h
  have : clAt cl a = j := h1
  rw [this]; exact ⟨by omega, by omega⟩
 ·have : clAt cl a = 0 := by unfold clAt; rw [List.getD, List.getElem?_eq_none (by rw [k.len]; omega)]; rfl
  rw [this]; exact ⟨by decide, by decide⟩
theorem ClsOK.zero (N : Nat) : ClsOK N (List.replicate N 0) := by
 refine ⟨by simp, fun i hi => ⟨0, ?_, by omega, ?_⟩⟩
 ·rw [zCn, List.getD, List.getElem?_replicate, if_pos hi]; rfl
 ·rw [zCn, List.getD, List.getElem?_replicate]; split <;> rfl
theorem zIE {ns : List Node} {cl : List Int} {i j : Nat} (hi : i < ns.length) (hj : j < ns.length) : clAt (zBd ns cl) i = clAt (zBd ns cl) j ↔ keyS cl i (ns.getD i zAo) = keyS cl j (ns.getD j zAo) := by
 rw [zGr hi, zGr hj]
 have mi := List.mem_of_getElem? (zEH (cl := cl) hi)
 have mj := List.mem_of_getElem? (zEH (cl := cl) hj)
 constructor
 ·intro h
  have h : zCV (keyS cl i (ns.getD i zAo)) (zJd ns cl) = zCV (keyS cl j (ns.getD j zAo)) (zJd ns cl) := by omega
  have h1 := (zCY mi).1
  rw [h, (zCY mj).1] at h1
  exact (Option.some.inj h1).symm
 ·intro h; rw [h]
theorem zIF {ns : List Node} {cl : List Int} {i : Nat} (hi : i < ns.length) : ∃ j : Nat, clAt (zBd ns cl) i = j /\ j <= i /\ keyS cl j (ns.getD j zAo) = keyS cl i (ns.getD i zAo) := by
 have mi := List.mem_of_getElem? (zEH (cl := cl) hi)
 have hle := zIp (zEH (cl := cl) hi)
 refine ⟨_, zGr hi, hle, ?_⟩
 have h1 := (zCY mi).1
 rw [zEH (by omega)] at h1
 exact Option.some.inj h1
theorem ClsOK.refine (ns : List Node) (cl : List Int) : ClsOK ns.length (zBd ns cl) := by
 refine ⟨zEk _ _, fun i hi => ?_⟩
 obtain ⟨j, h1, h2, h3⟩ := zIF (cl := cl) hi
 exact ⟨j, h1, h2, by rw [(zIE (i := j) (by omega) hi).2 h3]; exact h1⟩

theorem zHe {α : Type} {p q : α -> Bool} : ∀ {l : List α}, (∀ x ∈ l, p x = true -> q x = true) -> (∃ x ∈ l, p x = false /\ q x = true) -> l.countP p < l.countP q
 | [], _, h => by obtain ⟨x, hx, _⟩ := h; cases hx
 | y :: l, h, hx => by
  have hle : l.countP p <= l.countP q := List.countP_mono_left fun x hx => h x (by simp [hx])
  obtain ⟨x, hx, h1, h2⟩ := hx
  rcases List.mem_cons.1 hx with rfl | hx
  ·simp only [List.countP_cons, h1, h2]; simp; omega
  ·have ih := zHe (l := l) (fun x hx => h x (by simp [hx])) ⟨x, hx, h1, h2⟩
   simp only [List.countP_cons]
   have := h y (by simp)
   cases hp : p y <;> cases hq : q y <;> simp <;> first | omega | (rw [this hp] at hq; cases hq)
def fixc (N : Nat) (cl : List Int) : Nat := (List.range N).countP fun i : Nat => clAt cl (i : Int) == (i : Int)
theorem fixc_le (N : Nat) (cl : List Int) : fixc N cl <= N := by
 have := List.countP_le_length (p := fun i : Nat => clAt cl i == (i : Int)) (l := List.range N)
 rwa [List.length_range] at this
def NsOK (ns : List Node) : Prop := ns.length < 2 ^ 60 /\ ∀ n ∈ ns, mayF n ns.length = true
theorem NsOK.at {ns : List Node} (h : NsOK ns) {i : Nat} (hi : i < ns.length) : mayF (ns.getD i zAo) ns.length = true := by
 rw [List.getD, List.getElem?_eq_getElem hi]; exact h.2 _ (List.getElem_mem hi)
theorem zNv {ns : List Node} (hns : NsOK ns) {cl : List Int} (k : ClsOK ns.length cl) {i j : Nat} (hi : i < ns.length) (hj : j < ns.length) (h : keyS cl i (ns.getD i zAo) = keyS cl j (ns.getD j zAo)) :
  clAt cl i = clAt cl j /\ ((zAU (ns.getD i zAo) = true \/ zAU (ns.getD j zAo) = true) -> i = j) /\ (ns.getD i zAo).kind = (ns.getD j zAo).kind /\ (ns.getD i zAo).name = (ns.getD j zAo).name /\ (ns.getD i zAo).labels = (ns.getD j zAo).labels /\ (ns.getD i zAo).args.map (clAt cl) = (ns.getD j zAo).args.map (clAt cl) /\ zAU (ns.getD i zAo) = zAU (ns.getD j zAo) :=
 key_inj (k.inR hns.1) ⟨by omega, by have := hns.1; omega⟩ ⟨by omega, by have := hns.1; omega⟩ (hns.at hi) (hns.at hj) h
theorem zLT {ns : List Node} (hns : NsOK ns) {cl : List Int} (k : ClsOK ns.length cl) (hne : eqII (zBd ns cl) cl = false) : fixc ns.length cl < fixc ns.length (zBd ns cl) := by
 refine zHe (fun i hi hp => ?_) ?_
 ·have hi := List.mem_range.1 hi
  have hp : clAt cl i = (i : Int) := by simpa using hp
  obtain ⟨j, h1, h2, h3⟩ := zIF (cl := cl) hi
  have h4 := (zNv hns k (by omega) hi h3).1
  obtain ⟨j', h5, h6, _⟩ := k.le j (by omega)
  have : j = i := by omega
  subst this
  simpa using h1
 ·apply Classical.byContradiction
  intro hno
  have hall : ∀ i : Nat, i < ns.length -> clAt (zBd ns cl) i = clAt cl i := by
   intro i hi
   obtain ⟨j, h1, h2, h3⟩ := zIF (cl := cl) hi
   have hj : j < ns.length := by omega
   have h4 := (zNv hns k hj hi h3).1
   obtain ⟨j', q1, q2, q3⟩ := (ClsOK.refine ns cl).le i hi
   have : j' = j := by omega
   subst this
   have hfix : clAt cl j' = (j' : Int) := by
    apply Classical.byContradiction
    intro hc
    exact hno ⟨j', List.mem_range.2 hj, by simpa using hc, by simpa using q3⟩
   omega
  have : zBd ns cl = cl := by
   apply List.ext_getElem?
   intro i
   by_cases hi : i < ns.length
   ·have h := hall i hi
    rw [zCn, zCn, List.getD, List.getD, List.getElem?_eq_getElem (by rw [zEk]; exact hi), List.getElem?_eq_getElem (by rw [k.len]; exact hi)] at h
    rw [List.getElem?_eq_getElem (by rw [zEk]; exact hi), List.getElem?_eq_getElem (by rw [k.len]; exact hi)]
    simpa using h
   ·rw [List.getElem?_eq_none (by rw [zEk]; omega), List.getElem?_eq_none (by rw [k.len]; omega)]
  rw [zJV.2 this] at hne; cases hne
theorem zHc {ns : List Node} (hns : NsOK ns) : ∀ (m : Nat) (cl : List Int), ClsOK ns.length cl -> ns.length - fixc ns.length cl < m -> zBd ns (zDE ns m cl) = zDE ns m cl /\ ClsOK ns.length (zDE ns m cl)
 | 0, _, _, h => by omega
 | m + 1, cl, k, h => by
  rw [zDE]
  cases he : eqII (zBd ns cl) cl with
  | true =>
   have := zJV.1 he
   simp only [if_true]
   exact ⟨by rw [this]; exact this, ClsOK.refine ns cl⟩
  | false =>
   simp only [Bool.false_eq_true, if_false]
   have h1 := zLT hns k he
   have h2 := fixc_le ns.length (zBd ns cl)
   exact zHc hns m _ (ClsOK.refine ns cl) (by omega)
def Bis (ns : List Node) (E : Nat -> Nat -> Prop) : Prop := ∀ i j, E i j -> i < ns.length /\ j < ns.length /\ (i = j \/ (zAU (ns.getD i zAo) = false /\ zAU (ns.getD j zAo) = false /\ (ns.getD i zAo).kind = (ns.getD j zAo).kind /\ (ns.getD i zAo).name = (ns.getD j zAo).name /\ (ns.getD i zAo).labels = (ns.getD j zAo).labels /\ (ns.getD i zAo).args.length = (ns.getD j zAo).args.length ∧
 ∀ (k : Nat) (a b : Int), (ns.getD i zAo).args[k]? = some a -> (ns.getD j zAo).args[k]? = some b -> E a.toNat b.toNat))
theorem bis_key {ns : List Node} {E : Nat -> Nat -> Prop} (hE : Bis ns E) {cl : List Int} (hc : ∀ i j, E i j -> clAt cl i = clAt cl j) {i j : Nat} (h : E i j) : keyS cl i (ns.getD i zAo) = keyS cl j (ns.getD j zAo) := by
 obtain ⟨hi, hj, rfl | ⟨h1, h2, h3, h4, h5, h6, h7⟩⟩ := hE i j h
 ·rfl
 ·have ha : (ns.getD i zAo).args.map (clAt cl) = (ns.getD j zAo).args.map (clAt cl) := by
   apply List.ext_getElem?
   intro k
   rw [List.getElem?_map, List.getElem?_map]
   by_cases hk : k < (ns.getD i zAo).args.length
   ·have hk' : k < (ns.getD j zAo).args.length := by omega
    rw [List.getElem?_eq_getElem hk, List.getElem?_eq_getElem hk']
    exact congrArg some (hc _ _ (h7 k _ _ (List.getElem?_eq_getElem hk) (List.getElem?_eq_getElem hk')))
   ·rw [List.getElem?_eq_none (by omega), List.getElem?_eq_none (by omega)]
  have hargs : argS (clAt cl) (ns.getD i zAo).args = argS (clAt cl) (ns.getD j zAo).args := by
   have : ∀ l : List Int, argS (clAt cl) l = ((l.map (clAt cl)).map fun x => 44 :: zFD x).flatten := fun l => by simp [argS, List.map_map]; rfl
   rw [this, this, ha]
  unfold keyS
  rw [hc i j h, h1, h2]
  simp only [zMp, zNs, h3, h4, h5, hargs, Bool.false_eq_true, if_false]
theorem zHB {ns : List Node} {E : Nat -> Nat -> Prop} (hE : Bis ns E) : ∀ (m : Nat) (cl : List Int), (∀ i j, E i j -> clAt cl i = clAt cl j) -> ∀ i j, E i j -> clAt (zDE ns m cl) i = clAt (zDE ns m cl) j
 | 0, _, h => h
 | m + 1, cl, h => by
  have hr : ∀ i j, E i j -> clAt (zBd ns cl) i = clAt (zBd ns cl) j := fun i j hij => (zIE (hE i j hij).1 (hE i j hij).2.1).2 (bis_key hE h hij)
  rw [zDE]
  split
  ·exact hr
  ·exact zHB hE m _ hr
theorem zBA {g : Graph} (h : zAF g = 0) : NsOK g.nodes := by
 obtain ⟨_, _, h1, h2⟩ := zAZ h
 exact ⟨Nat.lt_of_le_of_lt h1 (by decide), h2⟩
theorem zIi {g : Graph} (h : zAF g = 0) : zBd g.nodes (zAH g) = zAH g /\ ClsOK g.nodes.length (zAH g) :=
 zHc (zBA h) _ _ (ClsOK.zero _) (by omega)
theorem zEc {g : Graph} (h : zAF g = 0) {i j : Nat} (hi : i < g.nodes.length) (hj : j < g.nodes.length) (he : clAt (zAH g) i = clAt (zAH g) j) :
  ((zAU (g.nodes.getD i zAo) = true \/ zAU (g.nodes.getD j zAo) = true) -> i = j) /\ (g.nodes.getD i zAo).kind = (g.nodes.getD j zAo).kind /\ (g.nodes.getD i zAo).name = (g.nodes.getD j zAo).name /\ (g.nodes.getD i zAo).labels = (g.nodes.getD j zAo).labels /\ (g.nodes.getD i zAo).args.map (clAt (zAH g)) = (g.nodes.getD j zAo).args.map (clAt (zAH g)) /\ zAU (g.nodes.getD i zAo) = zAU (g.nodes.getD j zAo) := by
 obtain ⟨h1, h2⟩ := zIi h
 rw [<- h1] at he
 exact (zNv (zBA h) h2 hi hj ((zIE hi hj).1 he)).2
theorem zHC {g : Graph} {E : Nat -> Nat -> Prop} (hE : Bis g.nodes E) {i j : Nat} (h : E i j) : clAt (zAH g) i = clAt (zAH g) j :=
 zHB hE _ _ (fun i j hij => by
  obtain ⟨i', h1, h2, h3⟩ := (ClsOK.zero g.nodes.length).le i (hE i j hij).1
  have z : ∀ k : Nat, clAt (List.replicate g.nodes.length 0) k = 0 := fun k => by
   rw [zCn, List.getD, List.getElem?_replicate]; split <;> rfl
  rw [z, z]) _ _ h
end Go.Ab.S
end
section
namespace Go.Ab.S
open Go.Ab
set_option maxHeartbeats 8000000
theorem le31 {n : Nat} (h : n <= 100000) : n <= 2 ^ 31 := Nat.le_trans h (by decide)
structure Hid (p : Prop) : Prop where
 out : p
def tagO : AObj -> Nat
 | .cells _ e _ => e + 5
 | .map _ _ => 0
 | .loop _ _ _ _ _ _ _ => 1
 | .dfr _ => 2
 | .iter _ _ _ _ => 3
 | .iter0 => 4
theorem _root_.Go.Ab.But.kp {b : Nat} {h h' : AHeap} {p q : Nat × AObj} (P : But b h h') (hb : h.objs.get b = some p) {c : Nat} (hc : h.objs.get c = some q) (hne : (tagO p.2 == tagO q.2) = false) : h'.objs.get c = some q :=
 P.keep c (by rintro rfl; rw [hb] at hc; simp only [oI] at hc; rw [hc] at hne; simp at hne) _ hc
section
variable {fns : FnsT} {summ : SumT} {ro : Option Nat}
theorem zBD {i p : Nat} {d : Option Tmp} {op : EOp} {l : List DStep} {hs : List Held} {a : AAct} {h : AHeap} {K : AAct -> AHeap -> Prop} (k : St fns summ ro [⟨d, none, .e op⟩] a h fun a h => zAf h p hs = true /\ Dr fns summ ro l (zGM p hs) a h K) : Dr fns summ ro (⟨i, p, ⟨d, none, .e op⟩⟩ :: l) hs a h K := by
 refine dr_e ?_
 unfold St StepsW Ev at k
 unfold Ex EW Ev
 obtain ⟨n, hn⟩ := k
 refine ⟨n, fun m hm => ?_⟩
 have := hn m hm
 simp only [zGf, zFi, zDY] at this
 rw [D.sat_bind] at this
 exact D.sat_mono this fun p hp => hp
theorem zJz {d : Option Tmp} {x y : AOpd} {l : List Step} {a : AAct} {h : AHeap} {K : AAct -> AHeap -> Prop} {u v : Int} (hx : ev a x = some (.int .i64 u)) (hy : ev a y = some (.int .i64 v)) (k : St fns summ ro l (putA a d (.agg [.int .i64 u, .int .i64 v])) h K) :
  St fns summ ro (⟨d, none, .q (.build [.int .i64 0, .int .i64 0] [(0, 1, x), (1, 1, y)])⟩ :: l) a h K := by
 refine st_q (v := .agg [.int .i64 u, .int .i64 v]) (b := none) ?_ k
 simp [qA, zCw, hx, hy, zAi]
theorem zNV {i p : Nat} {d : Option Tmp} {x y : AOpd} {l : List DStep} {hs : List Held} {a : AAct} {h : AHeap} {K : AAct -> AHeap -> Prop} {u v : Int} (hx : ev a x = some (.int .i64 u)) (hy : ev a y = some (.int .i64 v)) (k : Dr fns summ ro l hs (putA a d (.agg [.int .i64 u, .int .i64 v])) h K) :
  Dr fns summ ro (⟨i, p, ⟨d, none, .q (.build [.int .i64 0, .int .i64 0] [(0, 1, x), (1, 1, y)])⟩⟩ :: l) hs a h K := by
 refine dr_q (v := .agg [.int .i64 u, .int .i64 v]) ?_ k
 simp [qA, zCw, hx, hy, zAi]
end
theorem zFU {kk : KeyK} {x y v : AVal} {c : Nat} : ∀ (es : List (AVal × AVal × Nat)) (i : Nat), zBm kk x es i = some none -> ∀ b, keyA kk x y = some b -> zBm kk x (es ++ [(y, v, c)]) i = some (if b then some (i + es.length, v) else none)
 | [], i, _, b, hk => by
  simp only [zlA, zBm, hk, zlN, Nat.add_zero]
  cases b <;> rfl
 | (y', v', c') :: es, i, h, b, hk => by
  rw [zBm] at h
  rw [zlK, zBm]
  cases hy : keyA kk x y' with
  | none => rw [hy] at h; cases h
  | some t =>
   cases t with
   | true => rw [hy] at h; cases h
   | false =>
    rw [hy] at h
    simp only
    rw [zFU es (i + 1) h b hk, zlC]
    congr 2
    rw [show i + 1 + es.length = i + (es.length + 1) by omega]
theorem zFT {kk : KeyK} {x : AVal} {p : Nat × AVal} {e : AVal × AVal × Nat} : ∀ (es : List (AVal × AVal × Nat)) (i : Nat), zBm kk x es i = some (some p) -> zBm kk x (es ++ [e]) i = some (some p)
 | [], i, h => by cases h
 | (y', v', c') :: es, i, h => by
  rw [zBm] at h
  rw [zlK, zBm]
  cases hy : keyA kk x y' with
  | none => rw [hy] at h; cases h
  | some t =>
   cases t with
   | true => rw [hy] at h; exact h
   | false => rw [hy] at h; exact zFT es (i + 1) h
def FI (es : List (AVal × AVal × Nat)) (keys : List (List Nat)) (j : Nat) : Prop := ∀ k, ∃ i, zBm .str (.str k) es 0 = some (if k ∈ keys.take j then some (i, .int .i64 (zCV k keys : Nat)) else none)
theorem FI.zero (keys : List (List Nat)) : FI [] keys 0 := fun k => ⟨0, by simp [zBm]⟩
theorem FI.stay {es : List (AVal × AVal × Nat)} {keys : List (List Nat)} {j : Nat} (hj : j < keys.length) (h : FI es keys j) (hm : keys[j] ∈ keys.take j) : FI es keys (j + 1) := fun k => by
 obtain ⟨i, hi⟩ := h k
 refine ⟨i, ?_⟩
 rw [hi]
 have : k ∈ keys.take (j + 1) ↔ k ∈ keys.take j := by
  rw [List.take_succ_eq_append_getElem hj, List.mem_append, List.mem_singleton]
  exact ⟨fun h => h.elim id (fun h => h ▸ hm), .inl⟩
 simp only [this]
theorem zNk {keys : List (List Nat)} {j : Nat} (hj : j < keys.length) (hm : keys[j] ∉ keys.take j) : zCV keys[j] keys = j := by
 have h1 := zIp (List.getElem?_eq_getElem hj)
 have h2 := (zCY (List.getElem_mem hj)).1
 rcases Nat.lt_or_ge (zCV keys[j] keys) j with hlt | hge
 ·rw [List.getElem?_eq_getElem (by omega)] at h2
  exact absurd (List.mem_take_iff_getElem.2 ⟨zCV keys[j] keys, by omega, Option.some.inj h2⟩) hm
 ·omega
theorem FI.put {es : List (AVal × AVal × Nat)} {keys : List (List Nat)} {j c : Nat} (hj : j < keys.length) (h : FI es keys j) (hm : keys[j] ∉ keys.take j) : FI (es ++ [(.str keys[j], .int .i64 (j : Nat), c)]) keys (j + 1) := fun k => by
 obtain ⟨i, hi⟩ := h k
 by_cases hk : k ∈ keys.take j
 ·rw [if_pos hk] at hi
  refine ⟨i, ?_⟩
  rw [zFT es 0 hi, if_pos (by rw [List.take_succ_eq_append_getElem hj]; exact List.mem_append.2 (.inl hk))]
 ·rw [if_neg hk] at hi
  refine ⟨0 + es.length, ?_⟩
  rw [zFU es 0 hi (eqL k keys[j]) rfl]
  by_cases he : k = keys[j]
  ·subst he
   have hin : keys[j] ∈ keys.take (j + 1) := by rw [List.take_succ_eq_append_getElem hj]; exact List.mem_append.2 (.inr (List.mem_singleton.2 rfl))
   rw [if_pos (zBJ.2 rfl), if_pos hin, zNk hj hm]
  ·rw [if_neg (by rw [zBJ]; exact he), if_neg (by
    rw [List.take_succ_eq_append_getElem hj, List.mem_append, List.mem_singleton]
    exact fun h => h.elim hk he)]
theorem FI.look {h : AHeap} {r ver c : Nat} {es : List (AVal × AVal × Nat)} {keys : List (List Nat)} {j : Nat} (hg : h.objs.get r = some (ver, .map es c)) (f : FI es keys j) (k : List Nat) : zCz h .str (.int .i64 0) true (.map (some r)) (.str k) = some (.tuple [.int .i64 (if k ∈ keys.take j then (zCV k keys : Nat) else 0), .bool (decide (k ∈ keys.take j))], some r) := by
 obtain ⟨i, hi⟩ := f k
 simp only [zCz, zEh, hg, hi]
 by_cases hk : k ∈ keys.take j
 ·simp [hk]
 ·simp [hk]
structure FInv (h0 : AHeap) (b2 b3 r5 b6 : Nat) (nv cv : AVal) (root : Int) (keys : List (List Nat)) (out : List Int) (j : Nat) (hp : AHeap) : Prop where
 grow : Grow h0 hp
 o2 : ∃ ver, hp.objs.get b2 = some (ver, .cells false 24 [nv, .int .i64 root])
 o3 : ∃ ver, hp.objs.get b3 = some (ver, .cells false 28 [cv])
 o5 : ∃ ver es c, hp.objs.get r5 = some (ver, .map es c) /\ FI es keys j
 o6 : ∃ ver vs, hp.objs.get b6 = some (ver, .cells false 3 vs) /\ vs.length = out.length /\ vs.take j = (out.take j).map (AVal.int .i64)
 low : h0.next <= r5 /\ h0.next <= b6
theorem FInv.other {h0 : AHeap} {b2 b3 r5 b6 : Nat} {nv cv : AVal} {root : Int} {keys : List (List Nat)} {out : List Int} {j : Nat} {hp hq : AHeap} (I : FInv h0 b2 b3 r5 b6 nv cv root keys out j hp) (g : Grow hp hq) : FInv h0 b2 b3 r5 b6 nv cv root keys out j hq := by
 obtain ⟨v2, k2⟩ := I.o2
 obtain ⟨v3, k3⟩ := I.o3
 obtain ⟨v5, es, c, k5, kf⟩ := I.o5
 obtain ⟨v6, vs, k6, kl, kt⟩ := I.o6
 exact ⟨I.grow.trans g, ⟨v2, g.keep _ _ k2⟩, ⟨v3, g.keep _ _ k3⟩, ⟨v5, es, c, g.keep _ _ k5, kf⟩, ⟨v6, vs, g.keep _ _ k6, kl, kt⟩, I.low⟩
structure GTi (g : Graph) : Prop extends GSm g where
 tinyN : g.nodes.length <= 4096
 tinyA : ∀ n ∈ g.nodes, n.args.length <= 4096
section
variable {fns : FnsT} {summ : SumT}
variable (H : Has fns summ)
include H
end
end Go.Ab.S
end
section
namespace Go.Ab.S
open Go.Ab
set_option maxHeartbeats 8000000
section
variable {fns : FnsT} {summ : SumT}
variable (H : Has fns summ)
include H
end
end Go.Ab.S
end
section
namespace Go.Ab.S
open Go.Ab
set_option maxHeartbeats 8000000
structure LInv (h0 : AHeap) (b1 b2 b4 : Nat) (nv cv : AVal) (root root' : Int) (cl : List Int) (ns : List Node) (hp : AHeap) : Prop where
 grow : Grow h0 hp
 o1 : ∃ ver, hp.objs.get b1 = some (ver, .cells false 24 [nv, .int .i64 root])
 o2 : ∃ ver, hp.objs.get b2 = some (ver, .cells false 24 [.slice none 0, .int .i64 0])
 o4 : ∃ (ver : Nat) (vo : AVal) (cs : List (List AVal)), hp.objs.get b4 = some (ver, .cells false 24 [vo, .int .i64 root']) /\ Built hp h0.next 36 5 vo ns.length cs.flatten /\ cs.length = ns.length ∧
  ∀ (i : Nat) c n, cs[i]? = some c -> ns[i]? = some n -> ∃ av lv, c = [.int .i64 n.kind, .str n.name, av, lv, .bool n.isOpen] /\ Built hp h0.next 3 1 av n.args.length (n.args.map (AVal.int .i64)) /\ StrsAt h0 lv n.labels
 bcl : Built hp h0.next 3 1 cv cl.length (cl.map (AVal.int .i64))
 low : h0.next <= b1 /\ h0.next <= b2 /\ h0.next <= b4 /\ b1 ≠ b4 /\ b2 ≠ b4
theorem LInv.other {h0 : AHeap} {b1 b2 b4 : Nat} {nv cv : AVal} {root root' : Int} {cl : List Int} {ns : List Node} {hp hq : AHeap} (I : LInv h0 b1 b2 b4 nv cv root root' cl ns hp) (g : Grow hp hq) : LInv h0 b1 b2 b4 nv cv root root' cl ns hq := by
 obtain ⟨v1, k1⟩ := I.o1
 obtain ⟨v2, k2⟩ := I.o2
 obtain ⟨v4, vo, cs, k4, kB, kl, kn⟩ := I.o4
 exact ⟨I.grow.trans g, ⟨v1, g.keep _ _ k1⟩, ⟨v2, g.keep _ _ k2⟩, ⟨v4, vo, cs, g.keep _ _ k4, kB.grow g, kl, fun i c n hc hn => by
  obtain ⟨av, lv, q1, q2, q3⟩ := kn i c n hc hn
  exact ⟨av, lv, q1, q2.grow g, q3⟩⟩, I.bcl.grow g, I.low⟩
theorem LInv.graph {h0 : AHeap} {b1 b2 b4 : Nat} {nv cv : AVal} {root root' : Int} {cl : List Int} {ns : List Node} {hp : AHeap} (I : LInv h0 b1 b2 b4 nv cv root root' cl ns hp) : ∃ ver vo, hp.objs.get b4 = some (ver, .cells false 24 [vo, .int .i64 root']) /\ NodesAt hp vo ns := by
 obtain ⟨v4, vo, cs, k4, kB, kl, kn⟩ := I.o4
 have h5 : ∀ c ∈ cs, c.length = 5 := by
  intro c hc
  obtain ⟨i, hi, rfl⟩ := List.mem_iff_getElem.1 hc
  obtain ⟨av, lv, q1, _⟩ := kn i _ _ (List.getElem?_eq_getElem hi) (List.getElem?_eq_getElem (by omega))
  rw [q1]; rfl
 refine ⟨v4, vo, k4, cs, kB.sl (by decide) rfl h5 kl, kl, fun i n c hn hc => ?_⟩
 obtain ⟨av, lv, q1, q2, q3⟩ := kn i c n hc hn
 exact ⟨av, lv, q1, zEC q2, q3.mono I.grow⟩
section
variable {fns : FnsT} {summ : SumT}
variable (H : Has fns summ)
include H
omit H in
theorem GTi.map {g : Graph} (hg : GTi g) (cl : List Int) (root : Int) : GTi ⟨g.nodes.map (mapN cl), root⟩ := by
 have hlf : zAk [] (g.nodes.map (mapN cl)) 0 = zAk [] g.nodes 0 := by
  have : ∀ (ns : List Node) (i : Nat), zAk [] (ns.map (mapN cl)) i = zAk [] ns i := by
   intro ns
   induction ns with
   | nil => intro i; rfl
   | cons n r ih => intro i; simp only [List.map_cons, zAk, ih, mapN, List.length_map]
  exact this _ _
 refine ⟨⟨⟨by simpa using hg.nodes, fun n hn => ?_⟩, by simpa [hlf] using hg.total, fun n hn => ?_⟩, by simpa using hg.tinyN, fun n hn => ?_⟩
 ·obtain ⟨m, hm, rfl⟩ := List.mem_map.1 hn
  have := hg.all m hm
  exact ⟨by simpa [mapN] using this.args, this.labels, this.texts⟩
 ·obtain ⟨m, hm, rfl⟩ := List.mem_map.1 hn
  exact hg.labs m hm
 ·obtain ⟨m, hm, rfl⟩ := List.mem_map.1 hn
  simpa [mapN] using hg.tinyA m hm
end
end Go.Ab.S
end
section
namespace Go.Ab.S
open Go.Ab
set_option maxHeartbeats 8000000
theorem zCt : ∀ s : List Nat, zBB s s = false
 | [] => rfl
 | a :: s => by
  have h1 : Nat.blt a a = false := by
   cases h : Nat.blt a a
   ·rfl
   ·exact absurd (Nat.blt_eq.mp h) (Nat.lt_irrefl _)
  rw [zBB, h1, Nat.beq_refl]; exact zCt s
theorem zHr : ∀ {x y : List Nat} {a b : Nat}, zBB (a :: x) (b :: y) = true ↔ a < b \/ (a = b /\ zBB x y = true) := by
 intro x y a b
 rw [zBB]
 cases h : Nat.blt a b with
 | true =>
  have := Nat.blt_eq.mp h
  simp [this]
 | false =>
  have hn : ¬ a < b := fun hh => by rw [Nat.blt_eq.mpr hh] at h; cases h
  cases h2 : Nat.beq a b with
  | true =>
   have := Nat.eq_of_beq_eq_true h2
   simp [this]
  | false =>
   have : a ≠ b := by rintro rfl; rw [Nat.beq_refl] at h2; cases h2
   simp [hn, this]
theorem zCW : ∀ {x y z : List Nat}, zBB x y = true -> zBB y z = true -> zBB x z = true
 | _, [], _, h, _ => by cases ‹List Nat› <;> simp [zBB] at h
 | [], _ :: _, [], _, h => by simp [zBB] at h
 | [], _ :: _, _ :: _, _, _ => rfl
 | _ :: _, _ :: _, [], _, h => by simp [zBB] at h
 | a :: x, b :: y, c :: z, h1, h2 => by
  rw [zHr] at h1 h2 ⊢
  rcases h1 with h1 | ⟨rfl, h1⟩ <;> rcases h2 with h2 | ⟨rfl, h2⟩
  ·exact .inl (by omega)
  ·exact .inl h1
  ·exact .inl h2
  ·exact .inr ⟨rfl, zCW h1 h2⟩
theorem zGU : ∀ (x y : List Nat), zBB x y = true \/ x = y \/ zBB y x = true
 | [], [] => .inr (.inl rfl)
 | [], _ :: _ => .inl rfl
 | _ :: _, [] => .inr (.inr rfl)
 | a :: x, b :: y => by
  rw [zHr, zHr]
  rcases Nat.lt_trichotomy a b with h | rfl | h
  ·exact .inl (.inl h)
  ·rcases zGU x y with h | rfl | h
   ·exact .inl (.inr ⟨rfl, h⟩)
   ·exact .inr (.inl rfl)
   ·exact .inr (.inr (.inr ⟨rfl, h⟩))
  ·exact .inr (.inr (.inl h))
def Rises (l : List (List Nat)) : Prop := ∀ i j : Nat, i < j -> ∀ x y, l[i]? = some x -> l[j]? = some y -> zBB x y = true
theorem ris_lo : ∀ {l : List (List Nat)} {p : List Nat}, risG (some p) l = true -> ∀ x ∈ l, zBB p x = true
 | [], _, _ => by intro x hx; cases hx
 | y :: l, p, h => by
  simp only [risG, Bool.and_eq_true] at h
  intro x hx
  rcases List.mem_cons.1 hx with rfl | hx
  ·exact h.1.2
  ·exact zCW h.1.2 (ris_lo h.2 x hx)
theorem zBF : ∀ {l : List (List Nat)} {p : Option (List Nat)}, risG p l = true -> Rises l
 | [], _, _ => by intro i j _ x y hx; simp at hx
 | z :: l, p, h => by
  simp only [risG, Bool.and_eq_true] at h
  intro i j hij x y hx hy
  cases j with
  | zero => omega
  | succ j =>
   have hy' : l[j]? = some y := by simpa using hy
   cases i with
   | zero =>
    have hx' : z = x := by simpa using hx
    rw [<- hx']; exact ris_lo h.2 y (List.mem_of_getElem? hy')
   | succ i => exact zBF h.2 i j (by omega) x y (by simpa using hx) hy'
def bsAt (l : List (List Nat)) (s : List Nat) : Nat := (l.filter fun x => zBB x s).length
theorem bs_split {l : List (List Nat)} (hr : Rises l) {s : List Nat} {m : Nat} (hm : m <= l.length) (h1 : ∀ i x, i < m -> l[i]? = some x -> zBB x s = true) (h2 : ∀ i x, m <= i -> l[i]? = some x -> zBB x s = false) : bsAt l s = m := by
 unfold bsAt
 have : l.filter (fun x => zBB x s) = l.take m := by
  conv => lhs; rw [<- List.take_append_drop m l]
  rw [List.filter_append]
  have e1 : (l.take m).filter (fun x => zBB x s) = l.take m := by
   rw [List.filter_eq_self]
   intro x hx
   obtain ⟨i, hi, rfl⟩ := List.mem_iff_getElem.1 hx
   rw [List.getElem_take]
   simp only [List.length_take] at hi
   exact h1 i _ (by omega) (List.getElem?_eq_getElem (by omega))
  have e2 : (l.drop m).filter (fun x => zBB x s) = [] := by
   rw [List.filter_eq_nil_iff]
   intro x hx
   obtain ⟨i, hi, rfl⟩ := List.mem_iff_getElem.1 hx
   rw [List.getElem_drop]
   simp only [List.length_drop] at hi
   have := h2 (m + i) _ (by omega) (List.getElem?_eq_getElem (by omega))
   rw [this]; simp
  rw [e1, e2, zlE]
 rw [this, List.length_take]; omega
def bsIs (l : List (List Nat)) (s : List Nat) : Bool := match l[bsAt l s]? with | some x => eqL x s | none => false
section
variable {fns : FnsT} {summ : SumT}
variable (H : Has fns summ)
include H
end
end Go.Ab.S
end
section
namespace Go.Ab.S
open Go.Ab
set_option maxHeartbeats 8000000
abbrev Pr := Int × Int
def zCb (p : Pr) : List AVal := [.int .i64 p.1, .int .i64 p.2]
def rowC (w : List Pr) : List AVal := (w.reverse.map zCb).flatten
def zBn (g h : Graph) : List Pr := (List.range g.nodes.length).flatMap fun (i : Nat) => (List.range h.nodes.length).map fun (j : Nat) => ((i : Int), (j : Int))
theorem zBH {g h : Graph} {p : Pr} : p ∈ zBn g h ↔ (0 <= p.1 /\ p.1 < g.nodes.length) /\ 0 <= p.2 /\ p.2 < h.nodes.length := by
 simp only [zBn, List.mem_flatMap, List.mem_range, List.mem_map]
 constructor
 ·rintro ⟨i, hi, j, hj, rfl⟩; exact ⟨⟨by simp, by simp; omega⟩, by simp, by simp; omega⟩
 ·rintro ⟨⟨h1, h2⟩, h3, h4⟩
  exact ⟨p.1.toNat, by omega, p.2.toNat, by omega, by ext <;> simp <;> omega⟩
theorem zMt (g h : Graph) : (zBn g h).length = g.nodes.length * h.nodes.length := by
 simp only [zBn, List.length_flatMap, List.length_map, List.length_range]
 generalize g.nodes.length = n
 induction n with
 | zero => simp
 | succ n ih => rw [List.range_succ, List.map_append, List.sum_append, ih, Nat.succ_mul]; simp
theorem zHp {α : Type} [BEq α] {nx : α -> List α} {c : Nat} : ∀ {ps : List α}, (∀ p ∈ ps, (nx p).length <= c) -> zDQ nx [] ps <= ps.length * c
 | [], _ => by simp [zDQ]
 | p :: r, h => by
  have h1 := zHp (ps := r) fun q hq => h q (by simp [hq])
  have h2 := h p (by simp)
  simp only [zDQ, zlC, Nat.succ_mul]
  split <;> omega
def okS (g h : Graph) (p : Pr) : Bool := zEx (zAB g p.1) (zAB h p.2)
def nxS (g h : Graph) (p : Pr) : List Pr := (List.zip (zAB g p.1).args (zAB h p.2).args).reverse
def badS (g : Graph) (p q : Pr) : Bool := zEu (zAB g p.1) && (zEu (zAB g q.1) && (p.1 == q.1 || p.2 == q.2))
def zFJ (g h : Graph) : Bool := zAF g == 0 && (zAF h == 0 && zEp (okS g h) (nxS g h) (badS g) (2 + zDQ (nxS g h) [] (zBn g h)) [(g.root, h.root)] [])
theorem zJk {g : Graph} {a : Int} (h0 : 0 <= a) (h1 : a < g.nodes.length) : ∃ k : Nat, a = (k : Int) /\ ∃ hk : k < g.nodes.length, zAB g a = g.nodes[k] := by
 refine ⟨a.toNat, by omega, by omega, ?_⟩
 simp [zAB, List.getElem?_eq_getElem (show a.toNat < g.nodes.length by omega)]
theorem zDS {g : Graph} {a : Int} (h0 : 0 <= a) (h1 : a < g.nodes.length) : zAB g a ∈ g.nodes := by
 obtain ⟨k, _, hk, h⟩ := zJk h0 h1
 rw [h]; exact List.getElem_mem hk
theorem nxS_in {g h : Graph} (hg : zAF g = 0) (hh : zAF h = 0) {p : Pr} (hp : p ∈ zBn g h) : ∀ q ∈ nxS g h p, q ∈ zBn g h := by
 intro q hq
 obtain ⟨⟨a0, a1⟩, b0, b1⟩ := zBH.1 hp
 simp only [nxS, List.mem_reverse] at hq
 have h1 := List.of_mem_zip hq
 have h2 := zAu ((zBA hg).2 _ (zDS a0 a1)) _ h1.1
 have h3 := zAu ((zBA hh).2 _ (zDS b0 b1)) _ h1.2
 exact zBH.2 ⟨h2, h3⟩
theorem zMn {g h : Graph} (hg : GTi g) (hh : GTi h) {nx : Pr -> List Pr} (hn : ∀ p ∈ zBn g h, (nx p).length <= (zAB g p.1).args.length) : zDQ nx [] (zBn g h) <= 2 ^ 36 := by
 have h1 := zHp (nx := nx) (c := 4096) (ps := zBn g h) (fun p hp => by
  obtain ⟨⟨a0, a1⟩, _⟩ := zBH.1 hp
  have := hg.tinyA _ (zDS a0 a1)
  have := hn p hp
  omega)
 rw [zMt] at h1
 have h2 := hg.tinyN
 have h3 := hh.tinyN
 have h4 : g.nodes.length * h.nodes.length <= 4096 * 4096 := Nat.mul_le_mul (by omega) (by omega)
 have h5 : (2 : Nat) ^ 36 = 4096 * 4096 * 4096 := by decide
 have h6 := Nat.mul_le_mul_right 4096 h4
 omega
theorem roomP {k : Nat} (hk : k <= 2 ^ 37) : zCv 16 k = true := by
 have e37 : (2 : Nat) ^ 37 = 137438953472 := by decide
 have e46 : (2 : Nat) ^ 46 = 70368744177664 := by decide
 simp only [zCv, Bool.and_eq_true]
 exact ⟨rfl, Nat.ble_eq.mpr (by omega)⟩
def MP (es : List (AVal × AVal × Nat)) (met : List Pr) : Prop := ∀ p, ∃ i, zBm (.agg 2) (.agg (zCb p)) es 0 = some (if p ∈ met then some (i, .bool true) else none)
theorem MP.zero : MP [] [] := fun p => ⟨0, by simp [zBm]⟩
theorem key_pair (p q : Pr) : keyA (.agg 2) (.agg (zCb p)) (.agg (zCb q)) = some (decide (p = q)) := by
  obtain ⟨a, b⟩ := p
  obtain ⟨c, d⟩ := q
  simp only [keyA, zCb, zlC, zlN, and_self, if_true, zCG]
  cases h1 : a == c with
  | false =>
    have : a ≠ c := by simpa using h1
    cases h2 : b == d <;> simp [this]
  | true =>
    have : a = c := by simpa using h1
    cases h2 : b == d with
    | false => have : b ≠ d := by simpa using h2
               simp [this]
    | true => have h3 : b = d := by simpa using h2
              simp [this, h3]
theorem MP.put {es : List (AVal × AVal × Nat)} {met : List Pr} {p : Pr} {c : Nat} (h : MP es met) (hp : p ∉ met) : MP (es ++ [(.agg (zCb p), .bool true, c)]) (met ++ [p]) := fun q => by
 obtain ⟨i, hi⟩ := h q
 by_cases hq : q ∈ met
 ·rw [if_pos hq] at hi
  exact ⟨i, by rw [zFT es 0 hi, if_pos (List.mem_append.2 (.inl hq))]⟩
 ·rw [if_neg hq] at hi
  refine ⟨0 + es.length, ?_⟩
  rw [zFU es 0 hi _ (key_pair q p)]
  by_cases he : q = p
  ·rw [if_pos (decide_eq_true he), if_pos (List.mem_append.2 (.inr (List.mem_singleton.2 he)))]
  ·rw [if_neg (by simpa using he), if_neg (fun hh => by
    rcases List.mem_append.1 hh with hh | hh
    ·exact hq hh
    ·exact he (List.mem_singleton.1 hh))]
theorem MP.look {h : AHeap} {r ver c : Nat} {es : List (AVal × AVal × Nat)} {met : List Pr} (hg : h.objs.get r = some (ver, .map es c)) (f : MP es met) (p : Pr) : zCz h (.agg 2) (.bool false) false (.map (some r)) (.agg (zCb p)) = some (.bool (met.contains p), some r) := by
 obtain ⟨i, hi⟩ := f p
 have hk : zEh (.agg 2) (.agg (zCb p)) = true := rfl
 simp only [zCz, hk, hg, hi]
 by_cases hp : p ∈ met
 ·simp [hp]
 ·simp [hp]
theorem MP.none {es : List (AVal × AVal × Nat)} {met : List Pr} (f : MP es met) {p : Pr} (hp : p ∉ met) : zBm (.agg 2) (.agg (zCb p)) es 0 = some none := by
 obtain ⟨i, hi⟩ := f p
 rw [hi, if_neg hp]
def FA (es : List (AVal × AVal × Nat)) (l : List Pr) : Prop := ∀ a, ∃ r, zBm .int (.int .i64 a) es 0 = some r /\ (r = none -> ∀ q ∈ l, q.1 ≠ a) /\ (∀ i v, r = some (i, v) -> ∃ q ∈ l, q.1 = a /\ v = .int .i64 q.2)
theorem FA.zero : FA [] [] := fun a => ⟨none, rfl, fun _ q hq => (by cases hq), fun i v h => by cases h⟩
theorem FA.put {es : List (AVal × AVal × Nat)} {l : List Pr} {p : Pr} {c : Nat} (h : FA es l) (hp : ∀ q ∈ l, q.1 ≠ p.1) : FA (es ++ [(.int .i64 p.1, .int .i64 p.2, c)]) (l ++ [p]) := fun a => by
 obtain ⟨r, h1, h2, h3⟩ := h a
 cases r with
 | some x =>
  refine ⟨some x, zFT es 0 h1, fun hh => (by cases hh), fun i v hv => ?_⟩
  obtain ⟨q, q1, q2⟩ := h3 i v hv
  exact ⟨q, List.mem_append.2 (.inl q1), q2⟩
 | none =>
  have hk : keyA .int (.int .i64 a) (.int .i64 p.1) = some (a == p.1) := by simp [keyA]
  refine ⟨_, zFU es 0 h1 _ hk, ?_, ?_⟩
  ·intro hh q hq
   rcases List.mem_append.1 hq with hq | hq
   ·exact h2 rfl q hq
   ·rw [List.mem_singleton.1 hq]
    rintro rfl
    simp at hh
  ·intro i v hv
   split at hv
   ·rename_i hap
    simp only [oI, Prod.mk.injEq] at hv
    exact ⟨p, List.mem_append.2 (.inr (List.mem_singleton.2 rfl)), (by simpa using hap : a = p.1).symm, hv.2.symm⟩
   ·cases hv
theorem FA.none {es : List (AVal × AVal × Nat)} {l : List Pr} (f : FA es l) {a : Int} (ha : ∀ q ∈ l, q.1 ≠ a) : zBm .int (.int .i64 a) es 0 = some none := by
 obtain ⟨r, h1, h2, h3⟩ := f a
 cases r with
 | none => exact h1
 | some x =>
  obtain ⟨q, q1, q2, _⟩ := h3 x.1 x.2 rfl
  exact absurd q2 (ha q q1)
theorem FA.look {h : AHeap} {r ver c : Nat} {es : List (AVal × AVal × Nat)} {l : List Pr} (hg : h.objs.get r = some (ver, .map es c)) (f : FA es l) (a : Int) : ∃ x, zCz h .int (.int .i64 0) true (.map (some r)) (.int .i64 a) = some (.tuple [.int .i64 x, .bool (l.any fun q => q.1 == a)], some r) /\ ((l.any fun q => q.1 == a) = true -> ∃ q ∈ l, q.1 = a /\ x = q.2) := by
 obtain ⟨y, h1, h2, h3⟩ := f a
 cases y with
 | none =>
  refine ⟨0, ?_, fun hh => ?_⟩
  ·have : (l.any fun q => q.1 == a) = false := by
    rw [List.any_eq_false]; intro q hq; simpa using h2 rfl q hq
   simp only [zCz, zEh, hg, h1, this, if_true]
  ·obtain ⟨q, hq, hh⟩ := List.any_eq_true.1 hh
   exact absurd (by simpa using hh) (h2 rfl q hq)
 | some x =>
  obtain ⟨q, q1, q2, q3⟩ := h3 x.1 x.2 rfl
  refine ⟨q.2, ?_, fun _ => ⟨q, q1, q2, rfl⟩⟩
  have : (l.any fun q => q.1 == a) = true := List.any_eq_true.2 ⟨q, q1, by simpa using q2⟩
  obtain ⟨i, v⟩ := x
  simp only at q3
  subst q3
  simp only [zCz, zEh, hg, h1, this, if_true]
theorem zEQ (p : Pr) (w : List Pr) : rowC (p :: w) = rowC w ++ zCb p := by simp [rowC]
theorem zMR (w : List Pr) : (rowC w).length = w.length * 2 := by
 induction w with
 | nil => rfl
 | cons p w ih => rw [zEQ, List.length_append, ih, zlC, Nat.succ_mul]; rfl
theorem zOJ {h : AHeap} {base : Nat} {e : TypeId} {vw : AVal} {p : Pr} {w : List Pr} (B : Built h base e 2 vw (w.length + 1) (rowC (p :: w))) : ∃ bw ver vs, vw = .slice (some (bw, 0)) (w.length + 1) /\ h.objs.get bw = some (ver, .cells false e vs) /\ base <= bw /\ (w.length * 2 + 2 <= vs.length /\ (vs.drop (w.length * 2)).take 2 = zCb p) /\ Built h base e 2 (.slice (some (bw, 0)) w.length) w.length (rowC w) := by
 rcases B with ⟨_, hh, _⟩ | ⟨_, hh, _⟩ | ⟨b, vs, ver, h0, h1, h2, h3, h4⟩
 ·omega
 ·omega
 ·refine ⟨b, ver, vs, h1, h2, h0, ?_, .inr (.inr ⟨b, vs, ver, h0, rfl, h2, by omega, ?_⟩)⟩
  ·refine ⟨by omega, ?_⟩
   have := congrArg (fun l => l.drop (w.length * 2)) h4
   simp only [List.drop_take, zEQ, List.drop_left' (zMR w)] at this
   rw [show (w.length + 1) * 2 - w.length * 2 = 2 by omega] at this
   exact this
  ·have := congrArg (fun l => l.take (w.length * 2)) h4
   simp only [List.take_take, zEQ, List.take_left' (zMR w)] at this
   rw [Nat.min_eq_left (by omega)] at this
   exact this
end Go.Ab.S
end
section
namespace Go.Ab.S
open Go.Ab
set_option maxHeartbeats 1000000
inductive Rch (g : Graph) : Int -> Prop
 | root : Rch g g.root
 | step {a b : Int} : Rch g a -> b ∈ (zAB g a).args -> Rch g b
theorem zNI (g : Graph) (a : Int) : zHY g.nodes a = (zAB g a).args := by
 unfold zHY zAB
 rw [List.getD]
 cases g.nodes[a.toNat]? <;> rfl
theorem zFH {g : Graph} : ∀ (m : Nat) (st out : List Int), (∀ a ∈ st, Rch g a) -> (∀ a ∈ out, Rch g a) -> ∀ a ∈ zBZ g.nodes m st out, Rch g a
 | 0, _, _, _, h => h
 | _ + 1, [], _, _, h => h
 | m + 1, a :: st, out, h1, h2 => by
  rw [zBZ]
  split
  ·exact zFH m st out (fun b hb => h1 b (by simp [hb])) h2
  ·refine zFH m _ _ (fun b hb => ?_) (fun b hb => ?_)
   ·rcases List.mem_append.1 hb with hb | hb
    ·rw [zNI] at hb; exact .step (h1 a (by simp)) hb
    ·exact h1 b (by simp [hb])
   ·rcases List.mem_append.1 hb with hb | hb
    ·exact h2 b hb
    ·rw [List.mem_singleton.1 hb]; exact h1 a (by simp)
theorem zGp {g : Graph} (hc : zAF g = 0) : ∀ (m : Nat) (st out : List Int), Ok g.nodes.length st -> st.length + zAk out g.nodes 0 <= m -> (∀ a ∈ out, ∀ b ∈ (zAB g a).args, b ∈ out \/ b ∈ st) →
  (∀ a ∈ st, a ∈ zBZ g.nodes m st out) /\ (∀ a ∈ out, a ∈ zBZ g.nodes m st out) /\ ∀ a ∈ zBZ g.nodes m st out, ∀ b ∈ (zAB g a).args, b ∈ zBZ g.nodes m st out
 | 0, st, out, _, hm, h => by
  have : st = [] := List.length_eq_zero_iff.1 (by omega)
  subst this
  exact ⟨fun a ha => (by cases ha), fun a ha => ha, fun a ha b hb => by
   rcases h a ha b hb with h | h
   ·exact h
   ·cases h⟩
 | m + 1, [], out, _, _, h => ⟨fun a ha => (by cases ha), fun a ha => ha, fun a ha b hb => by
   rcases h a ha b hb with h | h
   ·exact h
   ·cases h⟩
 | m + 1, a :: st, out, hs, hm, h => by
  have hst : Ok g.nodes.length st := fun b hb => hs b (by simp [hb])
  obtain ⟨a0, a1⟩ := hs a (by simp)
  rw [zBZ]
  split
  ·rename_i hcon
   have hcon : a ∈ out := by simpa using hcon
   simp only [zlC] at hm
   obtain ⟨h1, h2, h3⟩ := zGp hc m st out hst (by omega) (fun b hb c hcc => by
    rcases h b hb c hcc with h | h
    ·exact .inl h
    ·rcases List.mem_cons.1 h with rfl | h
     ·exact .inl hcon
     ·exact .inr h)
   exact ⟨fun b hb => by
    rcases List.mem_cons.1 hb with rfl | hb
    ·exact h2 _ hcon
    ·exact h1 b hb, h2, h3⟩
  ·rename_i hcon
   obtain ⟨k, hk, hkN, hnk⟩ : ∃ k : Nat, a = (k : Int) /\ ∃ hk : k < g.nodes.length, zAB g a = g.nodes[k] := ⟨a.toNat, by omega, by omega, by simp [zAB, List.getElem?_eq_getElem (show a.toNat < g.nodes.length by omega)]⟩
   have hput := (zHo out k g.nodes 0).2 (Nat.zero_le _) (by rw [<- hk]; simpa using hcon) g.nodes[k] (by simpa using List.getElem?_eq_getElem hkN)
   have hargs : zHY g.nodes a = g.nodes[k].args := by rw [zNI, hnk]
   rw [hargs, hk]
   simp only [zlC] at hm
   obtain ⟨h1, h2, h3⟩ := zGp hc m (g.nodes[k].args ++ st) (out ++ [(k : Int)]) (fun b hb => by
    rcases List.mem_append.1 hb with hb | hb
    ·exact zAu ((zBA hc).2 _ (List.getElem_mem hkN)) b hb
    ·exact hst b hb) (by rw [List.length_append]; omega) (fun b hb c hcc => by
    rcases List.mem_append.1 hb with hb | hb
    ·rcases h b hb c hcc with h | h
     ·exact .inl (List.mem_append.2 (.inl h))
     ·rcases List.mem_cons.1 h with rfl | h
      ·exact .inl (by rw [hk]; simp)
      ·exact .inr (List.mem_append.2 (.inr h))
    ·rw [List.mem_singleton.1 hb, <- hk, hnk] at hcc
     exact .inr (List.mem_append.2 (.inl hcc)))
   exact ⟨fun b hb => by
    rcases List.mem_cons.1 hb with rfl | hb
    ·exact h2 _ (by simp)
    ·exact h1 b (List.mem_append.2 (.inr hb)), fun b hb => h2 b (List.mem_append.2 (.inl hb)), h3⟩
theorem zEO {g : Graph} (hc : zAF g = 0) (a : Int) : a ∈ zAM g ↔ Rch g a := by
 have hr := zAZ hc
 rw [zAM, if_pos hc]
 constructor
 ·exact zFH _ _ _ (fun b hb => by rw [List.mem_singleton.1 hb]; exact .root) (fun b hb => by cases hb) a
 ·obtain ⟨h1, _, h3⟩ := zGp hc (1 + zAk [] g.nodes 0) [g.root] [] (fun b hb => by rw [List.mem_singleton.1 hb]; exact ⟨hr.1, hr.2.1⟩) (by simp) (fun b hb => (by cases hb))
  intro h
  induction h with
  | root => exact h1 _ (by simp)
  | step _ hb ih => exact h3 _ ih _ hb
theorem Rch.ok {g : Graph} (hc : zAF g = 0) {a : Int} (h : Rch g a) : 0 <= a /\ a < g.nodes.length := by
 have := (zEO hc a).2 h
 exact (zCc g).1 a this
theorem zFG {g : Graph} {a : Int} (h : 0 <= a /\ a < g.nodes.length) : zAB g a ∈ g.nodes := by
 have hk : a.toNat < g.nodes.length := by omega
 have : zAB g a = g.nodes[a.toNat] := by simp [zAB, List.getElem?_eq_getElem hk]
 rw [this]; exact List.getElem_mem hk
theorem zMv {g : Graph} (hc : zAF g = 0) : ∃ l, zAM g = g.root :: l := by
 rw [zAM, if_pos hc, Nat.add_comm, zBZ]
 simp only [List.contains_nil, Bool.false_eq_true, if_false, zlA]
 have : ∀ (m : Nat) (st out : List Int), ∃ l, zBZ g.nodes m st out = out ++ l := by
  intro m
  induction m with
  | zero => intro st out; exact ⟨[], by simp [zBZ]⟩
  | succ m ih =>
   intro st out
   cases st with
   | nil => exact ⟨[], by simp [zBZ]⟩
   | cons a st =>
    rw [zBZ]
    split
    ·exact ih st out
    ·obtain ⟨l, hl⟩ := ih (zHY g.nodes a ++ st) (out ++ [a])
     exact ⟨a :: l, by rw [hl]; simp⟩
 obtain ⟨l, hl⟩ := this (zAk [] g.nodes 0) (zHY g.nodes g.root ++ []) [g.root]
 exact ⟨l, by rw [hl]; rfl⟩
structure Quo (g L : Graph) (q : Int -> Int) : Prop where
 root : L.root = q g.root
 node : ∀ i, Rch g i -> zAB L (q i) = { zAB g i with args := (zAB g i).args.map q }
 surj : ∀ x : Int, 0 <= x -> x < L.nodes.length -> ∃ i, Rch g i /\ q i = x
 range : ∀ i, Rch g i -> 0 <= q i /\ q i < L.nodes.length
 inj : ∀ i j, Rch g i -> Rch g j -> zAU (zAB g i) = true -> q i = q j -> i = j
 check : zAF L = 0
theorem zFl {l : List Int} {a : Int} (h : a ∈ l) : zBx l a < l.length /\ l[zBx l a]? = some a := by
 have hc : l.contains a = true := by simpa using h
 rw [zBx, if_pos hc]
 have := List.idxOf_lt_length_of_mem h
 exact ⟨this, by rw [List.getElem?_eq_getElem this]; simp⟩
theorem zEz {g : Graph} (h0 : 0 <= g.root) (h1 : g.root < g.nodes.length) (h2 : g.nodes.length <= 1048576) (h3 : ∀ n ∈ g.nodes, mayF n g.nodes.length = true) : zAF g = 0 := by
 unfold zAF
 simp only [Int.ofNat_eq_natCast]
 rw [if_neg (by omega), if_neg (by omega), if_neg (by omega), if_neg]
 simp only [List.any_eq_true, not_exists, not_and]
 intro n hn
 rw [h3 n hn]; simp
theorem zJh {n : Node} {N M : Int} (h : mayF n N = true) (f : Int -> Int) (hf : ∀ a ∈ n.args, 0 <= f a /\ f a < M) : mayF { n with args := n.args.map f } M = true := by
 have h1 : (n.args.map f).any (fun a => decide (a < 0) || decide (a >= M)) = false := by
  rw [List.any_eq_false]
  intro a ha
  obtain ⟨b, hb, rfl⟩ := List.mem_map.1 ha
  have := hf b hb
  simp; omega
 unfold mayF at h ⊢
 split at h
 ·cases h
 rw [h1]
 simpa using h
theorem zLg (f : Int -> Nat) : ∀ (l r : List Int), l.Nodup -> (∀ x ∈ l, x ∈ r) -> (l.map f).sum <= (r.map f).sum
 | [], r, _, _ => by simp
 | x :: l, r, hn, hs => by
  have hx := hs x (by simp)
  have hp : r.Perm (x :: r.erase x) := List.perm_cons_erase hx
  obtain ⟨h1, h2⟩ := List.nodup_cons.1 hn
  have ih := zLg f l (r.erase x) h2 fun y hy => (List.mem_erase_of_ne (by rintro rfl; exact h1 hy)).2 (hs y (by simp [hy]))
  have := (hp.map f).sum_nat
  simp only [List.map_cons, List.sum_cons] at this ⊢
  omega
def allN (n : Nat) : List Int := (List.range n).map fun (i : Nat) => (i : Int)
theorem zHU {n : Nat} {a : Int} : a ∈ allN n ↔ 0 <= a /\ a < n := by
 simp only [allN, List.mem_map, List.mem_range]
 constructor
 ·rintro ⟨i, hi, rfl⟩; omega
 ·rintro ⟨h1, h2⟩; exact ⟨a.toNat, by omega, by omega⟩
theorem zMY {g : Graph} (_ : zAF g = 0) : (zAM g).length <= g.nodes.length := by
 obtain ⟨h1, h2⟩ := zCc g
 have := zLg (fun _ => 1) (zAM g) (allN g.nodes.length) h2 fun x hx => zHU.2 (h1 x hx)
 have e : ∀ l : List Int, (l.map fun _ => 1).sum = l.length := fun l => by
  induction l with
  | nil => rfl
  | cons a l ih => simp only [List.map_cons, List.sum_cons, ih, zlC]; omega
 rw [e, e] at this
 simpa [allN] using this
theorem zHX {g : Graph} (hc : zAF g = 0) : Quo g (zCE g) (fun a => (zBx (zAM g) a : Int)) := by
 have hmem := zEO hc
 have hnode : ∀ i, Rch g i -> zAB (zCE g) (zBx (zAM g) i : Int) = zEw (zAM g) (zAB g i) := by
  intro i hi
  obtain ⟨h1, h2⟩ := zFl ((hmem i).2 hi)
  simp only [zAB, zCE, Int.toNat_natCast, List.getD, List.getElem?_map, h2]
  rfl
 obtain ⟨l, hl⟩ := zMv hc
 have hroot : zBx (zAM g) g.root = 0 := by rw [hl, zBx]; simp
 have hlen : (zCE g).nodes.length = (zAM g).length := by simp [zCE]
 refine ⟨by show (0 : Int) = _; rw [hroot]; rfl, hnode, ?_, ?_, ?_, ?_⟩
 ·intro x h0 h1
  rw [hlen] at h1
  have hx : x.toNat < (zAM g).length := by omega
  refine ⟨(zAM g)[x.toNat], (hmem _).1 (List.getElem_mem hx), ?_⟩
  have hm := List.getElem_mem hx
  obtain ⟨h3, h4⟩ := zFl hm
  rw [List.getElem?_eq_getElem h3] at h4
  have := (List.getElem_inj (zCc g).2).1 (Option.some.inj h4)
  show ((zBx (zAM g) (zAM g)[x.toNat] : Nat) : Int) = x
  omega
 ·intro i hi
  have := (zFl ((hmem i).2 hi)).1
  rw [hlen]; exact ⟨by omega, by omega⟩
 ·intro i j hi hj _ he
  have he : ((zBx (zAM g) i : Nat) : Int) = (zBx (zAM g) j : Nat) := he
  have h1 := (zFl ((hmem i).2 hi)).2
  have h2 := (zFl ((hmem j).2 hj)).2
  have : zBx (zAM g) i = zBx (zAM g) j := by omega
  rw [this, h2] at h1
  exact (Option.some.inj h1).symm
 ·refine zEz (by show (0 : Int) <= 0; decide) ?_ ?_ ?_
  ·show (0 : Int) < _
   rw [hlen, hl]; simp
  ·rw [hlen]
   have := zMY hc
   have := (zAZ hc).2.2.1
   omega
  ·intro n hn
   obtain ⟨i, hi, rfl⟩ := List.mem_map.1 hn
   have hri := (hmem i).1 hi
   rw [hlen]
   refine zJh ((zBA hc).2 _ (zFG (hri.ok hc))) (fun a => (zBx (zAM g) a : Int)) fun a ha => ?_
   have := (zFl ((hmem a).2 (hri.step ha))).1
   exact ⟨by omega, by omega⟩
end Go.Ab.S
end
section
namespace Go.Ab.S
open Go.Ab
set_option maxHeartbeats 1000000
def Least (L : Graph) : Prop := ∀ E : Int -> Int -> Prop, (∀ x y, E x y -> (0 <= x /\ x < L.nodes.length) /\ (0 <= y /\ y < L.nodes.length) /\ (x = y \/ (zAU (zAB L x) = false /\ zAU (zAB L y) = false /\ (zAB L x).kind = (zAB L y).kind /\ (zAB L x).name = (zAB L y).name /\ (zAB L x).labels = (zAB L y).labels /\ (zAB L x).args.length = (zAB L y).args.length ∧
 ∀ (k : Nat) (a b : Int), (zAB L x).args[k]? = some a -> (zAB L y).args[k]? = some b -> E a b))) -> ∀ x y, E x y -> x = y
theorem zHx (g : Graph) (i : Nat) : zAB g (i : Int) = g.nodes.getD i zAo := rfl
def clsG (g : Graph) : Graph := ⟨g.nodes.map (mapN (zAH g)), clAt (zAH g) g.root⟩
theorem zKP {g : Graph} (hc : zAF g = 0) {a : Int} (ha : 0 <= a /\ a < g.nodes.length) : 0 <= clAt (zAH g) a /\ clAt (zAH g) a < g.nodes.length /\ clAt (zAH g) a <= a /\ clAt (zAH g) (clAt (zAH g) a) = clAt (zAH g) a := by
 obtain ⟨k, rfl⟩ : ∃ k : Nat, a = (k : Int) := ⟨a.toNat, by omega⟩
 obtain ⟨j, h1, h2, h3⟩ := (zIi hc).2.le k (by omega)
 rw [h1]
 exact ⟨by omega, by omega, by omega, h3⟩
theorem zJR {g : Graph} {a : Int} (ha : 0 <= a /\ a < g.nodes.length) : zAB (clsG g) a = mapN (zAH g) (zAB g a) := by
 have hk : a.toNat < g.nodes.length := by omega
 simp only [zAB, clsG, List.getD, List.getElem?_map, List.getElem?_eq_getElem hk]
 rfl
theorem zEE {g : Graph} (hc : zAF g = 0) : zAF (clsG g) = 0 := by
 obtain ⟨h1, h2, h3, h4⟩ := zAZ hc
 have hr := zKP hc ⟨h1, h2⟩
 have hl : (clsG g).nodes.length = g.nodes.length := by simp [clsG]
 refine zEz hr.1 (by rw [hl]; exact hr.2.1) (by rw [hl]; exact h3) fun n hn => ?_
 obtain ⟨m, hm, rfl⟩ := List.mem_map.1 hn
 rw [hl]
 refine zJh (h4 m hm) (clAt (zAH g)) fun a ha => ?_
 have := zKP hc (zAu (h4 m hm) a ha)
 exact ⟨this.1, this.2.1⟩
theorem zLt {g : Graph} (hc : zAF g = 0) {a b : Int} (ha : 0 <= a /\ a < g.nodes.length) (hb : 0 <= b /\ b < g.nodes.length) (he : clAt (zAH g) a = clAt (zAH g) b) :
  ((zAU (zAB g a) = true \/ zAU (zAB g b) = true) -> a = b) /\ (zAB g a).kind = (zAB g b).kind /\ (zAB g a).name = (zAB g b).name /\ (zAB g a).labels = (zAB g b).labels /\ (zAB g a).args.map (clAt (zAH g)) = (zAB g b).args.map (clAt (zAH g)) /\ zAU (zAB g a) = zAU (zAB g b) := by
 obtain ⟨i, rfl⟩ : ∃ k : Nat, a = (k : Int) := ⟨a.toNat, by omega⟩
 obtain ⟨j, rfl⟩ : ∃ k : Nat, b = (k : Int) := ⟨b.toNat, by omega⟩
 obtain ⟨h1, h2⟩ := zEc hc (i := i) (j := j) (by omega) (by omega) he
 exact ⟨fun h => by rw [h1 h], h2⟩
theorem zOH {n : Node} {N : Int} (h : mayF n N = true) : zAU n = false -> n.isOpen = false := by
 intro hf
 simp only [zAU, Bool.or_eq_false_iff] at hf
 exact hf.2
theorem zJQ {g : Graph} (hc : zAF g = 0) {a b : Int} (ha : 0 <= a /\ a < g.nodes.length) (hb : 0 <= b /\ b < g.nodes.length) (he : clAt (zAH g) a = clAt (zAH g) b) : mapN (zAH g) (zAB g a) = mapN (zAH g) (zAB g b) := by
 obtain ⟨h0, h1, h2, h3, h4, h5⟩ := zLt hc ha hb he
 by_cases hf : zAU (zAB g a) = true
 ·rw [h0 (.inl hf)]
 ·have hfa : zAU (zAB g a) = false := by simpa using hf
  have hfb : zAU (zAB g b) = false := by rw [<- h5]; exact hfa
  have oa := zOH ((zBA hc).2 _ (zFG ha)) hfa
  have ob := zOH ((zBA hc).2 _ (zFG hb)) hfb
  generalize zAB g a = n at *
  generalize zAB g b = m at *
  obtain ⟨k, nm, ar, lb, op⟩ := n
  obtain ⟨k', nm', ar', lb', op'⟩ := m
  simp only at *
  subst h1; subst h2; subst h3; subst oa; subst ob
  simp only [mapN, h4]
theorem zGk {g : Graph} (hc : zAF g = 0) {a : Int} (h : Rch g a) : Rch (clsG g) (clAt (zAH g) a) := by
 induction h with
 | root => exact .root
 | @step a b ha hb ih =>
  have hra := ha.ok hc
  have hca := zKP hc hra
  refine .step ih ?_
  rw [zJR ⟨hca.1, hca.2.1⟩, zJQ hc ⟨hca.1, hca.2.1⟩ hra hca.2.2.2]
  exact List.mem_map.2 ⟨b, hb, rfl⟩
theorem cls_back {g : Graph} (hc : zAF g = 0) {x : Int} (h : Rch (clsG g) x) : ∃ a, Rch g a /\ clAt (zAH g) a = x := by
 induction h with
 | root => exact ⟨_, .root, rfl⟩
 | @step x y hx hy ih =>
  obtain ⟨a, ha, rfl⟩ := ih
  have hra := ha.ok hc
  have hca := zKP hc hra
  rw [zJR ⟨hca.1, hca.2.1⟩, zJQ hc ⟨hca.1, hca.2.1⟩ hra hca.2.2.2] at hy
  obtain ⟨b, hb, rfl⟩ := List.mem_map.1 hy
  exact ⟨b, ha.step hb, rfl⟩
def qL (g : Graph) (a : Int) : Int := (zBx (zAM (clsG g)) (clAt (zAH g) a) : Nat)
theorem zKb {g : Graph} (hc : zAF g = 0) : zAv g = zCE (clsG g) := by rw [zAv, if_pos hc]; rfl
theorem zCa {g : Graph} (hc : zAF g = 0) : Quo g (zAv g) (qL g) := by
 have T := zHX (zEE hc)
 rw [zKb hc]
 refine ⟨T.root, fun i hi => ?_, fun x h0 h1 => ?_, fun i hi => T.range _ (zGk hc hi), fun i j hi hj hf he => ?_, T.check⟩
 ·have hri := hi.ok hc
  have hci := zKP hc hri
  have := T.node _ (zGk hc hi)
  rw [zJR ⟨hci.1, hci.2.1⟩, zJQ hc ⟨hci.1, hci.2.1⟩ hri hci.2.2.2] at this
  refine Eq.trans this ?_
  simp only [mapN, List.map_map]
  rfl
 ·obtain ⟨y, hy, rfl⟩ := T.surj x h0 h1
  obtain ⟨a, ha, rfl⟩ := cls_back hc hy
  exact ⟨a, ha, rfl⟩
 ·have hri := hi.ok hc
  have hrj := hj.ok hc
  have h1 := (zFl ((zEO (zEE hc) _).2 (zGk hc hi))).2
  have h2 := (zFl ((zEO (zEE hc) _).2 (zGk hc hj))).2
  have he : ((zBx (zAM (clsG g)) (clAt (zAH g) i) : Nat) : Int) = (zBx (zAM (clsG g)) (clAt (zAH g) j) : Nat) := he
  have he' : zBx (zAM (clsG g)) (clAt (zAH g) i) = zBx (zAM (clsG g)) (clAt (zAH g) j) := by omega
  rw [he', h2] at h1
  exact (zLt hc hri hrj (Option.some.inj h1).symm).1 (.inl hf)
theorem qL_inj {g : Graph} (hc : zAF g = 0) {i j : Int} (hi : Rch g i) (hj : Rch g j) (he : qL g i = qL g j) : clAt (zAH g) i = clAt (zAH g) j := by
 have h1 := (zFl ((zEO (zEE hc) _).2 (zGk hc hi))).2
 have h2 := (zFl ((zEO (zEE hc) _).2 (zGk hc hj))).2
 have he : ((zBx (zAM (clsG g)) (clAt (zAH g) i) : Nat) : Int) = (zBx (zAM (clsG g)) (clAt (zAH g) j) : Nat) := he
 have he' : zBx (zAM (clsG g)) (clAt (zAH g) i) = zBx (zAM (clsG g)) (clAt (zAH g) j) := by omega
 rw [he', h2] at h1
 exact (Option.some.inj h1).symm
theorem zLM {g : Graph} (hc : zAF g = 0) : Least (zAv g) := by
 have Q := zCa hc
 intro E hE x y hxy
 obtain ⟨⟨x0, x1⟩, ⟨y0, y1⟩, _⟩ := hE x y hxy
 obtain ⟨i, hi, rfl⟩ := Q.surj x x0 x1
 obtain ⟨j, hj, rfl⟩ := Q.surj y y0 y1
 have key : clAt (zAH g) ((i.toNat : Nat) : Int) = clAt (zAH g) ((j.toNat : Nat) : Int) := by
  refine zHC (E := fun a b => Rch g (a : Int) /\ Rch g (b : Int) /\ (qL g (a : Int) = qL g (b : Int) \/ E (qL g (a : Int)) (qL g (b : Int)))) ?_ ?_
  ·rintro a b ⟨ha, hb, hab⟩
   have hra := ha.ok hc
   have hrb := hb.ok hc
   refine ⟨by omega, by omega, ?_⟩
   have h := show _ \/ _ from (by
    rcases hab with h | h
    ·exact .inl h
    ·exact (hE _ _ h).2.2)
   have na := Q.node _ ha
   have nb := Q.node _ hb
   rw [<- zHx, <- zHx]
   by_cases hf : zAU (zAB g (a : Int)) = true
   ·refine .inl ?_
    rcases h with h | ⟨h, _⟩
    ·have := Q.inj _ _ ha hb hf h; omega
    ·rw [na] at h
     have : zAU (zAB g (a : Int)) = false := h
     rw [hf] at this; cases this
   by_cases hf' : zAU (zAB g (b : Int)) = true
   ·refine .inl ?_
    rcases h with h | ⟨_, h, _⟩
    ·have := Q.inj _ _ hb ha hf' h.symm; omega
    ·rw [nb] at h
     have : zAU (zAB g (b : Int)) = false := h
     rw [hf'] at this; cases this
   refine .inr ⟨by simpa using hf, by simpa using hf', ?_⟩
   have hsame : (zAB g (a : Int)).kind = (zAB g (b : Int)).kind /\ (zAB g (a : Int)).name = (zAB g (b : Int)).name /\ (zAB g (a : Int)).labels = (zAB g (b : Int)).labels /\ (zAB g (a : Int)).args.length = (zAB g (b : Int)).args.length ∧
     ∀ (k : Nat) (c d : Int), (zAB g (a : Int)).args[k]? = some c -> (zAB g (b : Int)).args[k]? = some d -> (qL g c = qL g d \/ E (qL g c) (qL g d)) := by
    rcases h with h | ⟨_, _, h1, h2, h3, h4, h5⟩
    ·rw [h] at na
     rw [na] at nb
     have e0 := congrArg Node.kind nb
     have e1' := congrArg Node.name nb
     have e2' := congrArg Node.labels nb
     have e3' := congrArg Node.args nb
     simp only at e0 e1' e2' e3'
     refine ⟨e0, e1', e2', by simpa using congrArg List.length e3', fun k c d hcc hdd => ?_⟩
     have := congrArg (fun l => l[k]?) e3'
     simp only [List.getElem?_map, hcc, hdd, Option.map_some, oI] at this
     exact .inl this
    ·rw [na, nb] at h1 h2 h3 h4 h5
     simp only at h1 h2 h3 h4 h5
     refine ⟨h1, h2, h3, by simpa using h4, fun k c d hcc hdd => ?_⟩
     exact .inr <| h5 k _ _ (by rw [List.getElem?_map, hcc]; rfl) (by rw [List.getElem?_map, hdd]; rfl)
   obtain ⟨h1, h2, h3, h4, h5⟩ := hsame
   refine ⟨h1, h2, h3, h4, fun k c d hcc hdd => ?_⟩
   have hc1 := ha.step (List.mem_of_getElem? hcc)
   have hd1 := hb.step (List.mem_of_getElem? hdd)
   have hc2 := hc1.ok hc
   have hd2 := hd1.ok hc
   have e1' : ((c.toNat : Nat) : Int) = c := by omega
   have e2' : ((d.toNat : Nat) : Int) = d := by omega
   show Rch g ((c.toNat : Nat) : Int) /\ Rch g ((d.toNat : Nat) : Int) /\ (qL g ((c.toNat : Nat) : Int) = qL g ((d.toNat : Nat) : Int) \/ E (qL g ((c.toNat : Nat) : Int)) (qL g ((d.toNat : Nat) : Int)))
   rw [e1', e2']
   exact ⟨hc1, hd1, h5 k c d hcc hdd⟩
  ·have e1' : ((i.toNat : Nat) : Int) = i := by have := hi.ok hc; omega
   have e2' : ((j.toNat : Nat) : Int) = j := by have := hj.ok hc; omega
   rw [e1', e2']
   exact ⟨hi, hj, .inr hxy⟩
 have e1' : ((i.toNat : Nat) : Int) = i := by have := hi.ok hc; omega
 have e2' : ((j.toNat : Nat) : Int) = j := by have := hj.ok hc; omega
 rw [e1', e2'] at key
 show ((zBx (zAM (clsG g)) (clAt (zAH g) i) : Nat) : Int) = (zBx (zAM (clsG g)) (clAt (zAH g) j) : Nat)
 rw [key]
end Go.Ab.S
end
section
namespace Go.Ab.S
open Go.Ab
set_option maxHeartbeats 1000000
theorem zCO : ∀ (ns : List Node) (i : Nat), zAk [] ns i = (ns.map fun n => n.args.length).sum
 | [], _ => rfl
 | n :: r, i => by simp only [zAk, List.map_cons, List.sum_cons, zCO r (i + 1)]; simp
theorem zGF (g : Graph) : (allN g.nodes.length).map (zAB g) = g.nodes := by
 apply List.ext_getElem?
 intro i
 simp only [allN, List.map_map, List.getElem?_map]
 by_cases hi : i < g.nodes.length
 ·rw [List.getElem?_range hi]; simp [zAB, hi]
 ·rw [List.getElem?_eq_none (by simpa using hi), List.getElem?_eq_none (by simpa using hi)]; rfl
theorem zOa {g : Graph} (hg : GTi g) (hc : zAF g = 0) : GTi (zCE g) := by
 have hlen : (zCE g).nodes.length = (zAM g).length := by simp [zCE]
 have hl := zMY hc
 have hsum : zAk [] (zCE g).nodes 0 <= zAk [] g.nodes 0 := by
  obtain ⟨h1, h2⟩ := zCc g
  have := zLg (fun a => (zAB g a).args.length) (zAM g) (allN g.nodes.length) h2 fun x hx => zHU.2 (h1 x hx)
  rw [zCO, zCO]
  have e : (g.nodes.map fun n => n.args.length) = (allN g.nodes.length).map fun a => (zAB g a).args.length := by
   conv => lhs; rw [<- zGF g]
   rw [List.map_map]; rfl
  rw [e]
  simp only [zCE, List.map_map]
  have e2 : ((fun n : Node => n.args.length) ∘ fun i => zEw (zAM g) (zAB g i)) = fun a => (zAB g a).args.length := by
   funext a; simp [zEw]
  rw [e2]; exact this
 have hin : ∀ n ∈ (zCE g).nodes, ∃ m ∈ g.nodes, n.args.length = m.args.length /\ n.labels = m.labels := by
  intro n hn
  obtain ⟨i, hi, rfl⟩ := List.mem_map.1 hn
  exact ⟨_, zFG ((zCc g).1 i hi), by simp [zEw], rfl⟩
 have ht := hg.tinyN
 have hto := hg.total
 refine ⟨⟨⟨by rw [hlen]; have := hg.nodes; omega, fun n hn => ?_⟩, by rw [hlen]; omega, fun n hn => ?_⟩, by rw [hlen]; omega, fun n hn => ?_⟩
 ·obtain ⟨m, hm, h1, h2⟩ := hin n hn
  have := hg.all m hm
  exact ⟨by rw [h1]; exact this.args, by rw [h2]; exact this.labels, by rw [h2]; exact this.texts⟩
 ·obtain ⟨m, hm, h1, h2⟩ := hin n hn
  rw [h2]; exact hg.labs m hm
 ·obtain ⟨m, hm, h1, h2⟩ := hin n hn
  rw [h1]; exact hg.tinyA m hm
theorem zMm {g : Graph} (hg : GTi g) (hc : zAF g = 0) : GTi (zAv g) := by
 rw [zKb hc]
 exact zOa (hg.map _ _) (zEE hc)
end Go.Ab.S
end
