import Derived.Test.YtpmndmiohaaokaaGreatDoorP26
import Derived.Test.YtpmndmiohaaokaaGreatDoorP28
import Derived.Test.YtpmndmiohaaokaaGreatDoorP29
import Derived.LaidHandle
import Derived.Lay
import Derived.Deep.DeepWitnessRowRef
import Derived.ProofKit
import Derived.KernelRfl
import Derived.JoinedCond
import Derived.SevenTiedAt
/-
  Part 30 of the proof.
-/
set_option linter.all false
section
namespace Go.Ab.S
open Go Go.Ab
set_option maxHeartbeats 8000000
section
variable {fns : FnsT} {summ : SumT} {ro : Option Nat}
theorem zSS {d : Option Tmp} {l : List Step} {a : AAct} {h : AHeap} {K : AAct -> AHeap -> Prop} (k : St fns summ ro l (putA a d .slice0) h K) : St fns summ ro (⟨d, none, .e .bslice0⟩ :: l) a h K :=
 st_t (by intro _ _ hh; cases hh) (by intro _ _ hh; cases hh) (v := .slice0) (h' := h) rfl k
theorem zKI {e : TypeId} {bytes sz : Nat} {d : Option Tmp} {x y : AOpd} {l : List Step} {a : AAct} {h : AHeap} {K : AAct -> AHeap -> Prop} {v : AVal} {xs : List (List AVal)} (hx : ev a x = some .slice0) (hy : ev a y = some v) (hv : SlAt h sz v xs) (hz : 0 < sz) (ho : xs.flatten.all one = true) (hr : zCo bytes xs.length = true) (w : WF h)
  (k : ∀ r h', Built h' h.next e sz r xs.length xs.flatten -> Grow h h' -> St fns summ ro l (putA a d r) h' K) : St fns summ ro (⟨d, none, .e (.append e sz bytes x y)⟩ :: l) a h K := by
 by_cases hx0 : xs = []
 ·subst hx0
  have hla : lenA v = some 0 := by
   have := hv.1
   cases v <;> first | exact this | cases this
  refine st_t (by intro _ _ hh; cases hh) (by intro _ _ hh; cases hh) (v := .slice0) (h' := h) ?_ (k _ _ (.inr (.inl ⟨rfl, rfl, rfl⟩)) (Grow.refl w))
  simp only [zBT, hx, hy, zEU, hla]
 ·exact zEv hx hy hv hz (.inr hx0) ho hr w k
end
def RowV (h : AHeap) (vs : List AVal) (l : List Node) : Prop := l.length * 5 <= vs.length /\ ∀ i n, l[i]? = some n -> ∃ c, NodeAt h c n /\ ∀ k, k < 5 -> vs[i * 5 + k]? = c[k]?
theorem zFs {h : AHeap} {c : List AVal} {n : Node} (k : NodeAt h c n) : c.length = 5 := by obtain ⟨_, _, rfl, _⟩ := k; rfl
theorem RowV.at {h h' : AHeap} {vs : List AVal} {l : List Node} (k : RowV h vs l) (g : Grow h h') {b ver : Nat} {ro : Bool} {e : TypeId} (hb : h'.objs.get b = some (ver, .cells ro e vs)) : NodesAt h' (.slice (some (b, 0)) l.length) l := by
 obtain ⟨k1, k2⟩ := k
 have hseg : ∀ i n, l[i]? = some n -> NodeAt h ((vs.drop (i * 5)).take 5) n := fun i n hn => by
  obtain ⟨c, hc, hcs⟩ := k2 i n hn
  have : (vs.drop (i * 5)).take 5 = c := by
   apply List.ext_getElem?
   intro m
   have := zFs hc
   by_cases hm : m < 5
   ·rw [List.getElem?_take, if_pos hm, List.getElem?_drop]; exact hcs m hm
   ·rw [List.getElem?_take, if_neg hm, List.getElem?_eq_none (by omega)]
  rw [this]; exact hc
 refine ⟨(List.range l.length).map fun i => (vs.drop (i * 5)).take 5, ⟨by simp [lenO], fun i x hx => ?_⟩, by simp, fun i n c hn hc => ?_⟩
 ·simp only [zgM, Option.map_eq_some_iff, List.getElem?_range'] at hx
  obtain ⟨j, hj, rfl⟩ := hx
  obtain ⟨hjl, rfl⟩ := zgS.1 hj
  rw [List.getElem_range]
  have hil : i < l.length := by simpa using hjl
  exact ⟨zFs (hseg i _ (zgG hil)), b, 0 + i * 5, ver, ro, e, vs, by simp [slA, hil], hb, by rw [Nat.zero_add]⟩
 ·simp only [zgM, Option.map_eq_some_iff] at hc
  obtain ⟨j, hj, rfl⟩ := hc
  obtain ⟨hjl, rfl⟩ := zgS.1 hj
  rw [List.getElem_range]
  exact (hseg i n hn).mono g
def RowM (hA hp : AHeap) (vs : List AVal) (l : List Node) : Prop := l.length * 5 <= vs.length /\ ∀ (i : Nat) n, l[i]? = some n -> ∃ c, NodeM hA hp c n /\ ∀ k, k < 5 -> vs[i * 5 + k]? = c[k]?
theorem RowM.stay {hA hp hq : AHeap} {vs : List AVal} {l : List Node} (k : RowM hA hp vs l) (hk : ∀ b p, hA.next <= b -> hp.objs.get b = some p -> (∃ ws, p.2 = .cells false 3 ws) -> hq.objs.get b = some p) : RowM hA hq vs l :=
 ⟨k.1, fun i n hn => by
  obtain ⟨c, h1, h2⟩ := k.2 i n hn
  exact ⟨c, h1.stay hk, h2⟩⟩
theorem RowM.set {hA hp : AHeap} {vs vs' : List AVal} {l : List Node} (k : RowM hA hp vs l) {j : Nat} {n : Node} (hj : j < l.length) (hl : vs'.length = vs.length) (hn : ∃ c, NodeM hA hp c n /\ ∀ k, k < 5 -> vs'[j * 5 + k]? = c[k]?) (ho : ∀ i, i < j * 5 \/ j * 5 + 5 <= i -> vs'[i]? = vs[i]?) : RowM hA hp vs' (l.set j n) := by
 refine ⟨by rw [List.length_set, hl]; exact k.1, fun i m hm => ?_⟩
 by_cases hij : j = i
 ·subst hij
  rw [List.getElem?_set_self hj] at hm
  cases hm
  exact hn
 ·rw [List.getElem?_set_ne hij] at hm
  obtain ⟨c, hc, hcs⟩ := k.2 i m hm
  refine ⟨c, hc, fun q hq => ?_⟩
  rw [<- hcs q hq]
  exact ho _ (by omega)
theorem RowM.nodes {hA hp : AHeap} {vs : List AVal} {l : List Node} (k : RowM hA hp vs l) (g : Grow hA hp) {b ver : Nat} {ro : Bool} {e : TypeId} (hb : hp.objs.get b = some (ver, .cells ro e vs)) : NodesAt hp (.slice (some (b, 0)) l.length) l :=
 RowV.at (h := hp) ⟨k.1, fun i n hn => by
  obtain ⟨c, h1, h2⟩ := k.2 i n hn
  exact ⟨c, h1.at g, h2⟩⟩ (Grow.refl g.wf) hb
theorem zRM {h h' : AHeap} {base n : Nat} {e : TypeId} {v : AVal} {l : List Node} {cs : List (List AVal)} (B : Built h' base e 5 v n cs.flatten) (hn : n = l.length) (hcl : cs.length = l.length) (hc : ∀ (i : Nat) (n : Node) (c : List AVal), l[i]? = some n -> cs[i]? = some c -> NodeAt h c n) (hpos : 0 < n) :
  ∃ b vs ver, base <= b /\ v = .slice (some (b, 0)) n /\ h'.objs.get b = some (ver, .cells false e vs) /\ RowM h h' vs l := by
 rcases B with ⟨_, h0, _⟩ | ⟨_, h0, _⟩ | ⟨b, vs, ver, h0, h1, h2, h3, h4⟩
 ·omega
 ·omega
 refine ⟨b, vs, ver, h0, h1, h2, by rw [<- hn]; exact h3, fun i m hm => ?_⟩
 have hil : i < l.length := (zgS.1 hm).1
 have hic : i < cs.length := by omega
 have hN := hc i m _ hm (zgG hic)
 obtain ⟨av, lv, q1, q2, q3⟩ := hN
 refine ⟨_, ⟨av, lv, q1, .inl q2, q3⟩, fun k hk => ?_⟩
 have hflat : ∀ (ys : List (List AVal)), (∀ c ∈ ys, c.length = 5) -> ∀ (j : Nat) (hj : j < ys.length) (k : Nat), k < 5 -> ys.flatten[j * 5 + k]? = ys[j][k]? := by
  intro ys
  induction ys with
  | nil => intro _ j hj; simp at hj
  | cons y ys ih =>
   intro hall j hj k hk
   have hy : y.length = 5 := hall y (by simp)
   rw [List.flatten_cons]
   cases j with
   | zero => rw [List.getElem?_append_left (by omega)]; simp
   | succ j =>
    rw [List.getElem?_append_right (by omega), hy, List.getElem_cons_succ, <- ih (fun c hc => hall c (by simp [hc])) j (by simpa using hj) k hk]
    congr 1; omega
 have hall : ∀ c ∈ cs, c.length = 5 := fun c hcm => by
  obtain ⟨q, hq, rfl⟩ := List.mem_iff_getElem.1 hcm
  exact zFs (hc q _ _ (zgG (by omega : q < l.length)) (zgG hq))
 rw [<- hflat cs hall i hic k hk, <- h4, List.getElem?_take, if_pos (by omega)]
theorem zOf (l : List Int) : (l.map (AVal.int .i64)).all one = true := by rw [List.all_eq_true]; intro x hx; obtain ⟨p, _, rfl⟩ := List.mem_map.1 hx; rfl
def zFt (x y : Int) (l : List Node) (j : Nat) : List Node := (l.take j).map (putV x y) ++ l.drop j
theorem zKh (x y : Int) (l : List Node) (j : Nat) : (zFt x y l j).length = l.length := by simp [zFt]; omega
theorem zPc {x y : Int} {l : List Node} {j : Nat} (hj : j < l.length) : (zFt x y l j)[j]? = some l[j] := by
 rw [zFt, List.getElem?_append_right (by simp; omega)]; simp [Nat.min_eq_left (Nat.le_of_lt hj), hj]
theorem zOH {x y : Int} {l : List Node} {j : Nat} (hj : j < l.length) : (zFt x y l j).set j (putV x y l[j]) = zFt x y l (j + 1) := by
 have hl : ((l.take j).map (putV x y)).length = j := by simp; omega
 rw [zFt, List.set_append_right _ _ (by omega), hl, Nat.sub_self, List.drop_eq_getElem_cons hj, List.set_cons_zero, zFt, List.take_succ_eq_append_getElem hj, List.map_append, List.append_assoc]
 rfl
theorem zOG (x y : Int) (l : List Node) : zFt x y l l.length = l.map (putV x y) := by simp [zFt]
theorem LstF_same {f : Int -> Int} {args : List Int} {i : Nat} (h : i < args.length) (hf : f args[i] = args[i]) : LstF f args (i + 1) = LstF f args i := by
 rw [<- LstF_set h, hf]
 apply List.ext_getElem?
 intro k
 by_cases hk : i = k
 ·subst hk
  rw [List.getElem?_set_self (by rw [LstF_len]; exact h), LstF_get h]
 ·rw [List.getElem?_set_ne hk]
section
variable {fns : FnsT} {summ : SumT}
variable (H : Has fns summ) (HS : HasSort summ) (HA : HasAs summ) (HR : HasRead summ)
include H HS HA HR
theorem SolveVars_ok (g : Graph) (hg : Sane g) (a8 b8 : Nat) (ha8 : a8 < 256) (hb8 : b8 < 256) (v : AVal) (h0 : AHeap) (hw : WF h0) (hv : GraphAt h0 v g) : Cl fns summ 9 [v, .int .u8 (a8 : Nat), .int .u8 (b8 : Nat)] h0 fun r h' => r = .bool true /\ Grow h0 h' := by
 obtain ⟨nv, rfl, hN⟩ := hv
 have hpart : zBN (some 2) [nv, .int .i64 g.root] 0 = some (.agg [nv, .int .i64 g.root]) := rfl
 have ht2 : ∀ x y : AVal, List.take 2 [x, y] = [x, y] := fun _ _ => rfl
 have hlen := hN.len
 refine H.go (fn := F_SolveVars) rfl (by decide) rfl rfl ?_
 unfold F_SolveVars
 dsimp only [qQ, qE, qN, gQ, gE, vi, tm, mt, lo, fa]
 refine zAE (zAD ?_)
 refine zBk (by exact e1) (by exact cc) hw ?_
 rintro b3 h1 hb3 g1 o3
 repeat with_reducible first | refine zAA ?_ | refine zAC ?_ | refine zAE ?_ | refine zAD ?_ | (apply st_q; exact q1)
 refine zAb (by exact s1) ((zMY H HS HA HR h1 g1.wf).mono ?_)
 rintro _ h2 ⟨rfl, g2⟩
 replace o3 := g2.keep _ _ o3
 have G := g1.trans g2
 clear g1 g2
 repeat with_reducible first | refine zAA ?_ | refine zAC ?_ | refine zAE ?_ | refine zAD ?_ | refine zAS ?_ | (apply st_q; exact q1) | (apply zAL; exact e1)
 refine zAb (by exact s1) ((Great_ok H g hg.great _ h2 G.wf ⟨nv, rfl, hN.mono G⟩).mono ?_)
 rintro _ h3 ⟨rfl, g3⟩
 replace o3 := g3.keep _ _ o3
 replace G := G.trans g3
 clear g3
 cases c1 : decide ((zEx g : Int) > 300)
 rotate_left
 ·repeat' with_reducible first | refine zAA ?_ | refine zAg ?_ | refine zAC ?_ | refine zAE ?_ | refine zAD ?_ | refine zAR ?_ | (apply st_q; exact q1) | (apply zEr; exact e1) | (apply zHF; exact e1) | (apply zAK; exact e1) | (apply zAI; exact n1; exact r1)
  exact ⟨rfl, G⟩
 have tg : Hid (zEx g <= 300) := ⟨by have := of_decide_eq_false c1; omega⟩
 repeat with_reducible first | (apply st_q; exact q1) | (apply zCJ; exact e1; exact q1)
 refine zCd (by exact e1) (by exact s1) ((Check_ok H g hg.sm _ h3 G.wf ⟨nv, rfl, hN.mono G⟩).mono ?_)
 rintro _ h4 ⟨rfl, g4⟩
 replace o3 := g4.keep _ _ o3
 replace G := G.trans g4
 clear g4
 cases c2 : (zAF g != 0)
 rotate_left
 ·repeat' with_reducible first | refine zAA ?_ | refine zAg ?_ | refine zAC ?_ | refine zAE ?_ | refine zAD ?_ | refine zAR ?_ | (apply st_q; exact q1) | (apply zCJ; exact e1; exact q1) | (apply zAK; exact e1) | (apply zAI; exact n1; exact r1)
  exact ⟨rfl, G⟩
 have F : Hid (Few 300 g) := ⟨⟨hg.tiny (by have := tg.out; omega), by simpa using c2, by have := zKQ g; have := tg.out; omega⟩⟩
 have hNp : 0 < g.nodes.length := by have := zAU F.out.c; omega
 have hN4 : g.nodes.length <= 4096 := F.out.t.tinyN
 have wx : IntKind.i64.wrap ((a8 : Nat) : Int) = ((a8 : Nat) : Int) := zAq (by omega) (by omega)
 have wy : IntKind.i64.wrap ((b8 : Nat) : Int) = ((b8 : Nat) : Int) := zAq (by omega) (by omega)
 obtain ⟨x, hx⟩ : ∃ x, x = a8 % g.nodes.length := ⟨_, rfl⟩
 obtain ⟨y, hy⟩ : ∃ y, y = b8 % g.nodes.length := ⟨_, rfl⟩
 have hxN : x < g.nodes.length := by rw [hx]; exact Nat.mod_lt _ hNp
 have hyN : y < g.nodes.length := by rw [hy]; exact Nat.mod_lt _ hNp
 have rmx : Int.tmod ((a8 : Nat) : Int) (Int.ofNat g.nodes.length) = ((x : Nat) : Int) := by rw [hx]; rfl
 have rmy : Int.tmod ((b8 : Nat) : Int) (Int.ofNat g.nodes.length) = ((y : Nat) : Int) := by rw [hy]; rfl
 have hnz : Int.ofNat g.nodes.length ≠ 0 := by simp only [Int.ofNat_eq_natCast]; omega
 clear hx hy
 repeat with_reducible first | refine zAA ?_ | refine zAC ?_ | refine zAE ?_ | refine zAD ?_ | refine zAS ?_ | refine zBm ?_ | refine zBI ?_ | (apply dr_q; exact q1) | (apply zCg; exact q1; exact og1) | (apply st_q; exact q1) | (apply zCJ; exact e1; exact q1) | (apply zAL; exact e1)
 obtain ⟨bn, on, vern, ron, en, vsn, av, lv, hixn, hgn0, hvl, hv5, w0, w1, w2, w3, w4, ha, hl⟩ := hN.at (zgG hxN)
 have hgn := G.keep _ _ hgn0
 clear ha hl hgn0
 cases c3 : (g.nodes[x].kind != 1)
 rotate_left
 ·repeat' with_reducible first | refine zAA ?_ | refine zAg ?_ | refine zAC ?_ | refine zAE ?_ | refine zAD ?_ | refine zAR ?_ | (apply st_q; exact q1) | (apply zAK; exact e1) | (apply zAI; exact n1; exact r1)
  exact ⟨rfl, G⟩
 have iX : Hid (InG g (x : Int) /\ InG g (y : Int) /\ (zAB g (x : Int)).kind = 1) := ⟨⟨by omega, by omega⟩, ⟨by omega, by omega⟩, by
  have : zAB g (x : Int) = g.nodes[x] := by simp [zAB, hxN]
  rw [this]; simpa using c3⟩
 refine zII (fun A => A.defers = [] /\ ev A (.tmp 3) = some (.ptr (some (b3, 0))) /\ ev A (.tmp 7) = some (.int .i64 (x : Nat)) /\ ev A (.tmp 8) = some (.int .i64 (y : Nat)) /\ ev A (.tmp 39) = some nv /\ ev A (.tmp 40) = some (.int .i64 (x : Nat))) ⟨by exact n1, by exact e1, by exact e1, by exact e1, by exact e1, by exact e1⟩ ?_
 rintro a ⟨hd, t3', t7', t8', t39', t40'⟩
 clear rmx rmy wx wy hnz
 repeat with_reducible first | refine zAA ?_ | refine zAC ?_ | refine zAE ?_ | refine zAD ?_ | refine zAS ?_ | (apply zIK; exact e1; exact e1) | (apply st_q; exact q1) | (apply zAL; exact e1)
 clear w0 w1 w2 w3 w4 hv5 hvl hixn hgn c3 t39' t40'
 refine zAp (by exact e1) (cs := [.int .i64 (x : Nat), .int .i64 (y : Nat)]) rfl rfl rfl G.wf ?_
 rintro bx hX hbx gX ox
 have hpr : PrsAt hX (.slice (some (bx, 0)) 1) [((x : Int), (y : Int))] := by
  have B : Built hX h4.next 40 2 (.slice (some (bx, 0)) 1) 1 [.int .i64 (x : Nat), .int .i64 (y : Nat)] := .inr (.inr ⟨bx, _, _, hbx, rfl, ox, by simp, rfl⟩)
  exact B.sl (by decide) (xs := [zCY ((x : Int), (y : Int))]) (by simp [zCY]) (by intro c hc; rw [List.mem_singleton.1 hc]; rfl) (by simp)
 replace o3 := gX.keep _ _ o3
 replace G := G.trans gX
 have hsz : (g.nodes.length + 1) * (zAj [] g.nodes 0 + 1) + 1 <= 2 ^ 30 := by
  have h1 := F.out.s
  have : (g.nodes.length + 1) * (zAj [] g.nodes 0 + 1) <= 301 * 301 := Nat.mul_le_mul (by omega) (by omega)
  have e30 : (2 : Nat) ^ 30 = 1073741824 := by decide
  omega
 have huni := Hid.mk (Unify_ok H HS HA g F.out.t [((x : Int), (y : Int))] (by simp) (by have := F.out.s; omega) (by simpa using hsz) G.wf (gv := .agg [nv, .int .i64 g.root]) ⟨nv, rfl, hN.mono G⟩ hpr)
 clear ox hpr gX hsz
 refine zAb (by exact s1) (huni.out.mono ?_)
 rintro _ hU ⟨gU, uv, rv, code, rfl, hz, hcases⟩
 obtain ⟨rfl, U, R, O, own, Br⟩ : code = 0 /\ ∃ U R, UOut g [((x : Int), (y : Int))] U R /\ OwnG hU hX.next uv U /\ Built hU hX.next 3 1 rv R.length (R.map (AVal.int .i64)) := by
  obtain ⟨i1, i2, i3⟩ := iX.out
  rcases hcases with ⟨k1, k2⟩ | ⟨_, _, p, hp1, hp2⟩ | ⟨_, _, _, k2⟩ | ⟨_, k, _, k2⟩
  ·exact absurd (k1.trans F.out.c) k2
  ·rw [List.mem_singleton.1 hp1] at hp2
   simp only [zEp, decide_eq_false_iff_not] at hp2
   exact absurd ⟨i1.1, i2.1, i1.2, i2.2⟩ hp2
  ·exact absurd (zOX F.out.c i1 i2 i3) k2
  ·exact ⟨k, k2⟩
 have law := Hid.mk (zPz F.out iX.out.1 iX.out.2.1 iX.out.2.2 O)
 have lR := O.lenR
 obtain ⟨un, csU, rfl, kB, kl, kn⟩ := own
 have oneU := zAQ kB.len
 have own := Hid.mk (show OwnG hU hX.next (.agg [un, .int .i64 U.root]) U from ⟨un, csU, rfl, kB, kl, kn⟩)
 replace o3 := gU.keep _ _ o3
 have GX := Hid.mk G
 replace G := G.trans gU
 have hR1 : R[x]? = some (min (x : Int) (y : Int)) := by
  have h1 := law.out.1
  rw [zCT, List.getD, zgG (by omega)] at h1
  rw [zgG (by omega)]
  exact congrArg some h1
 have hR2 : R[y]? = some (min (x : Int) (y : Int)) := by
  have h1 := law.out.2.1
  rw [zCT, List.getD, zgG (by omega)] at h1
  rw [zgG (by omega)]
  exact congrArg some h1
 have Br' := Hid.mk Br
 clear kB kl kn hz hcases huni gU O
 repeat with_reducible (apply st_q; exact q1)
 refine zAc G.wf ?_
 rintro b9 hV hb9 gV o9
 refine zAG (v := .agg [un, .int .i64 U.root]) (by exact e1) (by exact e1) (cs := [un, .int .i64 U.root]) rfl rfl gV.wf o9 (by simp) (by simp only [List.all_cons, List.all_nil, oneU, Bool.true_and, Bool.and_true]; rfl) ?_
 rintro vW hW pW o9'
 simp only [zlY, zlA, zlC, zlN, zlD, zlZ, zlE, Nat.zero_add, Nat.reduceAdd, zlX, zlK] at o9'
 have gW : Grow hU hW := pW.grow hU G.wf gV hb9
 replace o3 := gW.keep _ _ o3
 replace G := G.trans gW
 have ownW := Hid.mk ((own.out.grow gW).graph)
 have BrW := zCk (Br'.out.grow gW)
 obtain ⟨bq, oq, verq, rq, eq, vsq, hixq, hgq, hvq⟩ := BrW.at hR1
 obtain ⟨br, or, verr, rr, er, vsr, hixr, hgr, hvr⟩ := BrW.at hR2
 have lrv := BrW.len
 clear o9 pW gV gW own Br' hb9 BrW Br
 have hmin : (if ((y : Nat) : Int) < ((x : Nat) : Int) then ((y : Nat) : Int) else ((x : Nat) : Int)) = min (x : Int) (y : Int) := by omega
 have h00 : ((0 : Int) != 0) = false := rfl
 have hmm : (min (x : Int) (y : Int) != min (x : Int) (y : Int)) = false := by simp
 repeat with_reducible first | refine zAA ?_ | refine zAC ?_ | refine zAE ?_ | refine zAD ?_ | refine zAS ?_ | refine zBI ?_ | (apply dr_q; exact q1) | (apply zCg; exact q1; exact og1) | (apply st_q; exact q1) | (apply zCJ; exact e1; exact q1) | (apply zAL; exact e1)
 clear hixq hgq hvq hixr hgr hvr hR1 hR2 lrv h00 hmm hmin
 refine zBA (zSS ?_)
 refine zAC ⟨by simp [zAa, Nat.testBit, o3], ?_⟩
 have hNW := hN.mono G
 obtain ⟨cs, hS, hcl, hcn⟩ := id hNW
 have hone := zGh cs g.nodes hcl hcn
 have wW := G.wf
 refine zBA (zKI (by exact e1) (by exact e1) hS (by decide) hone (by rw [hcl]; exact zCw H (by decide) (le31 (by omega))) wW ?_)
 rintro bv hY Bv gY
 have o3Y := gY.keep _ _ o3
 have o9Y := gY.keep _ _ o9'
 refine zAC ⟨by simp [zAa, Nat.testBit, o3Y], ?_⟩
 rw [hcl] at Bv
 obtain ⟨bb, vs0, ver0, hbb, rfl, obb, RM0⟩ := zRM Bv rfl hcl hcn hNp
 have GY := Hid.mk (G.trans gY)
 have wY := gY.wf
 refine dr_q (v := .agg [.slice (some (bb, 0)) g.nodes.length, .int .i64 g.root]) (by rw [zBX]; simp only [zCu, zBE, zBL, zBS, if_true, if_false, Nat.reduceEqDiff, zAk]; rfl) ?_
 refine zBA (zAc wY ?_)
 rintro b12 hZ hb12 gZ o12
 have o3Z := gZ.keep _ _ o3Y
 refine zAC ⟨by simp [zAa, Nat.testBit, o3Z], ?_⟩
 refine zBA (zAG (by exact e1) (by exact e1) (cs := [.slice (some (bb, 0)) g.nodes.length, .int .i64 g.root]) rfl rfl gZ.wf o12 (by simp) rfl ?_)
 rintro v1 hA pA oA
 simp only [zlY, zlA, zlC, zlN, zlD, zlZ, zlE, Nat.zero_add, Nat.reduceAdd, zlX, zlK] at oA
 have gA : Grow hY hA := pA.grow hY wY gZ hb12
 have o3A := gA.keep _ _ o3Y
 refine zAC ⟨by simp [zAa, Nat.testBit, o3A], ?_⟩
 have o9A := gA.keep _ _ o9Y
 have obA := gA.keep _ _ obb
 have GA := Hid.mk (gY.trans gA)
 have RMA := Hid.mk (RM0.stay fun b p _ hb _ => gA.keep _ _ hb)
 have lbb := wY.lt obb
 have l9 := wW.lt o9'
 clear o12 pA gZ o3Z o3Y o3A o9Y obb RM0 Bv hS hcn hone
 have nYb : hW.next <= b12 := by have := gY.next; omega
 have ne12 : b12 ≠ bb := by omega
 have wA := GA.out.wf
 have gW9 := Hid.mk ownW.out
 clear gA gY hNW
 repeat with_reducible first | refine zAA ?_ | refine zAC ?_ | refine zAE ?_ | refine zAD ?_ | refine zBm ?_ | (apply st_q; exact q1)
 refine zDD (fun a hq => Hid (Grow hW hq /\ (∃ v, hq.objs.get b12 = some (v, .cells false 24 [.slice (some (bb, 0)) g.nodes.length, .int .i64 (sgV (x : Int) (y : Int) g.root)])) /\ ∃ v vs, hq.objs.get bb = some (v, .cells false 36 vs) /\ RowM hW hq vs (zFt (x : Int) (y : Int) g.nodes 0)) /\ a.defers = [] /\ ev a (.tmp 7) = some (.int .i64 (x : Nat)) /\ ev a (.tmp 8) = some (.int .i64 (y : Nat)) /\ ev a (.tmp 9) = some (.ptr (some (b9, 0))) /\ ev a (.tmp 12) = some (.ptr (some (b12, 0)))) ?_ ?_
 ·have h0t : zFt (x : Int) (y : Int) g.nodes 0 = g.nodes := by simp [zFt]
  rw [h0t]
  cases cz : (g.root == ((x : Nat) : Int))
  ·have hs : sgV (x : Int) (y : Int) g.root = g.root := by rw [sgV, if_neg (by simpa using cz)]
   rw [hs]
   have hfin : Hid (Grow hW hA /\ (∃ v, hA.objs.get b12 = some (v, .cells false 24 [.slice (some (bb, 0)) g.nodes.length, .int .i64 g.root])) /\ ∃ v vs, hA.objs.get bb = some (v, .cells false 36 vs) /\ RowM hW hA vs g.nodes) := ⟨GA.out, ⟨_, oA⟩, _, _, obA, RMA.out⟩
   repeat with_reducible first | refine zAA ?_ | refine zAS ?_ | (apply zAL; exact e1)
   exact ⟨hfin, by exact n1, by exact e1, by exact e1, by exact e1, by exact e1⟩
  ·have hs : sgV (x : Int) (y : Int) g.root = (y : Int) := by rw [sgV, if_pos (by simpa using cz)]
   rw [hs]
   repeat with_reducible first | refine zAD ?_ | (apply st_q; exact q1) | (apply zAK; exact e1)
   refine zAG (by exact e1) (by exact e1) (by exact cc) rfl wA oA (by simp) rfl ?_
   rintro v2 hB2 p2 o2
   simp only [zlY, zlA, zlC, zlN, zlD, zlZ, zlE, Nat.zero_add, Nat.reduceAdd, zlX, zlK, zlT] at o2
   have hfin : Hid (Grow hW hB2 /\ (∃ v, hB2.objs.get b12 = some (v, .cells false 24 [.slice (some (bb, 0)) g.nodes.length, .int .i64 (y : Int)])) /\ ∃ v vs, hB2.objs.get bb = some (v, .cells false 36 vs) /\ RowM hW hB2 vs g.nodes) := ⟨p2.grow hW wW GA.out nYb, ⟨_, o2⟩, _, _, p2.keep bb (Ne.symm ne12) _ obA, RMA.out.stay fun b p _ hb ⟨ws, hp⟩ => p2.keep b (by
    rintro rfl
    rw [oA] at hb
    simp only [oI] at hb
    rw [<- hb] at hp; cases hp) _ hb⟩
   clear p2 o2 oA obA
   repeat with_reducible first | refine zAA ?_ | refine zAC ?_
   exact ⟨hfin, by exact n1, by exact e1, by exact e1, by exact e1, by exact e1⟩
 clear oA obA wA o9A GA
 rintro a hq ⟨I0, hd, t7', t8', t9', t12'⟩
 have o9w := Hid.mk o9'
 obtain ⟨Gq, ⟨v12, o12⟩, vb0, vsb0, ob0, RMq⟩ := I0.out
 have lb : lenO (.slice (some (bb, 0)) g.nodes.length) = some g.nodes.length := rfl
 clear ob0 RMq
 refine zAA ?_
 repeat with_reducible first | refine zAA ?_ | refine zAC ?_ | refine zAE ?_ | refine zAD ?_ | (apply st_q; exact q1)
 refine zAv (N := g.nodes.length) (by omega) (fun j a hp => Hid (Grow hW hp) /\ (∃ v, hp.objs.get b12 = some (v, .cells false 24 [.slice (some (bb, 0)) g.nodes.length, .int .i64 (sgV (x : Int) (y : Int) g.root)])) /\ (∃ v vs, Hid (hp.objs.get bb = some (v, .cells false 36 vs) /\ RowM hW hp vs (zFt (x : Int) (y : Int) g.nodes j))) /\ a.defers = [] /\ ev a (.tmp 7) = some (.int .i64 (x : Nat)) /\ ev a (.tmp 8) = some (.int .i64 (y : Nat)) /\ ev a (.tmp 9) = some (.ptr (some (b9, 0))) /\ ev a (.tmp 12) = some (.ptr (some (b12, 0))))
  (by rintro j a hp t w (rfl | rfl | rfl) ⟨m1, m2, m3, m4, m5, m6, m7, m8⟩ <;> exact ⟨m1, m2, m3, by rw [zAZ]; exact m4, by exact e1, by exact e1, by exact e1, by exact e1⟩) (by decide) ?_ ?_ ⟨⟨Gq⟩, ⟨_, o12⟩, ⟨_, _, ⟨(I0.out.2.2.choose_spec.choose_spec).1, (I0.out.2.2.choose_spec.choose_spec).2⟩⟩, by exact n1, by exact e1, by exact e1, by exact e1, by exact e1⟩ (by exact e1) (by exact e1)
 ·clear I0 o12 Gq
  rintro j a hp hj ⟨Gp, ⟨v12', o12⟩, ⟨vb, vs, hbR⟩, hd, t7', t8', t9', t12'⟩ hi hn
  obtain ⟨ob, hR⟩ := hbR.out
  obtain ⟨c, hcN, hcs⟩ := hR.2 j _ (zPc hj)
  have hmem : g.nodes[j] ∈ g.nodes := List.getElem_mem hj
  have hA4 := F.out.t.tinyA _ hmem
  obtain ⟨av, lv, rfl, ha, hl⟩ := hcN
  have hIa : Hid (IntsAt hp av g.nodes[j].args) := ⟨ha.elim (fun k => k.mono Gp.out) zCk⟩
  obtain ⟨o, ho⟩ : ∃ o, j * 5 = o := ⟨_, rfl⟩
  have hsz := hR.1
  rw [zKh] at hsz
  have hin : o + 5 <= vs.length := by omega
  have hix : slA (.slice (some (bb, 0)) g.nodes.length) 5 j = some (bb, o) := by simp [slA, hj, ho]
  have w2 : vs[o + 2]? = some av := by have := hcs 2 (by omega); rw [ho] at this; simpa using this
  have ws : Hid (∀ k, k < 5 -> vs[o + k]? = ([.int .i64 g.nodes[j].kind, .str g.nodes[j].name, av, lv, .bool g.nodes[j].isOpen] : List AVal)[k]?) := ⟨fun k hk => by rw [<- ho]; exact hcs k hk⟩
  have hl' := Hid.mk hl
  have hR' := Hid.mk hR
  have ho' := Hid.mk ho
  have wp := Gp.out.wf
  clear hcs hR ha hl ho
  repeat with_reducible first | refine zAA ?_ | refine zAC ?_ | refine zAE ?_ | refine zAD ?_ | refine zAP ?_ | (apply st_q; exact q1)
  refine zSS ?_
  repeat with_reducible (apply st_q; exact q1)
  refine zKI (by exact e1) (by exact e1) hIa.out (by decide) (by rw [zHM]; exact zOf _) (by rw [List.length_map]; exact zCw H (by decide) (le31 (by omega))) wp ?_
  intro ci hC BC gC
  rw [List.length_map, zHM] at BC
  have hci := BC.len
  have BC' := Hid.mk BC
  have gC' := Hid.mk gC
  have o12C := gC.keep _ _ o12
  have obC := gC.keep _ _ ob
  have wC := gC.wf
  clear BC gC o12 w2
  repeat with_reducible first | refine zAA ?_ | refine zAC ?_ | refine zAE ?_ | refine zAD ?_ | (apply st_q; exact q1)
  have hlo : LstF (sgV (x : Int) (y : Int)) g.nodes[j].args 0 = g.nodes[j].args := by simp [LstF]
  have hle : Hid (LstF (sgV (x : Int) (y : Int)) g.nodes[j].args g.nodes[j].args.length = (putV (x : Int) (y : Int) g.nodes[j]).args) := ⟨by simp [LstF, putV]⟩
  refine zDD (fun a' hr => Hid (∀ c p, hC.objs.get c = some p -> (∀ n, ci ≠ .slice (some (c, 0)) n) -> hr.objs.get c = some p) /\ Hid (Grow hp hr /\ hC.next <= hr.next) /\ Hid (Built hr hp.next 3 1 ci g.nodes[j].args.length ((LstF (sgV (x : Int) (y : Int)) g.nodes[j].args g.nodes[j].args.length).map (AVal.int .i64))) /\ a'.defers = [] /\ ev a' (.tmp 7) = some (.int .i64 (x : Nat)) /\ ev a' (.tmp 8) = some (.int .i64 (y : Nat)) /\ ev a' (.tmp 9) = some (.ptr (some (b9, 0))) /\ ev a' (.tmp 12) = some (.ptr (some (b12, 0))) /\ ev a' (.tmp 13) = some (.int .i64 (j : Nat)) /\ ev a' (.tmp 14) = some ci /\ ev a' (.tmp 93) = some (.int .i64 (j : Nat)) /\ ev a' (.tmp 92) = some (.int .i64 (g.nodes.length : Nat))) ?_ ?_
  ·refine zAv (N := g.nodes[j].args.length) (by omega) (fun i a' hr => Hid (∀ c p, hC.objs.get c = some p -> (∀ n, ci ≠ .slice (some (c, 0)) n) -> hr.objs.get c = some p) /\ Hid (Grow hp hr /\ hC.next <= hr.next) /\ Hid (Built hr hp.next 3 1 ci g.nodes[j].args.length ((LstF (sgV (x : Int) (y : Int)) g.nodes[j].args i).map (AVal.int .i64))) /\ a'.defers = [] /\ ev a' (.tmp 7) = some (.int .i64 (x : Nat)) /\ ev a' (.tmp 8) = some (.int .i64 (y : Nat)) /\ ev a' (.tmp 9) = some (.ptr (some (b9, 0))) /\ ev a' (.tmp 12) = some (.ptr (some (b12, 0))) /\ ev a' (.tmp 13) = some (.int .i64 (j : Nat)) /\ ev a' (.tmp 14) = some ci /\ ev a' (.tmp 93) = some (.int .i64 (j : Nat)) /\ ev a' (.tmp 92) = some (.int .i64 (g.nodes.length : Nat)))
    (by rintro i a' hr t w (rfl | rfl | rfl) ⟨m1, m2, m3, m4, m5, m6, m7, m8, m9, m10, m11, m12⟩ <;> exact ⟨m1, m2, m3, by rw [zAZ]; exact m4, by exact e1, by exact e1, by exact e1, by exact e1, by exact e1, by exact e1, by exact e1, by exact e1⟩) (by decide) ?_ ?_
    ⟨⟨fun c p hc _ => hc⟩, ⟨gC'.out, Nat.le_refl _⟩, ⟨by rw [hlo]; exact BC'.out⟩, by exact n1, by exact e1, by exact e1, by exact e1, by exact e1, by exact e1, by exact e1, by exact e1, by exact e1⟩ (by exact e1) (by exact e1)
   ·clear hd t7' t8' t9' t12' hi hn hlo o12C obC
    rintro i a' hr hil ⟨hkp, gr, hBB, hd, t7', t8', t9', t12', t13', t14', t93', t92'⟩ hi hn
    have hB := hBB.out
    rcases hB with ⟨_, hh, _⟩ | ⟨_, hh, _⟩ | ⟨ba, vsa, vera, hba, hcq, hga, hla', hta⟩
    ·omega
    ·omega
    rw [Nat.mul_one] at hla' hta
    have hixa : slA ci 1 i = some (ba, i) := by rw [hcq]; simp [slA, hil]
    have hva : vsa[i]? = some (.int .i64 g.nodes[j].args[i]) := by
     have := congrArg (fun l => l[i]?) hta
     simp only [List.getElem?_take, if_pos hil, zgM, LstF_get hil, Option.map_some] at this
     exact this
    have hcq' := Hid.mk hcq
    have hta' := Hid.mk hta
    have wr := gr.out.1.wf
    clear hcq hta hBB
    cases hz : (g.nodes[j].args[i] == ((x : Nat) : Int))
    ·have hsame := LstF_same (f := sgV (x : Int) (y : Int)) hil (by rw [sgV, if_neg (by simpa using hz)])
     have K3 : Hid (Built hr hp.next 3 1 ci g.nodes[j].args.length ((LstF (sgV (x : Int) (y : Int)) g.nodes[j].args (i + 1)).map (AVal.int .i64))) := ⟨by rw [hsame]; exact .inr (.inr ⟨ba, vsa, vera, hba, hcq'.out, hga, by omega, by rw [Nat.mul_one]; exact hta'.out⟩)⟩
     clear hsame
     repeat with_reducible first | refine zAA ?_ | refine zAO ?_ | refine zAC ?_ | refine zAE ?_ | refine zAD ?_ | refine zAP ?_ | refine zAS ?_ | (apply st_q; exact q1) | (apply zAL; exact e1)
     exact ⟨⟨hkp, gr, K3, by exact n1, by exact e1, by exact e1, by exact e1, by exact e1, by exact e1, by exact e1, by exact e1, by exact e1⟩, by exact e1, by exact e1⟩
    ·have hfy : Hid (sgV (x : Int) (y : Int) g.nodes[j].args[i] = (y : Int)) := ⟨by rw [sgV, if_pos (by simpa using hz)]⟩
     repeat with_reducible first | refine zAA ?_ | refine zAC ?_ | refine zAE ?_ | refine zAD ?_ | refine zAP ?_ | (apply st_q; exact q1) | (apply zAK; exact e1)
     refine zAG (by exact e1) (by exact e1) (by exact cc) rfl wr hga (by simp; omega) rfl ?_
     rintro vz hz2 pz oz
     simp only [zlC, zlN, Nat.zero_add] at oz
     have K1 : Hid (∀ c p, hC.objs.get c = some p -> (∀ n, ci ≠ .slice (some (c, 0)) n) -> hz2.objs.get c = some p) := ⟨fun c p hc hne => pz.keep c (by rintro rfl; exact hne _ hcq'.out) _ (hkp.out c p hc hne)⟩
     have K2 : Hid (Grow hp hz2 /\ hC.next <= hz2.next) := ⟨pz.grow hp wp gr.out.1 hba, Nat.le_trans gr.out.2 pz.next⟩
     have K3 : Hid (Built hz2 hp.next 3 1 ci g.nodes[j].args.length ((LstF (sgV (x : Int) (y : Int)) g.nodes[j].args (i + 1)).map (AVal.int .i64))) := ⟨.inr (.inr ⟨ba, _, _, hba, hcq'.out, oz, by simp; omega, by rw [Nat.mul_one, zHR hil hla', hta'.out, <- LstF_set hil, List.map_set, hfy.out]⟩)⟩
     clear oz pz hga hixa hva hkp hz
     repeat with_reducible first | refine zAA ?_ | refine zAO ?_ | refine zAC ?_
     exact ⟨⟨K1, K2, K3, by exact n1, by exact e1, by exact e1, by exact e1, by exact e1, by exact e1, by exact e1, by exact e1, by exact e1⟩, by exact e1, by exact e1⟩
   ·rintro a' hr ⟨m1, m2, m3, m4, m5, m6, m7, m8, m9, m10, m11, m12⟩
    exact ⟨m1, m2, m3, m4, m5, m6, m7, m8, m9, m10, m11, m12⟩
  ·clear hd t7' t8' t9' t12' hi hn hlo
   rintro a' hr ⟨hkp, gr, hBB, hd, t7', t8', t9', t12', t13', t14', hi, hn⟩
   rw [hle.out] at hBB
   have o12r := hkp.out _ _ o12C (zAJ BC'.out o12C fun vs hh => by cases hh)
   have obr := hkp.out _ _ obC (zAJ BC'.out obC fun vs hh => by cases hh)
   have wr := gr.out.1.wf
   have Gr := Hid.mk (Gp.out.trans gr.out.1)
   have nWp := Gp.out.next
   clear o12C obC
   refine zAA ?_
   repeat with_reducible first | refine zAD ?_ | (apply st_q; exact q1)
   refine zAG (by exact e1) (by exact e1) (zAd hci) rfl wr obr (by simp; omega) (by simp only [List.all_cons, List.all_nil, zAQ hci, Bool.and_true]) ?_
   rintro v14 h14 p14 o14
   have o1214 := p14.keep b12 ne12 _ o12r
   have E := Hid.mk (zJj (vs := vs) (cs := [ci]) (o := o + 2) (by simp; omega))
   have L := Hid.mk (zMK (vs := vs) (cs := [ci]) (o := o + 2) (by simp; omega))
   simp only [zlC, zlN, Nat.zero_add] at o14 E L
   generalize vs.take (o + 2) ++ [ci] ++ vs.drop (o + 2 + 1) = vs' at o14 E L
   have h3 : ∀ b p, hr.objs.get b = some p -> (∃ ws, p.2 = .cells false 3 ws) -> h14.objs.get b = some p := fun b p hb ⟨ws, hp⟩ => p14.keep b (by
    rintro rfl
    rw [obr] at hb
    simp only [oI] at hb
    rw [<- hb] at hp; cases hp) _ hb
   have R14 : Hid (h14.objs.get bb = some (v14, .cells false 36 vs') /\ RowM hW h14 vs' (zFt (x : Int) (y : Int) g.nodes (j + 1))) := ⟨o14, by
    rw [<- zOH hj]
    refine ((hR'.out.stay fun b p _ hb hp => gr.out.1.keep _ _ hb).stay fun b p _ hb hp => h3 b p hb hp).set (by rw [zKh]; exact hj) L.out ⟨[.int .i64 g.nodes[j].kind, .str g.nodes[j].name, ci, lv, .bool g.nodes[j].isOpen], ⟨ci, lv, rfl, .inr ?_, hl'.out⟩, fun k hk => ?_⟩ fun i hi => ?_
    ·have hl2 : (putV (x : Int) (y : Int) g.nodes[j]).args.length = g.nodes[j].args.length := by simp [putV]
     rw [hl2]
     exact zBD (zAX hBB.out fun c p _ hb hp => h3 c p hb hp) nWp
    ·rw [ho'.out, E.out, ws.out k hk]
     rcases (by omega : k = 0 \/ k = 1 \/ k = 2 \/ k = 3 \/ k = 4) with rfl | rfl | rfl | rfl | rfl
     ·rw [if_neg (by omega)]; rfl
     ·rw [if_neg (by omega)]; rfl
     ·rw [if_pos (by omega)]; simp
     ·rw [if_neg (by omega)]; rfl
     ·rw [if_neg (by omega)]; rfl
    ·rw [E.out, if_neg (by have := ho'.out; omega)]⟩
   have G14 := Hid.mk (p14.grow hW wW Gr.out (by omega))
   clear o14 p14 obr o12r E L h3
   repeat with_reducible first | refine zAA ?_ | refine zAO ?_ | refine zAC ?_
   exact ⟨⟨G14, ⟨_, o1214⟩, ⟨_, _, R14⟩, by exact n1, by exact e1, by exact e1, by exact e1, by exact e1⟩, by exact e1, by exact e1⟩
 ·clear I0 o12 Gq
  rintro a hp ⟨Gp, ⟨v12', o12⟩, ⟨vb, vs, hbR⟩, hd, t7', t8', t9', t12'⟩
  rw [zOG] at hbR
  have hput := Hid.mk (hbR.out.2.nodes Gp.out hbR.out.1)
  rw [List.length_map] at hput
  have o9p := Gp.out.keep _ _ o9w.out
  have wp := Gp.out.wf
  have Gfin := Hid.mk (G.trans Gp.out)
  have oneU' := oneU
  refine zAA ?_
  repeat with_reducible first | refine zAE ?_ | refine zAD ?_ | (apply st_q; exact q1)
  have gU1 : GraphAt hp (.agg [un, .int .i64 U.root]) U := by
   obtain ⟨q, hq, hn⟩ := ownW.out
   exact ⟨q, hq, hn.mono Gp.out⟩
  have gP1 : GraphAt hp (.agg [.slice (some (bb, 0)) g.nodes.length, .int .i64 (sgV (x : Int) (y : Int) g.root)]) (putG g (x : Int) (y : Int)) := ⟨_, rfl, hput.out⟩
  refine zAb (by exact s1) ((Same_ok H U (putG g (x : Int) (y : Int)) law.out.2.2.1 law.out.2.2.2.1 _ _ hp wp gU1 gP1).mono ?_)
  rintro _ hZ2 ⟨rfl, gZ2⟩
  have Gend := Hid.mk (Gfin.out.trans gZ2)
  have hs := law.out.2.2.2.2
  rw [hs]
  clear gU1 gP1 gZ2 hput hs
  repeat' with_reducible first | refine zAA ?_ | refine zAC ?_ | refine zAR ?_ | (apply st_q; exact q1) | (apply zAI; exact n1; exact r1)
  exact ⟨rfl, Gend.out⟩
end
end Go.Ab.S
end
section
namespace Go.Proofs.YtpmndmiohaaokaaGreatDoor
open Go
noncomputable def zNk (os : Os) : World :=
 { World.holding Tryz.prog os ⟨#[], #[], []⟩ with heap := (World.holding Tryz.prog os ⟨#[], #[], []⟩).heap.modify 0 fun
   | .cells _ t frozen => .cells #[.iface 157 (.agg #[.pointer (some ⟨12, 60, none⟩)])] t frozen
   | o => o }
def zEI : List (String × DataW Unit) := zNs.filter fun x => x.2.handleName?.isNone
noncomputable def zPL (os : Os) : World := (zNk os).layVars Tryz.prog zEI
theorem zPM (os : Os) : (zPL os).os = os := World.layVars_os _ _ _
noncomputable abbrev zNn (os : Os) (args : Array Value) : World := (zPL os).forCall (fun _ _ => 0) ⟨#[], args, []⟩
theorem zQy : (zEI.filter fun x => !(zEI.map (·.1)).contains x.1) = [] := by kernel_rfl
set_option maxRecDepth 100000 in
theorem zPN (os : Os) (args : Array Value) : laidMetH Tryz.prog zNs (zNn os args).memory := by
 refine laidMetH_of_parts ?_ (by kernel_rfl)
 have h : laidMet Tryz.prog zEI (zPL os) := laidMet_layVars (w0 := zNk os) (zEI.map (·.1)) [] (by kernel_rfl) (by kernel_rfl) (by kernel_rfl) (by rw [zQy]; exact LaidIn.none)
 exact h.of_heap (by simp [zNn, World.memory, World.forCall, Input.heap])
set_option maxRecDepth 100000 in
theorem zSf (os : Os) (args : Array Value) : (zNn os args).variablesRefB Tryz.prog = true := by kernel_rfl
set_option maxRecDepth 100000 in
theorem zSe (os : Os) (args : Array Value) : ((zNn os args).heap.toList.drop Tryz.prog.globals.size).take ((begin Tryz.prog (fun _ _ => 0) default).world.heap.size - Tryz.prog.globals.size) =
      (begin Tryz.prog (fun _ _ => 0) default).world.heap.toList.drop Tryz.prog.globals.size := by kernel_rfl
end Go.Proofs.YtpmndmiohaaokaaGreatDoor
end
section
namespace Go.Proofs.YtpmndmiohaaokaaGreatDoor
open Go
open Go.ChangeShapes Go.WideShapes Go.ChangeAt Go.RowKit
theorem own : ownKnob Tryz.prog.godebug = none := by kernel_rfl
def Contract : Prop := ∀ (H : Type) (enc : TypeId × Value -> H) (W : World) (base : Nat) (args : Array Value) (ds gs : List (DataW H)) (before : List MemPlace),
  (∀ (j : Nat) t v, Tryz.f9.params[j]? = some t -> args[j]? = some v -> Value.okWide Tryz.prog W .any base t v) →
  (DataW.Whole enc Tryz.prog Tryz.f9.params.toList Rows.solveVarsSpec.vars false W args.toList ds gs before) -> (Rows.uptoSmall H (ds ++ gs) = true) -> (laidMetH Tryz.prog zNs W) -> (W.ShapedOpen Tryz.prog) →
  Calls Tryz.prog 9 args W fun e W' => ∃ v, e = .returned v /\ Rows.solveVarsSpec.post enc Tryz.prog Tryz.f9 false true false false W args v W'
def zRA : Array Value := #[.agg #[.slice none 0 0, .int .i64 0], .int .u8 0, .int .u8 0]
theorem reads (os : Os) {H : Type} (enc : TypeId × Value -> H) : ∃ places, DataW.whole enc Tryz.prog (zNn os zRA).memory Tryz.f9.params.toList Rows.solveVarsSpec.vars false zRA.toList 8 = some ([.agg [.nil, .lit (.int .i64 0)], .lit (.int .u8 0), .lit (.int .u8 0)], [], places) :=
 ⟨[], by kernel_rfl⟩
set_option maxRecDepth 100000 in
theorem lifted (os : Os) (started : os.Started) (H : Type) (enc : TypeId × Value -> H) (F : Stop.Interp) (hC : Contract) :
  ReturnsInHanded {} Tryz.checked os 9 .any ((Rows.OpenSpec.upto Rows.solveVarsSpec).preRow enc Tryz.prog Tryz.f9 Rows.solveVarsUptoRow.domain false Rows.solveVarsUptoRow.laid) (((Rows.OpenSpec.upto Rows.solveVarsSpec).at F).post enc Tryz.prog Tryz.f9 false true false false) := by
 obtain ⟨places, hx⟩ := reads os enc
 refine returnsInHanded_of_row (C := Tryz.checked) (s := Rows.OpenSpec.upto Rows.solveVarsSpec) own started (by kernel_rfl) Tryz.func9
  (witness_row_atRef (enc := enc) (C := Tryz.checked) false (zPL os) zRA (zPM os) (zSf os _) (zSe os _) (by kernel_rfl)
   (OpenSpec.preRow_of_cond 8 hx (by kernel_rfl) (fun k hk => by cases hk; kernel_rfl) (by kernel_rfl) (zPN os _))) ?_
 intro W base args ds gs before hval hW _ hcond _ hL hS _
 exact hC H enc W base args ds gs before hval hW (hcond _ rfl) hL hS
theorem saidUpto (hC : Contract) : Rows.SolveVarsUptoSaid :=
 OpenClaim.holds_of_cond 9 Tryz.f9 rfl rfl rfl rfl rfl rfl rfl ⟨rfl, rfl, rfl, rfl, rfl⟩ rfl rfl rfl rfl rfl (by kernel_rfl) Tryz.func9 (by kernel_rfl)
  (of_decide_eq_true (by kernel_rfl)) (by unfold Func.isWrapper; first | (rw [if_pos (by decide +kernel)]; kernel_rfl) | (rw [if_neg (by decide +kernel)]; exact ⟨rfl, rfl⟩))
  (fun os started H enc _ F => by rw [OpenClaim.pre_eq_preRow]; exact lifted os started H enc F hC)
theorem plain (f : FuncId) (fn : Func) (hf : Tryz.pinned.checked.prog.funcNamed "trefoil/trefoillaw08.SolveVars" = some f) (hfn : Tryz.pinned.checked.prog.funcs[f]? = some fn) :
  true = Tryz.pinned.checked.prog.looks [] /\ ∀ (j : Nat) t, fn.params[j]? = some t -> Tryz.pinned.checked.prog.wantsStandIn t = false := by
 obtain rfl : f = 9 := Option.some.inj ((show Tryz.prog.funcNamed "trefoil/trefoillaw08.SolveVars" = some 9 by kernel_rfl).symm.trans hf) |>.symm
 obtain rfl : fn = Tryz.f9 := (Option.some.inj (Tryz.func9.symm.trans hfn)).symm
 refine ⟨by kernel_rfl, fun j t ht => ?_⟩
 rw [Tryz.params9] at ht
 match j, ht with
 | 0, ht =>
  obtain rfl : t = 24 := by simpa using ht.symm
  exact (show Tryz.prog.wantsStandIn 24 = false by kernel_rfl)
 | 1, ht =>
  obtain rfl : t = 5 := by simpa using ht.symm
  exact (show Tryz.prog.wantsStandIn 5 = false by kernel_rfl)
 | 2, ht =>
  obtain rfl : t = 5 := by simpa using ht.symm
  exact (show Tryz.prog.wantsStandIn 5 = false by kernel_rfl)
 | j + 3, ht => simp at ht
theorem zRh (hC : Contract) : Rows.SolveVarsUptoCardSaid :=
 Claim7.holds_tied_plain_at .later [] _ _ _ _ (saidUpto hC) (fun _ h => by cases h) (by kernel_rfl) (fun _ h => by cases h) solveVarsUpto_row_tie rfl ⟨rfl, rfl⟩ (by kernel_rfl) rfl plain (by kernel_rfl)
end Go.Proofs.YtpmndmiohaaokaaGreatDoor
end
