import Derived.Test.YtpmndmiohaaokaaGreatDoorP22
/-
  Part 28 of the proof.
-/
set_option linter.all false
namespace Go.Ab.S
open Go Go.Ab
set_option maxHeartbeats 8000000
structure RgI (hb : AHeap) (b3 : Nat) (root : Int) (ns : List Node) (hq : AHeap) : Prop where
 low : hb.next <= b3
 o : ∃ (ver : Nat) (vo : AVal) (cs : List (List AVal)), hq.objs.get b3 = some (ver, .cells false 24 [vo, .int .i64 root]) /\ Built hq hb.next 36 5 vo ns.length cs.flatten /\ cs.length = ns.length /\ ∀ (i : Nat) c n, cs[i]? = some c -> ns[i]? = some n -> OwnN hq hb.next c n
theorem RgI.other {hb : AHeap} {b3 : Nat} {root : Int} {ns : List Node} {hq hr : AHeap} (I : RgI hb b3 root ns hq) (g : Grow hq hr) : RgI hb b3 root ns hr := by
 obtain ⟨ver, vo, cs, h1, h2, h3, h4⟩ := I.o
 exact ⟨I.low, ver, vo, cs, g.keep _ _ h1, h2.grow g, h3, fun i c n hc hn => OwnN_stay (h4 i c n hc hn) fun b p hb _ => g.keep _ _ hb⟩
theorem RgI.own {hb : AHeap} {b3 : Nat} {root : Int} {ns : List Node} {hq : AHeap} (I : RgI hb b3 root ns hq) : ∃ ver vo, hq.objs.get b3 = some (ver, .cells false 24 [vo, .int .i64 root]) /\ OwnG hq hb.next (.agg [vo, .int .i64 root]) ⟨ns, root⟩ := by
 obtain ⟨ver, vo, cs, h1, h2, h3, h4⟩ := I.o
 exact ⟨ver, vo, h1, vo, cs, rfl, h2, h3, h4⟩
theorem RgI.put {hb : AHeap} {b3 ver : Nat} {root : Int} {ns : List Node} {n : Node} {vo vo' av lv : AVal} {cs : List (List AVal)} {hq hs : AHeap} (low : hb.next <= b3) (h2 : Built hq hb.next 36 5 vo ns.length cs.flatten) (h3 : cs.length = ns.length) (h5 : ∀ (i : Nat) c n, cs[i]? = some c -> ns[i]? = some n -> OwnN hq hb.next c n)
  (ka : Built hq hb.next 3 1 av n.args.length (n.args.map (AVal.int .i64))) (kl : Built hq hb.next 9 1 lv n.labels.length (n.labels.map AVal.str))
  (hs3 : hs.objs.get b3 = some (ver, .cells false 24 [vo', .int .i64 root])) (B : Built hs hb.next 36 5 vo' (ns.length + 1) (cs ++ [[.int .i64 n.kind, .str n.name, av, lv, .bool n.isOpen]]).flatten)
  (hk : ∀ c p, hq.objs.get c = some p -> (∀ vs, p.2 ≠ .cells false 36 vs) -> c ≠ b3 -> hs.objs.get c = some p) (h17 : ∃ v vs, hq.objs.get b3 = some (v, .cells false 24 vs)) : RgI hb b3 root (ns ++ [n]) hs := by
 obtain ⟨v17, vs17, o17⟩ := h17
 have hown : ∀ {e : TypeId} {w : AVal} {k base : Nat} {cells : List AVal}, e ≠ 36 -> e ≠ 24 -> Built hq base e 1 w k cells -> Built hs base e 1 w k cells := fun he he' kk => zBG kk fun b p hb ⟨vs, hp⟩ _ => hk b p hb (fun vs' hh => by rw [hp] at hh; cases hh; exact he rfl) (by
  rintro rfl
  rw [o17] at hb
  simp only [oI] at hb
  rw [<- hb] at hp; cases hp; exact he' rfl)
 refine ⟨low, ver, vo', cs ++ [[.int .i64 n.kind, .str n.name, av, lv, .bool n.isOpen]], hs3, by rw [zgL]; exact B, by simp [h3], fun i c m hc hm => ?_⟩
 rcases Nat.lt_or_ge i ns.length with hij | hij
 ·rw [List.getElem?_append_left (by omega)] at hc hm
  obtain ⟨av', lv', q1, q2, q3⟩ := h5 i c m hc hm
  exact ⟨av', lv', q1, hown (by decide) (by decide) q2, hown (by decide) (by decide) q3⟩
 ·rw [List.getElem?_append_right (by omega), h3] at hc
  rw [List.getElem?_append_right (by omega)] at hm
  obtain rfl : i = ns.length := by
   have := (zgS.1 hc).1
   simp only [zlC, zlN] at this
   omega
  rw [Nat.sub_self, zgZ, oI] at hc hm
  subst hc; subst hm
  exact ⟨av, lv, rfl, hown (by decide) (by decide) ka, hown (by decide) (by decide) kl⟩
section
variable {fns : FnsT} {summ : SumT}
variable (H : Has fns summ)
include H
end
end Go.Ab.S
