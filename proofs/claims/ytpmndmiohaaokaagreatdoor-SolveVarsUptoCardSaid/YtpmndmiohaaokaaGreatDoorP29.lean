import Derived.Test.YtpmndmiohaaokaaGreatDoorP21
/-
  Part 29 of the proof.
-/
set_option linter.all false
section
namespace Go.Ab.S
open Go Go.Ab
set_option maxHeartbeats 1000000
structure Few (n : Nat) (g : Graph) : Prop where
 t : GTi g
 c : zAF g = 0
 s : g.nodes.length + zAj [] g.nodes 0 <= n
end Go.Ab.S
end
section
namespace Go.Ab.S
open Go Go.Ab
set_option maxHeartbeats 1000000
theorem zRH {g : Graph} (hg : GTi g) (x y : Int) : GTi (putG g x y) := by
 have hn : ∀ n ∈ (putG g x y).nodes, ∃ m ∈ g.nodes, n.args.length = m.args.length /\ n.labels = m.labels := fun n hn => by
  obtain ⟨m, hm, rfl⟩ := List.mem_map.1 hn
  exact ⟨m, hm, by simp [putV], rfl⟩
 have hl : (putG g x y).nodes.length = g.nodes.length := by simp [putG]
 have hL : zAj [] (putG g x y).nodes 0 = zAj [] g.nodes 0 := by
  rw [zCH, zCH, putG, List.map_map]
  congr 1
  apply List.map_congr_left
  intro n _
  simp [putV]
 refine ⟨⟨⟨by rw [hl]; exact hg.nodes, fun n h1 => ?_⟩, by rw [hl, hL]; exact hg.total, fun n h1 => ?_⟩, by rw [hl]; exact hg.tinyN, fun n h1 => ?_⟩
 ·obtain ⟨m, hm, h2, h3⟩ := hn n h1
  have := hg.all m hm
  exact ⟨by rw [h2]; exact this.args, by rw [h3]; exact this.labels, by rw [h3]; exact this.texts⟩
 ·obtain ⟨m, hm, h2, h3⟩ := hn n h1
  rw [h3]; exact hg.labs m hm
 ·obtain ⟨m, hm, h2, h3⟩ := hn n h1
  rw [h2]; exact hg.tinyA m hm
theorem zRQ {g U : Graph} {ps : List Pr} {R : List Int} {n : Nat} (f : Few n g) (hn : n <= 4096) (O : UOut g ps U R) : GTi U := by
 have s := f.s
 have l := zGK f.c
 exact ((Bd.self g).uni f.c O).gti (O.check f.c) (by rw [O.lenU]; omega) (by omega) (by omega) (zHN f.t.toGraphSm)
theorem zPz {g U : Graph} {R : List Int} {x y : Int} (f : Few 300 g) (hx : InG g x) (hy : InG g y) (hv : (zAB g x).kind = 1) (O : UOut g [(x, y)] U R) : clAt R x = min x y /\ clAt R y = min x y /\ GTi U /\ GTi (putG g x y) /\ zGp U (putG g x y) = true := by
 obtain ⟨h1, h2⟩ := zRT f.c hx hy hv O
 exact ⟨h1, h2, zRQ f (by decide) O, zRH f.t x y, (zKq (O.check f.c) (zKi f.c hx hy hv)).2 (zPy f.c hx hy hv O)⟩
end Go.Ab.S
end
