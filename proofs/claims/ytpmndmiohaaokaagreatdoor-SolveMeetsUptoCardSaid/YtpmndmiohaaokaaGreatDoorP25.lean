import Derived.Test.YtpmndmiohaaokaaGreatDoorTie
import Derived.Test.YtpmndmiohaaokaaGreatDoorCards
/-
  Part 25 of the proof.
-/
set_option linter.all false
namespace Go.Proofs
open Go
abbrev zOm:List (String×DataW Unit):=YtpmndmiohaaokaaGreatDoor.Rows.solveThreeUptoRow.laid
end Go.Proofs
