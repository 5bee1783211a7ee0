import Derived.Test.YtpmndmiohaaokaaGreatDoorTie
import Derived.Test.YtpmndmiohaaokaaGreatDoorCards
/-
  Part 26 of the proof.
-/
set_option linter.all false
namespace Go.Proofs
open Go
abbrev zNy : List (String × DataW Unit) := YtpmndmiohaaokaaGreatDoor.Rows.solveThreeUptoRow.laid
end Go.Proofs
