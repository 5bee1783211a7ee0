import Derived.Test.YtffgndlognihcaaGreatDoorTie
import Derived.Test.YtffgndlognihcaaGreatDoorCards
/-
  Part 25 of the proof.
-/
set_option linter.all false
namespace Go.Proofs
open Go
abbrev zOO:List (String×DataW Unit):=YtffgndlognihcaaGreatDoor.Rows.instMeetsUptoRow.laid
end Go.Proofs
