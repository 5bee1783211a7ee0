import Derived.Test.YtapnoohglfhgeaaGreatDoorTie
import Derived.Test.YtapnoohglfhgeaaGreatDoorCards
/-
  Part 26 of the proof.
-/
set_option linter.all false
/-
  The tables that the rows tell of.
-/
namespace Go.Proofs
open Go
abbrev laids : List (String × DataW Unit) := YtapnoohglfhgeaaGreatDoor.Rows.envLastUptoRow.laid
end Go.Proofs
