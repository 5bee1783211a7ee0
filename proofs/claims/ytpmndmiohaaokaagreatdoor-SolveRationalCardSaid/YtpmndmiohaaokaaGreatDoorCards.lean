/-
  DERIVED. GIVEN WITH THE SEED: THE CARDS: each row of YtpmndmiohaaokaaGreatDoorRows.lean that lists a variable, with what it lists TIED to the program's text (the seventh form; the later family's looks); each row that meets fmt, with fmt's text TOLD by the authors' own Lean function (tested against real Go, not proved from fmt's source: count such statements apart). THE CARD IS WHAT COUNTS. Prove the row's statement (the work); the ties are given (YtpmndmiohaaokaaGreatDoorTie.lean); close each card by the builder's one call (the guide's Derived/Test/ToyasCard.lean, 'card_holds'). Laid BY PROGRAM, IN A SANDBOX (cutbox-door.mjs). By AI agents, Wed Nov 11 2026. No macro, syntax, notation, axiom, sorry.
-/
import Derived.Test.YtpmndmiohaaokaaGreatDoorRows
import GoSem.ClaimSeven
namespace Go.Proofs.YtpmndmiohaaokaaGreatDoor
namespace Rows

/-- THE TIED CARD OF 'trefoillaw08.SolveUnifies'. -/
def solveUnifiesCard : Claim7 := { stood := { row := solveUnifiesRow, standIns := [], harness := (true, "007c0d446a196fb59e60a922bf45404da30367ba38128992008f8eacab6f062e"), looks := true }, kinds := [], alts := [], laidByText := true, laidKinds := [.data, .data, .data, .data, .handle, .sentinel, .sentinel, .listed, .data, .pinned], laidTests := true, laidLooks := .later }
def SolveUnifiesCardSaid : Prop := Claim7.holds Tryz.pinned (.plain (OpenSpec.ofChange solveUnifiesSpec)) solveUnifiesCard

/-- THE TIED CARD OF 'trefoillaw08.SolveMeets'. -/
def solveMeetsCard : Claim7 := { stood := { row := solveMeetsRow, standIns := [], harness := (true, "007c0d446a196fb59e60a922bf45404da30367ba38128992008f8eacab6f062e"), looks := true }, kinds := [], alts := [], laidByText := true, laidKinds := [.data, .data, .data, .data, .handle, .sentinel, .sentinel, .listed, .data, .pinned], laidTests := true, laidLooks := .later }
def SolveMeetsCardSaid : Prop := Claim7.holds Tryz.pinned (.plain (OpenSpec.ofChange solveMeetsSpec)) solveMeetsCard

/-- THE TIED CARD OF 'trefoillaw08.SolveOrders'. -/
def solveOrdersCard : Claim7 := { stood := { row := solveOrdersRow, standIns := [], harness := (true, "007c0d446a196fb59e60a922bf45404da30367ba38128992008f8eacab6f062e"), looks := true }, kinds := [], alts := [], laidByText := true, laidKinds := [.data, .data, .data, .data, .handle, .sentinel, .sentinel, .listed, .data, .pinned], laidTests := true, laidLooks := .later }
def SolveOrdersCardSaid : Prop := Claim7.holds Tryz.pinned (.plain (OpenSpec.ofChange solveOrdersSpec)) solveOrdersCard

/-- THE TIED CARD OF 'trefoillaw08.SolveLeast'. -/
def solveLeastCard : Claim7 := { stood := { row := solveLeastRow, standIns := [], harness := (true, "007c0d446a196fb59e60a922bf45404da30367ba38128992008f8eacab6f062e"), looks := true }, kinds := [], alts := [], laidByText := true, laidKinds := [.data, .data, .data, .data, .handle, .sentinel, .sentinel, .listed, .data, .pinned], laidTests := true, laidLooks := .later }
def SolveLeastCardSaid : Prop := Claim7.holds Tryz.pinned (.plain (OpenSpec.ofChange solveLeastSpec)) solveLeastCard

/-- THE TIED CARD OF 'trefoillaw08.SolveRational'. -/
def solveRationalCard : Claim7 := { stood := { row := solveRationalRow, standIns := [], harness := (true, "007c0d446a196fb59e60a922bf45404da30367ba38128992008f8eacab6f062e"), looks := true }, kinds := [], alts := [], laidByText := true, laidKinds := [.data, .data, .data, .data, .handle, .sentinel, .sentinel, .listed, .data, .pinned], laidTests := true, laidLooks := .later }
def SolveRationalCardSaid : Prop := Claim7.holds Tryz.pinned (.plain (OpenSpec.ofChange solveRationalSpec)) solveRationalCard

/-- THE TIED CARD OF 'trefoillaw08.SolveThree'. -/
def solveThreeCard : Claim7 := { stood := { row := solveThreeRow, standIns := [], harness := (true, "007c0d446a196fb59e60a922bf45404da30367ba38128992008f8eacab6f062e"), looks := true }, kinds := [], alts := [], laidByText := true, laidKinds := [.data, .data, .data, .data, .handle, .sentinel, .sentinel, .listed, .data, .pinned], laidTests := true, laidLooks := .later }
def SolveThreeCardSaid : Prop := Claim7.holds Tryz.pinned (.plain (OpenSpec.ofChange solveThreeSpec)) solveThreeCard

/-- THE TIED CARD OF 'trefoillaw08.SolveVars'. -/
def solveVarsCard : Claim7 := { stood := { row := solveVarsRow, standIns := [], harness := (true, "007c0d446a196fb59e60a922bf45404da30367ba38128992008f8eacab6f062e"), looks := true }, kinds := [], alts := [], laidByText := true, laidKinds := [.data, .data, .data, .data, .handle, .sentinel, .sentinel, .listed, .data, .pinned], laidTests := true, laidLooks := .later }
def SolveVarsCardSaid : Prop := Claim7.holds Tryz.pinned (.plain (OpenSpec.ofChange solveVarsSpec)) solveVarsCard

/-- THE SECOND FORM's CARD OF 'trefoillaw08.SolveUnifies'. -/
def solveUnifiesUptoCard : Claim7 := { stood := { row := solveUnifiesUptoRow, standIns := [], harness := (true, "007c0d446a196fb59e60a922bf45404da30367ba38128992008f8eacab6f062e"), looks := true }, kinds := [], alts := [], laidByText := true, laidKinds := [.data, .data, .data, .data, .handle, .sentinel, .sentinel, .listed, .data, .pinned], laidTests := true, laidLooks := .later }
def SolveUnifiesUptoCardSaid : Prop := Claim7.holds Tryz.pinned (.plain (OpenSpec.upto solveUnifiesSpec)) solveUnifiesUptoCard

/-- THE SECOND FORM's CARD OF 'trefoillaw08.SolveMeets'. -/
def solveMeetsUptoCard : Claim7 := { stood := { row := solveMeetsUptoRow, standIns := [], harness := (true, "007c0d446a196fb59e60a922bf45404da30367ba38128992008f8eacab6f062e"), looks := true }, kinds := [], alts := [], laidByText := true, laidKinds := [.data, .data, .data, .data, .handle, .sentinel, .sentinel, .listed, .data, .pinned], laidTests := true, laidLooks := .later }
def SolveMeetsUptoCardSaid : Prop := Claim7.holds Tryz.pinned (.plain (OpenSpec.upto solveMeetsSpec)) solveMeetsUptoCard

/-- THE SECOND FORM's CARD OF 'trefoillaw08.SolveOrders'. -/
def solveOrdersUptoCard : Claim7 := { stood := { row := solveOrdersUptoRow, standIns := [], harness := (true, "007c0d446a196fb59e60a922bf45404da30367ba38128992008f8eacab6f062e"), looks := true }, kinds := [], alts := [], laidByText := true, laidKinds := [.data, .data, .data, .data, .handle, .sentinel, .sentinel, .listed, .data, .pinned], laidTests := true, laidLooks := .later }
def SolveOrdersUptoCardSaid : Prop := Claim7.holds Tryz.pinned (.plain (OpenSpec.upto solveOrdersSpec)) solveOrdersUptoCard

/-- THE SECOND FORM's CARD OF 'trefoillaw08.SolveLeast'. -/
def solveLeastUptoCard : Claim7 := { stood := { row := solveLeastUptoRow, standIns := [], harness := (true, "007c0d446a196fb59e60a922bf45404da30367ba38128992008f8eacab6f062e"), looks := true }, kinds := [], alts := [], laidByText := true, laidKinds := [.data, .data, .data, .data, .handle, .sentinel, .sentinel, .listed, .data, .pinned], laidTests := true, laidLooks := .later }
def SolveLeastUptoCardSaid : Prop := Claim7.holds Tryz.pinned (.plain (OpenSpec.upto solveLeastSpec)) solveLeastUptoCard

/-- THE SECOND FORM's CARD OF 'trefoillaw08.SolveRational'. -/
def solveRationalUptoCard : Claim7 := { stood := { row := solveRationalUptoRow, standIns := [], harness := (true, "007c0d446a196fb59e60a922bf45404da30367ba38128992008f8eacab6f062e"), looks := true }, kinds := [], alts := [], laidByText := true, laidKinds := [.data, .data, .data, .data, .handle, .sentinel, .sentinel, .listed, .data, .pinned], laidTests := true, laidLooks := .later }
def SolveRationalUptoCardSaid : Prop := Claim7.holds Tryz.pinned (.plain (OpenSpec.upto solveRationalSpec)) solveRationalUptoCard

/-- THE SECOND FORM's CARD OF 'trefoillaw08.SolveThree'. -/
def solveThreeUptoCard : Claim7 := { stood := { row := solveThreeUptoRow, standIns := [], harness := (true, "007c0d446a196fb59e60a922bf45404da30367ba38128992008f8eacab6f062e"), looks := true }, kinds := [], alts := [], laidByText := true, laidKinds := [.data, .data, .data, .data, .handle, .sentinel, .sentinel, .listed, .data, .pinned], laidTests := true, laidLooks := .later }
def SolveThreeUptoCardSaid : Prop := Claim7.holds Tryz.pinned (.plain (OpenSpec.upto solveThreeSpec)) solveThreeUptoCard

/-- THE SECOND FORM's CARD OF 'trefoillaw08.SolveVars'. -/
def solveVarsUptoCard : Claim7 := { stood := { row := solveVarsUptoRow, standIns := [], harness := (true, "007c0d446a196fb59e60a922bf45404da30367ba38128992008f8eacab6f062e"), looks := true }, kinds := [], alts := [], laidByText := true, laidKinds := [.data, .data, .data, .data, .handle, .sentinel, .sentinel, .listed, .data, .pinned], laidTests := true, laidLooks := .later }
def SolveVarsUptoCardSaid : Prop := Claim7.holds Tryz.pinned (.plain (OpenSpec.upto solveVarsSpec)) solveVarsUptoCard
end Rows
end Go.Proofs.YtpmndmiohaaokaaGreatDoor
