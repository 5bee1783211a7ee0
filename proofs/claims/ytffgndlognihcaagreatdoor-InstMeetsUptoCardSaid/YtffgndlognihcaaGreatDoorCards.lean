/-
  DERIVED. GIVEN WITH THE SEED: THE CARDS: each row of YtffgndlognihcaaGreatDoorRows.lean that lists a variable, with what it lists TIED to the program's text (the seventh form; the later family's looks); each row that meets fmt, with fmt's text TOLD by the authors' own Lean function (tested against real Go, not proved from fmt's source: count such statements apart). THE CARD IS WHAT COUNTS. Prove the row's statement (the work); the ties are given (YtffgndlognihcaaGreatDoorTie.lean); close each card by the builder's one call (the guide's Derived/Test/ToyasCard.lean, 'card_holds'). Laid BY PROGRAM, IN A SANDBOX (cutbox-door.mjs). By AI agents, Wed Nov 11 2026. No macro, syntax, notation, axiom, sorry.
-/
import Derived.Test.YtffgndlognihcaaGreatDoorRows
import GoSem.ClaimSeven
namespace Go.Proofs.YtffgndlognihcaaGreatDoor
namespace Rows

/-- THE TIED CARD OF 'trefoillaw11.InstOrders'. -/
def instOrdersCard : Claim7 := { stood := { row := instOrdersRow, standIns := [], harness := (true, "1f730cc9fba3f3f7cbb67113f1b08068d907470b78583e1f1deb951d2a65e323"), looks := true }, kinds := [], alts := [], laidByText := true, laidKinds := [.data, .data, .data, .data, .handle, .sentinel, .sentinel, .listed, .data, .pinned], laidTests := true, laidLooks := .later }
def InstOrdersCardSaid : Prop := Claim7.holds Tryz.pinned (.plain (OpenSpec.ofChange instOrdersSpec)) instOrdersCard

/-- THE TIED CARD OF 'trefoillaw11.InstCloses'. -/
def instClosesCard : Claim7 := { stood := { row := instClosesRow, standIns := [], harness := (true, "1f730cc9fba3f3f7cbb67113f1b08068d907470b78583e1f1deb951d2a65e323"), looks := true }, kinds := [], alts := [], laidByText := true, laidKinds := [.data, .data, .data, .data, .handle, .sentinel, .sentinel, .listed, .data, .pinned], laidTests := true, laidLooks := .later }
def InstClosesCardSaid : Prop := Claim7.holds Tryz.pinned (.plain (OpenSpec.ofChange instClosesSpec)) instClosesCard

/-- THE TIED CARD OF 'trefoillaw11.InstPairs'. -/
def instPairsCard : Claim7 := { stood := { row := instPairsRow, standIns := [], harness := (true, "1f730cc9fba3f3f7cbb67113f1b08068d907470b78583e1f1deb951d2a65e323"), looks := true }, kinds := [], alts := [], laidByText := true, laidKinds := [.data, .data, .data, .data, .handle, .sentinel, .sentinel, .listed, .data, .pinned], laidTests := true, laidLooks := .later }
def InstPairsCardSaid : Prop := Claim7.holds Tryz.pinned (.plain (OpenSpec.ofChange instPairsSpec)) instPairsCard

/-- THE TIED CARD OF 'trefoillaw11.InstMeets'. -/
def instMeetsCard : Claim7 := { stood := { row := instMeetsRow, standIns := [], harness := (true, "1f730cc9fba3f3f7cbb67113f1b08068d907470b78583e1f1deb951d2a65e323"), looks := true }, kinds := [], alts := [], laidByText := true, laidKinds := [.data, .data, .data, .data, .handle, .sentinel, .sentinel, .listed, .data, .pinned], laidTests := true, laidLooks := .later }
def InstMeetsCardSaid : Prop := Claim7.holds Tryz.pinned (.plain (OpenSpec.ofChange instMeetsSpec)) instMeetsCard

/-- THE SECOND FORM's CARD OF 'trefoillaw11.InstOrders'. -/
def instOrdersUptoCard : Claim7 := { stood := { row := instOrdersUptoRow, standIns := [], harness := (true, "1f730cc9fba3f3f7cbb67113f1b08068d907470b78583e1f1deb951d2a65e323"), looks := true }, kinds := [], alts := [], laidByText := true, laidKinds := [.data, .data, .data, .data, .handle, .sentinel, .sentinel, .listed, .data, .pinned], laidTests := true, laidLooks := .later }
def InstOrdersUptoCardSaid : Prop := Claim7.holds Tryz.pinned (.plain (OpenSpec.upto instOrdersSpec)) instOrdersUptoCard

/-- THE SECOND FORM's CARD OF 'trefoillaw11.InstCloses'. -/
def instClosesUptoCard : Claim7 := { stood := { row := instClosesUptoRow, standIns := [], harness := (true, "1f730cc9fba3f3f7cbb67113f1b08068d907470b78583e1f1deb951d2a65e323"), looks := true }, kinds := [], alts := [], laidByText := true, laidKinds := [.data, .data, .data, .data, .handle, .sentinel, .sentinel, .listed, .data, .pinned], laidTests := true, laidLooks := .later }
def InstClosesUptoCardSaid : Prop := Claim7.holds Tryz.pinned (.plain (OpenSpec.upto instClosesSpec)) instClosesUptoCard

/-- THE SECOND FORM's CARD OF 'trefoillaw11.InstPairs'. -/
def instPairsUptoCard : Claim7 := { stood := { row := instPairsUptoRow, standIns := [], harness := (true, "1f730cc9fba3f3f7cbb67113f1b08068d907470b78583e1f1deb951d2a65e323"), looks := true }, kinds := [], alts := [], laidByText := true, laidKinds := [.data, .data, .data, .data, .handle, .sentinel, .sentinel, .listed, .data, .pinned], laidTests := true, laidLooks := .later }
def InstPairsUptoCardSaid : Prop := Claim7.holds Tryz.pinned (.plain (OpenSpec.upto instPairsSpec)) instPairsUptoCard

/-- THE SECOND FORM's CARD OF 'trefoillaw11.InstMeets'. -/
def instMeetsUptoCard : Claim7 := { stood := { row := instMeetsUptoRow, standIns := [], harness := (true, "1f730cc9fba3f3f7cbb67113f1b08068d907470b78583e1f1deb951d2a65e323"), looks := true }, kinds := [], alts := [], laidByText := true, laidKinds := [.data, .data, .data, .data, .handle, .sentinel, .sentinel, .listed, .data, .pinned], laidTests := true, laidLooks := .later }
def InstMeetsUptoCardSaid : Prop := Claim7.holds Tryz.pinned (.plain (OpenSpec.upto instMeetsSpec)) instMeetsUptoCard
end Rows
end Go.Proofs.YtffgndlognihcaaGreatDoor
