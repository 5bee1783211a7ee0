/-
  DERIVED. GIVEN WITH THE SEED: THE CARDS: each row of YtapnoohglfhgeaaGreatDoorRows.lean that lists a variable, with what it lists TIED to the program's text (the seventh form; the later family's looks); each row that meets fmt, with fmt's text TOLD by the authors' own Lean function (tested against real Go, not proved from fmt's source: count such statements apart). THE CARD IS WHAT COUNTS. Prove the row's statement (the work); the ties are given (YtapnoohglfhgeaaGreatDoorTie.lean); close each card by the builder's one call (the guide's Derived/Test/ToyasCard.lean, 'card_holds'). Laid BY PROGRAM, IN A SANDBOX (cutbox-door.mjs). By AI agents, Wed Nov 11 2026. No macro, syntax, notation, axiom, sorry.
-/
import Derived.Test.YtapnoohglfhgeaaGreatDoorRows
import GoSem.ClaimSeven
namespace Go.Proofs.YtapnoohglfhgeaaGreatDoor
namespace Rows

/-- THE TIED CARD OF 'trefoillaw14.EnvLast'. -/
def envLastCard : Claim7 := { stood := { row := envLastRow, standIns := [], harness := (true, "69e43b9ac40902b209d2bfbb0d49513e5afe6d6a5edb8a3c8a38f75053d5fb31"), looks := true }, kinds := [], alts := [], laidByText := true, laidKinds := [.data, .data, .data, .data, .handle, .sentinel, .sentinel, .listed, .data, .pinned], laidTests := true, laidLooks := .later }
def EnvLastCardSaid : Prop := Claim7.holds Tryz.pinned (.plain (OpenSpec.ofChange envLastSpec)) envLastCard

/-- THE TIED CARD OF 'trefoillaw14.EnvClasses'. -/
def envClassesCard : Claim7 := { stood := { row := envClassesRow, standIns := [], harness := (true, "69e43b9ac40902b209d2bfbb0d49513e5afe6d6a5edb8a3c8a38f75053d5fb31"), looks := true }, kinds := [], alts := [], laidByText := true, laidKinds := [.data, .data, .data, .data, .handle, .sentinel, .sentinel, .listed, .data, .pinned], laidTests := true, laidLooks := .later }
def EnvClassesCardSaid : Prop := Claim7.holds Tryz.pinned (.plain (OpenSpec.ofChange envClassesSpec)) envClassesCard

/-- THE TIED CARD OF 'trefoillaw14.EnvKeeps'. -/
def envKeepsCard : Claim7 := { stood := { row := envKeepsRow, standIns := [], harness := (true, "69e43b9ac40902b209d2bfbb0d49513e5afe6d6a5edb8a3c8a38f75053d5fb31"), looks := true }, kinds := [], alts := [], laidByText := true, laidKinds := [.data, .data, .data, .data, .handle, .sentinel, .sentinel, .listed, .data, .pinned], laidTests := true, laidLooks := .later }
def EnvKeepsCardSaid : Prop := Claim7.holds Tryz.pinned (.plain (OpenSpec.ofChange envKeepsSpec)) envKeepsCard

/-- THE TIED CARD OF 'trefoillaw14.EnvNames'. -/
def envNamesCard : Claim7 := { stood := { row := envNamesRow, standIns := [], harness := (true, "69e43b9ac40902b209d2bfbb0d49513e5afe6d6a5edb8a3c8a38f75053d5fb31"), looks := true }, kinds := [], alts := [], laidByText := true, laidKinds := [.data, .data, .data, .data, .handle, .sentinel, .sentinel, .listed, .data, .pinned], laidTests := true, laidLooks := .later }
def EnvNamesCardSaid : Prop := Claim7.holds Tryz.pinned (.plain (OpenSpec.ofChange envNamesSpec)) envNamesCard

/-- THE SECOND FORM's CARD OF 'trefoillaw14.EnvLast'. -/
def envLastUptoCard : Claim7 := { stood := { row := envLastUptoRow, standIns := [], harness := (true, "69e43b9ac40902b209d2bfbb0d49513e5afe6d6a5edb8a3c8a38f75053d5fb31"), looks := true }, kinds := [], alts := [], laidByText := true, laidKinds := [.data, .data, .data, .data, .handle, .sentinel, .sentinel, .listed, .data, .pinned], laidTests := true, laidLooks := .later }
def EnvLastUptoCardSaid : Prop := Claim7.holds Tryz.pinned (.plain (OpenSpec.upto envLastSpec)) envLastUptoCard

/-- THE SECOND FORM's CARD OF 'trefoillaw14.EnvClasses'. -/
def envClassesUptoCard : Claim7 := { stood := { row := envClassesUptoRow, standIns := [], harness := (true, "69e43b9ac40902b209d2bfbb0d49513e5afe6d6a5edb8a3c8a38f75053d5fb31"), looks := true }, kinds := [], alts := [], laidByText := true, laidKinds := [.data, .data, .data, .data, .handle, .sentinel, .sentinel, .listed, .data, .pinned], laidTests := true, laidLooks := .later }
def EnvClassesUptoCardSaid : Prop := Claim7.holds Tryz.pinned (.plain (OpenSpec.upto envClassesSpec)) envClassesUptoCard

/-- THE SECOND FORM's CARD OF 'trefoillaw14.EnvKeeps'. -/
def envKeepsUptoCard : Claim7 := { stood := { row := envKeepsUptoRow, standIns := [], harness := (true, "69e43b9ac40902b209d2bfbb0d49513e5afe6d6a5edb8a3c8a38f75053d5fb31"), looks := true }, kinds := [], alts := [], laidByText := true, laidKinds := [.data, .data, .data, .data, .handle, .sentinel, .sentinel, .listed, .data, .pinned], laidTests := true, laidLooks := .later }
def EnvKeepsUptoCardSaid : Prop := Claim7.holds Tryz.pinned (.plain (OpenSpec.upto envKeepsSpec)) envKeepsUptoCard

/-- THE SECOND FORM's CARD OF 'trefoillaw14.EnvNames'. -/
def envNamesUptoCard : Claim7 := { stood := { row := envNamesUptoRow, standIns := [], harness := (true, "69e43b9ac40902b209d2bfbb0d49513e5afe6d6a5edb8a3c8a38f75053d5fb31"), looks := true }, kinds := [], alts := [], laidByText := true, laidKinds := [.data, .data, .data, .data, .handle, .sentinel, .sentinel, .listed, .data, .pinned], laidTests := true, laidLooks := .later }
def EnvNamesUptoCardSaid : Prop := Claim7.holds Tryz.pinned (.plain (OpenSpec.upto envNamesSpec)) envNamesUptoCard
end Rows
end Go.Proofs.YtapnoohglfhgeaaGreatDoor
