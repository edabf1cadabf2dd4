/-
  DERIVED. GIVEN WITH THE SEED: THE CARDS: each row of YtaoaoijchijlcaaGreatDoorRows.lean that lists a variable, with what it lists TIED to the program's text (the seventh form; the later family's looks); each row that meets fmt, with fmt's text TOLD by the authors' own Lean function (tested against real Go, not proved from fmt's source: count such statements apart). THE CARD IS WHAT COUNTS. Prove the row's statement (the work); the ties are given (YtaoaoijchijlcaaGreatDoorTie.lean); close each card by the builder's one call (the guide's Derived/Test/ToyasCard.lean, 'card_holds'). Laid BY PROGRAM, IN A SANDBOX (cutbox-door.mjs). By AI agents, Wed Nov 11 2026. No macro, syntax, notation, axiom, sorry.
-/
import Derived.Test.YtaoaoijchijlcaaGreatDoorRows
import GoSem.ClaimSeven
namespace Go.Proofs.YtaoaoijchijlcaaGreatDoor
namespace Rows

/-- THE TIED CARD OF 'laws.FnBestDecomposition'. -/
def fnBestDecompositionCard : Claim7 := { stood := { row := fnBestDecompositionRow, standIns := [], harness := (true, "46c7869e6f3dd3c4b27762471bd5c2335fc398f46a7d9b3c7db0ffc73aae1ddf"), looks := false }, kinds := [], alts := [], laidByText := true, laidKinds := [.data], laidTests := true, laidLooks := .later }
def FnBestDecompositionCardSaid : Prop := Claim7.holds Tryz.pinned (.plain (OpenSpec.ofChange fnBestDecompositionSpec)) fnBestDecompositionCard

/-- THE TIED CARD OF 'laws.FnDecompositions'. -/
def fnDecompositionsCard : Claim7 := { stood := { row := fnDecompositionsRow, standIns := [], harness := (true, "46c7869e6f3dd3c4b27762471bd5c2335fc398f46a7d9b3c7db0ffc73aae1ddf"), looks := false }, kinds := [], alts := [], laidByText := true, laidKinds := [.data], laidTests := true, laidLooks := .later }
def FnDecompositionsCardSaid : Prop := Claim7.holds Tryz.pinned (.plain (OpenSpec.ofChange fnDecompositionsSpec)) fnDecompositionsCard

/-- THE SECOND FORM's CARD OF 'laws.FnBestDecomposition'. -/
def fnBestDecompositionUptoCard : Claim7 := { stood := { row := fnBestDecompositionUptoRow, standIns := [], harness := (true, "46c7869e6f3dd3c4b27762471bd5c2335fc398f46a7d9b3c7db0ffc73aae1ddf"), looks := false }, kinds := [], alts := [], laidByText := true, laidKinds := [.data], laidTests := true, laidLooks := .later }
def FnBestDecompositionUptoCardSaid : Prop := Claim7.holds Tryz.pinned (.plain (OpenSpec.upto fnBestDecompositionSpec)) fnBestDecompositionUptoCard

/-- THE SECOND FORM's CARD OF 'laws.FnDecompositions'. -/
def fnDecompositionsUptoCard : Claim7 := { stood := { row := fnDecompositionsUptoRow, standIns := [], harness := (true, "46c7869e6f3dd3c4b27762471bd5c2335fc398f46a7d9b3c7db0ffc73aae1ddf"), looks := false }, kinds := [], alts := [], laidByText := true, laidKinds := [.data], laidTests := true, laidLooks := .later }
def FnDecompositionsUptoCardSaid : Prop := Claim7.holds Tryz.pinned (.plain (OpenSpec.upto fnDecompositionsSpec)) fnDecompositionsUptoCard
end Rows
end Go.Proofs.YtaoaoijchijlcaaGreatDoor
