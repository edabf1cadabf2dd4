/-
  DERIVED. GIVEN WITH THE SEED: THE CARDS: each row of YtpbcmlolapdfjaaGreatDoorRows.lean that lists a variable, with what it lists TIED to the program's text (the seventh form; the later family's looks); each row that meets fmt, with fmt's text TOLD by the authors' own Lean function (tested against real Go, not proved from fmt's source: count such statements apart). THE CARD IS WHAT COUNTS. Prove the row's statement (the work); the ties are given (YtpbcmlolapdfjaaGreatDoorTie.lean); close each card by the builder's one call (the guide's Derived/Test/ToyasCard.lean, 'card_holds'). Laid BY PROGRAM, IN A SANDBOX (cutbox-door.mjs). By AI agents, Wed Nov 11 2026. No macro, syntax, notation, axiom, sorry.
-/
import Derived.Test.YtpbcmlolapdfjaaGreatDoorRows
import GoSem.ClaimSeven
namespace Go.Proofs.YtpbcmlolapdfjaaGreatDoor
namespace Rows

/-- THE TIED CARD OF 'laws.FnExactBestDecomposition'. -/
def fnExactBestDecompositionCard : Claim7 := { stood := { row := fnExactBestDecompositionRow, standIns := [], harness := (true, "cc7bd7376aaf7be2984a242eeb85f793209ff0f8c71d8053aed4c7671e67184a"), looks := false }, kinds := [], alts := [], laidByText := true, laidKinds := [.data], laidTests := true, laidLooks := .later }
def FnExactBestDecompositionCardSaid : Prop := Claim7.holds Tryz.pinned (.plain (OpenSpec.ofChange fnExactBestDecompositionSpec)) fnExactBestDecompositionCard

/-- THE SECOND FORM's CARD OF 'laws.FnExactBestDecomposition'. -/
def fnExactBestDecompositionUptoCard : Claim7 := { stood := { row := fnExactBestDecompositionUptoRow, standIns := [], harness := (true, "cc7bd7376aaf7be2984a242eeb85f793209ff0f8c71d8053aed4c7671e67184a"), looks := false }, kinds := [], alts := [], laidByText := true, laidKinds := [.data], laidTests := true, laidLooks := .later }
def FnExactBestDecompositionUptoCardSaid : Prop := Claim7.holds Tryz.pinned (.plain (OpenSpec.upto fnExactBestDecompositionSpec)) fnExactBestDecompositionUptoCard
end Rows
end Go.Proofs.YtpbcmlolapdfjaaGreatDoor
