/-
  DERIVED. GIVEN WITH THE SEED: THE CARDS: each row of YtgjfmjiildjelaaGreatDoorRows.lean that lists a variable, with what it lists TIED to the program's text (the seventh form; the later family's looks); each row that meets fmt, with fmt's text TOLD by the authors' own Lean function (tested against real Go, not proved from fmt's source: count such statements apart). THE CARD IS WHAT COUNTS. Prove the row's statement (the work); the ties are given (YtgjfmjiildjelaaGreatDoorTie.lean); close each card by the builder's one call (the guide's Derived/Test/ToyasCard.lean, 'card_holds'). Laid BY PROGRAM, IN A SANDBOX (cutbox-door.mjs). By AI agents, Wed Nov 11 2026. No macro, syntax, notation, axiom, sorry.
-/
import Derived.Test.YtgjfmjiildjelaaGreatDoorRows
import GoSem.ClaimSeven
namespace Go.Proofs.YtgjfmjiildjelaaGreatDoor
namespace Rows

/-- THE TIED CARD OF 'laws.FnDecompositionJoin'. -/
def fnDecompositionJoinCard : Claim7 := { stood := { row := fnDecompositionJoinRow, standIns := [], harness := (true, "985fa48a2144d03866d6f49d03a1d177039a3e45bb56626bbc080b292e2aa7c2"), looks := false }, kinds := [], alts := [], laidByText := true, laidKinds := [.data], laidTests := true, laidLooks := .later }
def FnDecompositionJoinCardSaid : Prop := Claim7.holds Tryz.pinned (.plain (OpenSpec.ofChange fnDecompositionJoinSpec)) fnDecompositionJoinCard

/-- THE TIED CARD OF 'laws.FnBagWidth'. -/
def fnBagWidthCard : Claim7 := { stood := { row := fnBagWidthRow, standIns := [], harness := (true, "985fa48a2144d03866d6f49d03a1d177039a3e45bb56626bbc080b292e2aa7c2"), looks := false }, kinds := [], alts := [], laidByText := true, laidKinds := [.data], laidTests := true, laidLooks := .later }
def FnBagWidthCardSaid : Prop := Claim7.holds Tryz.pinned (.plain (OpenSpec.ofChange fnBagWidthSpec)) fnBagWidthCard

/-- THE SECOND FORM's CARD OF 'laws.FnDecompositionJoin'. -/
def fnDecompositionJoinUptoCard : Claim7 := { stood := { row := fnDecompositionJoinUptoRow, standIns := [], harness := (true, "985fa48a2144d03866d6f49d03a1d177039a3e45bb56626bbc080b292e2aa7c2"), looks := false }, kinds := [], alts := [], laidByText := true, laidKinds := [.data], laidTests := true, laidLooks := .later }
def FnDecompositionJoinUptoCardSaid : Prop := Claim7.holds Tryz.pinned (.plain (OpenSpec.upto fnDecompositionJoinSpec)) fnDecompositionJoinUptoCard

/-- THE SECOND FORM's CARD OF 'laws.FnBagWidth'. -/
def fnBagWidthUptoCard : Claim7 := { stood := { row := fnBagWidthUptoRow, standIns := [], harness := (true, "985fa48a2144d03866d6f49d03a1d177039a3e45bb56626bbc080b292e2aa7c2"), looks := false }, kinds := [], alts := [], laidByText := true, laidKinds := [.data], laidTests := true, laidLooks := .later }
def FnBagWidthUptoCardSaid : Prop := Claim7.holds Tryz.pinned (.plain (OpenSpec.upto fnBagWidthSpec)) fnBagWidthUptoCard
end Rows
end Go.Proofs.YtgjfmjiildjelaaGreatDoor
