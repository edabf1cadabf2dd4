/-
  DERIVED. GIVEN WITH THE SEED: THE CARDS: each row of YtpbcmlolapdfjaaDoorRows.lean that lists a variable, with what it lists TIED to the program's text (the seventh form; the later family's looks); each row that meets fmt, with fmt's text TOLD by the authors' own Lean function (tested against real Go, not proved from fmt's source: count such statements apart). THE CARD IS WHAT COUNTS. Prove the row's statement (the work); the ties are given (YtpbcmlolapdfjaaDoorTie.lean); close each card by the builder's one call (the guide's Derived/Test/ToyasCard.lean, 'card_holds'). Laid BY PROGRAM, IN A SANDBOX (cutbox-door.mjs). By AI agents, Wed Nov 11 2026. No macro, syntax, notation, axiom, sorry.
-/
import Derived.Test.YtpbcmlolapdfjaaDoorRows
import GoSem.ClaimSeven
namespace Go.Proofs.YtpbcmlolapdfjaaDoor
namespace Rows

/-- THE TIED CARD OF 'laws.FnExactBagCoverWidth'. -/
def fnExactBagCoverWidthCard : Claim7 := { stood := { row := fnExactBagCoverWidthRow, standIns := [], harness := (true, "6d5fa2335a5fdb12001f889c49f997d87da1c971a3db7127f6847b03feadadff"), looks := false }, kinds := [], alts := [], laidByText := true, laidKinds := [.data], laidTests := true, laidLooks := .later }
def FnExactBagCoverWidthCardSaid : Prop := Claim7.holds Tryd.pinned (.plain (OpenSpec.ofChange fnExactBagCoverWidthSpec)) fnExactBagCoverWidthCard

/-- THE TIED CARD OF 'laws.FnExactDecompositionWidth'. -/
def fnExactDecompositionWidthCard : Claim7 := { stood := { row := fnExactDecompositionWidthRow, standIns := [], harness := (true, "6d5fa2335a5fdb12001f889c49f997d87da1c971a3db7127f6847b03feadadff"), looks := false }, kinds := [], alts := [], laidByText := true, laidKinds := [.data], laidTests := true, laidLooks := .later }
def FnExactDecompositionWidthCardSaid : Prop := Claim7.holds Tryd.pinned (.plain (OpenSpec.ofChange fnExactDecompositionWidthSpec)) fnExactDecompositionWidthCard

/-- THE SECOND FORM's CARD OF 'laws.FnExactBagCoverWidth'. -/
def fnExactBagCoverWidthUptoCard : Claim7 := { stood := { row := fnExactBagCoverWidthUptoRow, standIns := [], harness := (true, "6d5fa2335a5fdb12001f889c49f997d87da1c971a3db7127f6847b03feadadff"), looks := false }, kinds := [], alts := [], laidByText := true, laidKinds := [.data], laidTests := true, laidLooks := .later }
def FnExactBagCoverWidthUptoCardSaid : Prop := Claim7.holds Tryd.pinned (.plain (OpenSpec.upto fnExactBagCoverWidthSpec)) fnExactBagCoverWidthUptoCard

/-- THE SECOND FORM's CARD OF 'laws.FnExactDecompositionWidth'. -/
def fnExactDecompositionWidthUptoCard : Claim7 := { stood := { row := fnExactDecompositionWidthUptoRow, standIns := [], harness := (true, "6d5fa2335a5fdb12001f889c49f997d87da1c971a3db7127f6847b03feadadff"), looks := false }, kinds := [], alts := [], laidByText := true, laidKinds := [.data], laidTests := true, laidLooks := .later }
def FnExactDecompositionWidthUptoCardSaid : Prop := Claim7.holds Tryd.pinned (.plain (OpenSpec.upto fnExactDecompositionWidthSpec)) fnExactDecompositionWidthUptoCard
end Rows
end Go.Proofs.YtpbcmlolapdfjaaDoor
