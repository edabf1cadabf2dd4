/-
  DERIVED. GIVEN WITH THE SEED: THE CARDS: each row of YtglilmkmkdkedaaGreatDoorRows.lean that lists a variable, with what it lists TIED to the program's text (the seventh form; the later family's looks); each row that meets fmt, with fmt's text TOLD by the authors' own Lean function (tested against real Go, not proved from fmt's source: count such statements apart). THE CARD IS WHAT COUNTS. Prove the row's statement (the work); the ties are given (YtglilmkmkdkedaaGreatDoorTie.lean); close each card by the builder's one call (the guide's Derived/Test/ToyasCard.lean, 'card_holds'). Laid BY PROGRAM, IN A SANDBOX (cutbox-door.mjs). By AI agents, Wed Nov 11 2026. No macro, syntax, notation, axiom, sorry.
-/
import Derived.Test.YtglilmkmkdkedaaGreatDoorRows
import GoSem.ClaimSeven
namespace Go.Proofs.YtglilmkmkdkedaaGreatDoor
namespace Rows

/-- THE TIED CARD OF 'laws.FnExactBagRelation'. -/
def fnExactBagRelationCard : Claim7 := { stood := { row := fnExactBagRelationRow, standIns := [], harness := (true, "af5abbdc3a519a526fd1dd3fd5e6b27d26f638c6e3fba85876d02bd370b1cf2e"), looks := false }, kinds := [], alts := [], laidByText := true, laidKinds := [.data], laidTests := true, laidLooks := .later }
def FnExactBagRelationCardSaid : Prop := Claim7.holds Tryz.pinned (.plain (OpenSpec.ofChange fnExactBagRelationSpec)) fnExactBagRelationCard

/-- THE TIED CARD OF 'laws.FnExactBagRowCounts'. -/
def fnExactBagRowCountsCard : Claim7 := { stood := { row := fnExactBagRowCountsRow, standIns := [], harness := (true, "af5abbdc3a519a526fd1dd3fd5e6b27d26f638c6e3fba85876d02bd370b1cf2e"), looks := false }, kinds := [], alts := [], laidByText := true, laidKinds := [.data], laidTests := true, laidLooks := .later }
def FnExactBagRowCountsCardSaid : Prop := Claim7.holds Tryz.pinned (.plain (OpenSpec.ofChange fnExactBagRowCountsSpec)) fnExactBagRowCountsCard

/-- THE TIED CARD OF 'laws.FnExactBagRelations'. -/
def fnExactBagRelationsCard : Claim7 := { stood := { row := fnExactBagRelationsRow, standIns := [], harness := (true, "af5abbdc3a519a526fd1dd3fd5e6b27d26f638c6e3fba85876d02bd370b1cf2e"), looks := false }, kinds := [], alts := [], laidByText := true, laidKinds := [.data], laidTests := true, laidLooks := .later }
def FnExactBagRelationsCardSaid : Prop := Claim7.holds Tryz.pinned (.plain (OpenSpec.ofChange fnExactBagRelationsSpec)) fnExactBagRelationsCard

/-- THE TIED CARD OF 'laws.FnExactEvaluateByDecomposition'. -/
def fnExactEvaluateByDecompositionCard : Claim7 := { stood := { row := fnExactEvaluateByDecompositionRow, standIns := [], harness := (true, "af5abbdc3a519a526fd1dd3fd5e6b27d26f638c6e3fba85876d02bd370b1cf2e"), looks := false }, kinds := [], alts := [], laidByText := true, laidKinds := [.data], laidTests := true, laidLooks := .later }
def FnExactEvaluateByDecompositionCardSaid : Prop := Claim7.holds Tryz.pinned (.plain (OpenSpec.ofChange fnExactEvaluateByDecompositionSpec)) fnExactEvaluateByDecompositionCard

/-- THE SECOND FORM's CARD OF 'laws.FnExactBagRelation'. -/
def fnExactBagRelationUptoCard : Claim7 := { stood := { row := fnExactBagRelationUptoRow, standIns := [], harness := (true, "af5abbdc3a519a526fd1dd3fd5e6b27d26f638c6e3fba85876d02bd370b1cf2e"), looks := false }, kinds := [], alts := [], laidByText := true, laidKinds := [.data], laidTests := true, laidLooks := .later }
def FnExactBagRelationUptoCardSaid : Prop := Claim7.holds Tryz.pinned (.plain (OpenSpec.upto fnExactBagRelationSpec)) fnExactBagRelationUptoCard

/-- THE SECOND FORM's CARD OF 'laws.FnExactBagRowCounts'. -/
def fnExactBagRowCountsUptoCard : Claim7 := { stood := { row := fnExactBagRowCountsUptoRow, standIns := [], harness := (true, "af5abbdc3a519a526fd1dd3fd5e6b27d26f638c6e3fba85876d02bd370b1cf2e"), looks := false }, kinds := [], alts := [], laidByText := true, laidKinds := [.data], laidTests := true, laidLooks := .later }
def FnExactBagRowCountsUptoCardSaid : Prop := Claim7.holds Tryz.pinned (.plain (OpenSpec.upto fnExactBagRowCountsSpec)) fnExactBagRowCountsUptoCard

/-- THE SECOND FORM's CARD OF 'laws.FnExactBagRelations'. -/
def fnExactBagRelationsUptoCard : Claim7 := { stood := { row := fnExactBagRelationsUptoRow, standIns := [], harness := (true, "af5abbdc3a519a526fd1dd3fd5e6b27d26f638c6e3fba85876d02bd370b1cf2e"), looks := false }, kinds := [], alts := [], laidByText := true, laidKinds := [.data], laidTests := true, laidLooks := .later }
def FnExactBagRelationsUptoCardSaid : Prop := Claim7.holds Tryz.pinned (.plain (OpenSpec.upto fnExactBagRelationsSpec)) fnExactBagRelationsUptoCard

/-- THE SECOND FORM's CARD OF 'laws.FnExactEvaluateByDecomposition'. -/
def fnExactEvaluateByDecompositionUptoCard : Claim7 := { stood := { row := fnExactEvaluateByDecompositionUptoRow, standIns := [], harness := (true, "af5abbdc3a519a526fd1dd3fd5e6b27d26f638c6e3fba85876d02bd370b1cf2e"), looks := false }, kinds := [], alts := [], laidByText := true, laidKinds := [.data], laidTests := true, laidLooks := .later }
def FnExactEvaluateByDecompositionUptoCardSaid : Prop := Claim7.holds Tryz.pinned (.plain (OpenSpec.upto fnExactEvaluateByDecompositionSpec)) fnExactEvaluateByDecompositionUptoCard
end Rows
end Go.Proofs.YtglilmkmkdkedaaGreatDoor
