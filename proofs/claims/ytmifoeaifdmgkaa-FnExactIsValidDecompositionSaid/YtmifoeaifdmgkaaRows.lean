/-
  No cell of these rows narrows 'for every input' (looked for: loops, veiled, ifaces, maps, wideKeys, modest, calm, conditions, laid).
  DERIVED. THE GIVEN ROWS OF THIS SEAT. 7 by the template 'for every input the law returns true; each argument reads behind the call as it read before'; 0 by the template 'total and deterministic' (their statements: YtmifoeaifdmgkaaTotals.lean).
  GIVEN WITH THE SEED: the statements are not yours to turn. If you find one false, say at which input.
  Laid BY PROGRAM, IN A SANDBOX (cutbox-rows.mjs): the forced cells as the released guide's own fill.sh prints them over the translation 10424cf004bb3e4c… (all of the seat's roots in one cut). By AI agents, Wed Nov 11 2026. No macro, syntax, notation, axiom, sorry.
-/
import Derived.Test.YtmifoeaifdmgkaaChecked
import GoSem.Claim
import GoSem.ClaimJoined
import GoSem.ClaimMapViews
import Derived.JoinedTies
import Derived.KernelRfl
namespace Go.Proofs.Ytmifoeaifdmgkaa
/- THE CELL 'sum', in the pinned program and in every row, IS THE sha256 OF THE DUMP (.gsa) THAT YtmifoeaifdmgkaaProg.lean LOADS. Nothing in Lean hashes anything: it is a label: what it is worth is what the hold of that sum in a sandbox is worth. -/
noncomputable def Try.pinned : Pinned := { name := "ytmifoeaifdmgkaa", sum := "10424cf004bb3e4c7c4a746fcb86e3e062790592eb2f46a6740672729d1ce208", checked := Try.checked }
namespace Rows
def none {H : Type} : Left H := { results := [], args := [] }

/-- 'laws.FnExactFormatDecomposition': WHATEVER THE INPUT: true; the input reads as it did. -/
def fnExactFormatDecompositionSpec : ChangeSpec := { name := "fnExactFormatDecomposition", fn := fun _ => fun
  | [d] => { results := [.lit (.bool true)], args := [d] }
  | _ => none }
def fnExactFormatDecompositionRow : OpenClaim := { program := "ytmifoeaifdmgkaa", sum := "10424cf004bb3e4c7c4a746fcb86e3e062790592eb2f46a6740672729d1ce208", func := "loop.example/g01917/laws.FnExactFormatDecomposition", spec := "fnExactFormatDecomposition", recurses := true, apart := false }
def FnExactFormatDecompositionSaid : Prop := fnExactFormatDecompositionRow.holds Try.pinned (OpenSpec.ofChange fnExactFormatDecompositionSpec)

/-- ITS FALSE NEIGHBOUR: 'it returns false'. Refute it at one input. -/
def fnExactFormatDecompositionWrong : ChangeSpec := { name := "fnExactFormatDecomposition", fn := fun _ => fun
  | [d] => { results := [.lit (.bool false)], args := [d] }
  | _ => none }
def FnExactFormatDecompositionWrongFalsely : Prop := fnExactFormatDecompositionRow.holds Try.pinned (OpenSpec.ofChange fnExactFormatDecompositionWrong)

/-- 'laws.FnExactSingleBagDecomposition': WHATEVER THE INPUT: true; the input reads as it did. -/
def fnExactSingleBagDecompositionSpec : ChangeSpec := { name := "fnExactSingleBagDecomposition", fn := fun _ => fun
  | [d] => { results := [.lit (.bool true)], args := [d] }
  | _ => none }
def fnExactSingleBagDecompositionRow : OpenClaim := { program := "ytmifoeaifdmgkaa", sum := "10424cf004bb3e4c7c4a746fcb86e3e062790592eb2f46a6740672729d1ce208", func := "loop.example/g01917/laws.FnExactSingleBagDecomposition", spec := "fnExactSingleBagDecomposition", apart := false }
def FnExactSingleBagDecompositionSaid : Prop := fnExactSingleBagDecompositionRow.holds Try.pinned (OpenSpec.ofChange fnExactSingleBagDecompositionSpec)

/-- ITS FALSE NEIGHBOUR: 'it returns false'. Refute it at one input. -/
def fnExactSingleBagDecompositionWrong : ChangeSpec := { name := "fnExactSingleBagDecomposition", fn := fun _ => fun
  | [d] => { results := [.lit (.bool false)], args := [d] }
  | _ => none }
def FnExactSingleBagDecompositionWrongFalsely : Prop := fnExactSingleBagDecompositionRow.holds Try.pinned (OpenSpec.ofChange fnExactSingleBagDecompositionWrong)

/-- 'laws.FnExactIsValidDecomposition': WHATEVER THE INPUT: true; the input reads as it did. -/
def fnExactIsValidDecompositionSpec : ChangeSpec := { name := "fnExactIsValidDecomposition", fn := fun _ => fun
  | [d1, d2] => { results := [.lit (.bool true)], args := [d1, d2] }
  | _ => none }
def fnExactIsValidDecompositionRow : OpenClaim := { program := "ytmifoeaifdmgkaa", sum := "10424cf004bb3e4c7c4a746fcb86e3e062790592eb2f46a6740672729d1ce208", func := "loop.example/g01917/laws.FnExactIsValidDecomposition", spec := "fnExactIsValidDecomposition", apart := false }
def FnExactIsValidDecompositionSaid : Prop := fnExactIsValidDecompositionRow.holds Try.pinned (OpenSpec.ofChange fnExactIsValidDecompositionSpec)

/-- ITS FALSE NEIGHBOUR: 'it returns false'. Refute it at one input. -/
def fnExactIsValidDecompositionWrong : ChangeSpec := { name := "fnExactIsValidDecomposition", fn := fun _ => fun
  | [d1, d2] => { results := [.lit (.bool false)], args := [d1, d2] }
  | _ => none }
def FnExactIsValidDecompositionWrongFalsely : Prop := fnExactIsValidDecompositionRow.holds Try.pinned (OpenSpec.ofChange fnExactIsValidDecompositionWrong)

/-- 'laws.FnExactDecompositionFromOrder': WHATEVER THE INPUT: true; the input reads as it did. -/
def fnExactDecompositionFromOrderSpec : ChangeSpec := { name := "fnExactDecompositionFromOrder", fn := fun _ => fun
  | [d1, d2] => { results := [.lit (.bool true)], args := [d1, d2] }
  | _ => none }
def fnExactDecompositionFromOrderRow : OpenClaim := { program := "ytmifoeaifdmgkaa", sum := "10424cf004bb3e4c7c4a746fcb86e3e062790592eb2f46a6740672729d1ce208", func := "loop.example/g01917/laws.FnExactDecompositionFromOrder", spec := "fnExactDecompositionFromOrder", apart := false }
def FnExactDecompositionFromOrderSaid : Prop := fnExactDecompositionFromOrderRow.holds Try.pinned (OpenSpec.ofChange fnExactDecompositionFromOrderSpec)

/-- ITS FALSE NEIGHBOUR: 'it returns false'. Refute it at one input. -/
def fnExactDecompositionFromOrderWrong : ChangeSpec := { name := "fnExactDecompositionFromOrder", fn := fun _ => fun
  | [d1, d2] => { results := [.lit (.bool false)], args := [d1, d2] }
  | _ => none }
def FnExactDecompositionFromOrderWrongFalsely : Prop := fnExactDecompositionFromOrderRow.holds Try.pinned (OpenSpec.ofChange fnExactDecompositionFromOrderWrong)

/-- 'laws.FnExactEqualHistories': WHATEVER THE INPUT: true; the input reads as it did. -/
def fnExactEqualHistoriesSpec : ChangeSpec := { name := "fnExactEqualHistories", fn := fun _ => fun
  | [d1, d2] => { results := [.lit (.bool true)], args := [d1, d2] }
  | _ => none }
def fnExactEqualHistoriesRow : OpenClaim := { program := "ytmifoeaifdmgkaa", sum := "10424cf004bb3e4c7c4a746fcb86e3e062790592eb2f46a6740672729d1ce208", func := "loop.example/g01917/laws.FnExactEqualHistories", spec := "fnExactEqualHistories", apart := false }
def FnExactEqualHistoriesSaid : Prop := fnExactEqualHistoriesRow.holds Try.pinned (OpenSpec.ofChange fnExactEqualHistoriesSpec)

/-- ITS FALSE NEIGHBOUR: 'it returns false'. Refute it at one input. -/
def fnExactEqualHistoriesWrong : ChangeSpec := { name := "fnExactEqualHistories", fn := fun _ => fun
  | [d1, d2] => { results := [.lit (.bool false)], args := [d1, d2] }
  | _ => none }
def FnExactEqualHistoriesWrongFalsely : Prop := fnExactEqualHistoriesRow.holds Try.pinned (OpenSpec.ofChange fnExactEqualHistoriesWrong)

/-- 'laws.FnCountedRelations': WHATEVER THE INPUT: true; the input reads as it did. -/
def fnCountedRelationsSpec : ChangeSpec := { name := "fnCountedRelations", fn := fun _ => fun
  | [d] => { results := [.lit (.bool true)], args := [d] }
  | _ => none }
def fnCountedRelationsRow : OpenClaim := { program := "ytmifoeaifdmgkaa", sum := "10424cf004bb3e4c7c4a746fcb86e3e062790592eb2f46a6740672729d1ce208", func := "loop.example/g01917/laws.FnCountedRelations", spec := "fnCountedRelations", recurses := true, apart := false }
def FnCountedRelationsSaid : Prop := fnCountedRelationsRow.holds Try.pinned (OpenSpec.ofChange fnCountedRelationsSpec)

/-- ITS FALSE NEIGHBOUR: 'it returns false'. Refute it at one input. -/
def fnCountedRelationsWrong : ChangeSpec := { name := "fnCountedRelations", fn := fun _ => fun
  | [d] => { results := [.lit (.bool false)], args := [d] }
  | _ => none }
def FnCountedRelationsWrongFalsely : Prop := fnCountedRelationsRow.holds Try.pinned (OpenSpec.ofChange fnCountedRelationsWrong)

/-- 'laws.FnCountedProjection': WHATEVER THE INPUT: true; the input reads as it did. -/
def fnCountedProjectionSpec : ChangeSpec := { name := "fnCountedProjection", fn := fun _ => fun
  | [d] => { results := [.lit (.bool true)], args := [d] }
  | _ => none }
def fnCountedProjectionRow : OpenClaim := { program := "ytmifoeaifdmgkaa", sum := "10424cf004bb3e4c7c4a746fcb86e3e062790592eb2f46a6740672729d1ce208", func := "loop.example/g01917/laws.FnCountedProjection", spec := "fnCountedProjection", recurses := true, apart := false }
def FnCountedProjectionSaid : Prop := fnCountedProjectionRow.holds Try.pinned (OpenSpec.ofChange fnCountedProjectionSpec)

/-- ITS FALSE NEIGHBOUR: 'it returns false'. Refute it at one input. -/
def fnCountedProjectionWrong : ChangeSpec := { name := "fnCountedProjection", fn := fun _ => fun
  | [d] => { results := [.lit (.bool false)], args := [d] }
  | _ => none }
def FnCountedProjectionWrongFalsely : Prop := fnCountedProjectionRow.holds Try.pinned (OpenSpec.ofChange fnCountedProjectionWrong)

/- THE SECOND FORM. 'bulk': how many values and letters a reading holds, each counted each time it is reached (what is shared counts as often as it is met; a slice's spare places count too). A statement '..UptoSaid' is the law's where the arguments, and the package variables that the reading takes, are together of bulk at most 1048576: NARROWER than '..Said'. Prove '..Said' where nothing that the law and all that it calls make is longer than what came in: it says more and counts as full. Else prove '..UptoSaid'. A law counts once. -/
mutual
def uptoBulk {H : Type} : DataW H → Nat
  | .lit (.string bytes) => bytes.length + 1
  | .lit _ => 1
  | .nil => 1
  | .ptr d => uptoBulk d + 1
  | .slice elems spare => uptoBulkAll elems + uptoBulkAll spare + 1
  | .agg parts => uptoBulkAll parts + 1
  | .iface _ d => uptoBulk d + 1
  | .map entries => uptoBulkEntries entries + 1
  | .held _ => 1
def uptoBulkAll {H : Type} : List (DataW H) → Nat
  | [] => 0
  | d :: r => uptoBulk d + uptoBulkAll r
def uptoBulkEntries {H : Type} : List (Lit × DataW H) → Nat
  | [] => 0
  | x :: r => uptoBulkEntry x + uptoBulkEntries r
def uptoBulkEntry {H : Type} : Lit × DataW H → Nat
  | (.string bytes, d) => bytes.length + uptoBulk d + 1
  | (_, d) => uptoBulk d + 1
 end
def uptoSmall : (H : Type) → List (DataW H) → Bool := fun _ ds => decide (uptoBulkAll ds ≤ 1048576)
def OpenSpec.upto (s : _root_.Go.ChangeSpec) : _root_.Go.OpenSpec := { _root_.Go.OpenSpec.ofChange s with cond := some uptoSmall }

/-- 'laws.FnExactFormatDecomposition', WHERE WHAT IT READS IS OF BULK AT MOST 1048576: true; the input reads as it did. -/
def fnExactFormatDecompositionUptoRow : OpenClaim := { program := "ytmifoeaifdmgkaa", sum := "10424cf004bb3e4c7c4a746fcb86e3e062790592eb2f46a6740672729d1ce208", func := "loop.example/g01917/laws.FnExactFormatDecomposition", spec := "fnExactFormatDecomposition", recurses := true, apart := false, narrowed := true }
def FnExactFormatDecompositionUptoSaid : Prop := fnExactFormatDecompositionUptoRow.holds Try.pinned (OpenSpec.upto fnExactFormatDecompositionSpec)

/-- 'laws.FnExactSingleBagDecomposition', WHERE WHAT IT READS IS OF BULK AT MOST 1048576: true; the input reads as it did. -/
def fnExactSingleBagDecompositionUptoRow : OpenClaim := { program := "ytmifoeaifdmgkaa", sum := "10424cf004bb3e4c7c4a746fcb86e3e062790592eb2f46a6740672729d1ce208", func := "loop.example/g01917/laws.FnExactSingleBagDecomposition", spec := "fnExactSingleBagDecomposition", apart := false, narrowed := true }
def FnExactSingleBagDecompositionUptoSaid : Prop := fnExactSingleBagDecompositionUptoRow.holds Try.pinned (OpenSpec.upto fnExactSingleBagDecompositionSpec)

/-- 'laws.FnExactIsValidDecomposition', WHERE WHAT IT READS IS OF BULK AT MOST 1048576: true; the input reads as it did. -/
def fnExactIsValidDecompositionUptoRow : OpenClaim := { program := "ytmifoeaifdmgkaa", sum := "10424cf004bb3e4c7c4a746fcb86e3e062790592eb2f46a6740672729d1ce208", func := "loop.example/g01917/laws.FnExactIsValidDecomposition", spec := "fnExactIsValidDecomposition", apart := false, narrowed := true }
def FnExactIsValidDecompositionUptoSaid : Prop := fnExactIsValidDecompositionUptoRow.holds Try.pinned (OpenSpec.upto fnExactIsValidDecompositionSpec)

/-- 'laws.FnExactDecompositionFromOrder', WHERE WHAT IT READS IS OF BULK AT MOST 1048576: true; the input reads as it did. -/
def fnExactDecompositionFromOrderUptoRow : OpenClaim := { program := "ytmifoeaifdmgkaa", sum := "10424cf004bb3e4c7c4a746fcb86e3e062790592eb2f46a6740672729d1ce208", func := "loop.example/g01917/laws.FnExactDecompositionFromOrder", spec := "fnExactDecompositionFromOrder", apart := false, narrowed := true }
def FnExactDecompositionFromOrderUptoSaid : Prop := fnExactDecompositionFromOrderUptoRow.holds Try.pinned (OpenSpec.upto fnExactDecompositionFromOrderSpec)

/-- 'laws.FnExactEqualHistories', WHERE WHAT IT READS IS OF BULK AT MOST 1048576: true; the input reads as it did. -/
def fnExactEqualHistoriesUptoRow : OpenClaim := { program := "ytmifoeaifdmgkaa", sum := "10424cf004bb3e4c7c4a746fcb86e3e062790592eb2f46a6740672729d1ce208", func := "loop.example/g01917/laws.FnExactEqualHistories", spec := "fnExactEqualHistories", apart := false, narrowed := true }
def FnExactEqualHistoriesUptoSaid : Prop := fnExactEqualHistoriesUptoRow.holds Try.pinned (OpenSpec.upto fnExactEqualHistoriesSpec)

/-- 'laws.FnCountedRelations', WHERE WHAT IT READS IS OF BULK AT MOST 1048576: true; the input reads as it did. -/
def fnCountedRelationsUptoRow : OpenClaim := { program := "ytmifoeaifdmgkaa", sum := "10424cf004bb3e4c7c4a746fcb86e3e062790592eb2f46a6740672729d1ce208", func := "loop.example/g01917/laws.FnCountedRelations", spec := "fnCountedRelations", recurses := true, apart := false, narrowed := true }
def FnCountedRelationsUptoSaid : Prop := fnCountedRelationsUptoRow.holds Try.pinned (OpenSpec.upto fnCountedRelationsSpec)

/-- 'laws.FnCountedProjection', WHERE WHAT IT READS IS OF BULK AT MOST 1048576: true; the input reads as it did. -/
def fnCountedProjectionUptoRow : OpenClaim := { program := "ytmifoeaifdmgkaa", sum := "10424cf004bb3e4c7c4a746fcb86e3e062790592eb2f46a6740672729d1ce208", func := "loop.example/g01917/laws.FnCountedProjection", spec := "fnCountedProjection", recurses := true, apart := false, narrowed := true }
def FnCountedProjectionUptoSaid : Prop := fnCountedProjectionUptoRow.holds Try.pinned (OpenSpec.upto fnCountedProjectionSpec)

end Rows
end Go.Proofs.Ytmifoeaifdmgkaa
