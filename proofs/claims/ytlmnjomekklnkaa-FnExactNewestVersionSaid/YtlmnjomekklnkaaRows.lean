/-
  No cell of these rows narrows 'for every input' (looked for: loops, veiled, ifaces, maps, wideKeys, modest, calm, conditions, laid).
  DERIVED. THE GIVEN ROWS OF THIS SEAT. 12 by the template 'for every input the law returns true; each argument reads behind the call as it read before'; 0 by the template 'total and deterministic' (their statements: YtlmnjomekklnkaaTotals.lean).
  GIVEN WITH THE SEED: the statements are not yours to turn. If you find one false, say at which input.
  Laid BY PROGRAM, IN A SANDBOX (cutbox-rows.mjs): the forced cells as the released guide's own fill.sh prints them over the translation e6da72d025915802… (all of the seat's roots in one cut). By AI agents, Wed Nov 11 2026. No macro, syntax, notation, axiom, sorry.
-/
import Derived.Test.YtlmnjomekklnkaaChecked
import GoSem.Claim
import GoSem.ClaimJoined
import GoSem.ClaimMapViews
import Derived.JoinedTies
import Derived.KernelRfl
namespace Go.Proofs.Ytlmnjomekklnkaa
/- THE CELL 'sum', in the pinned program and in every row, IS THE sha256 OF THE DUMP (.gsa) THAT YtlmnjomekklnkaaProg.lean LOADS. Nothing in Lean hashes anything: it is a label: what it is worth is what the hold of that sum in a sandbox is worth. -/
noncomputable def Try.pinned : Pinned := { name := "ytlmnjomekklnkaa", sum := "e6da72d0259158021c685198fc4d3c78e2a1482976735b317799753d7ad925ca", checked := Try.checked }
namespace Rows
def none {H : Type} : Left H := { results := [], args := [] }

/-- 'laws.FnExactNewestVersion': WHATEVER THE INPUT: true; the input reads as it did. -/
def fnExactNewestVersionSpec : ChangeSpec := { name := "fnExactNewestVersion", fn := fun _ => fun
  | [d] => { results := [.lit (.bool true)], args := [d] }
  | _ => none }
def fnExactNewestVersionRow : OpenClaim := { program := "ytlmnjomekklnkaa", sum := "e6da72d0259158021c685198fc4d3c78e2a1482976735b317799753d7ad925ca", func := "loop.example/g01917/laws.FnExactNewestVersion", spec := "fnExactNewestVersion", apart := false }
def FnExactNewestVersionSaid : Prop := fnExactNewestVersionRow.holds Try.pinned (OpenSpec.ofChange fnExactNewestVersionSpec)

/-- ITS FALSE NEIGHBOUR: 'it returns false'. Refute it at one input. -/
def fnExactNewestVersionWrong : ChangeSpec := { name := "fnExactNewestVersion", fn := fun _ => fun
  | [d] => { results := [.lit (.bool false)], args := [d] }
  | _ => none }
def FnExactNewestVersionWrongFalsely : Prop := fnExactNewestVersionRow.holds Try.pinned (OpenSpec.ofChange fnExactNewestVersionWrong)

/-- 'laws.FnExactDeleteObsoleteFiles': WHATEVER THE INPUT: true; the input reads as it did. -/
def fnExactDeleteObsoleteFilesSpec : ChangeSpec := { name := "fnExactDeleteObsoleteFiles", fn := fun _ => fun
  | [d] => { results := [.lit (.bool true)], args := [d] }
  | _ => none }
def fnExactDeleteObsoleteFilesRow : OpenClaim := { program := "ytlmnjomekklnkaa", sum := "e6da72d0259158021c685198fc4d3c78e2a1482976735b317799753d7ad925ca", func := "loop.example/g01917/laws.FnExactDeleteObsoleteFiles", spec := "fnExactDeleteObsoleteFiles", apart := false }
def FnExactDeleteObsoleteFilesSaid : Prop := fnExactDeleteObsoleteFilesRow.holds Try.pinned (OpenSpec.ofChange fnExactDeleteObsoleteFilesSpec)

/-- ITS FALSE NEIGHBOUR: 'it returns false'. Refute it at one input. -/
def fnExactDeleteObsoleteFilesWrong : ChangeSpec := { name := "fnExactDeleteObsoleteFiles", fn := fun _ => fun
  | [d] => { results := [.lit (.bool false)], args := [d] }
  | _ => none }
def FnExactDeleteObsoleteFilesWrongFalsely : Prop := fnExactDeleteObsoleteFilesRow.holds Try.pinned (OpenSpec.ofChange fnExactDeleteObsoleteFilesWrong)

/-- 'laws.FnExactRecoverDatabase': WHATEVER THE INPUT: true; the input reads as it did. -/
def fnExactRecoverDatabaseSpec : ChangeSpec := { name := "fnExactRecoverDatabase", fn := fun _ => fun
  | [d] => { results := [.lit (.bool true)], args := [d] }
  | _ => none }
def fnExactRecoverDatabaseRow : OpenClaim := { program := "ytlmnjomekklnkaa", sum := "e6da72d0259158021c685198fc4d3c78e2a1482976735b317799753d7ad925ca", func := "loop.example/g01917/laws.FnExactRecoverDatabase", spec := "fnExactRecoverDatabase", apart := false }
def FnExactRecoverDatabaseSaid : Prop := fnExactRecoverDatabaseRow.holds Try.pinned (OpenSpec.ofChange fnExactRecoverDatabaseSpec)

/-- ITS FALSE NEIGHBOUR: 'it returns false'. Refute it at one input. -/
def fnExactRecoverDatabaseWrong : ChangeSpec := { name := "fnExactRecoverDatabase", fn := fun _ => fun
  | [d] => { results := [.lit (.bool false)], args := [d] }
  | _ => none }
def FnExactRecoverDatabaseWrongFalsely : Prop := fnExactRecoverDatabaseRow.holds Try.pinned (OpenSpec.ofChange fnExactRecoverDatabaseWrong)

/-- 'laws.FnExactCommitDatabase': WHATEVER THE INPUT: true; the input reads as it did. -/
def fnExactCommitDatabaseSpec : ChangeSpec := { name := "fnExactCommitDatabase", fn := fun _ => fun
  | [d1, d2, d3] => { results := [.lit (.bool true)], args := [d1, d2, d3] }
  | _ => none }
def fnExactCommitDatabaseRow : OpenClaim := { program := "ytlmnjomekklnkaa", sum := "e6da72d0259158021c685198fc4d3c78e2a1482976735b317799753d7ad925ca", func := "loop.example/g01917/laws.FnExactCommitDatabase", spec := "fnExactCommitDatabase", apart := false }
def FnExactCommitDatabaseSaid : Prop := fnExactCommitDatabaseRow.holds Try.pinned (OpenSpec.ofChange fnExactCommitDatabaseSpec)

/-- ITS FALSE NEIGHBOUR: 'it returns false'. Refute it at one input. -/
def fnExactCommitDatabaseWrong : ChangeSpec := { name := "fnExactCommitDatabase", fn := fun _ => fun
  | [d1, d2, d3] => { results := [.lit (.bool false)], args := [d1, d2, d3] }
  | _ => none }
def FnExactCommitDatabaseWrongFalsely : Prop := fnExactCommitDatabaseRow.holds Try.pinned (OpenSpec.ofChange fnExactCommitDatabaseWrong)

/-- 'laws.FnFiles': WHATEVER THE INPUT: true; the input reads as it did. -/
def fnFilesSpec : ChangeSpec := { name := "fnFiles", fn := fun _ => fun
  | [d] => { results := [.lit (.bool true)], args := [d] }
  | _ => none }
def fnFilesRow : OpenClaim := { program := "ytlmnjomekklnkaa", sum := "e6da72d0259158021c685198fc4d3c78e2a1482976735b317799753d7ad925ca", func := "loop.example/g01917/laws.FnFiles", spec := "fnFiles", recurses := true, apart := false }
def FnFilesSaid : Prop := fnFilesRow.holds Try.pinned (OpenSpec.ofChange fnFilesSpec)

/-- ITS FALSE NEIGHBOUR: 'it returns false'. Refute it at one input. -/
def fnFilesWrong : ChangeSpec := { name := "fnFiles", fn := fun _ => fun
  | [d] => { results := [.lit (.bool false)], args := [d] }
  | _ => none }
def FnFilesWrongFalsely : Prop := fnFilesRow.holds Try.pinned (OpenSpec.ofChange fnFilesWrong)

/-- 'laws.FnDeleteObsoleteFiles': WHATEVER THE INPUT: true; the input reads as it did. -/
def fnDeleteObsoleteFilesSpec : ChangeSpec := { name := "fnDeleteObsoleteFiles", fn := fun _ => fun
  | [d] => { results := [.lit (.bool true)], args := [d] }
  | _ => none }
def fnDeleteObsoleteFilesRow : OpenClaim := { program := "ytlmnjomekklnkaa", sum := "e6da72d0259158021c685198fc4d3c78e2a1482976735b317799753d7ad925ca", func := "loop.example/g01917/laws.FnDeleteObsoleteFiles", spec := "fnDeleteObsoleteFiles", recurses := true, apart := false }
def FnDeleteObsoleteFilesSaid : Prop := fnDeleteObsoleteFilesRow.holds Try.pinned (OpenSpec.ofChange fnDeleteObsoleteFilesSpec)

/-- ITS FALSE NEIGHBOUR: 'it returns false'. Refute it at one input. -/
def fnDeleteObsoleteFilesWrong : ChangeSpec := { name := "fnDeleteObsoleteFiles", fn := fun _ => fun
  | [d] => { results := [.lit (.bool false)], args := [d] }
  | _ => none }
def FnDeleteObsoleteFilesWrongFalsely : Prop := fnDeleteObsoleteFilesRow.holds Try.pinned (OpenSpec.ofChange fnDeleteObsoleteFilesWrong)

/-- 'laws.FnCommitRecovery': WHATEVER THE INPUT: true; the input reads as it did. -/
def fnCommitRecoverySpec : ChangeSpec := { name := "fnCommitRecovery", fn := fun _ => fun
  | [d] => { results := [.lit (.bool true)], args := [d] }
  | _ => none }
def fnCommitRecoveryRow : OpenClaim := { program := "ytlmnjomekklnkaa", sum := "e6da72d0259158021c685198fc4d3c78e2a1482976735b317799753d7ad925ca", func := "loop.example/g01917/laws.FnCommitRecovery", spec := "fnCommitRecovery", recurses := true, apart := false }
def FnCommitRecoverySaid : Prop := fnCommitRecoveryRow.holds Try.pinned (OpenSpec.ofChange fnCommitRecoverySpec)

/-- ITS FALSE NEIGHBOUR: 'it returns false'. Refute it at one input. -/
def fnCommitRecoveryWrong : ChangeSpec := { name := "fnCommitRecovery", fn := fun _ => fun
  | [d] => { results := [.lit (.bool false)], args := [d] }
  | _ => none }
def FnCommitRecoveryWrongFalsely : Prop := fnCommitRecoveryRow.holds Try.pinned (OpenSpec.ofChange fnCommitRecoveryWrong)

/-- 'laws.FnDatabaseDifference': WHATEVER THE INPUT: true; the input reads as it did. -/
def fnDatabaseDifferenceSpec : ChangeSpec := { name := "fnDatabaseDifference", fn := fun _ => fun
  | [d] => { results := [.lit (.bool true)], args := [d] }
  | _ => none }
def fnDatabaseDifferenceRow : OpenClaim := { program := "ytlmnjomekklnkaa", sum := "e6da72d0259158021c685198fc4d3c78e2a1482976735b317799753d7ad925ca", func := "loop.example/g01917/laws.FnDatabaseDifference", spec := "fnDatabaseDifference", recurses := true, apart := false }
def FnDatabaseDifferenceSaid : Prop := fnDatabaseDifferenceRow.holds Try.pinned (OpenSpec.ofChange fnDatabaseDifferenceSpec)

/-- ITS FALSE NEIGHBOUR: 'it returns false'. Refute it at one input. -/
def fnDatabaseDifferenceWrong : ChangeSpec := { name := "fnDatabaseDifference", fn := fun _ => fun
  | [d] => { results := [.lit (.bool false)], args := [d] }
  | _ => none }
def FnDatabaseDifferenceWrongFalsely : Prop := fnDatabaseDifferenceRow.holds Try.pinned (OpenSpec.ofChange fnDatabaseDifferenceWrong)

/-- 'laws.FnBatches': WHATEVER THE INPUT: true; the input reads as it did. -/
def fnBatchesSpec : ChangeSpec := { name := "fnBatches", fn := fun _ => fun
  | [d] => { results := [.lit (.bool true)], args := [d] }
  | _ => none }
def fnBatchesRow : OpenClaim := { program := "ytlmnjomekklnkaa", sum := "e6da72d0259158021c685198fc4d3c78e2a1482976735b317799753d7ad925ca", func := "loop.example/g01917/laws.FnBatches", spec := "fnBatches", recurses := true, apart := false }
def FnBatchesSaid : Prop := fnBatchesRow.holds Try.pinned (OpenSpec.ofChange fnBatchesSpec)

/-- ITS FALSE NEIGHBOUR: 'it returns false'. Refute it at one input. -/
def fnBatchesWrong : ChangeSpec := { name := "fnBatches", fn := fun _ => fun
  | [d] => { results := [.lit (.bool false)], args := [d] }
  | _ => none }
def FnBatchesWrongFalsely : Prop := fnBatchesRow.holds Try.pinned (OpenSpec.ofChange fnBatchesWrong)

/-- 'laws.FnDeltas': WHATEVER THE INPUT: true; the input reads as it did. -/
def fnDeltasSpec : ChangeSpec := { name := "fnDeltas", fn := fun _ => fun
  | [d] => { results := [.lit (.bool true)], args := [d] }
  | _ => none }
def fnDeltasRow : OpenClaim := { program := "ytlmnjomekklnkaa", sum := "e6da72d0259158021c685198fc4d3c78e2a1482976735b317799753d7ad925ca", func := "loop.example/g01917/laws.FnDeltas", spec := "fnDeltas", recurses := true, apart := false }
def FnDeltasSaid : Prop := fnDeltasRow.holds Try.pinned (OpenSpec.ofChange fnDeltasSpec)

/-- ITS FALSE NEIGHBOUR: 'it returns false'. Refute it at one input. -/
def fnDeltasWrong : ChangeSpec := { name := "fnDeltas", fn := fun _ => fun
  | [d] => { results := [.lit (.bool false)], args := [d] }
  | _ => none }
def FnDeltasWrongFalsely : Prop := fnDeltasRow.holds Try.pinned (OpenSpec.ofChange fnDeltasWrong)

/-- 'laws.FnCountedRelations': WHATEVER THE INPUT: true; the input reads as it did. -/
def fnCountedRelationsSpec : ChangeSpec := { name := "fnCountedRelations", fn := fun _ => fun
  | [d] => { results := [.lit (.bool true)], args := [d] }
  | _ => none }
def fnCountedRelationsRow : OpenClaim := { program := "ytlmnjomekklnkaa", sum := "e6da72d0259158021c685198fc4d3c78e2a1482976735b317799753d7ad925ca", func := "loop.example/g01917/laws.FnCountedRelations", spec := "fnCountedRelations", recurses := true, apart := false }
def FnCountedRelationsSaid : Prop := fnCountedRelationsRow.holds Try.pinned (OpenSpec.ofChange fnCountedRelationsSpec)

/-- ITS FALSE NEIGHBOUR: 'it returns false'. Refute it at one input. -/
def fnCountedRelationsWrong : ChangeSpec := { name := "fnCountedRelations", fn := fun _ => fun
  | [d] => { results := [.lit (.bool false)], args := [d] }
  | _ => none }
def FnCountedRelationsWrongFalsely : Prop := fnCountedRelationsRow.holds Try.pinned (OpenSpec.ofChange fnCountedRelationsWrong)

/-- 'laws.FnCountedProjection': WHATEVER THE INPUT: true; the input reads as it did. -/
def fnCountedProjectionSpec : ChangeSpec := { name := "fnCountedProjection", fn := fun _ => fun
  | [d] => { results := [.lit (.bool true)], args := [d] }
  | _ => none }
def fnCountedProjectionRow : OpenClaim := { program := "ytlmnjomekklnkaa", sum := "e6da72d0259158021c685198fc4d3c78e2a1482976735b317799753d7ad925ca", func := "loop.example/g01917/laws.FnCountedProjection", spec := "fnCountedProjection", recurses := true, apart := false }
def FnCountedProjectionSaid : Prop := fnCountedProjectionRow.holds Try.pinned (OpenSpec.ofChange fnCountedProjectionSpec)

/-- ITS FALSE NEIGHBOUR: 'it returns false'. Refute it at one input. -/
def fnCountedProjectionWrong : ChangeSpec := { name := "fnCountedProjection", fn := fun _ => fun
  | [d] => { results := [.lit (.bool false)], args := [d] }
  | _ => none }
def FnCountedProjectionWrongFalsely : Prop := fnCountedProjectionRow.holds Try.pinned (OpenSpec.ofChange fnCountedProjectionWrong)

/- THE SECOND FORM. 'bulk': how many values and letters a reading holds, each counted each time it is reached (what is shared counts as often as it is met; a slice's spare places count too). A statement '..UptoSaid' is the law's where the arguments, and the package variables that the reading takes, are together of bulk at most 1048576: NARROWER than '..Said'. Prove '..Said' where nothing that the law and all that it calls make is longer than what came in: it says more and counts as full. Else prove '..UptoSaid'. A law counts once. -/
mutual
def uptoBulk {H : Type} : DataW H → Nat
  | .lit (.string bytes) => bytes.length + 1
  | .lit _ => 1
  | .nil => 1
  | .ptr d => uptoBulk d + 1
  | .slice elems spare => uptoBulkAll elems + uptoBulkAll spare + 1
  | .agg parts => uptoBulkAll parts + 1
  | .iface _ d => uptoBulk d + 1
  | .map entries => uptoBulkEntries entries + 1
  | .held _ => 1
def uptoBulkAll {H : Type} : List (DataW H) → Nat
  | [] => 0
  | d :: r => uptoBulk d + uptoBulkAll r
def uptoBulkEntries {H : Type} : List (Lit × DataW H) → Nat
  | [] => 0
  | x :: r => uptoBulkEntry x + uptoBulkEntries r
def uptoBulkEntry {H : Type} : Lit × DataW H → Nat
  | (.string bytes, d) => bytes.length + uptoBulk d + 1
  | (_, d) => uptoBulk d + 1
 end
def uptoSmall : (H : Type) → List (DataW H) → Bool := fun _ ds => decide (uptoBulkAll ds ≤ 1048576)
def OpenSpec.upto (s : _root_.Go.ChangeSpec) : _root_.Go.OpenSpec := { _root_.Go.OpenSpec.ofChange s with cond := some uptoSmall }

/-- 'laws.FnExactNewestVersion', WHERE WHAT IT READS IS OF BULK AT MOST 1048576: true; the input reads as it did. -/
def fnExactNewestVersionUptoRow : OpenClaim := { program := "ytlmnjomekklnkaa", sum := "e6da72d0259158021c685198fc4d3c78e2a1482976735b317799753d7ad925ca", func := "loop.example/g01917/laws.FnExactNewestVersion", spec := "fnExactNewestVersion", apart := false, narrowed := true }
def FnExactNewestVersionUptoSaid : Prop := fnExactNewestVersionUptoRow.holds Try.pinned (OpenSpec.upto fnExactNewestVersionSpec)

/-- 'laws.FnExactDeleteObsoleteFiles', WHERE WHAT IT READS IS OF BULK AT MOST 1048576: true; the input reads as it did. -/
def fnExactDeleteObsoleteFilesUptoRow : OpenClaim := { program := "ytlmnjomekklnkaa", sum := "e6da72d0259158021c685198fc4d3c78e2a1482976735b317799753d7ad925ca", func := "loop.example/g01917/laws.FnExactDeleteObsoleteFiles", spec := "fnExactDeleteObsoleteFiles", apart := false, narrowed := true }
def FnExactDeleteObsoleteFilesUptoSaid : Prop := fnExactDeleteObsoleteFilesUptoRow.holds Try.pinned (OpenSpec.upto fnExactDeleteObsoleteFilesSpec)

/-- 'laws.FnExactRecoverDatabase', WHERE WHAT IT READS IS OF BULK AT MOST 1048576: true; the input reads as it did. -/
def fnExactRecoverDatabaseUptoRow : OpenClaim := { program := "ytlmnjomekklnkaa", sum := "e6da72d0259158021c685198fc4d3c78e2a1482976735b317799753d7ad925ca", func := "loop.example/g01917/laws.FnExactRecoverDatabase", spec := "fnExactRecoverDatabase", apart := false, narrowed := true }
def FnExactRecoverDatabaseUptoSaid : Prop := fnExactRecoverDatabaseUptoRow.holds Try.pinned (OpenSpec.upto fnExactRecoverDatabaseSpec)

/-- 'laws.FnExactCommitDatabase', WHERE WHAT IT READS IS OF BULK AT MOST 1048576: true; the input reads as it did. -/
def fnExactCommitDatabaseUptoRow : OpenClaim := { program := "ytlmnjomekklnkaa", sum := "e6da72d0259158021c685198fc4d3c78e2a1482976735b317799753d7ad925ca", func := "loop.example/g01917/laws.FnExactCommitDatabase", spec := "fnExactCommitDatabase", apart := false, narrowed := true }
def FnExactCommitDatabaseUptoSaid : Prop := fnExactCommitDatabaseUptoRow.holds Try.pinned (OpenSpec.upto fnExactCommitDatabaseSpec)

/-- 'laws.FnFiles', WHERE WHAT IT READS IS OF BULK AT MOST 1048576: true; the input reads as it did. -/
def fnFilesUptoRow : OpenClaim := { program := "ytlmnjomekklnkaa", sum := "e6da72d0259158021c685198fc4d3c78e2a1482976735b317799753d7ad925ca", func := "loop.example/g01917/laws.FnFiles", spec := "fnFiles", recurses := true, apart := false, narrowed := true }
def FnFilesUptoSaid : Prop := fnFilesUptoRow.holds Try.pinned (OpenSpec.upto fnFilesSpec)

/-- 'laws.FnDeleteObsoleteFiles', WHERE WHAT IT READS IS OF BULK AT MOST 1048576: true; the input reads as it did. -/
def fnDeleteObsoleteFilesUptoRow : OpenClaim := { program := "ytlmnjomekklnkaa", sum := "e6da72d0259158021c685198fc4d3c78e2a1482976735b317799753d7ad925ca", func := "loop.example/g01917/laws.FnDeleteObsoleteFiles", spec := "fnDeleteObsoleteFiles", recurses := true, apart := false, narrowed := true }
def FnDeleteObsoleteFilesUptoSaid : Prop := fnDeleteObsoleteFilesUptoRow.holds Try.pinned (OpenSpec.upto fnDeleteObsoleteFilesSpec)

/-- 'laws.FnCommitRecovery', WHERE WHAT IT READS IS OF BULK AT MOST 1048576: true; the input reads as it did. -/
def fnCommitRecoveryUptoRow : OpenClaim := { program := "ytlmnjomekklnkaa", sum := "e6da72d0259158021c685198fc4d3c78e2a1482976735b317799753d7ad925ca", func := "loop.example/g01917/laws.FnCommitRecovery", spec := "fnCommitRecovery", recurses := true, apart := false, narrowed := true }
def FnCommitRecoveryUptoSaid : Prop := fnCommitRecoveryUptoRow.holds Try.pinned (OpenSpec.upto fnCommitRecoverySpec)

/-- 'laws.FnDatabaseDifference', WHERE WHAT IT READS IS OF BULK AT MOST 1048576: true; the input reads as it did. -/
def fnDatabaseDifferenceUptoRow : OpenClaim := { program := "ytlmnjomekklnkaa", sum := "e6da72d0259158021c685198fc4d3c78e2a1482976735b317799753d7ad925ca", func := "loop.example/g01917/laws.FnDatabaseDifference", spec := "fnDatabaseDifference", recurses := true, apart := false, narrowed := true }
def FnDatabaseDifferenceUptoSaid : Prop := fnDatabaseDifferenceUptoRow.holds Try.pinned (OpenSpec.upto fnDatabaseDifferenceSpec)

/-- 'laws.FnBatches', WHERE WHAT IT READS IS OF BULK AT MOST 1048576: true; the input reads as it did. -/
def fnBatchesUptoRow : OpenClaim := { program := "ytlmnjomekklnkaa", sum := "e6da72d0259158021c685198fc4d3c78e2a1482976735b317799753d7ad925ca", func := "loop.example/g01917/laws.FnBatches", spec := "fnBatches", recurses := true, apart := false, narrowed := true }
def FnBatchesUptoSaid : Prop := fnBatchesUptoRow.holds Try.pinned (OpenSpec.upto fnBatchesSpec)

/-- 'laws.FnDeltas', WHERE WHAT IT READS IS OF BULK AT MOST 1048576: true; the input reads as it did. -/
def fnDeltasUptoRow : OpenClaim := { program := "ytlmnjomekklnkaa", sum := "e6da72d0259158021c685198fc4d3c78e2a1482976735b317799753d7ad925ca", func := "loop.example/g01917/laws.FnDeltas", spec := "fnDeltas", recurses := true, apart := false, narrowed := true }
def FnDeltasUptoSaid : Prop := fnDeltasUptoRow.holds Try.pinned (OpenSpec.upto fnDeltasSpec)

/-- 'laws.FnCountedRelations', WHERE WHAT IT READS IS OF BULK AT MOST 1048576: true; the input reads as it did. -/
def fnCountedRelationsUptoRow : OpenClaim := { program := "ytlmnjomekklnkaa", sum := "e6da72d0259158021c685198fc4d3c78e2a1482976735b317799753d7ad925ca", func := "loop.example/g01917/laws.FnCountedRelations", spec := "fnCountedRelations", recurses := true, apart := false, narrowed := true }
def FnCountedRelationsUptoSaid : Prop := fnCountedRelationsUptoRow.holds Try.pinned (OpenSpec.upto fnCountedRelationsSpec)

/-- 'laws.FnCountedProjection', WHERE WHAT IT READS IS OF BULK AT MOST 1048576: true; the input reads as it did. -/
def fnCountedProjectionUptoRow : OpenClaim := { program := "ytlmnjomekklnkaa", sum := "e6da72d0259158021c685198fc4d3c78e2a1482976735b317799753d7ad925ca", func := "loop.example/g01917/laws.FnCountedProjection", spec := "fnCountedProjection", recurses := true, apart := false, narrowed := true }
def FnCountedProjectionUptoSaid : Prop := fnCountedProjectionUptoRow.holds Try.pinned (OpenSpec.upto fnCountedProjectionSpec)

end Rows
end Go.Proofs.Ytlmnjomekklnkaa
