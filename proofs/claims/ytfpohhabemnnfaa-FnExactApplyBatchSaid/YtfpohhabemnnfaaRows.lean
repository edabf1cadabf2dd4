/-
  No cell of these rows narrows 'for every input' (looked for: loops, veiled, ifaces, maps, wideKeys, modest, calm, conditions, laid).
  DERIVED. THE GIVEN ROWS OF THIS SEAT. 6 by the template 'for every input the law returns true; each argument reads behind the call as it read before'; 0 by the template 'total and deterministic' (their statements: YtfpohhabemnnfaaTotals.lean).
  GIVEN WITH THE SEED: the statements are not yours to turn. If you find one false, say at which input.
  Laid BY PROGRAM, IN A SANDBOX (cutbox-rows.mjs): the forced cells as the released guide's own fill.sh prints them over the translation 2c1f87ab9d598ad5… (all of the seat's roots in one cut). By AI agents, Wed Nov 11 2026. No macro, syntax, notation, axiom, sorry.
-/
import Derived.Test.YtfpohhabemnnfaaChecked
import GoSem.Claim
import GoSem.ClaimJoined
import GoSem.ClaimMapViews
import Derived.JoinedTies
import Derived.KernelRfl
namespace Go.Proofs.Ytfpohhabemnnfaa
/- THE CELL 'sum', in the pinned program and in every row, IS THE sha256 OF THE DUMP (.gsa) THAT YtfpohhabemnnfaaProg.lean LOADS. Nothing in Lean hashes anything: it is a label: what it is worth is what the hold of that sum in a sandbox is worth. -/
noncomputable def Try.pinned : Pinned := { name := "ytfpohhabemnnfaa", sum := "2c1f87ab9d598ad5f04b4168913f38a8e751deeb88648506508f64708ac6e8c2", checked := Try.checked }
namespace Rows
def none {H : Type} : Left H := { results := [], args := [] }

/-- 'laws.FnExactVersionFiles': WHATEVER THE INPUT: true; the input reads as it did. -/
def fnExactVersionFilesSpec : ChangeSpec := { name := "fnExactVersionFiles", fn := fun _ => fun
  | [d1, d2] => { results := [.lit (.bool true)], args := [d1, d2] }
  | _ => none }
def fnExactVersionFilesRow : OpenClaim := { program := "ytfpohhabemnnfaa", sum := "2c1f87ab9d598ad5f04b4168913f38a8e751deeb88648506508f64708ac6e8c2", func := "loop.example/g01917/laws.FnExactVersionFiles", spec := "fnExactVersionFiles", apart := false }
def FnExactVersionFilesSaid : Prop := fnExactVersionFilesRow.holds Try.pinned (OpenSpec.ofChange fnExactVersionFilesSpec)

/-- ITS FALSE NEIGHBOUR: 'it returns false'. Refute it at one input. -/
def fnExactVersionFilesWrong : ChangeSpec := { name := "fnExactVersionFiles", fn := fun _ => fun
  | [d1, d2] => { results := [.lit (.bool false)], args := [d1, d2] }
  | _ => none }
def FnExactVersionFilesWrongFalsely : Prop := fnExactVersionFilesRow.holds Try.pinned (OpenSpec.ofChange fnExactVersionFilesWrong)

/-- 'laws.FnExactNormalizeDelta': WHATEVER THE INPUT: true; the input reads as it did. -/
def fnExactNormalizeDeltaSpec : ChangeSpec := { name := "fnExactNormalizeDelta", fn := fun _ => fun
  | [d1, d2] => { results := [.lit (.bool true)], args := [d1, d2] }
  | _ => none }
def fnExactNormalizeDeltaRow : OpenClaim := { program := "ytfpohhabemnnfaa", sum := "2c1f87ab9d598ad5f04b4168913f38a8e751deeb88648506508f64708ac6e8c2", func := "loop.example/g01917/laws.FnExactNormalizeDelta", spec := "fnExactNormalizeDelta", apart := false }
def FnExactNormalizeDeltaSaid : Prop := fnExactNormalizeDeltaRow.holds Try.pinned (OpenSpec.ofChange fnExactNormalizeDeltaSpec)

/-- ITS FALSE NEIGHBOUR: 'it returns false'. Refute it at one input. -/
def fnExactNormalizeDeltaWrong : ChangeSpec := { name := "fnExactNormalizeDelta", fn := fun _ => fun
  | [d1, d2] => { results := [.lit (.bool false)], args := [d1, d2] }
  | _ => none }
def FnExactNormalizeDeltaWrongFalsely : Prop := fnExactNormalizeDeltaRow.holds Try.pinned (OpenSpec.ofChange fnExactNormalizeDeltaWrong)

/-- 'laws.FnExactApplyDelta': WHATEVER THE INPUT: true; the input reads as it did. -/
def fnExactApplyDeltaSpec : ChangeSpec := { name := "fnExactApplyDelta", fn := fun _ => fun
  | [d1, d2] => { results := [.lit (.bool true)], args := [d1, d2] }
  | _ => none }
def fnExactApplyDeltaRow : OpenClaim := { program := "ytfpohhabemnnfaa", sum := "2c1f87ab9d598ad5f04b4168913f38a8e751deeb88648506508f64708ac6e8c2", func := "loop.example/g01917/laws.FnExactApplyDelta", spec := "fnExactApplyDelta", recurses := true, apart := false }
def FnExactApplyDeltaSaid : Prop := fnExactApplyDeltaRow.holds Try.pinned (OpenSpec.ofChange fnExactApplyDeltaSpec)

/-- ITS FALSE NEIGHBOUR: 'it returns false'. Refute it at one input. -/
def fnExactApplyDeltaWrong : ChangeSpec := { name := "fnExactApplyDelta", fn := fun _ => fun
  | [d1, d2] => { results := [.lit (.bool false)], args := [d1, d2] }
  | _ => none }
def FnExactApplyDeltaWrongFalsely : Prop := fnExactApplyDeltaRow.holds Try.pinned (OpenSpec.ofChange fnExactApplyDeltaWrong)

/-- 'laws.FnExactIsValidBatch': WHATEVER THE INPUT: true; the input reads as it did. -/
def fnExactIsValidBatchSpec : ChangeSpec := { name := "fnExactIsValidBatch", fn := fun _ => fun
  | [d1, d2] => { results := [.lit (.bool true)], args := [d1, d2] }
  | _ => none }
def fnExactIsValidBatchRow : OpenClaim := { program := "ytfpohhabemnnfaa", sum := "2c1f87ab9d598ad5f04b4168913f38a8e751deeb88648506508f64708ac6e8c2", func := "loop.example/g01917/laws.FnExactIsValidBatch", spec := "fnExactIsValidBatch", recurses := true, apart := false }
def FnExactIsValidBatchSaid : Prop := fnExactIsValidBatchRow.holds Try.pinned (OpenSpec.ofChange fnExactIsValidBatchSpec)

/-- ITS FALSE NEIGHBOUR: 'it returns false'. Refute it at one input. -/
def fnExactIsValidBatchWrong : ChangeSpec := { name := "fnExactIsValidBatch", fn := fun _ => fun
  | [d1, d2] => { results := [.lit (.bool false)], args := [d1, d2] }
  | _ => none }
def FnExactIsValidBatchWrongFalsely : Prop := fnExactIsValidBatchRow.holds Try.pinned (OpenSpec.ofChange fnExactIsValidBatchWrong)

/-- 'laws.FnExactApplyBatch': WHATEVER THE INPUT: true; the input reads as it did. -/
def fnExactApplyBatchSpec : ChangeSpec := { name := "fnExactApplyBatch", fn := fun _ => fun
  | [d1, d2] => { results := [.lit (.bool true)], args := [d1, d2] }
  | _ => none }
def fnExactApplyBatchRow : OpenClaim := { program := "ytfpohhabemnnfaa", sum := "2c1f87ab9d598ad5f04b4168913f38a8e751deeb88648506508f64708ac6e8c2", func := "loop.example/g01917/laws.FnExactApplyBatch", spec := "fnExactApplyBatch", recurses := true, apart := false }
def FnExactApplyBatchSaid : Prop := fnExactApplyBatchRow.holds Try.pinned (OpenSpec.ofChange fnExactApplyBatchSpec)

/-- ITS FALSE NEIGHBOUR: 'it returns false'. Refute it at one input. -/
def fnExactApplyBatchWrong : ChangeSpec := { name := "fnExactApplyBatch", fn := fun _ => fun
  | [d1, d2] => { results := [.lit (.bool false)], args := [d1, d2] }
  | _ => none }
def FnExactApplyBatchWrongFalsely : Prop := fnExactApplyBatchRow.holds Try.pinned (OpenSpec.ofChange fnExactApplyBatchWrong)

/-- 'laws.FnExactInvertBatch': WHATEVER THE INPUT: true; the input reads as it did. -/
def fnExactInvertBatchSpec : ChangeSpec := { name := "fnExactInvertBatch", fn := fun _ => fun
  | [d1, d2] => { results := [.lit (.bool true)], args := [d1, d2] }
  | _ => none }
def fnExactInvertBatchRow : OpenClaim := { program := "ytfpohhabemnnfaa", sum := "2c1f87ab9d598ad5f04b4168913f38a8e751deeb88648506508f64708ac6e8c2", func := "loop.example/g01917/laws.FnExactInvertBatch", spec := "fnExactInvertBatch", recurses := true, apart := false }
def FnExactInvertBatchSaid : Prop := fnExactInvertBatchRow.holds Try.pinned (OpenSpec.ofChange fnExactInvertBatchSpec)

/-- ITS FALSE NEIGHBOUR: 'it returns false'. Refute it at one input. -/
def fnExactInvertBatchWrong : ChangeSpec := { name := "fnExactInvertBatch", fn := fun _ => fun
  | [d1, d2] => { results := [.lit (.bool false)], args := [d1, d2] }
  | _ => none }
def FnExactInvertBatchWrongFalsely : Prop := fnExactInvertBatchRow.holds Try.pinned (OpenSpec.ofChange fnExactInvertBatchWrong)

/- THE SECOND FORM. 'bulk': how many values and letters a reading holds, each counted each time it is reached (what is shared counts as often as it is met; a slice's spare places count too). A statement '..UptoSaid' is the law's where the arguments, and the package variables that the reading takes, are together of bulk at most 1048576: NARROWER than '..Said'. Prove '..Said' where nothing that the law and all that it calls make is longer than what came in: it says more and counts as full. Else prove '..UptoSaid'. A law counts once. -/
mutual
def uptoBulk {H : Type} : DataW H → Nat
  | .lit (.string bytes) => bytes.length + 1
  | .lit _ => 1
  | .nil => 1
  | .ptr d => uptoBulk d + 1
  | .slice elems spare => uptoBulkAll elems + uptoBulkAll spare + 1
  | .agg parts => uptoBulkAll parts + 1
  | .iface _ d => uptoBulk d + 1
  | .map entries => uptoBulkEntries entries + 1
  | .held _ => 1
def uptoBulkAll {H : Type} : List (DataW H) → Nat
  | [] => 0
  | d :: r => uptoBulk d + uptoBulkAll r
def uptoBulkEntries {H : Type} : List (Lit × DataW H) → Nat
  | [] => 0
  | x :: r => uptoBulkEntry x + uptoBulkEntries r
def uptoBulkEntry {H : Type} : Lit × DataW H → Nat
  | (.string bytes, d) => bytes.length + uptoBulk d + 1
  | (_, d) => uptoBulk d + 1
 end
def uptoSmall : (H : Type) → List (DataW H) → Bool := fun _ ds => decide (uptoBulkAll ds ≤ 1048576)
def OpenSpec.upto (s : _root_.Go.ChangeSpec) : _root_.Go.OpenSpec := { _root_.Go.OpenSpec.ofChange s with cond := some uptoSmall }

/-- 'laws.FnExactVersionFiles', WHERE WHAT IT READS IS OF BULK AT MOST 1048576: true; the input reads as it did. -/
def fnExactVersionFilesUptoRow : OpenClaim := { program := "ytfpohhabemnnfaa", sum := "2c1f87ab9d598ad5f04b4168913f38a8e751deeb88648506508f64708ac6e8c2", func := "loop.example/g01917/laws.FnExactVersionFiles", spec := "fnExactVersionFiles", apart := false, narrowed := true }
def FnExactVersionFilesUptoSaid : Prop := fnExactVersionFilesUptoRow.holds Try.pinned (OpenSpec.upto fnExactVersionFilesSpec)

/-- 'laws.FnExactNormalizeDelta', WHERE WHAT IT READS IS OF BULK AT MOST 1048576: true; the input reads as it did. -/
def fnExactNormalizeDeltaUptoRow : OpenClaim := { program := "ytfpohhabemnnfaa", sum := "2c1f87ab9d598ad5f04b4168913f38a8e751deeb88648506508f64708ac6e8c2", func := "loop.example/g01917/laws.FnExactNormalizeDelta", spec := "fnExactNormalizeDelta", apart := false, narrowed := true }
def FnExactNormalizeDeltaUptoSaid : Prop := fnExactNormalizeDeltaUptoRow.holds Try.pinned (OpenSpec.upto fnExactNormalizeDeltaSpec)

/-- 'laws.FnExactApplyDelta', WHERE WHAT IT READS IS OF BULK AT MOST 1048576: true; the input reads as it did. -/
def fnExactApplyDeltaUptoRow : OpenClaim := { program := "ytfpohhabemnnfaa", sum := "2c1f87ab9d598ad5f04b4168913f38a8e751deeb88648506508f64708ac6e8c2", func := "loop.example/g01917/laws.FnExactApplyDelta", spec := "fnExactApplyDelta", recurses := true, apart := false, narrowed := true }
def FnExactApplyDeltaUptoSaid : Prop := fnExactApplyDeltaUptoRow.holds Try.pinned (OpenSpec.upto fnExactApplyDeltaSpec)

/-- 'laws.FnExactIsValidBatch', WHERE WHAT IT READS IS OF BULK AT MOST 1048576: true; the input reads as it did. -/
def fnExactIsValidBatchUptoRow : OpenClaim := { program := "ytfpohhabemnnfaa", sum := "2c1f87ab9d598ad5f04b4168913f38a8e751deeb88648506508f64708ac6e8c2", func := "loop.example/g01917/laws.FnExactIsValidBatch", spec := "fnExactIsValidBatch", recurses := true, apart := false, narrowed := true }
def FnExactIsValidBatchUptoSaid : Prop := fnExactIsValidBatchUptoRow.holds Try.pinned (OpenSpec.upto fnExactIsValidBatchSpec)

/-- 'laws.FnExactApplyBatch', WHERE WHAT IT READS IS OF BULK AT MOST 1048576: true; the input reads as it did. -/
def fnExactApplyBatchUptoRow : OpenClaim := { program := "ytfpohhabemnnfaa", sum := "2c1f87ab9d598ad5f04b4168913f38a8e751deeb88648506508f64708ac6e8c2", func := "loop.example/g01917/laws.FnExactApplyBatch", spec := "fnExactApplyBatch", recurses := true, apart := false, narrowed := true }
def FnExactApplyBatchUptoSaid : Prop := fnExactApplyBatchUptoRow.holds Try.pinned (OpenSpec.upto fnExactApplyBatchSpec)

/-- 'laws.FnExactInvertBatch', WHERE WHAT IT READS IS OF BULK AT MOST 1048576: true; the input reads as it did. -/
def fnExactInvertBatchUptoRow : OpenClaim := { program := "ytfpohhabemnnfaa", sum := "2c1f87ab9d598ad5f04b4168913f38a8e751deeb88648506508f64708ac6e8c2", func := "loop.example/g01917/laws.FnExactInvertBatch", spec := "fnExactInvertBatch", recurses := true, apart := false, narrowed := true }
def FnExactInvertBatchUptoSaid : Prop := fnExactInvertBatchUptoRow.holds Try.pinned (OpenSpec.upto fnExactInvertBatchSpec)

end Rows
end Go.Proofs.Ytfpohhabemnnfaa
