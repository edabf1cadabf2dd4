/-
  No cell of these rows narrows 'for every input' (looked for: loops, veiled, ifaces, maps, wideKeys, modest, calm, conditions, laid).
  DERIVED. THE GIVEN ROWS OF THIS SEAT. 6 by the template 'for every input the law returns true; each argument reads behind the call as it read before'; 0 by the template 'total and deterministic' (their statements: YtfebikihnljjoaaTotals.lean).
  GIVEN WITH THE SEED: the statements are not yours to turn. If you find one false, say at which input.
  Laid BY PROGRAM, IN A SANDBOX (cutbox-rows.mjs): the forced cells as the released guide's own fill.sh prints them over the translation 63912ece9b46c1b1… (all of the seat's roots in one cut). By AI agents, Wed Nov 11 2026. No macro, syntax, notation, axiom, sorry.
-/
import Derived.Test.YtfebikihnljjoaaChecked
import GoSem.Claim
import GoSem.ClaimJoined
import GoSem.ClaimMapViews
import Derived.JoinedTies
import Derived.KernelRfl
namespace Go.Proofs.Ytfebikihnljjoaa
/- THE CELL 'sum', in the pinned program and in every row, IS THE sha256 OF THE DUMP (.gsa) THAT YtfebikihnljjoaaProg.lean LOADS. Nothing in Lean hashes anything: it is a label: what it is worth is what the hold of that sum in a sandbox is worth. -/
noncomputable def Try.pinned : Pinned := { name := "ytfebikihnljjoaa", sum := "63912ece9b46c1b13a6f8a6e24ce5b2722f389a61d4e4d6373435193d02209a5", checked := Try.checked }
namespace Rows
def none {H : Type} : Left H := { results := [], args := [] }

/-- 'laws.FnExactChecksumOf': WHATEVER THE INPUT: true; the input reads as it did. -/
def fnExactChecksumOfSpec : ChangeSpec := { name := "fnExactChecksumOf", fn := fun _ => fun
  | [d] => { results := [.lit (.bool true)], args := [d] }
  | _ => none }
def fnExactChecksumOfRow : OpenClaim := { program := "ytfebikihnljjoaa", sum := "63912ece9b46c1b13a6f8a6e24ce5b2722f389a61d4e4d6373435193d02209a5", func := "loop.example/g01917/laws.FnExactChecksumOf", spec := "fnExactChecksumOf", apart := false }
def FnExactChecksumOfSaid : Prop := fnExactChecksumOfRow.holds Try.pinned (OpenSpec.ofChange fnExactChecksumOfSpec)

/-- ITS FALSE NEIGHBOUR: 'it returns false'. Refute it at one input. -/
def fnExactChecksumOfWrong : ChangeSpec := { name := "fnExactChecksumOf", fn := fun _ => fun
  | [d] => { results := [.lit (.bool false)], args := [d] }
  | _ => none }
def FnExactChecksumOfWrongFalsely : Prop := fnExactChecksumOfRow.holds Try.pinned (OpenSpec.ofChange fnExactChecksumOfWrong)

/-- 'laws.FnExactIsValidDisk': WHATEVER THE INPUT: true; the input reads as it did. -/
def fnExactIsValidDiskSpec : ChangeSpec := { name := "fnExactIsValidDisk", fn := fun _ => fun
  | [d] => { results := [.lit (.bool true)], args := [d] }
  | _ => none }
def fnExactIsValidDiskRow : OpenClaim := { program := "ytfebikihnljjoaa", sum := "63912ece9b46c1b13a6f8a6e24ce5b2722f389a61d4e4d6373435193d02209a5", func := "loop.example/g01917/laws.FnExactIsValidDisk", spec := "fnExactIsValidDisk", apart := false }
def FnExactIsValidDiskSaid : Prop := fnExactIsValidDiskRow.holds Try.pinned (OpenSpec.ofChange fnExactIsValidDiskSpec)

/-- ITS FALSE NEIGHBOUR: 'it returns false'. Refute it at one input. -/
def fnExactIsValidDiskWrong : ChangeSpec := { name := "fnExactIsValidDisk", fn := fun _ => fun
  | [d] => { results := [.lit (.bool false)], args := [d] }
  | _ => none }
def FnExactIsValidDiskWrongFalsely : Prop := fnExactIsValidDiskRow.holds Try.pinned (OpenSpec.ofChange fnExactIsValidDiskWrong)

/-- 'laws.FnExactReadFile': WHATEVER THE INPUT: true; the input reads as it did. -/
def fnExactReadFileSpec : ChangeSpec := { name := "fnExactReadFile", fn := fun _ => fun
  | [d1, d2] => { results := [.lit (.bool true)], args := [d1, d2] }
  | _ => none }
def fnExactReadFileRow : OpenClaim := { program := "ytfebikihnljjoaa", sum := "63912ece9b46c1b13a6f8a6e24ce5b2722f389a61d4e4d6373435193d02209a5", func := "loop.example/g01917/laws.FnExactReadFile", spec := "fnExactReadFile", apart := false }
def FnExactReadFileSaid : Prop := fnExactReadFileRow.holds Try.pinned (OpenSpec.ofChange fnExactReadFileSpec)

/-- ITS FALSE NEIGHBOUR: 'it returns false'. Refute it at one input. -/
def fnExactReadFileWrong : ChangeSpec := { name := "fnExactReadFile", fn := fun _ => fun
  | [d1, d2] => { results := [.lit (.bool false)], args := [d1, d2] }
  | _ => none }
def FnExactReadFileWrongFalsely : Prop := fnExactReadFileRow.holds Try.pinned (OpenSpec.ofChange fnExactReadFileWrong)

/-- 'laws.FnExactEqualCounted': WHATEVER THE INPUT: true; the input reads as it did. -/
def fnExactEqualCountedSpec : ChangeSpec := { name := "fnExactEqualCounted", fn := fun _ => fun
  | [d1, d2] => { results := [.lit (.bool true)], args := [d1, d2] }
  | _ => none }
def fnExactEqualCountedRow : OpenClaim := { program := "ytfebikihnljjoaa", sum := "63912ece9b46c1b13a6f8a6e24ce5b2722f389a61d4e4d6373435193d02209a5", func := "loop.example/g01917/laws.FnExactEqualCounted", spec := "fnExactEqualCounted", apart := false }
def FnExactEqualCountedSaid : Prop := fnExactEqualCountedRow.holds Try.pinned (OpenSpec.ofChange fnExactEqualCountedSpec)

/-- ITS FALSE NEIGHBOUR: 'it returns false'. Refute it at one input. -/
def fnExactEqualCountedWrong : ChangeSpec := { name := "fnExactEqualCounted", fn := fun _ => fun
  | [d1, d2] => { results := [.lit (.bool false)], args := [d1, d2] }
  | _ => none }
def FnExactEqualCountedWrongFalsely : Prop := fnExactEqualCountedRow.holds Try.pinned (OpenSpec.ofChange fnExactEqualCountedWrong)

/-- 'laws.FnExactWriteFile': WHATEVER THE INPUT: true; the input reads as it did. -/
def fnExactWriteFileSpec : ChangeSpec := { name := "fnExactWriteFile", fn := fun _ => fun
  | [d1, d2, d3] => { results := [.lit (.bool true)], args := [d1, d2, d3] }
  | _ => none }
def fnExactWriteFileRow : OpenClaim := { program := "ytfebikihnljjoaa", sum := "63912ece9b46c1b13a6f8a6e24ce5b2722f389a61d4e4d6373435193d02209a5", func := "loop.example/g01917/laws.FnExactWriteFile", spec := "fnExactWriteFile", apart := false }
def FnExactWriteFileSaid : Prop := fnExactWriteFileRow.holds Try.pinned (OpenSpec.ofChange fnExactWriteFileSpec)

/-- ITS FALSE NEIGHBOUR: 'it returns false'. Refute it at one input. -/
def fnExactWriteFileWrong : ChangeSpec := { name := "fnExactWriteFile", fn := fun _ => fun
  | [d1, d2, d3] => { results := [.lit (.bool false)], args := [d1, d2, d3] }
  | _ => none }
def FnExactWriteFileWrongFalsely : Prop := fnExactWriteFileRow.holds Try.pinned (OpenSpec.ofChange fnExactWriteFileWrong)

/-- 'laws.FnExactNegateCounted': WHATEVER THE INPUT: true; the input reads as it did. -/
def fnExactNegateCountedSpec : ChangeSpec := { name := "fnExactNegateCounted", fn := fun _ => fun
  | [d] => { results := [.lit (.bool true)], args := [d] }
  | _ => none }
def fnExactNegateCountedRow : OpenClaim := { program := "ytfebikihnljjoaa", sum := "63912ece9b46c1b13a6f8a6e24ce5b2722f389a61d4e4d6373435193d02209a5", func := "loop.example/g01917/laws.FnExactNegateCounted", spec := "fnExactNegateCounted", apart := false }
def FnExactNegateCountedSaid : Prop := fnExactNegateCountedRow.holds Try.pinned (OpenSpec.ofChange fnExactNegateCountedSpec)

/-- ITS FALSE NEIGHBOUR: 'it returns false'. Refute it at one input. -/
def fnExactNegateCountedWrong : ChangeSpec := { name := "fnExactNegateCounted", fn := fun _ => fun
  | [d] => { results := [.lit (.bool false)], args := [d] }
  | _ => none }
def FnExactNegateCountedWrongFalsely : Prop := fnExactNegateCountedRow.holds Try.pinned (OpenSpec.ofChange fnExactNegateCountedWrong)

/- THE SECOND FORM. 'bulk': how many values and letters a reading holds, each counted each time it is reached (what is shared counts as often as it is met; a slice's spare places count too). A statement '..UptoSaid' is the law's where the arguments, and the package variables that the reading takes, are together of bulk at most 1048576: NARROWER than '..Said'. Prove '..Said' where nothing that the law and all that it calls make is longer than what came in: it says more and counts as full. Else prove '..UptoSaid'. A law counts once. -/
mutual
def uptoBulk {H : Type} : DataW H → Nat
  | .lit (.string bytes) => bytes.length + 1
  | .lit _ => 1
  | .nil => 1
  | .ptr d => uptoBulk d + 1
  | .slice elems spare => uptoBulkAll elems + uptoBulkAll spare + 1
  | .agg parts => uptoBulkAll parts + 1
  | .iface _ d => uptoBulk d + 1
  | .map entries => uptoBulkEntries entries + 1
  | .held _ => 1
def uptoBulkAll {H : Type} : List (DataW H) → Nat
  | [] => 0
  | d :: r => uptoBulk d + uptoBulkAll r
def uptoBulkEntries {H : Type} : List (Lit × DataW H) → Nat
  | [] => 0
  | x :: r => uptoBulkEntry x + uptoBulkEntries r
def uptoBulkEntry {H : Type} : Lit × DataW H → Nat
  | (.string bytes, d) => bytes.length + uptoBulk d + 1
  | (_, d) => uptoBulk d + 1
 end
def uptoSmall : (H : Type) → List (DataW H) → Bool := fun _ ds => decide (uptoBulkAll ds ≤ 1048576)
def OpenSpec.upto (s : _root_.Go.ChangeSpec) : _root_.Go.OpenSpec := { _root_.Go.OpenSpec.ofChange s with cond := some uptoSmall }

/-- 'laws.FnExactChecksumOf', WHERE WHAT IT READS IS OF BULK AT MOST 1048576: true; the input reads as it did. -/
def fnExactChecksumOfUptoRow : OpenClaim := { program := "ytfebikihnljjoaa", sum := "63912ece9b46c1b13a6f8a6e24ce5b2722f389a61d4e4d6373435193d02209a5", func := "loop.example/g01917/laws.FnExactChecksumOf", spec := "fnExactChecksumOf", apart := false, narrowed := true }
def FnExactChecksumOfUptoSaid : Prop := fnExactChecksumOfUptoRow.holds Try.pinned (OpenSpec.upto fnExactChecksumOfSpec)

/-- 'laws.FnExactIsValidDisk', WHERE WHAT IT READS IS OF BULK AT MOST 1048576: true; the input reads as it did. -/
def fnExactIsValidDiskUptoRow : OpenClaim := { program := "ytfebikihnljjoaa", sum := "63912ece9b46c1b13a6f8a6e24ce5b2722f389a61d4e4d6373435193d02209a5", func := "loop.example/g01917/laws.FnExactIsValidDisk", spec := "fnExactIsValidDisk", apart := false, narrowed := true }
def FnExactIsValidDiskUptoSaid : Prop := fnExactIsValidDiskUptoRow.holds Try.pinned (OpenSpec.upto fnExactIsValidDiskSpec)

/-- 'laws.FnExactReadFile', WHERE WHAT IT READS IS OF BULK AT MOST 1048576: true; the input reads as it did. -/
def fnExactReadFileUptoRow : OpenClaim := { program := "ytfebikihnljjoaa", sum := "63912ece9b46c1b13a6f8a6e24ce5b2722f389a61d4e4d6373435193d02209a5", func := "loop.example/g01917/laws.FnExactReadFile", spec := "fnExactReadFile", apart := false, narrowed := true }
def FnExactReadFileUptoSaid : Prop := fnExactReadFileUptoRow.holds Try.pinned (OpenSpec.upto fnExactReadFileSpec)

/-- 'laws.FnExactEqualCounted', WHERE WHAT IT READS IS OF BULK AT MOST 1048576: true; the input reads as it did. -/
def fnExactEqualCountedUptoRow : OpenClaim := { program := "ytfebikihnljjoaa", sum := "63912ece9b46c1b13a6f8a6e24ce5b2722f389a61d4e4d6373435193d02209a5", func := "loop.example/g01917/laws.FnExactEqualCounted", spec := "fnExactEqualCounted", apart := false, narrowed := true }
def FnExactEqualCountedUptoSaid : Prop := fnExactEqualCountedUptoRow.holds Try.pinned (OpenSpec.upto fnExactEqualCountedSpec)

/-- 'laws.FnExactWriteFile', WHERE WHAT IT READS IS OF BULK AT MOST 1048576: true; the input reads as it did. -/
def fnExactWriteFileUptoRow : OpenClaim := { program := "ytfebikihnljjoaa", sum := "63912ece9b46c1b13a6f8a6e24ce5b2722f389a61d4e4d6373435193d02209a5", func := "loop.example/g01917/laws.FnExactWriteFile", spec := "fnExactWriteFile", apart := false, narrowed := true }
def FnExactWriteFileUptoSaid : Prop := fnExactWriteFileUptoRow.holds Try.pinned (OpenSpec.upto fnExactWriteFileSpec)

/-- 'laws.FnExactNegateCounted', WHERE WHAT IT READS IS OF BULK AT MOST 1048576: true; the input reads as it did. -/
def fnExactNegateCountedUptoRow : OpenClaim := { program := "ytfebikihnljjoaa", sum := "63912ece9b46c1b13a6f8a6e24ce5b2722f389a61d4e4d6373435193d02209a5", func := "loop.example/g01917/laws.FnExactNegateCounted", spec := "fnExactNegateCounted", apart := false, narrowed := true }
def FnExactNegateCountedUptoSaid : Prop := fnExactNegateCountedUptoRow.holds Try.pinned (OpenSpec.upto fnExactNegateCountedSpec)

end Rows
end Go.Proofs.Ytfebikihnljjoaa
