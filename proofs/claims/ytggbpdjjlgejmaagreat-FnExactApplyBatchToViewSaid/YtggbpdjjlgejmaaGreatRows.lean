/-
  No cell of these rows narrows 'for every input' (looked for: loops, veiled, ifaces, maps, wideKeys, modest, calm, conditions, laid).
  DERIVED. THE GIVEN ROWS OF THIS SEAT. 4 by the template 'for every input the law returns true; each argument reads behind the call as it read before'; 0 by the template 'total and deterministic' (their statements: YtggbpdjjlgejmaaGreatTotals.lean).
  GIVEN WITH THE SEED: the statements are not yours to turn. If you find one false, say at which input.
  Laid BY PROGRAM, IN A SANDBOX (cutbox-rows.mjs): the forced cells as the released guide's own fill.sh prints them over the translation 60e70553c922db77… (all of the seat's roots in one cut). By AI agents, Wed Nov 11 2026. No macro, syntax, notation, axiom, sorry.
-/
import Derived.Test.YtggbpdjjlgejmaaGreatChecked
import GoSem.Claim
import GoSem.ClaimJoined
import GoSem.ClaimMapViews
import Derived.JoinedTies
import Derived.KernelRfl
namespace Go.Proofs.YtggbpdjjlgejmaaGreat
/- THE CELL 'sum', in the pinned program and in every row, IS THE sha256 OF THE DUMP (.gsa) THAT YtggbpdjjlgejmaaGreatProg.lean LOADS. Nothing in Lean hashes anything: it is a label: what it is worth is what the hold of that sum in a sandbox is worth. -/
noncomputable def Tryz.pinned : Pinned := { name := "ytggbpdjjlgejmaagreat", sum := "60e70553c922db77879e82c814bb13b7f23b999e4bc24994899184d548cf674b", checked := Tryz.checked }
namespace Rows
def none {H : Type} : Left H := { results := [], args := [] }

/-- 'laws.FnExactNewView': WHATEVER THE INPUT: true; the input reads as it did. -/
def fnExactNewViewSpec : ChangeSpec := { name := "fnExactNewView", fn := fun _ => fun
  | [d1, d2] => { results := [.lit (.bool true)], args := [d1, d2] }
  | _ => none }
def fnExactNewViewRow : OpenClaim := { program := "ytggbpdjjlgejmaagreat", sum := "60e70553c922db77879e82c814bb13b7f23b999e4bc24994899184d548cf674b", func := "loop.example/g01917/laws.FnExactNewView", spec := "fnExactNewView", recurses := true, apart := false }
def FnExactNewViewSaid : Prop := fnExactNewViewRow.holds Tryz.pinned (OpenSpec.ofChange fnExactNewViewSpec)

/-- ITS FALSE NEIGHBOUR: 'it returns false'. Refute it at one input. -/
def fnExactNewViewWrong : ChangeSpec := { name := "fnExactNewView", fn := fun _ => fun
  | [d1, d2] => { results := [.lit (.bool false)], args := [d1, d2] }
  | _ => none }
def FnExactNewViewWrongFalsely : Prop := fnExactNewViewRow.holds Tryz.pinned (OpenSpec.ofChange fnExactNewViewWrong)

/-- 'laws.FnExactViewDelta': WHATEVER THE INPUT: true; the input reads as it did. -/
def fnExactViewDeltaSpec : ChangeSpec := { name := "fnExactViewDelta", fn := fun _ => fun
  | [d1, d2, d3] => { results := [.lit (.bool true)], args := [d1, d2, d3] }
  | _ => none }
def fnExactViewDeltaRow : OpenClaim := { program := "ytggbpdjjlgejmaagreat", sum := "60e70553c922db77879e82c814bb13b7f23b999e4bc24994899184d548cf674b", func := "loop.example/g01917/laws.FnExactViewDelta", spec := "fnExactViewDelta", recurses := true, apart := false }
def FnExactViewDeltaSaid : Prop := fnExactViewDeltaRow.holds Tryz.pinned (OpenSpec.ofChange fnExactViewDeltaSpec)

/-- ITS FALSE NEIGHBOUR: 'it returns false'. Refute it at one input. -/
def fnExactViewDeltaWrong : ChangeSpec := { name := "fnExactViewDelta", fn := fun _ => fun
  | [d1, d2, d3] => { results := [.lit (.bool false)], args := [d1, d2, d3] }
  | _ => none }
def FnExactViewDeltaWrongFalsely : Prop := fnExactViewDeltaRow.holds Tryz.pinned (OpenSpec.ofChange fnExactViewDeltaWrong)

/-- 'laws.FnExactApplyToView': WHATEVER THE INPUT: true; the input reads as it did. -/
def fnExactApplyToViewSpec : ChangeSpec := { name := "fnExactApplyToView", fn := fun _ => fun
  | [d1, d2, d3] => { results := [.lit (.bool true)], args := [d1, d2, d3] }
  | _ => none }
def fnExactApplyToViewRow : OpenClaim := { program := "ytggbpdjjlgejmaagreat", sum := "60e70553c922db77879e82c814bb13b7f23b999e4bc24994899184d548cf674b", func := "loop.example/g01917/laws.FnExactApplyToView", spec := "fnExactApplyToView", recurses := true, apart := false }
def FnExactApplyToViewSaid : Prop := fnExactApplyToViewRow.holds Tryz.pinned (OpenSpec.ofChange fnExactApplyToViewSpec)

/-- ITS FALSE NEIGHBOUR: 'it returns false'. Refute it at one input. -/
def fnExactApplyToViewWrong : ChangeSpec := { name := "fnExactApplyToView", fn := fun _ => fun
  | [d1, d2, d3] => { results := [.lit (.bool false)], args := [d1, d2, d3] }
  | _ => none }
def FnExactApplyToViewWrongFalsely : Prop := fnExactApplyToViewRow.holds Tryz.pinned (OpenSpec.ofChange fnExactApplyToViewWrong)

/-- 'laws.FnExactApplyBatchToView': WHATEVER THE INPUT: true; the input reads as it did. -/
def fnExactApplyBatchToViewSpec : ChangeSpec := { name := "fnExactApplyBatchToView", fn := fun _ => fun
  | [d1, d2, d3] => { results := [.lit (.bool true)], args := [d1, d2, d3] }
  | _ => none }
def fnExactApplyBatchToViewRow : OpenClaim := { program := "ytggbpdjjlgejmaagreat", sum := "60e70553c922db77879e82c814bb13b7f23b999e4bc24994899184d548cf674b", func := "loop.example/g01917/laws.FnExactApplyBatchToView", spec := "fnExactApplyBatchToView", recurses := true, apart := false }
def FnExactApplyBatchToViewSaid : Prop := fnExactApplyBatchToViewRow.holds Tryz.pinned (OpenSpec.ofChange fnExactApplyBatchToViewSpec)

/-- ITS FALSE NEIGHBOUR: 'it returns false'. Refute it at one input. -/
def fnExactApplyBatchToViewWrong : ChangeSpec := { name := "fnExactApplyBatchToView", fn := fun _ => fun
  | [d1, d2, d3] => { results := [.lit (.bool false)], args := [d1, d2, d3] }
  | _ => none }
def FnExactApplyBatchToViewWrongFalsely : Prop := fnExactApplyBatchToViewRow.holds Tryz.pinned (OpenSpec.ofChange fnExactApplyBatchToViewWrong)

/- THE SECOND FORM. 'bulk': how many values and letters a reading holds, each counted each time it is reached (what is shared counts as often as it is met; a slice's spare places count too). A statement '..UptoSaid' is the law's where the arguments, and the package variables that the reading takes, are together of bulk at most 1048576: NARROWER than '..Said'. Prove '..Said' where nothing that the law and all that it calls make is longer than what came in: it says more and counts as full. Else prove '..UptoSaid'. A law counts once. -/
mutual
def uptoBulk {H : Type} : DataW H → Nat
  | .lit (.string bytes) => bytes.length + 1
  | .lit _ => 1
  | .nil => 1
  | .ptr d => uptoBulk d + 1
  | .slice elems spare => uptoBulkAll elems + uptoBulkAll spare + 1
  | .agg parts => uptoBulkAll parts + 1
  | .iface _ d => uptoBulk d + 1
  | .map entries => uptoBulkEntries entries + 1
  | .held _ => 1
def uptoBulkAll {H : Type} : List (DataW H) → Nat
  | [] => 0
  | d :: r => uptoBulk d + uptoBulkAll r
def uptoBulkEntries {H : Type} : List (Lit × DataW H) → Nat
  | [] => 0
  | x :: r => uptoBulkEntry x + uptoBulkEntries r
def uptoBulkEntry {H : Type} : Lit × DataW H → Nat
  | (.string bytes, d) => bytes.length + uptoBulk d + 1
  | (_, d) => uptoBulk d + 1
 end
def uptoSmall : (H : Type) → List (DataW H) → Bool := fun _ ds => decide (uptoBulkAll ds ≤ 1048576)
def OpenSpec.upto (s : _root_.Go.ChangeSpec) : _root_.Go.OpenSpec := { _root_.Go.OpenSpec.ofChange s with cond := some uptoSmall }

/-- 'laws.FnExactNewView', WHERE WHAT IT READS IS OF BULK AT MOST 1048576: true; the input reads as it did. -/
def fnExactNewViewUptoRow : OpenClaim := { program := "ytggbpdjjlgejmaagreat", sum := "60e70553c922db77879e82c814bb13b7f23b999e4bc24994899184d548cf674b", func := "loop.example/g01917/laws.FnExactNewView", spec := "fnExactNewView", recurses := true, apart := false, narrowed := true }
def FnExactNewViewUptoSaid : Prop := fnExactNewViewUptoRow.holds Tryz.pinned (OpenSpec.upto fnExactNewViewSpec)

/-- 'laws.FnExactViewDelta', WHERE WHAT IT READS IS OF BULK AT MOST 1048576: true; the input reads as it did. -/
def fnExactViewDeltaUptoRow : OpenClaim := { program := "ytggbpdjjlgejmaagreat", sum := "60e70553c922db77879e82c814bb13b7f23b999e4bc24994899184d548cf674b", func := "loop.example/g01917/laws.FnExactViewDelta", spec := "fnExactViewDelta", recurses := true, apart := false, narrowed := true }
def FnExactViewDeltaUptoSaid : Prop := fnExactViewDeltaUptoRow.holds Tryz.pinned (OpenSpec.upto fnExactViewDeltaSpec)

/-- 'laws.FnExactApplyToView', WHERE WHAT IT READS IS OF BULK AT MOST 1048576: true; the input reads as it did. -/
def fnExactApplyToViewUptoRow : OpenClaim := { program := "ytggbpdjjlgejmaagreat", sum := "60e70553c922db77879e82c814bb13b7f23b999e4bc24994899184d548cf674b", func := "loop.example/g01917/laws.FnExactApplyToView", spec := "fnExactApplyToView", recurses := true, apart := false, narrowed := true }
def FnExactApplyToViewUptoSaid : Prop := fnExactApplyToViewUptoRow.holds Tryz.pinned (OpenSpec.upto fnExactApplyToViewSpec)

/-- 'laws.FnExactApplyBatchToView', WHERE WHAT IT READS IS OF BULK AT MOST 1048576: true; the input reads as it did. -/
def fnExactApplyBatchToViewUptoRow : OpenClaim := { program := "ytggbpdjjlgejmaagreat", sum := "60e70553c922db77879e82c814bb13b7f23b999e4bc24994899184d548cf674b", func := "loop.example/g01917/laws.FnExactApplyBatchToView", spec := "fnExactApplyBatchToView", recurses := true, apart := false, narrowed := true }
def FnExactApplyBatchToViewUptoSaid : Prop := fnExactApplyBatchToViewUptoRow.holds Tryz.pinned (OpenSpec.upto fnExactApplyBatchToViewSpec)

end Rows
end Go.Proofs.YtggbpdjjlgejmaaGreat
