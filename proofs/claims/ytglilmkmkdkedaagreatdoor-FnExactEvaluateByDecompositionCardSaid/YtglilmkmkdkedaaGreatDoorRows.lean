/-
  NARROWER THAN 'FOR EVERY INPUT', by the rows' own cells (each row's printed sentence says how): FnExactBagRelation: laid · FnExactBagRowCounts: laid · FnExactBagRelations: laid · FnExactEvaluateByDecomposition: laid.
  DERIVED. THE GIVEN ROWS OF THIS SEAT. 4 by the template 'for every input the law returns true; each argument reads behind the call as it read before'; 0 by the template 'total and deterministic' (their statements: YtglilmkmkdkedaaGreatDoorTotals.lean).
  GIVEN WITH THE SEED: the statements are not yours to turn. If you find one false, say at which input.
  Laid BY PROGRAM, IN A SANDBOX (cutbox-rows.mjs): the forced cells as the released guide's own fill.sh prints them over the translation a0be79e855d74411… (all of the seat's roots in one cut). By AI agents, Wed Nov 11 2026. No macro, syntax, notation, axiom, sorry.
-/
import Derived.Test.YtglilmkmkdkedaaGreatDoorChecked
import GoSem.Claim
import GoSem.ClaimJoined
import GoSem.ClaimMapViews
import Derived.JoinedTies
import Derived.KernelRfl
namespace Go.Proofs.YtglilmkmkdkedaaGreatDoor
/- THE CELL 'sum', in the pinned program and in every row, IS THE sha256 OF THE DUMP (.gsa) THAT YtglilmkmkdkedaaGreatDoorProg.lean LOADS. Nothing in Lean hashes anything: it is a label: what it is worth is what the hold of that sum in a sandbox is worth. -/
noncomputable def Tryz.pinned : Pinned := { name := "ytglilmkmkdkedaagreatdoor", sum := "a0be79e855d74411388a6e5583071afb0bead16b725445db2689d6a4bf3f85f2", checked := Tryz.checked }
namespace Rows
def none {H : Type} : Left H := { results := [], args := [] }

/- WHAT THE LISTED PACKAGE-LEVEL VARIABLES READ AS WHEN THE CALL BEGINS. Each datum BY PROGRAM (the guide's laid-datum.mjs) off the statement by which the dump's own 'gosem.cut.vars' lays the variable. In a bare row this is a premise. The card (YtglilmkmkdkedaaGreatDoorCards.lean) ties it to the program's text. -/
def laid_loop_example_g01917_impl_oneRational {H : Type} : DataW H := .agg [.lit (.int .i64 1), .lit (.int .i64 1)]

/-- 'laws.FnExactBagRelation': WHATEVER THE INPUT: true; the input reads as it did. -/
def fnExactBagRelationSpec : ChangeSpec := { name := "fnExactBagRelation", vars := ["loop.example/g01917/impl.oneRational"], fn := fun _ => fun
  | [d1, d2, d3, g1] => { results := [.lit (.bool true)], args := [d1, d2, d3], vars := [g1] }
  | _ => none }
def fnExactBagRelationRow : OpenClaim := { program := "ytglilmkmkdkedaagreatdoor", sum := "a0be79e855d74411388a6e5583071afb0bead16b725445db2689d6a4bf3f85f2", func := "loop.example/g01917/laws.FnExactBagRelation", spec := "fnExactBagRelation", unfollowed := true, recurses := true, named := ["loop.example/g01917/impl.oneRational"], apart := false, laid := [("loop.example/g01917/impl.oneRational", laid_loop_example_g01917_impl_oneRational)] }
def FnExactBagRelationSaid : Prop := fnExactBagRelationRow.holds Tryz.pinned (OpenSpec.ofChange fnExactBagRelationSpec)

/-- ITS FALSE NEIGHBOUR: 'it returns false'. Refute it at one input. -/
def fnExactBagRelationWrong : ChangeSpec := { name := "fnExactBagRelation", vars := ["loop.example/g01917/impl.oneRational"], fn := fun _ => fun
  | [d1, d2, d3, g1] => { results := [.lit (.bool false)], args := [d1, d2, d3], vars := [g1] }
  | _ => none }
def FnExactBagRelationWrongFalsely : Prop := fnExactBagRelationRow.holds Tryz.pinned (OpenSpec.ofChange fnExactBagRelationWrong)

/-- 'laws.FnExactBagRowCounts': WHATEVER THE INPUT: true; the input reads as it did. -/
def fnExactBagRowCountsSpec : ChangeSpec := { name := "fnExactBagRowCounts", vars := ["loop.example/g01917/impl.oneRational"], fn := fun _ => fun
  | [d1, d2, d3, g1] => { results := [.lit (.bool true)], args := [d1, d2, d3], vars := [g1] }
  | _ => none }
def fnExactBagRowCountsRow : OpenClaim := { program := "ytglilmkmkdkedaagreatdoor", sum := "a0be79e855d74411388a6e5583071afb0bead16b725445db2689d6a4bf3f85f2", func := "loop.example/g01917/laws.FnExactBagRowCounts", spec := "fnExactBagRowCounts", unfollowed := true, recurses := true, named := ["loop.example/g01917/impl.oneRational"], apart := false, laid := [("loop.example/g01917/impl.oneRational", laid_loop_example_g01917_impl_oneRational)] }
def FnExactBagRowCountsSaid : Prop := fnExactBagRowCountsRow.holds Tryz.pinned (OpenSpec.ofChange fnExactBagRowCountsSpec)

/-- ITS FALSE NEIGHBOUR: 'it returns false'. Refute it at one input. -/
def fnExactBagRowCountsWrong : ChangeSpec := { name := "fnExactBagRowCounts", vars := ["loop.example/g01917/impl.oneRational"], fn := fun _ => fun
  | [d1, d2, d3, g1] => { results := [.lit (.bool false)], args := [d1, d2, d3], vars := [g1] }
  | _ => none }
def FnExactBagRowCountsWrongFalsely : Prop := fnExactBagRowCountsRow.holds Tryz.pinned (OpenSpec.ofChange fnExactBagRowCountsWrong)

/-- 'laws.FnExactBagRelations': WHATEVER THE INPUT: true; the input reads as it did. -/
def fnExactBagRelationsSpec : ChangeSpec := { name := "fnExactBagRelations", vars := ["loop.example/g01917/impl.oneRational"], fn := fun _ => fun
  | [d1, d2, d3, g1] => { results := [.lit (.bool true)], args := [d1, d2, d3], vars := [g1] }
  | _ => none }
def fnExactBagRelationsRow : OpenClaim := { program := "ytglilmkmkdkedaagreatdoor", sum := "a0be79e855d74411388a6e5583071afb0bead16b725445db2689d6a4bf3f85f2", func := "loop.example/g01917/laws.FnExactBagRelations", spec := "fnExactBagRelations", unfollowed := true, recurses := true, named := ["loop.example/g01917/impl.oneRational"], apart := false, laid := [("loop.example/g01917/impl.oneRational", laid_loop_example_g01917_impl_oneRational)] }
def FnExactBagRelationsSaid : Prop := fnExactBagRelationsRow.holds Tryz.pinned (OpenSpec.ofChange fnExactBagRelationsSpec)

/-- ITS FALSE NEIGHBOUR: 'it returns false'. Refute it at one input. -/
def fnExactBagRelationsWrong : ChangeSpec := { name := "fnExactBagRelations", vars := ["loop.example/g01917/impl.oneRational"], fn := fun _ => fun
  | [d1, d2, d3, g1] => { results := [.lit (.bool false)], args := [d1, d2, d3], vars := [g1] }
  | _ => none }
def FnExactBagRelationsWrongFalsely : Prop := fnExactBagRelationsRow.holds Tryz.pinned (OpenSpec.ofChange fnExactBagRelationsWrong)

/-- 'laws.FnExactEvaluateByDecomposition': WHATEVER THE INPUT: true; the input reads as it did. -/
def fnExactEvaluateByDecompositionSpec : ChangeSpec := { name := "fnExactEvaluateByDecomposition", vars := ["loop.example/g01917/impl.oneRational"], fn := fun _ => fun
  | [d1, d2, d3, g1] => { results := [.lit (.bool true)], args := [d1, d2, d3], vars := [g1] }
  | _ => none }
def fnExactEvaluateByDecompositionRow : OpenClaim := { program := "ytglilmkmkdkedaagreatdoor", sum := "a0be79e855d74411388a6e5583071afb0bead16b725445db2689d6a4bf3f85f2", func := "loop.example/g01917/laws.FnExactEvaluateByDecomposition", spec := "fnExactEvaluateByDecomposition", unfollowed := true, recurses := true, named := ["loop.example/g01917/impl.oneRational"], apart := false, laid := [("loop.example/g01917/impl.oneRational", laid_loop_example_g01917_impl_oneRational)] }
def FnExactEvaluateByDecompositionSaid : Prop := fnExactEvaluateByDecompositionRow.holds Tryz.pinned (OpenSpec.ofChange fnExactEvaluateByDecompositionSpec)

/-- ITS FALSE NEIGHBOUR: 'it returns false'. Refute it at one input. -/
def fnExactEvaluateByDecompositionWrong : ChangeSpec := { name := "fnExactEvaluateByDecomposition", vars := ["loop.example/g01917/impl.oneRational"], fn := fun _ => fun
  | [d1, d2, d3, g1] => { results := [.lit (.bool false)], args := [d1, d2, d3], vars := [g1] }
  | _ => none }
def FnExactEvaluateByDecompositionWrongFalsely : Prop := fnExactEvaluateByDecompositionRow.holds Tryz.pinned (OpenSpec.ofChange fnExactEvaluateByDecompositionWrong)

/- THE SECOND FORM. 'bulk': how many values and letters a reading holds, each counted each time it is reached (what is shared counts as often as it is met; a slice's spare places count too). A statement '..UptoSaid' is the law's where the arguments, and the package variables that the reading takes, are together of bulk at most 1048576: NARROWER than '..Said'. Prove '..Said' where nothing that the law and all that it calls make is longer than what came in: it says more and counts as full. Else prove '..UptoSaid'. A law counts once. -/
mutual
def uptoBulk {H : Type} : DataW H → Nat
  | .lit (.string bytes) => bytes.length + 1
  | .lit _ => 1
  | .nil => 1
  | .ptr d => uptoBulk d + 1
  | .slice elems spare => uptoBulkAll elems + uptoBulkAll spare + 1
  | .agg parts => uptoBulkAll parts + 1
  | .iface _ d => uptoBulk d + 1
  | .map entries => uptoBulkEntries entries + 1
  | .held _ => 1
def uptoBulkAll {H : Type} : List (DataW H) → Nat
  | [] => 0
  | d :: r => uptoBulk d + uptoBulkAll r
def uptoBulkEntries {H : Type} : List (Lit × DataW H) → Nat
  | [] => 0
  | x :: r => uptoBulkEntry x + uptoBulkEntries r
def uptoBulkEntry {H : Type} : Lit × DataW H → Nat
  | (.string bytes, d) => bytes.length + uptoBulk d + 1
  | (_, d) => uptoBulk d + 1
 end
def uptoSmall : (H : Type) → List (DataW H) → Bool := fun _ ds => decide (uptoBulkAll ds ≤ 1048576)
def OpenSpec.upto (s : _root_.Go.ChangeSpec) : _root_.Go.OpenSpec := { _root_.Go.OpenSpec.ofChange s with cond := some uptoSmall }

/-- 'laws.FnExactBagRelation', WHERE WHAT IT READS IS OF BULK AT MOST 1048576: true; the input reads as it did. -/
def fnExactBagRelationUptoRow : OpenClaim := { program := "ytglilmkmkdkedaagreatdoor", sum := "a0be79e855d74411388a6e5583071afb0bead16b725445db2689d6a4bf3f85f2", func := "loop.example/g01917/laws.FnExactBagRelation", spec := "fnExactBagRelation", unfollowed := true, recurses := true, named := ["loop.example/g01917/impl.oneRational"], apart := false, laid := [("loop.example/g01917/impl.oneRational", laid_loop_example_g01917_impl_oneRational)], narrowed := true }
def FnExactBagRelationUptoSaid : Prop := fnExactBagRelationUptoRow.holds Tryz.pinned (OpenSpec.upto fnExactBagRelationSpec)

/-- 'laws.FnExactBagRowCounts', WHERE WHAT IT READS IS OF BULK AT MOST 1048576: true; the input reads as it did. -/
def fnExactBagRowCountsUptoRow : OpenClaim := { program := "ytglilmkmkdkedaagreatdoor", sum := "a0be79e855d74411388a6e5583071afb0bead16b725445db2689d6a4bf3f85f2", func := "loop.example/g01917/laws.FnExactBagRowCounts", spec := "fnExactBagRowCounts", unfollowed := true, recurses := true, named := ["loop.example/g01917/impl.oneRational"], apart := false, laid := [("loop.example/g01917/impl.oneRational", laid_loop_example_g01917_impl_oneRational)], narrowed := true }
def FnExactBagRowCountsUptoSaid : Prop := fnExactBagRowCountsUptoRow.holds Tryz.pinned (OpenSpec.upto fnExactBagRowCountsSpec)

/-- 'laws.FnExactBagRelations', WHERE WHAT IT READS IS OF BULK AT MOST 1048576: true; the input reads as it did. -/
def fnExactBagRelationsUptoRow : OpenClaim := { program := "ytglilmkmkdkedaagreatdoor", sum := "a0be79e855d74411388a6e5583071afb0bead16b725445db2689d6a4bf3f85f2", func := "loop.example/g01917/laws.FnExactBagRelations", spec := "fnExactBagRelations", unfollowed := true, recurses := true, named := ["loop.example/g01917/impl.oneRational"], apart := false, laid := [("loop.example/g01917/impl.oneRational", laid_loop_example_g01917_impl_oneRational)], narrowed := true }
def FnExactBagRelationsUptoSaid : Prop := fnExactBagRelationsUptoRow.holds Tryz.pinned (OpenSpec.upto fnExactBagRelationsSpec)

/-- 'laws.FnExactEvaluateByDecomposition', WHERE WHAT IT READS IS OF BULK AT MOST 1048576: true; the input reads as it did. -/
def fnExactEvaluateByDecompositionUptoRow : OpenClaim := { program := "ytglilmkmkdkedaagreatdoor", sum := "a0be79e855d74411388a6e5583071afb0bead16b725445db2689d6a4bf3f85f2", func := "loop.example/g01917/laws.FnExactEvaluateByDecomposition", spec := "fnExactEvaluateByDecomposition", unfollowed := true, recurses := true, named := ["loop.example/g01917/impl.oneRational"], apart := false, laid := [("loop.example/g01917/impl.oneRational", laid_loop_example_g01917_impl_oneRational)], narrowed := true }
def FnExactEvaluateByDecompositionUptoSaid : Prop := fnExactEvaluateByDecompositionUptoRow.holds Tryz.pinned (OpenSpec.upto fnExactEvaluateByDecompositionSpec)

end Rows
end Go.Proofs.YtglilmkmkdkedaaGreatDoor
