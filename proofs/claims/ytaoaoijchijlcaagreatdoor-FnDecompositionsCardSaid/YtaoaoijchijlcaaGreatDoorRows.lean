/-
  NARROWER THAN 'FOR EVERY INPUT', by the rows' own cells (each row's printed sentence says how): FnBestDecomposition: laid · FnDecompositions: laid.
  DERIVED. THE GIVEN ROWS OF THIS SEAT. 2 by the template 'for every input the law returns true; each argument reads behind the call as it read before'; 0 by the template 'total and deterministic' (their statements: YtaoaoijchijlcaaGreatDoorTotals.lean).
  GIVEN WITH THE SEED: the statements are not yours to turn. If you find one false, say at which input.
  Laid BY PROGRAM, IN A SANDBOX (cutbox-rows.mjs): the forced cells as the released guide's own fill.sh prints them over the translation bda58062a605195f… (all of the seat's roots in one cut). By AI agents, Wed Nov 11 2026. No macro, syntax, notation, axiom, sorry.
-/
import Derived.Test.YtaoaoijchijlcaaGreatDoorChecked
import GoSem.Claim
import GoSem.ClaimJoined
import GoSem.ClaimMapViews
import Derived.JoinedTies
import Derived.KernelRfl
namespace Go.Proofs.YtaoaoijchijlcaaGreatDoor
/- THE CELL 'sum', in the pinned program and in every row, IS THE sha256 OF THE DUMP (.gsa) THAT YtaoaoijchijlcaaGreatDoorProg.lean LOADS. Nothing in Lean hashes anything: it is a label: what it is worth is what the hold of that sum in a sandbox is worth. -/
noncomputable def Tryz.pinned : Pinned := { name := "ytaoaoijchijlcaagreatdoor", sum := "bda58062a605195f6e619517159190ff4b9916c5c8b021daeebcb83e02f1cc47", checked := Tryz.checked }
namespace Rows
def none {H : Type} : Left H := { results := [], args := [] }

/- WHAT THE LISTED PACKAGE-LEVEL VARIABLES READ AS WHEN THE CALL BEGINS. Each datum BY PROGRAM (the guide's laid-datum.mjs) off the statement by which the dump's own 'gosem.cut.vars' lays the variable. In a bare row this is a premise. The card (YtaoaoijchijlcaaGreatDoorCards.lean) ties it to the program's text. -/
def laid_loop_example_g01917_impl_oneRational {H : Type} : DataW H := .agg [.lit (.int .i64 1), .lit (.int .i64 1)]

/-- 'laws.FnBestDecomposition': WHATEVER THE INPUT: true; the input reads as it did. -/
def fnBestDecompositionSpec : ChangeSpec := { name := "fnBestDecomposition", vars := ["loop.example/g01917/impl.oneRational"], fn := fun _ => fun
  | [d, g1] => { results := [.lit (.bool true)], args := [d], vars := [g1] }
  | _ => none }
def fnBestDecompositionRow : OpenClaim := { program := "ytaoaoijchijlcaagreatdoor", sum := "bda58062a605195f6e619517159190ff4b9916c5c8b021daeebcb83e02f1cc47", func := "loop.example/g01917/laws.FnBestDecomposition", spec := "fnBestDecomposition", unfollowed := true, recurses := true, named := ["loop.example/g01917/impl.oneRational"], apart := false, laid := [("loop.example/g01917/impl.oneRational", laid_loop_example_g01917_impl_oneRational)] }
def FnBestDecompositionSaid : Prop := fnBestDecompositionRow.holds Tryz.pinned (OpenSpec.ofChange fnBestDecompositionSpec)

/-- ITS FALSE NEIGHBOUR: 'it returns false'. Refute it at one input. -/
def fnBestDecompositionWrong : ChangeSpec := { name := "fnBestDecomposition", vars := ["loop.example/g01917/impl.oneRational"], fn := fun _ => fun
  | [d, g1] => { results := [.lit (.bool false)], args := [d], vars := [g1] }
  | _ => none }
def FnBestDecompositionWrongFalsely : Prop := fnBestDecompositionRow.holds Tryz.pinned (OpenSpec.ofChange fnBestDecompositionWrong)

/-- 'laws.FnDecompositions': WHATEVER THE INPUT: true; the input reads as it did. -/
def fnDecompositionsSpec : ChangeSpec := { name := "fnDecompositions", vars := ["loop.example/g01917/impl.oneRational"], fn := fun _ => fun
  | [d, g1] => { results := [.lit (.bool true)], args := [d], vars := [g1] }
  | _ => none }
def fnDecompositionsRow : OpenClaim := { program := "ytaoaoijchijlcaagreatdoor", sum := "bda58062a605195f6e619517159190ff4b9916c5c8b021daeebcb83e02f1cc47", func := "loop.example/g01917/laws.FnDecompositions", spec := "fnDecompositions", unfollowed := true, recurses := true, named := ["loop.example/g01917/impl.oneRational"], apart := false, laid := [("loop.example/g01917/impl.oneRational", laid_loop_example_g01917_impl_oneRational)] }
def FnDecompositionsSaid : Prop := fnDecompositionsRow.holds Tryz.pinned (OpenSpec.ofChange fnDecompositionsSpec)

/-- ITS FALSE NEIGHBOUR: 'it returns false'. Refute it at one input. -/
def fnDecompositionsWrong : ChangeSpec := { name := "fnDecompositions", vars := ["loop.example/g01917/impl.oneRational"], fn := fun _ => fun
  | [d, g1] => { results := [.lit (.bool false)], args := [d], vars := [g1] }
  | _ => none }
def FnDecompositionsWrongFalsely : Prop := fnDecompositionsRow.holds Tryz.pinned (OpenSpec.ofChange fnDecompositionsWrong)

/- THE SECOND FORM. 'bulk': how many values and letters a reading holds, each counted each time it is reached (what is shared counts as often as it is met; a slice's spare places count too). A statement '..UptoSaid' is the law's where the arguments, and the package variables that the reading takes, are together of bulk at most 1048576: NARROWER than '..Said'. Prove '..Said' where nothing that the law and all that it calls make is longer than what came in: it says more and counts as full. Else prove '..UptoSaid'. A law counts once. -/
mutual
def uptoBulk {H : Type} : DataW H → Nat
  | .lit (.string bytes) => bytes.length + 1
  | .lit _ => 1
  | .nil => 1
  | .ptr d => uptoBulk d + 1
  | .slice elems spare => uptoBulkAll elems + uptoBulkAll spare + 1
  | .agg parts => uptoBulkAll parts + 1
  | .iface _ d => uptoBulk d + 1
  | .map entries => uptoBulkEntries entries + 1
  | .held _ => 1
def uptoBulkAll {H : Type} : List (DataW H) → Nat
  | [] => 0
  | d :: r => uptoBulk d + uptoBulkAll r
def uptoBulkEntries {H : Type} : List (Lit × DataW H) → Nat
  | [] => 0
  | x :: r => uptoBulkEntry x + uptoBulkEntries r
def uptoBulkEntry {H : Type} : Lit × DataW H → Nat
  | (.string bytes, d) => bytes.length + uptoBulk d + 1
  | (_, d) => uptoBulk d + 1
 end
def uptoSmall : (H : Type) → List (DataW H) → Bool := fun _ ds => decide (uptoBulkAll ds ≤ 1048576)
def OpenSpec.upto (s : _root_.Go.ChangeSpec) : _root_.Go.OpenSpec := { _root_.Go.OpenSpec.ofChange s with cond := some uptoSmall }

/-- 'laws.FnBestDecomposition', WHERE WHAT IT READS IS OF BULK AT MOST 1048576: true; the input reads as it did. -/
def fnBestDecompositionUptoRow : OpenClaim := { program := "ytaoaoijchijlcaagreatdoor", sum := "bda58062a605195f6e619517159190ff4b9916c5c8b021daeebcb83e02f1cc47", func := "loop.example/g01917/laws.FnBestDecomposition", spec := "fnBestDecomposition", unfollowed := true, recurses := true, named := ["loop.example/g01917/impl.oneRational"], apart := false, laid := [("loop.example/g01917/impl.oneRational", laid_loop_example_g01917_impl_oneRational)], narrowed := true }
def FnBestDecompositionUptoSaid : Prop := fnBestDecompositionUptoRow.holds Tryz.pinned (OpenSpec.upto fnBestDecompositionSpec)

/-- 'laws.FnDecompositions', WHERE WHAT IT READS IS OF BULK AT MOST 1048576: true; the input reads as it did. -/
def fnDecompositionsUptoRow : OpenClaim := { program := "ytaoaoijchijlcaagreatdoor", sum := "bda58062a605195f6e619517159190ff4b9916c5c8b021daeebcb83e02f1cc47", func := "loop.example/g01917/laws.FnDecompositions", spec := "fnDecompositions", unfollowed := true, recurses := true, named := ["loop.example/g01917/impl.oneRational"], apart := false, laid := [("loop.example/g01917/impl.oneRational", laid_loop_example_g01917_impl_oneRational)], narrowed := true }
def FnDecompositionsUptoSaid : Prop := fnDecompositionsUptoRow.holds Tryz.pinned (OpenSpec.upto fnDecompositionsSpec)

end Rows
end Go.Proofs.YtaoaoijchijlcaaGreatDoor
