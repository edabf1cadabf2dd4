/-
  No cell of these rows narrows 'for every input' (looked for: loops, veiled, ifaces, maps, wideKeys, modest, calm, conditions, laid).
  DERIVED. THE GIVEN ROWS OF THIS SEAT. 3 by the template 'for every input the law returns true; each argument reads behind the call as it read before'; 0 by the template 'total and deterministic' (their statements: YtmgphabeodaokaaGreatTotals.lean).
  GIVEN WITH THE SEED: the statements are not yours to turn. If you find one false, say at which input.
  Laid BY PROGRAM, IN A SANDBOX (cutbox-rows.mjs): the forced cells as the released guide's own fill.sh prints them over the translation 5b679fb50260b99a… (all of the seat's roots in one cut). By AI agents, Wed Nov 11 2026. No macro, syntax, notation, axiom, sorry.
-/
import Derived.Test.YtmgphabeodaokaaGreatChecked
import GoSem.Claim
import GoSem.ClaimJoined
import GoSem.ClaimMapViews
import Derived.JoinedTies
import Derived.KernelRfl
namespace Go.Proofs.YtmgphabeodaokaaGreat
/- THE CELL 'sum', in the pinned program and in every row, IS THE sha256 OF THE DUMP (.gsa) THAT YtmgphabeodaokaaGreatProg.lean LOADS. Nothing in Lean hashes anything: it is a label: what it is worth is what the hold of that sum in a sandbox is worth. -/
noncomputable def Tryz.pinned : Pinned := { name := "ytmgphabeodaokaagreat", sum := "5b679fb50260b99aede362e3630d92f001bd58a08c1b122fcd1e58a9974af63e", checked := Tryz.checked }
namespace Rows
def none {H : Type} : Left H := { results := [], args := [] }

/-- 'laws.FnDeltaTerms': WHATEVER THE INPUT: true; the input reads as it did. -/
def fnDeltaTermsSpec : ChangeSpec := { name := "fnDeltaTerms", fn := fun _ => fun
  | [d] => { results := [.lit (.bool true)], args := [d] }
  | _ => none }
def fnDeltaTermsRow : OpenClaim := { program := "ytmgphabeodaokaagreat", sum := "5b679fb50260b99aede362e3630d92f001bd58a08c1b122fcd1e58a9974af63e", func := "loop.example/g01917/laws.FnDeltaTerms", spec := "fnDeltaTerms", recurses := true, apart := false }
def FnDeltaTermsSaid : Prop := fnDeltaTermsRow.holds Tryz.pinned (OpenSpec.ofChange fnDeltaTermsSpec)

/-- ITS FALSE NEIGHBOUR: 'it returns false'. Refute it at one input. -/
def fnDeltaTermsWrong : ChangeSpec := { name := "fnDeltaTerms", fn := fun _ => fun
  | [d] => { results := [.lit (.bool false)], args := [d] }
  | _ => none }
def FnDeltaTermsWrongFalsely : Prop := fnDeltaTermsRow.holds Tryz.pinned (OpenSpec.ofChange fnDeltaTermsWrong)

/-- 'laws.FnViewMaintenance': WHATEVER THE INPUT: true; the input reads as it did. -/
def fnViewMaintenanceSpec : ChangeSpec := { name := "fnViewMaintenance", fn := fun _ => fun
  | [d] => { results := [.lit (.bool true)], args := [d] }
  | _ => none }
def fnViewMaintenanceRow : OpenClaim := { program := "ytmgphabeodaokaagreat", sum := "5b679fb50260b99aede362e3630d92f001bd58a08c1b122fcd1e58a9974af63e", func := "loop.example/g01917/laws.FnViewMaintenance", spec := "fnViewMaintenance", recurses := true, apart := false }
def FnViewMaintenanceSaid : Prop := fnViewMaintenanceRow.holds Tryz.pinned (OpenSpec.ofChange fnViewMaintenanceSpec)

/-- ITS FALSE NEIGHBOUR: 'it returns false'. Refute it at one input. -/
def fnViewMaintenanceWrong : ChangeSpec := { name := "fnViewMaintenance", fn := fun _ => fun
  | [d] => { results := [.lit (.bool false)], args := [d] }
  | _ => none }
def FnViewMaintenanceWrongFalsely : Prop := fnViewMaintenanceRow.holds Tryz.pinned (OpenSpec.ofChange fnViewMaintenanceWrong)

/-- 'laws.FnBatchViews': WHATEVER THE INPUT: true; the input reads as it did. -/
def fnBatchViewsSpec : ChangeSpec := { name := "fnBatchViews", fn := fun _ => fun
  | [d] => { results := [.lit (.bool true)], args := [d] }
  | _ => none }
def fnBatchViewsRow : OpenClaim := { program := "ytmgphabeodaokaagreat", sum := "5b679fb50260b99aede362e3630d92f001bd58a08c1b122fcd1e58a9974af63e", func := "loop.example/g01917/laws.FnBatchViews", spec := "fnBatchViews", recurses := true, apart := false }
def FnBatchViewsSaid : Prop := fnBatchViewsRow.holds Tryz.pinned (OpenSpec.ofChange fnBatchViewsSpec)

/-- ITS FALSE NEIGHBOUR: 'it returns false'. Refute it at one input. -/
def fnBatchViewsWrong : ChangeSpec := { name := "fnBatchViews", fn := fun _ => fun
  | [d] => { results := [.lit (.bool false)], args := [d] }
  | _ => none }
def FnBatchViewsWrongFalsely : Prop := fnBatchViewsRow.holds Tryz.pinned (OpenSpec.ofChange fnBatchViewsWrong)

/- THE SECOND FORM. 'bulk': how many values and letters a reading holds, each counted each time it is reached (what is shared counts as often as it is met; a slice's spare places count too). A statement '..UptoSaid' is the law's where the arguments, and the package variables that the reading takes, are together of bulk at most 1048576: NARROWER than '..Said'. Prove '..Said' where nothing that the law and all that it calls make is longer than what came in: it says more and counts as full. Else prove '..UptoSaid'. A law counts once. -/
mutual
def uptoBulk {H : Type} : DataW H → Nat
  | .lit (.string bytes) => bytes.length + 1
  | .lit _ => 1
  | .nil => 1
  | .ptr d => uptoBulk d + 1
  | .slice elems spare => uptoBulkAll elems + uptoBulkAll spare + 1
  | .agg parts => uptoBulkAll parts + 1
  | .iface _ d => uptoBulk d + 1
  | .map entries => uptoBulkEntries entries + 1
  | .held _ => 1
def uptoBulkAll {H : Type} : List (DataW H) → Nat
  | [] => 0
  | d :: r => uptoBulk d + uptoBulkAll r
def uptoBulkEntries {H : Type} : List (Lit × DataW H) → Nat
  | [] => 0
  | x :: r => uptoBulkEntry x + uptoBulkEntries r
def uptoBulkEntry {H : Type} : Lit × DataW H → Nat
  | (.string bytes, d) => bytes.length + uptoBulk d + 1
  | (_, d) => uptoBulk d + 1
 end
def uptoSmall : (H : Type) → List (DataW H) → Bool := fun _ ds => decide (uptoBulkAll ds ≤ 1048576)
def OpenSpec.upto (s : _root_.Go.ChangeSpec) : _root_.Go.OpenSpec := { _root_.Go.OpenSpec.ofChange s with cond := some uptoSmall }

/-- 'laws.FnDeltaTerms', WHERE WHAT IT READS IS OF BULK AT MOST 1048576: true; the input reads as it did. -/
def fnDeltaTermsUptoRow : OpenClaim := { program := "ytmgphabeodaokaagreat", sum := "5b679fb50260b99aede362e3630d92f001bd58a08c1b122fcd1e58a9974af63e", func := "loop.example/g01917/laws.FnDeltaTerms", spec := "fnDeltaTerms", recurses := true, apart := false, narrowed := true }
def FnDeltaTermsUptoSaid : Prop := fnDeltaTermsUptoRow.holds Tryz.pinned (OpenSpec.upto fnDeltaTermsSpec)

/-- 'laws.FnViewMaintenance', WHERE WHAT IT READS IS OF BULK AT MOST 1048576: true; the input reads as it did. -/
def fnViewMaintenanceUptoRow : OpenClaim := { program := "ytmgphabeodaokaagreat", sum := "5b679fb50260b99aede362e3630d92f001bd58a08c1b122fcd1e58a9974af63e", func := "loop.example/g01917/laws.FnViewMaintenance", spec := "fnViewMaintenance", recurses := true, apart := false, narrowed := true }
def FnViewMaintenanceUptoSaid : Prop := fnViewMaintenanceUptoRow.holds Tryz.pinned (OpenSpec.upto fnViewMaintenanceSpec)

/-- 'laws.FnBatchViews', WHERE WHAT IT READS IS OF BULK AT MOST 1048576: true; the input reads as it did. -/
def fnBatchViewsUptoRow : OpenClaim := { program := "ytmgphabeodaokaagreat", sum := "5b679fb50260b99aede362e3630d92f001bd58a08c1b122fcd1e58a9974af63e", func := "loop.example/g01917/laws.FnBatchViews", spec := "fnBatchViews", recurses := true, apart := false, narrowed := true }
def FnBatchViewsUptoSaid : Prop := fnBatchViewsUptoRow.holds Tryz.pinned (OpenSpec.upto fnBatchViewsSpec)

end Rows
end Go.Proofs.YtmgphabeodaokaaGreat
