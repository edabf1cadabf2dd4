/-
  No cell of these rows narrows 'for every input' (looked for: loops, veiled, ifaces, maps, wideKeys, modest, calm, conditions, laid).
  DERIVED. THE GIVEN ROWS OF THIS SEAT. 8 by the template 'for every input the law returns true; each argument reads behind the call as it read before'; 0 by the template 'total and deterministic' (their statements: YtjfehcpompohcaaTotals.lean).
  GIVEN WITH THE SEED: the statements are not yours to turn. If you find one false, say at which input.
  Laid BY PROGRAM, IN A SANDBOX (cutbox-rows.mjs): the forced cells as the released guide's own fill.sh prints them over the translation d6a30825b4f46f12… (all of the seat's roots in one cut). By AI agents, Wed Nov 11 2026. No macro, syntax, notation, axiom, sorry.
-/
import Derived.Test.YtjfehcpompohcaaChecked
import GoSem.Claim
import GoSem.ClaimJoined
import GoSem.ClaimMapViews
import Derived.JoinedTies
import Derived.KernelRfl
namespace Go.Proofs.Ytjfehcpompohcaa
/- THE CELL 'sum', in the pinned program and in every row, IS THE sha256 OF THE DUMP (.gsa) THAT YtjfehcpompohcaaProg.lean LOADS. Nothing in Lean hashes anything: it is a label: what it is worth is what the hold of that sum in a sandbox is worth. -/
noncomputable def Try.pinned : Pinned := { name := "ytjfehcpompohcaa", sum := "d6a30825b4f46f12fd3bd10fca30144c7f1dcd12132e824d6bafb48d473c437f", checked := Try.checked }
namespace Rows
def none {H : Type} : Left H := { results := [], args := [] }

/-- 'laws.FnExactIsValidCounted': WHATEVER THE INPUT: true; the input reads as it did. -/
def fnExactIsValidCountedSpec : ChangeSpec := { name := "fnExactIsValidCounted", fn := fun _ => fun
  | [d] => { results := [.lit (.bool true)], args := [d] }
  | _ => none }
def fnExactIsValidCountedRow : OpenClaim := { program := "ytjfehcpompohcaa", sum := "d6a30825b4f46f12fd3bd10fca30144c7f1dcd12132e824d6bafb48d473c437f", func := "loop.example/g01917/laws.FnExactIsValidCounted", spec := "fnExactIsValidCounted", apart := false }
def FnExactIsValidCountedSaid : Prop := fnExactIsValidCountedRow.holds Try.pinned (OpenSpec.ofChange fnExactIsValidCountedSpec)

/-- ITS FALSE NEIGHBOUR: 'it returns false'. Refute it at one input. -/
def fnExactIsValidCountedWrong : ChangeSpec := { name := "fnExactIsValidCounted", fn := fun _ => fun
  | [d] => { results := [.lit (.bool false)], args := [d] }
  | _ => none }
def FnExactIsValidCountedWrongFalsely : Prop := fnExactIsValidCountedRow.holds Try.pinned (OpenSpec.ofChange fnExactIsValidCountedWrong)

/-- 'laws.FnExactCountOfRow': WHATEVER THE INPUT: true; the input reads as it did. -/
def fnExactCountOfRowSpec : ChangeSpec := { name := "fnExactCountOfRow", fn := fun _ => fun
  | [d1, d2] => { results := [.lit (.bool true)], args := [d1, d2] }
  | _ => none }
def fnExactCountOfRowRow : OpenClaim := { program := "ytjfehcpompohcaa", sum := "d6a30825b4f46f12fd3bd10fca30144c7f1dcd12132e824d6bafb48d473c437f", func := "loop.example/g01917/laws.FnExactCountOfRow", spec := "fnExactCountOfRow", apart := false }
def FnExactCountOfRowSaid : Prop := fnExactCountOfRowRow.holds Try.pinned (OpenSpec.ofChange fnExactCountOfRowSpec)

/-- ITS FALSE NEIGHBOUR: 'it returns false'. Refute it at one input. -/
def fnExactCountOfRowWrong : ChangeSpec := { name := "fnExactCountOfRow", fn := fun _ => fun
  | [d1, d2] => { results := [.lit (.bool false)], args := [d1, d2] }
  | _ => none }
def FnExactCountOfRowWrongFalsely : Prop := fnExactCountOfRowRow.holds Try.pinned (OpenSpec.ofChange fnExactCountOfRowWrong)

/-- 'laws.FnExactTouchedTables': WHATEVER THE INPUT: true; the input reads as it did. -/
def fnExactTouchedTablesSpec : ChangeSpec := { name := "fnExactTouchedTables", fn := fun _ => fun
  | [d] => { results := [.lit (.bool true)], args := [d] }
  | _ => none }
def fnExactTouchedTablesRow : OpenClaim := { program := "ytjfehcpompohcaa", sum := "d6a30825b4f46f12fd3bd10fca30144c7f1dcd12132e824d6bafb48d473c437f", func := "loop.example/g01917/laws.FnExactTouchedTables", spec := "fnExactTouchedTables", apart := false }
def FnExactTouchedTablesSaid : Prop := fnExactTouchedTablesRow.holds Try.pinned (OpenSpec.ofChange fnExactTouchedTablesSpec)

/-- ITS FALSE NEIGHBOUR: 'it returns false'. Refute it at one input. -/
def fnExactTouchedTablesWrong : ChangeSpec := { name := "fnExactTouchedTables", fn := fun _ => fun
  | [d] => { results := [.lit (.bool false)], args := [d] }
  | _ => none }
def FnExactTouchedTablesWrongFalsely : Prop := fnExactTouchedTablesRow.holds Try.pinned (OpenSpec.ofChange fnExactTouchedTablesWrong)

/-- 'laws.FnExactCountedFromRelation': WHATEVER THE INPUT: true; the input reads as it did. -/
def fnExactCountedFromRelationSpec : ChangeSpec := { name := "fnExactCountedFromRelation", fn := fun _ => fun
  | [d] => { results := [.lit (.bool true)], args := [d] }
  | _ => none }
def fnExactCountedFromRelationRow : OpenClaim := { program := "ytjfehcpompohcaa", sum := "d6a30825b4f46f12fd3bd10fca30144c7f1dcd12132e824d6bafb48d473c437f", func := "loop.example/g01917/laws.FnExactCountedFromRelation", spec := "fnExactCountedFromRelation", apart := false }
def FnExactCountedFromRelationSaid : Prop := fnExactCountedFromRelationRow.holds Try.pinned (OpenSpec.ofChange fnExactCountedFromRelationSpec)

/-- ITS FALSE NEIGHBOUR: 'it returns false'. Refute it at one input. -/
def fnExactCountedFromRelationWrong : ChangeSpec := { name := "fnExactCountedFromRelation", fn := fun _ => fun
  | [d] => { results := [.lit (.bool false)], args := [d] }
  | _ => none }
def FnExactCountedFromRelationWrongFalsely : Prop := fnExactCountedFromRelationRow.holds Try.pinned (OpenSpec.ofChange fnExactCountedFromRelationWrong)

/-- 'laws.FnExactRowsOfCounted': WHATEVER THE INPUT: true; the input reads as it did. -/
def fnExactRowsOfCountedSpec : ChangeSpec := { name := "fnExactRowsOfCounted", fn := fun _ => fun
  | [d] => { results := [.lit (.bool true)], args := [d] }
  | _ => none }
def fnExactRowsOfCountedRow : OpenClaim := { program := "ytjfehcpompohcaa", sum := "d6a30825b4f46f12fd3bd10fca30144c7f1dcd12132e824d6bafb48d473c437f", func := "loop.example/g01917/laws.FnExactRowsOfCounted", spec := "fnExactRowsOfCounted", apart := false }
def FnExactRowsOfCountedSaid : Prop := fnExactRowsOfCountedRow.holds Try.pinned (OpenSpec.ofChange fnExactRowsOfCountedSpec)

/-- ITS FALSE NEIGHBOUR: 'it returns false'. Refute it at one input. -/
def fnExactRowsOfCountedWrong : ChangeSpec := { name := "fnExactRowsOfCounted", fn := fun _ => fun
  | [d] => { results := [.lit (.bool false)], args := [d] }
  | _ => none }
def FnExactRowsOfCountedWrongFalsely : Prop := fnExactRowsOfCountedRow.holds Try.pinned (OpenSpec.ofChange fnExactRowsOfCountedWrong)

/-- 'laws.FnExactAddCounted': WHATEVER THE INPUT: true; the input reads as it did. -/
def fnExactAddCountedSpec : ChangeSpec := { name := "fnExactAddCounted", fn := fun _ => fun
  | [d1, d2] => { results := [.lit (.bool true)], args := [d1, d2] }
  | _ => none }
def fnExactAddCountedRow : OpenClaim := { program := "ytjfehcpompohcaa", sum := "d6a30825b4f46f12fd3bd10fca30144c7f1dcd12132e824d6bafb48d473c437f", func := "loop.example/g01917/laws.FnExactAddCounted", spec := "fnExactAddCounted", recurses := true, apart := false }
def FnExactAddCountedSaid : Prop := fnExactAddCountedRow.holds Try.pinned (OpenSpec.ofChange fnExactAddCountedSpec)

/-- ITS FALSE NEIGHBOUR: 'it returns false'. Refute it at one input. -/
def fnExactAddCountedWrong : ChangeSpec := { name := "fnExactAddCounted", fn := fun _ => fun
  | [d1, d2] => { results := [.lit (.bool false)], args := [d1, d2] }
  | _ => none }
def FnExactAddCountedWrongFalsely : Prop := fnExactAddCountedRow.holds Try.pinned (OpenSpec.ofChange fnExactAddCountedWrong)

/-- 'laws.FnExactProjectCounted': WHATEVER THE INPUT: true; the input reads as it did. -/
def fnExactProjectCountedSpec : ChangeSpec := { name := "fnExactProjectCounted", fn := fun _ => fun
  | [d1, d2] => { results := [.lit (.bool true)], args := [d1, d2] }
  | _ => none }
def fnExactProjectCountedRow : OpenClaim := { program := "ytjfehcpompohcaa", sum := "d6a30825b4f46f12fd3bd10fca30144c7f1dcd12132e824d6bafb48d473c437f", func := "loop.example/g01917/laws.FnExactProjectCounted", spec := "fnExactProjectCounted", recurses := true, apart := false }
def FnExactProjectCountedSaid : Prop := fnExactProjectCountedRow.holds Try.pinned (OpenSpec.ofChange fnExactProjectCountedSpec)

/-- ITS FALSE NEIGHBOUR: 'it returns false'. Refute it at one input. -/
def fnExactProjectCountedWrong : ChangeSpec := { name := "fnExactProjectCounted", fn := fun _ => fun
  | [d1, d2] => { results := [.lit (.bool false)], args := [d1, d2] }
  | _ => none }
def FnExactProjectCountedWrongFalsely : Prop := fnExactProjectCountedRow.holds Try.pinned (OpenSpec.ofChange fnExactProjectCountedWrong)

/-- 'laws.FnExactViewRows': WHATEVER THE INPUT: true; the input reads as it did. -/
def fnExactViewRowsSpec : ChangeSpec := { name := "fnExactViewRows", fn := fun _ => fun
  | [d] => { results := [.lit (.bool true)], args := [d] }
  | _ => none }
def fnExactViewRowsRow : OpenClaim := { program := "ytjfehcpompohcaa", sum := "d6a30825b4f46f12fd3bd10fca30144c7f1dcd12132e824d6bafb48d473c437f", func := "loop.example/g01917/laws.FnExactViewRows", spec := "fnExactViewRows", apart := false }
def FnExactViewRowsSaid : Prop := fnExactViewRowsRow.holds Try.pinned (OpenSpec.ofChange fnExactViewRowsSpec)

/-- ITS FALSE NEIGHBOUR: 'it returns false'. Refute it at one input. -/
def fnExactViewRowsWrong : ChangeSpec := { name := "fnExactViewRows", fn := fun _ => fun
  | [d] => { results := [.lit (.bool false)], args := [d] }
  | _ => none }
def FnExactViewRowsWrongFalsely : Prop := fnExactViewRowsRow.holds Try.pinned (OpenSpec.ofChange fnExactViewRowsWrong)

/- THE SECOND FORM. 'bulk': how many values and letters a reading holds, each counted each time it is reached (what is shared counts as often as it is met; a slice's spare places count too). A statement '..UptoSaid' is the law's where the arguments, and the package variables that the reading takes, are together of bulk at most 1048576: NARROWER than '..Said'. Prove '..Said' where nothing that the law and all that it calls make is longer than what came in: it says more and counts as full. Else prove '..UptoSaid'. A law counts once. -/
mutual
def uptoBulk {H : Type} : DataW H → Nat
  | .lit (.string bytes) => bytes.length + 1
  | .lit _ => 1
  | .nil => 1
  | .ptr d => uptoBulk d + 1
  | .slice elems spare => uptoBulkAll elems + uptoBulkAll spare + 1
  | .agg parts => uptoBulkAll parts + 1
  | .iface _ d => uptoBulk d + 1
  | .map entries => uptoBulkEntries entries + 1
  | .held _ => 1
def uptoBulkAll {H : Type} : List (DataW H) → Nat
  | [] => 0
  | d :: r => uptoBulk d + uptoBulkAll r
def uptoBulkEntries {H : Type} : List (Lit × DataW H) → Nat
  | [] => 0
  | x :: r => uptoBulkEntry x + uptoBulkEntries r
def uptoBulkEntry {H : Type} : Lit × DataW H → Nat
  | (.string bytes, d) => bytes.length + uptoBulk d + 1
  | (_, d) => uptoBulk d + 1
 end
def uptoSmall : (H : Type) → List (DataW H) → Bool := fun _ ds => decide (uptoBulkAll ds ≤ 1048576)
def OpenSpec.upto (s : _root_.Go.ChangeSpec) : _root_.Go.OpenSpec := { _root_.Go.OpenSpec.ofChange s with cond := some uptoSmall }

/-- 'laws.FnExactIsValidCounted', WHERE WHAT IT READS IS OF BULK AT MOST 1048576: true; the input reads as it did. -/
def fnExactIsValidCountedUptoRow : OpenClaim := { program := "ytjfehcpompohcaa", sum := "d6a30825b4f46f12fd3bd10fca30144c7f1dcd12132e824d6bafb48d473c437f", func := "loop.example/g01917/laws.FnExactIsValidCounted", spec := "fnExactIsValidCounted", apart := false, narrowed := true }
def FnExactIsValidCountedUptoSaid : Prop := fnExactIsValidCountedUptoRow.holds Try.pinned (OpenSpec.upto fnExactIsValidCountedSpec)

/-- 'laws.FnExactCountOfRow', WHERE WHAT IT READS IS OF BULK AT MOST 1048576: true; the input reads as it did. -/
def fnExactCountOfRowUptoRow : OpenClaim := { program := "ytjfehcpompohcaa", sum := "d6a30825b4f46f12fd3bd10fca30144c7f1dcd12132e824d6bafb48d473c437f", func := "loop.example/g01917/laws.FnExactCountOfRow", spec := "fnExactCountOfRow", apart := false, narrowed := true }
def FnExactCountOfRowUptoSaid : Prop := fnExactCountOfRowUptoRow.holds Try.pinned (OpenSpec.upto fnExactCountOfRowSpec)

/-- 'laws.FnExactTouchedTables', WHERE WHAT IT READS IS OF BULK AT MOST 1048576: true; the input reads as it did. -/
def fnExactTouchedTablesUptoRow : OpenClaim := { program := "ytjfehcpompohcaa", sum := "d6a30825b4f46f12fd3bd10fca30144c7f1dcd12132e824d6bafb48d473c437f", func := "loop.example/g01917/laws.FnExactTouchedTables", spec := "fnExactTouchedTables", apart := false, narrowed := true }
def FnExactTouchedTablesUptoSaid : Prop := fnExactTouchedTablesUptoRow.holds Try.pinned (OpenSpec.upto fnExactTouchedTablesSpec)

/-- 'laws.FnExactCountedFromRelation', WHERE WHAT IT READS IS OF BULK AT MOST 1048576: true; the input reads as it did. -/
def fnExactCountedFromRelationUptoRow : OpenClaim := { program := "ytjfehcpompohcaa", sum := "d6a30825b4f46f12fd3bd10fca30144c7f1dcd12132e824d6bafb48d473c437f", func := "loop.example/g01917/laws.FnExactCountedFromRelation", spec := "fnExactCountedFromRelation", apart := false, narrowed := true }
def FnExactCountedFromRelationUptoSaid : Prop := fnExactCountedFromRelationUptoRow.holds Try.pinned (OpenSpec.upto fnExactCountedFromRelationSpec)

/-- 'laws.FnExactRowsOfCounted', WHERE WHAT IT READS IS OF BULK AT MOST 1048576: true; the input reads as it did. -/
def fnExactRowsOfCountedUptoRow : OpenClaim := { program := "ytjfehcpompohcaa", sum := "d6a30825b4f46f12fd3bd10fca30144c7f1dcd12132e824d6bafb48d473c437f", func := "loop.example/g01917/laws.FnExactRowsOfCounted", spec := "fnExactRowsOfCounted", apart := false, narrowed := true }
def FnExactRowsOfCountedUptoSaid : Prop := fnExactRowsOfCountedUptoRow.holds Try.pinned (OpenSpec.upto fnExactRowsOfCountedSpec)

/-- 'laws.FnExactAddCounted', WHERE WHAT IT READS IS OF BULK AT MOST 1048576: true; the input reads as it did. -/
def fnExactAddCountedUptoRow : OpenClaim := { program := "ytjfehcpompohcaa", sum := "d6a30825b4f46f12fd3bd10fca30144c7f1dcd12132e824d6bafb48d473c437f", func := "loop.example/g01917/laws.FnExactAddCounted", spec := "fnExactAddCounted", recurses := true, apart := false, narrowed := true }
def FnExactAddCountedUptoSaid : Prop := fnExactAddCountedUptoRow.holds Try.pinned (OpenSpec.upto fnExactAddCountedSpec)

/-- 'laws.FnExactProjectCounted', WHERE WHAT IT READS IS OF BULK AT MOST 1048576: true; the input reads as it did. -/
def fnExactProjectCountedUptoRow : OpenClaim := { program := "ytjfehcpompohcaa", sum := "d6a30825b4f46f12fd3bd10fca30144c7f1dcd12132e824d6bafb48d473c437f", func := "loop.example/g01917/laws.FnExactProjectCounted", spec := "fnExactProjectCounted", recurses := true, apart := false, narrowed := true }
def FnExactProjectCountedUptoSaid : Prop := fnExactProjectCountedUptoRow.holds Try.pinned (OpenSpec.upto fnExactProjectCountedSpec)

/-- 'laws.FnExactViewRows', WHERE WHAT IT READS IS OF BULK AT MOST 1048576: true; the input reads as it did. -/
def fnExactViewRowsUptoRow : OpenClaim := { program := "ytjfehcpompohcaa", sum := "d6a30825b4f46f12fd3bd10fca30144c7f1dcd12132e824d6bafb48d473c437f", func := "loop.example/g01917/laws.FnExactViewRows", spec := "fnExactViewRows", apart := false, narrowed := true }
def FnExactViewRowsUptoSaid : Prop := fnExactViewRowsUptoRow.holds Try.pinned (OpenSpec.upto fnExactViewRowsSpec)

end Rows
end Go.Proofs.Ytjfehcpompohcaa
