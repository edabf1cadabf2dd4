/-
  R5: a part of a proof of this seat: the value-level semantics of Go code without maps (Vs), its walk rules (Vt), the frame of a row (Vr), facts of types, schedules, walks. It holds of every program and state that its hypotheses name.
-/
import Derived.Test.YtfebikihnljjoaaW4
import Derived.Test.YtfebikihnljjoaaD4
set_option linter.unusedSimpArgs false
set_option linter.unusedVariables false
namespace Go.Proofs.Ytfebikihnljjoaa
open Go.ChangeShapes Go.WideShapes Go.ChangeAt Go.RowKit Go.Vs Go.ChangeMaps
set_option maxRecDepth 100000

namespace readFile
theorem contract (H : Type) (enc : TypeId × Value → H) (W : World) (base : Nat) (args : Array Value) (ds gs : List (DataW H)) (before : List MemPlace)
    (hval : ∀ (j : Nat) t v, Try.f5.params[j]? = some t → args[j]? = some v → Value.okWide Try.prog W .any base t v)
    (hW : DataW.Whole enc Try.prog Try.f5.params.toList Rows.fnExactReadFileSpec.vars false W args.toList ds gs before) (hz : 0 < W.heap.size) :
    Calls Try.prog 5 args W fun e W' => ∃ v, e = .returned v ∧ Rows.fnExactReadFileSpec.post enc Try.prog Try.f5 false true false false W args v W' := by
  have hW' := hW
  obtain ⟨p, q, hA, hV, rfl, hfz, hnd⟩ := hW
  rw [Try.params5] at hA hval
  obtain ⟨v0, vs0, d0, ds0, p0, q0, hargs, rfl, rfl, t0, s0⟩ := trodAll_cons hA
  obtain ⟨v1, vs1, d1, ds1, p1, q1, rfl, rfl, rfl, t1, s1⟩ := trodAll_cons s0
  obtain ⟨rfl, rfl, rfl⟩ := trodAll_nil s1
  obtain rfl : args = #[v0, v1] := by cases args; simp_all
  obtain ⟨a0, h0, r0⟩ := arg_agg opens_disk (l := [(0, 24)]) (by kernel_rfl) (hval 0 26 v0 rfl rfl) t0 hz
  obtain ⟨a1, h1, r1⟩ := arg_str (by kernel_rfl) (hval 1 9 v1 rfl rfl) t1
  refine row_of (b := 4) (by kernel_rfl) (of_decide_eq_true (by kernel_rfl)) rfl (fun ds h => ?_) (by kernel_rfl) (by kernel_rfl) hW' [.agg [.d (dFiles a0)], .d (.str a1)] ⟨r0, r1, trivial⟩ rfl (v5 a0 a1 h0.2.1 h0.2.2)
  match ds, h with
  | [d1, d2], _ => rfl

theorem lifted (os : Os) (started : os.Started) (H : Type) (enc : TypeId × Value → H) :
    ReturnsInHanded {} Try.checked os 5 .any (Rows.fnExactReadFileSpec.pre6 enc Try.prog Try.f5 Rows.fnExactReadFileRow.domain false) (Rows.fnExactReadFileSpec.post enc Try.prog Try.f5 false true false false) := by
  refine returnsInHanded_of_change_shaped (C := Try.checked) (s := Rows.fnExactReadFileSpec) ownKn started (by kernel_rfl) Try.func5
    (ChangeSpec.witness6 (enc := enc) (C := Try.checked) (s := Rows.fnExactReadFileSpec) false ⟨#[], #[.agg #[.slice none 0 0], .string ⟨#[]⟩], []⟩ 8 (by kernel_rfl) (by kernel_rfl) (by kernel_rfl) (by kernel_rfl)) ?_
  intro W base args ds gs before hval hW _ _ hsh _
  exact contract H enc W base args ds gs before hval hW (heap_pos hsh)

theorem over : Rows.fnExactReadFileRow.holds Try.pinned (OpenSpec.ofChange Rows.fnExactReadFileSpec) :=
  OpenClaim.holds_of_wide 5 Try.f5 rfl rfl rfl rfl rfl rfl rfl ⟨rfl, rfl, rfl, rfl, rfl⟩ rfl rfl rfl rfl rfl (by kernel_rfl) Try.func5 (by kernel_rfl)
    (of_decide_eq_true (by kernel_rfl)) (by unfold Func.isWrapper; first | (rw [if_pos (by decide +kernel)]; kernel_rfl) | (rw [if_neg (by decide +kernel)]; exact ⟨rfl, rfl⟩))
    (fun os started H enc _ => lifted os started H enc)

theorem proved : Rows.FnExactReadFileSaid := over
end readFile
end Go.Proofs.Ytfebikihnljjoaa
