/-
  R6: a part of a proof of this seat: the value-level semantics of Go code without maps (Vs), its walk rules (Vt), the frame of a row (Vr), facts of types, schedules, walks. It holds of every program and state that its hypotheses name.
-/
import Derived.Test.YtfebikihnljjoaaW10
import Derived.Test.YtfebikihnljjoaaD6
set_option linter.unusedSimpArgs false
set_option linter.unusedVariables false
namespace Go.Proofs.Ytfebikihnljjoaa
open Go.ChangeShapes Go.WideShapes Go.ChangeAt Go.RowKit Go.Vs Go.ChangeMaps
set_option maxRecDepth 100000

namespace equalCounted
theorem contract (H : Type) (enc : TypeId × Value → H) (W : World) (base : Nat) (args : Array Value) (ds gs : List (DataW H)) (before : List MemPlace)
    (hval : ∀ (j : Nat) t v, Try.f6.params[j]? = some t → args[j]? = some v → Value.okWide Try.prog W .any base t v)
    (hW : DataW.Whole enc Try.prog Try.f6.params.toList Rows.fnExactEqualCountedSpec.vars false W args.toList ds gs before) (hz : 0 < W.heap.size) :
    Calls Try.prog 6 args W fun e W' => ∃ v, e = .returned v ∧ Rows.fnExactEqualCountedSpec.post enc Try.prog Try.f6 false true false false W args v W' := by
  have hW' := hW
  obtain ⟨p, q, hA, hV, rfl, hfz, hnd⟩ := hW
  rw [Try.params6] at hA hval
  obtain ⟨v0, vs0, d0, ds0, p0, q0, hargs, rfl, rfl, t0, s0⟩ := trodAll_cons hA
  obtain ⟨v1, vs1, d1, ds1, p1, q1, rfl, rfl, rfl, t1, s1⟩ := trodAll_cons s0
  obtain ⟨rfl, rfl, rfl⟩ := trodAll_nil s1
  obtain rfl : args = #[v0, v1] := by cases args; simp_all
  obtain ⟨a0, h0, r0⟩ := arg_agg opens_cnt (l := [(0, 3), (1, 38), (2, 39)]) (by kernel_rfl) (hval 0 41 v0 rfl rfl) t0 hz
  obtain ⟨a1, h1, r1⟩ := arg_agg opens_cnt (l := [(0, 3), (1, 38), (2, 39)]) (by kernel_rfl) (hval 1 41 v1 rfl rfl) t1 hz
  refine row_of (b := 4) (by kernel_rfl) (of_decide_eq_true (by kernel_rfl)) rfl (fun ds h => ?_) (by kernel_rfl) (by kernel_rfl) hW' [.agg [.d (.int .i64 a0.ar), .d (dRows a0.rows), .d (dInts a0.cs)], .agg [.d (.int .i64 a1.ar), .d (dRows a1.rows), .d (dInts a1.cs)]] ⟨r0, r1, trivial⟩ rfl (v6 a0 a1 h0 h1)
  match ds, h with
  | [d1, d2], _ => rfl

theorem lifted (os : Os) (started : os.Started) (H : Type) (enc : TypeId × Value → H) :
    ReturnsInHanded {} Try.checked os 6 .any (Rows.fnExactEqualCountedSpec.pre6 enc Try.prog Try.f6 Rows.fnExactEqualCountedRow.domain false) (Rows.fnExactEqualCountedSpec.post enc Try.prog Try.f6 false true false false) := by
  refine returnsInHanded_of_change_shaped (C := Try.checked) (s := Rows.fnExactEqualCountedSpec) ownKn started (by kernel_rfl) Try.func6
    (ChangeSpec.witness6 (enc := enc) (C := Try.checked) (s := Rows.fnExactEqualCountedSpec) false ⟨#[], #[.agg #[.int .i64 0, .slice none 0 0, .slice none 0 0], .agg #[.int .i64 0, .slice none 0 0, .slice none 0 0]], []⟩ 8 (by kernel_rfl) (by kernel_rfl) (by kernel_rfl) (by kernel_rfl)) ?_
  intro W base args ds gs before hval hW _ _ hsh _
  exact contract H enc W base args ds gs before hval hW (heap_pos hsh)

theorem over : Rows.fnExactEqualCountedRow.holds Try.pinned (OpenSpec.ofChange Rows.fnExactEqualCountedSpec) :=
  OpenClaim.holds_of_wide 6 Try.f6 rfl rfl rfl rfl rfl rfl rfl ⟨rfl, rfl, rfl, rfl, rfl⟩ rfl rfl rfl rfl rfl (by kernel_rfl) Try.func6 (by kernel_rfl)
    (of_decide_eq_true (by kernel_rfl)) (by unfold Func.isWrapper; first | (rw [if_pos (by decide +kernel)]; kernel_rfl) | (rw [if_neg (by decide +kernel)]; exact ⟨rfl, rfl⟩))
    (fun os started H enc _ => lifted os started H enc)

theorem proved : Rows.FnExactEqualCountedSaid := over
end equalCounted
end Go.Proofs.Ytfebikihnljjoaa
