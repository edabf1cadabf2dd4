/-
  R4: a part of a proof of this seat: the value-level semantics of Go code without maps (Vs), its walk rules (Vt), the frame of a row (Vr), facts of types, schedules, walks. It holds of every program and state that its hypotheses name.
-/
import Derived.Test.YtfebikihnljjoaaW3
import Derived.Test.YtfebikihnljjoaaVr2
import Derived.Test.YtfebikihnljjoaaRows
set_option linter.unusedSimpArgs false
set_option linter.unusedVariables false
namespace Go.Proofs.Ytfebikihnljjoaa
open Go.ChangeShapes Go.WideShapes Go.ChangeAt Go.RowKit Go.Vs Go.ChangeMaps
set_option linter.unusedVariables false
set_option maxRecDepth 100000

theorem ownKn : ownKnob Try.prog.godebug = none := by kernel_rfl
theorem heap_pos {W : World} (h : W.ShapedOpen Try.prog) : 0 < W.heap.size := by
  obtain ⟨_, h2⟩ := h
  have hk : decide (Try.prog.globals.size < (begin Try.prog (fun _ _ => 0) default).world.heap.size) = true := by kernel_rfl
  obtain ⟨o, _, ho, _⟩ := h2 Try.prog.globals.size (Nat.le_refl _) (of_decide_eq_true hk)
  have := (Array.getElem?_eq_some_iff.1 ho).1
  omega

/-- a file of a disk as an argument -/
theorem opens_file : Opens Try.prog 71 cFile okFile :=
  (opens_struct (P := Try.prog) (t := 71) (l := [(0, 9), (1, 9)]) (n := 2) (by kernel_rfl) (by kernel_rfl)
    (opensF_cons (k := 1) (by kernel_rfl) (fun _ => rfl) (opens_str (by kernel_rfl)) (opensF_cons (k := 1) (by kernel_rfl) (fun _ => rfl) (opens_str (by kernel_rfl)) (opensF_nil _)))).map (fun x => (x.1, x.2.1)) (fun a => rfl) (fun a h => ⟨h.1, h.2.1⟩)
theorem opens_disk : Opens Try.prog 26 (fun a : Sl FileT => [dFiles a]) (fun s => s.T = none ∧ s.xs.length ≤ maxLen ∧ ∀ a ∈ s.xs, okFile a) :=
  (opens_struct (P := Try.prog) (t := 26) (l := [(0, 24)]) (n := 1) (by kernel_rfl) (by kernel_rfl)
    (opensF_cons (k := 1) (by kernel_rfl) (fun _ => rfl) (opens_slice (e := 71) (sz := 2) (by kernel_rfl) (by kernel_rfl) (by omega) (fun _ => rfl) opens_file) (opensF_nil _))).map (fun x => x.1) (fun a => rfl) (fun a h => h.1)

namespace isValidDisk
theorem contract (H : Type) (enc : TypeId × Value → H) (W : World) (base : Nat) (args : Array Value) (ds gs : List (DataW H)) (before : List MemPlace)
    (hval : ∀ (j : Nat) t v, Try.f4.params[j]? = some t → args[j]? = some v → Value.okWide Try.prog W .any base t v)
    (hW : DataW.Whole enc Try.prog Try.f4.params.toList Rows.fnExactIsValidDiskSpec.vars false W args.toList ds gs before) (h0 : 0 < W.heap.size) :
    Calls Try.prog 4 args W fun e W' => ∃ v, e = .returned v ∧ Rows.fnExactIsValidDiskSpec.post enc Try.prog Try.f4 false true false false W args v W' := by
  have hW' := hW
  obtain ⟨p, q, hA, hV, rfl, hfz, hnd⟩ := hW
  rw [Try.params4] at hA hval
  obtain ⟨v0, vs0, d0, ds0, p0, q0, hargs, rfl, rfl, t0, r0⟩ := trodAll_cons hA
  obtain ⟨rfl, rfl, rfl⟩ := trodAll_nil r0
  obtain rfl : args = #[v0] := by cases args; simp_all
  obtain ⟨a, ⟨ha, hb, hc⟩, hr⟩ := arg_agg opens_disk (l := [(0, 24)]) (by kernel_rfl) (hval 0 26 v0 rfl rfl) t0 h0
  refine row_of (b := 4) (by kernel_rfl) (of_decide_eq_true (by kernel_rfl)) rfl (fun ds h => ?_) (by kernel_rfl) (by kernel_rfl) hW' [.agg [.d (dFiles a)]] ⟨hr, trivial⟩ rfl (v4 a hb hc)
  match ds, h with
  | [d], _ => rfl

theorem lifted (os : Os) (started : os.Started) (H : Type) (enc : TypeId × Value → H) :
    ReturnsInHanded {} Try.checked os 4 .any (Rows.fnExactIsValidDiskSpec.pre6 enc Try.prog Try.f4 Rows.fnExactIsValidDiskRow.domain false) (Rows.fnExactIsValidDiskSpec.post enc Try.prog Try.f4 false true false false) := by
  refine returnsInHanded_of_change_shaped (C := Try.checked) (s := Rows.fnExactIsValidDiskSpec) ownKn started (by kernel_rfl) Try.func4
    (ChangeSpec.witness6 (enc := enc) (C := Try.checked) (s := Rows.fnExactIsValidDiskSpec) false ⟨#[], #[.agg #[.slice none 0 0]], []⟩ 8 (by kernel_rfl) (by kernel_rfl) (by kernel_rfl) (by kernel_rfl)) ?_
  intro W base args ds gs before hval hW _ _ hsh _
  exact contract H enc W base args ds gs before hval hW (heap_pos hsh)

theorem over : Rows.fnExactIsValidDiskRow.holds Try.pinned (OpenSpec.ofChange Rows.fnExactIsValidDiskSpec) :=
  OpenClaim.holds_of_wide 4 Try.f4 rfl rfl rfl rfl rfl rfl rfl ⟨rfl, rfl, rfl, rfl, rfl⟩ rfl rfl rfl rfl rfl (by kernel_rfl) Try.func4 (by kernel_rfl)
    (of_decide_eq_true (by kernel_rfl)) (by unfold Func.isWrapper; first | (rw [if_pos (by decide +kernel)]; kernel_rfl) | (rw [if_neg (by decide +kernel)]; exact ⟨rfl, rfl⟩))
    (fun os started H enc _ => lifted os started H enc)

theorem proved : Rows.FnExactIsValidDiskSaid := over
end isValidDisk
end Go.Proofs.Ytfebikihnljjoaa
