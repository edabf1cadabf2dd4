/-
  D4: a part of a proof of this seat: the value-level semantics of Go code without maps (Vs), its walk rules (Vt), the frame of a row (Vr), facts of types, schedules, walks. It holds of every program and state that its hypotheses name.
-/
import Derived.Test.YtfebikihnljjoaaW1
import Derived.Test.YtfebikihnljjoaaVr2
import Derived.Test.YtfebikihnljjoaaRows
set_option linter.unusedSimpArgs false
set_option linter.unusedVariables false
namespace Go.Proofs.Ytfebikihnljjoaa
open Go.ChangeShapes Go.WideShapes Go.ChangeAt Go.RowKit Go.Vs Go.ChangeMaps
set_option linter.unusedVariables false
set_option maxRecDepth 100000

theorem ownKn : ownKnob Try.prog.godebug = none := by kernel_rfl
theorem heap_pos {W : World} (h : W.ShapedOpen Try.prog) : 0 < W.heap.size := by
  obtain ⟨_, h2⟩ := h
  have hk : decide (Try.prog.globals.size < (begin Try.prog (fun _ _ => 0) default).world.heap.size) = true := by kernel_rfl
  obtain ⟨o, _, ho, _⟩ := h2 Try.prog.globals.size (Nat.le_refl _) (of_decide_eq_true hk)
  have := (Array.getElem?_eq_some_iff.1 ho).1
  omega

/-- a file of a disk as an argument -/
theorem opens_file : Opens Try.prog 71 cFile okFile :=
  (opens_struct (P := Try.prog) (t := 71) (l := [(0, 9), (1, 9)]) (n := 2) (by kernel_rfl) (by kernel_rfl)
    (opensF_cons (k := 1) (by kernel_rfl) (fun _ => rfl) (opens_str (by kernel_rfl)) (opensF_cons (k := 1) (by kernel_rfl) (fun _ => rfl) (opens_str (by kernel_rfl)) (opensF_nil _)))).map (fun x => (x.1, x.2.1)) (fun a => rfl) (fun a h => ⟨h.1, h.2.1⟩)
theorem opens_disk : Opens Try.prog 26 (fun a : Sl FileT => [dFiles a]) (fun s => s.T = none ∧ s.xs.length ≤ maxLen ∧ ∀ a ∈ s.xs, okFile a) :=
  (opens_struct (P := Try.prog) (t := 26) (l := [(0, 24)]) (n := 1) (by kernel_rfl) (by kernel_rfl)
    (opensF_cons (k := 1) (by kernel_rfl) (fun _ => rfl) (opens_slice (e := 71) (sz := 2) (by kernel_rfl) (by kernel_rfl) (by omega) (fun _ => rfl) opens_file) (opensF_nil _))).map (fun x => x.1) (fun a => rfl) (fun a h => h.1)

end Go.Proofs.Ytfebikihnljjoaa
