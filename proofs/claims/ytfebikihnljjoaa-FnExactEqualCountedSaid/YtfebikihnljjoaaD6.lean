/-
  D6: a part of a proof of this seat: the value-level semantics of Go code without maps (Vs), its walk rules (Vt), the frame of a row (Vr), facts of types, schedules, walks. It holds of every program and state that its hypotheses name.
-/
import Derived.Test.YtfebikihnljjoaaW10
import Derived.Test.YtfebikihnljjoaaVr2
import Derived.Test.YtfebikihnljjoaaRows
set_option linter.unusedSimpArgs false
set_option linter.unusedVariables false
namespace Go.Proofs.Ytfebikihnljjoaa
open Go.ChangeShapes Go.WideShapes Go.ChangeAt Go.RowKit Go.Vs Go.ChangeMaps
set_option linter.unusedVariables false
set_option maxRecDepth 100000

theorem ownKn : ownKnob Try.prog.godebug = none := by kernel_rfl
theorem heap_pos {W : World} (h : W.ShapedOpen Try.prog) : 0 < W.heap.size := by
  obtain ⟨_, h2⟩ := h
  have hk : decide (Try.prog.globals.size < (begin Try.prog (fun _ _ => 0) default).world.heap.size) = true := by kernel_rfl
  obtain ⟨o, _, ho, _⟩ := h2 Try.prog.globals.size (Nat.le_refl _) (of_decide_eq_true hk)
  have := (Array.getElem?_eq_some_iff.1 ho).1
  omega

theorem opens_ints : Opens Try.prog 39 (fun a : Ints => [dInts a]) (fun s => s.T = none ∧ s.xs.length ≤ maxLen ∧ ∀ a ∈ s.xs, (Lit.int .i64 a).wf = true) :=
  opens_slice (e := 3) (sz := 1) (by kernel_rfl) (by kernel_rfl) (by omega) (fun _ => rfl) (opens_int (by kernel_rfl))
theorem opens_rows : Opens Try.prog 38 (fun a : Go.Vs.Rows => [dRows a]) (fun s => s.T = none ∧ s.xs.length ≤ maxLen ∧ ∀ a ∈ s.xs, a.T = none ∧ a.xs.length ≤ maxLen ∧ ∀ n ∈ a.xs, (Lit.int .i64 n).wf = true) :=
  opens_slice (e := 39) (sz := 1) (by kernel_rfl) (by kernel_rfl) (by omega) (fun _ => rfl) opens_ints
theorem opens_cnt : Opens Try.prog 41 cCnt okCnt :=
  (opens_struct (P := Try.prog) (t := 41) (l := [(0, 3), (1, 38), (2, 39)]) (n := 3) (by kernel_rfl) (by kernel_rfl)
    (opensF_cons (k := 1) (by kernel_rfl) (fun _ => rfl) (opens_int (by kernel_rfl)) (opensF_cons (k := 1) (by kernel_rfl) (fun _ => rfl) opens_rows (opensF_cons (k := 1) (by kernel_rfl) (fun _ => rfl) opens_ints (opensF_nil _))))).map
    (fun x => (⟨x.1, x.2.1, x.2.2.1⟩ : Cnt)) (fun a => rfl) (fun a h => ⟨h.2.1.2.1, fun r hr => (h.2.1.2.2 r hr).2.1, h.2.2.1.2.1⟩)
end Go.Proofs.Ytfebikihnljjoaa
