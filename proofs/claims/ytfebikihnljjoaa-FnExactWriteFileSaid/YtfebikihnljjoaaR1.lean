/-
  R1: a part of a proof of this seat: the value-level semantics of Go code without maps (Vs), its walk rules (Vt), the frame of a row (Vr), facts of types, schedules, walks. It holds of every program and state that its hypotheses name.
-/
import Derived.Test.YtfebikihnljjoaaL1
import Derived.Test.YtfebikihnljjoaaVr2
import Derived.Test.YtfebikihnljjoaaRows
set_option linter.unusedSimpArgs false
set_option linter.unusedVariables false
namespace Go.Proofs.Ytfebikihnljjoaa
open Go.Vs Go.Proofs Go
set_option maxRecDepth 100000
set_option maxHeartbeats 1000000

open Go.ChangeShapes Go.WideShapes Go.ChangeAt Go.RowKit Go.ChangeMaps
set_option linter.unusedVariables false
theorem ownKn : ownKnob Try.prog.godebug = none := by kernel_rfl
theorem heap_pos {W : World} (h : W.ShapedOpen Try.prog) : 0 < W.heap.size := by
  obtain ⟨_, h2⟩ := h
  have hk : decide (Try.prog.globals.size < (begin Try.prog (fun _ _ => 0) default).world.heap.size) = true := by kernel_rfl
  obtain ⟨o, _, ho, _⟩ := h2 Try.prog.globals.size (Nat.le_refl _) (of_decide_eq_true hk)
  have := (Array.getElem?_eq_some_iff.1 ho).1
  omega

theorem o_File : Opens Try.prog 71 cFile okFile :=
  (opens_struct (P := Try.prog) (t := 71) (l := [(0, 9), (1, 9)]) (n := 2) (by kernel_rfl) (by kernel_rfl) (opensF_cons (k := 1) (by kernel_rfl) (fun _ => rfl) (opens_str (by kernel_rfl)) (opensF_cons (k := 1) (by kernel_rfl) (fun _ => rfl) (opens_str (by kernel_rfl)) (opensF_nil _)))).map (fun x => (⟨x.1, x.2.1⟩ : File)) (fun a => rfl) (fun a h => ⟨h.1, h.2.1⟩)
theorem o_S_File : Opens Try.prog 24 (cS cFile) (okS okFile) :=
  (opens_slice (e := 71) (sz := 2) (by kernel_rfl) (by kernel_rfl) (by omega) (fun _ => rfl) o_File).map (fun s => s) (fun _ => rfl) (fun s h => ⟨h.2.1, fun a ha => h.2.2 a ha⟩)
theorem o_Disk : Opens Try.prog 26 cDisk okDisk :=
  (opens_struct (P := Try.prog) (t := 26) (l := [(0, 24)]) (n := 1) (by kernel_rfl) (by kernel_rfl) (opensF_cons (k := 1) (by kernel_rfl) (fun _ => rfl) o_S_File (opensF_nil _))).map (fun x => (⟨x.1⟩ : Disk)) (fun a => rfl) (fun a h => h.1)
namespace writeFile
theorem contract (H : Type) (enc : TypeId × Value → H) (W : World) (base : Nat) (args : Array Value) (ds gs : List (DataW H)) (before : List MemPlace)
    (hval : ∀ (j : Nat) t v, Try.f7.params[j]? = some t → args[j]? = some v → Value.okWide Try.prog W .any base t v)
    (hW : DataW.Whole enc Try.prog Try.f7.params.toList Rows.fnExactWriteFileSpec.vars false W args.toList ds gs before) (hz : 0 < W.heap.size) :
    Calls Try.prog 7 args W fun e W' => ∃ v, e = .returned v ∧ Rows.fnExactWriteFileSpec.post enc Try.prog Try.f7 false true false false W args v W' := by
  have hW' := hW
  obtain ⟨p, q, hA, hV, rfl, hfz, hnd⟩ := hW
  rw [Try.params7] at hA hval
  obtain ⟨v0, vs0, d0, ds0, p0, q0, hargs, rfl, rfl, t0, s0⟩ := trodAll_cons hA
  obtain ⟨v1, vs1, d1, ds1, p1, q1, rfl, rfl, rfl, t1, s1⟩ := trodAll_cons s0
  obtain ⟨v2, vs2, d2, ds2, p2, q2, rfl, rfl, rfl, t2, s2⟩ := trodAll_cons s1
  obtain ⟨rfl, rfl, rfl⟩ := trodAll_nil s2
  obtain rfl : args = #[v0, v1, v2] := by cases args; simp_all
  obtain ⟨a0, h0, r0⟩ := arg_agg o_Disk (l := [(0, 24)]) (by kernel_rfl) (hval 0 26 v0 rfl rfl) t0 hz
  obtain ⟨a1, h1, r1⟩ := arg_str (by kernel_rfl) (hval 1 9 v1 rfl rfl) t1
  obtain ⟨a2, h2, r2⟩ := arg_str (by kernel_rfl) (hval 2 9 v2 rfl rfl) t2
  refine row_of (b := 4) (by kernel_rfl) (of_decide_eq_true (by kernel_rfl)) rfl (fun ds h => ?_) (by kernel_rfl) (by kernel_rfl) hW' [.agg ((cDisk a0).map V.d), .d (.str a1), .d (.str a2)] ⟨r0, r1, r2, trivial⟩ rfl (w_laws_FnExactWriteFile a0 a1 a2 h0 h1 h2)
  match ds, h with
  | [d1, d2, d3], _ => rfl

theorem lifted (os : Os) (started : os.Started) (H : Type) (enc : TypeId × Value → H) :
    ReturnsInHanded {} Try.checked os 7 .any (Rows.fnExactWriteFileSpec.pre6 enc Try.prog Try.f7 Rows.fnExactWriteFileRow.domain false) (Rows.fnExactWriteFileSpec.post enc Try.prog Try.f7 false true false false) := by
  refine returnsInHanded_of_change_shaped (C := Try.checked) (s := Rows.fnExactWriteFileSpec) ownKn started (by kernel_rfl) Try.func7
    (ChangeSpec.witness6 (enc := enc) (C := Try.checked) (s := Rows.fnExactWriteFileSpec) false ⟨#[], #[.agg #[.slice none 0 0], .string ⟨#[]⟩, .string ⟨#[]⟩], []⟩ 8 (by kernel_rfl) (by kernel_rfl) (by kernel_rfl) (by kernel_rfl)) ?_
  intro W base args ds gs before hval hW _ _ hsh _
  exact contract H enc W base args ds gs before hval hW (heap_pos hsh)

theorem over : Rows.fnExactWriteFileRow.holds Try.pinned (OpenSpec.ofChange Rows.fnExactWriteFileSpec) :=
  OpenClaim.holds_of_wide 7 Try.f7 rfl rfl rfl rfl rfl rfl rfl ⟨rfl, rfl, rfl, rfl, rfl⟩ rfl rfl rfl rfl rfl (by kernel_rfl) Try.func7 (by kernel_rfl)
    (of_decide_eq_true (by kernel_rfl)) (by unfold Func.isWrapper; first | (rw [if_pos (by decide +kernel)]; kernel_rfl) | (rw [if_neg (by decide +kernel)]; exact ⟨rfl, rfl⟩))
    (fun os started H enc _ => lifted os started H enc)

theorem proved : Rows.FnExactWriteFileSaid := over
end writeFile


end Go.Proofs.Ytfebikihnljjoaa
