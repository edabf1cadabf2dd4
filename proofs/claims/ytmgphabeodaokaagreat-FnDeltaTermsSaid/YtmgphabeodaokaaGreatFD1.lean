/-
  FD1: a part of a proof of this seat: the value-level semantics of Go code without maps, its walk rules, the frame of a row, facts of types, schedules, walks, plain lemmas (RDT). It holds of every program and state that its hypotheses name.
-/
import Derived.Test.YtmgphabeodaokaaGreatQ3B3
import Derived.Test.YtmgphabeodaokaaGreatQ3R1
import Derived.Test.YtmgphabeodaokaaGreatRows
import Derived.Test.YtmgphabeodaokaaGreatChecked
set_option linter.unusedSimpArgs false
set_option linter.unusedVariables false
set_option linter.unnecessarySimpa false
namespace Go.Proofs.YtmgphabeodaokaaGreat
open Go.Vs Go.Proofs Go
set_option maxRecDepth 100000
set_option maxHeartbeats 1000000
open Go.ChangeShapes Go.WideShapes Go.ChangeAt Go.RowKit Go.ChangeMaps
set_option linter.unusedVariables false
theorem ownKn : ownKnob Tryz.prog.godebug = none := by kernel_rfl
theorem heap_pos {W : World} (h : W.ShapedOpen Tryz.prog) : 0 < W.heap.size := by
  obtain ⟨_, h2⟩ := h
  have hk : decide (Tryz.prog.globals.size < (begin Tryz.prog (fun _ _ => 0) default).world.heap.size) = true := by kernel_rfl
  obtain ⟨o, _, ho, _⟩ := h2 Tryz.prog.globals.size (Nat.le_refl _) (of_decide_eq_true hk)
  have := (Array.getElem?_eq_some_iff.1 ho).1
  omega
theorem o_S_B : Opens Tryz.prog 22 (cS cW) (okS okI) :=
  (opens_slice (e := 5) (sz := 1) (by kernel_rfl) (by kernel_rfl) (by omega) (fun _ => rfl) (opens_int (k := .u8) (by kernel_rfl))).map (fun s => s) (fun _ => rfl) (fun s h => ⟨h.2.1, fun a ha => trivial⟩)
namespace fnDeltaTerms
theorem contract (H : Type) (enc : TypeId × Value -> H) (W : World) (base : Nat) (args : Array Value) (ds gs : List (DataW H)) (before : List MemPlace)
    (hval : ∀ (j : Nat) t v, Tryz.f3.params[j]? = some t -> args[j]? = some v -> Value.okWide Tryz.prog W .any base t v)
    (hW : DataW.Whole enc Tryz.prog Tryz.f3.params.toList Rows.fnDeltaTermsSpec.vars false W args.toList ds gs before) (hz : 0 < W.heap.size) :
    Calls Tryz.prog 3 args W fun e W' => ∃ v, e = .returned v /\ Rows.fnDeltaTermsSpec.post enc Tryz.prog Tryz.f3 false true false false W args v W' := by
  have hW' := hW
  obtain ⟨p, q, hA, hV, rfl, hfz, hnd⟩ := hW
  rw [Tryz.params3] at hA hval
  obtain ⟨v0, vs0, d0, ds0, p0, q0, hargs, rfl, rfl, t0, s0⟩ := trodAll_cons hA
  obtain ⟨rfl, rfl, rfl⟩ := trodAll_nil s0
  obtain rfl : args = #[v0] := by cases args; simp_all
  obtain ⟨a0, h0, r0⟩ := arg_slice (e := 5) (f := dSl cW) o_S_B (by kernel_rfl) (hval 0 22 v0 rfl rfl) t0 hz
  refine row_of (b := 4) (by kernel_rfl) (of_decide_eq_true (by kernel_rfl)) rfl (fun ds h => ?_) (by kernel_rfl) (by kernel_rfl) hW' [.d (dSl cW a0)] ⟨r0, trivial⟩ rfl (w_laws_FnDeltaTerms a0 )
  match ds, h with
  | [d1], _ => rfl
theorem lifted (os : Os) (started : os.Started) (H : Type) (enc : TypeId × Value -> H) :
    ReturnsInHanded {} Tryz.checked os 3 .any (Rows.fnDeltaTermsSpec.pre6 enc Tryz.prog Tryz.f3 Rows.fnDeltaTermsRow.domain false) (Rows.fnDeltaTermsSpec.post enc Tryz.prog Tryz.f3 false true false false) := by
  refine returnsInHanded_of_change_shaped (C := Tryz.checked) (s := Rows.fnDeltaTermsSpec) ownKn started (by kernel_rfl) Tryz.func3
    (ChangeSpec.witness6 (enc := enc) (C := Tryz.checked) (s := Rows.fnDeltaTermsSpec) false ⟨#[], #[.slice none 0 0], []⟩ 8 (by kernel_rfl) (by kernel_rfl) (by kernel_rfl) (by kernel_rfl)) ?_
  intro W base args ds gs before hval hW _ _ hsh _
  exact contract H enc W base args ds gs before hval hW (heap_pos hsh)
theorem over : Rows.fnDeltaTermsRow.holds Tryz.pinned (OpenSpec.ofChange Rows.fnDeltaTermsSpec) :=
  OpenClaim.holds_of_wide 3 Tryz.f3 rfl rfl rfl rfl rfl rfl rfl ⟨rfl, rfl, rfl, rfl, rfl⟩ rfl rfl rfl rfl rfl (by kernel_rfl) Tryz.func3 (by kernel_rfl)
    (of_decide_eq_true (by kernel_rfl)) (by unfold Func.isWrapper; first | (rw [if_pos (by decide +kernel)]; kernel_rfl) | (rw [if_neg (by decide +kernel)]; exact ⟨rfl, rfl⟩))
    (fun os started H enc _ => lifted os started H enc)
theorem proved : Rows.FnDeltaTermsSaid := over
end fnDeltaTerms
end Go.Proofs.YtmgphabeodaokaaGreat
