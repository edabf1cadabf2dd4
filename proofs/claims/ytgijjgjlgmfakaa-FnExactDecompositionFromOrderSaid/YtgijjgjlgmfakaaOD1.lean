/-
  OD1: a part of a proof of this seat: the value-level semantics of Go code without maps, its walk rules, the frame of a row, facts of types, schedules, walks, plain lemmas (RDO). It holds of every program and state that its hypotheses name.
-/
import Derived.Test.YtgijjgjlgmfakaaO1B1
import Derived.Test.YtgijjgjlgmfakaaO1R1
import Derived.Test.YtgijjgjlgmfakaaRows
import Derived.Test.YtgijjgjlgmfakaaChecked
set_option linter.unusedSimpArgs false
set_option linter.unusedVariables false
set_option linter.unnecessarySimpa false
namespace Go.Proofs.Ytgijjgjlgmfakaa
open Go.Vs Go.Proofs Go
set_option maxRecDepth 100000
set_option maxHeartbeats 1000000

open Go.ChangeShapes Go.WideShapes Go.ChangeAt Go.RowKit Go.ChangeMaps
set_option linter.unusedVariables false
theorem ownKn : ownKnob Try.prog.godebug = none := by kernel_rfl
theorem heap_pos {W : World} (h : W.ShapedOpen Try.prog) : 0 < W.heap.size := by
  obtain ⟨_, h2⟩ := h
  have hk : decide (Try.prog.globals.size < (begin Try.prog (fun _ _ => 0) default).world.heap.size) = true := by kernel_rfl
  obtain ⟨o, _, ho, _⟩ := h2 Try.prog.globals.size (Nat.le_refl _) (of_decide_eq_true hk)
  have := (Array.getElem?_eq_some_iff.1 ho).1
  omega

theorem o_S_I : Opens Try.prog 23 (cS cI) (okS okI) :=
  (opens_slice (e := 3) (sz := 1) (by kernel_rfl) (by kernel_rfl) (by omega) (fun _ => rfl) (opens_int (k := .i64) (by kernel_rfl))).map (fun s => s) (fun _ => rfl) (fun s h => ⟨h.2.1, fun a ha => trivial⟩)
theorem o_Atom : Opens Try.prog 59 cAtom okAtom :=
  (opens_struct (P := Try.prog) (t := 59) (l := [(0, 9), (1, 23)]) (n := 2) (by kernel_rfl) (by kernel_rfl) (opensF_cons (k := 1) (by kernel_rfl) (fun _ => rfl) (opens_str (by kernel_rfl)) (opensF_cons (k := 1) (by kernel_rfl) (fun _ => rfl) o_S_I (opensF_nil _)))).map (fun x => (⟨x.1, x.2.1⟩ : Atom)) (fun a => rfl) (fun a h => ⟨h.1, h.2.1⟩)
theorem o_S_Atom : Opens Try.prog 22 (cS cAtom) (okS okAtom) :=
  (opens_slice (e := 59) (sz := 2) (by kernel_rfl) (by kernel_rfl) (by omega) (fun _ => rfl) o_Atom).map (fun s => s) (fun _ => rfl) (fun s h => ⟨h.2.1, fun a ha => h.2.2 a ha⟩)
theorem o_Query : Opens Try.prog 25 cQuery okQuery :=
  (opens_struct (P := Try.prog) (t := 25) (l := [(0, 3), (1, 22), (2, 23)]) (n := 3) (by kernel_rfl) (by kernel_rfl) (opensF_cons (k := 1) (by kernel_rfl) (fun _ => rfl) (opens_int (k := .i64) (by kernel_rfl)) (opensF_cons (k := 1) (by kernel_rfl) (fun _ => rfl) o_S_Atom (opensF_cons (k := 1) (by kernel_rfl) (fun _ => rfl) o_S_I (opensF_nil _))))).map (fun x => (⟨x.1, x.2.1, x.2.2.1⟩ : Query)) (fun a => rfl) (fun a h => ⟨trivial, h.2.1, h.2.2.1⟩)
namespace decompositionFromOrder
theorem contract (H : Type) (enc : TypeId × Value → H) (W : World) (base : Nat) (args : Array Value) (ds gs : List (DataW H)) (before : List MemPlace)
    (hval : ∀ (j : Nat) t v, Try.f3.params[j]? = some t → args[j]? = some v → Value.okWide Try.prog W .any base t v)
    (hW : DataW.Whole enc Try.prog Try.f3.params.toList Rows.fnExactDecompositionFromOrderSpec.vars false W args.toList ds gs before) (hz : 0 < W.heap.size) :
    Calls Try.prog 3 args W fun e W' => ∃ v, e = .returned v ∧ Rows.fnExactDecompositionFromOrderSpec.post enc Try.prog Try.f3 false true false false W args v W' := by
  have hW' := hW
  obtain ⟨p, q, hA, hV, rfl, hfz, hnd⟩ := hW
  rw [Try.params3] at hA hval
  obtain ⟨v0, vs0, d0, ds0, p0, q0, hargs, rfl, rfl, t0, s0⟩ := trodAll_cons hA
  obtain ⟨v1, vs1, d1, ds1, p1, q1, rfl, rfl, rfl, t1, s1⟩ := trodAll_cons s0
  obtain ⟨rfl, rfl, rfl⟩ := trodAll_nil s1
  obtain rfl : args = #[v0, v1] := by cases args; simp_all
  obtain ⟨a0, h0, r0⟩ := arg_agg o_Query (l := [(0, 3), (1, 22), (2, 23)]) (by kernel_rfl) (hval 0 25 v0 rfl rfl) t0 hz
  obtain ⟨a1, h1, r1⟩ := arg_slice (e := 3) (f := dSl cI) o_S_I (by kernel_rfl) (hval 1 23 v1 rfl rfl) t1 hz
  refine row_of (b := 4) (by kernel_rfl) (of_decide_eq_true (by kernel_rfl)) rfl (fun ds h => ?_) (by kernel_rfl) (by kernel_rfl) hW' [.agg ((cQuery a0).map V.d), .d (dSl cI a1)] ⟨r0, r1, trivial⟩ rfl (w_laws_FnExactDecompositionFromOrder a0 a1 h0 h1)
  match ds, h with
  | [d1, d2], _ => rfl

theorem lifted (os : Os) (started : os.Started) (H : Type) (enc : TypeId × Value → H) :
    ReturnsInHanded {} Try.checked os 3 .any (Rows.fnExactDecompositionFromOrderSpec.pre6 enc Try.prog Try.f3 Rows.fnExactDecompositionFromOrderRow.domain false) (Rows.fnExactDecompositionFromOrderSpec.post enc Try.prog Try.f3 false true false false) := by
  refine returnsInHanded_of_change_shaped (C := Try.checked) (s := Rows.fnExactDecompositionFromOrderSpec) ownKn started (by kernel_rfl) Try.func3
    (ChangeSpec.witness6 (enc := enc) (C := Try.checked) (s := Rows.fnExactDecompositionFromOrderSpec) false ⟨#[], #[.agg #[.int .i64 0, .slice none 0 0, .slice none 0 0], .slice none 0 0], []⟩ 8 (by kernel_rfl) (by kernel_rfl) (by kernel_rfl) (by kernel_rfl)) ?_
  intro W base args ds gs before hval hW _ _ hsh _
  exact contract H enc W base args ds gs before hval hW (heap_pos hsh)

theorem over : Rows.fnExactDecompositionFromOrderRow.holds Try.pinned (OpenSpec.ofChange Rows.fnExactDecompositionFromOrderSpec) :=
  OpenClaim.holds_of_wide 3 Try.f3 rfl rfl rfl rfl rfl rfl rfl ⟨rfl, rfl, rfl, rfl, rfl⟩ rfl rfl rfl rfl rfl (by kernel_rfl) Try.func3 (by kernel_rfl)
    (of_decide_eq_true (by kernel_rfl)) (by unfold Func.isWrapper; first | (rw [if_pos (by decide +kernel)]; kernel_rfl) | (rw [if_neg (by decide +kernel)]; exact ⟨rfl, rfl⟩))
    (fun os started H enc _ => lifted os started H enc)

theorem proved : Rows.FnExactDecompositionFromOrderSaid := over
end decompositionFromOrder


end Go.Proofs.Ytgijjgjlgmfakaa

