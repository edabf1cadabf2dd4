/-
  FA1: a part of a proof of this seat: the value-level semantics of Go code without maps, its walk rules, the frame of a row, facts of types, schedules, walks, plain lemmas (RAD). It holds of every program and state that its hypotheses name.
-/
import Derived.Test.YtdnbigokdclclaaGreatQ1B3
import Derived.Test.YtdnbigokdclclaaGreatQ1R1
import Derived.Test.YtdnbigokdclclaaGreatRows
import Derived.Test.YtdnbigokdclclaaGreatChecked
set_option linter.unusedSimpArgs false
set_option linter.unusedVariables false
set_option linter.unnecessarySimpa false
namespace Go.Proofs.YtdnbigokdclclaaGreat
open Go.Vs Go.Proofs Go
set_option maxRecDepth 100000
set_option maxHeartbeats 1000000

open Go.ChangeShapes Go.WideShapes Go.ChangeAt Go.RowKit Go.ChangeMaps
set_option linter.unusedVariables false
theorem ownKn : ownKnob Tryz.prog.godebug = none := by kernel_rfl
theorem heap_pos {W : World} (h : W.ShapedOpen Tryz.prog) : 0 < W.heap.size := by
  obtain ⟨_, h2⟩ := h
  have hk : decide (Tryz.prog.globals.size < (begin Tryz.prog (fun _ _ => 0) default).world.heap.size) = true := by kernel_rfl
  obtain ⟨o, _, ho, _⟩ := h2 Tryz.prog.globals.size (Nat.le_refl _) (of_decide_eq_true hk)
  have := (Array.getElem?_eq_some_iff.1 ho).1
  omega

theorem o_S_I : Opens Tryz.prog 26 (cS cI) (okS okI) :=
  (opens_slice (e := 3) (sz := 1) (by kernel_rfl) (by kernel_rfl) (by omega) (fun _ => rfl) (opens_int (k := .i64) (by kernel_rfl))).map (fun s => s) (fun _ => rfl) (fun s h => ⟨h.2.1, fun a ha => trivial⟩)
theorem o_S_S_I : Opens Tryz.prog 29 (cS (cS cI)) (okS (okS okI)) :=
  (opens_slice (e := 26) (sz := 1) (by kernel_rfl) (by kernel_rfl) (by omega) (fun _ => rfl) o_S_I).map (fun s => s) (fun _ => rfl) (fun s h => ⟨h.2.1, fun a ha => h.2.2 a ha⟩)
theorem o_Reln : Opens Tryz.prog 31 cReln okReln :=
  (opens_struct (P := Tryz.prog) (t := 31) (l := [(0, 3), (1, 29)]) (n := 2) (by kernel_rfl) (by kernel_rfl) (opensF_cons (k := 1) (by kernel_rfl) (fun _ => rfl) (opens_int (k := .i64) (by kernel_rfl)) (opensF_cons (k := 1) (by kernel_rfl) (fun _ => rfl) o_S_S_I (opensF_nil _)))).map (fun x => (⟨x.1, x.2.1⟩ : Reln)) (fun a => rfl) (fun a h => ⟨trivial, h.2.1⟩)
theorem o_Tab : Opens Tryz.prog 153 cTab okTab :=
  (opens_struct (P := Tryz.prog) (t := 153) (l := [(0, 9), (1, 31)]) (n := 3) (by kernel_rfl) (by kernel_rfl) (opensF_cons (k := 1) (by kernel_rfl) (fun _ => rfl) (opens_str (by kernel_rfl)) (opensF_cons (k := 2) (by kernel_rfl) (fun _ => rfl) o_Reln (opensF_nil _)))).map (fun x => (⟨x.1, x.2.1⟩ : Tab)) (fun a => rfl) (fun a h => ⟨h.1, h.2.1⟩)
theorem o_S_Tab : Opens Tryz.prog 22 (cS cTab) (okS okTab) :=
  (opens_slice (e := 153) (sz := 3) (by kernel_rfl) (by kernel_rfl) (by omega) (fun _ => rfl) o_Tab).map (fun s => s) (fun _ => rfl) (fun s h => ⟨h.2.1, fun a ha => h.2.2 a ha⟩)
theorem o_Db : Opens Tryz.prog 24 cDb okDb :=
  (opens_struct (P := Tryz.prog) (t := 24) (l := [(0, 22)]) (n := 1) (by kernel_rfl) (by kernel_rfl) (opensF_cons (k := 1) (by kernel_rfl) (fun _ => rfl) o_S_Tab (opensF_nil _))).map (fun x => (⟨x.1⟩ : Db)) (fun a => rfl) (fun a h => h.1)
theorem o_Atom : Opens Tryz.prog 155 cAtom okAtom :=
  (opens_struct (P := Tryz.prog) (t := 155) (l := [(0, 9), (1, 26)]) (n := 2) (by kernel_rfl) (by kernel_rfl) (opensF_cons (k := 1) (by kernel_rfl) (fun _ => rfl) (opens_str (by kernel_rfl)) (opensF_cons (k := 1) (by kernel_rfl) (fun _ => rfl) o_S_I (opensF_nil _)))).map (fun x => (⟨x.1, x.2.1⟩ : Atom)) (fun a => rfl) (fun a h => ⟨h.1, h.2.1⟩)
theorem o_S_Atom : Opens Tryz.prog 25 (cS cAtom) (okS okAtom) :=
  (opens_slice (e := 155) (sz := 2) (by kernel_rfl) (by kernel_rfl) (by omega) (fun _ => rfl) o_Atom).map (fun s => s) (fun _ => rfl) (fun s h => ⟨h.2.1, fun a ha => h.2.2 a ha⟩)
theorem o_Query : Opens Tryz.prog 28 cQuery okQuery :=
  (opens_struct (P := Tryz.prog) (t := 28) (l := [(0, 3), (1, 25), (2, 26)]) (n := 3) (by kernel_rfl) (by kernel_rfl) (opensF_cons (k := 1) (by kernel_rfl) (fun _ => rfl) (opens_int (k := .i64) (by kernel_rfl)) (opensF_cons (k := 1) (by kernel_rfl) (fun _ => rfl) o_S_Atom (opensF_cons (k := 1) (by kernel_rfl) (fun _ => rfl) o_S_I (opensF_nil _))))).map (fun x => (⟨x.1, x.2.1, x.2.2.1⟩ : Query)) (fun a => rfl) (fun a h => ⟨trivial, h.2.1, h.2.2.1⟩)
theorem o_Delta : Opens Tryz.prog 33 cDelta okDelta :=
  (opens_struct (P := Tryz.prog) (t := 33) (l := [(0, 9), (1, 31), (3, 31)]) (n := 5) (by kernel_rfl) (by kernel_rfl) (opensF_cons (k := 1) (by kernel_rfl) (fun _ => rfl) (opens_str (by kernel_rfl)) (opensF_cons (k := 2) (by kernel_rfl) (fun _ => rfl) o_Reln (opensF_cons (k := 2) (by kernel_rfl) (fun _ => rfl) o_Reln (opensF_nil _))))).map (fun x => (⟨x.1, x.2.1, x.2.2.1⟩ : Delta)) (fun a => rfl) (fun a h => ⟨h.1, h.2.1, h.2.2.1⟩)
namespace atomDelta
theorem contract (H : Type) (enc : TypeId × Value → H) (W : World) (base : Nat) (args : Array Value) (ds gs : List (DataW H)) (before : List MemPlace)
    (hval : ∀ (j : Nat) t v, Tryz.f3.params[j]? = some t → args[j]? = some v → Value.okWide Tryz.prog W .any base t v)
    (hW : DataW.Whole enc Tryz.prog Tryz.f3.params.toList Rows.fnExactAtomDeltaSpec.vars false W args.toList ds gs before) (hz : 0 < W.heap.size) :
    Calls Tryz.prog 3 args W fun e W' => ∃ v, e = .returned v ∧ Rows.fnExactAtomDeltaSpec.post enc Tryz.prog Tryz.f3 false true false false W args v W' := by
  have hW' := hW
  obtain ⟨p, q, hA, hV, rfl, hfz, hnd⟩ := hW
  rw [Tryz.params3] at hA hval
  obtain ⟨v0, vs0, d0, ds0, p0, q0, hargs, rfl, rfl, t0, s0⟩ := trodAll_cons hA
  obtain ⟨v1, vs1, d1, ds1, p1, q1, rfl, rfl, rfl, t1, s1⟩ := trodAll_cons s0
  obtain ⟨v2, vs2, d2, ds2, p2, q2, rfl, rfl, rfl, t2, s2⟩ := trodAll_cons s1
  obtain ⟨v3, vs3, d3, ds3, p3, q3, rfl, rfl, rfl, t3, s3⟩ := trodAll_cons s2
  obtain ⟨rfl, rfl, rfl⟩ := trodAll_nil s3
  obtain rfl : args = #[v0, v1, v2, v3] := by cases args; simp_all
  obtain ⟨a0, h0, r0⟩ := arg_agg o_Db (l := [(0, 22)]) (by kernel_rfl) (hval 0 24 v0 rfl rfl) t0 hz
  obtain ⟨a1, h1, r1⟩ := arg_agg o_Query (l := [(0, 3), (1, 25), (2, 26)]) (by kernel_rfl) (hval 1 28 v1 rfl rfl) t1 hz
  obtain ⟨a2, h2, r2⟩ := arg_agg o_Delta (l := [(0, 9), (1, 31), (3, 31)]) (by kernel_rfl) (hval 2 33 v2 rfl rfl) t2 hz
  obtain ⟨a3, h3, r3⟩ := arg_int (k := .i64) (by kernel_rfl) (hval 3 3 v3 rfl rfl) t3
  refine row_of (b := 4) (by kernel_rfl) (of_decide_eq_true (by kernel_rfl)) rfl (fun ds h => ?_) (by kernel_rfl) (by kernel_rfl) hW' [.agg ((cDb a0).map V.d), .agg ((cQuery a1).map V.d), .agg ((cDelta a2).map V.d), .d (.int .i64 a3)] ⟨r0, r1, r2, r3, trivial⟩ rfl (w_laws_FnExactAtomDelta a0 a1 a2 a3 h0 h1 h2)
  match ds, h with
  | [d1, d2, d3, d4], _ => rfl

theorem lifted (os : Os) (started : os.Started) (H : Type) (enc : TypeId × Value → H) :
    ReturnsInHanded {} Tryz.checked os 3 .any (Rows.fnExactAtomDeltaSpec.pre6 enc Tryz.prog Tryz.f3 Rows.fnExactAtomDeltaRow.domain false) (Rows.fnExactAtomDeltaSpec.post enc Tryz.prog Tryz.f3 false true false false) := by
  refine returnsInHanded_of_change_shaped (C := Tryz.checked) (s := Rows.fnExactAtomDeltaSpec) ownKn started (by kernel_rfl) Tryz.func3
    (ChangeSpec.witness6 (enc := enc) (C := Tryz.checked) (s := Rows.fnExactAtomDeltaSpec) false ⟨#[], #[.agg #[.slice none 0 0], .agg #[.int .i64 0, .slice none 0 0, .slice none 0 0], .agg #[.string ⟨#[]⟩, .int .i64 0, .slice none 0 0, .int .i64 0, .slice none 0 0], .int .i64 0], []⟩ 8 (by kernel_rfl) (by kernel_rfl) (by kernel_rfl) (by kernel_rfl)) ?_
  intro W base args ds gs before hval hW _ _ hsh _
  exact contract H enc W base args ds gs before hval hW (heap_pos hsh)

theorem over : Rows.fnExactAtomDeltaRow.holds Tryz.pinned (OpenSpec.ofChange Rows.fnExactAtomDeltaSpec) :=
  OpenClaim.holds_of_wide 3 Tryz.f3 rfl rfl rfl rfl rfl rfl rfl ⟨rfl, rfl, rfl, rfl, rfl⟩ rfl rfl rfl rfl rfl (by kernel_rfl) Tryz.func3 (by kernel_rfl)
    (of_decide_eq_true (by kernel_rfl)) (by unfold Func.isWrapper; first | (rw [if_pos (by decide +kernel)]; kernel_rfl) | (rw [if_neg (by decide +kernel)]; exact ⟨rfl, rfl⟩))
    (fun os started H enc _ => lifted os started H enc)

theorem proved : Rows.FnExactAtomDeltaSaid := over
end atomDelta


end Go.Proofs.YtdnbigokdclclaaGreat

