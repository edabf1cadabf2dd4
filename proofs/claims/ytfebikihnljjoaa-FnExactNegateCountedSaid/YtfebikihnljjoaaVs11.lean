/-
  Vs11: a part of a proof of this seat: the value-level semantics of Go code without maps (Vs), its walk rules (Vt), the frame of a row (Vr), facts of types, schedules, walks. It holds of every program and state that its hypotheses name.
-/
import Derived.Test.YtfebikihnljjoaaVs10
set_option linter.unusedSimpArgs false
set_option linter.unusedVariables false
namespace Go.Vs
open Go.RowKit

section
variable {P : Program} {E : FuncId → Bool} {A0 : Env} {N : Nat} {w0 : World} {ρ : Nat → Option (Nat × Nat)} {σ : St} {a : Act} {w : World}
variable {S : Nat → Prop} {dst : Option Tmp} {ty : TypeId} {pos : String} {af : Array Edge} {gd : Option (Nat × Bool)}

theorem y_move (h : Rel A0 N w0 ρ σ a w) (x : Operand) : Yld P ρ σ (Sof A0 σ.B ρ σ.m w) a w ⟨dst, .move x, ty, pos, af, gd⟩ (σ.ev x) :=
  ⟨a.eval x, fun w' _ => by simp [execOp, Sem.run_pure], h.ev x⟩
theorem y_assign (h : Rel A0 N w0 ρ σ a w) (x : Operand) : Yld P ρ σ (Sof A0 σ.B ρ σ.m w) a w ⟨dst, .assign x, ty, pos, af, gd⟩ (σ.ev x) :=
  ⟨a.eval x, fun w' _ => by simp [execOp, Sem.run_pure], h.ev x⟩
theorem y_pick (h : Rel A0 N w0 ρ σ a w) (c x y : Operand) (h1 : isBool (σ.ev c) = true) :
    Yld P ρ σ (Sof A0 σ.B ρ σ.m w) a w ⟨dst, .pick c x y, ty, pos, af, gd⟩ (vite (getB (σ.ev c)) (σ.ev x) (σ.ev y)) := by
  have hc := VR_bool (h.ev c) h1
  refine ⟨if getB (σ.ev c) then a.eval x else a.eval y, fun w' _ => ?_, ?_⟩
  · simp [execOp, hc, asBool, Sem.run_bind, Sem.run_pure, Result.andThen]
  · unfold vite
    cases getB (σ.ev c)
    · exact h.ev y
    · exact h.ev x
theorem y_nilCheck (h : Rel A0 N w0 ρ σ a w) (x : Operand) (h1 : ptrOk σ.m (σ.ev x)) : Yld P ρ σ (Sof A0 σ.B ρ σ.m w) a w ⟨dst, .nilCheck x, ty, pos, af, gd⟩ (σ.ev x) := by
  obtain ⟨ad, hv, _⟩ := ptr_at h (h.ev x) h1
  refine ⟨a.eval x, fun w' _ => ?_, h.ev x⟩
  simp [execOp, hv, Sem.run_pure]
theorem y_binOp (h : Rel A0 N w0 ρ σ a w) (op : BinOp) (T T' : TypeId) (x y : Operand) (h1 : binOk op (σ.ev x) (σ.ev y)) (h2 : boolOk P T (σ.ev x)) :
    Yld P ρ σ (Sof A0 σ.B ρ σ.m w) a w ⟨dst, .binOp op T x y T', ty, pos, af, gd⟩ (.d (binD op (σ.ev x) (σ.ev y))) := by
  obtain ⟨hr, hp⟩ := bin_run (P := P) (ρ := ρ) (w := w) op T (Tx := x) (Ty := y) (h.ev x) (h.ev y) h1 h2
  refine ⟨sv (binD op (σ.ev x) (σ.ev y)), fun w' _ => ?_, by simpa only [VR] using sv_DR hp⟩
  have := hr w'
  simp only [execOp]
  rw [Sem.run_bind, this]
  rfl
theorem y_unOp (h : Rel A0 N w0 ρ σ a w) (op : UnOp) (T : TypeId) (x : Operand) (h1 : unOk op (σ.ev x)) :
    Yld P ρ σ (Sof A0 σ.B ρ σ.m w) a w ⟨dst, .unOp op T x, ty, pos, af, gd⟩ (.d (unD op (σ.ev x))) := by
  have hv := h.ev x
  revert h1 hv
  generalize σ.ev x = vx
  intro h1 hv
  unfold unOk at h1
  split at h1
  · simp only [VR] at hv
    generalize ha : a.eval x = va at hv
    cases hv
    refine ⟨.bool _, fun w' _ => ?_, by simpa only [VR, unD] using DR.bool _⟩
    simp [execOp, ha, Op.unary, Sem.run_bind, Sem.run_pure, Result.andThen]
  · simp only [VR] at hv
    generalize ha : a.eval x = va at hv
    cases hv
    refine ⟨.int _ _, fun w' _ => ?_, by simpa only [VR, unD] using DR.int _ _⟩
    simp [execOp, ha, Op.unary, Op.intArith, Sem.run_bind, Sem.run_pure, Result.andThen]
  · exact h1.elim

theorem y_extract (h : Rel A0 N w0 ρ σ a w) (x : Operand) (i : Nat) {vs : List V} (hx : σ.ev x = .tup vs) (hi : i < vs.length) :
    Yld P ρ σ (Sof A0 σ.B ρ σ.m w) a w ⟨dst, .extract x i, ty, pos, af, gd⟩ (vs.getD i .bad) := by
  have hv := h.ev x
  rw [hx] at hv
  simp only [VR] at hv
  obtain ⟨l, ha, hl⟩ := hv
  have hc : vs[i]? = some (vs.getD i .bad) := by simp [List.getD, List.getElem?_eq_getElem hi]
  obtain ⟨u, hu, hd⟩ := hl.get i _ hc
  refine ⟨u, fun w' _ => ?_, hd⟩
  simp [execOp, Instr.extract, ha, hu, Sem.run_bind, Sem.run_pure, Result.andThen]

theorem y_len (h : Rel A0 N w0 ρ σ a w) (x : Operand) (t : TypeId) (h1 : lnOk (σ.ev x) = true) (h2 : tstr P t = some (isStr (σ.ev x))) (h3 : ownOk σ (σ.ev x)) :
    Yld P ρ σ S a w ⟨dst, .call ⟨.builtin .len, #[x], #[t]⟩, ty, pos, af, gd⟩ (.d (.int .i64 (lnV (σ.ev x)))) := by
  have hv := h.ev x
  refine ⟨.int .i64 (lnV (σ.ev x)), fun w' _ => ?_, by simpa only [VR] using DR.int _ _⟩
  have key : ∀ (d : TypeDesc) (v : Value), P.underlying t = some d → a.eval x = v → (∀ w'', (Builtin.len_ #[t] ty #[v]).run P w'' = .ok (.int .i64 (lnV (σ.ev x))) w'') →
      (execOp a.eval ⟨dst, .call ⟨.builtin .len, #[x], #[t]⟩, ty, pos, af, gd⟩).run P w' = .ok (.value (.int .i64 (lnV (σ.ev x)))) w' := by
    intro d v _ hx hr
    simp [execOp, resolve, invoke, builtin, hx, hr, Sem.run_bind, Sem.run_pure, Result.andThen]
  cases hx : σ.ev x with
  | d y =>
    rw [hx] at hv h2 key
    simp only [VR] at hv
    generalize ha : a.eval x = va at hv
    cases hv with
    | str s =>
      have hu : P.underlying t = some .string := by unfold tstr at h2; simp only [isStr] at h2; split at h2 <;> simp_all
      refine key _ _ hu ha fun w'' => ?_
      have hsz : (⟨s.toArray⟩ : ByteArray).size = s.length := rfl
      simp [Builtin.len_, run_underlying hu, goInt, lnV, Sem.run_bind, Sem.run_pure, Result.andThen, hsz]
    | nil T =>
      have hu : ∃ e, P.underlying t = some (.slice e) := by unfold tstr at h2; simp only [isStr] at h2; split at h2 <;> simp_all
      obtain ⟨e, hu⟩ := hu
      refine key _ _ hu ha fun w'' => ?_
      simp [Builtin.len_, run_underlying hu, goInt, lnV, Sem.run_bind, Sem.run_pure, Result.andThen]
    | sl g T es ad cap sz vs =>
      have hu : ∃ e, P.underlying t = some (.slice e) := by unfold tstr at h2; simp only [isStr] at h2; split at h2 <;> simp_all
      obtain ⟨e, hu⟩ := hu
      refine key _ _ hu ha fun w'' => ?_
      simp [Builtin.len_, run_underlying hu, goInt, lnV, Sem.run_bind, Sem.run_pure, Result.andThen]
    | _ => rw [hx] at h1; simp [lnOk] at h1
  | own k lo n =>
    rw [hx] at hv h2 key
    have hu : ∃ e, P.underlying t = some (.slice e) := by unfold tstr at h2; simp only [isStr] at h2; split at h2 <;> simp_all
    obtain ⟨e, hu⟩ := hu
    rw [hx] at h3
    have hr := h3.1
    cases hm : σ.m k with
    | none => simp [hm, isRow] at hr
    | some b =>
      cases b with
      | box cs => simp [hm, isRow] at hr
      | row T sz es =>
        simp only [VR, hm] at hv
        obtain ⟨_, hv⟩ := hv
        have : ∃ ad c, a.eval x = .slice ad n c := by
          cases hr : ρ k with
          | none => rw [hr] at hv; obtain ⟨hv, rfl, _⟩ := hv; exact ⟨_, _, hv⟩
          | some p => obtain ⟨g, cap⟩ := p; rw [hr] at hv; obtain ⟨ad, c, hv, _⟩ := hv; exact ⟨_, _, hv⟩
        obtain ⟨ad, c, hv⟩ := this
        refine key _ _ hu hv fun w'' => ?_
        simp [Builtin.len_, run_underlying hu, goInt, lnV, Sem.run_bind, Sem.run_pure, Result.andThen]
  | _ => rw [hx] at h1; simp [lnOk] at h1

theorem y_max (h : Rel A0 N w0 ρ σ a w) (x y : Operand) (tys : Array TypeId) (h1 : kOf (σ.ev x) = some .i64) (h2 : kOf (σ.ev y) = some .i64) :
    Yld P ρ σ S a w ⟨dst, .call ⟨.builtin .max, #[x, y], tys⟩, ty, pos, af, gd⟩ (.d (.int .i64 (if getZ (σ.ev y) > getZ (σ.ev x) then getZ (σ.ev y) else getZ (σ.ev x)))) := by
  have hx := VR_int64 (h.ev x) h1
  have hy := VR_int64 (h.ev y) h2
  refine ⟨.int .i64 (if getZ (σ.ev y) > getZ (σ.ev x) then getZ (σ.ev y) else getZ (σ.ev x)), fun w' _ => ?_, by simpa only [VR] using DR.int _ _⟩
  simp [execOp, resolve, invoke, builtin, Builtin.max_, Builtin.max2, hx, hy, Sem.run_bind, Sem.run_pure, Result.andThen]
theorem y_min (h : Rel A0 N w0 ρ σ a w) (x y : Operand) (tys : Array TypeId) (h1 : kOf (σ.ev x) = some .i64) (h2 : kOf (σ.ev y) = some .i64) :
    Yld P ρ σ S a w ⟨dst, .call ⟨.builtin .min, #[x, y], tys⟩, ty, pos, af, gd⟩ (.d (.int .i64 (if getZ (σ.ev y) < getZ (σ.ev x) then getZ (σ.ev y) else getZ (σ.ev x)))) := by
  have hx := VR_int64 (h.ev x) h1
  have hy := VR_int64 (h.ev y) h2
  refine ⟨.int .i64 (if getZ (σ.ev y) < getZ (σ.ev x) then getZ (σ.ev y) else getZ (σ.ev x)), fun w' _ => ?_, by simpa only [VR] using DR.int _ _⟩
  simp [execOp, resolve, invoke, builtin, Builtin.min_, Builtin.min2, hx, hy, Sem.run_bind, Sem.run_pure, Result.andThen]
end
end Go.Vs
