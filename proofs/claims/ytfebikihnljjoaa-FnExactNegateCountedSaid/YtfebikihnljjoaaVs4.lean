/-
  Vs4: a part of a proof of this seat: the value-level semantics of Go code without maps (Vs), its walk rules (Vt), the frame of a row (Vr), facts of types, schedules, walks. It holds of every program and state that its hypotheses name.
-/
import Derived.Test.YtfebikihnljjoaaVs3
set_option linter.unusedSimpArgs false
set_option linter.unusedVariables false
namespace Go.Vs
section
variable {P : Program} {E : FuncId → Bool} {ops : Array Oper} {K : St → Prop} {r : List Oper} {σ : St} {dst : Option Tmp} {k d : Tmp} {ty : TypeId} {pos : String} {af : Array Edge}

theorem w_move (x : Operand) : vops P E ops K (⟨dst, .move x, ty, pos, af, none⟩ :: r) σ = vops P E ops K r (σ.put dst (σ.ev x)) := by simp [vops, vop, vpre, vnext, vval, veff, isPure]
theorem w_assign (x : Operand) : vops P E ops K (⟨dst, .assign x, ty, pos, af, none⟩ :: r) σ = vops P E ops K r (σ.put dst (σ.ev x)) := by simp [vops, vop, vpre, vnext, vval, veff, isPure]
theorem w_pick (c a b : Operand) : vops P E ops K (⟨dst, .pick c a b, ty, pos, af, none⟩ :: r) σ = (isBool (σ.ev c) = true ∧ vops P E ops K r (σ.put dst (vite (getB (σ.ev c)) (σ.ev a) (σ.ev b)))) := by simp [vops, vop, vpre, vnext, vval, veff, isPure]
theorem w_alloc (T : TypeId) : vops P E ops K (⟨some k, .alloc T, ty, pos, af, none⟩ :: r) σ = ((tzero P T).isSome = true ∧ vops P E ops K r ((σ.lay k (.box ((zrT P T).map .d))).put (some k) (.ptr k 0 0))) := by simp [vops, vop, vpre, vnext, vval, veff, isPure]
theorem w_box (T : TypeId) (x : Operand) : vops P E ops K (⟨some k, .box T x, ty, pos, af, none⟩ :: r) σ = (cellsOk σ.m (σ.ev x) ∧ vops P E ops K r ((σ.lay k (.box (σ.ev x).cells)).put (some k) (.ptr k 0 0))) := by simp [vops, vop, vpre, vnext, vval, veff, isPure]
theorem w_build (T : TypeId) (parts : Array (Nat × Operand)) : vops P E ops K (⟨dst, .build T parts, ty, pos, af, none⟩ :: r) σ = (((tzero P T).isSome = true ∧ tfld P T = true ∧ buildOk P T σ.m (parts.toList.map fun p => (p.1, σ.ev p.2)) ((zrT P T).map .d)) ∧
    vops P E ops K r (σ.put dst (.agg (buildC P T (parts.toList.map fun p => (p.1, σ.ev p.2)) ((zrT P T).map .d))))) := by simp [vops, vop, vpre, vnext, vval, veff, isPure]
theorem w_load (T : TypeId) (a : Operand) : vops P E ops K (⟨dst, .load T a, ty, pos, af, none⟩ :: r) σ = (((tsz P T).isSome = true ∧ (tagg P T).isSome = true ∧ ptrOk σ.m (σ.ev a) ∧ (if agB P T then szT P T else 1) ≤ (atP σ.m (σ.ev a)).length) ∧
    vops P E ops K r (σ.put dst (if agB P T then .agg ((atP σ.m (σ.ev a)).take (szT P T)) else hd (atP σ.m (σ.ev a))))) := by simp [vops, vop, vpre, vnext, vval, veff, isPure]
theorem w_nilCheck (x : Operand) : vops P E ops K (⟨dst, .nilCheck x, ty, pos, af, none⟩ :: r) σ = (ptrOk σ.m (σ.ev x) ∧ vops P E ops K r (σ.put dst (σ.ev x))) := by simp [vops, vop, vpre, vnext, vval, veff, isPure]
theorem w_binOp (op : BinOp) (T T' : TypeId) (x y : Operand) : vops P E ops K (⟨dst, .binOp op T x y T', ty, pos, af, none⟩ :: r) σ = ((binOk op (σ.ev x) (σ.ev y) ∧ boolOk P T (σ.ev x)) ∧ vops P E ops K r (σ.put dst (.d (binD op (σ.ev x) (σ.ev y))))) := by simp [vops, vop, vpre, vnext, vval, veff, isPure]
theorem w_unOp (op : UnOp) (T : TypeId) (x : Operand) : vops P E ops K (⟨dst, .unOp op T x, ty, pos, af, none⟩ :: r) σ = (unOk op (σ.ev x) ∧ vops P E ops K r (σ.put dst (.d (unD op (σ.ev x))))) := by simp [vops, vop, vpre, vnext, vval, veff, isPure]
theorem w_fieldAddr (s f : Nat) (x : Operand) : vops P E ops K (⟨dst, .fieldAddr s x f, ty, pos, af, none⟩ :: r) σ = (((foff P s f).isSome = true ∧ ptrOk σ.m (σ.ev x)) ∧ vops P E ops K r (σ.put dst (addP (foT P s f) (σ.ev x)))) := by simp [vops, vop, vpre, vnext, vval, veff, isPure]
theorem w_indexAddr (T : Nat) (x i : Operand) : vops P E ops K (⟨dst, .indexAddr T x i, ty, pos, af, none⟩ :: r) σ = (((tslice P T).isSome = true ∧ isInt (σ.ev i) = true ∧ idxOk σ.m (slT P T).2.1 (σ.ev x) (getZ (σ.ev i))) ∧ vops P E ops K r (σ.put dst (idxV (σ.ev x) (getZ (σ.ev i))))) := by simp [vops, vop, vpre, vnext, vval, veff, isPure]
theorem w_index (T : Nat) (x i : Operand) : vops P E ops K (⟨dst, .index T x i, ty, pos, af, none⟩ :: r) σ = ((tstr P T = some true ∧ isStr (σ.ev x) = true ∧ isInt (σ.ev i) = true ∧ 0 ≤ getZ (σ.ev i) ∧ (getZ (σ.ev i)).toNat < (strOf (σ.ev x)).length) ∧ vops P E ops K r (σ.put dst (.d (.int .u8 ((strOf (σ.ev x)).getD (getZ (σ.ev i)).toNat 0).toNat)))) := by simp [vops, vop, vpre, vnext, vval, veff, isPure]
theorem w_len (x : Operand) (t : TypeId) : vops P E ops K (⟨dst, .call ⟨.builtin .len, #[x], #[t]⟩, ty, pos, af, none⟩ :: r) σ = ((lnOk (σ.ev x) = true ∧ ownOk σ (σ.ev x) ∧ tstr P t = some (isStr (σ.ev x))) ∧
    vops P E ops K r (σ.put dst (.d (.int .i64 (lnV (σ.ev x)))))) := by simp [vops, vop, vpre, vnext, vval, veff, isPure]
theorem w_call (f : FuncId) (args : Array Operand) (tys : Array TypeId) : vops P E ops K (⟨dst, .call ⟨.value (.func f), args, tys⟩, ty, pos, af, none⟩ :: r) σ = vcallA P E f args.toList (args.toList.map σ.ev) dst (vops P E ops K r) σ := by simp [vops, vop, vpre, vnext, vval, veff, isPure]

theorem t_nil : vtr P E ops K .nil σ = K σ := rfl
theorem t_seq (l : List Nat) (t : Tr) : vtr P E ops K (.seq l t) σ = vops P E ops (vtr P E ops K t) (pick ops l) σ := rfl
theorem t_both (t u : Tr) : vtr P E ops K (.both t u) σ = (vtr P E ops K t σ ∧ vtr P E ops K u σ) := rfl
theorem pick_nil : pick ops [] = [] := rfl
theorem pick_cons (i : Nat) (l : List Nat) : pick ops (i :: l) = ops.getD i default :: pick ops l := rfl
theorem put_some (v : V) : σ.put (some d) v = ⟨σ.B, σ.hs, σ.W, upd σ.t d v, σ.m⟩ := rfl
theorem put_none (v : V) : σ.put none v = σ := rfl
theorem ev_tmp (B hs : Nat) (W : List Nat) (t : Nat → V) (m : Nat → Option Blk) (i : Nat) : (St.mk B hs W t m).ev (.tmp i) = t i := rfl
theorem ev_const (v : Value) : σ.ev (.const v) = constV v := rfl
end
end Go.Vs
