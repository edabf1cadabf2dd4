/-
  Vs23: a part of a proof of this seat: the value-level semantics of Go code without maps (Vs), its walk rules (Vt), the frame of a row (Vr), facts of types, schedules, walks. It holds of every program and state that its hypotheses name.
-/
import Derived.Test.YtfebikihnljjoaaVs22
set_option linter.unusedSimpArgs false
set_option linter.unusedVariables false
namespace Go.Vs
section
variable {P : Program} {E : FuncId → Bool} {ops : Array Oper} {K : St → Prop} {r : List Oper} {σ : St} {dst : Option Tmp} {k d : Tmp} {ty : TypeId} {pos : String} {af : Array Edge} {sch : Nat → Tr} {Q : Exit → St → Prop}

def guardV (ops : Array Oper) (σ : St) (j : Nat) : V := match (ops[j]?).bind (·.dst) with | some d => σ.t d | none => .bad
def vguard (g : V) (want : Bool) (X Y : Prop) : Prop :=
  match g with
  | .d (.bool b) => (b = want → X) ∧ ((!(b == want)) = true → Y)
  | .tup [] => Y
  | _ => False

theorem vop_guard {op : Op} {g : Option (Nat × Bool)} : vop P E ⟨dst, op, ty, pos, af, g⟩ K σ = vop P E ⟨dst, op, ty, pos, af, none⟩ K σ := by
  cases op <;> rfl

theorem w_guard {op : Op} (j : Nat) (want : Bool) : vops P E ops K (⟨dst, op, ty, pos, af, some (j, want)⟩ :: r) σ =
    vguard (guardV ops σ j) want (vops P E ops K (⟨dst, op, ty, pos, af, none⟩ :: r) σ) (vops P E ops K r (σ.put dst (.tup []))) := by
  simp only [vops, vguard, guardV]
  rw [vop_guard]
  cases h : (ops[j]?).bind (·.dst) with
  | none => rfl
  | some d =>
    simp only
    split <;> simp_all

theorem vguard_b (b want : Bool) (X Y : Prop) : vguard (.d (.bool b)) want X Y = ((b = want → X) ∧ ((!(b == want)) = true → Y)) := rfl
theorem vguard_t (want : Bool) (X Y : Prop) : vguard (.tup []) want X Y = Y := rfl

theorem w_bs0 (T n : Nat) (parts : Array (Nat × Operand)) (hk : keysVL (allC (parts.toList.map fun p => σ.ev p.2)) = []) : vops P E ops K (⟨some k, .buildSlice T n parts, ty, pos, af, none⟩ :: r) σ =
    (((tslice P T).isSome = true ∧ n * (slT P T).2.1 ≤ 16777216 ∧ parts.size = n ∧ partsOk σ (slT P T).2.1 0 parts.toList ∧ (allC (parts.toList.map fun p => σ.ev p.2)).all isD = true) ∧
        vops P E ops K r ((σ.lay k (.row (slT P T).1 (slT P T).2.1 (chunk (slT P T).2.1 n ((allC (parts.toList.map fun p => σ.ev p.2)).map dD)))).put (some k) (.own k 0 n))) := by
  simp only [vops, vop, hk]
  simp [vpre, vnext, veff, isPure]
theorem w_bs1 (T n k' : Nat) (ks : List Nat) (parts : Array (Nat × Operand)) (hk : keysVL (allC (parts.toList.map fun p => σ.ev p.2)) = k' :: ks) : vops P E ops K (⟨some k, .buildSlice T n parts, ty, pos, af, none⟩ :: r) σ =
    ∀ γ hs', σ.hs ≤ hs' → Gam σ γ hs' → vpre P ⟨some k, .buildSlice T n parts, ty, pos, af, none⟩ ({ σ with hs := hs' }.frzs γ (k' :: ks)) ∧ vops P E ops K r (vnext P ⟨some k, .buildSlice T n parts, ty, pos, af, none⟩ ({ σ with hs := hs' }.frzs γ (k' :: ks))) := by
  simp only [vops, vop, hk]
theorem w_makeSlice (T : Nat) (l c : Operand) : vops P E ops K (⟨some k, .makeSlice T l c, ty, pos, af, none⟩ :: r) σ =
    (((tslice P T).isSome = true ∧ (tzero P (slT P T).1).isSome = true ∧ kOf (σ.ev l) = some .i64 ∧ kOf (σ.ev c) = some .i64 ∧ getZ (σ.ev c) = getZ (σ.ev l) ∧ 0 ≤ getZ (σ.ev l) ∧ LenOk (slT P T).2.2 (getZ (σ.ev l)).toNat) ∧
      vops P E ops K r ((σ.lay k (.row (slT P T).1 (slT P T).2.1 (List.replicate (getZ (σ.ev l)).toNat (zrT P (slT P T).1)))).put (some k) (.own k 0 (getZ (σ.ev l)).toNat))) := by
  simp [vops, vop, vpre, vnext, veff, isPure]
theorem w_append (s x : Operand) (t : TypeId) : vops P E ops K (⟨some k, .call ⟨.builtin .append, #[s, x], #[t, t]⟩, ty, pos, af, none⟩ :: r) σ =
    (appOk P t σ (σ.ev s) (σ.ev x) ∧ vops P E ops K r (appSt P t σ (some k) (σ.ev s) (σ.ev x))) := by
  have e0 : #[s, x].getD 0 default = s := rfl
  have e1 : #[s, x].getD 1 default = x := rfl
  have e2 : #[t, t].getD 0 0 = t := rfl
  have e3 : #[t, t].getD 1 0 = t := rfl
  simp [vops, vop, vpre, vnext, veff, isPure]
theorem w_slice (T : Nat) (x : Operand) (lo hi : Option Operand) : vops P E ops K (⟨dst, .slice T x lo hi none, ty, pos, af, none⟩ :: r) σ =
    ((tstr P T = some (isStr (σ.ev x)) ∧ lnOk (σ.ev x) = true ∧ bdOk σ lo ∧ bdOk σ hi ∧ loB σ lo ≤ hiB σ (σ.ev x) hi ∧ hiB σ (σ.ev x) hi ≤ lnV (σ.ev x) ∧ cutOk P T σ.m (σ.ev x)) ∧
      vops P E ops K r (σ.put dst (cutV (σ.ev x) (loB σ lo) (hiB σ (σ.ev x) hi)))) := by
  simp [vops, vop, vpre, vnext, vval, isPure]
theorem w_convert (s t : Nat) (x : Operand) : vops P E ops K (⟨dst, .convert s t x, ty, pos, af, none⟩ :: r) σ = (convOk P s t σ (σ.ev x) ∧ vops P E ops K r (σ.put dst (convV P t σ (σ.ev x)))) := by
  simp [vops, vop, vpre, vnext, vval, isPure]
theorem w_extract (x : Operand) (i : Nat) : vops P E ops K (⟨dst, .extract x i, ty, pos, af, none⟩ :: r) σ = (tupOk (σ.ev x) i ∧ vops P E ops K r (σ.put dst (tupAt (σ.ev x) i))) := by
  simp [vops, vop, vpre, vnext, vval, isPure]
theorem w_max (x y : Operand) (tys : Array TypeId) : vops P E ops K (⟨dst, .call ⟨.builtin .max, #[x, y], tys⟩, ty, pos, af, none⟩ :: r) σ =
    ((kOf (σ.ev x) = some .i64 ∧ kOf (σ.ev y) = some .i64) ∧ vops P E ops K r (σ.put dst (.d (.int .i64 (if getZ (σ.ev y) > getZ (σ.ev x) then getZ (σ.ev y) else getZ (σ.ev x)))))) := by
  simp [vops, vop, vpre, vnext, vval, isPure]
theorem w_min (x y : Operand) (tys : Array TypeId) : vops P E ops K (⟨dst, .call ⟨.builtin .min, #[x, y], tys⟩, ty, pos, af, none⟩ :: r) σ =
    ((kOf (σ.ev x) = some .i64 ∧ kOf (σ.ev y) = some .i64) ∧ vops P E ops K r (σ.put dst (.d (.int .i64 (if getZ (σ.ev y) < getZ (σ.ev x) then getZ (σ.ev y) else getZ (σ.ev x)))))) := by
  simp [vops, vop, vpre, vnext, vval, isPure]

theorem w_store' (T : TypeId) (a x : Operand) : vops P E ops K (⟨dst, .store T a x, ty, pos, af, none⟩ :: r) σ = (stOk P T σ (σ.ev a) (σ.ev x) ∧ vops P E ops K r (stSt σ dst (σ.ev a) (σ.ev x))) := by
  simp [vops, vop, vpre, vnext, veff, isPure]

/-! ### states written out -/
variable {B hs : Nat} {W : List Nat} {t : Nat → V} {m : Nat → Option Blk}
theorem x_put (v : V) : (St.mk B hs W t m).put (some d) v = St.mk B hs W (upd t d v) m := rfl
theorem x_lay (b : Blk) : (St.mk B hs W t m).lay k b = St.mk B hs W (mapV (wipe k) t) (upd (mapM (wipe k) m) k (some (b.map (wipe k)))) := rfl
theorem x_mapV (f : V → V) (v : V) : mapV f (upd t d v) = upd (mapV f t) d (f v) := by
  funext i; simp only [mapV, upd]; split <;> rfl
theorem x_mapM (f : V → V) (b : Option Blk) : mapM f (upd m d b) = upd (mapM f m) d (b.map (Blk.map f)) := by
  funext i; simp only [mapM, upd]; split <;> rfl
theorem x_mapM0 (f : V → V) : mapM f (fun _ => none) = fun _ => none := rfl
end
end Go.Vs
