/-
  Q1A3: a part of a proof of this seat: the value-level semantics of Go code without maps, its walk rules, the frame of a row, facts of types, schedules, walks, plain lemmas (Vs23 Vt1 Vt2 Vt3 Ty Vt4 Vt5 Vt6 Vt7 Vt8 Vg Pl3 Pl4 Pl5 Pl6 All Pl7 Pl8 Pl9 Pl10 Pl11 Pl12 Pl13 Pl14 Pl15 Pl16 Pl17 Pl21 Pl22 Pl23 Pl24 Pl25 Pl26 Pl27 Pl28 Pl29 Pl30). It holds of every program and state that its hypotheses name.
-/
import Derived.Test.YtepiehnhajnebaaQ1A2
set_option linter.unusedSimpArgs false
set_option linter.unusedVariables false
set_option linter.unnecessarySimpa false
namespace Go.Vs
section
variable {P : Program} {E : Md} {ops : Array Oper} {K : St → Prop} {r : List Oper} {σ : St} {dst : Option Tmp} {k d : Tmp} {ty : TypeId} {pos : String} {af : Array Edge} {sch : Nat → Tr} {Q : Exit → St → Prop}

def guardV (ops : Array Oper) (σ : St) (j : Nat) : V := match (ops[j]?).bind (·.dst) with | some d => σ.t d | none => .bad
def vguard (g : V) (want : Bool) (X Y : Prop) : Prop :=
  match g with
  | .d (.bool b) => (b = want → X) ∧ ((!(b == want)) = true → Y)
  | .tup [] => Y
  | _ => False

theorem vop_guard {op : Op} {g : Option (Nat × Bool)} : vop P E ⟨dst, op, ty, pos, af, g⟩ K σ = vop P E ⟨dst, op, ty, pos, af, none⟩ K σ := by
  cases op <;> rfl

theorem w_guard {op : Op} (j : Nat) (want : Bool) : vops P E ops K (⟨dst, op, ty, pos, af, some (j, want)⟩ :: r) σ =
    vguard (guardV ops σ j) want (vops P E ops K (⟨dst, op, ty, pos, af, none⟩ :: r) σ) (vops P E ops K r (σ.put dst (.tup []))) := by
  simp only [vops, vguard, guardV]
  rw [vop_guard]
  cases h : (ops[j]?).bind (·.dst) with
  | none => rfl
  | some d =>
    simp only
    split <;> simp_all

theorem w_bs0 (T n : Nat) (parts : Array (Nat × Operand)) (hk : keysVL (allC (parts.toList.map fun p => σ.ev p.2)) = []) : vops P E ops K (⟨some k, .buildSlice T n parts, ty, pos, af, none⟩ :: r) σ =
    (((tslice P T).isSome = true ∧ n * (slT P T).2.1 ≤ 16777216 ∧ parts.size = n ∧ partsOk σ (slT P T).2.1 0 parts.toList ∧ (allC (parts.toList.map fun p => σ.ev p.2)).all isD = true) ∧
        vops P E ops K r ((σ.lay k (.row (slT P T).1 (slT P T).2.1 (chunk (slT P T).2.1 n ((allC (parts.toList.map fun p => σ.ev p.2)).map dD)))).put (some k) (.own k 0 n))) := by
  simp only [vops, vop, hk]
  simp [vpre, vnext, veff, isPure]
theorem w_bs1 (T n k' : Nat) (ks : List Nat) (parts : Array (Nat × Operand)) (hE : E.p = false) (hk : keysVL (allC (parts.toList.map fun p => σ.ev p.2)) = k' :: ks) : vops P E ops K (⟨some k, .buildSlice T n parts, ty, pos, af, none⟩ :: r) σ =
    ∀ γ hs', σ.hs ≤ hs' → Gam σ γ hs' → vpre P ⟨some k, .buildSlice T n parts, ty, pos, af, none⟩ ({ σ with hs := hs' }.frzs γ (k' :: ks)) ∧ vops P E ops K r (vnext P ⟨some k, .buildSlice T n parts, ty, pos, af, none⟩ ({ σ with hs := hs' }.frzs γ (k' :: ks))) := by
  simp [vops, vop, hk, hE]
/-- rows of ours in a slice literal: they become data known by elements only -/
theorem w_bsP (T n : Nat) (parts : Array (Nat × Operand)) (hE : E.p = true) : vops P E ops K (⟨some k, .buildSlice T n parts, ty, pos, af, none⟩ :: r) σ =
    (((tslice P T).isSome = true ∧ n * (slT P T).2.1 ≤ 16777216 ∧ parts.size = n ∧ partsOk (σ.frps (keysVL (allC (parts.toList.map fun p => σ.ev p.2)))) (slT P T).2.1 0 parts.toList ∧ (allC (parts.toList.map fun p => (σ.frps (keysVL (allC (parts.toList.map fun p => σ.ev p.2)))).ev p.2)).all isD = true) ∧
        vops P E ops K r (((σ.frps (keysVL (allC (parts.toList.map fun p => σ.ev p.2)))).lay k (.row (slT P T).1 (slT P T).2.1 (chunk (slT P T).2.1 n ((allC (parts.toList.map fun p => (σ.frps (keysVL (allC (parts.toList.map fun p => σ.ev p.2)))).ev p.2)).map dD)))).put (some k) (.own k 0 n))) := by
  cases hk : keysVL (allC (parts.toList.map fun p => σ.ev p.2)) with
  | nil =>
    rw [w_bs0 T n parts hk]
    rfl
  | cons k' ks =>
    simp [vops, vop, hk, hE, vpre, vnext, veff, isPure]
theorem w_makeSlice (T : Nat) (l c : Operand) : vops P E ops K (⟨some k, .makeSlice T l c, ty, pos, af, none⟩ :: r) σ =
    (((tslice P T).isSome = true ∧ (tzero P (slT P T).1).isSome = true ∧ kOf (σ.ev l) = some .i64 ∧ kOf (σ.ev c) = some .i64 ∧ getZ (σ.ev c) = getZ (σ.ev l) ∧ 0 ≤ getZ (σ.ev l) ∧ LenOk (slT P T).2.2 (getZ (σ.ev l)).toNat) ∧
      vops P E ops K r ((σ.lay k (.row (slT P T).1 (slT P T).2.1 (List.replicate (getZ (σ.ev l)).toNat (zrT P (slT P T).1)))).put (some k) (.own k 0 (getZ (σ.ev l)).toNat))) := by
  simp [vops, vop, vpre, vnext, veff, isPure]
theorem w_append (s x : Operand) (t : TypeId) : vops P E ops K (⟨some k, .call ⟨.builtin .append, #[s, x], #[t, t]⟩, ty, pos, af, none⟩ :: r) σ =
    (appOk P t σ (σ.ev s) (σ.ev x) ∧ vops P E ops K r (appSt P t σ (some k) (σ.ev s) (σ.ev x))) := by
  have e0 : #[s, x].getD 0 default = s := rfl
  have e1 : #[s, x].getD 1 default = x := rfl
  have e2 : #[t, t].getD 0 0 = t := rfl
  have e3 : #[t, t].getD 1 0 = t := rfl
  simp [vops, vop, vpre, vnext, veff, isPure]
theorem w_slice (T : Nat) (x : Operand) (lo hi : Option Operand) : vops P E ops K (⟨dst, .slice T x lo hi none, ty, pos, af, none⟩ :: r) σ =
    ((tstr P T = some (isStr (σ.ev x)) ∧ lnOk (σ.ev x) = true ∧ bdOk σ lo ∧ bdOk σ hi ∧ loB σ lo ≤ hiB σ (σ.ev x) hi ∧ hiB σ (σ.ev x) hi ≤ lnV (σ.ev x) ∧ cutOk P T σ.m (σ.ev x)) ∧
      vops P E ops K r (σ.put dst (cutV (σ.ev x) (loB σ lo) (hiB σ (σ.ev x) hi)))) := by
  simp [vops, vop, vpre, vnext, vval, isPure]
theorem w_convert (s t : Nat) (x : Operand) : vops P E ops K (⟨dst, .convert s t x, ty, pos, af, none⟩ :: r) σ = (convOk P s t σ (σ.ev x) ∧ vops P E ops K r (σ.put dst (convV P t σ (σ.ev x)))) := by
  simp [vops, vop, vpre, vnext, vval, isPure]
theorem w_extract (x : Operand) (i : Nat) : vops P E ops K (⟨dst, .extract x i, ty, pos, af, none⟩ :: r) σ = (tupOk (σ.ev x) i ∧ vops P E ops K r (σ.put dst (tupAt (σ.ev x) i))) := by
  simp [vops, vop, vpre, vnext, vval, isPure]
theorem w_max (x y : Operand) (tys : Array TypeId) : vops P E ops K (⟨dst, .call ⟨.builtin .max, #[x, y], tys⟩, ty, pos, af, none⟩ :: r) σ =
    ((kOf (σ.ev x) = some .i64 ∧ kOf (σ.ev y) = some .i64) ∧ vops P E ops K r (σ.put dst (.d (.int .i64 (if getZ (σ.ev y) > getZ (σ.ev x) then getZ (σ.ev y) else getZ (σ.ev x)))))) := by
  simp [vops, vop, vpre, vnext, vval, isPure]
theorem w_min (x y : Operand) (tys : Array TypeId) : vops P E ops K (⟨dst, .call ⟨.builtin .min, #[x, y], tys⟩, ty, pos, af, none⟩ :: r) σ =
    ((kOf (σ.ev x) = some .i64 ∧ kOf (σ.ev y) = some .i64) ∧ vops P E ops K r (σ.put dst (.d (.int .i64 (if getZ (σ.ev y) < getZ (σ.ev x) then getZ (σ.ev y) else getZ (σ.ev x)))))) := by
  simp [vops, vop, vpre, vnext, vval, isPure]

theorem w_store' (T : TypeId) (a x : Operand) : vops P E ops K (⟨dst, .store T a x, ty, pos, af, none⟩ :: r) σ = (stOk P T σ (σ.ev a) (σ.ev x) ∧ vops P E ops K r (stSt σ dst (σ.ev a) (σ.ev x))) := by
  simp [vops, vop, vpre, vnext, veff, isPure]

/-! ### states written out -/
variable {B hs : Nat} {W : List Nat} {t : Nat → V} {m : Nat → Option Blk}
theorem x_put (v : V) : (St.mk B hs W t m).put (some d) v = St.mk B hs W (upd t d v) m := rfl
theorem x_lay (b : Blk) : (St.mk B hs W t m).lay k b = St.mk B hs W (mapV (wipe k) t) (upd (mapM (wipe k) m) k (some (b.map (wipe k)))) := rfl
theorem x_mapV (f : V → V) (v : V) : mapV f (upd t d v) = upd (mapV f t) d (f v) := by
  funext i; simp only [mapV, upd]; split <;> rfl
theorem x_mapM (f : V → V) (b : Option Blk) : mapM f (upd m d b) = upd (mapM f m) d (b.map (Blk.map f)) := by
  funext i; simp only [mapM, upd]; split <;> rfl
theorem x_mapM0 (f : V → V) : mapM f (fun _ => none) = fun _ => none := rfl
end
end Go.Vs


namespace Go.Vs

theorem w_condT {P : Program} {E : Md} {sch : Nat → Tr} {Q : Exit → St → Prop} {σ : St} (c : Operand) (x y : Code) (_ : E.p = false) : vwp P E sch (.cond c x y) Q σ = (isBool (σ.ev c) = true ∧ (getB (σ.ev c) = true → vwp P E sch x Q σ) ∧ (getB (σ.ev c) = false → vwp P E sch y Q σ)) := rfl
theorem w_cond' {P : Program} {E : Md} {sch : Nat → Tr} {Q : Exit → St → Prop} {σ : St} (c : Operand) (x y : Code) (_ : E.p = true) : vwp P E sch (.cond c x y) Q σ = (isBool (σ.ev c) = true ∧ if getB (σ.ev c) = true then vwp P E sch x Q σ else vwp P E sch y Q σ) := by
  rw [w_cond]
  cases getB (σ.ev c) <;> simp
attribute [simp] w_seq w_skip w_region w_draw w_cond' w_condT w_block w_loop w_exit w_ret o_nil thenV_n thenV_e thenV_r inB_n inB_e inB_r
  w_move w_assign w_pick w_alloc w_box w_build w_load w_nilCheck w_binOp w_unOp w_fieldAddr w_field w_indexAddr w_index w_len w_call w_bs0 w_makeSlice w_append w_slice w_convert w_extract w_max w_min w_store'
  t_nil t_seq t_both pick_nil pick_cons x_put put_none x_lay x_mapV x_mapM x_mapM0 ev_tmp ev_const
attribute [simp] lstD getB isBool getZ isInt getL getC isBox isRow szOf tyOf elV elOk lnV lnOk agB szT foT slT zrT atP ptrOk hd binD binOk boolOk fldV fldOk kdV eqC eqCL kdL unD unOk kOf addP idxV idxOk strOf isStr cutV cutOk live cellsOk
  buildC buildOk allC partsOk dD isD appOk appSt stOk stSt convOk convV tupAt tupOk loB hiB bdOk ownOk vite constV upd_apply Blk.map wipe wipeL V.cells V.one splice chunk guardV keysVL V.keys rdL rd thenV inBlockV loopV vret vend vretN vendN resV resOk oneV V.ids idsVL D.ids

def gT (g : V) (want : Bool) : Bool := match g with | .d (.bool b) => b == want | _ => false
def gF (g : V) (want : Bool) : Bool := match g with | .d (.bool b) => !(b == want) | .tup [] => true | _ => false
@[simp] theorem gT_b (b want : Bool) : gT (.d (.bool b)) want = (b == want) := rfl
@[simp] theorem gF_b (b want : Bool) : gF (.d (.bool b)) want = !(b == want) := rfl
@[simp] theorem gT_t (want : Bool) : gT (.tup []) want = false := rfl
@[simp] theorem gF_t (want : Bool) : gF (.tup []) want = true := rfl
@[simp] theorem guardV_mk (ops : Array Oper) (σ : St) (j : Nat) : guardV ops σ j = match (ops[j]?).bind (·.dst) with | some d => σ.t d | none => .bad := rfl
@[simp] theorem w_guard2 {P : Program} {E : Md} {ops : Array Oper} {K : St → Prop} {σ : St} {dst : Option Tmp} {ty : TypeId} {pos : String} {af : Array Edge} {r : List Oper} {op : Op} (j : Nat) (want : Bool) : vops P E ops K (⟨dst, op, ty, pos, af, some (j, want)⟩ :: r) σ =
    if gT (guardV ops σ j) want = true then vops P E ops K (⟨dst, op, ty, pos, af, none⟩ :: r) σ else if gF (guardV ops σ j) want = true then vops P E ops K r (σ.put dst (.tup [])) else False := by
  rw [w_guard]
  generalize guardV ops σ j = g
  cases g with
  | d x =>
    cases x with
    | bool b => cases b <;> cases want <;> simp [vguard, gT, gF]
    | _ => simp [vguard, gT, gF]
  | tup l => cases l <;> simp [vguard, gT, gF]
  | _ => simp [vguard, gT, gF]

@[simp] theorem start1 (a : V) (B : Nat) : St.start [a] B = ⟨B, B, [], upd (fun _ => .tup []) 0 a, fun _ => none⟩ := by
  simp only [St.start, St.mk.injEq, true_and, and_true]
  funext i; match i with | 0 => rfl | _ + 1 => rfl
@[simp] theorem start2 (a b : V) (B : Nat) : St.start [a, b] B = ⟨B, B, [], upd (upd (fun _ => .tup []) 1 b) 0 a, fun _ => none⟩ := by
  simp only [St.start, St.mk.injEq, true_and, and_true]
  funext i; match i with | 0 => rfl | 1 => rfl | _ + 2 => rfl
@[simp] theorem start3 (a b c : V) (B : Nat) : St.start [a, b, c] B = ⟨B, B, [], upd (upd (upd (fun _ => .tup []) 2 c) 1 b) 0 a, fun _ => none⟩ := by
  simp only [St.start, St.mk.injEq, true_and, and_true]
  funext i; match i with | 0 => rfl | 1 => rfl | 2 => rfl | _ + 3 => rfl
@[simp] theorem start4 (a b c d : V) (B : Nat) : St.start [a, b, c, d] B = ⟨B, B, [], upd (upd (upd (upd (fun _ => .tup []) 3 d) 2 c) 1 b) 0 a, fun _ => none⟩ := by
  simp only [St.start, St.mk.injEq, true_and, and_true]
  funext i; match i with | 0 => rfl | 1 => rfl | 2 => rfl | 3 => rfl | _ + 4 => rfl
@[simp] theorem x_mapV0 (k : Nat) : mapV (wipe k) (fun _ => V.tup []) = fun _ => V.tup [] := by
  funext i; simp [mapV, wipe, wipeL]

/-- a slice as data: its block, whether it is a whole row, its elements -/
structure Sl (α : Type) where
  id : Option Nat
  T : Option (TypeId × Nat)
  xs : List α
instance {α : Type} : Inhabited (Sl α) := ⟨⟨none, none, []⟩⟩

def dSl {α : Type} (f : α → List D) (s : Sl α) : D := .sl s.id s.T (s.xs.map f)
/-- '[]int' -/
abbrev Ints := Sl Int
def cI (n : Int) : List D := [.int .i64 n]
/-- slices of slices -/
def cS {α : Type} (c : α → List D) (s : Sl α) : List D := [dSl c s]
/-- '[][]int' -/
abbrev Rows := Sl Ints
def Rows.pl (a : Rows) : List (List Int) := a.xs.map (·.xs)

@[simp] theorem getD_map_lt {α β : Type} [Inhabited α] (f : α → β) (l : List α) (i : Nat) (d : β) (h : i < l.length) : (l.map f).getD i d = f (l.getD i default) := by
  simp [List.getD, List.getElem?_eq_getElem h]
theorem wrap64_of {n : Int} (h1 : -9223372036854775808 ≤ n) (h2 : n ≤ 9223372036854775807) : IntKind.i64.wrap n = n := by
  rw [IntKind.wrap_i64]; omega

def sumW {α : Type} (w : α → Nat) (l : List α) : Nat := (l.map w).sum
@[simp] theorem sumW_nil {α : Type} (w : α → Nat) : sumW w [] = 0 := rfl
@[simp] theorem sumW_cons {α : Type} (w : α → Nat) (a : α) (l : List α) : sumW w (a :: l) = w a + sumW w l := by simp [sumW]
/-- what is frozen at a return or a call lies in a block of our own -/
theorem gam_at {σ : St} {γ : Nat → Option Nat} {hs' k T sz : Nat} {es : List (List D)} (hg : Gam σ γ hs') (hm : σ.m k = some (.row T sz es)) : (∀ g, γ k = some g → σ.B ≤ g ∧ g < hs') ∧ (es ≠ [] → γ k ≠ none) :=
  ⟨fun g h => ⟨(hg.fr k T sz es g hm h).1.lo, (hg.fr k T sz es g hm h).2⟩, fun hne h => by obtain ⟨g, h'⟩ := hg.some k T sz es hm hne; rw [h] at h'; cases h'⟩

/-- a row that is filled up to place i -/
def fill (z : List D) (l : List (List D)) (i : Nat) : List (List D) := l.take i ++ List.replicate (l.length - i) z
@[simp] theorem fill_length (z : List D) (l : List (List D)) (i : Nat) : (fill z l i).length = l.length := by
  simp [fill]; omega
@[simp] theorem fill_zero (z : List D) (l : List (List D)) : fill z l 0 = List.replicate l.length z := by simp [fill]
theorem fill_at (z : List D) (l : List (List D)) (k j : Nat) : (fill z l k)[j]? = if j < k then l[j]? else if j < l.length then some z else none := by
  simp only [fill, List.getElem?_append, List.length_take, List.getElem?_take, List.getElem?_replicate]
  by_cases hjk : j < k
  · by_cases hjl : j < l.length
    · rw [if_pos (by omega), if_pos hjk, if_pos hjk]
    · have h1 : ¬ j < min k l.length := by omega
      have h2 : ¬ j - min k l.length < l.length - k := by omega
      rw [if_neg h1, if_neg h2, if_pos hjk, List.getElem?_eq_none (by omega)]
  · have h1 : ¬ j < min k l.length := by omega
    rw [if_neg h1, if_neg hjk]
    by_cases hjl : j < l.length
    · have h2 : j - min k l.length < l.length - k := by omega
      rw [if_pos h2, if_pos hjl]
    · have h2 : ¬ j - min k l.length < l.length - k := by omega
      rw [if_neg h2, if_neg hjl]
@[simp] theorem fill_get {z : List D} {l : List (List D)} {i : Nat} (h : i < l.length) : (fill z l i)[i]? = some z := by
  rw [fill_at, if_neg (Nat.lt_irrefl i), if_pos h]
@[simp] theorem fill_getElem {z : List D} {l : List (List D)} {i : Nat} (h : i < (fill z l i).length) : (fill z l i)[i] = z := by
  have h1 := List.getElem?_eq_getElem h
  rw [fill_get (by simpa using h)] at h1
  exact (Option.some.inj h1).symm
/-! ### what follows from what holds behind -/
theorem vcall_mono {P : Program} {f : FuncId} {vs : List V} {dst : Option Tmp} {K K' : St → Prop} {σ : St} (hk : ∀ σ, K σ → K' σ) (h : vcall P f vs dst K σ) : vcall P f vs dst K' σ := by
  unfold vcall at *
  split at h
  · obtain ⟨h1, post, h2, h3⟩ := h
    exact ⟨h1, post, h2, fun r n hs' a b c d => hk _ (h3 r n hs' a b c d)⟩
  · intro γ n a b
    obtain ⟨As, post, h1, h2, h3⟩ := h γ n a b
    exact ⟨As, post, h1, h2, fun r hs' a b c => ⟨(h3 r hs' a b c).1, (h3 r hs' a b c).2.1, hk _ (h3 r hs' a b c).2.2⟩⟩
theorem vcallP_mono {P : Program} {f : FuncId} {vs : List V} {dst : Option Tmp} {K K' : St → Prop} {σ : St} (hk : ∀ σ, K σ → K' σ) (h : vcallP P f vs dst K σ) : vcallP P f vs dst K' σ := by
  obtain ⟨As, post, h1, h2, h3⟩ := h
  refine ⟨As, post, h1, h2, ?_⟩
  rcases h3 with h3 | h3
  · exact .inl fun r n hs' a b c d => ⟨(h3 r n hs' a b c d).1, hk _ (h3 r n hs' a b c d).2⟩
  · exact .inr fun r n hs' a b c d => hk _ (h3 r n hs' a b c d)
theorem vcallXP_mono {P : Program} {E : Md} {f : FuncId} {args : List Operand} {dst : Option Tmp} {K K' : St → Prop} {σ : St} (hk : ∀ σ, K σ → K' σ) (h : vcallXP P E f args dst K σ) : vcallXP P E f args dst K' σ := by
  obtain ⟨h0, k, rest, As, Cs, post, h1, h2, h3, h4, h5, h6⟩ := h
  exact ⟨h0, k, rest, As, Cs, post, h1, h2, h3, h4, h5, fun r cs' ws n hs' a b c d e f => hk _ (h6 r cs' ws n hs' a b c d e f)⟩
theorem coreX_mono {P : Program} {f : FuncId} {W : List Nat} {post : Nat → V → List V → List D → Prop} {n : Nat} {vs : List V} {dst : Option Tmp} {K K' : St → Prop} {σ : St} (hk : ∀ σ, K σ → K' σ) (h : coreX P f W post n vs dst K σ) : coreX P f W post n vs dst K' σ := by
  unfold coreX at *
  split at h
  · obtain ⟨h1, h2, h3, h4, h5, h6, h7⟩ := h
    exact ⟨h1, h2, h3, h4, h5, h6, fun r cs' ws hs' a b c d e => hk _ (h7 r cs' ws hs' a b c d e)⟩
  · obtain ⟨h1, h2, h3, h4⟩ := h
    exact ⟨h1, h2, h3, fun r cs' ws hs' a b c d => hk _ (h4 r cs' ws hs' a b c d)⟩
theorem vcallA_mono {P : Program} {E : Md} {f : FuncId} {args : List Operand} {vs : List V} {dst : Option Tmp} {K K' : St → Prop} {σ : St} (hk : ∀ σ, K σ → K' σ) (h : vcallA P E f args vs dst K σ) : vcallA P E f args vs dst K' σ := by
  rcases h with h | ⟨h1, h2⟩ | h | h | h | h
  · exact .inl (vcall_mono hk h)
  · refine .inr (.inl ⟨h1, fun γ n a b => ?_⟩)
    obtain ⟨W, post, h3, h4⟩ := h2 γ n a b
    exact ⟨W, post, h3, coreX_mono hk h4⟩
  · exact .inr (.inr (.inl (vcallP_mono hk h)))
  · exact .inr (.inr (.inr (.inl (vcallXP_mono hk h))))
  · obtain ⟨d, As, post, h1, h2, h3, h4, h5⟩ := h
    exact .inr (.inr (.inr (.inr (.inl ⟨d, As, post, h1, h2, h3, h4, fun ds n hs' a b c e f => hk _ (h5 ds n hs' a b c e f)⟩))))
  · obtain ⟨d, As, post, h1, h2, h3, h4⟩ := h
    refine .inr (.inr (.inr (.inr (.inr ⟨d, As, post, h1, h2, h3, fun r n hs' a b c => ?_⟩))))
    rcases h4 r n hs' a b c with ⟨e1, T, sz, e2, e3⟩ | ⟨g, T, sz, es, e1, e2, e3, e4⟩
    · exact .inl ⟨e1, T, sz, e2, hk _ e3⟩
    · exact .inr ⟨g, T, sz, es, e1, e2, e3, hk _ e4⟩
theorem vop_mono {P : Program} {E : Md} {E : Md} {o : Oper} {K K' : St → Prop} {σ : St} (hk : ∀ σ, K σ → K' σ) (h : vop P E o K σ) : vop P E o K' σ := by
  unfold vop at *
  split at h
  · exact vcallA_mono hk h
  · split at h
    · exact ⟨h.1, hk _ h.2⟩
    · split at h
      · rename_i hp; rw [if_pos hp]; exact ⟨h.1, hk _ h.2⟩
      · rename_i hp; rw [if_neg hp]; exact fun γ hs' a b => ⟨(h γ hs' a b).1, hk _ (h γ hs' a b).2⟩
  · exact ⟨h.1, hk _ h.2⟩
theorem vops_mono {P : Program} {E : Md} {ops : Array Oper} {K K' : St → Prop} (hk : ∀ σ, K σ → K' σ) : ∀ (l : List Oper) (σ : St), vops P E ops K l σ → vops P E ops K' l σ
  | [], σ, h => hk σ h
  | o :: r, σ, h => by
    simp only [vops] at *
    split at h
    · exact vop_mono (E := E) (vops_mono hk r) h
    · split at h
      · split at h
        · exact ⟨fun hb => vop_mono (E := E) (vops_mono hk r) (h.1 hb), fun hb => vops_mono hk r _ (h.2 hb)⟩
        · exact vops_mono hk r _ h
        · exact h.elim
      · exact h.elim
theorem vtr_mono {P : Program} {E : Md} {ops : Array Oper} {K K' : St → Prop} (hk : ∀ σ, K σ → K' σ) : ∀ (t : Tr) (σ : St), vtr P E ops K t σ → vtr P E ops K' t σ
  | .nil, σ, h => hk σ h
  | .seq l t, σ, h => vops_mono (vtr_mono hk t) _ σ h
  | .app i ts t, σ, h => ⟨h.1, vops_mono (vtr_mono hk t) _ σ h.2⟩
  | .both t u, σ, h => ⟨vtr_mono hk t σ h.1, vtr_mono hk u σ h.2⟩
theorem vwp_mono {P : Program} {E : Md} {sch : Nat → Tr} : ∀ (c : Code) (Q Q' : Exit → St → Prop) (σ : St), (∀ e σ, Q e σ → Q' e σ) → vwp P E sch c Q σ → vwp P E sch c Q' σ
  | .skip, Q, Q', σ, hq, h => hq _ _ h
  | .region id ops true, Q, Q', σ, hq, h => vtr_mono (fun σ => hq _ σ) _ σ h
  | .region id ops false, Q, Q', σ, hq, h => vops_mono (fun σ => hq _ σ) _ σ h
  | .seq a b, Q, Q', σ, hq, h => vwp_mono a _ _ σ (fun e σ he => by cases e <;> first | exact vwp_mono b _ _ σ hq he | exact hq _ _ he) h
  | .cond c x y, Q, Q', σ, hq, h => ⟨h.1, fun hb => vwp_mono x _ _ σ hq (h.2.1 hb), fun hb => vwp_mono y _ _ σ hq (h.2.2 hb)⟩
  | .block id c, Q, Q', σ, hq, h => vwp_mono c _ _ σ (fun e σ he => by
      cases e <;> first | exact hq _ _ he | skip
      simp only [inBlockV] at *
      split <;> rename_i hid <;> simp only [hid, if_true, if_false] at he <;> exact hq _ _ he) h
  | .loop c, Q, Q', σ, hq, h => by
    obtain ⟨I, h0, hr⟩ := h
    exact ⟨I, h0, fun n σ' hI => vwp_mono c _ _ σ' (fun e σ he => by cases e <;> first | exact he | exact hq _ _ he) (hr n σ' hI)⟩
  | .exit id, Q, Q', σ, hq, h => hq _ _ h
  | .ret, Q, Q', σ, hq, h => hq _ _ h
  | .rangeFunc .., _, _, _, _, h => h.elim
  | .scope _, _, _, _, _, h => h.elim
  | .label _, _, _, _, _, h => h.elim
  | .goto _, _, _, _, _, h => h.elim
  | .refuse _, _, _, _, _, h => h.elim

/-- what of the slots is known, and no more -/
theorem upd_has {α : Type} {t : Nat → α} {k : Nat} {x : α} (h : t k = x) : upd t k x = t := by subst h; exact upd_self t k

/-! ### a loop whose variables are known by values -/
def updL {α : Type} (t : Nat → α) : List (Nat × α) → Nat → α
  | [] => t
  | (k, x) :: r => upd (updL t r) k x
@[simp] theorem updL_nil {α : Type} (t : Nat → α) : updL t [] = t := rfl
@[simp] theorem updL_cons {α : Type} (t : Nat → α) (k : Nat) (x : α) (r : List (Nat × α)) : updL t ((k, x) :: r) = upd (updL t r) k x := rfl

theorem updL_has {α : Type} {t : Nat → α} : ∀ {l : List (Nat × α)}, (∀ p ∈ l, t p.1 = p.2) → updL t l = t
  | [], _ => rfl
  | (k, x) :: r, h => by
    simp only [updL]
    rw [updL_has (fun p hp => h p (by simp [hp]))]
    exact upd_has (h (k, x) (by simp))

def Back {X : Type} (Inv : X → Prop) (S : X → List (Nat × V)) (M : X → List (Nat × Option Blk)) (μ : X → Nat) (B : Nat) (W : List Nat) (hs n : Nat) (σ : St) : Prop :=
  Lead (fun s => ∃ x, Inv x ∧ μ x < n ∧ s.B = B ∧ s.W = W ∧ hs ≤ s.hs ∧ (∀ p ∈ S x, s.t p.1 = p.2) ∧ (∀ p ∈ M x, s.m p.1 = p.2)) σ

theorem back {X : Type} {Inv : X → Prop} {S : X → List (Nat × V)} {M : X → List (Nat × Option Blk)} {μ : X → Nat} {B : Nat} {W : List Nat} {hs n : Nat} {σ : St} (x : X) (h1 : Inv x) (h2 : μ x < n) (h3 : (σ.B, σ.W) = (B, W)) (h4 : hs ≤ σ.hs)
    (h5 : ∀ p ∈ S x, σ.t p.1 = p.2) (h6 : ∀ p ∈ M x, σ.m p.1 = p.2) : Back Inv S M μ B W hs n σ := Lead.of ⟨x, h1, h2, (Prod.mk.inj h3).1, (Prod.mk.inj h3).2, h4, h5, h6⟩

def backV {X : Type} (Inv : X → Prop) (S : X → List (Nat × V)) (M : X → List (Nat × Option Blk)) (μ : X → Nat) (B : Nat) (W : List Nat) (hs n : Nat) (Q : Exit → St → Prop) : Exit → St → Prop
  | .normal, σ => Back Inv S M μ B W hs n σ
  | e, σ => Q e σ

theorem loop_rule {P : Program} {E : Md} {sch : Nat → Tr} {c : Code} {Q : Exit → St → Prop} {B hs0 : Nat} {W : List Nat} {t0 : Nat → V} {m0 : Nat → Option Blk} {X : Type} (Inv : X → Prop) (S : X → List (Nat × V)) (M : X → List (Nat × Option Blk)) (μ : X → Nat) (x0 : X)
    (h0 : Inv x0) (hS : ∀ p ∈ S x0, t0 p.1 = p.2) (hM : ∀ p ∈ M x0, m0 p.1 = p.2)
    (hr : ∀ x hs t m, Inv x → hs0 ≤ hs → vwp P E sch c (backV Inv S M μ B W hs (μ x) Q) ⟨B, hs, W, updL t (S x), updL m (M x)⟩) : vloop P E sch c Q ⟨B, hs0, W, t0, m0⟩ := by
  refine ⟨fun n σ => ∃ x hs t m, Inv x ∧ μ x = n ∧ hs0 ≤ hs ∧ σ = ⟨B, hs, W, updL t (S x), updL m (M x)⟩, Lead.of ⟨_, x0, hs0, t0, m0, h0, rfl, Nat.le_refl _, by rw [updL_has hS, updL_has hM]⟩, ?_⟩
  rintro n σ ⟨x, hs, t, m, hx, rfl, hhs, rfl⟩
  refine vwp_mono _ _ _ _ ?_ (hr x hs t m hx hhs)
  intro e σ he
  cases e with
  | normal =>
    refine Lead.mono he ?_
    rintro s ⟨x', h1, h2, h3, h7, h4, h5, h6⟩
    obtain ⟨B', hs', W', t', m'⟩ := s
    simp only at h3 h7 h4 h5 h6
    subst h3 h7
    exact ⟨_, h2, x', hs', t', m', h1, rfl, Nat.le_trans hhs h4, by rw [updL_has h5, updL_has h6]⟩
  | _ => exact he

@[simp] theorem backV_n {X : Type} (Inv : X → Prop) (S : X → List (Nat × V)) (M : X → List (Nat × Option Blk)) (μ : X → Nat) (B : Nat) (W : List Nat) (hs n : Nat) (Q : Exit → St → Prop) (σ : St) : backV Inv S M μ B W hs n Q .normal σ = Back Inv S M μ B W hs n σ := rfl
@[simp] theorem backV_e {X : Type} (Inv : X → Prop) (S : X → List (Nat × V)) (M : X → List (Nat × Option Blk)) (μ : X → Nat) (B : Nat) (W : List Nat) (hs n id : Nat) (Q : Exit → St → Prop) (σ : St) : backV Inv S M μ B W hs n Q (.exit id) σ = Q (.exit id) σ := rfl
@[simp] theorem backV_r {X : Type} (Inv : X → Prop) (S : X → List (Nat × V)) (M : X → List (Nat × Option Blk)) (μ : X → Nat) (B : Nat) (W : List Nat) (hs n : Nat) (Q : Exit → St → Prop) (σ : St) : backV Inv S M μ B W hs n Q .ret σ = Q .ret σ := rfl

/-- a call whose arguments name no row of ours and whose result is known, and in no memory -/
theorem call_pure {P : Program} {E : Md} {args : List Operand} {f : FuncId} {vs : List V} {dst : Option Tmp} {K : St → Prop} {σ : St} {v : V} (hc : VC P f vs (fun _ r => r = v)) (hk : keysVL vs = []) (hr : rdL (fun _ => none) σ.m vs = some vs) (hv : v.ids = [])
    (hK : ∀ hs', σ.hs ≤ hs' → K ({ σ with hs := hs' }.put dst v)) : vcallA P E f args vs dst K σ := by
  refine .inl ?_
  unfold vcall
  split
  · refine ⟨hr, _, hc, ?_⟩
    intro r n hs' a b c _
    subst c
    exact hK hs' (by omega)
  · rename_i h; rw [hk] at h; cases h
/-- a call whose arguments name no row of ours; of the result a property is known -/
theorem call_some {P : Program} {E : Md} {args : List Operand} {f : FuncId} {vs : List V} {dst : Option Tmp} {K : St → Prop} {σ : St} {post : Nat → V → Prop} (hc : VC P f vs post) (hk : keysVL vs = []) (hr : rdL (fun _ => none) σ.m vs = some vs)
    (hK : ∀ n hs' r, σ.hs ≤ n → n ≤ hs' → post n r → (∀ i ∈ r.ids, i < hs') → K ({ σ with hs := hs' }.put dst r)) : vcallA P E f args vs dst K σ := by
  refine .inl ?_
  unfold vcall
  split
  · exact ⟨hr, _, hc, fun r n hs' a b c d => hK n hs' r a b c d⟩
  · rename_i h; rw [hk] at h; cases h
/-- a call whose arguments are known by elements only and whose result is known -/
theorem call_p {P : Program} {E : Md} {args : List Operand} {f : FuncId} {vs As : List V} {dst : Option Tmp} {K : St → Prop} {σ : St} {v : V} (hc : VC P f As (fun _ r => r = v)) (hr : rpL σ.m vs = some As)
    (hK : ∀ hs', σ.hs ≤ hs' → v.ln → K ({ (σ.frps (keysVL vs)) with hs := hs' }.put dst v)) : vcallA P E f args vs dst K σ :=
  .inr (.inr (.inl ⟨As, _, hr, hc, .inr fun r n hs' a b c d => by subst c; exact hK hs' (by omega) d⟩))
/-- as 'call_p'; the result has no slice, and rows of ours stay ours -/
theorem call_f {P : Program} {E : Md} {args : List Operand} {f : FuncId} {vs As : List V} {dst : Option Tmp} {K : St → Prop} {σ : St} {v : V} (hc : VC P f As (fun _ r => r = v)) (hr : rpL σ.m vs = some As) (hf : v.flat = true)
    (hK : ∀ hs', σ.hs ≤ hs' → K ({ σ with hs := hs' }.put dst v)) : vcallA P E f args vs dst K σ :=
  .inr (.inr (.inl ⟨As, _, hr, hc, .inl fun r n hs' a b c _ => by subst c; exact ⟨hf, hK hs' (by omega)⟩⟩))
/-- as 'call_p'; of the result a property is known -/
theorem call_pq {P : Program} {E : Md} {args : List Operand} {f : FuncId} {vs As : List V} {dst : Option Tmp} {K : St → Prop} {σ : St} {post : Nat → V → Prop} (hc : VC P f As post) (hr : rpL σ.m vs = some As)
    (hK : ∀ n hs' r, σ.hs ≤ n → n ≤ hs' → post n r → r.ln → K ({ (σ.frps (keysVL vs)) with hs := hs' }.put dst r)) : vcallA P E f args vs dst K σ :=
  .inr (.inr (.inl ⟨As, _, hr, hc, .inr fun r n hs' a b c d => hK n hs' r a b c d⟩))
/-- as 'call_n'; what it is handed is known by its blocks -/
theorem call_nt {P : Program} {E : Md} {args : List Operand} {f : FuncId} {vs : List V} {d : Tmp} {K : St → Prop} {σ : St} {post : Nat → List D → Prop} (hc : VN P f vs post) (hk : keysVL vs = []) (hr : rdL (fun _ => none) σ.m vs = some vs)
    (hK : ∀ ds n hs', σ.hs ≤ n → n ≤ hs' → post n ds → lnL ds → (∀ i ∈ idsVL (ds.map V.d), i < hs') → K ({ (σ.lay d (.box (ds.map V.d))) with hs := hs' }.put (some d) (.ptr d 0 0))) : vcallA P E f args vs (some d) K σ :=
  .inr (.inr (.inr (.inr (.inl ⟨d, vs, post, rfl, hk, .inr ⟨rfl, hr⟩, hc, hK⟩))))
/-- as 'call_xq'; the variable's blocks are known -/
theorem call_xt {P : Program} {E : Md} {args : List Operand} {f : FuncId} {vs rest As cs : List V} {k : Nat} {dst : Option Tmp} {K : St → Prop} {σ : St} {post : Nat → V → List V → List D → Prop} (hE : E f = true) (hvs : args.map σ.ev = .ptr k 0 0 :: rest) (hm : σ.m k = some (.box cs))
    (hr : rpL σ.m rest = some As) (hr2 : rdL (fun _ => none) σ.m cs = some cs) (hc : VX P f [] (.ptr 1000 0 0 :: As) (some cs) post)
    (hK : ∀ r cs' ws n hs', σ.hs ≤ n → n ≤ hs' → post n r cs' ws → r.ln → lnVL cs' → K ({ (σ.frps (keysVL rest ++ keysVL cs)) with hs := hs', m := upd (σ.frps (keysVL rest ++ keysVL cs)).m k (some (.box cs')) }.put dst r)) : vcallA P E f args vs dst K σ := by
  refine .inr (.inr (.inr (.inl ⟨hE, k, rest, As, cs, _, hvs, by rw [hm]; rfl, hr, by rw [hm]; exact .inr ⟨rfl, hr2⟩, hc, ?_⟩)))
  rw [hm]
  exact fun r cs' ws n hs' a b c d e _ => hK r cs' ws n hs' a b c d e
/-- as 'call_xt'; the result's blocks are there -/
theorem call_xi {P : Program} {E : Md} {args : List Operand} {f : FuncId} {vs rest As cs : List V} {k : Nat} {dst : Option Tmp} {K : St → Prop} {σ : St} {post : Nat → V → List V → List D → Prop} (hE : E f = true) (hvs : args.map σ.ev = .ptr k 0 0 :: rest) (hm : σ.m k = some (.box cs))
    (hr : rpL σ.m rest = some As) (hr2 : rdL (fun _ => none) σ.m cs = some cs) (hc : VX P f [] (.ptr 1000 0 0 :: As) (some cs) post)
    (hK : ∀ r cs' ws n hs', σ.hs ≤ n → n ≤ hs' → post n r cs' ws → r.ln → lnVL cs' → (∀ i ∈ r.ids, i < hs') → K ({ (σ.frps (keysVL rest ++ keysVL cs)) with hs := hs', m := upd (σ.frps (keysVL rest ++ keysVL cs)).m k (some (.box cs')) }.put dst r)) : vcallA P E f args vs dst K σ := by
  refine .inr (.inr (.inr (.inl ⟨hE, k, rest, As, cs, _, hvs, by rw [hm]; rfl, hr, by rw [hm]; exact .inr ⟨rfl, hr2⟩, hc, ?_⟩)))
  rw [hm]
  exact hK
@[simp] theorem t_app {P : Program} {E : Md} {ops : Array Oper} {K : St → Prop} {σ : St} (i : Nat) (ts : List Nat) (t : Tr) : vtr P E ops K (.app i ts t) σ = (vsep σ (ops.getD i default) ts ∧ vops P E ops (vtr P E ops K t) [ops.getD i default] σ) := rfl
attribute [simp] D.ln lnL lnLL V.ln lnVL
@[simp] theorem lnLL_map {α : Type} (c : α → List D) (l : List α) : lnLL (l.map c) ↔ ∀ a ∈ l, lnL (c a) := by
  induction l with
  | nil => simp
  | cons x r ih => simp [ih]
theorem lnL_app (l l' : List D) : lnL (l ++ l') ↔ lnL l ∧ lnL l' := by
  induction l with
  | nil => simp
  | cons x r ih => simp [ih, and_assoc]
attribute [simp] lnL_app
attribute [simp] vsep appKey sepV sepD St.frps St.frp Vs.frp frpL rp rpL D.er erL erLL D.hp V.hp hpVL V.flat flatL
theorem x_mapVp0 (k : Nat) (es : List (List D)) : mapV (Vs.frp k es) (fun _ => V.tup []) = fun _ => V.tup [] := by
  funext i; simp [mapV, Vs.frp, frpL]
attribute [simp] x_mapVp0
@[simp] theorem w_bsP' {P : Program} {E : Md} {ops : Array Oper} {K : St → Prop} {r : List Oper} {σ : St} {k : Tmp} {ty : TypeId} {pos : String} {af : Array Edge} (T n : Nat) (parts : Array (Nat × Operand)) (hE : E.p = true) : vops P E ops K (⟨some k, .buildSlice T n parts, ty, pos, af, none⟩ :: r) σ =
    (((tslice P T).isSome = true ∧ n * (slT P T).2.1 ≤ 16777216 ∧ parts.size = n ∧ partsOk (σ.frps (keysVL (allC (parts.toList.map fun p => σ.ev p.2)))) (slT P T).2.1 0 parts.toList ∧ (allC (parts.toList.map fun p => (σ.frps (keysVL (allC (parts.toList.map fun p => σ.ev p.2)))).ev p.2)).all isD = true) ∧
        vops P E ops K r (((σ.frps (keysVL (allC (parts.toList.map fun p => σ.ev p.2)))).lay k (.row (slT P T).1 (slT P T).2.1 (chunk (slT P T).2.1 n ((allC (parts.toList.map fun p => (σ.frps (keysVL (allC (parts.toList.map fun p => σ.ev p.2)))).ev p.2)).map dD)))).put (some k) (.own k 0 n))) := w_bsP T n parts hE

/-! ### plain typed data -/
/-- a slice known by its elements -/
def pS {α : Type} (c : α → List D) (xs : List α) : D := .pl (xs.map c)
def cP {α : Type} (c : α → List D) (xs : List α) : List D := [pS c xs]
end Go.Vs


namespace Go.Vs

/-- as 'Back', the invariant may speak of the heap's size -/
def Back2 {X : Type} (Inv : X → Nat → Prop) (S : X → List (Nat × V)) (M : X → List (Nat × Option Blk)) (μ : X → Nat) (B : Nat) (W : List Nat) (hs n : Nat) (σ : St) : Prop :=
  Lead (fun s => ∃ x, Inv x s.hs ∧ μ x < n ∧ s.B = B ∧ s.W = W ∧ hs ≤ s.hs ∧ (∀ p ∈ S x, s.t p.1 = p.2) ∧ (∀ p ∈ M x, s.m p.1 = p.2)) σ

theorem back2 {X : Type} {Inv : X → Nat → Prop} {S : X → List (Nat × V)} {M : X → List (Nat × Option Blk)} {μ : X → Nat} {B : Nat} {W : List Nat} {hs n : Nat} {σ : St} (x : X) (h1 : Inv x σ.hs) (h2 : μ x < n) (h3 : (σ.B, σ.W) = (B, W)) (h4 : hs ≤ σ.hs)
    (h5 : ∀ p ∈ S x, σ.t p.1 = p.2) (h6 : ∀ p ∈ M x, σ.m p.1 = p.2) : Back2 Inv S M μ B W hs n σ := Lead.of ⟨x, h1, h2, (Prod.mk.inj h3).1, (Prod.mk.inj h3).2, h4, h5, h6⟩

def backV2 {X : Type} (Inv : X → Nat → Prop) (S : X → List (Nat × V)) (M : X → List (Nat × Option Blk)) (μ : X → Nat) (B : Nat) (W : List Nat) (hs n : Nat) (Q : Exit → St → Prop) : Exit → St → Prop
  | .normal, σ => Back2 Inv S M μ B W hs n σ
  | e, σ => Q e σ

@[simp] theorem backV2_n {X : Type} (Inv : X → Nat → Prop) (S : X → List (Nat × V)) (M : X → List (Nat × Option Blk)) (μ : X → Nat) (B : Nat) (W : List Nat) (hs n : Nat) (Q : Exit → St → Prop) (σ : St) : backV2 Inv S M μ B W hs n Q .normal σ = Back2 Inv S M μ B W hs n σ := rfl
@[simp] theorem backV2_e {X : Type} (Inv : X → Nat → Prop) (S : X → List (Nat × V)) (M : X → List (Nat × Option Blk)) (μ : X → Nat) (B : Nat) (W : List Nat) (hs n id : Nat) (Q : Exit → St → Prop) (σ : St) : backV2 Inv S M μ B W hs n Q (.exit id) σ = Q (.exit id) σ := rfl
@[simp] theorem backV2_r {X : Type} (Inv : X → Nat → Prop) (S : X → List (Nat × V)) (M : X → List (Nat × Option Blk)) (μ : X → Nat) (B : Nat) (W : List Nat) (hs n : Nat) (Q : Exit → St → Prop) (σ : St) : backV2 Inv S M μ B W hs n Q .ret σ = Q .ret σ := rfl
end Go.Vs


namespace Go.Vs

/-! ### what is not written stays -/
section
variable {φ : Nat → Option D}
mutual
/-- every slice's block is known -/
def D.tk : D → Bool
  | .sl _ _ es => tkLL es
  | .pl _ => false
  | _ => true
def tkL : List D → Bool
  | [] => true
  | x :: r => x.tk && tkL r
def tkLL : List (List D) → Bool
  | [] => true
  | x :: r => tkL x && tkLL r
end
mutual
def V.tk : V → Bool
  | .d x => x.tk
  | .fptr x _ _ => x.tk
  | .agg cs => tkVL cs
  | .tup cs => tkVL cs
  | _ => true
def tkVL : List V → Bool
  | [] => true
  | x :: r => x.tk && tkVL r
end
mutual
theorem reD_id' : ∀ x : D, x.tk = true → (∀ i ∈ x.ids, φ i = none) → reD φ x = some x
  | .bool _, _, _ => rfl
  | .int _ _, _, _ => rfl
  | .str _, _, _ => rfl
  | .pl _, h, _ => by cases h
  | .sl none T es, ht, h => by
    simp only [D.ids, Option.toList, List.nil_append] at h
    simp only [D.tk] at ht
    simp only [reD]; rw [reLL_id' es ht h]; rfl
  | .sl (some g) T es, ht, h => by
    simp only [D.ids, Option.toList, List.mem_append, List.mem_singleton] at h
    simp only [D.tk] at ht
    simp only [reD]
    rw [h g (.inl rfl)]
    simp only
    rw [reLL_id' es ht (fun i hi => h i (.inr hi))]; rfl
theorem reL_id' : ∀ l : List D, tkL l = true → (∀ i ∈ idsL l, φ i = none) → reL φ l = some l
  | [], _, _ => rfl
  | x :: r, ht, h => by
    simp only [idsL, List.mem_append] at h
    simp only [tkL, Bool.and_eq_true] at ht
    simp only [reL]
    rw [reD_id' x ht.1 (fun i hi => h i (.inl hi)), reL_id' r ht.2 (fun i hi => h i (.inr hi))]
theorem reLL_id' : ∀ l : List (List D), tkLL l = true → (∀ i ∈ idsLL l, φ i = none) → reLL φ l = some l
  | [], _, _ => rfl
  | x :: r, ht, h => by
    simp only [idsLL, List.mem_append] at h
    simp only [tkLL, Bool.and_eq_true] at ht
    simp only [reLL]
    rw [reL_id' x ht.1 (fun i hi => h i (.inl hi)), reLL_id' r ht.2 (fun i hi => h i (.inr hi))]
end
mutual
theorem reV_id' : ∀ v : V, v.tk = true → (∀ i ∈ v.ids, φ i = none) → reV φ v = v
  | .d x, ht, h => by simp only [reV]; rw [reD_id' x ht h]
  | .fptr x _ _, ht, h => by simp only [reV]; rw [reD_id' x ht h]
  | .own _ _ _, _, _ => rfl
  | .ptr _ _ _, _, _ => rfl
  | .bad, _, _ => rfl
  | .agg cs, ht, h => by simp only [reV]; rw [reVL_id' cs ht h]
  | .tup cs, ht, h => by simp only [reV]; rw [reVL_id' cs ht h]
theorem reVL_id' : ∀ l : List V, tkVL l = true → (∀ i ∈ idsVL l, φ i = none) → reVL φ l = l
  | [], _, _ => rfl
  | v :: r, ht, h => by
    simp only [idsVL, List.mem_append] at h
    simp only [tkVL, Bool.and_eq_true] at ht
    simp only [reVL]
    rw [reV_id' v ht.1 (fun i hi => h i (.inl hi)), reVL_id' r ht.2 (fun i hi => h i (.inr hi))]
end
attribute [simp] D.tk tkL tkLL V.tk tkVL
@[simp] theorem tkLL_map {α : Type} {c : α → List D} (l : List α) (h : ∀ a, tkL (c a) = true) : tkLL (l.map c) = true := by
  induction l with
  | nil => rfl
  | cons a r ih => simp only [List.map_cons, tkLL, h a, ih, Bool.and_self]
@[simp] theorem tk_dSl {α : Type} {c : α → List D} (s : Sl α) (h : ∀ a, tkL (c a) = true) : (dSl c s).tk = true := by
  simp only [dSl, D.tk]; exact tkLL_map _ h
@[simp] theorem tk_cI (n : Int) : tkL (cI n) = true := rfl
@[simp] theorem tk_cS {α : Type} {c : α → List D} (s : Sl α) (h : ∀ a, tkL (c a) = true) : tkL (cS c s) = true := by
  simp only [cS, tkL, tk_dSl s h, Bool.and_self]
@[simp] theorem tk_cSI (s : Sl Int) : tkL (cS cI s) = true := tk_cS s tk_cI
@[simp] theorem tk_cSSI (s : Sl (Sl Int)) : tkL (cS (cS cI) s) = true := tk_cS s tk_cSI
@[simp] theorem tk_dSlI (s : Sl Int) : (dSl cI s).tk = true := tk_dSl s tk_cI
@[simp] theorem tk_dSlSI (s : Sl (Sl Int)) : (dSl (cS cI) s).tk = true := tk_dSl s tk_cSI
/-! no slice that is known by its elements only -/
theorem hpL_app (l l' : List D) : hpL (l ++ l') = (hpL l || hpL l') := by simp [hpL]
theorem hpLL_app (l l' : List (List D)) : hpLL (l ++ l') = (hpLL l || hpLL l') := by simp [hpLL]
theorem hpLL_cons (x : List D) (l : List (List D)) : hpLL (x :: l) = (hpL x || hpLL l) := by simp [hpLL]
@[simp] theorem hpLL_nil : hpLL [] = false := rfl
@[simp] theorem hpL_nil : hpL [] = false := rfl
@[simp] theorem hpL_cons (x : D) (l : List D) : hpL (x :: l) = (x.hp || hpL l) := by simp [hpL]
theorem hpLL_map {α : Type} {c : α → List D} (h : ∀ a, hpL (c a) = false) (l : List α) : hpLL (l.map c) = false := by
  induction l with
  | nil => rfl
  | cons a r ih => rw [List.map_cons, hpLL_cons, h a, ih]; rfl
theorem hpLL_rep (n : Nat) (z : List D) : hpLL (List.replicate n z) = (decide (0 < n) && hpL z) := by
  induction n with
  | zero => rfl
  | succ n ih => rw [List.replicate_succ, hpLL_cons, ih]; cases hpL z <;> simp
@[simp] theorem hp_cI (n : Int) : hpL (cI n) = false := rfl
@[simp] theorem hp_cS {α : Type} {c : α → List D} (s : Sl α) : hpL (cS c s) = false := rfl
@[simp] theorem hpLL_mapI (l : List Int) : hpLL (l.map cI) = false := hpLL_map hp_cI l
@[simp] theorem hpLL_mapS {α : Type} {c : α → List D} (l : List (Sl α)) : hpLL (l.map (cS c)) = false := hpLL_map hp_cS l
attribute [simp] hpL_app hpLL_app hpLL_cons hpLL_rep
theorem tkL_app (l l' : List D) : tkL (l ++ l') = (tkL l && tkL l') := by
  induction l with
  | nil => rfl
  | cons x r ih => simp [ih, Bool.and_assoc]
attribute [simp] tkL_app
theorem reLL_id (l : List (List D)) (h : ∀ i ∈ idsLL l, φ i = none) (ht : tkLL l = true := by first | rfl | simp) : reLL φ l = some l := reLL_id' l ht h
theorem reV_id (v : V) (h : ∀ i ∈ v.ids, φ i = none) (ht : v.tk = true := by first | rfl | simp) : reV φ v = v := reV_id' v ht h
@[simp] theorem reV_int (k : IntKind) (n : Int) : reV φ (.d (.int k n)) = .d (.int k n) := rfl
@[simp] theorem reV_bool (b : Bool) : reV φ (.d (.bool b)) = .d (.bool b) := rfl
@[simp] theorem reV_str (s : List UInt8) : reV φ (.d (.str s)) = .d (.str s) := rfl
@[simp] theorem reV_nil (T : Option (TypeId × Nat)) : reV φ (.d (.sl none T [])) = .d (.sl none T []) := rfl
@[simp] theorem reV_own (k lo n : Nat) : reV φ (.own k lo n) = .own k lo n := rfl
@[simp] theorem reV_ptr (k lo n : Nat) : reV φ (.ptr k lo n) = .ptr k lo n := rfl
@[simp] theorem reV_bad : reV φ .bad = .bad := rfl
@[simp] theorem reV_agg (cs : List V) : reV φ (.agg cs) = .agg (reVL φ cs) := by simp only [reV]
@[simp] theorem reV_tup (cs : List V) : reV φ (.tup cs) = .tup (reVL φ cs) := by simp only [reV]
@[simp] theorem reVL_nil : reVL φ [] = [] := rfl
@[simp] theorem reVL_cons (v : V) (r : List V) : reVL φ (v :: r) = reV φ v :: reVL φ r := by simp only [reVL]
end

theorem x_re {B hs : Nat} {W : List Nat} {t : Nat → V} {m : Nat → Option Blk} (φ : Nat → Option D) : (St.mk B hs W t m).re φ = ⟨B, hs, W, mapV (reV φ) t, reM φ m⟩ := rfl
theorem x_reM (φ : Nat → Option D) (m : Nat → Option Blk) (k : Nat) (b : Option Blk) : reM φ (upd m k b) = upd (reM φ m) k (b.bind (Blk.re φ)) := by
  funext i; simp only [reM, upd]; split <;> rfl
theorem x_reM0 (φ : Nat → Option D) : reM φ (fun _ => none) = fun _ => none := rfl
@[simp] theorem re_box (φ : Nat → Option D) (cs : List V) : Blk.re φ (.box cs) = some (.box (reVL φ cs)) := rfl
@[simp] theorem re_row (φ : Nat → Option D) (T sz : Nat) (es : List (List D)) : Blk.re φ (.row T sz es) = (reLL φ es).map (.row T sz) := rfl
theorem x_mapVre0 (φ : Nat → Option D) : mapV (reV φ) (fun _ => V.tup []) = fun _ => V.tup [] := by
  funext i; rfl
attribute [simp] x_re x_reM x_reM0 x_mapVre0

theorem one_out {g j : Nat} {d : D} (h : j ≠ g) : one g d j = none := by simp [one, h]

/-! ### slices of typed elements -/
section
variable {α : Type} {c : α → List D}
theorem idsL_app (l l' : List D) : idsL (l ++ l') = idsL l ++ idsL l' := by
  induction l with
  | nil => rfl
  | cons x r ih => simp [idsL, ih]
theorem idsLL_append (l l' : List (List D)) : idsLL (l ++ l') = idsLL l ++ idsLL l' := by
  induction l with
  | nil => rfl
  | cons x r ih => simp [idsLL, ih]
variable {φ : Nat → Option D}
/-- whole: of its own block, all of it -/
structure Sl.wh (s : Sl α) : Prop where
  nil : s.id = none → s.xs = []
  some : s.id ≠ none → s.T.isSome = true
theorem Sl.wh.set {s : Sl α} (h : s.wh) (i : Nat) (a : α) : (⟨s.id, s.T, s.xs.set i a⟩ : Sl α).wh := ⟨fun h' => by simp [h.nil h'], h.some⟩
theorem Sl.wh.of {s : Sl α} (h : s.wh) {xs : List α} (hl : xs.length = s.xs.length) : (⟨s.id, s.T, xs⟩ : Sl α).wh := ⟨fun h' => List.eq_nil_of_length_eq_zero (by rw [hl, h.nil h']; rfl), h.some⟩
theorem Sl.wh.id {s : Sl α} (h : s.wh) {i : Nat} (hi : i < s.xs.length) : ∃ g, s.id = Option.some g ∧ ∃ T, s.T = Option.some T := by
  cases hid : s.id with
  | none => rw [h.nil hid] at hi; simp at hi
  | some g =>
    have := h.some (by rw [hid]; simp)
    obtain ⟨T, hT⟩ := Option.isSome_iff_exists.1 this
    exact ⟨g, rfl, T, hT⟩

theorem mem_sl_ids {s : Sl α} {g : Nat} : g ∈ (dSl c s).ids ↔ s.id = some g ∨ g ∈ idsLL (s.xs.map c) := by
  obtain ⟨id, T, xs⟩ := s
  cases id <;> simp [dSl, D.ids, eq_comm]
end

/-! ### what is marked -/
section
variable {α : Type}
def mkList (mk : α → Int → α) (wt : α → Nat) : List α → Int → List α
  | [], _ => []
  | a :: r, k => mk a k :: mkList mk wt r (k + wt a)
variable {mk : α → Int → α} {hl : α → Int → Bool} {wt : α → Nat}
@[simp] theorem mkList_length : ∀ (l : List α) (k : Int), (mkList mk wt l k).length = l.length
  | [], _ => rfl
  | a :: r, k => by simp [mkList, mkList_length r]
def mkAt (mk : α → Int → α) (wt : α → Nat) (l : List α) (k : Int) (i : Nat) : List α := mkList mk wt (l.take i) k ++ l.drop i
@[simp] theorem mkAt_zero (l : List α) (k : Int) : mkAt mk wt l k 0 = l := by simp [mkAt, mkList]
@[simp] theorem mkAt_length (l : List α) (k : Int) (i : Nat) : (mkAt mk wt l k i).length = l.length := by simp [mkAt]; omega
@[simp] theorem mkAt_get {l : List α} {k : Int} {i : Nat} (h : i < (mkAt mk wt l k i).length) : (mkAt mk wt l k i)[i] = l[i]'(by simpa using h) := by
  simp only [mkAt_length] at h
  have hl : (mkList mk wt (l.take i) k).length = i := by simp; omega
  simp only [mkAt]
  rw [List.getElem_append_right (by omega)]
  simp [hl]
end

/-! ### calls that write -/
section
variable {P : Program} {E : Md} {args : List Operand} {f : FuncId} {vs : List V} {dst : Option Tmp} {K : St → Prop} {σ : St}
end

theorem gam_row {σ : St} {γ : Nat → Option Nat} {hs' k T sz : Nat} {es : List (List D)} (hg : Gam σ γ hs') (hm : σ.m k = some (.row T sz es)) : ∀ g, γ k = some g → g ∉ idsLL es :=
  fun g h => (hg.fr k T sz es g hm h).1.row k T sz es hm

@[simp] theorem startX1 (a : V) (W : List Nat) (B : Nat) : St.startX [a] W none B = ⟨B, B, W, upd (fun _ => .tup []) 0 a, fun _ => none⟩ := by
  simp only [St.startX, St.mk.injEq, true_and]
  refine ⟨?_, by funext k; simp⟩
  funext i; match i with | 0 => rfl | _ + 1 => rfl
@[simp] theorem startX2 (a b : V) (W : List Nat) (B : Nat) : St.startX [a, b] W none B = ⟨B, B, W, upd (upd (fun _ => .tup []) 1 b) 0 a, fun _ => none⟩ := by
  simp only [St.startX, St.mk.injEq, true_and]
  refine ⟨?_, by funext k; simp⟩
  funext i; match i with | 0 => rfl | 1 => rfl | _ + 2 => rfl
theorem startX_box (cs : List V) : (fun k : Nat => if k = 1000 then (some cs).map Blk.box else none) = upd (fun _ => none) 1000 (some (.box cs)) := by
  funext k; simp [upd]
@[simp] theorem startX1b (a : V) (W : List Nat) (cs : List V) (B : Nat) : St.startX [a] W (some cs) B = ⟨B, B, W, upd (fun _ => .tup []) 0 a, upd (fun _ => none) 1000 (some (.box cs))⟩ := by
  simp only [St.startX, St.mk.injEq, true_and]
  refine ⟨?_, startX_box cs⟩
  funext i; match i with | 0 => rfl | _ + 1 => rfl
@[simp] theorem startX2b (a b : V) (W : List Nat) (cs : List V) (B : Nat) : St.startX [a, b] W (some cs) B = ⟨B, B, W, upd (upd (fun _ => .tup []) 1 b) 0 a, upd (fun _ => none) 1000 (some (.box cs))⟩ := by
  simp only [St.startX, St.mk.injEq, true_and]
  refine ⟨?_, startX_box cs⟩
  funext i; match i with | 0 => rfl | 1 => rfl | _ + 2 => rfl
@[simp] theorem startX3b (a b c : V) (W : List Nat) (cs : List V) (B : Nat) : St.startX [a, b, c] W (some cs) B = ⟨B, B, W, upd (upd (upd (fun _ => .tup []) 2 c) 1 b) 0 a, upd (fun _ => none) 1000 (some (.box cs))⟩ := by
  simp only [St.startX, St.mk.injEq, true_and]
  refine ⟨?_, startX_box cs⟩
  funext i; match i with | 0 => rfl | 1 => rfl | 2 => rfl | _ + 3 => rfl
attribute [simp] dsV
theorem mem_slids {α : Type} {c : α → List D} {s : Sl α} {g : Nat} (h : s.id = some g) : g ∈ (dSl c s).ids := mem_sl_ids.2 (.inl h)
@[simp] theorem vretX_n {P : Program} {E : Md} {rs : List ResultVar} {post : Nat → V → List V → List D → Prop} {W : List Nat} {bx : Bool} {σ : St} : vretX P E rs post W bx .normal σ = vendX P E rs post W bx σ := rfl
@[simp] theorem vretX_r {P : Program} {E : Md} {rs : List ResultVar} {post : Nat → V → List V → List D → Prop} {W : List Nat} {bx : Bool} {σ : St} : vretX P E rs post W bx .ret σ = vendX P E rs post W bx σ := rfl
@[simp] theorem vretX_e {P : Program} {E : Md} {rs : List ResultVar} {post : Nat → V → List V → List D → Prop} {W : List Nat} {bx : Bool} {σ : St} {id : Nat} : vretX P E rs post W bx (.exit id) σ = False := rfl
theorem re_oneSet {g : Nat} {T : TypeId × Nat} {es : List (List D)} {i : Nat} {e' : List D} (h : ∀ e, es[i]? = some e → e'.length = e.length) :
    reV (one g (.sl (some g) (some T) (es.set i e'))) (.d (.sl (some g) (some T) es)) = .d (.sl (some g) (some T) (es.set i e')) := by
  simp only [reV, reD, one, if_true]
  rw [if_pos]
  refine ⟨trivial, rfl, trivial, ?_⟩
  apply List.ext_getElem?
  intro j
  simp only [List.getElem?_map, List.getElem?_set]
  split
  · rename_i hij
    subst hij
    split
    · rename_i hlt
      rw [List.getElem?_eq_getElem hlt]
      simp only [Option.map_some]
      rw [h _ (List.getElem?_eq_getElem hlt)]
    · rename_i hge
      rw [List.getElem?_eq_none (by omega)]
  · rfl
@[simp] theorem ids_cI (l : List Int) : idsLL (l.map cI) = [] := by
  induction l with
  | nil => rfl
  | cons a r ih => simp [idsLL, cI, idsL, ih]
theorem set_map {α : Type} {c : α → List D} (l : List α) (i : Nat) (a : α) : (l.map c).set i (c a) = (l.set i a).map c := by rw [List.map_set]
attribute [simp] St.wr
@[simp] theorem re_oneSet2 {g : Nat} {T : TypeId × Nat} {es : List (List D)} {i : Nat} {e' : List D} (h : e'.length = (es.getD i e').length) :
    reV (one g (.sl (some g) (some T) (es.set i e'))) (.d (.sl (some g) (some T) es)) = .d (.sl (some g) (some T) (es.set i e')) :=
  re_oneSet fun e he => by rw [h]; simp [List.getD, he]
@[simp] theorem getD_set_self {α : Type} (l : List α) (i : Nat) (a d : α) (h : i < l.length) : (l.set i a).getD i d = a := by simp [List.getD, h]
theorem tkLL_at {es : List (List D)} (h : tkLL es = true) {j : Nat} {e : List D} (he : es[j]? = some e) : tkL e = true := by
  induction es generalizing j with
  | nil => simp at he
  | cons x r ih =>
    simp only [tkLL, Bool.and_eq_true] at h
    cases j with
    | zero => simp at he; rw [← he]; exact h.1
    | succ j => exact ih h.2 (by simpa using he)
/-- the value of a look at what is held -/
def hv (b : Bool) (k : Int) (w : Nat) : Int := if b then k + w else -1
@[simp] theorem hv_t (k : Int) (w : Nat) : hv true k w = k + w := rfl
@[simp] theorem hv_f (k : Int) (w : Nat) : hv false k w = -1 := rfl
@[simp] theorem re_oneSet3 {g : Nat} {T : TypeId × Nat} {es : List (List D)} {i : Nat} {e1 e2 : List D} (h : e2.length = e1.length) :
    reV (one g (.sl (some g) (some T) (es.set i e2))) (.d (.sl (some g) (some T) (es.set i e1))) = .d (.sl (some g) (some T) (es.set i e2)) := by
  have := re_oneSet (g := g) (T := T) (es := es.set i e1) (i := i) (e' := e2) (fun e he => by
    rw [List.getElem?_set] at he
    simp only [if_true] at he
    split at he
    · cases he; exact h
    · cases he)
  rw [List.set_set] at this
  exact this
end Go.Vs


namespace Go.Vs
/-! leafs -/
def cStr (s : List UInt8) : List D := [.str s]
def plI (n : Int) : Int := n
def plStr (s : List UInt8) : List UInt8 := s
def whI (_ : Int) : Prop := True
def whStr (_ : List UInt8) : Prop := True
def okI (_ : Int) : Prop := True
def okStr (s : List UInt8) : Prop := s.length ≤ maxLen
@[simp] theorem tk_cStr (s : List UInt8) : tkL (cStr s) = true := rfl
@[simp] theorem hp_cStr (s : List UInt8) : hpL (cStr s) = false := rfl
@[simp] theorem hpLL_mapStr (l : List (List UInt8)) : hpLL (l.map cStr) = false := hpLL_map hp_cStr l
def cU8 (b : UInt8) : List D := [.int .u8 b.toNat]
def cB (b : Bool) : List D := [.bool b]
theorem erL_app : ∀ l l' : List D, erL (l ++ l') = erL l ++ erL l'
  | [], _ => rfl
  | x :: r, l' => by simp [erL, erL_app r]
theorem er_cI (n : Int) : erL (cI n) = cI (plI n) := rfl
theorem er_cStr (s : List UInt8) : erL (cStr s) = cStr (plStr s) := rfl
/-! slices -/
section
variable {α β : Type}
def plS (pl : α → β) (s : Sl α) : List β := s.xs.map pl
def whS (wh : α → Prop) (s : Sl α) : Prop := s.wh ∧ ∀ a ∈ s.xs, wh a
def okS (ok : α → Prop) (s : Sl α) : Prop := s.xs.length ≤ maxLen ∧ ∀ a ∈ s.xs, ok a
end
theorem erLL_map {α β : Type} {c : α → List D} {e : β → List D} {pl : α → β} (h : ∀ a, erL (c a) = e (pl a)) (l : List α) : erLL (l.map c) = (l.map pl).map e := by
  induction l with
  | nil => rfl
  | cons a r ih => simp only [List.map_cons, erLL, h a, ih]
theorem er_dSl {α β : Type} {c : α → List D} {e : β → List D} {pl : α → β} (h : ∀ a, erL (c a) = e (pl a)) (s : Sl α) : (dSl c s).er = pS e (plS pl s) := by
  simp only [dSl, D.er, pS, erLL_map h, plS]
theorem er_cS {α β : Type} {c : α → List D} {e : β → List D} {pl : α → β} (h : ∀ a, erL (c a) = e (pl a)) (s : Sl α) : erL (cS c s) = cP e (plS pl s) := by
  simp only [cS, cP, erL, er_dSl h]
structure File where
  name : List UInt8
  data : List UInt8
instance : Inhabited File := ⟨⟨default, default⟩⟩
structure PFile where
  name : List UInt8
  data : List UInt8
instance : Inhabited PFile := ⟨⟨default, default⟩⟩
instance : DecidableEq PFile := fun a b => decidable_of_iff (a.name = b.name ∧ a.data = b.data) (by cases a; cases b; simp)
def eFile (a : PFile) : List D := cStr a.name ++ cStr a.data
def cFile (a : File) : List D := cStr a.name ++ cStr a.data
def plFile (a : File) : PFile := ⟨plStr a.name, plStr a.data⟩
@[simp] theorem tk_cFile (a : File) : tkL (cFile a) = true := by simp only [cFile, tkL_app, tk_cStr, tk_cStr, Bool.and_self]
@[simp] theorem hp_cFile (a : File) : hpL (cFile a) = false := by simp [cFile]
@[simp] theorem hpLL_mapFile (l : List File) : hpLL (l.map cFile) = false := hpLL_map hp_cFile l
theorem er_cFile (a : File) : erL (cFile a) = eFile (plFile a) := by simp only [cFile, eFile, plFile, erL_app, er_cStr, er_cStr]
@[simp] theorem plFile_name (a : File) : (plFile a).name = plStr a.name := rfl
@[simp] theorem plFile_data (a : File) : (plFile a).data = plStr a.data := rfl
def whFile (a : File) : Prop := whStr a.name ∧ whStr a.data
def okFile (a : File) : Prop := okStr a.name ∧ okStr a.data
structure Disk where
  files : Sl (File)
instance : Inhabited Disk := ⟨⟨default⟩⟩
structure PDisk where
  files : List (PFile)
instance : Inhabited PDisk := ⟨⟨default⟩⟩
instance : DecidableEq PDisk := fun a b => decidable_of_iff (a.files = b.files) (by cases a; cases b; simp)
def eDisk (a : PDisk) : List D := cP eFile a.files
def cDisk (a : Disk) : List D := cS cFile a.files
def plDisk (a : Disk) : PDisk := ⟨plS plFile a.files⟩
@[simp] theorem tk_cDisk (a : Disk) : tkL (cDisk a) = true := by simp only [cDisk, tkL_app, tk_cS _ tk_cFile, Bool.and_self]
@[simp] theorem hp_cDisk (a : Disk) : hpL (cDisk a) = false := by simp [cDisk]
@[simp] theorem hpLL_mapDisk (l : List Disk) : hpLL (l.map cDisk) = false := hpLL_map hp_cDisk l
@[simp] theorem plDisk_files (a : Disk) : (plDisk a).files = plS plFile a.files := rfl
def whDisk (a : Disk) : Prop := whS whFile a.files
def okDisk (a : Disk) : Prop := okS okFile a.files
structure Reln where
  ar : Int
  rows : Sl (Sl (Int))
instance : Inhabited Reln := ⟨⟨default, default⟩⟩
structure PReln where
  ar : Int
  rows : List (List (Int))
instance : Inhabited PReln := ⟨⟨default, default⟩⟩
instance : DecidableEq PReln := fun a b => decidable_of_iff (a.ar = b.ar ∧ a.rows = b.rows) (by cases a; cases b; simp)
def eReln (a : PReln) : List D := cI a.ar ++ cP (cP cI) a.rows
def cReln (a : Reln) : List D := cI a.ar ++ cS (cS cI) a.rows
def plReln (a : Reln) : PReln := ⟨plI a.ar, plS (plS plI) a.rows⟩
@[simp] theorem tk_cReln (a : Reln) : tkL (cReln a) = true := by simp only [cReln, tkL_app, tk_cI, tk_cS _ (fun s => tk_cS s tk_cI), Bool.and_self]
@[simp] theorem hp_cReln (a : Reln) : hpL (cReln a) = false := by simp [cReln]
@[simp] theorem hpLL_mapReln (l : List Reln) : hpLL (l.map cReln) = false := hpLL_map hp_cReln l
theorem er_cReln (a : Reln) : erL (cReln a) = eReln (plReln a) := by simp only [cReln, eReln, plReln, erL_app, er_cI, (er_cS (er_cS er_cI))]
@[simp] theorem plReln_ar (a : Reln) : (plReln a).ar = plI a.ar := rfl
@[simp] theorem plReln_rows (a : Reln) : (plReln a).rows = plS (plS plI) a.rows := rfl
def whReln (a : Reln) : Prop := whI a.ar ∧ whS (whS whI) a.rows
def okReln (a : Reln) : Prop := okI a.ar ∧ okS (okS okI) a.rows
structure Tab where
  name : List UInt8
  rel : Reln
instance : Inhabited Tab := ⟨⟨default, default⟩⟩
structure PTab where
  name : List UInt8
  rel : PReln
instance : Inhabited PTab := ⟨⟨default, default⟩⟩
instance : DecidableEq PTab := fun a b => decidable_of_iff (a.name = b.name ∧ a.rel = b.rel) (by cases a; cases b; simp)
def eTab (a : PTab) : List D := cStr a.name ++ eReln a.rel
def cTab (a : Tab) : List D := cStr a.name ++ cReln a.rel
def plTab (a : Tab) : PTab := ⟨plStr a.name, plReln a.rel⟩
@[simp] theorem tk_cTab (a : Tab) : tkL (cTab a) = true := by simp only [cTab, tkL_app, tk_cStr, tk_cReln, Bool.and_self]
@[simp] theorem hp_cTab (a : Tab) : hpL (cTab a) = false := by simp [cTab]
@[simp] theorem hpLL_mapTab (l : List Tab) : hpLL (l.map cTab) = false := hpLL_map hp_cTab l
theorem er_cTab (a : Tab) : erL (cTab a) = eTab (plTab a) := by simp only [cTab, eTab, plTab, erL_app, er_cStr, er_cReln]
@[simp] theorem plTab_name (a : Tab) : (plTab a).name = plStr a.name := rfl
@[simp] theorem plTab_rel (a : Tab) : (plTab a).rel = plReln a.rel := rfl
def whTab (a : Tab) : Prop := whStr a.name ∧ whReln a.rel
def okTab (a : Tab) : Prop := okStr a.name ∧ okReln a.rel
structure Db where
  tabs : Sl (Tab)
instance : Inhabited Db := ⟨⟨default⟩⟩
structure PDb where
  tabs : List (PTab)
instance : Inhabited PDb := ⟨⟨default⟩⟩
instance : DecidableEq PDb := fun a b => decidable_of_iff (a.tabs = b.tabs) (by cases a; cases b; simp)
def eDb (a : PDb) : List D := cP eTab a.tabs
def cDb (a : Db) : List D := cS cTab a.tabs
def plDb (a : Db) : PDb := ⟨plS plTab a.tabs⟩
@[simp] theorem tk_cDb (a : Db) : tkL (cDb a) = true := by simp only [cDb, tkL_app, tk_cS _ tk_cTab, Bool.and_self]
@[simp] theorem hp_cDb (a : Db) : hpL (cDb a) = false := by simp [cDb]
@[simp] theorem hpLL_mapDb (l : List Db) : hpLL (l.map cDb) = false := hpLL_map hp_cDb l
@[simp] theorem plDb_tabs (a : Db) : (plDb a).tabs = plS plTab a.tabs := rfl
def whDb (a : Db) : Prop := whS whTab a.tabs
def okDb (a : Db) : Prop := okS okTab a.tabs
structure Delta where
  name : List UInt8
  ins : Reln
  del : Reln
instance : Inhabited Delta := ⟨⟨default, default, default⟩⟩
structure PDelta where
  name : List UInt8
  ins : PReln
  del : PReln
instance : Inhabited PDelta := ⟨⟨default, default, default⟩⟩
instance : DecidableEq PDelta := fun a b => decidable_of_iff (a.name = b.name ∧ a.ins = b.ins ∧ a.del = b.del) (by cases a; cases b; simp)
def eDelta (a : PDelta) : List D := cStr a.name ++ eReln a.ins ++ eReln a.del
def cDelta (a : Delta) : List D := cStr a.name ++ cReln a.ins ++ cReln a.del
def plDelta (a : Delta) : PDelta := ⟨plStr a.name, plReln a.ins, plReln a.del⟩
@[simp] theorem tk_cDelta (a : Delta) : tkL (cDelta a) = true := by simp only [cDelta, tkL_app, tk_cStr, tk_cReln, tk_cReln, Bool.and_self]
@[simp] theorem hp_cDelta (a : Delta) : hpL (cDelta a) = false := by simp [cDelta]
@[simp] theorem hpLL_mapDelta (l : List Delta) : hpLL (l.map cDelta) = false := hpLL_map hp_cDelta l
@[simp] theorem plDelta_name (a : Delta) : (plDelta a).name = plStr a.name := rfl
@[simp] theorem plDelta_ins (a : Delta) : (plDelta a).ins = plReln a.ins := rfl
@[simp] theorem plDelta_del (a : Delta) : (plDelta a).del = plReln a.del := rfl
def okDelta (a : Delta) : Prop := okStr a.name ∧ okReln a.ins ∧ okReln a.del
structure Cnt where
  ar : Int
  rows : Sl (Sl (Int))
  cs : Sl (Int)
instance : Inhabited Cnt := ⟨⟨default, default, default⟩⟩
structure PCnt where
  ar : Int
  rows : List (List (Int))
  cs : List (Int)
instance : Inhabited PCnt := ⟨⟨default, default, default⟩⟩
instance : DecidableEq PCnt := fun a b => decidable_of_iff (a.ar = b.ar ∧ a.rows = b.rows ∧ a.cs = b.cs) (by cases a; cases b; simp)
def eCnt (a : PCnt) : List D := cI a.ar ++ cP (cP cI) a.rows ++ cP cI a.cs
def cCnt (a : Cnt) : List D := cI a.ar ++ cS (cS cI) a.rows ++ cS cI a.cs
def plCnt (a : Cnt) : PCnt := ⟨plI a.ar, plS (plS plI) a.rows, plS plI a.cs⟩
@[simp] theorem tk_cCnt (a : Cnt) : tkL (cCnt a) = true := by simp only [cCnt, tkL_app, tk_cI, tk_cS _ (fun s => tk_cS s tk_cI), tk_cS _ tk_cI, Bool.and_self]
@[simp] theorem hp_cCnt (a : Cnt) : hpL (cCnt a) = false := by simp [cCnt]
@[simp] theorem hpLL_mapCnt (l : List Cnt) : hpLL (l.map cCnt) = false := hpLL_map hp_cCnt l
@[simp] theorem plCnt_ar (a : Cnt) : (plCnt a).ar = plI a.ar := rfl
@[simp] theorem plCnt_rows (a : Cnt) : (plCnt a).rows = plS (plS plI) a.rows := rfl
@[simp] theorem plCnt_cs (a : Cnt) : (plCnt a).cs = plS plI a.cs := rfl
def whCnt (a : Cnt) : Prop := whI a.ar ∧ whS (whS whI) a.rows ∧ whS whI a.cs
def okCnt (a : Cnt) : Prop := okI a.ar ∧ okS (okS okI) a.rows ∧ okS okI a.cs
structure Atom where
  rel : List UInt8
  vars : Sl (Int)
instance : Inhabited Atom := ⟨⟨default, default⟩⟩
structure PAtom where
  rel : List UInt8
  vars : List (Int)
instance : Inhabited PAtom := ⟨⟨default, default⟩⟩
instance : DecidableEq PAtom := fun a b => decidable_of_iff (a.rel = b.rel ∧ a.vars = b.vars) (by cases a; cases b; simp)
def eAtom (a : PAtom) : List D := cStr a.rel ++ cP cI a.vars
def cAtom (a : Atom) : List D := cStr a.rel ++ cS cI a.vars
def plAtom (a : Atom) : PAtom := ⟨plStr a.rel, plS plI a.vars⟩
@[simp] theorem tk_cAtom (a : Atom) : tkL (cAtom a) = true := by simp only [cAtom, tkL_app, tk_cStr, tk_cS _ tk_cI, Bool.and_self]
@[simp] theorem hp_cAtom (a : Atom) : hpL (cAtom a) = false := by simp [cAtom]
@[simp] theorem hpLL_mapAtom (l : List Atom) : hpLL (l.map cAtom) = false := hpLL_map hp_cAtom l
@[simp] theorem plAtom_rel (a : Atom) : (plAtom a).rel = plStr a.rel := rfl
@[simp] theorem plAtom_vars (a : Atom) : (plAtom a).vars = plS plI a.vars := rfl
structure Query where
  n : Int
  atoms : Sl (Atom)
  out : Sl (Int)
instance : Inhabited Query := ⟨⟨default, default, default⟩⟩
structure PQuery where
  n : Int
  atoms : List (PAtom)
  out : List (Int)
instance : Inhabited PQuery := ⟨⟨default, default, default⟩⟩
instance : DecidableEq PQuery := fun a b => decidable_of_iff (a.n = b.n ∧ a.atoms = b.atoms ∧ a.out = b.out) (by cases a; cases b; simp)
def eQuery (a : PQuery) : List D := cI a.n ++ cP eAtom a.atoms ++ cP cI a.out
def cQuery (a : Query) : List D := cI a.n ++ cS cAtom a.atoms ++ cS cI a.out
def plQuery (a : Query) : PQuery := ⟨plI a.n, plS plAtom a.atoms, plS plI a.out⟩
@[simp] theorem tk_cQuery (a : Query) : tkL (cQuery a) = true := by simp only [cQuery, tkL_app, tk_cI, tk_cS _ tk_cAtom, tk_cS _ tk_cI, Bool.and_self]
@[simp] theorem hp_cQuery (a : Query) : hpL (cQuery a) = false := by simp [cQuery]
@[simp] theorem hpLL_mapQuery (l : List Query) : hpLL (l.map cQuery) = false := hpLL_map hp_cQuery l
@[simp] theorem plQuery_n (a : Query) : (plQuery a).n = plI a.n := rfl
@[simp] theorem plQuery_atoms (a : Query) : (plQuery a).atoms = plS plAtom a.atoms := rfl
@[simp] theorem plQuery_out (a : Query) : (plQuery a).out = plS plI a.out := rfl
structure View where
  q : Query
  r : Cnt
instance : Inhabited View := ⟨⟨default, default⟩⟩
structure PView where
  q : PQuery
  r : PCnt
instance : Inhabited PView := ⟨⟨default, default⟩⟩
instance : DecidableEq PView := fun a b => decidable_of_iff (a.q = b.q ∧ a.r = b.r) (by cases a; cases b; simp)
def eView (a : PView) : List D := eQuery a.q ++ eCnt a.r
def cView (a : View) : List D := cQuery a.q ++ cCnt a.r
def plView (a : View) : PView := ⟨plQuery a.q, plCnt a.r⟩
@[simp] theorem tk_cView (a : View) : tkL (cView a) = true := by simp only [cView, tkL_app, tk_cQuery, tk_cCnt, Bool.and_self]
@[simp] theorem hp_cView (a : View) : hpL (cView a) = false := by simp [cView]
@[simp] theorem hpLL_mapView (l : List View) : hpLL (l.map cView) = false := hpLL_map hp_cView l
@[simp] theorem plView_q (a : View) : (plView a).q = plQuery a.q := rfl
@[simp] theorem plView_r (a : View) : (plView a).r = plCnt a.r := rfl
structure Dec where
  bags : Sl (Sl (Int))
  par : Sl (Int)
instance : Inhabited Dec := ⟨⟨default, default⟩⟩
structure PDec where
  bags : List (List (Int))
  par : List (Int)
instance : Inhabited PDec := ⟨⟨default, default⟩⟩
instance : DecidableEq PDec := fun a b => decidable_of_iff (a.bags = b.bags ∧ a.par = b.par) (by cases a; cases b; simp)
def eDec (a : PDec) : List D := cP (cP cI) a.bags ++ cP cI a.par
def cDec (a : Dec) : List D := cS (cS cI) a.bags ++ cS cI a.par
def plDec (a : Dec) : PDec := ⟨plS (plS plI) a.bags, plS plI a.par⟩
@[simp] theorem tk_cDec (a : Dec) : tkL (cDec a) = true := by simp only [cDec, tkL_app, tk_cS _ (fun s => tk_cS s tk_cI), tk_cS _ tk_cI, Bool.and_self]
@[simp] theorem hp_cDec (a : Dec) : hpL (cDec a) = false := by simp [cDec]
@[simp] theorem hpLL_mapDec (l : List Dec) : hpLL (l.map cDec) = false := hpLL_map hp_cDec l
@[simp] theorem plDec_bags (a : Dec) : (plDec a).bags = plS (plS plI) a.bags := rfl
@[simp] theorem plDec_par (a : Dec) : (plDec a).par = plS plI a.par := rfl
structure VRel where
  vars : Sl (Int)
  rel : Reln
instance : Inhabited VRel := ⟨⟨default, default⟩⟩
structure PVRel where
  vars : List (Int)
  rel : PReln
instance : Inhabited PVRel := ⟨⟨default, default⟩⟩
instance : DecidableEq PVRel := fun a b => decidable_of_iff (a.vars = b.vars ∧ a.rel = b.rel) (by cases a; cases b; simp)
def eVRel (a : PVRel) : List D := cP cI a.vars ++ eReln a.rel
def cVRel (a : VRel) : List D := cS cI a.vars ++ cReln a.rel
def plVRel (a : VRel) : PVRel := ⟨plS plI a.vars, plReln a.rel⟩
@[simp] theorem tk_cVRel (a : VRel) : tkL (cVRel a) = true := by simp only [cVRel, tkL_app, tk_cS _ tk_cI, tk_cReln, Bool.and_self]
@[simp] theorem hp_cVRel (a : VRel) : hpL (cVRel a) = false := by simp [cVRel]
@[simp] theorem hpLL_mapVRel (l : List VRel) : hpLL (l.map cVRel) = false := hpLL_map hp_cVRel l
@[simp] theorem plVRel_vars (a : VRel) : (plVRel a).vars = plS plI a.vars := rfl
@[simp] theorem plVRel_rel (a : VRel) : (plVRel a).rel = plReln a.rel := rfl
structure Hist where
  first : Int
  dbs : Sl (Db)
instance : Inhabited Hist := ⟨⟨default, default⟩⟩
structure PHist where
  first : Int
  dbs : List (PDb)
instance : Inhabited PHist := ⟨⟨default, default⟩⟩
instance : DecidableEq PHist := fun a b => decidable_of_iff (a.first = b.first ∧ a.dbs = b.dbs) (by cases a; cases b; simp)
def eHist (a : PHist) : List D := cI a.first ++ cP eDb a.dbs
def cHist (a : Hist) : List D := cI a.first ++ cS cDb a.dbs
def plHist (a : Hist) : PHist := ⟨plI a.first, plS plDb a.dbs⟩
@[simp] theorem tk_cHist (a : Hist) : tkL (cHist a) = true := by simp only [cHist, tkL_app, tk_cI, tk_cS _ tk_cDb, Bool.and_self]
@[simp] theorem hp_cHist (a : Hist) : hpL (cHist a) = false := by simp [cHist]
@[simp] theorem hpLL_mapHist (l : List Hist) : hpLL (l.map cHist) = false := hpLL_map hp_cHist l
@[simp] theorem plHist_first (a : Hist) : (plHist a).first = plI a.first := rfl
@[simp] theorem plHist_dbs (a : Hist) : (plHist a).dbs = plS plDb a.dbs := rfl
structure Rat where
  num : Int
  den : Int
instance : Inhabited Rat := ⟨⟨default, default⟩⟩
structure PRat where
  num : Int
  den : Int
instance : Inhabited PRat := ⟨⟨default, default⟩⟩
instance : DecidableEq PRat := fun a b => decidable_of_iff (a.num = b.num ∧ a.den = b.den) (by cases a; cases b; simp)
def eRat (a : PRat) : List D := cI a.num ++ cI a.den
def cRat (a : Rat) : List D := cI a.num ++ cI a.den
def plRat (a : Rat) : PRat := ⟨plI a.num, plI a.den⟩
@[simp] theorem tk_cRat (a : Rat) : tkL (cRat a) = true := by simp only [cRat, tkL_app, tk_cI, tk_cI, Bool.and_self]
@[simp] theorem hp_cRat (a : Rat) : hpL (cRat a) = false := by simp [cRat]
@[simp] theorem hpLL_mapRat (l : List Rat) : hpLL (l.map cRat) = false := hpLL_map hp_cRat l
@[simp] theorem plRat_num (a : Rat) : (plRat a).num = plI a.num := rfl
@[simp] theorem plRat_den (a : Rat) : (plRat a).den = plI a.den := rfl
structure PForest where
  par : List (Int)
instance : Inhabited PForest := ⟨⟨default⟩⟩
instance : DecidableEq PForest := fun a b => decidable_of_iff (a.par = b.par) (by cases a; cases b; simp)
structure PCur where
  b : List (UInt8)
  i : Int
  h : Int
instance : Inhabited PCur := ⟨⟨default, default, default⟩⟩
instance : DecidableEq PCur := fun a b => decidable_of_iff (a.b = b.b ∧ a.i = b.i ∧ a.h = b.h) (by cases a; cases b; simp)
structure PLP where
  a : List (List (PRat))
  b : List (PRat)
  c : List (PRat)
instance : Inhabited PLP := ⟨⟨default, default, default⟩⟩
instance : DecidableEq PLP := fun a b => decidable_of_iff (a.a = b.a ∧ a.b = b.b ∧ a.c = b.c) (by cases a; cases b; simp)
end Go.Vs


namespace Go.Vs

theorem wr1 {i : Nat} (h : i < 9223372036854775807) : IntKind.i64.wrap ((i : Int) + 1) = (i : Int) + 1 := wrap64_of (by omega) (by omega)

@[simp] theorem ids_cStr (l : List (List UInt8)) : idsLL (l.map cStr) = [] := by
  induction l with
  | nil => rfl
  | cons a r ih => simp [idsLL, cStr, idsL, ih]

/-- cells of blocks that are all new (from n on), apart and whole -/
structure Good (cells : List D) (wh : Prop) (n : Nat) : Prop where
  nd : (idsL cells).Nodup
  lo : ∀ g ∈ idsL cells, n ≤ g
  wh : wh
theorem Good.le {cells : List D} {wh : Prop} {n m : Nat} (h : Good cells wh n) (hm : m ≤ n) : Good cells wh m := ⟨h.nd, fun g hg => Nat.le_trans hm (h.lo g hg), h.wh⟩
theorem Good.app {c1 c2 : List D} {w1 w2 : Prop} {n : Nat} (h1 : Good c1 w1 n) (h2 : Good c2 w2 n) (h : ∀ g, g ∈ idsL c1 → g ∈ idsL c2 → False) : Good (c1 ++ c2) (w1 ∧ w2) n := by
  refine ⟨?_, fun g hg => ?_, h1.wh, h2.wh⟩
  · rw [idsL_app]
    exact List.nodup_append.2 ⟨h1.nd, h2.nd, fun a ha b hb e => h a ha (e ▸ hb)⟩
  · rw [idsL_app] at hg
    rcases List.mem_append.1 hg with hg | hg
    · exact h1.lo g hg
    · exact h2.lo g hg
theorem good_I (n : Nat) (x : Int) : Good (cI x) (whI x) n := ⟨by simp [cI, idsL, D.ids], by simp [cI, idsL, D.ids], trivial⟩
theorem good_Str (n : Nat) (x : List UInt8) : Good (cStr x) (whStr x) n := ⟨by simp [cStr, idsL, D.ids], by simp [cStr, idsL, D.ids], trivial⟩

section
variable {α : Type} {c : α → List D} {wh : α → Prop}
theorem idsL_cS (s : Sl α) : idsL (cS c s) = (dSl c s).ids := by simp [cS, idsL]
theorem good_row {id : Option Nat} {T : TypeId × Nat} {xs : List α} {n : Nat} (h1 : ∀ g, id = some g → n ≤ g) (h2 : xs ≠ [] → id ≠ none) (h3 : ∀ g, id = some g → g ∉ idsLL (xs.map c))
    (h4 : (idsLL (xs.map c)).Nodup ∧ ∀ g ∈ idsLL (xs.map c), n ≤ g) (h5 : ∀ a ∈ xs, wh a) : Good (cS c ⟨id, some T, xs⟩) (whS wh ⟨id, some T, xs⟩) n := by
  refine ⟨?_, fun g hg => ?_, ⟨fun h => ?_, fun _ => rfl⟩, h5⟩
  · rw [idsL_cS]
    cases id with
    | none => simpa [dSl, D.ids] using h4.1
    | some g => simp only [dSl, D.ids, Option.toList, List.singleton_append, List.nodup_cons]; exact ⟨h3 g rfl, h4.1⟩
  · rw [idsL_cS] at hg
    rcases mem_sl_ids.1 hg with hg | hg
    · exact h1 g hg
    · exact h4.2 g hg
  · exact Classical.byContradiction fun hne => h2 hne h
/-- a list of such data, all made by now -/
structure GoodL (c : α → List D) (wh : α → Prop) (n h : Nat) (l : List α) : Prop where
  nd : (idsLL (l.map c)).Nodup
  lo : ∀ g ∈ idsLL (l.map c), n ≤ g
  hi : ∀ g ∈ idsLL (l.map c), g < h
  wh : ∀ a ∈ l, wh a
theorem GoodL.nil {n h : Nat} : GoodL c wh n h [] := ⟨by simp [idsLL], by simp [idsLL], by simp [idsLL], by simp⟩
theorem GoodL.snoc {n m h h' : Nat} {l : List α} {a : α} (hl : GoodL c wh n h l) (h1 : n ≤ m ∧ h ≤ m) (h2 : m ≤ h') (ha : Good (c a) (wh a) m) (hb : ∀ g ∈ idsL (c a), g < h') : GoodL c wh n h' (l ++ [a]) := by
  have e : idsLL ((l ++ [a]).map c) = idsLL (l.map c) ++ idsL (c a) := by simp [idsLL_append, idsLL]
  refine ⟨?_, fun g hg => ?_, fun g hg => ?_, fun b hb => ?_⟩
  · rw [e]
    refine List.nodup_append.2 ⟨hl.nd, ha.nd, fun x hx y hy hxy => ?_⟩
    have := hl.hi x hx
    have := ha.lo y hy
    omega
  · rw [e] at hg
    rcases List.mem_append.1 hg with hg | hg
    · exact hl.lo g hg
    · have := ha.lo g hg; omega
  · rw [e] at hg
    rcases List.mem_append.1 hg with hg | hg
    · have := hl.hi g hg; omega
    · exact hb g hg
  · rcases List.mem_append.1 hb with hb | hb
    · exact hl.wh b hb
    · rw [List.mem_singleton.1 hb]; exact ha.wh
theorem GoodL.le {n h h' : Nat} {l : List α} (hl : GoodL c wh n h l) (h1 : h ≤ h') : GoodL c wh n h' l := ⟨hl.nd, hl.lo, fun g hg => Nat.lt_of_lt_of_le (hl.hi g hg) h1, hl.wh⟩
end

/-! ### cells that were written, said anew -/
inductive Sim : List D → List D → Prop
  | nil : Sim [] []
  | leaf {x : D} {l l' : List D} (h : x.ids = []) (hr : Sim l l') (ht : x.tk = true := by rfl) : Sim (x :: l) (x :: l')
  | sl {β : Type} {c : β → List D} {s : Sl β} {ys : List β} {l l' : List D} (hc : ∀ a b, (c a).length = (c b).length) (hw : s.wh) (hl : ys.length = s.xs.length) (hr : Sim l l') : Sim (dSl c s :: l) (dSl c ⟨s.id, s.T, ys⟩ :: l')
theorem Sim.app {l l' m m' : List D} (h : Sim l l') (h' : Sim m m') : Sim (l ++ m) (l' ++ m') := by
  induction h with
  | nil => exact h'
  | leaf hx _ ht ih => exact .leaf hx ih ht
  | sl hc hw hl _ ih => exact .sl hc hw hl ih
theorem idsVL_map_d : ∀ l : List D, idsVL (l.map .d) = idsL l
  | [] => rfl
  | x :: r => by simp only [List.map_cons, idsVL, idsL, V.ids, idsVL_map_d r]
@[simp] theorem filt_cons (x : D) (r : List V) : List.filter isD (V.d x :: r) = V.d x :: List.filter isD r := rfl
@[simp] theorem filt_nil : List.filter isD [] = [] := rfl
@[simp] theorem dD_d (x : D) : dD (V.d x) = x := rfl
theorem ids_agg (l : List D) : (V.agg (l.map .d)).ids = idsL l := by simp only [V.ids]; exact idsVL_map_d l
end Go.Vs


namespace Go.Vs

theorem Lead.bind {K K' : St → Prop} {σ : St} (h : Lead K σ) (hk : ∀ σ', K σ' → Lead K' σ') : Lead K' σ := fun A0 N w0 ρ a w hR =>
  let ⟨σ', ρ', hR', hK⟩ := h A0 N w0 ρ a w hR; hk σ' hK A0 N w0 ρ' a w hR'

section
variable {A0 : Env} {N : Nat} {w0 : World} {ρ : Nat → Option (Nat × Nat)} {σ : St} {a : Act} {w : World}

theorem Rel.layNil (h : Rel A0 N w0 ρ σ a w) {K T sz : Nat} (hK : K ≠ 1000) (hsz : 0 < sz) : Rel A0 N w0 (upd ρ K none) (σ.lay K (.row T sz [])) a w :=
  h.lay K hK (.row T sz []) none h.below (Nat.le_refl _) (fun _ _ _ => rfl) (fun p hp => by cases hp) (fun _ _ => ⟨hsz, rfl⟩)

/-- a slot that holds nil: an empty row of ours -/
theorem lead_slot {σ : St} (s K T sz : Nat) (hK : K ≠ 1000) (hsz : 0 < sz) (hs : σ.t s = .d (.sl none none [])) :
    Lead (fun σ' => σ' = { σ.lay K (.row T sz []) with t := upd (σ.lay K (.row T sz [])).t s (.own K 0 0) }) σ := by
  intro A0 N w0 ρ a w h
  have h1 := h.layNil (T := T) hK hsz
  refine ⟨{ σ.lay K (.row T sz []) with t := upd (σ.lay K (.row T sz [])).t s (.own K 0 0) }, _, ⟨h1.below, h1.hN, h1.key, h1.norow, h1.hG, h1.hB, h1.hs, h1.hs0, h1.defers, h1.size, fun i => ?_, h1.mem, h1.inj⟩, rfl⟩
  simp only [upd]
  split
  · rename_i hi
    subst hi
    have hv := h.tmps i
    rw [hs] at hv
    simp only [VR] at hv
    generalize a.eval (.tmp i) = v at hv
    cases hv
    simp only [VR, lay_m_same, Blk.map]
    refine ⟨by simp, ?_⟩
    simp [OwnV]
  · exact h1.tmps i

theorem LR_set {ρ : Nat → Option (Nat × Nat)} {m : Nat → Option Blk} {S : Nat → Prop} {w : World} {l : List V} {vs : List Value} (h : LR ρ m S w l vs) (j : Nat) (x : V) (hx : ∀ v, vs[j]? = some v → VR ρ m S w x v) : LR ρ m S w (l.set j x) vs := by
  refine LR.of_get (by simpa using h.length) fun i c v hc hv => ?_
  rw [List.getElem?_set] at hc
  split at hc
  · rename_i hij
    subst hij
    split at hc
    · cases hc; exact hx v hv
    · cases hc
  · obtain ⟨u, hu, hd⟩ := h.get i c hc
    rw [hv] at hu; cases hu; exact hd

/-- a variable of ours with a cell that holds nil: that cell holds an empty row of ours -/
theorem lead_box {σ : St} (b j K T sz : Nat) (cs : List V) (hK : K ≠ 1000) (hbK : b ≠ K) (hsz : 0 < sz) (hb : σ.m b = some (.box cs)) (hj : cs[j]? = some (.d (.sl none none []))) :
    Lead (fun σ' => σ' = { σ.lay K (.row T sz []) with m := upd (σ.lay K (.row T sz [])).m b (some (.box ((cs.map (wipe K)).set j (.own K 0 0)))) }) σ := by
  intro A0 N w0 ρ a w h
  have h1 := h.layNil (T := T) hK hsz
  have hb1 : (σ.lay K (.row T sz [])).m b = some (.box (cs.map (wipe K))) := by rw [lay_m_ne _ _ _ _ hbK, hb]; rfl
  have hkc : ∀ k, KC (upd ρ K none) (σ.lay K (.row T sz [])).m (upd ρ K none) (upd (σ.lay K (.row T sz [])).m b (some (.box ((cs.map (wipe K)).set j (.own K 0 0))))) k := by
    intro k
    by_cases hk : k = b
    · subst hk; simp only [KC, upd, if_true]; exact ⟨trivial, _, hb1⟩
    · have := KC.refl (ρ := upd ρ K none) (m := (σ.lay K (.row T sz [])).m) k
      unfold KC at this ⊢
      simpa [upd, hk] using this
  refine ⟨_, _, h1.setBlk (b' := .box ((cs.map (wipe K)).set j (.own K 0 0))) hb1 rfl h1.below (Nat.le_refl _) (fun _ _ => rfl) hkc (fun hS hw => ?_), rfl⟩
  obtain ⟨g, cap, hr, hB, cur, T', hc, hl⟩ := h1.mem b _ hb1
  refine ⟨g, cap, hr, hB, cur, T', hc, LR_set (LR.mono hS hw hkc _ _ hl) j _ fun v hv => ?_⟩
  obtain ⟨g0, cap0, hr0, hB0, cur0, T0, hc0, hl0⟩ := h.mem b _ hb
  have hr' : ρ b = some (g, cap) := by simpa [upd, hbK] using hr
  rw [hr'] at hr0
  cases hr0
  rw [hc] at hc0
  cases hc0
  obtain ⟨u, hu, hd⟩ := hl0.get j _ hj
  rw [hv] at hu
  cases hu
  simp only [VR] at hd
  cases hd
  simp only [VR, upd, Ne.symm hbK, if_false]
  rw [lay_m_same]
  simp [Blk.map, OwnV]
end

/-- the loop rule: entry by a state that is as good; the invariant may speak of the heap's size -/
theorem loop_ruleL {P : Program} {E : Md} {sch : Nat → Tr} {c : Code} {Q : Exit → St → Prop} {B hs0 : Nat} {W : List Nat} {t0 : Nat → V} {m0 : Nat → Option Blk} {X : Type} (Inv : X → Nat → Prop) (S : X → List (Nat × V)) (M : X → List (Nat × Option Blk)) (μ : X → Nat)
    (h0 : Lead (fun s => ∃ x, Inv x s.hs ∧ s.B = B ∧ s.W = W ∧ hs0 ≤ s.hs ∧ (∀ p ∈ S x, s.t p.1 = p.2) ∧ (∀ p ∈ M x, s.m p.1 = p.2)) ⟨B, hs0, W, t0, m0⟩)
    (hr : ∀ x hs t m, Inv x hs → hs0 ≤ hs → vwp P E sch c (backV2 Inv S M μ B W hs (μ x) Q) ⟨B, hs, W, updL t (S x), updL m (M x)⟩) : vloop P E sch c Q ⟨B, hs0, W, t0, m0⟩ := by
  refine ⟨fun n σ => ∃ x hs t m, Inv x hs ∧ μ x = n ∧ hs0 ≤ hs ∧ σ = ⟨B, hs, W, updL t (S x), updL m (M x)⟩, Lead.mono h0 ?_, ?_⟩
  · rintro s ⟨x, h1, h3, h7, h4, h5, h6⟩
    obtain ⟨B', hs', W', t', m'⟩ := s
    simp only at h1 h3 h7 h4 h5 h6
    subst h3 h7
    exact ⟨_, x, hs', t', m', h1, rfl, h4, by rw [updL_has h5, updL_has h6]⟩
  rintro n σ ⟨x, hs, t, m, hx, rfl, hhs, rfl⟩
  refine vwp_mono _ _ _ _ ?_ (hr x hs t m hx hhs)
  intro e σ he
  cases e with
  | normal =>
    refine Lead.mono he ?_
    rintro s ⟨x', h1, h2, h3, h7, h4, h5, h6⟩
    obtain ⟨B', hs', W', t', m'⟩ := s
    simp only at h1 h3 h7 h4 h5 h6
    subst h3 h7
    exact ⟨_, h2, x', hs', t', m', h1, rfl, Nat.le_trans hhs h4, by rw [updL_has h5, updL_has h6]⟩
  | _ => exact he
attribute [simp] St.frzs St.frz Vs.frz Vs.frzL
theorem gam_row2 {σ : St} {γ : Nat → Option Nat} {hs' k T sz k2 T2 sz2 : Nat} {es es2 : List (List D)} (hg : Gam σ γ hs') (hm : σ.m k = some (.row T sz es)) (hm2 : σ.m k2 = some (.row T2 sz2 es2)) : ∀ g, γ k = some g → g ∉ idsLL es2 :=
  fun g h => (hg.fr k T sz es g hm h).1.row k2 T2 sz2 es2 hm2
theorem GoodL.snoc2 {α : Type} {c : α → List D} {wh : α → Prop} {n h h' : Nat} {l : List α} {a : α} (hl : GoodL c wh n h l) (h1 : h ≤ h') (ha : Good (c a) (wh a) n) (hd : ∀ g ∈ idsL (c a), g ∉ idsLL (l.map c)) (hb : ∀ g ∈ idsL (c a), g < h') : GoodL c wh n h' (l ++ [a]) := by
  have e : idsLL ((l ++ [a]).map c) = idsLL (l.map c) ++ idsL (c a) := by simp [idsLL_append, idsLL]
  refine ⟨?_, fun g hg => ?_, fun g hg => ?_, fun b hb => ?_⟩
  · rw [e]
    exact List.nodup_append.2 ⟨hl.nd, ha.nd, fun x hx y hy hxy => hd y hy (hxy ▸ hx)⟩
  · rw [e] at hg
    rcases List.mem_append.1 hg with hg | hg
    · exact hl.lo g hg
    · exact ha.lo g hg
  · rw [e] at hg
    rcases List.mem_append.1 hg with hg | hg
    · have := hl.hi g hg; omega
    · exact hb g hg
  · rcases List.mem_append.1 hb with hb | hb
    · exact hl.wh b hb
    · rw [List.mem_singleton.1 hb]; exact ha.wh
end Go.Vs


namespace Go.Vs
/-! ### equality, as the plain walks meet it -/
@[simp] theorem beq_int (a b : Int) : (a == b) = decide (a = b) := by by_cases h : a = b <;> simp [h]
@[simp] theorem bne_int (a b : Int) : (a != b) = !decide (a = b) := by by_cases h : a = b <;> simp [h]
@[simp] theorem beq_bytes (a b : List UInt8) : (a == b) = decide (a = b) := by by_cases h : a = b <;> simp [h]
@[simp] theorem castdec (a b : Nat) : ((a : Int) = (b : Int)) = (a = b) := propext ⟨fun h => by omega, fun h => by omega⟩
theorem VC.to {P : Program} {f : FuncId} {As : List V} {v v' : V} (h : VC P f As (fun _ r => r = v)) (e : v = v') : VC P f As (fun _ r => r = v') := e ▸ h
/-! ### typed data, known by elements only -/
theorem er_SI (s : Sl (Sl Int)) : (dSl (cS cI) s).er = pS (cP cI) (plS (plS plI) s) := er_dSl (er_cS er_cI) s
theorem er_Tab (s : Sl Tab) : (dSl cTab s).er = pS eTab (plS plTab s) := er_dSl er_cTab s
theorem plI_id (n : Int) : plI n = n := rfl
theorem plStr_id (s : List UInt8) : plStr s = s := rfl
theorem map_plI (l : List Int) : l.map plI = l := by induction l with | nil => rfl | cons a r ih => simp [plI_id, ih]
theorem map_plStr (l : List (List UInt8)) : l.map plStr = l := by induction l with | nil => rfl | cons a r ih => simp [plStr_id, ih]
/-- a row of ours becomes data known by elements only -/
theorem lead_frp {σ : St} (k : Nat) {T sz : Nat} {es : List (List D)} (hm : σ.m k = some (.row T sz es)) : Lead (fun σ' => σ' = σ.frp k es) σ :=
  fun _ _ _ ρ _ _ hR => ⟨_, ρ, hR.frp hm, rfl⟩
end Go.Vs


namespace Go.Vs
attribute [local simp] plI_id plStr_id map_plI map_plStr pS cP cI cStr cU8 cB
open Go.RowKit
/-! ### what is known by its elements has blocks too -/
mutual
/-- all of it is known by elements only -/
def D.pn : D → Bool
  | .sl .. => false
  | .pl es => pnLL es
  | _ => true
def pnL : List D → Bool
  | [] => true
  | x :: r => x.pn && pnL r
def pnLL : List (List D) → Bool
  | [] => true
  | x :: r => pnL x && pnLL r
end
mutual
def V.pn : V → Bool
  | .d x => x.pn
  | .agg cs => pnVL cs
  | .tup cs => pnVL cs
  | _ => false
def pnVL : List V → Bool
  | [] => true
  | x :: r => x.pn && pnVL r
end
theorem pnL_at {l : List D} (h : pnL l = true) {i : Nat} {x : D} (hx : l[i]? = some x) : x.pn = true := by
  induction l generalizing i with
  | nil => simp at hx
  | cons y r ih =>
    simp only [pnL, Bool.and_eq_true] at h
    cases i with
    | zero => simp at hx; rw [← hx]; exact h.1
    | succ i => exact ih h.2 (by simpa using hx)
theorem pnLL_at {l : List (List D)} (h : pnLL l = true) {i : Nat} {x : List D} (hx : l[i]? = some x) : pnL x = true := by
  induction l generalizing i with
  | nil => simp at hx
  | cons y r ih =>
    simp only [pnLL, Bool.and_eq_true] at h
    cases i with
    | zero => simp at hx; rw [← hx]; exact h.1
    | succ i => exact ih h.2 (by simpa using hx)
theorem tk_hp {x : D} (h : x.tk = true) : x.hp = false := by
  cases x with
  | pl => cases h
  | _ => rfl
/-- a list of rows whose elements are chosen one by one -/
theorem pick_rows {Q : D → D → Nat → Nat → Prop} : ∀ (es : List (List D)) (k : Nat), (∀ (i : Nat) (e : List D), es[i]? = some e → ∀ (j : Nat) (u : D), e[j]? = some u → ∃ y, y.er = u ∧ y.tk = true ∧ Q u y (k + i) j) →
    ∃ es' : List (List D), erLL es' = es ∧ tkLL es' = true ∧ ∀ (i : Nat) (e : List D), es'[i]? = some e → ∃ e0, es[i]? = some e0 ∧ e.length = e0.length ∧ ∀ (j : Nat) (y : D), e[j]? = some y → ∃ u, e0[j]? = some u ∧ Q u y (k + i) j
  | [], k, _ => ⟨[], rfl, rfl, by simp⟩
  | e :: r, k, h => by
    have row : ∀ (e : List D) (q : Nat), (∀ (j : Nat) (u : D), e[j]? = some u → ∃ y, y.er = u ∧ y.tk = true ∧ Q u y k (q + j)) →
        ∃ e' : List D, erL e' = e ∧ tkL e' = true ∧ ∀ (j : Nat) (y : D), e'[j]? = some y → ∃ u, e[j]? = some u ∧ Q u y k (q + j) := by
      intro e
      induction e with
      | nil => intro q _; exact ⟨[], rfl, rfl, by simp⟩
      | cons x s ih =>
        intro q hx
        obtain ⟨y, h1, h2, h3⟩ := hx 0 x rfl
        obtain ⟨s', h4, h5, h6⟩ := ih (q + 1) fun j u hu => by
          have := hx (j + 1) u (by simpa using hu)
          rwa [show q + (j + 1) = q + 1 + j by omega] at this
        refine ⟨y :: s', by simp only [erL, h1, h4], by simp only [tkL, h2, h5, Bool.and_self], fun j z hz => ?_⟩
        cases j with
        | zero => simp at hz; subst hz; exact ⟨x, rfl, h3⟩
        | succ j =>
          obtain ⟨u, hu, hq⟩ := h6 j z (by simpa using hz)
          exact ⟨u, by simpa using hu, by rwa [show q + (j + 1) = q + 1 + j by omega]⟩
    obtain ⟨e', h1, h2, h3⟩ := row e 0 fun j u hu => by simpa using h 0 e rfl j u hu
    obtain ⟨r', h4, h5, h6⟩ := pick_rows (Q := Q) r (k + 1) fun i e he j u hu => by
      have := h (i + 1) e (by simpa using he) j u hu
      rwa [show k + (i + 1) = k + 1 + i by omega] at this
    refine ⟨e' :: r', by simp only [erLL, h1, h4], by simp only [tkLL, h2, h5, Bool.and_self], fun i f hf => ?_⟩
    cases i with
    | zero =>
      simp at hf; subst hf
      exact ⟨e, rfl, by rw [← h1, erL_len], fun j y hy => by simpa using h3 j y hy⟩
    | succ i =>
      obtain ⟨e0, h7, h8, h9⟩ := h6 i f (by simpa using hf)
      exact ⟨e0, by simpa using h7, h8, fun j y hy => by
        obtain ⟨u, hu, hq⟩ := h9 j y hy
        exact ⟨u, hu, by rwa [show k + (i + 1) = k + 1 + i by omega]⟩⟩

theorem DR.track {S : Nat → Prop} {w : World} {x : D} {v : Value} (h : DR S w x v) : x.pn = true → ∃ y, DR S w y v ∧ y.er = x ∧ y.tk = true := by
  induction h with
  | bool b => intro _; exact ⟨_, .bool b, rfl, rfl⟩
  | int k n => intro _; exact ⟨_, .int k n, rfl, rfl⟩
  | str s => intro _; exact ⟨_, .str s, rfl, rfl⟩
  | nil T => intro h; cases h
  | emp t a => intro h; cases h
  | sl => intro h; cases h
  | pl es a cap sz vs hg hn hcap hm hsz hc hd ih =>
    intro hp
    simp only [D.pn] at hp
    by_cases h0 : 0 < cap
    · obtain ⟨p, rfl⟩ := Option.ne_none_iff_exists'.1 (hn h0)
      obtain ⟨es', h1, h2, h3⟩ := pick_rows (Q := fun u y i j => DR S w y (vs (i * sz + j))) es 0 fun i e he j u hu => by
        obtain ⟨y, h4, h5, h6⟩ := ih i e he j u hu (pnL_at (pnLL_at hp he) hu)
        exact ⟨y, h5, h6, by simpa using h4⟩
      have hl : es'.length = es.length := by rw [← h1, erLL_len]
      refine ⟨.sl (some p.block) none es', ?_, by simp only [D.er, h1], by simp only [D.tk, h2]⟩
      rw [← hl]
      refine .sl p.block none es' p cap sz vs (hg p rfl h0) (fun _ => rfl) (by omega) hm (fun i e he => ?_) (fun i e he j u hu => ?_) (fun i e he j u hu => ?_) (by simp) ?_
      · obtain ⟨e0, h4, h5, _⟩ := h3 i e he
        rw [h5]; exact hsz i e0 h4
      · obtain ⟨e0, h4, h5, h6⟩ := h3 i e he
        obtain ⟨u0, h7, h8⟩ := h6 j u hu
        exact hc p rfl i e0 h4 j u0 h7
      · obtain ⟨e0, h4, h5, h6⟩ := h3 i e he
        obtain ⟨u0, h7, h8⟩ := h6 j u hu
        simpa using h8
      · simp only [hpLL, hpL, List.any_eq_false, List.mem_iff_getElem?, Bool.not_eq_true]
        rintro e ⟨i, hi⟩ u ⟨j, hj⟩
        have h4 := tkLL_at h2 hi
        have : ∀ (l : List D), tkL l = true → ∀ (j : Nat) (u : D), l[j]? = some u → u.tk = true := by
          intro l
          induction l with
          | nil => simp
          | cons a r ih =>
            intro ht j u hu
            simp only [tkL, Bool.and_eq_true] at ht
            cases j with
            | zero => simp at hu; rw [← hu]; exact ht.1
            | succ j => exact ih ht.2 j u (by simpa using hu)
        exact tk_hp (this e h4 j u hj)
    · have hc0 : cap = 0 := by omega
      subst hc0
      have he : es = [] := List.eq_nil_of_length_eq_zero (by omega)
      subst he
      exact ⟨.sl none (some (0, 0)) [], .emp _ a, rfl, rfl⟩

mutual
theorem VR.track {S : Nat → Prop} {w : World} : ∀ (x : V) (v : Value), x.pn = true → VR (fun _ => none) (fun _ => none) S w x v →
    ∃ y, VR (fun _ => none) (fun _ => none) S w y v ∧ rp (fun _ => none) y = some x ∧ y.tk = true ∧ rd (fun _ => none) (fun _ => none) y = some y
  | .d x, v, hp, h => by
    simp only [VR] at h
    obtain ⟨y, h1, h2, h3⟩ := h.track (by simpa [V.pn] using hp)
    exact ⟨.d y, by simpa only [VR] using h1, by simp only [rp, h2], by simpa only [V.tk] using h3, rfl⟩
  | .own _ _ _, _, hp, _ => by simp [V.pn] at hp
  | .ptr _ _ _, _, hp, _ => by simp [V.pn] at hp
  | .fptr _ _ _, _, hp, _ => by simp [V.pn] at hp
  | .bad, _, hp, _ => by simp [V.pn] at hp
  | .agg cs, v, hp, h => by
    simp only [VR] at h
    obtain ⟨l, h1, h2⟩ := h
    obtain ⟨ys, h3, h4, h5, h6⟩ := LR.track cs l (by simpa [V.pn] using hp) h2
    exact ⟨.agg ys, by simp only [VR]; exact ⟨l, h1, h3⟩, by simp only [rp, h4, Option.map_some], by simpa only [V.tk] using h5, by simp only [rd, h6, Option.map_some]⟩
  | .tup cs, v, hp, h => by
    simp only [VR] at h
    obtain ⟨l, h1, h2⟩ := h
    obtain ⟨ys, h3, h4, h5, h6⟩ := LR.track cs l (by simpa [V.pn] using hp) h2
    exact ⟨.tup ys, by simp only [VR]; exact ⟨l, h1, h3⟩, by simp only [rp, h4, Option.map_some], by simpa only [V.tk] using h5, by simp only [rd, h6, Option.map_some]⟩
theorem LR.track {S : Nat → Prop} {w : World} : ∀ (x : List V) (v : List Value), pnVL x = true → LR (fun _ => none) (fun _ => none) S w x v →
    ∃ y, LR (fun _ => none) (fun _ => none) S w y v ∧ rpL (fun _ => none) y = some x ∧ tkVL y = true ∧ rdL (fun _ => none) (fun _ => none) y = some y
  | [], [], _, _ => ⟨[], by simp [LR], rfl, rfl, rfl⟩
  | [], _ :: _, _, h => by simp [LR] at h
  | _ :: _, [], _, h => by simp [LR] at h
  | c :: cs, v :: l, hp, h => by
    simp only [LR] at h
    simp only [pnVL, Bool.and_eq_true] at hp
    obtain ⟨y, h1, h2, h3, h4⟩ := VR.track c v hp.1 h.1
    obtain ⟨ys, h5, h6, h7, h8⟩ := LR.track cs l hp.2 h.2
    exact ⟨y :: ys, by simp only [LR]; exact ⟨h1, h5⟩, by simp only [rpL, h2, h6], by simp only [tkVL, h3, h7, Bool.and_self], by simp only [rdL, h4, h8]⟩
end

mutual
theorem VR.er {S : Nat → Prop} {w : World} : ∀ (v : V) (val : Value) (r : V), VR (fun _ => none) (fun _ => none) S w v val → rp (fun _ => none) v = some r → VR (fun _ => none) (fun _ => none) S w r val
  | .d x, val, r, hv, hr => by
    simp only [rp, Option.some.injEq] at hr
    subst hr
    simp only [VR] at hv ⊢
    exact hv.er
  | .own k lo n, val, r, hv, hr => by simp [rp] at hr
  | .ptr _ _ _, _, _, _, hr => by simp [rp] at hr
  | .fptr _ _ _, _, _, _, hr => by simp [rp] at hr
  | .bad, _, _, _, hr => by simp [rp] at hr
  | .agg cs, val, r, hv, hr => by
    simp only [rp] at hr
    cases hl : rpL (fun _ => none) cs with
    | none => simp [hl] at hr
    | some rs =>
      simp only [hl, Option.map_some, Option.some.injEq] at hr
      subst hr
      simp only [VR] at hv ⊢
      obtain ⟨l, h1, h2⟩ := hv
      exact ⟨l, h1, LR.er cs l rs h2 hl⟩
  | .tup cs, val, r, hv, hr => by
    simp only [rp] at hr
    cases hl : rpL (fun _ => none) cs with
    | none => simp [hl] at hr
    | some rs =>
      simp only [hl, Option.map_some, Option.some.injEq] at hr
      subst hr
      simp only [VR] at hv ⊢
      obtain ⟨l, h1, h2⟩ := hv
      exact ⟨l, h1, LR.er cs l rs h2 hl⟩
theorem LR.er {S : Nat → Prop} {w : World} : ∀ (l : List V) (vals : List Value) (rs : List V), LR (fun _ => none) (fun _ => none) S w l vals → rpL (fun _ => none) l = some rs → LR (fun _ => none) (fun _ => none) S w rs vals
  | [], [], rs, _, hr => by simp [rpL] at hr; subst hr; simp [LR]
  | [], _ :: _, _, hl, _ => by simp [LR] at hl
  | _ :: _, [], _, hl, _ => by simp [LR] at hl
  | c :: cs, v :: l, rs, hl, hr => by
    simp only [LR] at hl
    simp only [rpL] at hr
    cases h1 : rp (fun _ => none) c with
    | none => simp [h1] at hr
    | some x =>
      cases h2 : rpL (fun _ => none) cs with
      | none => simp [h1, h2] at hr
      | some r =>
        simp only [h1, h2, Option.some.injEq] at hr
        subst hr
        simp only [LR]
        exact ⟨VR.er c v x hl.1 h1, LR.er cs l r hl.2 h2⟩
end


/-- a contract on what is known by elements, as one on what has blocks -/
theorem VC.track {P : Program} {f : FuncId} {As Ps : List V} {v : V} (h : VC P f Ps (fun _ r => r = v)) (hp : rpL (fun _ => none) As = some Ps) (hv : v.pn = true) :
    VC P f As (fun _ r => rp (fun _ => none) r = some v ∧ r.tk = true) := by
  refine ⟨h.1, fun w vals A hLR => ?_⟩
  refine (h.2 w vals A (LR.er _ _ _ hLR hp)).mono fun e w' he => ?_
  obtain ⟨v', r, rfl, hb, hvr, _, rfl⟩ := he
  obtain ⟨y, h1, h2, h3, h4⟩ := VR.track _ _ hv hvr
  exact ⟨v', y, rfl, hb, h1, h4, h2, h3⟩

/-! ### typed -/
/-- cells that read as the plain value p are the cells of a typed value -/
def Tk {α β : Type} (c : α → List D) (e : β → List D) (pl : α → β) : Prop := ∀ (l : List D) (p : β), tkL l = true → erL l = e p → ∃ a, l = c a ∧ pl a = p
theorem Tk.mapS {α β : Type} {c : α → List D} {e : β → List D} {pl : α → β} (h : Tk c e pl) : ∀ (es : List (List D)) (ps : List β), tkLL es = true → erLL es = ps.map e → ∃ xs : List α, es = xs.map c ∧ xs.map pl = ps
  | [], [], _, _ => ⟨[], rfl, rfl⟩
  | [], _ :: _, _, h => by simp [erLL] at h
  | _ :: _, [], _, h => by simp [erLL] at h
  | x :: r, p :: ps, ht, he => by
    simp only [tkLL, Bool.and_eq_true] at ht
    simp only [erLL, List.map_cons, List.cons.injEq] at he
    obtain ⟨a, h1, h2⟩ := h x p ht.1 he.1
    obtain ⟨xs, h3, h4⟩ := Tk.mapS h r ps ht.2 he.2
    exact ⟨a :: xs, by rw [h1, h3]; rfl, by rw [List.map_cons, h2, h4]⟩
theorem tk_S {α β : Type} {c : α → List D} {e : β → List D} {pl : α → β} (h : Tk c e pl) : Tk (cS c) (cP e) (plS pl) := by
  intro l ps ht he
  simp only [cP, pS] at he
  match l, ht, he with
  | [], _, he => simp [erL] at he
  | x :: y :: r, _, he => simp [erL] at he
  | [x], ht, he =>
    simp only [erL, List.cons.injEq, and_true] at he
    simp only [tkL, Bool.and_true] at ht
    cases x with
    | sl id T es =>
      simp only [D.er, D.pl.injEq] at he
      simp only [D.tk] at ht
      obtain ⟨xs, h1, h2⟩ := h.mapS es ps ht he
      exact ⟨⟨id, T, xs⟩, by simp only [cS, dSl, h1], h2⟩
    | pl es => cases ht
    | _ => simp [D.er] at he
theorem tk_I : Tk cI cI plI := by
  intro l p ht he
  match l, ht, he with
  | [], _, he => simp [erL] at he
  | x :: y :: r, _, he => simp [erL] at he
  | [x], ht, he =>
    simp only [erL, cI, List.cons.injEq, and_true] at he
    refine ⟨p, ?_, rfl⟩
    cases x <;> simp [D.er] at he
    simp [he]
theorem tk_Str : Tk cStr cStr plStr := by
  intro l p ht he
  match l, ht, he with
  | [], _, he => simp [erL] at he
  | x :: y :: r, _, he => simp [erL] at he
  | [x], ht, he =>
    simp only [erL, cStr, List.cons.injEq, and_true] at he
    refine ⟨p, ?_, rfl⟩
    cases x <;> simp [D.er] at he
    simp [he]
theorem erL_split : ∀ (l a b : List D), erL l = a ++ b → ∃ l1 l2, l = l1 ++ l2 ∧ erL l1 = a ∧ erL l2 = b
  | l, [], b, h => ⟨[], l, rfl, rfl, by simpa using h⟩
  | [], x :: a, b, h => by simp [erL] at h
  | y :: l, x :: a, b, h => by
    simp only [erL, List.cons_append, List.cons.injEq] at h
    obtain ⟨l1, l2, h1, h2, h3⟩ := erL_split l a b h.2
    exact ⟨y :: l1, l2, by rw [h1]; rfl, by simp only [erL, h.1, h2], h3⟩
theorem tk_app {α β γ δ : Type} {c1 : α → List D} {e1 : β → List D} {p1 : α → β} {c2 : γ → List D} {e2 : δ → List D} {p2 : γ → δ} (h1 : Tk c1 e1 p1) (h2 : Tk c2 e2 p2) :
    Tk (fun x : α × γ => c1 x.1 ++ c2 x.2) (fun x : β × δ => e1 x.1 ++ e2 x.2) (fun x => (p1 x.1, p2 x.2)) := by
  intro l p ht he
  obtain ⟨l1, l2, rfl, h3, h4⟩ := erL_split l _ _ he
  simp only [tkL_app, Bool.and_eq_true] at ht
  obtain ⟨a, rfl, h5⟩ := h1 l1 p.1 ht.1 h3
  obtain ⟨b, rfl, h6⟩ := h2 l2 p.2 ht.2 h4
  exact ⟨(a, b), rfl, Prod.ext h5 h6⟩
theorem Tk.map {α β α' β' : Type} {c : α → List D} {e : β → List D} {p : α → β} {c' : α' → List D} {e' : β' → List D} {p' : α' → β'} (h : Tk c e p) (f : α → α') (g : β' → β) (hc : ∀ a, c' (f a) = c a) (he : ∀ b, e' b = e (g b)) (hp : ∀ a b, p a = g b → p' (f a) = b) : Tk c' e' p' := by
  intro l b ht hl
  rw [he] at hl
  obtain ⟨a, h1, h2⟩ := h l (g b) ht hl
  exact ⟨f a, by rw [hc, h1], hp a b h2⟩
/-- a struct's value -/
theorem rp_agg {α β : Type} {c : α → List D} {e : β → List D} {pl : α → β} (h : Tk c e pl) {r : V} {p : β} (hr : rp (fun _ => none) r = some (.agg ((e p).map .d))) (ht : r.tk = true) : ∃ a, r = .agg ((c a).map .d) ∧ pl a = p := by
  have key : ∀ (cs : List V) (l : List D), rpL (fun _ => none) cs = some (l.map .d) → ∃ l', cs = l'.map .d ∧ erL l' = l := by
    intro cs
    induction cs with
    | nil => intro l h; simp only [rpL, Option.some.injEq] at h; cases l with | nil => exact ⟨[], rfl, rfl⟩ | cons => simp at h
    | cons x s ih =>
      intro l h
      simp only [rpL] at h
      cases hx : rp (fun _ => none) x with
      | none => simp [hx] at h
      | some y =>
        cases hs : rpL (fun _ => none) s with
        | none => simp [hx, hs] at h
        | some ys =>
          simp only [hx, hs, Option.some.injEq] at h
          cases l with
          | nil => simp at h
          | cons d l =>
            simp only [List.map_cons, List.cons.injEq] at h
            obtain ⟨rfl, rfl⟩ := h
            obtain ⟨l', h1, h2⟩ := ih l hs
            cases x with
            | d z =>
              simp only [rp, Option.some.injEq, V.d.injEq] at hx
              exact ⟨z :: l', by rw [h1]; rfl, by simp only [erL, hx, h2]⟩
            | own => simp [rp] at hx
            | ptr => simp [rp] at hx
            | fptr => simp [rp] at hx
            | bad => simp [rp] at hx
            | agg zs => simp only [rp] at hx; cases hz : rpL (fun _ => none) zs <;> simp [hz] at hx
            | tup zs => simp only [rp] at hx; cases hz : rpL (fun _ => none) zs <;> simp [hz] at hx
  cases r with
  | agg cs =>
    simp only [rp] at hr
    cases hc : rpL (fun _ => none) cs with
    | none => simp [hc] at hr
    | some l =>
      simp only [hc, Option.map_some, Option.some.injEq, V.agg.injEq] at hr
      subst hr
      obtain ⟨l', rfl, h2⟩ := key cs _ hc
      have : tkL l' = true := by
        simp only [V.tk] at ht
        have : ∀ l : List D, tkVL (l.map V.d) = tkL l := by
          intro l; induction l with
          | nil => rfl
          | cons x r ih => simp only [List.map_cons, tkVL, V.tk, tkL, ih]
        rw [← this]; exact ht
      obtain ⟨a, rfl, h3⟩ := h l' p this h2
      exact ⟨a, rfl, h3⟩
  | d x => simp [rp] at hr
  | own => simp [rp] at hr
  | ptr => simp [rp] at hr
  | fptr => simp [rp] at hr
  | bad => simp [rp] at hr
  | tup cs => simp only [rp] at hr; cases hc : rpL (fun _ => none) cs <;> simp [hc] at hr
theorem rp_sl {α β : Type} {c : α → List D} {e : β → List D} {pl : α → β} (h : Tk c e pl) {r : V} {ps : List β} (hr : rp (fun _ => none) r = some (.d (pS e ps))) (ht : r.tk = true) : ∃ s : Sl α, r = .d (dSl c s) ∧ plS pl s = ps := by
  cases r with
  | d x =>
    simp only [rp, Option.some.injEq, V.d.injEq] at hr
    obtain ⟨s, h1, h2⟩ := tk_S h [x] ps (by simpa only [tkL, Bool.and_true, V.tk] using ht) (by simp only [erL, hr, cP])
    simp only [cS, List.cons.injEq, and_true] at h1
    exact ⟨s, by rw [h1], h2⟩
  | own => simp [rp] at hr
  | ptr => simp [rp] at hr
  | fptr => simp [rp] at hr
  | bad => simp [rp] at hr
  | agg cs => simp only [rp] at hr; cases hc : rpL (fun _ => none) cs <;> simp [hc] at hr
  | tup cs => simp only [rp] at hr; cases hc : rpL (fun _ => none) cs <;> simp [hc] at hr
theorem rp_flat {r : V} {x : D} (hr : rp (fun _ => none) r = some (.d x)) (hx : x.hp = false) : r = .d x := by
  cases r with
  | d y =>
    simp only [rp, Option.some.injEq, V.d.injEq] at hr
    cases y <;> simp only [D.er] at hr <;> subst hr <;> first | rfl | cases hx
  | own => simp [rp] at hr
  | ptr => simp [rp] at hr
  | fptr => simp [rp] at hr
  | bad => simp [rp] at hr
  | agg cs => simp only [rp] at hr; cases hc : rpL (fun _ => none) cs <;> simp [hc] at hr
  | tup cs => simp only [rp] at hr; cases hc : rpL (fun _ => none) cs <;> simp [hc] at hr
theorem rp_tup2 {r a b : V} (hr : rp (fun _ => none) r = some (.tup [a, b])) (ht : r.tk = true) : ∃ x y, r = .tup [x, y] ∧ rp (fun _ => none) x = some a ∧ rp (fun _ => none) y = some b ∧ x.tk = true ∧ y.tk = true := by
  cases r with
  | tup cs =>
    simp only [rp] at hr
    match cs, hr, ht with
    | [], hr, _ => simp [rpL] at hr
    | [x], hr, _ => simp only [rpL] at hr; cases hx : rp (fun _ => none) x <;> simp [hx] at hr
    | [x, y], hr, ht =>
      simp only [rpL] at hr
      cases hx : rp (fun _ => none) x with
      | none => simp [hx] at hr
      | some u =>
        cases hy : rp (fun _ => none) y with
        | none => simp [hx, hy] at hr
        | some v =>
          simp [hx, hy] at hr
          simp only [V.tk, tkVL, Bool.and_true, Bool.and_eq_true] at ht
          exact ⟨x, y, rfl, by rw [hx, hr.1], by rw [hy, hr.2], ht.1, ht.2⟩
    | x :: y :: z :: r, hr, _ =>
      simp only [rpL] at hr
      cases hx : rp (fun _ => none) x <;> cases hy : rp (fun _ => none) y <;> cases hz : rp (fun _ => none) z <;> cases hq : rpL (fun _ => none) r <;> simp [hx, hy, hz, hq] at hr
  | d x => simp [rp] at hr
  | own => simp [rp] at hr
  | ptr => simp [rp] at hr
  | fptr => simp [rp] at hr
  | bad => simp [rp] at hr
  | agg cs => simp only [rp] at hr; cases hc : rpL (fun _ => none) cs <;> simp [hc] at hr
end Go.Vs


namespace Go.Vs
attribute [local simp] plI_id plStr_id map_plI map_plStr pS cP cI cStr cU8 cB
theorem pn_cI (n : Int) : pnL (cI n) = true := rfl
theorem pn_cStr (s : List UInt8) : pnL (cStr s) = true := rfl
theorem pnLL_map {α : Type} {c : α → List D} (h : ∀ a, pnL (c a) = true) (l : List α) : pnLL (l.map c) = true := by
  induction l with
  | nil => rfl
  | cons a r ih => simp only [List.map_cons, pnLL, h a, ih, Bool.and_self]
theorem pn_pS {α : Type} {c : α → List D} (l : List α) (h : ∀ a, pnL (c a) = true) : (pS c l).pn = true := pnLL_map h l
theorem pn_cP {α : Type} {c : α → List D} (l : List α) (h : ∀ a, pnL (c a) = true) : pnL (cP c l) = true := by simp only [cP, pnL, pn_pS l h, Bool.and_self]
theorem pnL_app (l l' : List D) : pnL (l ++ l') = (pnL l && pnL l') := by
  induction l with
  | nil => simp [pnL]
  | cons x r ih => simp [pnL, ih, Bool.and_assoc]
theorem pnVL_d (l : List D) : pnVL (l.map .d) = pnL l := by
  induction l with
  | nil => rfl
  | cons x r ih => simp only [List.map_cons, pnVL, V.pn, pnL, ih]
attribute [simp] pnVL_d pnVL V.pn D.pn pnL pnLL
@[simp] theorem pn_pI (l : List Int) : pnLL (l.map cI) = true := pnLL_map pn_cI l
@[simp] theorem pn_pSI (l : List (List Int)) : pnLL (l.map (cP cI)) = true := pnLL_map (fun a => pn_cP a pn_cI) l
@[simp] theorem pn_pStr (l : List (List UInt8)) : pnLL (l.map cStr) = true := pnLL_map pn_cStr l
theorem tk_File : Tk cFile eFile plFile :=
  Tk.map (tk_app tk_Str tk_Str) (fun x => (⟨x.1, x.2⟩ : File)) (fun b => (b.name, b.data)) (fun _ => rfl) (fun _ => rfl) (fun x b h => by
    simp only [Prod.mk.injEq] at h
    cases b; simp_all [plFile])
@[simp] theorem pn_eFile (p : PFile) : pnL (eFile p) = true := by simp only [eFile, pnL_app, (pn_cStr _), (pn_cStr _), Bool.and_self]
@[simp] theorem pn_pFile (l : List PFile) : pnLL (l.map eFile) = true := pnLL_map pn_eFile l
@[simp] theorem pn_eDisk (p : PDisk) : pnL (eDisk p) = true := by simp only [eDisk, pnL_app, (pn_cP _ pn_eFile), Bool.and_self]
@[simp] theorem pn_pDisk (l : List PDisk) : pnLL (l.map eDisk) = true := pnLL_map pn_eDisk l
theorem tk_Reln : Tk cReln eReln plReln :=
  Tk.map (tk_app tk_I (tk_S (tk_S tk_I))) (fun x => (⟨x.1, x.2⟩ : Reln)) (fun b => (b.ar, b.rows)) (fun _ => rfl) (fun _ => rfl) (fun x b h => by
    simp only [Prod.mk.injEq] at h
    cases b; simp_all [plReln])
@[simp] theorem pn_eReln (p : PReln) : pnL (eReln p) = true := by simp only [eReln, pnL_app, (pn_cI _), (pn_cP _ (fun a => pn_cP a pn_cI)), Bool.and_self]
@[simp] theorem pn_pReln (l : List PReln) : pnLL (l.map eReln) = true := pnLL_map pn_eReln l
theorem tk_Tab : Tk cTab eTab plTab :=
  Tk.map (tk_app tk_Str tk_Reln) (fun x => (⟨x.1, x.2⟩ : Tab)) (fun b => (b.name, b.rel)) (fun _ => rfl) (fun _ => rfl) (fun x b h => by
    simp only [Prod.mk.injEq] at h
    cases b; simp_all [plTab])
@[simp] theorem pn_eTab (p : PTab) : pnL (eTab p) = true := by simp only [eTab, pnL_app, (pn_cStr _), (pn_eReln _), Bool.and_self]
@[simp] theorem pn_pTab (l : List PTab) : pnLL (l.map eTab) = true := pnLL_map pn_eTab l
theorem tk_Db : Tk cDb eDb plDb :=
  Tk.map (tk_S tk_Tab) (fun x => (⟨x⟩ : Db)) (fun b => b.tabs) (fun _ => rfl) (fun _ => rfl) (fun x b h => by
    cases b; simp_all [plDb])
@[simp] theorem pn_eDb (p : PDb) : pnL (eDb p) = true := by simp only [eDb, pnL_app, (pn_cP _ pn_eTab), Bool.and_self]
@[simp] theorem pn_pDb (l : List PDb) : pnLL (l.map eDb) = true := pnLL_map pn_eDb l
@[simp] theorem pn_eDelta (p : PDelta) : pnL (eDelta p) = true := by simp only [eDelta, pnL_app, (pn_cStr _), (pn_eReln _), (pn_eReln _), Bool.and_self]
@[simp] theorem pn_pDelta (l : List PDelta) : pnLL (l.map eDelta) = true := pnLL_map pn_eDelta l
@[simp] theorem pn_eCnt (p : PCnt) : pnL (eCnt p) = true := by simp only [eCnt, pnL_app, (pn_cI _), (pn_cP _ (fun a => pn_cP a pn_cI)), (pn_cP _ pn_cI), Bool.and_self]
@[simp] theorem pn_pCnt (l : List PCnt) : pnLL (l.map eCnt) = true := pnLL_map pn_eCnt l
@[simp] theorem pn_eAtom (p : PAtom) : pnL (eAtom p) = true := by simp only [eAtom, pnL_app, (pn_cStr _), (pn_cP _ pn_cI), Bool.and_self]
@[simp] theorem pn_pAtom (l : List PAtom) : pnLL (l.map eAtom) = true := pnLL_map pn_eAtom l
@[simp] theorem pn_eQuery (p : PQuery) : pnL (eQuery p) = true := by simp only [eQuery, pnL_app, (pn_cI _), (pn_cP _ pn_eAtom), (pn_cP _ pn_cI), Bool.and_self]
@[simp] theorem pn_pQuery (l : List PQuery) : pnLL (l.map eQuery) = true := pnLL_map pn_eQuery l
@[simp] theorem pn_eView (p : PView) : pnL (eView p) = true := by simp only [eView, pnL_app, (pn_eQuery _), (pn_eCnt _), Bool.and_self]
@[simp] theorem pn_pView (l : List PView) : pnLL (l.map eView) = true := pnLL_map pn_eView l
@[simp] theorem pn_eDec (p : PDec) : pnL (eDec p) = true := by simp only [eDec, pnL_app, (pn_cP _ (fun a => pn_cP a pn_cI)), (pn_cP _ pn_cI), Bool.and_self]
@[simp] theorem pn_pDec (l : List PDec) : pnLL (l.map eDec) = true := pnLL_map pn_eDec l
@[simp] theorem pn_eVRel (p : PVRel) : pnL (eVRel p) = true := by simp only [eVRel, pnL_app, (pn_cP _ pn_cI), (pn_eReln _), Bool.and_self]
@[simp] theorem pn_pVRel (l : List PVRel) : pnLL (l.map eVRel) = true := pnLL_map pn_eVRel l
@[simp] theorem pn_eHist (p : PHist) : pnL (eHist p) = true := by simp only [eHist, pnL_app, (pn_cI _), (pn_cP _ pn_eDb), Bool.and_self]
@[simp] theorem pn_pHist (l : List PHist) : pnLL (l.map eHist) = true := pnLL_map pn_eHist l
@[simp] theorem pn_eRat (p : PRat) : pnL (eRat p) = true := by simp only [eRat, pnL_app, (pn_cI _), (pn_cI _), Bool.and_self]
@[simp] theorem pn_pRat (l : List PRat) : pnLL (l.map eRat) = true := pnLL_map pn_eRat l
end Go.Vs


namespace Go.Vs
attribute [local simp] plI_id plStr_id map_plI map_plStr pS cP cI cStr cU8 cB
/-! ### freshness of structs that are put together -/
theorem good_Reln {n B : Nat} {ar : Int} {rows : Sl Ints} (G : Good (cS (cS cI) rows) (whS (whS whI) rows) n) (hB : B ≤ n) : Good (cReln ⟨ar, rows⟩) (whReln ⟨ar, rows⟩) B := by
  have K1 : Good (cI ar ++ cS (cS cI) rows) (whI ar ∧ whS (whS whI) rows) B := Good.app (good_I B ar) (G.le hB) (fun g h h' => by simp [cI, idsL, D.ids] at h)
  exact ⟨K1.nd, K1.lo, K1.wh.1, K1.wh.2⟩
def nilS {α : Type} : Sl α := ⟨none, none, []⟩
theorem good_Reln0 (B : Nat) : Good (cReln ⟨0, nilS⟩) (whReln ⟨0, nilS⟩) B :=
  ⟨by simp [cReln, nilS, cS, cI, dSl, idsL, D.ids, idsLL], by simp [cReln, nilS, cS, cI, dSl, idsL, D.ids, idsLL], ⟨trivial, ⟨⟨by simp [nilS], by simp [nilS]⟩, by simp [nilS]⟩⟩⟩
theorem ok_nilS {α : Type} {ok : α → Prop} : okS ok (nilS : Sl α) := ⟨by simp [nilS], by simp [nilS]⟩
end Go.Vs


namespace Go.Vs
attribute [local simp] plI_id plStr_id map_plI map_plStr pS cP cI cStr cU8 cB
/-! ### values and rows: plain -/
def inR (n lo hi : Int) : Bool := decide (lo ≤ n) && decide (n ≤ hi)
def valsOk (r : List Int) : Bool := r.all fun v => inR v 0 99
theorem all_step {α : Type} {p : α → Bool} {l : List α} {i : Nat} (h : i < l.length) : (l.take (i + 1)).all p = ((l.take i).all p && p l[i]) := by
  rw [List.take_succ_eq_append_getElem h, List.all_append]; simp
theorem all_bad {α : Type} {p : α → Bool} {l : List α} {i : Nat} (h : i < l.length) (hb : p l[i] = false) : l.all p = false := by
  rw [List.all_eq_false]
  exact ⟨l[i], List.getElem_mem h, by simp [hb]⟩
theorem all_done {α : Type} {p : α → Bool} {l : List α} {i : Nat} (h : l.length ≤ i) (ha : (l.take i).all p = true) : l.all p = true := by
  rwa [List.take_of_length_le h] at ha
/-- of all elements before place i -/
def AllTo {α : Type} (p : α → Bool) (l : List α) (i : Nat) : Prop := (l.take i).all p = true
theorem allTo_zero {α : Type} {p : α → Bool} {l : List α} : AllTo p l 0 := by simp [AllTo]
theorem allTo_step {α : Type} {p : α → Bool} {l : List α} {i : Nat} (h : AllTo p l i) (hi : i < l.length) (hp : p l[i] = true) : AllTo p l (i + 1) := by
  simp only [AllTo] at *; rw [all_step hi, h, hp]; rfl
theorem allTo_done {α : Type} {p : α → Bool} {l : List α} {i : Nat} (h : AllTo p l i) (hi : l.length ≤ i) : l.all p = true := all_done hi h
/-- how two rows stand to each other -/
def cmpL : List Int → List Int → Int
  | [], [] => 0
  | [], _ :: _ => -1
  | _ :: _, [] => 1
  | x :: a, y :: b => if x < y then -1 else if y < x then 1 else cmpL a b
theorem cmpL_zero : ∀ (a b : List Int), cmpL a b = 0 ↔ a = b
  | [], [] => by simp [cmpL]
  | [], _ :: _ => by simp [cmpL]
  | _ :: _, [] => by simp [cmpL]
  | x :: a, y :: b => by
    simp only [cmpL]
    split
    · simp; omega
    · split
      · simp; omega
      · rw [cmpL_zero a b]
        have : x = y := by omega
        simp [this]
theorem cmpL_drop {a b : List Int} {i : Nat} (h : i < a.length) (h' : i < b.length) : cmpL (a.drop i) (b.drop i) = if a[i] < b[i] then -1 else if b[i] < a[i] then 1 else cmpL (a.drop (i + 1)) (b.drop (i + 1)) := by
  rw [List.drop_eq_getElem_cons h, List.drop_eq_getElem_cons h']
  simp only [cmpL]
theorem cmpL_end {a b : List Int} {i : Nat} (hi : i ≤ a.length) (hi' : i ≤ b.length) (h : ¬ (i < a.length ∧ i < b.length)) : cmpL (a.drop i) (b.drop i) = if a.length < b.length then -1 else if b.length < a.length then 1 else 0 := by
  by_cases h1 : i = a.length
  · by_cases h2 : i = b.length
    · rw [List.drop_of_length_le (by omega), List.drop_of_length_le (by omega)]
      simp [cmpL]; omega
    · have h3 : i < b.length := by omega
      rw [List.drop_of_length_le (l := a) (by omega), List.drop_eq_getElem_cons h3]
      simp only [cmpL]; rw [if_pos (by omega)]
  · have h2 : i = b.length := by omega
    have h3 : i < a.length := by omega
    rw [List.drop_of_length_le (l := b) (by omega), List.drop_eq_getElem_cons h3]
    simp only [cmpL]; rw [if_neg (by omega), if_pos (by omega)]


/-! ### rows of a relation: plain -/
def rowOk (ar : Int) (l : List (List Int)) (i : Nat) : Bool := decide (((l.getD i []).length : Int) = ar) && valsOk (l.getD i []) && (i == 0 || decide (cmpL (l.getD (i - 1) []) (l.getD i []) < 0))
def rowsOk (ar : Int) (l : List (List Int)) : Bool := inR ar 0 5 && decide (l.length ≤ 4000) && (List.range l.length).all (rowOk ar l)
theorem rows_bad {ar : Int} {l : List (List Int)} {i : Nat} (h : i < l.length) (hb : rowOk ar l i = false) : rowsOk ar l = false := by
  have : (List.range l.length).all (rowOk ar l) = false := by
    rw [List.all_eq_false]; exact ⟨i, List.mem_range.2 h, by simp [hb]⟩
  simp [rowsOk, this]
theorem rows_done {ar : Int} {l : List (List Int)} (h1 : inR ar 0 5 = true) (h2 : l.length ≤ 4000) (h : ∀ j, j < l.length → rowOk ar l j = true) : rowsOk ar l = true := by
  have : (List.range l.length).all (rowOk ar l) = true := List.all_eq_true.2 fun j hj => h j (List.mem_range.1 hj)
  simp [rowsOk, this, h1, h2]
end Go.Vs


namespace Go.Vs
attribute [local simp] plI_id plStr_id map_plI map_plStr pS cP cI cStr cU8 cB
/-! ### places in ordered rows: plain -/
def bs (l : List (List Int)) (row : List Int) (lo hi : Nat) : Nat :=
  if lo < hi then
    if cmpL (l.getD ((lo + hi) / 2) []) row < 0 then bs l row ((lo + hi) / 2 + 1) hi else bs l row lo ((lo + hi) / 2)
  else lo
termination_by hi - lo
theorem bs_lt {l : List (List Int)} {row : List Int} {lo hi : Nat} (h : lo < hi) : bs l row lo hi = if cmpL (l.getD ((lo + hi) / 2) []) row < 0 then bs l row ((lo + hi) / 2 + 1) hi else bs l row lo ((lo + hi) / 2) := by
  rw [bs, if_pos h]
theorem bs_ge {l : List (List Int)} {row : List Int} {lo hi : Nat} (h : ¬ lo < hi) : bs l row lo hi = lo := by
  rw [bs, if_neg h]
def placeK (l : List (List Int)) (row : List Int) : Nat := bs l row 0 l.length
def placeB (l : List (List Int)) (row : List Int) : Bool := decide (placeK l row < l.length) && cmpL (l.getD (placeK l row) []) row == 0
theorem bs_le {l : List (List Int)} {row : List Int} : ∀ (n lo hi : Nat), hi - lo ≤ n → lo ≤ hi → lo ≤ bs l row lo hi ∧ bs l row lo hi ≤ hi
  | 0, lo, hi, h, h' => by rw [bs_ge (by omega)]; omega
  | n + 1, lo, hi, h, h' => by
    by_cases hlt : lo < hi
    · rw [bs_lt hlt]
      split
      · have := bs_le (l := l) (row := row) n ((lo + hi) / 2 + 1) hi (by omega) (by omega); omega
      · have := bs_le (l := l) (row := row) n lo ((lo + hi) / 2) (by omega) (by omega); omega
    · rw [bs_ge hlt]; omega
theorem placeK_le (l : List (List Int)) (row : List Int) : placeK l row ≤ l.length := (bs_le (l := l) (row := row) l.length 0 l.length (by omega) (by omega)).2
theorem mid64 {a b : Nat} (ha : a ≤ 4294967296) (hb : b ≤ 4294967296) : IntKind.i64.wrap ((IntKind.i64.wrap ((a : Int) + b)).tdiv 2) = (((a + b) / 2 : Nat) : Int) := by
  have h1 : IntKind.i64.wrap ((a : Int) + b) = (a : Int) + b := wrap64_of (by omega) (by omega)
  rw [h1, Int.tdiv_eq_ediv_of_nonneg (by omega)]
  rw [wrap64_of (by omega) (by omega)]
  omega
/-! ### counted relations: plain -/
theorem rowsOk_len {ar : Int} {l : List (List Int)} (h : rowsOk ar l = true) : l.length ≤ 4000 := by
  simp only [rowsOk, Bool.and_eq_true, decide_eq_true_eq] at h; exact h.1.2
theorem rowsOk_row {ar : Int} {l : List (List Int)} (h : rowsOk ar l = true) : ∀ x ∈ l, x.length ≤ 5 := by
  intro x hx
  simp only [rowsOk, Bool.and_eq_true, decide_eq_true_eq, inR] at h
  obtain ⟨⟨⟨h1, h2⟩, _⟩, h3⟩ := h
  obtain ⟨i, hi, rfl⟩ := List.getElem_of_mem hx
  have h4 := List.all_eq_true.1 h3 i (List.mem_range.2 hi)
  simp only [rowOk, Bool.and_eq_true, decide_eq_true_eq] at h4
  have h5 := h4.1.1
  have hg : l.getD i [] = l[i] := by simp [hi]
  rw [hg] at h5
  omega
end Go.Vs


namespace Go.Vs
attribute [local simp] plI_id plStr_id map_plI map_plStr pS cP cI cStr cU8 cB
end Go.Vs


namespace Go.Vs
attribute [local simp] plI_id plStr_id map_plI map_plStr pS cP cI cStr cU8 cB
/-! ### names in order: plain -/
end Go.Vs




namespace Go.Vs
theorem Back2.lead {X : Type} {Inv : X → Nat → Prop} {S : X → List (Nat × V)} {M : X → List (Nat × Option Blk)} {μ : X → Nat} {B : Nat} {W : List Nat} {hs n : Nat} {K : St → Prop} {σ : St} (h : Lead K σ) (hk : ∀ σ', K σ' → Back2 Inv S M μ B W hs n σ') : Back2 Inv S M μ B W hs n σ := h.bind hk
/-- what comes behind a loop is not looked at, where the round goes on -/
theorem anyQ {P : Program} {E : Md} {sch : Nat → Tr} {c : Code} {X : Type} {Inv : X → Prop} {S : X → List (Nat × V)} {M : X → List (Nat × Option Blk)} {μ : X → Nat} {B : Nat} {W : List Nat} {hs n : Nat} {Q : Exit → St → Prop} {σ : St}
    (h : ∀ Q, vwp P E sch c (backV Inv S M μ B W hs n Q) σ) : vwp P E sch c (backV Inv S M μ B W hs n Q) σ := h Q
theorem anyQ2 {P : Program} {E : Md} {sch : Nat → Tr} {c : Code} {X : Type} {Inv : X → Nat → Prop} {S : X → List (Nat × V)} {M : X → List (Nat × Option Blk)} {μ : X → Nat} {B : Nat} {W : List Nat} {hs n : Nat} {Q : Exit → St → Prop} {σ : St}
    (h : ∀ Q, vwp P E sch c (backV2 Inv S M μ B W hs n Q) σ) : vwp P E sch c (backV2 Inv S M μ B W hs n Q) σ := h Q
/-- names of our own or nil -/
structure RowS (T0 : TypeId × Nat) (B : Nat) (y : Sl (List UInt8)) : Prop where
  ok : ∀ s ∈ y.xs, okStr s
  lo : ∀ g, y.id = some g → B ≤ g
  id : y.xs ≠ [] → y.id ≠ none
  T : y.T = none → y = nilS
theorem RowS.nil {T0 : TypeId × Nat} {B : Nat} : RowS T0 B nilS := ⟨by simp [nilS], by simp [nilS], by simp [nilS], by simp⟩
theorem RowS.good {T0 : TypeId × Nat} {B : Nat} {y : Sl (List UInt8)} (h : RowS T0 B y) : Good (cS cStr y) (whS whStr y) B := by
  obtain ⟨hok, hlo, hid, hT⟩ := h
  obtain ⟨id, T, xs⟩ := y
  cases T with
  | none =>
    have := hT rfl
    simp [nilS] at this
    obtain ⟨rfl, rfl⟩ := this
    exact ⟨by simp [cS, dSl, idsL, D.ids, idsLL], by simp [cS, dSl, idsL, D.ids, idsLL], ⟨by simp, by simp⟩, by simp⟩
  | some T => exact good_row (fun g hg => hlo g hg) hid (fun g _ => by simp [cStr]) ⟨by simp [cStr], by simp [cStr]⟩ (by simp [whStr])
end Go.Vs


namespace Go.Vs
/-! ### ordered rows and counts: plain -/
theorem getD_el {α : Type} {l : List α} {i : Nat} (d : α) (h : i < l.length) : l.getD i d = l[i] := by simp [List.getD, h]
theorem cmpL_swap : ∀ (a b : List Int), cmpL b a = - cmpL a b
  | [], [] => rfl
  | [], _ :: _ => rfl
  | _ :: _, [] => rfl
  | x :: a, y :: b => by
    simp only [cmpL]
    by_cases h1 : x < y
    · have h2 : ¬ y < x := by omega
      simp [h1, h2]
    · by_cases h2 : y < x
      · simp [h1, h2]
      · simp [h1, h2, cmpL_swap a b]
theorem cmpL_trans : ∀ {a b c : List Int}, cmpL a b < 0 → cmpL b c < 0 → cmpL a c < 0
  | [], [], c, h, _ => by simp [cmpL] at h
  | [], _ :: _, [], _, h => by simp [cmpL] at h
  | [], _ :: _, _ :: _, _, _ => by simp [cmpL]
  | _ :: _, [], _, h, _ => by simp [cmpL] at h
  | _ :: _, _ :: _, [], _, h => by simp [cmpL] at h
  | x :: a, y :: b, z :: c, h1, h2 => by
    simp only [cmpL] at h1 h2 ⊢
    by_cases e1 : x < y
    · by_cases e2 : y < z
      · simp [show x < z by omega]
      · by_cases e3 : z < y
        · simp [e2, e3] at h2
        · simp [show x < z by omega]
    · by_cases e1' : y < x
      · simp [e1, e1'] at h1
      · simp only [e1, e1', if_false] at h1
        have : x = y := by omega
        subst this
        by_cases e2 : x < z
        · simp [e2]
        · by_cases e3 : z < x
          · simp [e2, e3] at h2
          · simp only [e2, e3, if_false] at h2 ⊢
            exact cmpL_trans h1 h2
theorem cmpL_self (a : List Int) : cmpL a a = 0 := (cmpL_zero a a).2 rfl
theorem cmpL_tri (a b : List Int) : cmpL a b < 0 ∨ a = b ∨ cmpL b a < 0 := by
  have h1 := cmpL_swap a b
  have h2 := cmpL_zero a b
  by_cases h : cmpL a b = 0
  · exact .inr (.inl (h2.1 h))
  · omega
abbrev Srt (l : List (List Int)) : Prop := l.Pairwise fun a b => cmpL a b < 0
theorem srt_ext : ∀ {l l' : List (List Int)}, Srt l → Srt l' → (∀ x, x ∈ l ↔ x ∈ l') → l = l'
  | [], [], _, _, _ => rfl
  | [], b :: s, _, _, h => by have := (h b).2 (by simp); simp at this
  | a :: r, [], _, _, h => by have := (h a).1 (by simp); simp at this
  | a :: r, b :: s, h1, h2, h => by
    simp only [Srt, List.pairwise_cons] at h1 h2
    have e : a = b := by
      rcases List.mem_cons.1 ((h a).1 (by simp)) with e | e
      · exact e
      · rcases List.mem_cons.1 ((h b).2 (by simp)) with e' | e'
        · exact e'.symm
        · have := cmpL_trans (h1.1 b e') (h2.1 a e)
          simp [cmpL_self] at this
    subst e
    rw [srt_ext h1.2 h2.2 fun x => ⟨fun hx => by
      rcases List.mem_cons.1 ((h x).1 (by simp [hx])) with e | e
      · subst e; have := h1.1 x hx; simp [cmpL_self] at this
      · exact e, fun hx => by
      rcases List.mem_cons.1 ((h x).2 (by simp [hx])) with e | e
      · subst e; have := h2.1 x hx; simp [cmpL_self] at this
      · exact e⟩]
theorem srt_at {l : List (List Int)} (h : Srt l) {i j : Nat} (hij : i < j) (hj : j < l.length) : cmpL (l[i]'(by omega)) l[j] < 0 := List.pairwise_iff_getElem.1 h i j (by omega) hj hij
theorem bs_spec {l : List (List Int)} {x : List Int} (h : Srt l) : ∀ (n lo hi : Nat), hi - lo ≤ n → lo ≤ hi → hi ≤ l.length →
    (∀ j (hj : j < l.length), j < lo → cmpL l[j] x < 0) → (∀ j (hj : j < l.length), hi ≤ j → ¬ cmpL l[j] x < 0) →
    (∀ j (hj : j < l.length), j < bs l x lo hi → cmpL l[j] x < 0) ∧ (∀ j (hj : j < l.length), bs l x lo hi ≤ j → ¬ cmpL l[j] x < 0)
  | 0, lo, hi, hn, hle, hh, h1, h2 => by
    rw [bs_ge (by omega)]
    exact ⟨h1, fun j hj hl => h2 j hj (by omega)⟩
  | n + 1, lo, hi, hn, hle, hh, h1, h2 => by
    by_cases hlt : lo < hi
    · rw [bs_lt hlt]
      have hm : (lo + hi) / 2 < l.length := by omega
      rw [getD_el _ hm]
      split
      · rename_i hc
        refine bs_spec h n _ hi (by omega) (by omega) hh (fun j hj hl => ?_) h2
        by_cases e : j = (lo + hi) / 2
        · subst e; exact hc
        · exact cmpL_trans (srt_at h (by omega) hm) hc
      · rename_i hc
        refine bs_spec h n lo _ (by omega) (by omega) (by omega) h1 fun j hj hl hj' => ?_
        by_cases e : j = (lo + hi) / 2
        · subst e; exact hc hj'
        · exact hc (cmpL_trans (srt_at h (by omega) hj) hj')
    · rw [bs_ge hlt]
      exact ⟨h1, fun j hj hl => h2 j hj (by omega)⟩
theorem placeK_spec {l : List (List Int)} {x : List Int} (h : Srt l) : (∀ j (hj : j < l.length), j < placeK l x → cmpL l[j] x < 0) ∧ (∀ j (hj : j < l.length), placeK l x ≤ j → ¬ cmpL l[j] x < 0) :=
  bs_spec h l.length 0 l.length (by omega) (by omega) (by omega) (fun _ _ h => by omega) (fun _ _ h => by omega)
theorem placeB_iff {l : List (List Int)} {x : List Int} (h : Srt l) : placeB l x = true ↔ x ∈ l := by
  obtain ⟨h1, h2⟩ := placeK_spec (x := x) h
  constructor
  · intro hb
    simp only [placeB, Bool.and_eq_true, decide_eq_true_eq, beq_iff_eq] at hb
    rw [getD_el _ hb.1, cmpL_zero] at hb
    exact hb.2 ▸ List.getElem_mem _
  · intro hm
    obtain ⟨j, hj, rfl⟩ := List.mem_iff_getElem.1 hm
    have hk : placeK l l[j] ≤ j := by
      apply Nat.le_of_not_lt; intro hc
      have := h1 j hj hc; simp [cmpL_self] at this
    have hk2 : placeK l l[j] = j := by
      apply Nat.le_antisymm hk; apply Nat.le_of_not_lt; intro hc
      exact h2 _ (by omega) (Nat.le_refl _) (srt_at h hc hj)
    simp only [placeB, hk2, Bool.and_eq_true, decide_eq_true_eq, beq_iff_eq]
    exact ⟨hj, by rw [getD_el _ hj, cmpL_self]⟩
def insR (l : List (List Int)) (x : List Int) : List (List Int) := if placeB l x then l else l.take (placeK l x) ++ x :: l.drop (placeK l x)
def insC (l : List (List Int)) (cs : List Int) (x : List Int) (n : Int) : List Int :=
  if placeB l x then cs.set (placeK l x) (cs.getD (placeK l x) 0 + n) else cs.take (placeK l x) ++ n :: cs.drop (placeK l x)
theorem insR_mem {l : List (List Int)} {x : List Int} (h : Srt l) (y : List Int) : y ∈ insR l x ↔ y ∈ l ∨ y = x := by
  simp only [insR]
  split
  · rename_i hb
    have := (placeB_iff h).1 hb
    exact ⟨.inl, fun hy => hy.elim id fun e => e ▸ this⟩
  · simp only [List.mem_append, List.mem_cons]
    have e : (y ∈ l) ↔ (y ∈ l.take (placeK l x) ∨ y ∈ l.drop (placeK l x)) := by
      rw [← List.mem_append, List.take_append_drop]
    rw [e]
    constructor
    · rintro (h | h | h) <;> simp [h]
    · rintro ((h | h) | h) <;> simp [h]
theorem insR_srt {l : List (List Int)} {x : List Int} (h : Srt l) : Srt (insR l x) := by
  simp only [insR]
  split
  · exact h
  · rename_i hb
    obtain ⟨h1, h2⟩ := placeK_spec (x := x) h
    have hne : x ∉ l := fun hm => hb ((placeB_iff h).2 hm)
    have hA : ∀ y ∈ l.take (placeK l x), cmpL y x < 0 := fun y hy => by
      obtain ⟨j, hj, rfl⟩ := List.mem_iff_getElem.1 hy
      rw [List.length_take] at hj
      rw [List.getElem_take]
      exact h1 j (by omega) (by omega)
    have hB : ∀ y ∈ l.drop (placeK l x), cmpL x y < 0 := fun y hy => by
      have hm := List.mem_of_mem_drop hy
      obtain ⟨j, hj, rfl⟩ := List.mem_iff_getElem.1 hy
      rw [List.length_drop] at hj
      rw [List.getElem_drop] at hm ⊢
      rcases cmpL_tri l[placeK l x + j] x with h' | h' | h'
      · exact absurd h' (h2 _ (by omega) (by omega))
      · exact absurd (h' ▸ hm) hne
      · exact h'
    refine List.pairwise_append.2 ⟨h.sublist (List.take_sublist _ _), List.pairwise_cons.2 ⟨hB, h.sublist (List.drop_sublist _ _)⟩, fun a ha b hb => ?_⟩
    rcases List.mem_cons.1 hb with rfl | hb
    · exact hA a ha
    · exact cmpL_trans (hA a ha) (hB b hb)
theorem insR_len (l : List (List Int)) (x : List Int) : l.length ≤ (insR l x).length ∧ (insR l x).length ≤ l.length + 1 := by
  have := placeK_le l x
  simp only [insR]
  split
  · omega
  · simp only [List.length_append, List.length_take, List.length_cons, List.length_drop]; omega
/-- the sum of the counts of a row -/
def lkC (l : List (List Int)) (cs : List Int) (y : List Int) : Int := match l, cs with
  | x :: r, c :: s => (if x = y then c else 0) + lkC r s y
  | _, _ => 0
/-- the rows in order, each once -/
def srtU (rows : List (List Int)) : List (List Int) := rows.foldl insR []
theorem fold_srt : ∀ (rows l : List (List Int)), Srt l → Srt (rows.foldl insR l) ∧ (∀ x, x ∈ rows.foldl insR l ↔ x ∈ l ∨ x ∈ rows) ∧ (rows.foldl insR l).length ≤ l.length + rows.length
  | [], l, h => ⟨h, by simp, by simp⟩
  | r :: rows, l, h => by
    obtain ⟨h1, h2, h3⟩ := fold_srt rows (insR l r) (insR_srt h)
    have := insR_len l r
    refine ⟨h1, fun x => ?_, by simp only [List.foldl_cons, List.length_cons]; omega⟩
    simp only [List.foldl_cons, h2, insR_mem h, List.mem_cons, or_assoc]
theorem srtU_srt (rows : List (List Int)) : Srt (srtU rows) := (fold_srt rows [] .nil).1
theorem srtU_mem (rows : List (List Int)) (x : List Int) : x ∈ srtU rows ↔ x ∈ rows := by simpa [srtU] using (fold_srt rows [] .nil).2.1 x
theorem srtU_len (rows : List (List Int)) : (srtU rows).length ≤ rows.length := by simpa [srtU] using (fold_srt rows [] .nil).2.2
theorem srtU_uniq {l rows : List (List Int)} (h : Srt l) (hm : ∀ x, x ∈ l ↔ x ∈ rows) : l = srtU rows := srt_ext h (srtU_srt rows) fun x => by rw [hm, srtU_mem]
theorem srtU_id {l : List (List Int)} (h : Srt l) : srtU l = l := (srtU_uniq h fun _ => Iff.rfl).symm
/-- counts are added one by one -/
def talC : List (List Int) → List Int → List (List Int) → List Int → List Int
  | l, cs, x :: r, n :: s => talC (insR l x) (insC l cs x n) r s
  | _, cs, _, _ => cs
end Go.Vs


namespace Go.Vs
/-! ### merging ordered rows: plain -/
theorem nil_or_snoc {α : Type} (l : List α) : l = [] ∨ ∃ o z, l = o ++ [z] := by
  rcases List.eq_nil_or_concat l with h | ⟨o, z, h⟩
  · exact .inl h
  · exact .inr ⟨o, z, by rw [h, List.concat_eq_append]⟩
theorem cmpL_asym {a b : List Int} (h : cmpL a b < 0) : ¬ cmpL b a < 0 := by have := cmpL_swap a b; omega
structure MI (rows a b out : List (List Int)) : Prop where
  sa : Srt a
  sb : Srt b
  so : Srt out
  le : ∀ y ∈ out, ∀ z, z ∈ a ∨ z ∈ b → ¬ cmpL z y < 0
  mem : ∀ x, (x ∈ out ∨ x ∈ a ∨ x ∈ b) ↔ x ∈ rows
  len : out.length + a.length + b.length ≤ rows.length
theorem MI.start (rows : List (List Int)) (m : Nat) : MI rows (srtU (rows.take m)) (srtU (rows.drop m)) [] := by
  refine ⟨srtU_srt _, srtU_srt _, .nil, by simp, fun x => ?_, ?_⟩
  · rw [srtU_mem, srtU_mem, ← List.mem_append, List.take_append_drop]; simp
  · have h1 := srtU_len (rows.take m)
    have h2 := srtU_len (rows.drop m)
    rw [List.length_take] at h1
    rw [List.length_drop] at h2
    simp only [List.length_nil]; omega
theorem MI.swap {rows a b out : List (List Int)} (h : MI rows a b out) : MI rows b a out :=
  ⟨h.sb, h.sa, h.so, fun y hy z hz => h.le y hy z hz.symm, fun x => by rw [← h.mem x, or_comm (a := x ∈ a)], by have := h.len; omega⟩
theorem MI.done {rows out : List (List Int)} (h : MI rows [] [] out) : out = srtU rows := srtU_uniq h.so fun x => by rw [← h.mem x]; simp
/-- the first row of a is the least -/
theorem MI.left {rows a b out : List (List Int)} {x : List Int} (h : MI rows (x :: a) b out) (hb : ∀ z ∈ b, ¬ cmpL z x < 0) :
    (x ∈ out → MI rows a b out) ∧ (x ∉ out → MI rows a b (out ++ [x])) := by
  have ha := List.pairwise_cons.1 h.sa
  have hl := h.len
  simp only [List.length_cons] at hl
  constructor
  · intro hx
    refine ⟨ha.2, h.sb, h.so, fun y hy z hz => h.le y hy z (hz.imp (fun hz => by simp [hz]) id), fun y => ?_, by omega⟩
    rw [← h.mem y]
    constructor
    · rintro (h1 | h1 | h1) <;> simp [h1]
    · rintro (h1 | h1 | h1)
      · exact .inl h1
      · rcases List.mem_cons.1 h1 with rfl | h1
        · exact .inl hx
        · exact .inr (.inl h1)
      · exact .inr (.inr h1)
  · intro hx
    refine ⟨ha.2, h.sb, List.pairwise_append.2 ⟨h.so, by simp, fun y hy z hz => ?_⟩, fun y hy z hz => ?_, fun y => ?_, by simp only [List.length_append, List.length_cons, List.length_nil]; omega⟩
    · rw [List.mem_singleton.1 hz]
      rcases cmpL_tri y x with h1 | h1 | h1
      · exact h1
      · exact absurd (h1 ▸ hy) hx
      · exact absurd h1 (h.le y hy x (by simp))
    · rcases List.mem_append.1 hy with hy | hy
      · exact h.le y hy z (hz.imp (fun hz => by simp [hz]) id)
      · rw [List.mem_singleton.1 hy]
        rcases hz with hz | hz
        · exact cmpL_asym (ha.1 z hz)
        · exact hb z hz
    · rw [← h.mem y]
      simp only [List.mem_append, List.mem_cons, List.not_mem_nil, or_false]
      constructor
      · rintro ((h1 | h1) | h1 | h1) <;> simp [h1]
      · rintro (h1 | (h1 | h1) | h1) <;> simp [h1]
/-- a row at least as great as all of ours stands among them only as the last -/
theorem MI.last {rows a b out : List (List Int)} {x z : List Int} (h : MI rows (x :: a) b (out ++ [z])) : x ∈ out ++ [z] ↔ z = x := by
  constructor
  · intro hx
    rcases List.mem_append.1 hx with hx | hx
    · have := (List.pairwise_append.1 h.so).2.2 x hx z (by simp)
      exact absurd this (h.le z (by simp) x (by simp))
    · exact (List.mem_singleton.1 hx).symm
  · rintro rfl; simp
theorem MI.hl {rows a b out : List (List Int)} {x y : List Int} (h : MI rows (x :: a) (y :: b) out) (hc : ¬ 0 < cmpL x y) : ∀ z ∈ y :: b, ¬ cmpL z x < 0 := by
  have h1 := cmpL_swap x y
  intro z hz
  rcases List.mem_cons.1 hz with rfl | hz
  · omega
  · intro h2
    have := cmpL_trans ((List.pairwise_cons.1 h.sb).1 z hz) h2
    omega
theorem MI.hr {rows a b out : List (List Int)} {x y : List Int} (h : MI rows (x :: a) (y :: b) out) (hc : 0 < cmpL x y) : ∀ z ∈ x :: a, ¬ cmpL z y < 0 :=
  h.swap.hl (by have := cmpL_swap x y; omega)
theorem rowsOk_srt {ar : Int} {l : List (List Int)} (h : rowsOk ar l = true) : Srt l := by
  simp only [rowsOk, Bool.and_eq_true, List.all_eq_true, List.mem_range] at h
  have key : ∀ n i, i + n + 1 < l.length → cmpL (l.getD i []) (l.getD (i + n + 1) []) < 0 := by
    intro n
    induction n with
    | zero =>
      intro i hi
      have := h.2 (i + 1) (by omega)
      simp only [rowOk, Bool.and_eq_true, Bool.or_eq_true, decide_eq_true_eq] at this
      simpa using this.2
    | succ n ih =>
      intro i hi
      have h1 := ih i (by omega)
      have := h.2 (i + n + 1 + 1) (by omega)
      simp only [rowOk, Bool.and_eq_true, Bool.or_eq_true, decide_eq_true_eq] at this
      have h2 : cmpL (l.getD (i + n + 1) []) (l.getD (i + n + 1 + 1) []) < 0 := by simpa using this.2
      exact cmpL_trans h1 h2
  refine List.pairwise_iff_getElem.2 fun i j hi hj hij => ?_
  have := key (j - i - 1) i (by omega)
  rw [show i + (j - i - 1) + 1 = j by omega, getD_el _ hi, getD_el _ hj] at this
  exact this
theorem rowsOk_mem {ar : Int} {l : List (List Int)} (h : rowsOk ar l = true) {x : List Int} (hx : x ∈ l) : (x.length : Int) = ar ∧ valsOk x = true := by
  simp only [rowsOk, Bool.and_eq_true, List.all_eq_true, List.mem_range] at h
  obtain ⟨i, hi, rfl⟩ := List.mem_iff_getElem.1 hx
  have := h.2 i hi
  simp only [rowOk, Bool.and_eq_true, decide_eq_true_eq, getD_el _ hi] at this
  exact this.1
theorem rowsOk_of {ar : Int} {l : List (List Int)} (hr : inR ar 0 5 = true) (hs : Srt l) (hm : ∀ x ∈ l, (x.length : Int) = ar ∧ valsOk x = true) : rowsOk ar l = decide (l.length ≤ 4000) := by
  simp only [rowsOk, hr, Bool.true_and]
  suffices h : ((List.range l.length).all (rowOk ar l)) = true by rw [h, Bool.and_true]
  simp only [List.all_eq_true, List.mem_range]
  intro i hi
  have h1 := hm _ (List.getElem_mem hi)
  simp only [rowOk, Bool.and_eq_true, decide_eq_true_eq, getD_el _ hi, Bool.or_eq_true, beq_iff_eq]
  refine ⟨h1, ?_⟩
  by_cases e : i = 0
  · exact .inl e
  · right
    rw [getD_el _ (by omega)]
    exact srt_at hs (by omega) hi
def newB (ar : Int) (rows : List (List Int)) : Bool := rows.all (fun r => decide ((r.length : Int) = ar) && valsOk r) && rowsOk ar (srtU rows)
def newR (ar : Int) (rows : List (List Int)) : PReln := if newB ar rows then ⟨ar, srtU rows⟩ else ⟨0, []⟩
/-- the sums of the first i counts at the rows' places -/
def sumsTo (R l : List (List Int)) (cs : List Int) (i : Nat) : List Int := R.map (lkC (l.take i) (cs.take i))
@[simp] theorem sumsTo_length (R l : List (List Int)) (cs : List Int) (i : Nat) : (sumsTo R l cs i).length = R.length := by simp [sumsTo]
theorem rowsOk_inR {ar : Int} {l : List (List Int)} (h : rowsOk ar l = true) : inR ar 0 5 = true := by
  simp only [rowsOk, Bool.and_eq_true] at h; exact h.1.1
end Go.Vs


namespace Go.Vs
/-! ### projections of counted rows: plain -/
end Go.Vs


namespace Go.Vs
theorem ids_sub {α : Type} {c : α → List D} {l l' : List α} (h : l'.Sublist l) : (idsLL (l'.map c)).Sublist (idsLL (l.map c)) := by
  induction h with
  | slnil => simp
  | cons a _ ih => simp only [List.map_cons, idsLL]; exact ih.trans (List.sublist_append_right _ _)
  | cons_cons a _ ih => simp only [List.map_cons, idsLL]; exact (List.Sublist.refl _).append ih
theorem talC_snoc : ∀ (r : List (List Int)) (s : List Int) (l : List (List Int)) (cs : List Int) (x : List Int) (n : Int), s.length = r.length →
    talC l cs (r ++ [x]) (s ++ [n]) = insC (r.foldl insR l) (talC l cs r s) x n
  | [], [], l, cs, x, n, _ => rfl
  | [], _ :: _, _, _, _, _, h => by simp at h
  | _ :: _, [], _, _, _, _, h => by simp at h
  | y :: r, m :: s, l, cs, x, n, h => by
    simp only [List.cons_append, talC, List.foldl_cons]
    exact talC_snoc r s _ _ x n (by simpa using h)
/-- all rows before place i of b are added -/
structure TalI (a b : PCnt) (B : Nat) (p : Nat × Cnt) (h : Nat) : Prop where
  le : p.1 ≤ b.rows.length
  ar : p.2.ar = a.ar
  rows : (plCnt p.2).rows = (b.rows.take p.1).foldl insR a.rows
  cs : (plCnt p.2).cs = talC a.rows a.cs (b.rows.take p.1) (b.cs.take p.1)
  ok : okCnt p.2
  good : Good (cCnt p.2) (whCnt p.2) B
  hi : ∀ g ∈ idsL (cCnt p.2), g < h
theorem TalI.step {a b : PCnt} {B h m h' i : Nat} {y z : Cnt} (t : TalI a b B (i, y) h) (hb : b.cs.length = b.rows.length) (hi : i < b.rows.length) (hi2 : i < b.cs.length) (e : plCnt z = ⟨y.ar, insR (plCnt y).rows b.rows[i], insC (plCnt y).rows y.cs.xs b.rows[i] b.cs[i]⟩)
    (hok : okCnt z) (hBm : B ≤ m) (hm : h ≤ m) (G : ∀ B', B' ≤ m → Good (cCnt y) (whCnt y) B' → (∀ g ∈ idsL (cCnt y), g < m) → Good (cCnt z) (whCnt z) B') (hh : ∀ g ∈ idsL (cCnt z), g < h') : TalI a b B (i + 1, z) h' := by
  have er : (plCnt z).rows = insR (plCnt y).rows b.rows[i] := by rw [e]
  have ec : (plCnt z).cs = insC (plCnt y).rows (plCnt y).cs b.rows[i] b.cs[i] := by rw [e]; simp [plCnt, plS, map_plI]
  have ea : z.ar = y.ar := by have := congrArg PCnt.ar e; exact this
  refine ⟨hi, by rw [ea]; exact t.ar, ?_, ?_, hok, G B hBm t.good fun g hg => Nat.lt_of_lt_of_le (t.hi g hg) hm, hh⟩
  · rw [er, t.rows]
    simp only
    rw [List.take_succ_eq_append_getElem hi, List.foldl_append]; rfl
  · rw [ec, t.rows, t.cs]
    simp only
    rw [List.take_succ_eq_append_getElem hi, List.take_succ_eq_append_getElem hi2, talC_snoc _ _ _ _ _ _ (by simp [hb])]
end Go.Vs


namespace Go.Vs
/-- a region with several orders: they meet again in what is known of the slots -/
theorem cutT {P : Program} {E : Md} {ops : Array Oper} {tr : Tr} {K : St → Prop} {B hs0 : Nat} {W : List Nat} {t0 : Nat → V} {m0 : Nat → Option Blk} {X : Type} (Inv : X → Nat → Prop) (S : X → List (Nat × V)) (M : X → List (Nat × Option Blk))
    (h1 : ∀ K' : St → Prop, (∀ x s, Inv x s.hs → s.B = B → s.W = W → hs0 ≤ s.hs → (∀ p ∈ S x, s.t p.1 = p.2) → (∀ p ∈ M x, s.m p.1 = p.2) → K' s) → vtr P E ops K' tr ⟨B, hs0, W, t0, m0⟩)
    (h2 : ∀ x hs t m, Inv x hs → hs0 ≤ hs → K ⟨B, hs, W, updL t (S x), updL m (M x)⟩) : vtr P E ops K tr ⟨B, hs0, W, t0, m0⟩ := by
  refine h1 K ?_
  rintro x ⟨B', hs', W', t', m'⟩ a1 a2 a3 a4 a5 a6
  simp only at a1 a2 a3 a4 a5 a6
  subst a2 a3
  have := h2 x hs' t' m' a1 a4
  rwa [updL_has a5, updL_has a6] at this
end Go.Vs


namespace Go.Vs
theorem eqt_bad {α : Type} {a b : List α} {i : Nat} (h1 : i < a.length) (h2 : i < b.length) (h : a[i] ≠ b[i]) : a ≠ b := by rintro rfl; exact h rfl
theorem eqt_step {α : Type} {a b : List α} {i : Nat} (hi : a.take i = b.take i) (h1 : i < a.length) (h2 : i < b.length) (h : a[i] = b[i]) : a.take (i + 1) = b.take (i + 1) := by
  rw [List.take_succ_eq_append_getElem h1, List.take_succ_eq_append_getElem h2, hi, h]
theorem eqt_done {α : Type} {a b : List α} {i : Nat} (hi : a.take i = b.take i) (h : a.length ≤ i) (hl : a.length = b.length) : a = b := by
  rwa [List.take_of_length_le h, List.take_of_length_le (by omega)] at hi
theorem eqt_len {α : Type} {a b : List α} (h : a.length ≠ b.length) : a ≠ b := by rintro rfl; exact h rfl
/-- the first i elements are the same -/
structure EqTo {α : Type} (a b : List α) (i : Nat) : Prop where
  le : i ≤ a.length
  eq : a.take i = b.take i
theorem EqTo.zero {α : Type} {a b : List α} : EqTo a b 0 := ⟨by omega, by simp⟩
end Go.Vs


namespace Go.Vs
/-- a number in digits -/
def decN (n : Nat) : List UInt8 := if n < 10 then [UInt8.ofNat (48 + n)] else decN (n / 10) ++ [UInt8.ofNat (48 + n % 10)]
termination_by n
decreasing_by omega
def decZ (n : Int) : List UInt8 := if n < 0 then 45 :: decN n.natAbs else decN n.natAbs
theorem decN_lt {n : Nat} (h : n < 10) : decN n = [UInt8.ofNat (48 + n)] := by rw [decN, if_pos h]
theorem decN_ge {n : Nat} (h : ¬ n < 10) : decN n = decN (n / 10) ++ [UInt8.ofNat (48 + n % 10)] := by rw [decN, if_neg h]
theorem decN_len : ∀ (k n : Nat), n < 10 ^ (k + 1) → (decN n).length ≤ k + 1
  | 0, n, h => by rw [decN_lt (by simpa using h)]; simp
  | k + 1, n, h => by
    by_cases h1 : n < 10
    · rw [decN_lt h1]; simp
    · rw [decN_ge h1, List.length_append]
      have := decN_len k (n / 10) (by rw [Nat.pow_succ] at h; omega)
      simp; omega
theorem decN_len20 {n : Nat} (h : n ≤ 9223372036854775808) : (decN n).length ≤ 20 := decN_len 19 n (by omega)
theorem decZ_len {n : Int} (h : -9223372036854775808 ≤ n ∧ n ≤ 9223372036854775807) : (decZ n).length ≤ 21 := by
  have := decN_len20 (n := n.natAbs) (by omega)
  unfold decZ; split <;> simp <;> omega
def joinB (sep : List UInt8) : List (List UInt8) → List UInt8
  | [] => []
  | x :: r => x ++ r.flatMap fun y => sep ++ y
theorem joinB_snoc {sep x : List UInt8} {l : List (List UInt8)} : joinB sep (l ++ [x]) = joinB sep l ++ (if l = [] then [] else sep) ++ x := by
  cases l with
  | nil => simp [joinB]
  | cons a r => simp [joinB]
theorem joinB_step {sep : List UInt8} {l : List (List UInt8)} {i : Nat} (h : i < l.length) : joinB sep (l.take (i + 1)) = joinB sep (l.take i) ++ (if i = 0 then [] else sep) ++ l[i] := by
  rw [List.take_succ_eq_append_getElem h, joinB_snoc]
  have : l.take i = [] ↔ i = 0 := by
    constructor
    · intro e
      have := congrArg List.length e
      rw [List.length_take, List.length_nil] at this; omega
    · rintro rfl; simp
  simp only [this]
/-- all pieces and as many separators -/
def strW (s : Nat) : List (List UInt8) → Nat
  | [] => 0
  | x :: r => x.length + s + strW s r
theorem joinB_len (sep : List UInt8) : ∀ l : List (List UInt8), (joinB sep l).length ≤ strW sep.length l
  | [] => by simp [joinB, strW]
  | x :: r => by
    have : ∀ r : List (List UInt8), (r.flatMap fun y => sep ++ y).length ≤ strW sep.length r := fun r => by
      induction r with
      | nil => simp [strW]
      | cons a r ih => simp only [List.flatMap_cons, List.length_append, strW] at ih ⊢; omega
    have := this r
    simp only [joinB, strW, List.length_append]; omega
theorem strW_take (s : Nat) : ∀ (l : List (List UInt8)) (i : Nat), strW s (l.take i) ≤ strW s l
  | [], i => by simp [strW]
  | x :: r, 0 => by simp [strW]
  | x :: r, i + 1 => by have := strW_take s r i; simp only [List.take_succ_cons, strW]; omega
theorem strW_at {s : Nat} : ∀ {l : List (List UInt8)} {i : Nat} (h : i < l.length), strW s (l.take i) + l[i].length + s ≤ strW s l
  | [], i, h => by simp at h
  | x :: r, 0, _ => by simp [strW]
  | x :: r, i + 1, h => by have := strW_at (s := s) (l := r) (i := i) (by simpa using h); simp only [List.take_succ_cons, strW, List.getElem_cons_succ]; omega
def inZ (n : Int) : Prop := -9223372036854775808 ≤ n ∧ n ≤ 9223372036854775807
end Go.Vs


namespace Go.Vs
def lowB (b : UInt8) : Bool := decide (97 ≤ b.toNat ∧ b.toNat ≤ 122)
theorem lowB_lo {b : UInt8} (h : (b.toNat : Int) < 97) : lowB b = false := by simp only [lowB, decide_eq_false_iff_not]; omega
theorem lowB_hi {b : UInt8} (h : (122 : Int) < (b.toNat : Int)) : lowB b = false := by simp only [lowB, decide_eq_false_iff_not]; omega
theorem lowB_ok {b : UInt8} (h : ¬ (b.toNat : Int) < 97) (h' : ¬ (122 : Int) < (b.toNat : Int)) : lowB b = true := by simp only [lowB, decide_eq_true_eq]; omega
def nameOk (s : List UInt8) : Bool := decide (1 ≤ s.length ∧ s.length ≤ 4) && s.all lowB
theorem nameOk_bad {s : List UInt8} (h : s.all lowB = false) : nameOk s = false := by rw [nameOk, h, Bool.and_false]
theorem nameOk_len {s : List UInt8} (h : ¬ (1 ≤ s.length ∧ s.length ≤ 4)) : nameOk s = false := by rw [nameOk, decide_eq_false h, Bool.false_and]
theorem nameOk_ok {s : List UInt8} (h : s.all lowB = true) : nameOk s = decide (1 ≤ s.length ∧ s.length ≤ 4) := by rw [nameOk, h, Bool.and_true]
def setOf (l : List Int) (n : Int) : Bool := l.all (fun x => inR x 0 (IntKind.i64.wrap (n - 1))) && decide l.Nodup
def atomOk (n : Int) (a : PAtom) : Bool := nameOk a.rel && inR a.vars.length 1 5 && a.vars.all fun x => inR x 0 (IntKind.i64.wrap (n - 1))
def varsIn (l : List PAtom) : List Int := l.flatMap PAtom.vars
def usesAll (n : Int) (l : List PAtom) : Bool := (List.range n.toNat).all fun (v : Nat) => (varsIn l).contains (v : Int)
/-- the first i elements have the property; no earlier one is the same -/
structure SetTo (l : List Int) (n : Int) (i : Nat) : Prop where
  le : i ≤ l.length
  all : ∀ x ∈ l.take i, inR x 0 (IntKind.i64.wrap (n - 1)) = true
  nd : (l.take i).Nodup
theorem SetTo.zero {l : List Int} {n : Int} : SetTo l n 0 := ⟨by omega, by simp, by simp⟩
theorem SetTo.step {l : List Int} {n : Int} {i : Nat} (h : SetTo l n i) (hi : i < l.length) (h1 : inR l[i] 0 (IntKind.i64.wrap (n - 1)) = true) (h2 : l[i] ∉ l.take i) : SetTo l n (i + 1) := by
  refine ⟨hi, fun x hx => ?_, ?_⟩
  · rw [List.take_succ_eq_append_getElem hi] at hx
    rcases List.mem_append.1 hx with h' | h'
    · exact h.all x h'
    · simp only [List.mem_singleton] at h'; rw [h']; exact h1
  · rw [List.take_succ_eq_append_getElem hi]
    exact List.nodup_append.2 ⟨h.nd, by simp, fun a ha b hb e => by simp only [List.mem_singleton] at hb; subst hb; subst e; exact h2 ha⟩
theorem SetTo.done {l : List Int} {n : Int} {i : Nat} (h : SetTo l n i) (hi : l.length ≤ i) : setOf l n = true := by
  have h1 := h.all; have h2 := h.nd
  rw [List.take_of_length_le hi] at h1 h2
  simp only [setOf, Bool.and_eq_true, List.all_eq_true, decide_eq_true_eq]
  exact ⟨h1, h2⟩
/-- the atoms before place i are right; so are the variables before place k of the atom at i -/
structure AtI (n : Int) (l : List PAtom) (i : Nat) : Prop where
  le : i ≤ l.length
  ok : AllTo (atomOk n) l i
theorem AtI.zero {n : Int} {l : List PAtom} : AtI n l 0 := ⟨by omega, allTo_zero⟩
structure AtK (n : Int) (l : List Int) (k : Nat) : Prop where
  le : k ≤ l.length
  ok : AllTo (fun x => inR x 0 (IntKind.i64.wrap (n - 1))) l k
theorem AtK.zero {n : Int} {l : List Int} : AtK n l 0 := ⟨by omega, allTo_zero⟩
theorem AtK.step {n : Int} {l : List Int} {k : Nat} (h : AtK n l k) (hk : k < l.length) (e : inR l[k] 0 (IntKind.i64.wrap (n - 1)) = true) : AtK n l (k + 1) := ⟨hk, allTo_step h.ok hk e⟩
theorem AtI.step {n : Int} {l : List PAtom} {i : Nat} (h : AtI n l i) (hi : i < l.length) (e : atomOk n l[i] = true) : AtI n l (i + 1) := ⟨hi, allTo_step h.ok hi e⟩
structure UsTo (n : Int) (l : List PAtom) (v : Nat) : Prop where
  le : v ≤ n.toNat
  ok : AllTo (fun (v : Nat) => (varsIn l).contains (v : Int)) (List.range n.toNat) v
theorem UsTo.zero {n : Int} {l : List PAtom} : UsTo n l 0 := ⟨by omega, allTo_zero⟩
theorem UsTo.step {n : Int} {l : List PAtom} {v : Nat} (h : UsTo n l v) (hv : v < n.toNat) (e : (varsIn l).contains (v : Int) = true) : UsTo n l (v + 1) :=
  ⟨hv, allTo_step h.ok (by simpa using hv) (by simpa using e)⟩
theorem UsTo.done {n : Int} {l : List PAtom} {v : Nat} (h : UsTo n l v) (hv : n.toNat ≤ v) : usesAll n l = true := allTo_done h.ok (by simpa using hv)
/-- which numbers below n are among these -/
def usedL (n : Nat) (vs : List Int) : List Bool := (List.range n).map fun (j : Nat) => vs.contains (j : Int)
@[simp] theorem usedL_length (n : Nat) (vs : List Int) : (usedL n vs).length = n := by simp [usedL]
def rangeI (n : Nat) : List Int := (List.range n).map fun (k : Nat) => (k : Int)
@[simp] theorem rangeI_length (n : Nat) : (rangeI n).length = n := by simp [rangeI]
end Go.Vs


namespace Go.Vs
/-! ### databases -/
def tabOk (t : PTab) : Bool := nameOk t.name && rowsOk t.rel.ar t.rel.rows && decide (1 ≤ t.rel.ar) && decide (t.rel.rows.length ≤ 16)
/-- the table at place j is right and comes behind the one before it -/
def dbAt (l : List PTab) (j : Nat) : Bool := (decide (j = 0) || Op.bytesLess (l.getD (j - 1) default).name (l.getD j default).name) && tabOk (l.getD j default)
def dbOk (d : PDb) : Bool := decide (d.tabs.length ≤ 6) && (List.range d.tabs.length).all (dbAt d.tabs)
structure DbTo (l : List PTab) (i : Nat) : Prop where
  le : i ≤ l.length
  ok : AllTo (dbAt l) (List.range l.length) i
theorem DbTo.zero {l : List PTab} : DbTo l 0 := ⟨by omega, allTo_zero⟩
theorem DbTo.step {l : List PTab} {i : Nat} (h : DbTo l i) (hi : i < l.length) (e : dbAt l i = true) : DbTo l (i + 1) := ⟨hi, allTo_step h.ok (by simpa using hi) (by simpa using e)⟩
theorem DbTo.done {l : List PTab} {i : Nat} (h : DbTo l i) (hi : l.length ≤ i) : dbOk ⟨l⟩ = decide (l.length ≤ 6) := by
  have := allTo_done h.ok (by simpa using hi)
  simp only [dbOk, this, Bool.and_true]
theorem dbOk_bad {l : List PTab} {i : Nat} (hi : i < l.length) (e : dbAt l i = false) : dbOk ⟨l⟩ = false := by
  have : (List.range l.length).all (dbAt l) = false := all_bad (p := dbAt l) (l := List.range l.length) (i := i) (by simpa using hi) (by simpa using e)
  simp only [dbOk, this, Bool.and_false]
theorem dbOk_len {d : PDb} (h : dbOk d = true) : d.tabs.length ≤ 6 := by
  simp only [dbOk, Bool.and_eq_true, decide_eq_true_eq] at h; exact h.1
theorem dbOk_tab {d : PDb} (h : dbOk d = true) {t : PTab} (ht : t ∈ d.tabs) : tabOk t = true := by
  obtain ⟨i, hi, rfl⟩ := List.getElem_of_mem ht
  simp only [dbOk, Bool.and_eq_true, List.all_eq_true] at h
  have := h.2 i (by simpa using hi)
  simp only [dbAt, Bool.and_eq_true] at this
  have h2 := this.2
  rwa [getD_el _ hi] at h2
theorem dbAt_eq {l : List PTab} {i : Nat} (hi : i < l.length) : dbAt l i = ((decide (i = 0) || Op.bytesLess (l[i - 1]'(by omega)).name l[i].name) && tabOk l[i]) := by
  rw [dbAt, getD_el _ hi, getD_el _ (show i - 1 < l.length by omega)]
/-! ### texts of relations -/
def fmtRow (r : List Int) : List UInt8 := [40] ++ joinB [44] (r.map decZ) ++ [41]
def fmtRel (r : PReln) : List UInt8 := if rowsOk r.ar r.rows then decZ r.ar ++ [58] ++ joinB [32] (r.rows.map fmtRow) else []
theorem strW_map {α : Type} (f : α → List UInt8) (s k : Nat) : ∀ (l : List α), (∀ a ∈ l, (f a).length ≤ k) → strW s (l.map f) ≤ (k + s) * l.length
  | [], _ => by simp [strW]
  | a :: r, h => by
    have h1 := strW_map f s k r fun b hb => h b (by simp [hb])
    have h2 := h a (by simp)
    simp only [List.map_cons, strW, List.length_cons, Nat.mul_add, Nat.mul_one]; omega
theorem valsOk_inZ {r : List Int} (h : valsOk r = true) : ∀ x ∈ r, inZ x := fun x hx => by
  have := (List.all_eq_true.1 h) x hx
  simp only [inR, Bool.and_eq_true, decide_eq_true_eq] at this
  simp only [inZ]; omega
theorem fmtRow_len {r : List Int} (h : ∀ x ∈ r, inZ x) (h5 : r.length ≤ 5) : (fmtRow r).length ≤ 112 ∧ strW 1 (r.map decZ) ≤ 110 := by
  have h1 := joinB_len [44] (r.map decZ)
  have h2 := strW_map decZ 1 21 r fun x hx => decZ_len (h x hx)
  simp only [List.length_singleton] at h1
  refine ⟨?_, by omega⟩
  simp only [fmtRow, List.length_append, List.length_singleton]; omega
theorem fmtRel_len (r : PReln) : (fmtRel r).length ≤ 500000 := by
  unfold fmtRel
  split
  case isFalse => simp
  rename_i h
  have h1 := joinB_len [32] (r.rows.map fmtRow)
  have h4 := rowsOk_len h
  have h2 := strW_map fmtRow 1 112 r.rows fun x hx => (fmtRow_len (valsOk_inZ (rowsOk_mem h hx).2) (rowsOk_row h x hx)).1
  have har := rowsOk_inR h
  simp only [inR, Bool.and_eq_true, decide_eq_true_eq] at har
  have h3 := decZ_len (n := r.ar) (by omega)
  simp only [List.length_singleton] at h1
  simp only [List.length_append, List.length_singleton]; omega
/-! ### checksums -/
def ckB (x : Int) (b : UInt8) : Int := (31 * x + b.toNat + 1).tmod 65521
def ckS (s : List UInt8) : Int := s.foldl ckB 7
theorem ckB_in {x : Int} (h : 0 ≤ x ∧ x < 65521) (b : UInt8) : 0 ≤ ckB x b ∧ ckB x b < 65521 := by
  have hb := b.toNat_lt
  unfold ckB
  rw [Int.tmod_eq_emod_of_nonneg (by omega)]
  omega
theorem ckS_in (s : List UInt8) : 0 ≤ ckS s ∧ ckS s < 65521 := by
  have : ∀ (s : List UInt8) (x : Int), 0 ≤ x ∧ x < 65521 → 0 ≤ s.foldl ckB x ∧ s.foldl ckB x < 65521 := fun s => by
    induction s with
    | nil => intro x h; exact h
    | cons a r ih => intro x h; exact ih _ (ckB_in h a)
  exact this s 7 (by omega)
theorem ckS_step {s : List UInt8} {i : Nat} (h : i < s.length) : ckS (s.take (i + 1)) = ckB (ckS (s.take i)) s[i] := by
  rw [List.take_succ_eq_append_getElem h, ckS, List.foldl_append]; rfl
/-! ### the files of a version -/
def runNm (v : Int) (nm : List UInt8) : List UInt8 := [116] ++ decZ v ++ [46] ++ nm
def headLn (t : PTab) : List UInt8 := t.name ++ [61] ++ decZ (ckS (fmtRel t.rel)) ++ [10]
def headTx (l : List PTab) : List UInt8 := l.flatMap headLn
def runs (v : Int) (l : List PTab) : List PFile := l.map fun t => ⟨runNm v t.name, fmtRel t.rel⟩
def verB (d : PDb) (v : Int) : Bool := dbOk d && inR v 1 99
def verFs (d : PDb) (v : Int) : List PFile := if verB d v then runs v d.tabs ++ [⟨[109] ++ decZ v, headTx d.tabs ++ decZ (ckS (headTx d.tabs))⟩] else []
theorem tabOk_name {t : PTab} (h : tabOk t = true) : t.name.length ≤ 4 := by
  simp only [tabOk, nameOk, Bool.and_eq_true, decide_eq_true_eq] at h
  exact h.1.1.1.1.2
theorem headLn_len {t : PTab} (h : t.name.length ≤ 4) : (headLn t).length ≤ 27 := by
  have h1 := ckS_in (fmtRel t.rel)
  have h2 := decZ_len (n := ckS (fmtRel t.rel)) (by omega)
  simp only [headLn, List.length_append, List.length_singleton]; omega
theorem headTx_len {l : List PTab} (h : ∀ t ∈ l, t.name.length ≤ 4) : (headTx l).length ≤ 27 * l.length := by
  induction l with
  | nil => simp [headTx]
  | cons a r ih =>
    have h1 := ih fun t ht => h t (by simp [ht])
    have h2 := headLn_len (h a (by simp))
    simp only [headTx, List.flatMap_cons, List.length_append, List.length_cons] at h1 ⊢; omega
theorem headTx_step {l : List PTab} {i : Nat} (h : i < l.length) : headTx (l.take (i + 1)) = headTx (l.take i) ++ headLn l[i] := by
  unfold headTx
  rw [List.take_succ_eq_append_getElem h, List.flatMap_append]
  simp only [List.flatMap_cons, List.flatMap_nil, List.append_nil]
theorem runs_step {v : Int} {l : List PTab} {i : Nat} (h : i < l.length) : runs v (l.take (i + 1)) = runs v (l.take i) ++ [⟨runNm v l[i].name, fmtRel l[i].rel⟩] := by
  unfold runs
  rw [List.take_succ_eq_append_getElem h, List.map_append]; rfl
@[simp] theorem runs_length (v : Int) (l : List PTab) : (runs v l).length = l.length := by simp [runs]
theorem good_nilF (B : Nat) : Good (cS cFile (nilS : Sl File)) (whS whFile (nilS : Sl File)) B :=
  ⟨by simp [nilS, cS, dSl, idsL, D.ids, idsLL], by simp [nilS, cS, dSl, idsL, D.ids, idsLL], ⟨⟨by simp [nilS], by simp [nilS]⟩, by simp [nilS]⟩⟩
def toF (p : PFile) : File := ⟨p.name, p.data⟩
theorem cFile_toF (p : PFile) : cFile (toF p) = eFile p := rfl
end Go.Vs


namespace Go.Vs
/-! ### relations of a database, differences -/
def lkT (d : PDb) (nm : List UInt8) : Option PReln := if dbOk d then (d.tabs.find? fun t => t.name == nm).map PTab.rel else none
def lkB (d : PDb) (nm : List UInt8) : Bool := (lkT d nm).isSome
def lkR (d : PDb) (nm : List UInt8) : PReln := (lkT d nm).getD ⟨0, []⟩
theorem lk_no {d : PDb} {nm : List UInt8} (h : dbOk d = false) : lkB d nm = false ∧ lkR d nm = ⟨0, []⟩ := by simp [lkB, lkR, lkT, h]
theorem find_at {α : Type} {p : α → Bool} {l : List α} {i : Nat} (h : AllTo (fun a => !p a) l i) (hi : i < l.length) (e : p l[i] = true) : l.find? p = some l[i] := by
  have e0 : l = l.take i ++ l[i] :: l.drop (i + 1) := by rw [← List.drop_eq_getElem_cons hi, List.take_append_drop]
  have hn : (l.take i).find? p = none := by
    rw [List.find?_eq_none]; intro x hx
    have := (List.all_eq_true.1 h) x hx
    simpa using this
  obtain ⟨a, ha⟩ : ∃ a, a = l[i] := ⟨_, rfl⟩
  rw [← ha] at e e0 ⊢
  rw [e0, List.find?_append, hn, Option.none_or, List.find?_cons, e]
theorem find_no {α : Type} {p : α → Bool} {l : List α} (h : (l.all fun a => !p a) = true) : l.find? p = none := by
  rw [List.find?_eq_none]; intro x hx
  have := (List.all_eq_true.1 h) x hx
  simpa using this
theorem lk_at {l : List PTab} {nm : List UInt8} (hd : dbOk ⟨l⟩ = true) {i : Nat} (h : AllTo (fun t => !(t.name == nm)) l i) (hi : i < l.length) (e : l[i].name = nm) : lkB ⟨l⟩ nm = true ∧ lkR ⟨l⟩ nm = l[i].rel := by
  have := find_at (p := fun t : PTab => t.name == nm) h hi (by simpa using e)
  have hT : lkT ⟨l⟩ nm = some l[i].rel := by rw [lkT, if_pos hd]; simp only; rw [this]; rfl
  exact ⟨by rw [lkB, hT]; rfl, by rw [lkR, hT]; rfl⟩
theorem lk_none {l : List PTab} {nm : List UInt8} (h : (l.all fun t => !(t.name == nm)) = true) : lkB ⟨l⟩ nm = false ∧ lkR ⟨l⟩ nm = ⟨0, []⟩ := by
  have := find_no (p := fun t : PTab => t.name == nm) h
  by_cases hd : dbOk ⟨l⟩ = true
  · have hT : lkT ⟨l⟩ nm = none := by rw [lkT, if_pos hd]; simp only; rw [this]; rfl
    exact ⟨by rw [lkB, hT]; rfl, by rw [lkR, hT]; rfl⟩
  · exact lk_no (by simpa using hd)
structure LkTo (l : List PTab) (nm : List UInt8) (i : Nat) : Prop where
  le : i ≤ l.length
  ok : AllTo (fun t => !(t.name == nm)) l i
theorem LkTo.zero {l : List PTab} {nm : List UInt8} : LkTo l nm 0 := ⟨by omega, allTo_zero⟩
theorem LkTo.step {l : List PTab} {nm : List UInt8} {i : Nat} (h : LkTo l nm i) (hi : i < l.length) (e : ¬ l[i].name = nm) : LkTo l nm (i + 1) := ⟨hi, allTo_step h.ok hi (by simp [e])⟩
theorem LkTo.done {l : List PTab} {nm : List UInt8} {i : Nat} (h : LkTo l nm i) (hi : l.length ≤ i) : lkB ⟨l⟩ nm = false ∧ lkR ⟨l⟩ nm = ⟨0, []⟩ := lk_none (allTo_done h.ok hi)
theorem LkTo.found {l : List PTab} {nm : List UInt8} {i : Nat} (h : LkTo l nm i) (hd : dbOk ⟨l⟩ = true) (hi : i < l.length) (e : l[i].name = nm) : lkB ⟨l⟩ nm = true ∧ lkR ⟨l⟩ nm = l[i].rel := lk_at hd h.ok hi e
theorem lk_ok {d : PDb} {nm : List UInt8} (h : lkB d nm = true) : rowsOk (lkR d nm).ar (lkR d nm).rows = true := by
  cases hT : lkT d nm with
  | none => rw [lkB, hT] at h; cases h
  | some r =>
    have hr : lkR d nm = r := by rw [lkR, hT]; rfl
    rw [hr]
    unfold lkT at hT
    split at hT
    · rename_i hd
      obtain ⟨t, ht, rfl⟩ := Option.map_eq_some_iff.1 hT
      have hm := dbOk_tab hd (List.mem_of_find?_eq_some ht)
      simp only [tabOk, Bool.and_eq_true] at hm
      exact hm.1.1.2
    · cases hT
theorem tabOk_rel {t : PTab} (h : tabOk t = true) : t.rel.rows.length ≤ 4294967296 ∧ ∀ x ∈ t.rel.rows, x.length ≤ 4294967296 := by
  simp only [tabOk, Bool.and_eq_true, decide_eq_true_eq] at h
  exact ⟨by omega, fun x hx => by have := rowsOk_row h.1.1.2 x hx; omega⟩
def hasR (r : PReln) (row : List Int) : Bool := rowsOk r.ar r.rows && placeB r.rows row
def difB (a b : PReln) : Bool := rowsOk a.ar a.rows && rowsOk b.ar b.rows && decide (a.ar = b.ar)
def difL (l : List (List Int)) (b : List (List Int)) : List (List Int) := l.filter fun r => !placeB b r
theorem difL_step {l b : List (List Int)} {i : Nat} (h : i < l.length) : difL (l.take (i + 1)) b = difL (l.take i) b ++ if placeB b l[i] then [] else [l[i]] := by
  rw [List.take_succ_eq_append_getElem h, difL, List.filter_append]
  cases e : placeB b l[i] <;> simp [difL, e]
theorem difL_len (l b : List (List Int)) : (difL l b).length ≤ l.length := List.length_filter_le _ _
def difR (a b : PReln) : PReln := if difB a b then ⟨a.ar, difL a.rows b.rows⟩ else ⟨0, []⟩
theorem rowsOk_filter {ar : Int} {l : List (List Int)} {p : List Int → Bool} (h : rowsOk ar l = true) : rowsOk ar (l.filter p) = true := by
  have hs : Srt (l.filter p) := List.Pairwise.sublist List.filter_sublist (rowsOk_srt h)
  rw [rowsOk_of (rowsOk_inR h) hs fun x hx => rowsOk_mem h (List.mem_filter.1 hx).1]
  have h1 := rowsOk_len h
  have h2 := List.length_filter_le p l
  simp; omega
def fitB (d : PDb) (x : PDelta) : Bool := lkB d x.name && rowsOk x.ins.ar x.ins.rows && rowsOk x.del.ar x.del.rows && decide (x.ins.ar = (lkR d x.name).ar) && decide (x.del.ar = (lkR d x.name).ar)
def norI (r : PReln) (l : List (List Int)) : List (List Int) := l.filter fun y => !hasR r y
def norD (r ins : PReln) (l : List (List Int)) : List (List Int) := l.filter fun y => hasR r y && !hasR ins y
def norP (d : PDb) (x : PDelta) : PDelta := if fitB d x then ⟨x.name, ⟨(lkR d x.name).ar, norI (lkR d x.name) x.ins.rows⟩, ⟨(lkR d x.name).ar, norD (lkR d x.name) x.ins x.del.rows⟩⟩ else ⟨[], ⟨0, []⟩, ⟨0, []⟩⟩
/-- what the reference finds by differences -/
theorem nor_dif {d : PDb} {x : PDelta} (h : fitB d x = true) :
    difR x.ins (lkR d x.name) = ⟨(lkR d x.name).ar, norI (lkR d x.name) x.ins.rows⟩ ∧
    difR (difR x.del x.ins) (difR (difR x.del x.ins) (lkR d x.name)) = ⟨(lkR d x.name).ar, norD (lkR d x.name) x.ins x.del.rows⟩ := by
  simp only [fitB, Bool.and_eq_true, decide_eq_true_eq] at h
  obtain ⟨⟨⟨⟨h1, h2⟩, h3⟩, h4⟩, h5⟩ := h
  have hr := lk_ok h1
  obtain ⟨r, hre⟩ : ∃ r, r = lkR d x.name := ⟨_, rfl⟩
  rw [← hre] at hr h4 h5 ⊢
  have hh : ∀ y, hasR r y = placeB r.rows y := fun y => by simp only [hasR, hr, Bool.true_and]
  have hi : ∀ y, hasR x.ins y = placeB x.ins.rows y := fun y => by simp only [hasR, h2, Bool.true_and]
  have e1 : difR x.ins r = ⟨r.ar, norI r x.ins.rows⟩ := by
    have : difB x.ins r = true := by rw [difB, h2, hr, decide_eq_true h4]; rfl
    simp only [difR, this, if_true, h4, norI, difL, hh]
  have e2 : difR x.del x.ins = ⟨r.ar, difL x.del.rows x.ins.rows⟩ := by
    have : difB x.del x.ins = true := by rw [difB, h2, h3, decide_eq_true (h5.trans h4.symm)]; rfl
    simp only [difR, this, if_true, h5]
  have v2 : rowsOk r.ar (difL x.del.rows x.ins.rows) = true := h5 ▸ rowsOk_filter h3
  have e3 : difR (difR x.del x.ins) r = ⟨r.ar, difL (difL x.del.rows x.ins.rows) r.rows⟩ := by
    rw [e2]
    have : difB ⟨r.ar, difL x.del.rows x.ins.rows⟩ r = true := by simp only [difB, v2, hr]; simp
    simp only [difR, this, if_true]
  have v3 : rowsOk r.ar (difL (difL x.del.rows x.ins.rows) r.rows) = true := rowsOk_filter v2
  refine ⟨e1, ?_⟩
  rw [e3, e2]
  have : difB ⟨r.ar, difL x.del.rows x.ins.rows⟩ ⟨r.ar, difL (difL x.del.rows x.ins.rows) r.rows⟩ = true := by simp only [difB, v2, v3]; simp
  simp only [difR, this, if_true]
  congr 1
  simp only [norD, hh, hi]
  have hsr := rowsOk_srt v3
  conv => lhs; unfold difL
  rw [List.filter_filter]
  refine List.filter_congr fun y hy => ?_
  have hm : placeB (difL (difL x.del.rows x.ins.rows) r.rows) y = true ↔ (placeB x.ins.rows y = false ∧ placeB r.rows y = false) := by
    rw [placeB_iff hsr]
    simp only [difL, List.mem_filter, Bool.not_eq_true']
    exact ⟨fun h => ⟨h.1.2, h.2⟩, fun h => ⟨⟨hy, h.1⟩, h.2⟩⟩
  cases h6 : placeB x.ins.rows y <;> cases h7 : placeB r.rows y <;> cases h8 : placeB (difL (difL x.del.rows x.ins.rows) r.rows) y <;> simp_all [difL]
/-- rows of our own: those that the first i rows leave -/
structure NorI (f : List (List Int) → List (List Int)) (l : List (List Int)) (B : Nat) (p : Nat × List Ints) (h : Nat) : Prop where
  le : p.1 ≤ l.length
  pl : p.2.map (plS plI) = f (l.take p.1)
  ok : ∀ y ∈ p.2, okS okI y
  good : GoodL (cS cI) (whS whI) B h p.2
theorem NorI.zero {f : List (List Int) → List (List Int)} {l : List (List Int)} {B h : Nat} (hf : f [] = []) : NorI f l B (0, []) h := ⟨by simp, by simp [hf], by simp, GoodL.nil⟩
theorem NorI.skip {f : List (List Int) → List (List Int)} {l : List (List Int)} {B h h' i : Nat} {ys : List Ints} (H : NorI f l B (i, ys) h) (hi : i < l.length) (e : f (l.take (i + 1)) = f (l.take i)) (hh : h ≤ h') : NorI f l B (i + 1, ys) h' :=
  ⟨hi, by rw [e]; exact H.pl, H.ok, ⟨H.good.nd, H.good.lo, fun g hg => Nat.lt_of_lt_of_le (H.good.hi g hg) hh, H.good.wh⟩⟩
theorem NorI.snoc {f : List (List Int) → List (List Int)} {l : List (List Int)} {B h m h' i : Nat} {ys : List Ints} {y : Ints} (H : NorI f l B (i, ys) h) (hi : i < l.length) (e : f (l.take (i + 1)) = f (l.take i) ++ [l[i]]) (hy : plS plI y = l[i]) (hok : okS okI y) (hb : B ≤ m ∧ h ≤ m) (hm : m ≤ h') (G : Good (cS cI y) (whS whI y) m) (hr : ∀ g ∈ idsL (cS cI y), g < h') : NorI f l B (i + 1, ys ++ [y]) h' := by
  refine ⟨hi, ?_, fun z hz => ?_, GoodL.snoc H.good hb hm G hr⟩
  · have := H.pl
    simp only at this
    simp only [List.map_append, List.map_cons, List.map_nil]
    rw [this, hy, e]
  · rcases List.mem_append.1 hz with h | h
    · exact H.ok z h
    · rw [List.mem_singleton.1 h]; exact hok
end Go.Vs


namespace Go.Vs
/-- a contract on arguments known by elements only holds of typed ones -/
theorem VC.er {P : Program} {f : FuncId} {As Ps : List V} {post : Nat → V → Prop} (h : VC P f Ps post) (hp : rpL (fun _ => none) As = some Ps) : VC P f As post :=
  ⟨h.1, fun w vals A hLR => h.2 w vals A (LR.er _ _ _ hLR hp)⟩
/-- copies: the first i elements -/
structure CopI {α β : Type} (c : α → List D) (wh : α → Prop) (ok : α → Prop) (pl : α → β) (l : List β) (B : Nat) (p : Nat × List α) (h : Nat) : Prop where
  le : p.1 ≤ l.length
  pl : p.2.map pl = l.take p.1
  ok : ∀ y ∈ p.2, ok y
  good : GoodL c wh B h p.2
section
variable {α β : Type} {c : α → List D} {wh : α → Prop} {ok : α → Prop} {pl : α → β} {l : List β} {B : Nat}
theorem CopI.zero {h : Nat} : CopI c wh ok pl l B (0, []) h := ⟨by simp, by simp, by simp, GoodL.nil⟩
theorem CopI.len {h i : Nat} {ys : List α} (H : CopI c wh ok pl l B (i, ys) h) : ys.length = i := by
  have := congrArg List.length H.pl
  have hl := H.le
  simp only [List.length_map, List.length_take] at this hl
  omega
theorem CopI.snoc {h m h' i : Nat} {ys : List α} {y : α} (H : CopI c wh ok pl l B (i, ys) h) (hi : i < l.length) (hy : pl y = l[i]) (hok : ok y) (hb : B ≤ m ∧ h ≤ m) (hm : m ≤ h') (G : Good (c y) (wh y) m) (hr : ∀ g ∈ idsL (c y), g < h') : CopI c wh ok pl l B (i + 1, ys ++ [y]) h' := by
  refine ⟨hi, ?_, fun z hz => ?_, GoodL.snoc H.good hb hm G hr⟩
  · have := H.pl
    simp only at this
    simp only [List.map_append, List.map_cons, List.map_nil]
    rw [this, hy, List.take_succ_eq_append_getElem hi]
  · rcases List.mem_append.1 hz with h | h
    · exact H.ok z h
    · rw [List.mem_singleton.1 h]; exact hok
theorem CopI.all {h i : Nat} {ys : List α} (H : CopI c wh ok pl l B (i, ys) h) (hi : l.length ≤ i) : ys.map pl = l := by
  have := H.pl
  simp only at this
  rwa [List.take_of_length_le hi] at this
end
theorem good_Tab {n : Nat} {nm : List UInt8} {r : Reln} (G : Good (cReln r) (whReln r) n) : Good (cTab ⟨nm, r⟩) (whTab ⟨nm, r⟩) n :=
  Good.app (good_Str n nm) G fun g h h' => by simp [cStr, idsL, D.ids] at h
/-- no slice of the database is too long to be counted -/
def szRel (r : PReln) : Prop := r.rows.length ≤ 4294967296 ∧ ∀ x ∈ r.rows, x.length ≤ 4294967296
def szDb (d : PDb) : Prop := d.tabs.length ≤ 4294967296 ∧ ∀ t ∈ d.tabs, szRel t.rel
theorem szDb_ok {d : PDb} (h : dbOk d = true) : szDb d := ⟨by have := dbOk_len h; omega, fun t ht => tabOk_rel (dbOk_tab h ht)⟩
theorem szRel_ok {r : PReln} (h : rowsOk r.ar r.rows = true) : szRel r := ⟨by have := rowsOk_len h; omega, fun x hx => by have := rowsOk_row h x hx; omega⟩
def uniB (a b : PReln) : Bool := difB a b && newB a.ar (a.rows ++ b.rows)
def uniR (a b : PReln) : PReln := if difB a b then newR a.ar (a.rows ++ b.rows) else ⟨0, []⟩
theorem difB_len {a b : PReln} (h : difB a b = true) : szRel a ∧ szRel b ∧ a.rows.length ≤ 4000 ∧ b.rows.length ≤ 4000 := by
  simp only [difB, Bool.and_eq_true] at h
  exact ⟨szRel_ok h.1.1, szRel_ok h.1.2, rowsOk_len h.1.1, rowsOk_len h.1.2⟩
end Go.Vs


namespace Go.Vs
/-- two ordered lists, and what of them stands in order behind -/
structure MJ (rows a b out : List (List Int)) : Prop where
  sa : Srt a
  sb : Srt b
  so : Srt out
  lt : ∀ y ∈ out, ∀ z, z ∈ a ∨ z ∈ b → cmpL y z < 0
  mem : ∀ x, (x ∈ out ∨ x ∈ a ∨ x ∈ b) ↔ x ∈ rows
  len : out.length + a.length + b.length ≤ rows.length
theorem MJ.start (rows : List (List Int)) (m : Nat) : MJ rows (srtU (rows.take m)) (srtU (rows.drop m)) [] := by
  have h := MI.start rows m
  exact ⟨h.sa, h.sb, h.so, by simp, h.mem, h.len⟩
theorem MJ.swap {rows a b out : List (List Int)} (h : MJ rows a b out) : MJ rows b a out :=
  ⟨h.sb, h.sa, h.so, fun y hy z hz => h.lt y hy z hz.symm, fun x => by rw [← h.mem x, or_comm (a := x ∈ a)], by have := h.len; omega⟩
theorem MJ.done {rows out : List (List Int)} (h : MJ rows [] [] out) : out = srtU rows := srtU_uniq h.so fun x => by rw [← h.mem x]; simp
theorem MJ.left {rows a b out : List (List Int)} {x : List Int} (h : MJ rows (x :: a) b out) (hb : ∀ z ∈ b, cmpL x z < 0) : MJ rows a b (out ++ [x]) := by
  have ha := List.pairwise_cons.1 h.sa
  have hl := h.len
  simp only [List.length_cons] at hl
  refine ⟨ha.2, h.sb, List.pairwise_append.2 ⟨h.so, by simp, fun y hy z hz => ?_⟩, fun y hy z hz => ?_, fun y => ?_, by simp only [List.length_append, List.length_cons, List.length_nil]; omega⟩
  · rw [List.mem_singleton.1 hz]; exact h.lt y hy x (by simp)
  · rcases List.mem_append.1 hy with hy | hy
    · exact h.lt y hy z (hz.imp (fun hz => by simp [hz]) id)
    · rw [List.mem_singleton.1 hy]
      rcases hz with hz | hz
      · exact ha.1 z hz
      · exact hb z hz
  · rw [← h.mem y]
    simp only [List.mem_append, List.mem_cons, List.not_mem_nil, or_false]
    constructor
    · rintro ((h1 | h1) | h1 | h1) <;> simp [h1]
    · rintro (h1 | (h1 | h1) | h1) <;> simp [h1]
theorem MJ.both {rows a b out : List (List Int)} {x : List Int} (h : MJ rows (x :: a) (x :: b) out) : MJ rows a b (out ++ [x]) := by
  have hb := List.pairwise_cons.1 h.sb
  have hl := h.len
  simp only [List.length_cons] at hl
  refine MJ.left (x := x) ⟨h.sa, hb.2, h.so, fun y hy z hz => h.lt y hy z (hz.imp id fun hz => by simp [hz]), fun y => ?_, by simp only [List.length_cons]; omega⟩ hb.1
  rw [← h.mem y]
  simp only [List.mem_cons]
  constructor
  · rintro (h1 | h1 | h1)
    · exact .inl h1
    · exact .inr (.inl h1)
    · exact .inr (.inr (.inr h1))
  · rintro (h1 | h1 | h1 | h1)
    · exact .inl h1
    · exact .inr (.inl h1)
    · exact .inr (.inl (.inl h1))
    · exact .inr (.inr h1)
/-- rows of our own, each with blocks of its own -/
structure OwnR (B : Nat) (L : List Ints) : Prop where
  nd : (idsLL (L.map (cS cI))).Nodup
  lo : ∀ g ∈ idsLL (L.map (cS cI)), B ≤ g
  wh : ∀ r ∈ L, whS whI r
  ok : ∀ r ∈ L, okS okI r
theorem OwnR.sub {B : Nat} {L L' : List Ints} (H : OwnR B L) (h : L'.Sublist L) : OwnR B L' :=
  ⟨H.nd.sublist (ids_sub h), fun g hg => H.lo g ((ids_sub h).subset hg), fun r hr => H.wh r (h.subset hr), fun r hr => H.ok r (h.subset hr)⟩
/-- the merge of two slices of our own -/
structure SrtI (rows : List (List Int)) (B : Nat) (p : List Ints × List Ints × List Ints × Option (TypeId × Nat) × Option (TypeId × Nat)) : Prop where
  mj : MJ rows (p.1.map (plS plI)) (p.2.1.map (plS plI)) (p.2.2.1.map (plS plI))
  own : OwnR B (p.2.2.1 ++ (p.1 ++ p.2.1))
theorem SrtI.left {rows : List (List Int)} {B : Nat} {x : Ints} {a b o : List Ints} {Ta Tb Ta' : Option (TypeId × Nat)} (H : SrtI rows B (x :: a, b, o, Ta, Tb)) (hb : ∀ z ∈ b.map (plS plI), cmpL (plS plI x) z < 0) : SrtI rows B (a, b, o ++ [x], Ta', Tb) := by
  have h1 := H.mj
  simp only [List.map_cons] at h1
  refine ⟨by simp only [List.map_append, List.map_cons, List.map_nil]; exact h1.left hb, ?_⟩
  have h2 := H.own
  simp only at h2 ⊢
  simpa using h2
theorem SrtI.both {rows : List (List Int)} {B : Nat} {x y : Ints} {a b o : List Ints} {Ta Tb Ta' Tb' : Option (TypeId × Nat)} (H : SrtI rows B (x :: a, y :: b, o, Ta, Tb)) (e : plS plI x = plS plI y) : SrtI rows B (a, b, o ++ [x], Ta', Tb') := by
  have h1 := H.mj
  simp only [List.map_cons, ← e] at h1
  refine ⟨by simp only [List.map_append, List.map_cons, List.map_nil]; exact h1.both, ?_⟩
  refine H.own.sub ?_
  simp only [List.append_assoc, List.singleton_append]
  exact (List.Sublist.refl o).append ((((List.Sublist.refl a).append (List.sublist_cons_self y b))).cons_cons x)
structure ToN (ar : Int) (l : List (List Int)) (i : Nat) : Prop where
  le : i ≤ l.length
  ok : AllTo (fun r : List Int => decide ((r.length : Int) = ar) && valsOk r) l i
theorem ToN.zero {ar : Int} {l : List (List Int)} : ToN ar l 0 := ⟨by omega, allTo_zero⟩
theorem ToN.step {ar : Int} {l : List (List Int)} {i : Nat} (h : ToN ar l i) (hi : i < l.length) (e : (decide ((l[i].length : Int) = ar) && valsOk l[i]) = true) : ToN ar l (i + 1) := ⟨hi, allTo_step h.ok hi e⟩
theorem ToN.done {ar : Int} {l : List (List Int)} {i : Nat} (h : ToN ar l i) (hi : l.length ≤ i) : (l.all fun r : List Int => decide ((r.length : Int) = ar) && valsOk r) = true := allTo_done h.ok hi
theorem ToN.bad {ar : Int} {l : List (List Int)} {i : Nat} (_ : ToN ar l i) (hi : i < l.length) (e : (decide ((l[i].length : Int) = ar) && valsOk l[i]) = false) : newB ar l = false := by
  have : (l.all fun r : List Int => decide ((r.length : Int) = ar) && valsOk r) = false := all_bad (p := fun r : List Int => decide ((r.length : Int) = ar) && valsOk r) hi e
  rw [newB, this, Bool.false_and]
theorem VC.weak {P : Program} {f : FuncId} {As : List V} {post post' : Nat → V → Prop} (h : VC P f As post) (hp : ∀ n r, post n r → post' n r) : VC P f As post' :=
  ⟨h.1, fun w vals A hLR => (h.2 w vals A hLR).mono fun e w' he => by
    obtain ⟨v, r, h1, h2, h3, h4, h5⟩ := he
    exact ⟨v, r, h1, h2, h3, h4, hp _ _ h5⟩⟩
/-- a call that is handed rows of ours; its result is new -/
theorem call_own {P : Program} {E : Md} {args : List Operand} {f : FuncId} {vs : List V} {dst : Option Tmp} {K : St → Prop} {σ : St} {post : Nat → V → Prop} (hk : keysVL vs ≠ [])
    (hc : ∀ γ n, σ.hs ≤ n → Gam σ γ n → ∃ As, rdL γ σ.m vs = some As ∧ VC P f As post) (hi : ∀ n r, post n r → (∀ i ∈ r.ids, n ≤ i) ∧ r.hp = false)
    (hK : ∀ n hs' r, σ.hs ≤ n → n ≤ hs' → post n r → (∀ i ∈ r.ids, i < hs') → K ({ σ with hs := hs' }.put dst r)) : vcallA P E f args vs dst K σ := by
  refine .inl ?_
  unfold vcall
  split
  · rename_i h; exact (hk h).elim
  · intro γ n a b
    obtain ⟨As, h1, h2⟩ := hc γ n a b
    exact ⟨As, post, h1, h2, fun r hs' c d e => ⟨(hi n r d).1, (hi n r d).2, hK n hs' r a c d e⟩⟩
end Go.Vs


namespace Go.Vs
/-! ### setting a relation -/
theorem bl_irr : ∀ (a : List UInt8), Op.bytesLess a a = false
  | [] => rfl
  | x :: r => by simp [Op.bytesLess, bl_irr r, UInt8.lt_irrefl]
theorem bl_trans : ∀ {a b c : List UInt8}, Op.bytesLess a b = true → Op.bytesLess b c = true → Op.bytesLess a c = true
  | _, [], _, h, _ => by cases ‹List UInt8› <;> simp [Op.bytesLess] at h
  | _, _ :: _, [], _, h => by simp [Op.bytesLess] at h
  | [], _ :: _, _ :: _, _, _ => rfl
  | x :: a, y :: b, z :: c, h1, h2 => by
    simp only [Op.bytesLess, Bool.or_eq_true, Bool.and_eq_true, decide_eq_true_eq, beq_iff_eq] at h1 h2 ⊢
    rcases h1 with h1 | ⟨rfl, h1⟩
    · rcases h2 with h2 | ⟨rfl, h2⟩
      · exact .inl (UInt8.lt_trans h1 h2)
      · exact .inl h1
    · rcases h2 with h2 | ⟨rfl, h2⟩
      · exact .inl h2
      · exact .inr ⟨rfl, bl_trans h1 h2⟩
theorem bl_tri : ∀ (a b : List UInt8), Op.bytesLess a b = true ∨ a = b ∨ Op.bytesLess b a = true
  | [], [] => .inr (.inl rfl)
  | [], _ :: _ => .inl rfl
  | _ :: _, [] => .inr (.inr rfl)
  | x :: a, y :: b => by
    simp only [Op.bytesLess, Bool.or_eq_true, Bool.and_eq_true, decide_eq_true_eq, beq_iff_eq]
    rcases bl_tri a b with h | h | h
    · by_cases e : x = y
      · exact .inl (.inr ⟨e, h⟩)
      · rcases UInt8.lt_or_lt_of_ne e with h' | h'
        · exact .inl (.inl h')
        · exact .inr (.inr (.inl h'))
    · by_cases e : x = y
      · exact .inr (.inl (by rw [e, h]))
      · rcases UInt8.lt_or_lt_of_ne e with h' | h'
        · exact .inl (.inl h')
        · exact .inr (.inr (.inl h'))
    · by_cases e : x = y
      · exact .inr (.inr (.inr ⟨e.symm, h⟩))
      · rcases UInt8.lt_or_lt_of_ne e with h' | h'
        · exact .inl (.inl h')
        · exact .inr (.inr (.inl h'))
/-- names in order -/
def SrtT (l : List PTab) : Prop := l.Pairwise fun a b => Op.bytesLess a.name b.name = true
theorem dbOk_srt {l : List PTab} (h : dbOk ⟨l⟩ = true) : SrtT l := by
  simp only [dbOk, Bool.and_eq_true, List.all_eq_true, List.mem_range] at h
  have key : ∀ n i, i + n + 1 < l.length → Op.bytesLess (l.getD i default).name (l.getD (i + n + 1) default).name = true := by
    intro n
    induction n with
    | zero =>
      intro i hi
      have := h.2 (i + 1) (by omega)
      simp only [dbAt, Bool.and_eq_true, Bool.or_eq_true, decide_eq_true_eq] at this
      simpa using this.1
    | succ n ih =>
      intro i hi
      have h1 := ih i (by omega)
      have := h.2 (i + n + 1 + 1) (by omega)
      simp only [dbAt, Bool.and_eq_true, Bool.or_eq_true, decide_eq_true_eq] at this
      have h2 : Op.bytesLess (l.getD (i + n + 1) default).name (l.getD (i + n + 1 + 1) default).name = true := by simpa using this.1
      exact bl_trans h1 h2
  refine List.pairwise_iff_getElem.2 fun i j hi hj hij => ?_
  have := key (j - i - 1) i (by omega)
  rw [show i + (j - i - 1) + 1 = j by omega, getD_el _ hi, getD_el _ hj] at this
  exact this
/-- where the name stands or belongs -/
def setK (l : List PTab) (nm : List UInt8) : Nat := (l.takeWhile fun t => Op.bytesLess t.name nm).length
def hitK (l : List PTab) (nm : List UInt8) : Bool := decide (setK l nm < l.length) && decide ((l.getD (setK l nm) default).name = nm)
def setL (l : List PTab) (nm : List UInt8) (r : PReln) : List PTab := l.take (setK l nm) ++ ⟨nm, r⟩ :: l.drop (if hitK l nm then setK l nm + 1 else setK l nm)
/-- as the reference does it -/
def stS (nm : List UInt8) (r : PReln) (s : List PTab × Bool) (t : PTab) : List PTab × Bool :=
  let s1 := if !s.2 && !(Op.bytesLess t.name nm) then (s.1 ++ [⟨nm, r⟩], true) else s
  if t.name = nm then s1 else (s1.1 ++ [t], s1.2)
def setS (l : List PTab) (nm : List UInt8) (r : PReln) : List PTab :=
  let s := l.foldl (stS nm r) ([], false)
  if s.2 then s.1 else s.1 ++ [⟨nm, r⟩]
theorem stS_after {nm : List UInt8} {r : PReln} : ∀ (l : List PTab) (o : List PTab), (∀ t ∈ l, t.name ≠ nm) → l.foldl (stS nm r) (o, true) = (o ++ l, true)
  | [], o, _ => by simp
  | t :: l, o, h => by
    have h1 := h t (by simp)
    rw [List.foldl_cons]
    have : stS nm r (o, true) t = (o ++ [t], true) := by simp [stS, h1]
    rw [this, stS_after l _ fun u hu => h u (by simp [hu])]
    simp
theorem setS_eq {nm : List UInt8} {r : PReln} : ∀ (l : List PTab) (o : List PTab), SrtT l →
    (let s := l.foldl (stS nm r) (o, false); if s.2 then s.1 else s.1 ++ [⟨nm, r⟩]) = o ++ setL l nm r
  | [], o, _ => by simp [setL, setK, hitK]
  | t :: l, o, hs => by
    have hp := List.pairwise_cons.1 hs
    rw [List.foldl_cons]
    cases hb : Op.bytesLess t.name nm
    · have hrest : ∀ u ∈ l, u.name ≠ nm := fun u hu e => by
        have h1 := hp.1 u hu
        rw [e, hb] at h1; cases h1
      have hk : setK (t :: l) nm = 0 := by simp [setK, hb]
      by_cases he : t.name = nm
      · have e1 : stS nm r (o, false) t = (o ++ [⟨nm, r⟩], true) := by simp [stS, hb, he, bl_irr]
        rw [e1, stS_after l _ hrest]
        simp [setL, hk, hitK, he]
      · have e1 : stS nm r (o, false) t = (o ++ [⟨nm, r⟩] ++ [t], true) := by simp [stS, hb, he]
        rw [e1, stS_after l _ hrest]
        simp [setL, hk, hitK, he]
    · have he : ¬ t.name = nm := fun e => by rw [e, bl_irr] at hb; cases hb
      have e1 : stS nm r (o, false) t = (o ++ [t], false) := by simp [stS, hb, he]
      rw [e1, setS_eq l _ hp.2]
      have hk : setK (t :: l) nm = setK l nm + 1 := by simp [setK, hb]
      have hh : hitK (t :: l) nm = hitK l nm := by
        simp only [hitK, hk, List.length_cons, List.getD_cons_succ]
        congr 2
        apply propext; omega
      simp only [setL, hk, hh, List.take_succ_cons, List.append_assoc, List.cons_append, List.nil_append]
      cases hitK l nm <;> simp
theorem setS_L {l : List PTab} {nm : List UInt8} {r : PReln} (h : dbOk ⟨l⟩ = true) : setS l nm r = setL l nm r := by
  have := setS_eq (nm := nm) (r := r) l [] (dbOk_srt h)
  simpa [setS] using this
def setB (d : PDb) (nm : List UInt8) (r : PReln) : Bool := dbOk d && dbOk ⟨setL d.tabs nm r⟩
def setP (d : PDb) (nm : List UInt8) (r : PReln) : PDb := if setB d nm r then ⟨setL d.tabs nm r⟩ else d
end Go.Vs
namespace Go.Vs
theorem stS_len (nm : List UInt8) (r : PReln) (s : List PTab × Bool) (t : PTab) : (stS nm r s t).1.length ≤ s.1.length + 2 := by
  simp only [stS]
  repeat' split
  all_goals simp
theorem foldS_len (nm : List UInt8) (r : PReln) : ∀ (l : List PTab) (s : List PTab × Bool), (l.foldl (stS nm r) s).1.length ≤ s.1.length + 2 * l.length
  | [], s => by simp
  | t :: l, s => by
    have h1 := foldS_len nm r l (stS nm r s t)
    have h2 := stS_len nm r s t
    simp only [List.foldl_cons, List.length_cons]; omega
theorem foldS_mem (nm : List UInt8) (r : PReln) : ∀ (l : List PTab) (s : List PTab × Bool) (t : PTab), t ∈ (l.foldl (stS nm r) s).1 → t ∈ s.1 ∨ t ∈ l ∨ t = ⟨nm, r⟩
  | [], s, t, h => .inl h
  | u :: l, s, t, h => by
    rcases foldS_mem nm r l (stS nm r s u) t h with h | h | h
    · have : t ∈ s.1 ∨ t = u ∨ t = ⟨nm, r⟩ := by
        obtain ⟨so, sb⟩ := s
        have key : ∀ o' : List PTab × Bool, (t ∈ o'.1 → t ∈ so ∨ t = u ∨ t = ⟨nm, r⟩) → t ∈ (if u.name = nm then o' else (o'.1 ++ [u], o'.2)).1 → t ∈ so ∨ t = u ∨ t = ⟨nm, r⟩ := fun o' h1 h2 => by
          split at h2
          · exact h1 h2
          · rcases List.mem_append.1 h2 with h2 | h2
            · exact h1 h2
            · exact .inr (.inl (List.mem_singleton.1 h2))
        refine key _ (fun h1 => ?_) h
        split at h1
        · rcases List.mem_append.1 h1 with h2 | h2
          · exact .inl h2
          · exact .inr (.inr (List.mem_singleton.1 h2))
        · exact .inl h1
      rcases this with h | h | h
      · exact .inl h
      · exact .inr (.inl (by simp [h]))
      · exact .inr (.inr h)
    · exact .inr (.inl (by simp [h]))
    · exact .inr (.inr h)
theorem setS_mem {l : List PTab} {nm : List UInt8} {r : PReln} {t : PTab} (h : t ∈ setS l nm r) : t ∈ l ∨ t = ⟨nm, r⟩ := by
  simp only [setS] at h
  have key := foldS_mem nm r l ([], false) t
  split at h
  · simpa using key h
  · rcases List.mem_append.1 h with h | h
    · simpa using key h
    · exact .inr (List.mem_singleton.1 h)
structure StI (nm : List UInt8) (r : PReln) (l : List PTab) (p : Nat × List PTab × Bool) : Prop where
  le : p.1 ≤ l.length
  eq : (l.take p.1).foldl (stS nm r) ([], false) = p.2
theorem StI.zero {nm : List UInt8} {r : PReln} {l : List PTab} : StI nm r l (0, [], false) := ⟨by simp, rfl⟩
theorem StI.step {nm : List UInt8} {r : PReln} {l : List PTab} {i : Nat} {s s' : List PTab × Bool} (h : StI nm r l (i, s)) (hi : i < l.length) (e : stS nm r s l[i] = s') : StI nm r l (i + 1, s') := by
  refine ⟨hi, ?_⟩
  have := h.eq
  simp only at this ⊢
  rw [List.take_succ_eq_append_getElem hi, List.foldl_append, this, List.foldl_cons, List.foldl_nil, e]
theorem StI.len {nm : List UInt8} {r : PReln} {l : List PTab} {i : Nat} {s : List PTab × Bool} (h : StI nm r l (i, s)) : s.1.length ≤ 2 * i := by
  have h1 := foldS_len nm r (l.take i) ([], false)
  have h2 := h.eq
  simp only at h2
  rw [h2] at h1
  simp only [List.length_nil, List.length_take] at h1
  omega
theorem StI.done {nm : List UInt8} {r : PReln} {l : List PTab} {i : Nat} {s : List PTab × Bool} (h : StI nm r l (i, s)) (hi : l.length ≤ i) : setS l nm r = if s.2 then s.1 else s.1 ++ [⟨nm, r⟩] := by
  have h2 := h.eq
  simp only [List.take_of_length_le hi] at h2
  simp only [setS, h2]
end Go.Vs


namespace Go.Vs
section
variable {α : Type} {c : α → List D} {wh : α → Prop}
end
structure KTo (l : List PTab) (nm : List UInt8) (i : Nat) : Prop where
  le : i ≤ setK l nm
theorem KTo.zero {l : List PTab} {nm : List UInt8} : KTo l nm 0 := ⟨by omega⟩
end Go.Vs
namespace Go.Vs
theorem okDb_st {d : Db} (h : okDb d) : ∀ t ∈ (plDb d).tabs, t.name.length ≤ maxLen := fun t ht => by
  obtain ⟨⟨id, T, xs⟩⟩ := d
  simp only [plDb, plS, List.mem_map] at ht
  obtain ⟨a, ha, rfl⟩ := ht
  exact (h.2 a ha).1
end Go.Vs


namespace Go.Vs
/-! ### applying a delta -/
def difD (d : PDb) (x : PDelta) : PReln := difR (lkR d x.name) (norP d x).del
def appU (d : PDb) (x : PDelta) : PReln := uniR (difD d x) (norP d x).ins
def appG (d : PDb) (x : PDelta) : Bool := fitB d x && uniB (difD d x) (norP d x).ins
def appB (d : PDb) (x : PDelta) : Bool := appG d x && setB d x.name (appU d x)
def appP (d : PDb) (x : PDelta) : PDb := if appG d x then setP d x.name (appU d x) else d
end Go.Vs


namespace Go.Vs
end Go.Vs


namespace Go.Vs
/-! ### batches -/
def runB : PDb → List PDelta → Nat → Option PDb × Nat
  | c, [], k => (some c, k)
  | c, x :: r, k => if appB c x then runB (appP c x) r (k + 1) else (none, k)
def batG (d : PDb) (xs : List PDelta) : Bool := decide (xs.length ≤ 5) && dbOk d
def batT (d : PDb) (xs : List PDelta) : PDb × Nat × Bool :=
  if batG d xs then match runB d xs 0 with
    | (some c, k) => (c, k, true)
    | (none, k) => (d, k, false)
  else (d, 0, false)
def batB (d : PDb) (xs : List PDelta) : Bool := (batT d xs).2.2
theorem app_ok {d : PDb} {x : PDelta} (h : appB d x = true) : dbOk (appP d x) = true := by
  simp only [appB, Bool.and_eq_true] at h
  have h2 := h.2
  simp only [setB, Bool.and_eq_true] at h2
  simp only [appP, h.1, if_true, setP, h.2]
  exact h2.2
structure RunI (d : PDb) (xs : List PDelta) (i : Nat) (c : PDb) : Prop where
  le : i ≤ xs.length
  ok : dbOk c = true
  eq : runB c (xs.drop i) i = runB d xs 0
theorem RunI.zero {d : PDb} {xs : List PDelta} (h : dbOk d = true) : RunI d xs 0 d := ⟨by omega, h, rfl⟩
theorem RunI.step {d c : PDb} {xs : List PDelta} {i : Nat} (h : RunI d xs i c) (hi : i < xs.length) (e : appB c xs[i] = true) : RunI d xs (i + 1) (appP c xs[i]) := by
  refine ⟨hi, app_ok e, ?_⟩
  have := h.eq
  rwa [List.drop_eq_getElem_cons hi, runB, e, if_pos rfl] at this
theorem RunI.bad {d c : PDb} {xs : List PDelta} {i : Nat} (h : RunI d xs i c) (hi : i < xs.length) (e : appB c xs[i] = false) : runB d xs 0 = (none, i) := by
  have := h.eq
  rw [List.drop_eq_getElem_cons hi, runB, e] at this
  exact this.symm
theorem RunI.done {d c : PDb} {xs : List PDelta} {i : Nat} (h : RunI d xs i c) (hi : xs.length ≤ i) : runB d xs 0 = (some c, i) := by
  have := h.eq
  rw [List.drop_of_length_le hi, runB] at this
  exact this.symm
end Go.Vs
namespace Go.Vs
end Go.Vs


namespace Go.Vs
/-! ### inverting a batch -/
def invD (x : PDelta) : PDelta := ⟨x.name, x.del, x.ins⟩
def invL : PDb → List PDelta → List PDelta → List PDelta
  | _, [], acc => acc
  | c, x :: r, acc => invL (appP c x) r (invD (norP c x) :: acc)
def invP (d : PDb) (xs : List PDelta) : List PDelta := if batB d xs then invL d xs [] else []
theorem batB_run {d : PDb} {xs : List PDelta} (h : batB d xs = true) : batG d xs = true ∧ ∃ c k, runB d xs 0 = (some c, k) := by
  unfold batB batT at h
  split at h
  · rename_i hg
    refine ⟨hg, ?_⟩
    split at h
    · rename_i c k e; exact ⟨c, k, e⟩
    · simp at h
  · simp at h
structure InvI (d : PDb) (xs : List PDelta) (i : Nat) (c : PDb) (acc : List PDelta) : Prop where
  run : RunI d xs i c
  eq : invL c (xs.drop i) acc = invL d xs []
  len : acc.length = i
theorem InvI.zero {d : PDb} {xs : List PDelta} (h : batB d xs = true) : InvI d xs 0 d [] := by
  have h1 := (batB_run h).1
  simp only [batG, Bool.and_eq_true] at h1
  exact ⟨.zero h1.2, rfl, rfl⟩
theorem InvI.ap {d c : PDb} {xs acc : List PDelta} {i : Nat} (hb : batB d xs = true) (h : InvI d xs i c acc) (hi : i < xs.length) : appB c xs[i] = true := by
  cases e : appB c xs[i]
  · have h1 := h.run.bad hi e
    obtain ⟨_, c', k, h2⟩ := batB_run hb
    rw [h1] at h2
    simp at h2
  · rfl
theorem InvI.step {d c : PDb} {xs acc : List PDelta} {i : Nat} (hb : batB d xs = true) (h : InvI d xs i c acc) (hi : i < xs.length) : InvI d xs (i + 1) (appP c xs[i]) (invD (norP c xs[i]) :: acc) := by
  refine ⟨h.run.step hi (h.ap hb hi), ?_, by simp [h.len]⟩
  have := h.eq
  rwa [List.drop_eq_getElem_cons hi, invL] at this
theorem InvI.done {d c : PDb} {xs acc : List PDelta} {i : Nat} (hb : batB d xs = true) (h : InvI d xs i c acc) (hi : xs.length ≤ i) : acc = invP d xs := by
  have := h.eq
  rw [List.drop_of_length_le hi, invL] at this
  rw [invP, if_pos hb, this]
end Go.Vs
namespace Go.Vs
theorem good_nilS {α : Type} {c : α → List D} {wh : α → Prop} (n : Nat) : Good (cS c nilS) (whS wh nilS) n :=
  ⟨by simp [cS, nilS, dSl, idsL, D.ids, idsLL], by simp [cS, nilS, dSl, idsL, D.ids, idsLL], ⟨fun _ => rfl, fun h => absurd rfl h⟩, by simp [nilS]⟩
end Go.Vs
namespace Go.Vs
end Go.Vs


namespace Go.Vs
/-! ### cutting texts -/
/-- the pieces of a text between signs; acc: the piece under way -/
def cutA (c : UInt8) (acc : List UInt8) : List UInt8 → List (List UInt8)
  | [] => [acc]
  | x :: r => if x = c then acc :: cutA c [] r else cutA c (acc ++ [x]) r
def cutB (c : UInt8) (s : List UInt8) : List (List UInt8) := cutA c [] s
theorem cutA_no {c : UInt8} : ∀ (s acc : List UInt8), c ∉ s → cutA c acc s = [acc ++ s]
  | [], acc, _ => by simp [cutA]
  | x :: r, acc, h => by
    have h1 : x ≠ c := fun e => h (by simp [e])
    rw [cutA, if_neg h1, cutA_no r _ fun hr => h (by simp [hr])]; simp
theorem cutA_mid {c : UInt8} : ∀ (a b acc : List UInt8), c ∉ a → cutA c acc (a ++ c :: b) = (acc ++ a) :: cutA c [] b
  | [], b, acc, _ => by simp [cutA]
  | x :: r, b, acc, h => by
    have h1 : x ≠ c := fun e => h (by simp [e])
    rw [List.cons_append, cutA, if_neg h1, cutA_mid r b _ fun hr => h (by simp [hr])]; simp
theorem cutB_no {c : UInt8} {s : List UInt8} (h : c ∉ s) : cutB c s = [s] := by rw [cutB, cutA_no s [] h]; rfl
theorem cutB_mid {c : UInt8} {a b : List UInt8} (h : c ∉ a) : cutB c (a ++ c :: b) = a :: cutB c b := by rw [cutB, cutA_mid a b [] h]; rfl
theorem cutB_join {c : UInt8} : ∀ (l : List (List UInt8)), l ≠ [] → (∀ x ∈ l, c ∉ x) → cutB c (joinB [c] l) = l
  | [], h, _ => absurd rfl h
  | [x], _, h => by simp only [joinB, List.flatMap_nil, List.append_nil]; exact cutB_no (h x (by simp))
  | x :: y :: r, _, h => by
    have ih := cutB_join (y :: r) (by simp) fun z hz => h z (by simp [hz])
    have e : joinB [c] (x :: y :: r) = x ++ c :: joinB [c] (y :: r) := by simp [joinB]
    rw [e, cutB_mid (h x (by simp)), ih]
theorem cutA_len (c : UInt8) : ∀ (s acc : List UInt8), (cutA c acc s).length ≤ s.length + 1 ∧ cutA c acc s ≠ []
  | [], acc => by simp [cutA]
  | x :: r, acc => by
    rw [cutA]
    split
    · have := cutA_len c r []; simp; exact this.1
    · have := cutA_len c r (acc ++ [x]); simp only [List.length_cons]; exact ⟨by omega, this.2⟩
theorem cutB_len (c : UInt8) (s : List UInt8) : (cutB c s).length ≤ s.length + 1 := (cutA_len c s []).1
theorem cutB_ne (c : UInt8) (s : List UInt8) : cutB c s ≠ [] := (cutA_len c s []).2
theorem cutB_pos (c : UInt8) (s : List UInt8) : 0 < (cutB c s).length := List.length_pos_iff.2 (cutB_ne c s)
/-- all pieces are no longer than the text -/
theorem cutA_sum (c : UInt8) : ∀ (s acc : List UInt8), ((cutA c acc s).map List.length).sum ≤ acc.length + s.length
  | [], acc => by simp [cutA]
  | x :: r, acc => by
    rw [cutA]
    split
    · have := cutA_sum c r []; simp only [List.map_cons, List.sum_cons, List.length_cons, List.length_nil] at this ⊢; omega
    · have := cutA_sum c r (acc ++ [x]); simp only [List.length_append, List.length_cons, List.length_nil] at this ⊢; omega
theorem sum_mem : ∀ {l : List Nat} {x : Nat}, x ∈ l → x ≤ l.sum
  | a :: r, x, h => by
    simp only [List.sum_cons]
    rcases List.mem_cons.1 h with rfl | h
    · omega
    · have := sum_mem h; omega
theorem cutB_mem {c : UInt8} {s x : List UInt8} (h : x ∈ cutB c s) : x.length ≤ s.length := by
  have h1 := cutA_sum c s []
  have h2 : x.length ≤ ((cutB c s).map List.length).sum := sum_mem (List.mem_map.2 ⟨x, h, rfl⟩)
  simp only [cutB, List.length_nil] at h1 h2; omega
/-- the place in a walk over a text: out the pieces so far, from the start of the piece under way -/
structure CutI (c : UInt8) (s : List UInt8) (p : Nat × Nat × List (List UInt8)) : Prop where
  fr : p.1 ≤ p.2.1
  le : p.2.1 ≤ s.length
  eq : cutB c s = p.2.2 ++ cutA c ((s.drop p.1).take (p.2.1 - p.1)) (s.drop p.2.1)
  len : p.2.2.length ≤ p.2.1
theorem CutI.zero {c : UInt8} {s : List UInt8} : CutI c s (0, 0, []) := ⟨by simp, by simp, by simp [cutB], by simp⟩
theorem CutI.hit {c : UInt8} {s : List UInt8} {f i : Nat} {out : List (List UInt8)} (h : CutI c s (f, i, out)) (hi : i < s.length) (e : s[i] = c) : CutI c s (i + 1, i + 1, out ++ [(s.drop f).take (i - f)]) := by
  refine ⟨Nat.le_refl _, hi, ?_, ?_⟩
  · have := h.eq
    simp only at this ⊢
    rw [this, List.drop_eq_getElem_cons hi, cutA, if_pos e]
    simp
  · have := h.len; simp only [List.length_append, List.length_singleton] at this ⊢; omega
theorem CutI.miss {c : UInt8} {s : List UInt8} {f i : Nat} {out : List (List UInt8)} (h : CutI c s (f, i, out)) (hi : i < s.length) (e : s[i] ≠ c) : CutI c s (f, i + 1, out) := by
  have hf := h.fr
  simp only at hf
  refine ⟨by simp only; omega, hi, ?_, ?_⟩
  · have := h.eq
    simp only at this ⊢
    rw [this, List.drop_eq_getElem_cons hi, cutA, if_neg e]
    have : (s.drop f).take (i + 1 - f) = (s.drop f).take (i - f) ++ [s[i]] := by
      rw [show i + 1 - f = (i - f) + 1 by omega, List.take_succ_eq_append_getElem (by rw [List.length_drop]; omega), List.getElem_drop]
      simp only [show f + (i - f) = i by omega]
    rw [this]
  · have := h.len; simp only at this ⊢; omega
theorem CutI.done {c : UInt8} {s : List UInt8} {f i : Nat} {out : List (List UInt8)} (h : CutI c s (f, i, out)) (hi : s.length ≤ i) : out ++ [(s.drop f).take (i - f)] = cutB c s ∧ (s.drop f).take (i - f) = s.drop f ∧ i = s.length := by
  have hl := h.le
  have := h.eq
  simp only at hl this
  rw [List.drop_of_length_le hi, cutA] at this
  exact ⟨this.symm, List.take_of_length_le (by rw [List.length_drop]; omega), by omega⟩
/-! ### numbers' texts -/
def isDg (b : UInt8) : Bool := decide (48 ≤ b.toNat) && decide (b.toNat ≤ 57)
def digF (p : Int × Nat) (b : UInt8) : Int × Nat := if isDg b then (p.1 * 10 + ((b.toNat : Int) - 48), p.2 + 1) else p
def digs (s : List UInt8) : Int × Nat := s.foldl digF (0, 0)
def prsV (s : List UInt8) : Int := if s.head? = some 45 then -(digs (s.take 11)).1 else (digs (s.take 11)).1
def prsZ (s : List UInt8) : Option Int := if (digs (s.take 11)).2 ≤ 9 ∧ s.length ≤ 10 ∧ decZ (prsV s) = s then some (prsV s) else none
def prsN (s : List UInt8) : Int := (prsZ s).getD 0
theorem decN_dg (n : Nat) : ∀ b ∈ decN n, isDg b = true := by
  induction n using Nat.strongRecOn with
  | ind n ih =>
    have hd : ∀ d, d < 10 → isDg (UInt8.ofNat (48 + d)) = true := fun d hd => by
      have : (UInt8.ofNat (48 + d)).toNat = 48 + d := by simp; omega
      simp only [isDg, this, Bool.and_eq_true, decide_eq_true_eq]; omega
    intro b hb
    by_cases h : n < 10
    · rw [decN_lt h] at hb
      rw [List.mem_singleton.1 hb]; exact hd n h
    · rw [decN_ge h, List.mem_append] at hb
      rcases hb with hb | hb
      · exact ih (n / 10) (by omega) b hb
      · rw [List.mem_singleton.1 hb]; exact hd _ (by omega)
theorem decN_ne (n : Nat) : decN n ≠ [] := by
  by_cases h : n < 10
  · rw [decN_lt h]; simp
  · rw [decN_ge h]; simp
theorem digs_snoc (s : List UInt8) (b : UInt8) : digs (s ++ [b]) = digF (digs s) b := by simp [digs]
theorem digs_decN (n : Nat) : digs (decN n) = ((n : Int), (decN n).length) := by
  induction n using Nat.strongRecOn with
  | ind n ih =>
    have hd : ∀ d, d < 10 → (UInt8.ofNat (48 + d)).toNat = 48 + d ∧ isDg (UInt8.ofNat (48 + d)) = true := fun d hd => by
      have : (UInt8.ofNat (48 + d)).toNat = 48 + d := by simp; omega
      exact ⟨this, by simp only [isDg, this, Bool.and_eq_true, decide_eq_true_eq]; omega⟩
    by_cases h : n < 10
    · rw [decN_lt h]
      obtain ⟨h1, h2⟩ := hd n h
      simp only [digs, List.foldl_cons, List.foldl_nil, digF, h2, h1, if_true, List.length_singleton, Prod.mk.injEq]
      refine ⟨by push_cast; omega, trivial⟩
    · rw [decN_ge h, digs_snoc, ih (n / 10) (by omega)]
      obtain ⟨h1, h2⟩ := hd (n % 10) (by omega)
      simp only [digF, h2, h1, if_true, List.length_append, List.length_singleton, Prod.mk.injEq]
      refine ⟨by push_cast; omega, trivial⟩
theorem digs_cons (s : List UInt8) : digs (45 :: s) = digs s := by simp [digs, digF, isDg]
theorem decN_head (n : Nat) : (decN n).head? ≠ some 45 := by
  intro h
  have := decN_dg n 45 (List.mem_of_mem_head? h)
  simp [isDg] at this
theorem prs_dec {n : Int} (h : n.natAbs ≤ 999999999) : prsZ (decZ n) = some n := by
  have h1 := decN_len 8 n.natAbs (by omega)
  have hg := digs_decN n.natAbs
  by_cases hn : n < 0
  · have e : decZ n = 45 :: decN n.natAbs := by rw [decZ, if_pos hn]
    have ht : (45 :: decN n.natAbs).take 11 = 45 :: decN n.natAbs := List.take_of_length_le (by simp only [List.length_cons]; omega)
    have hv : prsV (decZ n) = n := by
      rw [prsV, e, ht, digs_cons, hg]; simp; omega
    rw [prsZ, hv, e, ht, digs_cons, hg, if_pos]
    exact ⟨by simp only; omega, by simp only [List.length_cons]; omega, rfl⟩
  · have e : decZ n = decN n.natAbs := by rw [decZ, if_neg hn]
    have ht : (decN n.natAbs).take 11 = decN n.natAbs := List.take_of_length_le (by omega)
    have hv : prsV (decZ n) = n := by
      rw [prsV, e, if_neg (decN_head _), ht, hg]; simp only; omega
    rw [prsZ, hv, e, ht, hg, if_pos]
    exact ⟨by simp only; omega, by omega, rfl⟩
theorem prs_ok {n : Int} (h : n.natAbs ≤ 999999999) : prsN (decZ n) = n := by rw [prsN, prs_dec h]; rfl
/-- the digits of a text that may have a sign -/
def sgnT (s : List UInt8) : List UInt8 := if s.head? = some 45 then s.drop 1 else s
theorem digs_all : ∀ (s : List UInt8) (p : Int × Nat), (∀ b ∈ s, isDg b = true) → (s.foldl digF p).2 = p.2 + s.length
  | [], p, _ => by simp
  | b :: r, p, h => by
    have := digs_all r (digF p b) fun x hx => h x (by simp [hx])
    rw [List.foldl_cons, this]
    simp only [digF, h b (by simp), if_true, List.length_cons]; omega
theorem sgnT_dec (n : Int) : sgnT (decZ n) = decN n.natAbs := by
  by_cases hn : n < 0
  · have e : decZ n = 45 :: decN n.natAbs := by rw [decZ, if_pos hn]
    rw [e]; simp [sgnT]
  · have e : decZ n = decN n.natAbs := by rw [decZ, if_neg hn]
    rw [e, sgnT, if_neg (decN_head _)]
theorem digs_sgn (s : List UInt8) : digs (sgnT s) = digs s := by
  unfold sgnT
  split
  · rename_i h
    cases s with
    | nil => simp at h
    | cons a r => simp only [List.head?_cons, Option.some.injEq] at h; subst h; rw [digs_cons]; rfl
  · rfl
/-- a text that is a number's has a sign at most, and digits -/
theorem prsZ_form {s : List UInt8} {n : Int} (h : prsZ s = some n) : sgnT s ≠ [] ∧ (sgnT s).length ≤ 9 ∧ ∀ b ∈ sgnT s, isDg b = true := by
  unfold prsZ at h
  split at h
  case isFalse => simp at h
  rename_i hc
  obtain ⟨h1, h2, h3⟩ := hc
  have hs := sgnT_dec (prsV s)
  rw [h3] at hs
  rw [hs]
  refine ⟨decN_ne _, ?_, decN_dg _⟩
  have h4 : s.take 11 = s := List.take_of_length_le (by omega)
  rw [h4, ← digs_sgn, hs, digs_decN] at h1
  exact h1
theorem sgnT_len (s : List UInt8) : s.length ≤ (sgnT s).length + 1 ∧ (sgnT s).length ≤ s.length := by
  unfold sgnT; split <;> simp <;> omega
/-- the number that the digits give -/
theorem prsZ_dig {s : List UInt8} (h9 : (sgnT s).length ≤ 9) (hd : ∀ b ∈ sgnT s, isDg b = true) : prsV s = (if s.head? = some 45 then -(digs (sgnT s)).1 else (digs (sgnT s)).1) ∧ prsZ s = if decZ (prsV s) = s then some (prsV s) else none := by
  have hl := sgnT_len s
  have h4 : s.take 11 = s := List.take_of_length_le (by omega)
  have h5 := digs_all (sgnT s) (0, 0) hd
  have h6 : (digs s).2 = (sgnT s).length := by rw [← digs_sgn]; simpa [digs] using h5
  refine ⟨by rw [prsV, h4, digs_sgn], ?_⟩
  unfold prsZ
  rw [h4, h6]
  by_cases e : decZ (prsV s) = s
  · rw [if_pos ⟨h9, by omega, e⟩, if_pos e]
  · rw [if_neg fun h => e h.2.2, if_neg e]
theorem digs_step {s : List UInt8} {i : Nat} (h : i < s.length) : digs (s.take (i + 1)) = digF (digs (s.take i)) s[i] := by
  rw [List.take_succ_eq_append_getElem h, digs_snoc]
theorem digs_bd (s : List UInt8) : 0 ≤ (digs s).1 ∧ (digs s).1 < 10 ^ s.length ∧ (digs s).2 ≤ s.length := by
  have : ∀ (s : List UInt8) (p : Int × Nat) (k : Nat), 0 ≤ p.1 ∧ p.1 < 10 ^ k ∧ p.2 ≤ k → 0 ≤ (s.foldl digF p).1 ∧ (s.foldl digF p).1 < 10 ^ (k + s.length) ∧ (s.foldl digF p).2 ≤ k + s.length := by
    intro s
    induction s with
    | nil => intro p k h; simpa using h
    | cons b r ih =>
      intro p k h
      have hp : (0 : Int) < 10 ^ k := Int.pow_pos (by omega)
      have := ih (digF p b) (k + 1) (by
        unfold digF
        split
        · rename_i hb
          simp only [isDg, Bool.and_eq_true, decide_eq_true_eq] at hb
          simp only [Int.pow_succ]
          omega
        · simp only [Int.pow_succ]; omega)
      rw [List.foldl_cons, List.length_cons, show k + (r.length + 1) = k + 1 + r.length by omega]
      exact this
  have := this s (0, 0) 0 (by simp)
  simpa [digs] using this
theorem prsN_inZ (s : List UInt8) : inZ (prsN s) ∧ inZ (prsV s) := by
  have h := digs_bd (s.take 11)
  have hl : (s.take 11).length ≤ 11 := by rw [List.length_take]; omega
  have h2 : (10 : Int) ^ (s.take 11).length ≤ 10 ^ 11 := by
    have := Nat.pow_le_pow_right (n := 10) (by omega) hl
    exact_mod_cast this
  have hv : inZ (prsV s) := by unfold prsV inZ; split <;> omega
  refine ⟨?_, hv⟩
  unfold prsN prsZ
  split
  · exact hv
  · simp [inZ]
end Go.Vs
namespace Go.Vs
theorem prsZ_nil : prsZ [] = none := by
  cases h : prsZ [] with
  | none => rfl
  | some n => exact absurd (by simp [sgnT]) (prsZ_form h).1
theorem prs_bad {s : List UInt8} (h : sgnT s = [] ∨ 9 < (sgnT s).length ∨ ∃ b ∈ sgnT s, isDg b = false) : prsZ s = none ∧ prsN s = 0 := by
  have : prsZ s = none := by
    cases hz : prsZ s with
    | none => rfl
    | some n =>
      obtain ⟨h1, h2, h3⟩ := prsZ_form hz
      rcases h with h | h | ⟨b, hb, h⟩
      · exact absurd h h1
      · omega
      · rw [h3 b hb] at h; cases h
  exact ⟨this, by rw [prsN, this]; rfl⟩
theorem sgnT_45 (r : List UInt8) : sgnT (45 :: r) = r := by simp [sgnT]
theorem sgnT_ne {a : UInt8} {r : List UInt8} (h : a ≠ 45) : sgnT (a :: r) = a :: r := by simp [sgnT, h]
theorem isDg_lo {b : UInt8} (h : (b.toNat : Int) < 48) : isDg b = false := by simp [isDg]; omega
theorem isDg_hi {b : UInt8} (h : (57 : Int) < (b.toNat : Int)) : isDg b = false := by simp [isDg]; omega
theorem isDg_ok {b : UInt8} (h : ¬ (b.toNat : Int) < 48) (h' : ¬ (57 : Int) < (b.toNat : Int)) : isDg b = true := by simp [isDg]; omega
end Go.Vs


namespace Go.Vs
/-! ### relations' texts read -/
def inTx (x : List UInt8) : List UInt8 := (x.drop 1).take (x.length - 2)
def rowTx (x : List UInt8) : List Int := if 2 < x.length then (cutB 44 (inTx x)).map prsN else []
def preRel (s : List UInt8) : PReln :=
  ⟨prsN ((cutB 58 s).getD 0 []), if (cutB 58 s).length = 2 ∧ (cutB 58 s).getD 1 [] ≠ [] then (cutB 32 ((cutB 58 s).getD 1 [])).map rowTx else []⟩
def prsB (s : List UInt8) : Bool := decide (fmtRel (preRel s) = s) && decide (s ≠ [])
def prsR (s : List UInt8) : PReln := if prsB s then preRel s else ⟨0, []⟩
theorem decZ_no {c : UInt8} (n : Int) (h1 : c ≠ 45) (h2 : isDg c = false) : c ∉ decZ n := by
  intro h
  unfold decZ at h
  split at h
  · rcases List.mem_cons.1 h with h | h
    · exact h1 h
    · rw [decN_dg _ _ h] at h2; cases h2
  · rw [decN_dg _ _ h] at h2; cases h2
theorem decZ_ne (n : Int) : decZ n ≠ [] := by
  unfold decZ; split
  · simp
  · exact decN_ne _
theorem joinB_mem {sep x : List UInt8} {b : UInt8} : ∀ {l : List (List UInt8)}, b ∈ joinB sep l → b ∈ sep ∨ ∃ x ∈ l, b ∈ x
  | [], h => by simp [joinB] at h
  | y :: r, h => by
    simp only [joinB, List.mem_append, List.mem_flatMap] at h
    rcases h with h | ⟨z, hz, h | h⟩
    · exact .inr ⟨y, by simp, h⟩
    · exact .inl h
    · exact .inr ⟨z, by simp [hz], h⟩
theorem joinB_ne {sep : List UInt8} {l : List (List UInt8)} (h : l ≠ []) (hx : ∀ x ∈ l, x ≠ []) : joinB sep l ≠ [] := by
  cases l with
  | nil => exact absurd rfl h
  | cons a r =>
    intro e
    simp only [joinB, List.append_eq_nil_iff] at e
    exact hx a (by simp) e.1
theorem fmtRow_no {c : UInt8} (r : List Int) (h1 : c ≠ 45) (h2 : isDg c = false) (h3 : c ≠ 40) (h4 : c ≠ 41) (h5 : c ≠ 44) : c ∉ fmtRow r := by
  intro h
  simp only [fmtRow, List.mem_append, List.mem_singleton] at h
  rcases h with (h | h) | h
  · exact h3 h
  · rcases joinB_mem (x := []) h with h | ⟨x, hx, h⟩
    · exact h5 (List.mem_singleton.1 h)
    · obtain ⟨n, _, rfl⟩ := List.mem_map.1 hx
      exact decZ_no n h1 h2 h
  · exact h4 h
theorem inTx_fmt (r : List Int) : inTx (fmtRow r) = joinB [44] (r.map decZ) ∧ 2 ≤ (fmtRow r).length ∧ (2 < (fmtRow r).length ↔ r ≠ []) := by
  have e : fmtRow r = 40 :: (joinB [44] (r.map decZ) ++ [41]) := by simp [fmtRow]
  have hl : (fmtRow r).length = (joinB [44] (r.map decZ)).length + 2 := by rw [e]; simp
  refine ⟨?_, by omega, ?_⟩
  · rw [inTx, hl, e]; simp
  · rw [hl]
    constructor
    · rintro h rfl
      simp [joinB] at h
    · intro h
      have := List.length_pos_iff.2 (joinB_ne (sep := [44]) (l := r.map decZ) (by simpa using h) fun x hx => by
        obtain ⟨n, _, rfl⟩ := List.mem_map.1 hx; exact decZ_ne n)
      omega
theorem cut_row (r : List Int) (h : r ≠ []) : cutB 44 (joinB [44] (r.map decZ)) = r.map decZ :=
  cutB_join _ (by simpa using h) fun x hx => by
    obtain ⟨n, _, rfl⟩ := List.mem_map.1 hx; exact decZ_no n (by decide) (by decide)
theorem rowTx_fmt {r : List Int} (h : ∀ x ∈ r, x.natAbs ≤ 999999999) : rowTx (fmtRow r) = r := by
  obtain ⟨h1, h2, h3⟩ := inTx_fmt r
  unfold rowTx
  by_cases hr : r = []
  · rw [if_neg (by rw [h3]; simpa using hr), hr]
  · rw [if_pos (h3.2 hr), h1, cut_row r hr, List.map_map]
    have : ∀ (l : List Int), (∀ x ∈ l, x.natAbs ≤ 999999999) → l.map (prsN ∘ decZ) = l := fun l hl => by
      induction l with
      | nil => rfl
      | cons a l ih => rw [List.map_cons, ih fun x hx => hl x (by simp [hx])]; simp [prs_ok (hl a (by simp))]
    exact this r h
theorem vals_small {r : List Int} (h : valsOk r = true) : ∀ x ∈ r, x.natAbs ≤ 999999999 := fun x hx => by
  have := (List.all_eq_true.1 h) x hx
  simp only [inR, Bool.and_eq_true, decide_eq_true_eq] at this
  omega
/-- what a right relation's text is cut into -/
theorem fmt_cut {r : PReln} (h : rowsOk r.ar r.rows = true) : cutB 58 (fmtRel r) = [decZ r.ar, joinB [32] (r.rows.map fmtRow)] ∧ (r.rows ≠ [] → cutB 32 (joinB [32] (r.rows.map fmtRow)) = r.rows.map fmtRow) ∧ (joinB [32] (r.rows.map fmtRow) = [] ↔ r.rows = []) ∧ prsZ (decZ r.ar) = some r.ar := by
  have hJ : (58 : UInt8) ∉ joinB [32] (r.rows.map fmtRow) := fun hm => by
    rcases joinB_mem (x := []) hm with hm | ⟨x, hx, hm⟩
    · exact absurd hm (by decide)
    · obtain ⟨q, _, rfl⟩ := List.mem_map.1 hx
      exact fmtRow_no q (by decide) (by decide) (by decide) (by decide) (by decide) hm
  have har := rowsOk_inR h
  simp only [inR, Bool.and_eq_true, decide_eq_true_eq] at har
  refine ⟨?_, fun hr => ?_, ?_, prs_dec (by omega)⟩
  · have e : fmtRel r = decZ r.ar ++ 58 :: joinB [32] (r.rows.map fmtRow) := by simp [fmtRel, h]
    rw [e, cutB_mid (decZ_no _ (by decide) (by decide)), cutB_no hJ]
  · exact cutB_join _ (by simpa using hr) fun x hx => by
      obtain ⟨q, _, rfl⟩ := List.mem_map.1 hx
      exact fmtRow_no q (by decide) (by decide) (by decide) (by decide) (by decide)
  · constructor
    · intro e
      exact Classical.byContradiction fun hr => joinB_ne (sep := [32]) (l := r.rows.map fmtRow) (by simpa using hr) (fun x hx => by
        obtain ⟨q, _, rfl⟩ := List.mem_map.1 hx; simp [fmtRow]) e
    · intro e; simp [e, joinB]
theorem pre_fmt {r : PReln} (h : rowsOk r.ar r.rows = true) : preRel (fmtRel r) = r := by
  obtain ⟨h1, h2, h3, h4⟩ := fmt_cut h
  obtain ⟨ar, rows⟩ := r
  simp only at h h1 h2 h3 h4
  have hp : prsN (decZ ar) = ar := by rw [prsN, h4]; rfl
  simp only [preRel, h1, List.getD_cons_zero, List.getD_cons_succ, hp, List.length_cons, List.length_nil]
  by_cases hr : rows = []
  · rw [if_neg fun hc => hc.2 (h3.2 hr), hr]
  · rw [if_pos ⟨trivial, fun e => hr (h3.1 e)⟩, h2 hr, List.map_map]
    have : ∀ (l : List (List Int)), (∀ x ∈ l, valsOk x = true) → l.map (rowTx ∘ fmtRow) = l := fun l hl => by
      induction l with
      | nil => rfl
      | cons a l ih => rw [List.map_cons, ih fun x hx => hl x (by simp [hx])]; simp [rowTx_fmt (vals_small (hl a (by simp)))]
    rw [this rows fun x hx => (rowsOk_mem h hx).2]
theorem fmtRel_ok {r : PReln} (h : fmtRel r ≠ []) : rowsOk r.ar r.rows = true := by
  unfold fmtRel at h
  split at h
  · assumption
  · exact absurd rfl h
theorem prs_fmt {r : PReln} (h : rowsOk r.ar r.rows = true) : prsB (fmtRel r) = true ∧ prsR (fmtRel r) = r := by
  have hb : prsB (fmtRel r) = true := by
    simp only [prsB, pre_fmt h, decide_true, Bool.true_and, decide_eq_true_eq]
    intro e
    have := (fmt_cut h).1
    rw [e] at this
    simp [cutB, cutA] at this
  exact ⟨hb, by rw [prsR, if_pos hb, pre_fmt h]⟩
theorem prsB_ok {s : List UInt8} (h : prsB s = true) : rowsOk (prsR s).ar (prsR s).rows = true ∧ fmtRel (prsR s) = s := by
  rw [prsR, if_pos h]
  simp only [prsB, Bool.and_eq_true, decide_eq_true_eq] at h
  exact ⟨fmtRel_ok (by rw [h.1]; exact h.2), h.1⟩
/-- what the program asks of the text on its way -/
theorem prsB_form {s : List UInt8} (h : prsB s = true) : (prsZ ((cutB 58 s).getD 0 [])).isSome = true ∧ (cutB 58 s).length = 2 ∧
    ((cutB 58 s).getD 1 [] ≠ [] → ∀ x ∈ cutB 32 ((cutB 58 s).getD 1 []), 2 ≤ x.length ∧ (inTx x ≠ [] → ∀ v ∈ cutB 44 (inTx x), (prsZ v).isSome = true)) := by
  obtain ⟨h1, h2⟩ := prsB_ok h
  obtain ⟨g1, g2, g3, g4⟩ := fmt_cut h1
  rw [h2] at g1
  rw [g1]
  simp only [List.getD_cons_zero, List.getD_cons_succ, List.length_cons, List.length_nil]
  refine ⟨by rw [g4]; rfl, by trivial, fun hne x hx => ?_⟩
  have hr : (prsR s).rows ≠ [] := fun e => hne (g3.2 e)
  rw [g2 hr] at hx
  obtain ⟨q, hq, rfl⟩ := List.mem_map.1 hx
  obtain ⟨i1, i2, i3⟩ := inTx_fmt q
  refine ⟨i2, fun hi v hv => ?_⟩
  have hq0 : q ≠ [] := by
    rintro rfl
    rw [i1] at hi
    exact hi rfl
  rw [i1, cut_row q hq0] at hv
  obtain ⟨n, hn, rfl⟩ := List.mem_map.1 hv
  rw [prs_dec (vals_small (rowsOk_mem h1 hq).2 n hn)]; rfl
theorem inTx_ne {x : List UInt8} (h : 2 ≤ x.length) : inTx x ≠ [] ↔ 2 < x.length := by
  have : (inTx x).length = x.length - 2 := by rw [inTx, List.length_take, List.length_drop]; omega
  rw [← List.length_pos_iff, this]; omega
end Go.Vs

