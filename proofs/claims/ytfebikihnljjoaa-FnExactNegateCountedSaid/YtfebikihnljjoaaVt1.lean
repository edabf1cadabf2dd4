/-
  Vt1: a part of a proof of this seat: the value-level semantics of Go code without maps (Vs), its walk rules (Vt), the frame of a row (Vr), facts of types, schedules, walks. It holds of every program and state that its hypotheses name.
-/
import Derived.Test.YtfebikihnljjoaaVs23
set_option linter.unusedSimpArgs false
set_option linter.unusedVariables false
namespace Go.Vs

attribute [simp] w_seq w_skip w_region w_draw w_cond w_block w_loop w_exit w_ret o_nil thenV_n thenV_e thenV_r inB_n inB_e inB_r
  w_move w_assign w_pick w_alloc w_box w_build w_load w_nilCheck w_binOp w_unOp w_fieldAddr w_indexAddr w_index w_len w_call w_bs0 w_makeSlice w_append w_slice w_convert w_extract w_max w_min w_store'
  t_nil t_seq t_both pick_nil pick_cons x_put put_none x_lay x_mapV x_mapM x_mapM0 ev_tmp ev_const
attribute [simp] lstD getB isBool getZ isInt getL getC isBox isRow szOf tyOf elV elOk lnV lnOk agB szT foT slT zrT atP ptrOk hd binD binOk boolOk unD unOk kOf addP idxV idxOk strOf isStr cutV cutOk live cellsOk
  buildC buildOk allC partsOk dD isD appOk appSt stOk stSt convOk convV tupAt tupOk loB hiB bdOk ownOk vite constV upd_apply Blk.map wipe wipeL V.cells V.one splice chunk guardV keysVL V.keys rdL rd thenV inBlockV loopV vret vend resV resOk oneV V.ids idsVL D.ids

def gT (g : V) (want : Bool) : Bool := match g with | .d (.bool b) => b == want | _ => false
def gF (g : V) (want : Bool) : Bool := match g with | .d (.bool b) => !(b == want) | .tup [] => true | _ => false
@[simp] theorem gT_b (b want : Bool) : gT (.d (.bool b)) want = (b == want) := rfl
@[simp] theorem gF_b (b want : Bool) : gF (.d (.bool b)) want = !(b == want) := rfl
@[simp] theorem gT_t (want : Bool) : gT (.tup []) want = false := rfl
@[simp] theorem gF_t (want : Bool) : gF (.tup []) want = true := rfl
@[simp] theorem guardV_mk (ops : Array Oper) (σ : St) (j : Nat) : guardV ops σ j = match (ops[j]?).bind (·.dst) with | some d => σ.t d | none => .bad := rfl
@[simp] theorem w_guard2 {P : Program} {E : FuncId → Bool} {ops : Array Oper} {K : St → Prop} {σ : St} {dst : Option Tmp} {ty : TypeId} {pos : String} {af : Array Edge} {r : List Oper} {op : Op} (j : Nat) (want : Bool) : vops P E ops K (⟨dst, op, ty, pos, af, some (j, want)⟩ :: r) σ =
    if gT (guardV ops σ j) want = true then vops P E ops K (⟨dst, op, ty, pos, af, none⟩ :: r) σ else if gF (guardV ops σ j) want = true then vops P E ops K r (σ.put dst (.tup [])) else False := by
  rw [w_guard]
  generalize guardV ops σ j = g
  cases g with
  | d x =>
    cases x with
    | bool b => cases b <;> cases want <;> simp [vguard, gT, gF]
    | _ => simp [vguard, gT, gF]
  | tup l => cases l <;> simp [vguard, gT, gF]
  | _ => simp [vguard, gT, gF]

@[simp] theorem start1 (a : V) (B : Nat) : St.start [a] B = ⟨B, B, [], upd (fun _ => .tup []) 0 a, fun _ => none⟩ := by
  simp only [St.start, St.mk.injEq, true_and, and_true]
  funext i; match i with | 0 => rfl | _ + 1 => rfl
@[simp] theorem start2 (a b : V) (B : Nat) : St.start [a, b] B = ⟨B, B, [], upd (upd (fun _ => .tup []) 1 b) 0 a, fun _ => none⟩ := by
  simp only [St.start, St.mk.injEq, true_and, and_true]
  funext i; match i with | 0 => rfl | 1 => rfl | _ + 2 => rfl
@[simp] theorem start3 (a b c : V) (B : Nat) : St.start [a, b, c] B = ⟨B, B, [], upd (upd (upd (fun _ => .tup []) 2 c) 1 b) 0 a, fun _ => none⟩ := by
  simp only [St.start, St.mk.injEq, true_and, and_true]
  funext i; match i with | 0 => rfl | 1 => rfl | 2 => rfl | _ + 3 => rfl
@[simp] theorem start4 (a b c d : V) (B : Nat) : St.start [a, b, c, d] B = ⟨B, B, [], upd (upd (upd (upd (fun _ => .tup []) 3 d) 2 c) 1 b) 0 a, fun _ => none⟩ := by
  simp only [St.start, St.mk.injEq, true_and, and_true]
  funext i; match i with | 0 => rfl | 1 => rfl | 2 => rfl | 3 => rfl | _ + 4 => rfl
@[simp] theorem x_mapV0 (k : Nat) : mapV (wipe k) (fun _ => V.tup []) = fun _ => V.tup [] := by
  funext i; simp [mapV, wipe, wipeL]

/-- a slice as data: its block, whether it is a whole row, its elements -/
structure Sl (α : Type) where
  id : Option Nat
  T : Option (TypeId × Nat)
  xs : List α
instance {α : Type} : Inhabited (Sl α) := ⟨⟨none, none, []⟩⟩

def dI (n : Int) : D := .int .i64 n
def dSl {α : Type} (f : α → List D) (s : Sl α) : D := .sl s.id s.T (s.xs.map f)
/-- '[]int' -/
abbrev Ints := Sl Int
def cI (n : Int) : List D := [.int .i64 n]
/-- slices of slices -/
def cS {α : Type} (c : α → List D) (s : Sl α) : List D := [dSl c s]
abbrev dInts (a : Ints) : D := dSl cI a
/-- '[][]int' -/
abbrev Rows := Sl Ints
abbrev cInts (a : Ints) : List D := cS cI a
abbrev dRows (a : Rows) : D := dSl (cS cI) a
def Rows.pl (a : Rows) : List (List Int) := a.xs.map (·.xs)

@[simp] theorem getD_map_lt {α β : Type} [Inhabited α] (f : α → β) (l : List α) (i : Nat) (d : β) (h : i < l.length) : (l.map f).getD i d = f (l.getD i default) := by
  simp [List.getD, List.getElem?_eq_getElem h]
theorem wrap64_of {n : Int} (h1 : -9223372036854775808 ≤ n) (h2 : n ≤ 9223372036854775807) : IntKind.i64.wrap n = n := by
  rw [IntKind.wrap_i64]; omega

/-- what is left of a measure -/
def szv (left : Int) (w : Nat) : Int := if (w : Int) ≤ left then left - w else -1
theorem szv_pos {left : Int} {w : Nat} (h : (w : Int) ≤ left) : szv left w = left - w := if_pos h
theorem szv_neg {left : Int} {w : Nat} (h : left < w) : szv left w = -1 := if_neg (by omega)
def sumW {α : Type} (w : α → Nat) (l : List α) : Nat := (l.map w).sum
@[simp] theorem sumW_nil {α : Type} (w : α → Nat) : sumW w [] = 0 := rfl
@[simp] theorem sumW_cons {α : Type} (w : α → Nat) (a : α) (l : List α) : sumW w (a :: l) = w a + sumW w l := by simp [sumW]
theorem sumW_append {α : Type} (w : α → Nat) (l l' : List α) : sumW w (l ++ l') = sumW w l + sumW w l' := by simp [sumW]
theorem sumW_succ {α : Type} (w : α → Nat) {l : List α} {i : Nat} (h : i < l.length) : sumW w (l.take (i + 1)) = sumW w (l.take i) + w l[i] := by
  rw [List.take_succ_eq_append_getElem h, sumW_append]; simp
theorem sumW_le {α : Type} (w : α → Nat) (l : List α) (i : Nat) : sumW w (l.take i) ≤ sumW w l := by
  have h := sumW_append w (l.take i) (l.drop i)
  rw [List.take_append_drop] at h; omega
theorem sumW_mem {α : Type} (w : α → Nat) {l : List α} {a : α} (h : a ∈ l) : w a ≤ sumW w l := by
  induction l with
  | nil => simp at h
  | cons b l ih =>
    rcases List.mem_cons.1 h with rfl | h
    · simp
    · have := ih h; simp; omega

/-- what is frozen at a return or a call lies in a block of our own -/
theorem gam_at {σ : St} {γ : Nat → Option Nat} {hs' k T sz : Nat} {es : List (List D)} (hg : Gam σ γ hs') (hm : σ.m k = some (.row T sz es)) : (∀ g, γ k = some g → σ.B ≤ g ∧ g < hs') ∧ (es ≠ [] → γ k ≠ none) :=
  ⟨fun g h => ⟨(hg.fr k T sz es g hm h).1.lo, (hg.fr k T sz es g hm h).2⟩, fun hne h => by obtain ⟨g, h'⟩ := hg.some k T sz es hm hne; rw [h] at h'; cases h'⟩

/-- a row that is filled up to place i -/
def fill (z : List D) (l : List (List D)) (i : Nat) : List (List D) := l.take i ++ List.replicate (l.length - i) z
@[simp] theorem fill_length (z : List D) (l : List (List D)) (i : Nat) : (fill z l i).length = l.length := by
  simp [fill]; omega
@[simp] theorem fill_zero (z : List D) (l : List (List D)) : fill z l 0 = List.replicate l.length z := by simp [fill]
theorem fill_all {z : List D} {l : List (List D)} {i : Nat} (h : i = l.length) : fill z l i = l := by subst h; simp [fill]
theorem fill_at (z : List D) (l : List (List D)) (k j : Nat) : (fill z l k)[j]? = if j < k then l[j]? else if j < l.length then some z else none := by
  simp only [fill, List.getElem?_append, List.length_take, List.getElem?_take, List.getElem?_replicate]
  by_cases hjk : j < k
  · by_cases hjl : j < l.length
    · rw [if_pos (by omega), if_pos hjk, if_pos hjk]
    · have h1 : ¬ j < min k l.length := by omega
      have h2 : ¬ j - min k l.length < l.length - k := by omega
      rw [if_neg h1, if_neg h2, if_pos hjk, List.getElem?_eq_none (by omega)]
  · have h1 : ¬ j < min k l.length := by omega
    rw [if_neg h1, if_neg hjk]
    by_cases hjl : j < l.length
    · have h2 : j - min k l.length < l.length - k := by omega
      rw [if_pos h2, if_pos hjl]
    · have h2 : ¬ j - min k l.length < l.length - k := by omega
      rw [if_neg h2, if_neg hjl]
@[simp] theorem fill_get {z : List D} {l : List (List D)} {i : Nat} (h : i < l.length) : (fill z l i)[i]? = some z := by
  rw [fill_at, if_neg (Nat.lt_irrefl i), if_pos h]
@[simp] theorem fill_getElem {z : List D} {l : List (List D)} {i : Nat} (h : i < (fill z l i).length) : (fill z l i)[i] = z := by
  have h1 := List.getElem?_eq_getElem h
  rw [fill_get (by simpa using h)] at h1
  exact (Option.some.inj h1).symm
theorem fill_set {z e : List D} {l : List (List D)} {i : Nat} (h : i < l.length) (he : l[i]? = some e) : (fill z l i).set i e = fill z l (i + 1) := by
  apply List.ext_getElem?
  intro j
  rw [List.getElem?_set, fill_length, fill_at, fill_at]
  by_cases hij : i = j
  · subst hij
    rw [if_pos rfl, if_pos h, if_pos (Nat.lt_succ_self i), he]
  · rw [if_neg hij]
    by_cases hji : j < i
    · have h2 : j < i + 1 := by omega
      rw [if_pos hji, if_pos h2]
    · have h2 : ¬ j < i + 1 := by omega
      rw [if_neg hji, if_neg h2]

/-! ### what follows from what holds behind -/
theorem vcall_mono {P : Program} {f : FuncId} {vs : List V} {dst : Option Tmp} {K K' : St → Prop} {σ : St} (hk : ∀ σ, K σ → K' σ) (h : vcall P f vs dst K σ) : vcall P f vs dst K' σ := by
  unfold vcall at *
  split at h
  · obtain ⟨h1, post, h2, h3⟩ := h
    exact ⟨h1, post, h2, fun r n hs' a b c d => hk _ (h3 r n hs' a b c d)⟩
  · intro γ n a b
    obtain ⟨As, post, h1, h2, h3⟩ := h γ n a b
    exact ⟨As, post, h1, h2, fun r hs' a b c => ⟨(h3 r hs' a b c).1, hk _ (h3 r hs' a b c).2⟩⟩
theorem coreX_mono {P : Program} {f : FuncId} {W : List Nat} {post : Nat → V → List V → List D → Prop} {n : Nat} {vs : List V} {dst : Option Tmp} {K K' : St → Prop} {σ : St} (hk : ∀ σ, K σ → K' σ) (h : coreX P f W post n vs dst K σ) : coreX P f W post n vs dst K' σ := by
  unfold coreX at *
  split at h
  · obtain ⟨h1, h2, h3, h4, h5, h6, h7⟩ := h
    exact ⟨h1, h2, h3, h4, h5, h6, fun r cs' ws hs' a b c d e => hk _ (h7 r cs' ws hs' a b c d e)⟩
  · obtain ⟨h1, h2, h3, h4⟩ := h
    exact ⟨h1, h2, h3, fun r cs' ws hs' a b c d => hk _ (h4 r cs' ws hs' a b c d)⟩
theorem vcallA_mono {P : Program} {E : FuncId → Bool} {f : FuncId} {args : List Operand} {vs : List V} {dst : Option Tmp} {K K' : St → Prop} {σ : St} (hk : ∀ σ, K σ → K' σ) (h : vcallA P E f args vs dst K σ) : vcallA P E f args vs dst K' σ := by
  rcases h with h | ⟨h1, h2⟩
  · exact .inl (vcall_mono hk h)
  · refine .inr ⟨h1, fun γ n a b => ?_⟩
    obtain ⟨W, post, h3, h4⟩ := h2 γ n a b
    exact ⟨W, post, h3, coreX_mono hk h4⟩
theorem vop_mono {P : Program} {E : FuncId → Bool} {E : FuncId → Bool} {o : Oper} {K K' : St → Prop} {σ : St} (hk : ∀ σ, K σ → K' σ) (h : vop P E o K σ) : vop P E o K' σ := by
  unfold vop at *
  split at h
  · exact vcallA_mono hk h
  · split at h
    · exact ⟨h.1, hk _ h.2⟩
    · exact fun γ hs' a b => ⟨(h γ hs' a b).1, hk _ (h γ hs' a b).2⟩
  · exact ⟨h.1, hk _ h.2⟩
theorem vops_mono {P : Program} {E : FuncId → Bool} {ops : Array Oper} {K K' : St → Prop} (hk : ∀ σ, K σ → K' σ) : ∀ (l : List Oper) (σ : St), vops P E ops K l σ → vops P E ops K' l σ
  | [], σ, h => hk σ h
  | o :: r, σ, h => by
    simp only [vops] at *
    split at h
    · exact vop_mono (E := E) (vops_mono hk r) h
    · split at h
      · split at h
        · exact ⟨fun hb => vop_mono (E := E) (vops_mono hk r) (h.1 hb), fun hb => vops_mono hk r _ (h.2 hb)⟩
        · exact vops_mono hk r _ h
        · exact h.elim
      · exact h.elim
theorem vtr_mono {P : Program} {E : FuncId → Bool} {ops : Array Oper} {K K' : St → Prop} (hk : ∀ σ, K σ → K' σ) : ∀ (t : Tr) (σ : St), vtr P E ops K t σ → vtr P E ops K' t σ
  | .nil, σ, h => hk σ h
  | .seq l t, σ, h => vops_mono (vtr_mono hk t) _ σ h
  | .both t u, σ, h => ⟨vtr_mono hk t σ h.1, vtr_mono hk u σ h.2⟩
theorem vwp_mono {P : Program} {E : FuncId → Bool} {sch : Nat → Tr} : ∀ (c : Code) (Q Q' : Exit → St → Prop) (σ : St), (∀ e σ, Q e σ → Q' e σ) → vwp P E sch c Q σ → vwp P E sch c Q' σ
  | .skip, Q, Q', σ, hq, h => hq _ _ h
  | .region id ops true, Q, Q', σ, hq, h => vtr_mono (fun σ => hq _ σ) _ σ h
  | .region id ops false, Q, Q', σ, hq, h => vops_mono (fun σ => hq _ σ) _ σ h
  | .seq a b, Q, Q', σ, hq, h => vwp_mono a _ _ σ (fun e σ he => by cases e <;> first | exact vwp_mono b _ _ σ hq he | exact hq _ _ he) h
  | .cond c x y, Q, Q', σ, hq, h => ⟨h.1, fun hb => vwp_mono x _ _ σ hq (h.2.1 hb), fun hb => vwp_mono y _ _ σ hq (h.2.2 hb)⟩
  | .block id c, Q, Q', σ, hq, h => vwp_mono c _ _ σ (fun e σ he => by
      cases e <;> first | exact hq _ _ he | skip
      simp only [inBlockV] at *
      split <;> rename_i hid <;> simp only [hid, if_true, if_false] at he <;> exact hq _ _ he) h
  | .loop c, Q, Q', σ, hq, h => by
    obtain ⟨I, h0, hr⟩ := h
    exact ⟨I, h0, fun n σ' hI => vwp_mono c _ _ σ' (fun e σ he => by cases e <;> first | exact he | exact hq _ _ he) (hr n σ' hI)⟩
  | .exit id, Q, Q', σ, hq, h => hq _ _ h
  | .ret, Q, Q', σ, hq, h => hq _ _ h
  | .rangeFunc .., _, _, _, _, h => h.elim
  | .scope _, _, _, _, _, h => h.elim
  | .label _, _, _, _, _, h => h.elim
  | .goto _, _, _, _, _, h => h.elim
  | .refuse _, _, _, _, _, h => h.elim

/-- what of the slots is known, and no more -/
theorem upd_has {α : Type} {t : Nat → α} {k : Nat} {x : α} (h : t k = x) : upd t k x = t := by subst h; exact upd_self t k

/-! ### a loop whose variables are known by values -/
def updL {α : Type} (t : Nat → α) : List (Nat × α) → Nat → α
  | [] => t
  | (k, x) :: r => upd (updL t r) k x
@[simp] theorem updL_nil {α : Type} (t : Nat → α) : updL t [] = t := rfl
@[simp] theorem updL_cons {α : Type} (t : Nat → α) (k : Nat) (x : α) (r : List (Nat × α)) : updL t ((k, x) :: r) = upd (updL t r) k x := rfl

theorem updL_has {α : Type} {t : Nat → α} : ∀ {l : List (Nat × α)}, (∀ p ∈ l, t p.1 = p.2) → updL t l = t
  | [], _ => rfl
  | (k, x) :: r, h => by
    simp only [updL]
    rw [updL_has (fun p hp => h p (by simp [hp]))]
    exact upd_has (h (k, x) (by simp))

def Back {X : Type} (Inv : X → Prop) (S : X → List (Nat × V)) (M : X → List (Nat × Option Blk)) (μ : X → Nat) (B : Nat) (W : List Nat) (hs n : Nat) (σ : St) : Prop :=
  Lead (fun s => ∃ x, Inv x ∧ μ x < n ∧ s.B = B ∧ s.W = W ∧ hs ≤ s.hs ∧ (∀ p ∈ S x, s.t p.1 = p.2) ∧ (∀ p ∈ M x, s.m p.1 = p.2)) σ

theorem back {X : Type} {Inv : X → Prop} {S : X → List (Nat × V)} {M : X → List (Nat × Option Blk)} {μ : X → Nat} {B : Nat} {W : List Nat} {hs n : Nat} {σ : St} (x : X) (h1 : Inv x) (h2 : μ x < n) (h3 : (σ.B, σ.W) = (B, W)) (h4 : hs ≤ σ.hs)
    (h5 : ∀ p ∈ S x, σ.t p.1 = p.2) (h6 : ∀ p ∈ M x, σ.m p.1 = p.2) : Back Inv S M μ B W hs n σ := Lead.of ⟨x, h1, h2, (Prod.mk.inj h3).1, (Prod.mk.inj h3).2, h4, h5, h6⟩

def backV {X : Type} (Inv : X → Prop) (S : X → List (Nat × V)) (M : X → List (Nat × Option Blk)) (μ : X → Nat) (B : Nat) (W : List Nat) (hs n : Nat) (Q : Exit → St → Prop) : Exit → St → Prop
  | .normal, σ => Back Inv S M μ B W hs n σ
  | e, σ => Q e σ

theorem loop_rule {P : Program} {E : FuncId → Bool} {sch : Nat → Tr} {c : Code} {Q : Exit → St → Prop} {B hs0 : Nat} {W : List Nat} {t0 : Nat → V} {m0 : Nat → Option Blk} {X : Type} (Inv : X → Prop) (S : X → List (Nat × V)) (M : X → List (Nat × Option Blk)) (μ : X → Nat) (x0 : X)
    (h0 : Inv x0) (hS : ∀ p ∈ S x0, t0 p.1 = p.2) (hM : ∀ p ∈ M x0, m0 p.1 = p.2)
    (hr : ∀ x hs t m, Inv x → hs0 ≤ hs → vwp P E sch c (backV Inv S M μ B W hs (μ x) Q) ⟨B, hs, W, updL t (S x), updL m (M x)⟩) : vloop P E sch c Q ⟨B, hs0, W, t0, m0⟩ := by
  refine ⟨fun n σ => ∃ x hs t m, Inv x ∧ μ x = n ∧ hs0 ≤ hs ∧ σ = ⟨B, hs, W, updL t (S x), updL m (M x)⟩, Lead.of ⟨_, x0, hs0, t0, m0, h0, rfl, Nat.le_refl _, by rw [updL_has hS, updL_has hM]⟩, ?_⟩
  rintro n σ ⟨x, hs, t, m, hx, rfl, hhs, rfl⟩
  refine vwp_mono _ _ _ _ ?_ (hr x hs t m hx hhs)
  intro e σ he
  cases e with
  | normal =>
    refine Lead.mono he ?_
    rintro s ⟨x', h1, h2, h3, h7, h4, h5, h6⟩
    obtain ⟨B', hs', W', t', m'⟩ := s
    simp only at h3 h7 h4 h5 h6
    subst h3 h7
    exact ⟨_, h2, x', hs', t', m', h1, rfl, Nat.le_trans hhs h4, by rw [updL_has h5, updL_has h6]⟩
  | _ => exact he

@[simp] theorem backV_n {X : Type} (Inv : X → Prop) (S : X → List (Nat × V)) (M : X → List (Nat × Option Blk)) (μ : X → Nat) (B : Nat) (W : List Nat) (hs n : Nat) (Q : Exit → St → Prop) (σ : St) : backV Inv S M μ B W hs n Q .normal σ = Back Inv S M μ B W hs n σ := rfl
@[simp] theorem backV_e {X : Type} (Inv : X → Prop) (S : X → List (Nat × V)) (M : X → List (Nat × Option Blk)) (μ : X → Nat) (B : Nat) (W : List Nat) (hs n id : Nat) (Q : Exit → St → Prop) (σ : St) : backV Inv S M μ B W hs n Q (.exit id) σ = Q (.exit id) σ := rfl
@[simp] theorem backV_r {X : Type} (Inv : X → Prop) (S : X → List (Nat × V)) (M : X → List (Nat × Option Blk)) (μ : X → Nat) (B : Nat) (W : List Nat) (hs n : Nat) (Q : Exit → St → Prop) (σ : St) : backV Inv S M μ B W hs n Q .ret σ = Q .ret σ := rfl

/-- a call whose arguments name no row of ours and whose result is known, and in no memory -/
theorem call_pure {P : Program} {E : FuncId → Bool} {args : List Operand} {f : FuncId} {vs : List V} {dst : Option Tmp} {K : St → Prop} {σ : St} {v : V} (hc : VC P f vs (fun _ r => r = v)) (hk : keysVL vs = []) (hr : rdL (fun _ => none) σ.m vs = some vs) (hv : v.ids = [])
    (hK : ∀ hs', σ.hs ≤ hs' → K ({ σ with hs := hs' }.put dst v)) : vcallA P E f args vs dst K σ := by
  refine .inl ?_
  unfold vcall
  split
  · refine ⟨hr, _, hc, ?_⟩
    intro r n hs' a b c _
    subst c
    exact hK hs' (by omega)
  · rename_i h; rw [hk] at h; cases h
/-- a call whose arguments name no row of ours; of the result a property is known -/
theorem call_some {P : Program} {E : FuncId → Bool} {args : List Operand} {f : FuncId} {vs : List V} {dst : Option Tmp} {K : St → Prop} {σ : St} {post : Nat → V → Prop} (hc : VC P f vs post) (hk : keysVL vs = []) (hr : rdL (fun _ => none) σ.m vs = some vs)
    (hK : ∀ n hs' r, σ.hs ≤ n → n ≤ hs' → post n r → (∀ i ∈ r.ids, i < hs') → K ({ σ with hs := hs' }.put dst r)) : vcallA P E f args vs dst K σ := by
  refine .inl ?_
  unfold vcall
  split
  · exact ⟨hr, _, hc, fun r n hs' a b c d => hK n hs' r a b c d⟩
  · rename_i h; rw [hk] at h; cases h
/-- a call that is handed rows of ours, which it reads; its result is known, and in no memory -/
theorem call_frz {P : Program} {E : FuncId → Bool} {args : List Operand} {f : FuncId} {vs : List V} {dst : Option Tmp} {K : St → Prop} {σ : St} {v : V}
    (hc : ∀ γ n, σ.hs ≤ n → Gam σ γ n → ∃ As, rdL γ σ.m vs = some As ∧ VC P f As (fun _ r => r = v)) (hk : keysVL vs ≠ []) (hv : v.ids = [])
    (hK : ∀ hs', σ.hs ≤ hs' → K ({ σ with hs := hs' }.put dst v)) : vcallA P E f args vs dst K σ := by
  refine .inl ?_
  unfold vcall
  split
  · rename_i h; exact (hk h).elim
  · intro γ n a b
    obtain ⟨As, h1, h2⟩ := hc γ n a b
    refine ⟨As, _, h1, h2, ?_⟩
    intro r hs' c d e
    subst d
    exact ⟨by simp [hv], hK hs' (by omega)⟩
end Go.Vs
