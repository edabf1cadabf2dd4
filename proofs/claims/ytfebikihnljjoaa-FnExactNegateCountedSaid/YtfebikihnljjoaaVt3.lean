/-
  Vt3: a part of a proof of this seat: the value-level semantics of Go code without maps (Vs), its walk rules (Vt), the frame of a row (Vr), facts of types, schedules, walks. It holds of every program and state that its hypotheses name.
-/
import Derived.Test.YtfebikihnljjoaaVt2
set_option linter.unusedSimpArgs false
set_option linter.unusedVariables false
namespace Go.Vs

/-! ### what is not written stays -/
section
variable {φ : Nat → Option D}
mutual
theorem reD_id : ∀ x : D, (∀ i ∈ x.ids, φ i = none) → reD φ x = some x
  | .bool _, _ => rfl
  | .int _ _, _ => rfl
  | .str _, _ => rfl
  | .sl none T es, h => by
    simp only [D.ids, Option.toList, List.nil_append] at h
    simp only [reD]; rw [reLL_id es h]; rfl
  | .sl (some g) T es, h => by
    simp only [D.ids, Option.toList, List.mem_append, List.mem_singleton] at h
    simp only [reD]
    rw [h g (.inl rfl)]
    simp only
    rw [reLL_id es (fun i hi => h i (.inr hi))]; rfl
theorem reL_id : ∀ l : List D, (∀ i ∈ idsL l, φ i = none) → reL φ l = some l
  | [], _ => rfl
  | x :: r, h => by
    simp only [idsL, List.mem_append] at h
    simp only [reL]
    rw [reD_id x (fun i hi => h i (.inl hi)), reL_id r (fun i hi => h i (.inr hi))]
theorem reLL_id : ∀ l : List (List D), (∀ i ∈ idsLL l, φ i = none) → reLL φ l = some l
  | [], _ => rfl
  | x :: r, h => by
    simp only [idsLL, List.mem_append] at h
    simp only [reLL]
    rw [reL_id x (fun i hi => h i (.inl hi)), reLL_id r (fun i hi => h i (.inr hi))]
end
mutual
theorem reV_id : ∀ v : V, (∀ i ∈ v.ids, φ i = none) → reV φ v = v
  | .d x, h => by simp only [reV]; rw [reD_id x h]
  | .fptr x _ _, h => by simp only [reV]; rw [reD_id x h]
  | .own _ _ _, _ => rfl
  | .ptr _ _ _, _ => rfl
  | .bad, _ => rfl
  | .agg cs, h => by simp only [reV]; rw [reVL_id cs h]
  | .tup cs, h => by simp only [reV]; rw [reVL_id cs h]
theorem reVL_id : ∀ l : List V, (∀ i ∈ idsVL l, φ i = none) → reVL φ l = l
  | [], _ => rfl
  | v :: r, h => by
    simp only [idsVL, List.mem_append] at h
    simp only [reVL]
    rw [reV_id v (fun i hi => h i (.inl hi)), reVL_id r (fun i hi => h i (.inr hi))]
end
theorem reV_d {x y : D} (h : reD φ x = some y) : reV φ (.d x) = .d y := by simp only [reV, h]
@[simp] theorem reV_int (k : IntKind) (n : Int) : reV φ (.d (.int k n)) = .d (.int k n) := rfl
@[simp] theorem reV_bool (b : Bool) : reV φ (.d (.bool b)) = .d (.bool b) := rfl
@[simp] theorem reV_str (s : List UInt8) : reV φ (.d (.str s)) = .d (.str s) := rfl
@[simp] theorem reV_nil (T : Option (TypeId × Nat)) : reV φ (.d (.sl none T [])) = .d (.sl none T []) := rfl
@[simp] theorem reV_own (k lo n : Nat) : reV φ (.own k lo n) = .own k lo n := rfl
@[simp] theorem reV_ptr (k lo n : Nat) : reV φ (.ptr k lo n) = .ptr k lo n := rfl
@[simp] theorem reV_bad : reV φ .bad = .bad := rfl
@[simp] theorem reV_agg (cs : List V) : reV φ (.agg cs) = .agg (reVL φ cs) := by simp only [reV]
@[simp] theorem reV_tup (cs : List V) : reV φ (.tup cs) = .tup (reVL φ cs) := by simp only [reV]
@[simp] theorem reVL_nil : reVL φ [] = [] := rfl
@[simp] theorem reVL_cons (v : V) (r : List V) : reVL φ (v :: r) = reV φ v :: reVL φ r := by simp only [reVL]
end

theorem x_re {B hs : Nat} {W : List Nat} {t : Nat → V} {m : Nat → Option Blk} (φ : Nat → Option D) : (St.mk B hs W t m).re φ = ⟨B, hs, W, mapV (reV φ) t, reM φ m⟩ := rfl
theorem x_reM (φ : Nat → Option D) (m : Nat → Option Blk) (k : Nat) (b : Option Blk) : reM φ (upd m k b) = upd (reM φ m) k (b.bind (Blk.re φ)) := by
  funext i; simp only [reM, upd]; split <;> rfl
theorem x_reM0 (φ : Nat → Option D) : reM φ (fun _ => none) = fun _ => none := rfl
@[simp] theorem re_box (φ : Nat → Option D) (cs : List V) : Blk.re φ (.box cs) = some (.box (reVL φ cs)) := rfl
@[simp] theorem re_row (φ : Nat → Option D) (T sz : Nat) (es : List (List D)) : Blk.re φ (.row T sz es) = (reLL φ es).map (.row T sz) := rfl
theorem x_mapVre0 (φ : Nat → Option D) : mapV (reV φ) (fun _ => V.tup []) = fun _ => V.tup [] := by
  funext i; rfl
attribute [simp] x_re x_reM x_reM0 x_mapVre0

theorem lookD_none {g : Nat} : ∀ x : D, g ∉ x.ids → lookD g x = none := by
  have key : ∀ (x : D) (y : D), lookD g x = some y → g ∈ x.ids := by
    intro x
    refine D.rec (motive_1 := fun x => ∀ y, lookD g x = some y → g ∈ x.ids) (motive_2 := fun l => ∀ y, lookLL g l = some y → g ∈ idsLL l) (motive_3 := fun l => ∀ y, lookL g l = some y → g ∈ idsL l) ?_ ?_ ?_ ?_ ?_ ?_ ?_ ?_ x
    · intro b y h; simp [lookD] at h
    · intro k n y h; simp [lookD] at h
    · intro s y h; simp [lookD] at h
    · intro id T es ih y h
      cases id with
      | none => simp only [lookD] at h; simp only [D.ids, Option.toList, List.nil_append]; exact ih y h
      | some g' =>
        simp only [lookD] at h
        simp only [D.ids, Option.toList, List.mem_append, List.mem_singleton]
        split at h
        · rename_i e; exact .inl e.symm
        · exact .inr (ih y h)
    · intro y h; simp [lookLL] at h
    · intro x r ih1 ih2 y h
      simp only [lookLL] at h
      simp only [idsLL, List.mem_append]
      split at h
      · rename_i z hz; exact .inl (ih1 z hz)
      · exact .inr (ih2 y h)
    · intro y h; simp [lookL] at h
    · intro x r ih1 ih2 y h
      simp only [lookL] at h
      simp only [idsL, List.mem_append]
      split at h
      · rename_i z hz; exact .inl (ih1 z hz)
      · exact .inr (ih2 y h)
  intro x hx
  cases h : lookD g x with
  | none => rfl
  | some y => exact absurd (key x y h) hx
theorem lookL_skip {g : Nat} {x : D} (r : List D) (h : g ∉ x.ids) : lookL g (x :: r) = lookL g r := by simp [lookL, lookD_none x h]
theorem phi_out {W : List Nat} {ws : List D} {g : Nat} (h : g ∉ W) : phi W ws g = none := by simp [phi, h]
theorem one_out {g j : Nat} {d : D} (h : j ≠ g) : one g d j = none := by simp [one, h]

/-! ### slices of typed elements -/
section
variable {α : Type} {c : α → List D}
theorem idsLL_map_mem {l : List α} {g : Nat} : g ∈ idsLL (l.map c) ↔ ∃ a ∈ l, g ∈ idsL (c a) := by
  constructor
  · intro h
    obtain ⟨e, he, hg⟩ := of_idsLL h
    obtain ⟨a, ha, rfl⟩ := List.mem_map.1 he
    exact ⟨a, ha, hg⟩
  · rintro ⟨a, ha, hg⟩
    induction l with
    | nil => cases ha
    | cons b r ih =>
      simp only [List.map_cons, idsLL, List.mem_append]
      rcases List.mem_cons.1 ha with rfl | ha
      · exact .inl hg
      · exact .inr (ih ha)
theorem idsL_app (l l' : List D) : idsL (l ++ l') = idsL l ++ idsL l' := by
  induction l with
  | nil => rfl
  | cons x r ih => simp [idsL, ih]
theorem idsLL_append (l l' : List (List D)) : idsLL (l ++ l') = idsLL l ++ idsLL l' := by
  induction l with
  | nil => rfl
  | cons x r ih => simp [idsLL, ih]
theorem idsLL_set {l : List α} {i : Nat} {a' : α} (hi : i < l.length) (h : idsL (c a') = idsL (c l[i])) : idsLL ((l.set i a').map c) = idsLL (l.map c) := by
  induction l generalizing i with
  | nil => rfl
  | cons b r ih =>
    cases i with
    | zero => simp only [List.set_cons_zero, List.map_cons, idsLL]; simp only [List.getElem_cons_zero] at h; rw [h]
    | succ i => simp only [List.set_cons_succ, List.map_cons, idsLL]; rw [ih (by simpa using hi) (by simpa using h)]

/-- the blocks of a slice are apart -/
theorem nd_apart {l : List α} (h : (idsLL (l.map c)).Nodup) {i j : Nat} (hi : i < l.length) (hj : j < l.length) (hij : j ≠ i) : ∀ g ∈ idsL (c l[j]), g ∉ idsL (c l[i]) := by
  induction l generalizing i j with
  | nil => simp at hi
  | cons b r ih =>
    simp only [List.map_cons, idsLL] at h
    have h2 := List.nodup_append.1 h
    cases i with
    | zero =>
      cases j with
      | zero => exact absurd rfl hij
      | succ j =>
        intro g hg hg'
        simp only [List.getElem_cons_succ, List.getElem_cons_zero] at hg hg'
        exact h2.2.2 g hg' g (idsLL_map_mem.2 ⟨_, List.getElem_mem _, hg⟩) rfl
    | succ i =>
      cases j with
      | zero =>
        intro g hg hg'
        simp only [List.getElem_cons_succ, List.getElem_cons_zero] at hg hg'
        exact h2.2.2 g hg g (idsLL_map_mem.2 ⟨_, List.getElem_mem _, hg'⟩) rfl
      | succ j => simpa using ih h2.2.1 (by simpa using hi) (by simpa using hj) (by omega)

variable {φ : Nat → Option D}
theorem reLL_set {l : List α} {i : Nat} {a' : α} (hi : i < l.length) (h1 : reL φ (c l[i]) = some (c a')) (h2 : ∀ j (hj : j < l.length), j ≠ i → reL φ (c l[j]) = some (c l[j])) : reLL φ (l.map c) = some ((l.set i a').map c) := by
  induction l generalizing i with
  | nil => simp at hi
  | cons b r ih =>
    cases i with
    | zero =>
      simp only [List.getElem_cons_zero] at h1
      simp only [List.map_cons, List.set_cons_zero, reLL, h1]
      have : ∀ l : List α, (∀ j (hj : j < l.length), reL φ (c l[j]) = some (c l[j])) → reLL φ (l.map c) = some (l.map c) := by
        intro l
        induction l with
        | nil => intro _; rfl
        | cons x s ih' =>
          intro h
          simp only [List.map_cons, reLL]
          rw [show reL φ (c x) = some (c x) from h 0 (by simp), ih' (fun j hj => h (j + 1) (Nat.succ_lt_succ hj))]
      rw [this r (fun j hj => h2 (j + 1) (Nat.succ_lt_succ hj) (by omega))]
    | succ i =>
      simp only [List.map_cons, List.set_cons_succ, reLL]
      rw [show reL φ (c b) = some (c b) from h2 0 (by simp) (by omega), ih (by simpa using hi) (by simpa using h1) (fun j hj hji => h2 (j + 1) (Nat.succ_lt_succ hj) (by omega))]

/-- an element of a slice is said anew -/
theorem re_set (s : Sl α) {i : Nat} {a' : α} (hi : i < s.xs.length) (hid : ∀ g, s.id = some g → φ g = none) (h1 : reL φ (c s.xs[i]) = some (c a')) (h2 : ∀ j (hj : j < s.xs.length), j ≠ i → ∀ g ∈ idsL (c s.xs[j]), φ g = none) :
    reD φ (dSl c s) = some (dSl c ⟨s.id, s.T, s.xs.set i a'⟩) := by
  have h3 := reLL_set (c := c) hi h1 (fun j hj hji => reL_id _ (h2 j hj hji))
  obtain ⟨id, T, xs⟩ := s
  simp only [dSl] at *
  cases id with
  | none => simp only [reD, h3, Option.map_some]
  | some g => simp only [reD]; rw [hid g rfl]; simp only [h3, Option.map_some]

/-- whole: of its own block, all of it -/
structure Sl.wh (s : Sl α) : Prop where
  nil : s.id = none → s.xs = []
  some : s.id ≠ none → s.T.isSome = true
theorem Sl.wh.set {s : Sl α} (h : s.wh) (i : Nat) (a : α) : (⟨s.id, s.T, s.xs.set i a⟩ : Sl α).wh := ⟨fun h' => by simp [h.nil h'], h.some⟩
theorem Sl.wh.of {s : Sl α} (h : s.wh) {xs : List α} (hl : xs.length = s.xs.length) : (⟨s.id, s.T, xs⟩ : Sl α).wh := ⟨fun h' => List.eq_nil_of_length_eq_zero (by rw [hl, h.nil h']; rfl), h.some⟩
theorem Sl.wh.id {s : Sl α} (h : s.wh) {i : Nat} (hi : i < s.xs.length) : ∃ g, s.id = Option.some g ∧ ∃ T, s.T = Option.some T := by
  cases hid : s.id with
  | none => rw [h.nil hid] at hi; simp at hi
  | some g =>
    have := h.some (by rw [hid]; simp)
    obtain ⟨T, hT⟩ := Option.isSome_iff_exists.1 this
    exact ⟨g, rfl, T, hT⟩

/-- the slice's own block is written -/
theorem re_one {s : Sl α} (h : s.wh) {g : Nat} (hg : s.id = some g) {xs : List α} (hl : xs.length = s.xs.length) (hc : ∀ a b, (c a).length = (c b).length) :
    reD (one g (dSl c ⟨s.id, s.T, xs⟩)) (dSl c s) = some (dSl c ⟨s.id, s.T, xs⟩) := by
  obtain ⟨id, T, xs0⟩ := s
  simp only at hg
  subst hg
  have hT := h.some (by simp)
  simp only [dSl, reD, one, if_true]
  rw [if_pos]
  refine ⟨trivial, hT, trivial, ?_⟩
  simp only at hl
  apply List.ext_getElem (by simpa using hl)
  intro i h1 h2
  simp only [List.getElem_map]
  exact hc _ _

theorem re_phi {W : List Nat} {ws : List D} {s : Sl α} (h : s.wh) {xs : List α} (hl : xs.length = s.xs.length) (hc : ∀ a b, (c a).length = (c b).length)
    (hg : ∀ g, s.id = some g → g ∈ W ∧ lookL g ws = some (dSl c ⟨s.id, s.T, xs⟩)) : reD (phi W ws) (dSl c s) = some (dSl c ⟨s.id, s.T, xs⟩) := by
  cases hid : s.id with
  | none =>
    have hx := h.nil hid
    obtain ⟨id, T, xs0⟩ := s
    simp only at hid hx hl
    subst hid hx
    have : xs = [] := List.eq_nil_of_length_eq_zero hl
    subst this
    rfl
  | some g =>
    obtain ⟨h1, h2⟩ := hg g hid
    have := re_one (c := c) h hid hl hc
    obtain ⟨id, T, xs0⟩ := s
    simp only at hid
    subst hid
    simp only [dSl, reD, one, if_true, phi, h1, h2, Option.getD_some] at this ⊢
    exact this
theorem look_root {g : Nat} {s : Sl α} (h : s.id = some g) (r : List D) : lookL g (dSl c s :: r) = some (dSl c s) := by
  obtain ⟨id, T, xs⟩ := s
  simp only at h
  subst h
  simp [lookL, dSl, lookD]
theorem mem_sl_ids {s : Sl α} {g : Nat} : g ∈ (dSl c s).ids ↔ s.id = some g ∨ g ∈ idsLL (s.xs.map c) := by
  obtain ⟨id, T, xs⟩ := s
  cases id <;> simp [dSl, D.ids, eq_comm]
theorem sl_nd {s : Sl α} (h : (dSl c s).ids.Nodup) : (idsLL (s.xs.map c)).Nodup ∧ ∀ g, s.id = some g → g ∉ idsLL (s.xs.map c) := by
  obtain ⟨id, T, xs⟩ := s
  cases id with
  | none => simpa [dSl, D.ids] using h
  | some g => simp [dSl, D.ids] at h; exact ⟨h.2, fun g' hg' => by simp at hg'; subst hg'; exact h.1⟩
end

/-! ### what is marked -/
section
variable {α : Type}
def mkList (mk : α → Int → α) (wt : α → Nat) : List α → Int → List α
  | [], _ => []
  | a :: r, k => mk a k :: mkList mk wt r (k + wt a)
def hlList (hl : α → Int → Bool) (wt : α → Nat) : List α → Int → Bool
  | [], _ => true
  | a :: r, k => hl a k && hlList hl wt r (k + wt a)
variable {mk : α → Int → α} {hl : α → Int → Bool} {wt : α → Nat}
@[simp] theorem mkList_length : ∀ (l : List α) (k : Int), (mkList mk wt l k).length = l.length
  | [], _ => rfl
  | a :: r, k => by simp [mkList, mkList_length r]
theorem mkList_append : ∀ (l l' : List α) (k : Int), mkList mk wt (l ++ l') k = mkList mk wt l k ++ mkList mk wt l' (k + sumW wt l)
  | [], l', k => by simp [mkList]
  | a :: r, l', k => by simp [mkList, mkList_append r, Int.add_assoc]
theorem hlList_append : ∀ (l l' : List α) (k : Int), hlList hl wt (l ++ l') k = (hlList hl wt l k && hlList hl wt l' (k + sumW wt l))
  | [], l', k => by simp [hlList]
  | a :: r, l', k => by simp [hlList, hlList_append r, Int.add_assoc, Bool.and_assoc]
def mkAt (mk : α → Int → α) (wt : α → Nat) (l : List α) (k : Int) (i : Nat) : List α := mkList mk wt (l.take i) k ++ l.drop i
@[simp] theorem mkAt_zero (l : List α) (k : Int) : mkAt mk wt l k 0 = l := by simp [mkAt, mkList]
@[simp] theorem mkAt_length (l : List α) (k : Int) (i : Nat) : (mkAt mk wt l k i).length = l.length := by simp [mkAt]; omega
theorem mkAt_all {l : List α} {k : Int} {i : Nat} (h : i = l.length) : mkAt mk wt l k i = mkList mk wt l k := by subst h; simp [mkAt]
@[simp] theorem mkAt_get {l : List α} {k : Int} {i : Nat} (h : i < (mkAt mk wt l k i).length) : (mkAt mk wt l k i)[i] = l[i]'(by simpa using h) := by
  simp only [mkAt_length] at h
  have hl : (mkList mk wt (l.take i) k).length = i := by simp; omega
  simp only [mkAt]
  rw [List.getElem_append_right (by omega)]
  simp [hl]
theorem mkAt_succ {l : List α} {k : Int} {i : Nat} (h : i < l.length) : mkAt mk wt l k (i + 1) = (mkAt mk wt l k i).set i (mk l[i] (k + sumW wt (l.take i))) := by
  have hl : (mkList mk wt (l.take i) k).length = i := by simp; omega
  simp only [mkAt]
  rw [List.take_succ_eq_append_getElem h, mkList_append, List.drop_eq_getElem_cons h]
  rw [List.set_append_right _ _ (by omega), hl, Nat.sub_self, List.set_cons_zero]
  simp [mkList]
theorem hl_mk (h : ∀ a k, hl (mk a k) k = true) (hw : ∀ a k, wt (mk a k) = wt a) : ∀ (l : List α) (k : Int), hlList hl wt (mkList mk wt l k) k = true
  | [], _ => rfl
  | a :: r, k => by simp [mkList, hlList, h, hw, hl_mk h hw r]
theorem wt_mk (hw : ∀ a k, wt (mk a k) = wt a) : ∀ (l : List α) (k : Int), sumW wt (mkList mk wt l k) = sumW wt l
  | [], _ => rfl
  | a :: r, k => by simp [mkList, hw, wt_mk hw r]
/-- what is held up to place i, and at it -/
theorem hlList_step {l : List α} {k : Int} {i : Nat} (h : i < l.length) : hlList hl wt (l.take (i + 1)) k = (hlList hl wt (l.take i) k && hl l[i] (k + sumW wt (l.take i))) := by
  rw [List.take_succ_eq_append_getElem h, hlList_append]; simp [hlList]
theorem hlList_bad {l : List α} {k : Int} {i : Nat} (h : i < l.length) (hb : hl l[i] (k + sumW wt (l.take i)) = false) : hlList hl wt l k = false := by
  rw [← List.take_append_drop (i + 1) l, hlList_append, hlList_step h, hb]; simp
theorem ids_mk {c : α → List D} (hi : ∀ a k, idsL (c (mk a k)) = idsL (c a)) : ∀ (l : List α) (k : Int), idsLL ((mkList mk wt l k).map c) = idsLL (l.map c)
  | [], _ => rfl
  | a :: r, k => by simp [mkList, idsLL, hi, ids_mk hi r]
theorem ids_mkAt {c : α → List D} (hi : ∀ a k, idsL (c (mk a k)) = idsL (c a)) (l : List α) (k : Int) (i : Nat) : idsLL ((mkAt mk wt l k i).map c) = idsLL (l.map c) := by
  simp only [mkAt, List.map_append, idsLL_append, ids_mk hi]
  rw [← idsLL_append, ← List.map_append, List.take_append_drop]
end

/-! ### calls that write -/
section
variable {P : Program} {E : FuncId → Bool} {args : List Operand} {f : FuncId} {vs : List V} {dst : Option Tmp} {K : St → Prop} {σ : St}
theorem call_x {W : List Nat} {post : Nat → V → List V → List D → Prop} (hE : E f = true) (hvs : args.map σ.ev = vs) (hk : keysVL vs = []) (hr : rdL (fun _ => none) σ.m vs = some vs) (hW : ∀ g ∈ W, σ.wr g) (hc : VX P f W vs none post)
    (hK : ∀ n hs' r cs' ws, σ.hs ≤ n → n ≤ hs' → post n r cs' ws → (∀ i ∈ r.ids, i < hs') → (∀ d ∈ ws, ∀ i ∈ d.ids, i < hs') → K ({ (σ.re (phi W ws)) with hs := hs' }.put dst r)) : vcallA P E f args vs dst K σ := by
  refine .inr ⟨hE, fun γ n hn hg => ⟨W, post, hW, ?_⟩⟩
  have hb : boxOf σ.m (args.map σ.ev) = [] := by
    rw [hvs]
    unfold boxOf
    split
    · simp [rdL, rd] at hr
    · rfl
  rw [hvs] at hb ⊢
  have hkk : keysVL (vs ++ boxOf σ.m vs) = [] := by rw [hb]; simpa using hk
  rw [hkk]
  simp only [St.frzs]
  have hev : args.map ({ σ with hs := n } : St).ev = vs := hvs
  rw [hev]
  unfold coreX
  split
  · simp [rdL, rd] at hr
  · exact ⟨hk, hr, hc, fun r cs' ws hs' a b c d => hK n hs' r cs' ws hn a b c d⟩
/-- a call that is handed a variable of ours -/
theorem call_b {W : List Nat} {post : Nat → V → List V → List D → Prop} {k : Nat} {rest cs : List V} (hE : E f = true) (hvs : args.map σ.ev = .ptr k 0 0 :: rest) (hm : σ.m k = some (.box cs)) (hk : keysVL rest = []) (hk2 : keysVL cs = [])
    (hr : rdL (fun _ => none) σ.m rest = some rest) (hr2 : rdL (fun _ => none) σ.m cs = some cs) (hW : ∀ g ∈ W, σ.wr g) (hc : VX P f W (.ptr 1000 0 0 :: rest) (some cs) post)
    (hK : ∀ n hs' r cs' ws, σ.hs ≤ n → n ≤ hs' → post n r cs' ws → (∀ i ∈ r.ids, i < hs') → (∀ i ∈ idsVL cs', i < hs') → (∀ d ∈ ws, ∀ i ∈ d.ids, i < hs') →
      K ({ (σ.re (phi W ws)) with hs := hs', m := upd (σ.re (phi W ws)).m k (some (.box cs')) }.put dst r)) : vcallA P E f args vs dst K σ := by
  refine .inr ⟨hE, fun γ n hn hg => ⟨W, post, hW, ?_⟩⟩
  have hb : boxOf σ.m (args.map σ.ev) = cs := by rw [hvs]; simp [boxOf, hm, getC]
  rw [hb, hvs]
  have hkk : keysVL ((.ptr k 0 0 :: rest) ++ cs) = [] := by
    have : ∀ l l' : List V, keysVL (l ++ l') = keysVL l ++ keysVL l' := by
      intro l l'; induction l with
      | nil => rfl
      | cons x r ih => simp [keysVL, ih]
    rw [this]; simp [keysVL, V.keys, hk, hk2]
  rw [hkk]
  simp only [St.frzs]
  have hev : args.map ({ σ with hs := n } : St).ev = .ptr k 0 0 :: rest := hvs
  rw [hev]
  simp only [coreX]
  refine ⟨hk, hr, by rw [hm]; rfl, by rw [hm]; exact hk2, by rw [hm]; exact hr2, by rw [hm]; exact hc, fun r cs' ws hs' a b c d e => hK n hs' r cs' ws hn a b c d e⟩
end

theorem gam_row {σ : St} {γ : Nat → Option Nat} {hs' k T sz : Nat} {es : List (List D)} (hg : Gam σ γ hs') (hm : σ.m k = some (.row T sz es)) : ∀ g, γ k = some g → g ∉ idsLL es :=
  fun g h => (hg.fr k T sz es g hm h).1.row k T sz es hm

theorem startX_m (W : List Nat) : (fun k : Nat => if k = 1000 then (none : Option (List V)).map Blk.box else none) = fun _ => none := by
  funext k; simp
@[simp] theorem startX1 (a : V) (W : List Nat) (B : Nat) : St.startX [a] W none B = ⟨B, B, W, upd (fun _ => .tup []) 0 a, fun _ => none⟩ := by
  simp only [St.startX, St.mk.injEq, true_and]
  refine ⟨?_, by funext k; simp⟩
  funext i; match i with | 0 => rfl | _ + 1 => rfl
@[simp] theorem startX2 (a b : V) (W : List Nat) (B : Nat) : St.startX [a, b] W none B = ⟨B, B, W, upd (upd (fun _ => .tup []) 1 b) 0 a, fun _ => none⟩ := by
  simp only [St.startX, St.mk.injEq, true_and]
  refine ⟨?_, by funext k; simp⟩
  funext i; match i with | 0 => rfl | 1 => rfl | _ + 2 => rfl
theorem startX_box (cs : List V) : (fun k : Nat => if k = 1000 then (some cs).map Blk.box else none) = upd (fun _ => none) 1000 (some (.box cs)) := by
  funext k; simp [upd]
@[simp] theorem startX1b (a : V) (W : List Nat) (cs : List V) (B : Nat) : St.startX [a] W (some cs) B = ⟨B, B, W, upd (fun _ => .tup []) 0 a, upd (fun _ => none) 1000 (some (.box cs))⟩ := by
  simp only [St.startX, St.mk.injEq, true_and]
  refine ⟨?_, startX_box cs⟩
  funext i; match i with | 0 => rfl | _ + 1 => rfl
@[simp] theorem startX2b (a b : V) (W : List Nat) (cs : List V) (B : Nat) : St.startX [a, b] W (some cs) B = ⟨B, B, W, upd (upd (fun _ => .tup []) 1 b) 0 a, upd (fun _ => none) 1000 (some (.box cs))⟩ := by
  simp only [St.startX, St.mk.injEq, true_and]
  refine ⟨?_, startX_box cs⟩
  funext i; match i with | 0 => rfl | 1 => rfl | _ + 2 => rfl
@[simp] theorem startX3b (a b c : V) (W : List Nat) (cs : List V) (B : Nat) : St.startX [a, b, c] W (some cs) B = ⟨B, B, W, upd (upd (upd (fun _ => .tup []) 2 c) 1 b) 0 a, upd (fun _ => none) 1000 (some (.box cs))⟩ := by
  simp only [St.startX, St.mk.injEq, true_and]
  refine ⟨?_, startX_box cs⟩
  funext i; match i with | 0 => rfl | 1 => rfl | 2 => rfl | _ + 3 => rfl
attribute [simp] dsV
theorem mem_slids {α : Type} {c : α → List D} {s : Sl α} {g : Nat} (h : s.id = some g) : g ∈ (dSl c s).ids := mem_sl_ids.2 (.inl h)
theorem sumW_one {α : Type} {w : α → Nat} (h : ∀ a, w a = 1) (l : List α) : sumW w l = l.length := by
  induction l with
  | nil => rfl
  | cons a r ih => simp [h, ih]; omega
@[simp] theorem vretX_n {P : Program} {rs : List ResultVar} {post : Nat → V → List V → List D → Prop} {W : List Nat} {bx : Bool} {σ : St} : vretX P rs post W bx .normal σ = vendX P rs post W bx σ := rfl
@[simp] theorem vretX_r {P : Program} {rs : List ResultVar} {post : Nat → V → List V → List D → Prop} {W : List Nat} {bx : Bool} {σ : St} : vretX P rs post W bx .ret σ = vendX P rs post W bx σ := rfl
@[simp] theorem vretX_e {P : Program} {rs : List ResultVar} {post : Nat → V → List V → List D → Prop} {W : List Nat} {bx : Bool} {σ : St} {id : Nat} : vretX P rs post W bx (.exit id) σ = False := rfl
theorem re_oneSet {g : Nat} {T : TypeId × Nat} {es : List (List D)} {i : Nat} {e' : List D} (h : ∀ e, es[i]? = some e → e'.length = e.length) :
    reV (one g (.sl (some g) (some T) (es.set i e'))) (.d (.sl (some g) (some T) es)) = .d (.sl (some g) (some T) (es.set i e')) := by
  simp only [reV, reD, one, if_true]
  rw [if_pos]
  refine ⟨trivial, rfl, trivial, ?_⟩
  apply List.ext_getElem?
  intro j
  simp only [List.getElem?_map, List.getElem?_set]
  split
  · rename_i hij
    subst hij
    split
    · rename_i hlt
      rw [List.getElem?_eq_getElem hlt]
      simp only [Option.map_some]
      rw [h _ (List.getElem?_eq_getElem hlt)]
    · rename_i hge
      rw [List.getElem?_eq_none (by omega)]
  · rfl
@[simp] theorem ids_cI (l : List Int) : idsLL (l.map cI) = [] := by
  induction l with
  | nil => rfl
  | cons a r ih => simp [idsLL, cI, idsL, ih]
theorem set_map {α : Type} {c : α → List D} (l : List α) (i : Nat) (a : α) : (l.map c).set i (c a) = (l.set i a).map c := by rw [List.map_set]
attribute [simp] St.wr
theorem reL_app {φ : Nat → Option D} {l l' m m' : List D} (h : reL φ l = some m) (h' : reL φ l' = some m') : reL φ (l ++ l') = some (m ++ m') := by
  induction l generalizing m with
  | nil => simp only [reL, Option.some.injEq] at h; subst h; simpa using h'
  | cons x r ih =>
    simp only [reL] at h
    cases hx : reD φ x with
    | none => simp [hx] at h
    | some y =>
      cases hr : reL φ r with
      | none => simp [hx, hr] at h
      | some z =>
        simp only [hx, hr, Option.some.injEq] at h
        subst h
        simp only [List.cons_append, reL, hx, ih hr]
theorem reL_one {φ : Nat → Option D} {x y : D} (h : reD φ x = some y) : reL φ [x] = some [y] := by simp [reL, h]
/-- one slice that was written, said anew -/
theorem re_root {β : Type} {c : β → List D} (hc : ∀ a b, (c a).length = (c b).length) {s : Sl β} (h : s.wh) {ys : List β} (hl : ys.length = s.xs.length) {W : List Nat} (hW : ∀ g, s.id = some g → g ∈ W) (r : List D) :
    reD (phi W (dSl c ⟨s.id, s.T, ys⟩ :: r)) (dSl c s) = some (dSl c ⟨s.id, s.T, ys⟩) :=
  re_phi h hl hc fun g hg => ⟨hW g hg, look_root (s := ⟨s.id, s.T, ys⟩) hg r⟩
/-- an element is said anew; the blocks W lie in it -/
theorem re_elem {α : Type} {c : α → List D} {s : Sl α} {i : Nat} {a' : α} {W : List Nat} {ws : List D} (hnd : (dSl c s).ids.Nodup) (hi : i < s.xs.length) (hW : ∀ g ∈ W, g ∈ idsL (c s.xs[i])) (h : reL (phi W ws) (c s.xs[i]) = some (c a')) :
    reV (phi W ws) (.d (dSl c s)) = .d (dSl c ⟨s.id, s.T, s.xs.set i a'⟩) := by
  have h2 := sl_nd hnd
  refine reV_d (re_set s hi (fun g hg => phi_out fun hin => ?_) h fun j hj hji g hg => phi_out fun hin => ?_)
  · exact h2.2 g hg (idsLL_map_mem.2 ⟨_, List.getElem_mem _, hW g hin⟩)
  · exact nd_apart h2.1 hi hj hji g hg (hW g hin)
theorem elem_ids {α : Type} {c : α → List D} {s : Sl α} {i : Nat} (hi : i < s.xs.length) {g : Nat} (h : g ∈ idsL (c s.xs[i])) : g ∈ (dSl c s).ids := mem_sl_ids.2 (.inr (idsLL_map_mem.2 ⟨_, List.getElem_mem _, h⟩))
theorem elem_nd {α : Type} {c : α → List D} {l : List α} (h : (idsLL (l.map c)).Nodup) {i : Nat} (hi : i < l.length) : (idsL (c l[i])).Nodup := by
  induction l generalizing i with
  | nil => simp at hi
  | cons b r ih =>
    simp only [List.map_cons, idsLL] at h
    have h2 := List.nodup_append.1 h
    cases i with
    | zero => exact h2.1
    | succ i => exact ih h2.2.1 (Nat.lt_of_succ_lt_succ hi)
@[simp] theorem re_oneSet2 {g : Nat} {T : TypeId × Nat} {es : List (List D)} {i : Nat} {e' : List D} (h : e'.length = (es.getD i e').length) :
    reV (one g (.sl (some g) (some T) (es.set i e'))) (.d (.sl (some g) (some T) es)) = .d (.sl (some g) (some T) (es.set i e')) :=
  re_oneSet fun e he => by rw [h]; simp [List.getD, he]
@[simp] theorem getD_set_self {α : Type} (l : List α) (i : Nat) (a d : α) (h : i < l.length) : (l.set i a).getD i d = a := by simp [List.getD, h]
theorem nin_set {g i : Nat} {es : List (List D)} {e' : List D} (h : g ∉ idsLL es) (h' : g ∉ idsL e') : g ∉ idsLL (es.set i e') := by
  intro hin
  obtain ⟨e, he, hg⟩ := of_idsLL hin
  rcases List.mem_or_eq_of_mem_set he with he | rfl
  · obtain ⟨u, hu, hg⟩ := of_idsL hg
    exact h (mem_idsLL he (mem_idsL hu hg))
  · exact h' hg
theorem reLL_of {φ : Nat → Option D} : ∀ {l l' : List (List D)}, l'.length = l.length → (∀ (i : Nat) (e e' : List D), l[i]? = some e → l'[i]? = some e' → reL φ e = some e') → reLL φ l = some l'
  | [], l', hl, _ => by cases l' with | nil => rfl | cons _ _ => simp at hl
  | x :: r, l', hl, h => by
    cases l' with
    | nil => simp at hl
    | cons y s =>
      simp only [reLL]
      rw [h 0 x y rfl rfl, reLL_of (by simpa using hl) (fun i e e' he he' => h (i + 1) e e' (by simpa using he) (by simpa using he'))]
theorem re_elemD {φ : Nat → Option D} {g i : Nat} {T : Option (TypeId × Nat)} {es : List (List D)} {e1 e2 : List D} (hg : φ g = none) (h1 : reL φ e1 = some e2) (h2 : ∀ (j : Nat) (e : List D), j ≠ i → es[j]? = some e → ∀ q ∈ idsL e, φ q = none) :
    reV φ (.d (.sl (some g) T (es.set i e1))) = .d (.sl (some g) T (es.set i e2)) := by
  refine reV_d ?_
  simp only [reD, hg]
  rw [reLL_of (l' := es.set i e2) (by simp) ?_]
  · rfl
  · intro j e e' he he'
    rw [List.getElem?_set] at he he'
    by_cases hij : i = j
    · subst hij
      simp only [if_true] at he he'
      split at he
      · rename_i hlt
        simp only [hlt, if_true] at he'
        cases he; cases he'; exact h1
      · cases he
    · simp only [hij, if_false] at he he'
      rw [he] at he'
      cases he'
      exact reL_id e (h2 j e (Ne.symm hij) he)
theorem nd_mapD {α : Type} {c : α → List D} {l : List α} (h : (idsLL (l.map c)).Nodup) {W : List Nat} {i : Nat} (hi : i < l.length) (hW : ∀ g ∈ W, g ∈ idsL (c l[i])) (ws : List D) :
    ∀ (j : Nat) (e : List D), j ≠ i → (l.map c)[j]? = some e → ∀ q ∈ idsL e, phi W ws q = none := by
  intro j e hji he q hq
  rw [List.getElem?_map] at he
  cases hj : l[j]? with
  | none => simp [hj] at he
  | some a =>
    simp only [hj, Option.map_some, Option.some.injEq] at he
    subst he
    have hjl := (List.getElem?_eq_some_iff.1 hj)
    obtain ⟨hlt, rfl⟩ := hjl
    exact phi_out fun hin => nd_apart h hi hlt hji q hq (hW q hin)
/-- the value of a look at what is held -/
def hv (b : Bool) (k : Int) (w : Nat) : Int := if b then k + w else -1
@[simp] theorem hv_t (k : Int) (w : Nat) : hv true k w = k + w := rfl
@[simp] theorem hv_f (k : Int) (w : Nat) : hv false k w = -1 := rfl
@[simp] theorem re_oneSet3 {g : Nat} {T : TypeId × Nat} {es : List (List D)} {i : Nat} {e1 e2 : List D} (h : e2.length = e1.length) :
    reV (one g (.sl (some g) (some T) (es.set i e2))) (.d (.sl (some g) (some T) (es.set i e1))) = .d (.sl (some g) (some T) (es.set i e2)) := by
  have := re_oneSet (g := g) (T := T) (es := es.set i e1) (i := i) (e' := e2) (fun e he => by
    rw [List.getElem?_set] at he
    simp only [if_true] at he
    split at he
    · cases he; exact h
    · cases he)
  rw [List.set_set] at this
  exact this
end Go.Vs
