/-
  Vt4: a part of a proof of this seat: the value-level semantics of Go code without maps (Vs), its walk rules (Vt), the frame of a row (Vr), facts of types, schedules, walks. It holds of every program and state that its hypotheses name.
-/
import Derived.Test.YtfebikihnljjoaaTy
set_option linter.unusedSimpArgs false
set_option linter.unusedVariables false
namespace Go.Vs

theorem wr1 {i : Nat} (h : i < 9223372036854775807) : IntKind.i64.wrap ((i : Int) + 1) = (i : Int) + 1 := wrap64_of (by omega) (by omega)

theorem eq_step {α : Type} {a b : List α} {i : Nat} (h : i < a.length) (h' : i < b.length) (hi : a.take i = b.take i) : (a[i] = b[i] ↔ a.take (i + 1) = b.take (i + 1)) := by
  rw [List.take_succ_eq_append_getElem (l := b) h', List.take_succ_eq_append_getElem (l := a) h, hi]
  exact ⟨fun h => by rw [h], fun h => by simpa only [List.append_cancel_left_eq, List.cons.injEq, and_true] using h⟩
theorem eq_all {α : Type} {a b : List α} {i : Nat} (h : a.length ≤ i) (hl : a.length = b.length) (hi : a.take i = b.take i) : a = b := by
  rwa [List.take_of_length_le h, List.take_of_length_le (by omega)] at hi
theorem eqm_step {α β : Type} (f : α → β) {a b : List α} {i : Nat} (h : i < a.length) (h' : i < b.length) (hi : (a.map f).take i = (b.map f).take i) : (f a[i] = f b[i] ↔ (a.map f).take (i + 1) = (b.map f).take (i + 1)) := by
  have := eq_step (a := a.map f) (b := b.map f) (i := i) (by simpa using h) (by simpa using h') hi
  simpa only [List.getElem_map] using this

@[simp] theorem ids_cStr (l : List (List UInt8)) : idsLL (l.map cStr) = [] := by
  induction l with
  | nil => rfl
  | cons a r ih => simp [idsLL, cStr, idsL, ih]

/-- cells of blocks that are all new (from n on), apart and whole -/
structure Good (cells : List D) (wh : Prop) (n : Nat) : Prop where
  nd : (idsL cells).Nodup
  lo : ∀ g ∈ idsL cells, n ≤ g
  wh : wh
theorem Good.le {cells : List D} {wh : Prop} {n m : Nat} (h : Good cells wh n) (hm : m ≤ n) : Good cells wh m := ⟨h.nd, fun g hg => Nat.le_trans hm (h.lo g hg), h.wh⟩
theorem Good.app {c1 c2 : List D} {w1 w2 : Prop} {n : Nat} (h1 : Good c1 w1 n) (h2 : Good c2 w2 n) (h : ∀ g, g ∈ idsL c1 → g ∈ idsL c2 → False) : Good (c1 ++ c2) (w1 ∧ w2) n := by
  refine ⟨?_, fun g hg => ?_, h1.wh, h2.wh⟩
  · rw [idsL_app]
    exact List.nodup_append.2 ⟨h1.nd, h2.nd, fun a ha b hb e => h a ha (e ▸ hb)⟩
  · rw [idsL_app] at hg
    rcases List.mem_append.1 hg with hg | hg
    · exact h1.lo g hg
    · exact h2.lo g hg
theorem good_I (n : Nat) (x : Int) : Good (cI x) (whI x) n := ⟨by simp [cI, idsL, D.ids], by simp [cI, idsL, D.ids], trivial⟩
theorem good_Str (n : Nat) (x : List UInt8) : Good (cStr x) (whStr x) n := ⟨by simp [cStr, idsL, D.ids], by simp [cStr, idsL, D.ids], trivial⟩

section
variable {α : Type} {c : α → List D} {wh : α → Prop}
theorem idsL_cS (s : Sl α) : idsL (cS c s) = (dSl c s).ids := by simp [cS, idsL]
theorem good_row {id : Option Nat} {T : TypeId × Nat} {xs : List α} {n : Nat} (h1 : ∀ g, id = some g → n ≤ g) (h2 : xs ≠ [] → id ≠ none) (h3 : ∀ g, id = some g → g ∉ idsLL (xs.map c))
    (h4 : (idsLL (xs.map c)).Nodup ∧ ∀ g ∈ idsLL (xs.map c), n ≤ g) (h5 : ∀ a ∈ xs, wh a) : Good (cS c ⟨id, some T, xs⟩) (whS wh ⟨id, some T, xs⟩) n := by
  refine ⟨?_, fun g hg => ?_, ⟨fun h => ?_, fun _ => rfl⟩, h5⟩
  · rw [idsL_cS]
    cases id with
    | none => simpa [dSl, D.ids] using h4.1
    | some g => simp only [dSl, D.ids, Option.toList, List.singleton_append, List.nodup_cons]; exact ⟨h3 g rfl, h4.1⟩
  · rw [idsL_cS] at hg
    rcases mem_sl_ids.1 hg with hg | hg
    · exact h1 g hg
    · exact h4.2 g hg
  · exact Classical.byContradiction fun hne => h2 hne h
/-- a list of such data, all made by now -/
structure GoodL (c : α → List D) (wh : α → Prop) (n h : Nat) (l : List α) : Prop where
  nd : (idsLL (l.map c)).Nodup
  lo : ∀ g ∈ idsLL (l.map c), n ≤ g
  hi : ∀ g ∈ idsLL (l.map c), g < h
  wh : ∀ a ∈ l, wh a
theorem GoodL.nil {n h : Nat} : GoodL c wh n h [] := ⟨by simp [idsLL], by simp [idsLL], by simp [idsLL], by simp⟩
theorem GoodL.snoc {n m h h' : Nat} {l : List α} {a : α} (hl : GoodL c wh n h l) (h1 : n ≤ m ∧ h ≤ m) (h2 : m ≤ h') (ha : Good (c a) (wh a) m) (hb : ∀ g ∈ idsL (c a), g < h') : GoodL c wh n h' (l ++ [a]) := by
  have e : idsLL ((l ++ [a]).map c) = idsLL (l.map c) ++ idsL (c a) := by simp [idsLL_append, idsLL]
  refine ⟨?_, fun g hg => ?_, fun g hg => ?_, fun b hb => ?_⟩
  · rw [e]
    refine List.nodup_append.2 ⟨hl.nd, ha.nd, fun x hx y hy hxy => ?_⟩
    have := hl.hi x hx
    have := ha.lo y hy
    omega
  · rw [e] at hg
    rcases List.mem_append.1 hg with hg | hg
    · exact hl.lo g hg
    · have := ha.lo g hg; omega
  · rw [e] at hg
    rcases List.mem_append.1 hg with hg | hg
    · have := hl.hi g hg; omega
    · exact hb g hg
  · rcases List.mem_append.1 hb with hb | hb
    · exact hl.wh b hb
    · rw [List.mem_singleton.1 hb]; exact ha.wh
theorem GoodL.le {n h h' : Nat} {l : List α} (hl : GoodL c wh n h l) (h1 : h ≤ h') : GoodL c wh n h' l := ⟨hl.nd, hl.lo, fun g hg => Nat.lt_of_lt_of_le (hl.hi g hg) h1, hl.wh⟩
theorem set_fill {ys : List α} {i n : Nat} {z e : List D} (hy : ys.length = i) (hi : i < n) : (ys.map c ++ List.replicate (n - i) z).set i e = ys.map c ++ e :: List.replicate (n - (i + 1)) z := by
  rw [List.set_append_right _ _ (by simp [hy]), List.length_map, hy, Nat.sub_self]
  obtain ⟨k, hk⟩ : ∃ k, n - i = k + 1 := ⟨n - i - 1, by omega⟩
  rw [hk, List.replicate_succ, List.set_cons_zero]
  congr 2
  have : n - (i + 1) = k := by omega
  rw [this]
theorem rep_set0 {n i : Nat} {z e : List D} (h : i < n) : (List.replicate (n - i) z).set 0 e = e :: List.replicate (n - (i + 1)) z := by
  obtain ⟨k, hk⟩ : ∃ k, n - i = k + 1 := ⟨n - i - 1, by omega⟩
  have : n - (i + 1) = k := by omega
  rw [hk, this, List.replicate_succ, List.set_cons_zero]
theorem nd_left {l l' : List Nat} (h : (l ++ l').Nodup) : l.Nodup := (List.nodup_append.1 h).1
theorem nd_right {l l' : List Nat} (h : (l ++ l').Nodup) : l'.Nodup := (List.nodup_append.1 h).2.1
theorem nd_disj {l l' : List Nat} (h : (l ++ l').Nodup) : ∀ g ∈ l, g ∉ l' := fun g hg hg' => (List.nodup_append.1 h).2.2 g hg g hg' rfl
theorem set_same {α : Type} {l : List α} {i : Nat} {a : α} (h : l[i]? = some a) : l.set i a = l := by
  apply List.ext_getElem?
  intro j
  rw [List.getElem?_set]
  split
  · rename_i e
    subst e
    split
    · exact h.symm
    · rename_i hh; rw [List.getElem?_eq_none (by omega)] at h; cases h
  · rfl
end

/-! ### cells that were written, said anew -/
inductive Sim : List D → List D → Prop
  | nil : Sim [] []
  | leaf {x : D} {l l' : List D} (h : x.ids = []) (hr : Sim l l') : Sim (x :: l) (x :: l')
  | sl {β : Type} {c : β → List D} {s : Sl β} {ys : List β} {l l' : List D} (hc : ∀ a b, (c a).length = (c b).length) (hw : s.wh) (hl : ys.length = s.xs.length) (hr : Sim l l') : Sim (dSl c s :: l) (dSl c ⟨s.id, s.T, ys⟩ :: l')
theorem Sim.app {l l' m m' : List D} (h : Sim l l') (h' : Sim m m') : Sim (l ++ m) (l' ++ m') := by
  induction h with
  | nil => exact h'
  | leaf hx _ ih => exact .leaf hx ih
  | sl hc hw hl _ ih => exact .sl hc hw hl ih
theorem look_at {g : Nat} {T : Option (TypeId × Nat)} {es : List (List D)} : ∀ {l : List D}, (idsL l).Nodup → .sl (some g) T es ∈ l → lookL g l = some (.sl (some g) T es)
  | [], _, h => by cases h
  | x :: r, hnd, h => by
    simp only [idsL] at hnd
    rcases List.mem_cons.1 h with rfl | h
    · simp [lookL, lookD]
    · have hg : g ∉ x.ids := fun hin => nd_disj hnd g hin (mem_idsL h (by simp [D.ids]))
      rw [lookL_skip r hg]
      exact look_at (nd_right hnd) h
theorem re_simW {W : List Nat} {ws : List D} : ∀ {l l' : List D}, Sim l l' → (∀ g ∈ idsL l, g ∈ W) → (∀ g T es, .sl (some g) T es ∈ l' → lookL g ws = some (.sl (some g) T es)) → reL (phi W ws) l = some l'
  | _, _, .nil, _, _ => rfl
  | _, _, .leaf (x := x) hx hr, hW, hl => by
    simp only [reL]
    rw [reD_id x (by simp [hx]), re_simW hr (fun g hg => hW g (by simp [idsL, hg])) (fun g T es h => hl g T es (by simp [h]))]
  | _, _, .sl (c := c) (s := s) (ys := ys) hc hw hlen hr, hW, hl => by
    simp only [reL]
    rw [re_phi (c := c) hw hlen hc (fun g hg => ⟨hW g (by simp only [idsL, List.mem_append]; exact .inl (mem_sl_ids.2 (.inl hg))), ?_⟩), re_simW hr (fun g hg => hW g (by simp [idsL, hg])) (fun g T es h => hl g T es (by simp [h]))]
    have := hl g s.T (ys.map c) (by simp [dSl, hg])
    rw [this]
    simp [dSl, hg]
/-- what was handed over and written -/
theorem re_sim {l l' : List D} (h : Sim l l') (hid : idsL l' = idsL l) (hnd : (idsL l).Nodup) : reL (phi (idsL l) l') l = some l' :=
  re_simW h (fun g hg => hg) (fun g T es hin => look_at (by rw [hid]; exact hnd) hin)
theorem re_same {W : List Nat} {ws l : List D} (h : ∀ g ∈ W, g ∉ idsL l) : reL (phi W ws) l = some l :=
  reL_id l fun g hg => phi_out fun hin => h g hin hg
theorem reL_cons_iff {φ : Nat → Option D} {x y : D} {r s : List D} : reL φ (x :: r) = some (y :: s) ↔ reD φ x = some y ∧ reL φ r = some s := by
  simp only [reL]
  cases reD φ x <;> cases reL φ r <;> simp
theorem reV_dd {φ : Nat → Option D} {x y : D} (h : reD φ x = some y) : reV φ (.d x) = .d y := reV_d h
theorem reVL_map {φ : Nat → Option D} : ∀ {l l' : List D}, reL φ l = some l' → reVL φ (l.map .d) = l'.map .d
  | [], l', h => by simp only [reL, Option.some.injEq] at h; subst h; rfl
  | x :: r, l', h => by
    cases l' with
    | nil => simp only [reL] at h; cases hx : reD φ x <;> cases hr : reL φ r <;> simp [hx, hr] at h
    | cons y s =>
      obtain ⟨h1, h2⟩ := reL_cons_iff.1 h
      simp only [List.map_cons, reVL_cons, reV_d h1, reVL_map h2]
theorem idsVL_map_d : ∀ l : List D, idsVL (l.map .d) = idsL l
  | [] => rfl
  | x :: r => by simp only [List.map_cons, idsVL, idsL, V.ids, idsVL_map_d r]
theorem filter_d (l : List D) : ((l.map V.d).filter isD).map dD = l := by
  induction l with
  | nil => rfl
  | cons x r ih =>
    show dD (V.d x) :: List.map dD (List.filter isD (List.map V.d r)) = x :: r
    rw [ih]; rfl
@[simp] theorem filt_cons (x : D) (r : List V) : List.filter isD (V.d x :: r) = V.d x :: List.filter isD r := rfl
@[simp] theorem filt_nil : List.filter isD [] = [] := rfl
@[simp] theorem dD_d (x : D) : dD (V.d x) = x := rfl
theorem sim_mk {α : Type} {c : α → List D} {wh : α → Prop} {wt : α → Nat} {mk : α → Int → α} {hl : α → Int → Bool} (m : Marks c wh wt mk hl) {s : Sl α} (h : whS wh s) (k : Int) : Sim (cS c s) (cS c (mkS mk wt s k)) :=
  .sl m.len h.1 (by simp) .nil
theorem ids_agg (l : List D) : (V.agg (l.map .d)).ids = idsL l := by simp only [V.ids]; exact idsVL_map_d l
end Go.Vs
