/-
  Pl2: a part of a proof of this seat: the value-level semantics of Go code without maps (Vs), its walk rules (Vt), the frame of a row (Vr), facts of types, schedules, walks. It holds of every program and state that its hypotheses name.
-/
import Derived.Test.YtfebikihnljjoaaPl1
set_option linter.unusedSimpArgs false
set_option linter.unusedVariables false
namespace Go.Vs
def neg64 (n : Int) : Int := IntKind.i64.wrap (-n)
def negAt (l : List Int) (i : Nat) : List Int := (l.take i).map neg64 ++ l.drop i
@[simp] theorem negAt_zero (l : List Int) : negAt l 0 = l := by simp [negAt]
@[simp] theorem negAt_length (l : List Int) (i : Nat) : (negAt l i).length = l.length := by simp [negAt]; omega
theorem negAt_all {l : List Int} {i : Nat} (h : i = l.length) : negAt l i = l.map neg64 := by subst h; simp [negAt]
theorem negAt_get {l : List Int} {i : Nat} (h : i < l.length) : (negAt l i)[i]? = some l[i] := by
  have hl : ((l.take i).map neg64).length = i := by simp; omega
  simp only [negAt]
  rw [List.getElem?_append_right (by omega), hl, Nat.sub_self]
  simp [h]
@[simp] theorem negAt_get' {l : List Int} {i : Nat} (h : i < (negAt l i).length) : (negAt l i)[i] = l[i]'(by simpa using h) := by
  have h' : i < l.length := by simpa using h
  have := negAt_get h'
  rw [List.getElem?_eq_getElem h] at this
  exact Option.some.inj this
theorem negAt_succ {l : List Int} {i : Nat} (h : i < l.length) : negAt l (i + 1) = (negAt l i).set i (neg64 l[i]) := by
  have hl : ((l.take i).map neg64).length = i := by simp; omega
  simp only [negAt]
  rw [List.take_succ_eq_append_getElem h, List.map_append, List.drop_eq_getElem_cons h]
  rw [List.set_append_right _ _ (by omega), hl, Nat.sub_self, List.set_cons_zero]
  simp
def negP (c : PCnt) : PCnt := (c.1, c.2.1, c.2.2.map neg64)
theorem plI_map (l : List Int) : l.map plI = l := by induction l with | nil => rfl | cons a r ih => simp [plI, ih]
/-- of counted relations that read alike: sizes -/
theorem sw_ints (s : Sl Int) : swS swI s = s.xs.length := by
  have : sumW swI s.xs = 0 := by
    generalize s.xs = l
    induction l with
    | nil => rfl
    | cons a r ih => simp [swI, ih]
  simp [swS, this]
theorem wt_ints (s : Sl Int) : wtS wtI s = s.xs.length := sumW_one (fun _ => rfl) _
theorem sum_pl {l l' : List (Sl Int)} (h : l.map (plS plI) = l'.map (plS plI)) : sumW (fun s : Sl Int => s.xs.length) l = sumW (fun s : Sl Int => s.xs.length) l' ∧ l.length = l'.length := by
  induction l generalizing l' with
  | nil => cases l' with | nil => exact ⟨rfl, rfl⟩ | cons _ _ => simp at h
  | cons a r ih =>
    cases l' with
    | nil => simp at h
    | cons b s =>
      simp only [List.map_cons, List.cons.injEq] at h
      obtain ⟨h1, h2⟩ := ih h.2
      have h3 := congrArg List.length h.1
      simp [plS] at h3
      simp [h1, h2, h3]
theorem rows_wt (s : Sl Ints) : wtS (wtS wtI) s = sumW (fun s : Sl Int => s.xs.length) s.xs := by
  simp only [wtS]
  congr 1
  funext x
  exact wt_ints x
theorem rows_sw (s : Sl Ints) : swS (swS swI) s = s.xs.length + sumW (fun s : Sl Int => s.xs.length) s.xs := by
  simp only [swS]
  congr 2
  funext x
  exact sw_ints x
theorem rows_alike {s t : Sl Ints} (h : plS (plS plI) s = plS (plS plI) t) : swS (swS swI) s = swS (swS swI) t ∧ wtS (wtS wtI) s = wtS (wtS wtI) t ∧ s.xs.length = t.xs.length := by
  obtain ⟨h1, h2⟩ := sum_pl h
  exact ⟨by rw [rows_sw, rows_sw, h1, h2], by rw [rows_wt, rows_wt, h1], h2⟩
theorem rows_small {s : Sl Ints} {n : Nat} (h : swS (swS swI) s ≤ n) : s.xs.length ≤ n ∧ (∀ r ∈ s.xs, r.xs.length ≤ n) ∧ wtS (wtS wtI) s ≤ n := by
  rw [rows_sw] at h
  refine ⟨by omega, fun r hr => ?_, by rw [rows_wt]; omega⟩
  have := sumW_mem (fun s : Sl Int => s.xs.length) hr
  omega
theorem cnt_lens {a : Cnt} (hsz : swS (swS swI) a.rows + swS swI a.cs ≤ 1048576) (y : Cnt) (h : plCnt y = plCnt a) : y.rows.xs.length ≤ 4294967296 ∧ (∀ r ∈ y.rows.xs, r.xs.length ≤ 4294967296) ∧ y.cs.xs.length ≤ 4294967296 := by
  simp only [plCnt, Prod.mk.injEq] at h
  obtain ⟨_, h1, h2⟩ := h
  have h3 := (rows_alike h1).1
  have h4 := rows_small (s := y.rows) (n := 1048576) (by omega)
  have h5 := congrArg List.length h2
  simp [plS] at h5
  rw [sw_ints] at hsz
  exact ⟨by omega, fun r hr => by have := h4.2.1 r hr; omega, by omega⟩
theorem cnt_bound {a : Cnt} (hsz : swS (swS swI) a.rows + swS swI a.cs ≤ 1048576) (y : Cnt) (h : plCnt y = plCnt a ∨ plCnt y = negP (plCnt a)) : 1 + (wtTCnt y : Int) ≤ 4611686018427387904 := by
  have key : plS (plS plI) y.rows = plS (plS plI) a.rows ∧ y.cs.xs.length = a.cs.xs.length := by
    rcases h with h | h <;> simp only [plCnt, negP, Prod.mk.injEq] at h
    · exact ⟨h.2.1, by have := congrArg List.length h.2.2; simpa [plS] using this⟩
    · exact ⟨h.2.1, by have := congrArg List.length h.2.2; simpa [plS] using this⟩
  have h1 := (rows_alike key.1).2.1
  have h2 := rows_small (s := a.rows) (n := 1048576) (by omega)
  have h3 : wtTCnt y = wtS (wtS wtI) y.rows + wtS wtI y.cs := rfl
  rw [wt_ints] at h3
  rw [sw_ints] at hsz
  omega
end Go.Vs
