/-
  A5: a part of a proof of this seat: the value-level semantics of Go code without maps, its walk rules, the frame of a row, facts of types, schedules, walks, plain lemmas (Pl45 Pl46). It holds of every program and state that its hypotheses name.
-/
import Derived.Test.YtohbmjknaeenjaaA4
set_option linter.unusedSimpArgs false
set_option linter.unusedVariables false
set_option linter.unnecessarySimpa false
namespace Go.Vs
theorem asgO_app : ∀ (l : List (Int × Int)) (x : List Int) (v y : Int), asgO x (l ++ [(v, y)]) = (asgO x l).bind fun z => if z.getD v.toNat 0 = -1 ∨ z.getD v.toNat 0 = y then some (z.set v.toNat y) else none
  | [], x, v, y => by simp [asgO]
  | (u, w) :: r, x, v, y => by
    rw [List.cons_append, asgO, asgO]
    split
    · exact asgO_app r _ v y
    · rfl
theorem asgO_none : ∀ (l r : List (Int × Int)) (x : List Int), asgO x l = none → asgO x (l ++ r) = none
  | [], _, _, h => by simp [asgO] at h
  | (u, w) :: l, r, x, h => by
    rw [List.cons_append, asgO]
    rw [asgO] at h
    split at h
    · rename_i hc
      rw [if_pos hc]
      exact asgO_none l r _ h
    · rename_i hc
      rw [if_neg hc]
theorem asgO_len : ∀ (l : List (Int × Int)) (x z : List Int), asgO x l = some z → z.length = x.length
  | [], x, z, h => by simp [asgO] at h; rw [h]
  | (u, w) :: l, x, z, h => by
    rw [asgO] at h
    split at h
    · have := asgO_len l _ z h
      simpa using this
    · cases h
/-- the state of the inner loop -/
structure AsS (row vs t : List Int) (j : Nat) (x : List Int) (fits : Bool) : Prop where
  le : j ≤ vs.length
  len : x.length = row.length
  yes : fits = true → asgO row ((vs.zip t).take j) = some x
  no : fits = false → asgO row (vs.zip t) = none
theorem AsS.zero {row vs t : List Int} : AsS row vs t 0 row true := ⟨by omega, rfl, fun _ => by simp [asgO], fun h => by cases h⟩
theorem zip_take {vs t : List Int} {j : Nat} (h1 : j < vs.length) (h2 : j < t.length) : (vs.zip t).take (j + 1) = (vs.zip t).take j ++ [(vs[j], t[j])] := by
  rw [List.take_succ_eq_append_getElem (by simp; omega)]
  simp
theorem AsS.step {row vs t x : List Int} {j : Nat} (h : AsS row vs t j x true) (h1 : j < vs.length) (h2 : j < t.length) :
    AsS row vs t (j + 1) (x.set vs[j].toNat t[j]) (decide (x.getD vs[j].toNat 0 = -1 ∨ x.getD vs[j].toNat 0 = t[j])) := by
  have hy := h.yes rfl
  have hz : asgO row ((vs.zip t).take (j + 1)) = if x.getD vs[j].toNat 0 = -1 ∨ x.getD vs[j].toNat 0 = t[j] then some (x.set vs[j].toNat t[j]) else none := by
    rw [zip_take h1 h2, asgO_app, hy]; rfl
  refine ⟨by omega, by rw [List.length_set]; exact h.len, fun hd => ?_, fun hd => ?_⟩
  · rw [hz, if_pos (of_decide_eq_true hd)]
  · rw [if_neg (of_decide_eq_false hd)] at hz
    have := asgO_none _ ((vs.zip t).drop (j + 1)) _ hz
    rwa [List.take_append_drop] at this
theorem AsS.done {row vs t x : List Int} {j : Nat} {fits : Bool} (h : AsS row vs t j x fits) (hj : fits = true → vs.length ≤ j) : asgO row (vs.zip t) = if fits then some x else none := by
  cases fits with
  | false => simpa using h.no rfl
  | true =>
    have h2 := hj rfl
    have h3 := h.yes rfl
    rw [List.take_of_length_le (by simp; omega)] at h3
    simpa using h3
def wkF (d : PDb) (as : List PAtom) (vs row t : List Int) : List (List Int) := match asgO row (vs.zip t) with
  | none => []
  | some x => walkL d as x
theorem walkL_cons (d : PDb) (a : PAtom) (as : List PAtom) (row : List Int) : walkL d (a :: as) row = (lkR d a.rel).rows.flatMap (wkF d as a.vars row) := by
  rw [walkL]; rfl
theorem flatMap_succ {α β : Type} {f : α → List β} {l : List α} {i : Nat} (h : i < l.length) : (l.take (i + 1)).flatMap f = (l.take i).flatMap f ++ f l[i] := by
  rw [List.take_succ_eq_append_getElem h, List.flatMap_append]; simp
theorem wkF_len {d : PDb} {al : List PAtom} {vs row t : List Int} (h : ∀ a ∈ al, (lkR d a.rel).rows.length ≤ 16) (h4 : al.length ≤ 4) : (wkF d al vs row t).length ≤ 65536 := by
  rw [wkF]
  split
  · simp
  · refine Nat.le_trans (walk_size al _ h) ?_
    have : 16 ^ al.length ≤ 16 ^ 4 := Nat.pow_le_pow_right (by omega) h4
    simpa using this
theorem wkF_all {d : PDb} {al : List PAtom} {vs row : List Int} {ts : List (List Int)} (h : ∀ a ∈ al, (lkR d a.rel).rows.length ≤ 16) (h4 : al.length ≤ 4) : (ts.flatMap (wkF d al vs row)).length ≤ ts.length * 65536 := by
  induction ts with
  | nil => simp
  | cons t r ih =>
    rw [List.flatMap_cons, List.length_append, List.length_cons, Nat.add_mul, Nat.one_mul]
    have := wkF_len (vs := vs) (row := row) (t := t) h h4
    omega
theorem setOf_len5 {l : List Int} {n : Int} (h : setOf l n = true) (h1 : 1 ≤ n) (hn : n ≤ 5) : l.length ≤ 5 := by
  simp only [setOf, Bool.and_eq_true, List.all_eq_true, decide_eq_true_eq] at h
  refine nodup_len 5 l h.2 fun x hx => ?_
  have := h.1 x hx
  rw [wrap64_of (by omega) (by omega)] at this
  simp only [inR, Bool.and_eq_true, decide_eq_true_eq] at this
  omega
theorem Qf.out5 {d : PDb} {q : PQuery} (f : Qf d q) : q.out.length ≤ 5 := by
  have h := f.qok
  have hn := f.n5
  simp only [queryOk, Bool.and_eq_true] at h
  exact setOf_len5 h.1.1.2 hn.1 hn.2
end Go.Vs

namespace Go.Vs
theorem rpL_d : ∀ l : List D, rpL (fun _ => none) (l.map V.d) = some ((erL l).map V.d)
  | [] => rfl
  | x :: r => by simp only [List.map_cons, rpL, rp, rpL_d r, erL]
theorem rdL_dd : ∀ l : List D, rdL (fun _ => none) (fun _ => none) (l.map V.d) = some (l.map V.d)
  | [] => rfl
  | x :: r => by simp only [List.map_cons, rdL, rd, rdL_dd r]
theorem rp_agg_d (l : List D) : rp (fun _ => none) (.agg (l.map V.d)) = some (.agg ((erL l).map V.d)) := by simp only [rp, rpL_d, Option.map_some]
theorem rd_agg_d (l : List D) : rd (fun _ => none) (fun _ => none) (.agg (l.map V.d)) = some (.agg (l.map V.d)) := by simp only [rd, rdL_dd, Option.map_some]
/-- a struct and a truth value: what is known of their blocks, put away -/
theorem VC.plain2 {P : Program} {f : FuncId} {As : List V} {α β : Type} {c : α → List D} {e : β → List D} {pl : α → β} (he : ∀ a, erL (c a) = e (pl a)) {b : Bool} {p : β} {Q : Nat → α → Prop}
    (h : VC P f As (fun n v => ∃ y : α, v = .tup [.agg ((c y).map V.d), .d (.bool b)] ∧ pl y = p ∧ Q n y)) : VC P f As (fun _ v => v = .tup [.agg ((e p).map V.d), .d (.bool b)]) := by
  refine VC.plain h (fun n r hr => ?_) ?_
  · obtain ⟨y, rfl, hp, _⟩ := hr
    simp only [rp, rpL, rpL_d, he, hp, Option.map_some, D.er]
  · simp only [rd, rdL, rdL_dd, Option.map_some]
/-- the same of a struct alone -/
theorem VC.plain1 {P : Program} {f : FuncId} {As : List V} {α β : Type} {c : α → List D} {e : β → List D} {pl : α → β} (he : ∀ a, erL (c a) = e (pl a)) {p : β} {Q : Nat → α → Prop}
    (h : VC P f As (fun n v => ∃ y : α, v = .agg ((c y).map V.d) ∧ pl y = p ∧ Q n y)) : VC P f As (fun _ v => v = .agg ((e p).map V.d)) := by
  refine VC.plain h (fun n r hr => ?_) ?_
  · obtain ⟨y, rfl, hp, _⟩ := hr
    simp only [rp_agg_d, he, hp]
  · exact rd_agg_d _
theorem okView_strs {v : View} (h : okView v) : ∀ a ∈ (plView v).q.atoms, a.rel.length ≤ maxLen := okQuery_strs h.1
end Go.Vs
