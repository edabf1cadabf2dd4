/-
  BB1A5: a part of a proof of this seat: the value-level semantics of Go code without maps, its walk rules, the frame of a row, facts of types, schedules, walks, plain lemmas (Pl83 Pl84 Pl85 Pl86 Pl87 Pl88 Pl89 Pl90 Pl91 Pl92 Pl93 Pl94 Pl95 Pl96). It holds of every program and state that its hypotheses name.
-/
import Derived.Test.YtpbcmlolapdfjaaGreatDoorBB1A4
set_option linter.unusedSimpArgs false
set_option linter.unusedVariables false
set_option linter.unnecessarySimpa false
namespace Go.Vs
/-! ### the least value of a covering program -/
def combs {α : Type} : Nat → List α → List (List α)
  | 0, _ => [[]]
  | _ + 1, [] => []
  | n + 1, a :: l => (combs n l).map (a :: ·) ++ combs (n + 1) l
theorem combs_mem {α : Type} : ∀ {n : Nat} {l M : List α}, M ∈ combs n l ↔ M.Sublist l ∧ M.length = n
  | 0, l, M => by
    simp only [combs, List.mem_singleton]
    constructor
    · rintro rfl; exact ⟨List.nil_sublist _, rfl⟩
    · rintro ⟨_, h⟩; exact List.eq_nil_of_length_eq_zero h
  | n + 1, [], M => by
    simp only [combs, List.not_mem_nil, false_iff, not_and, List.sublist_nil]
    rintro rfl; simp
  | n + 1, a :: l, M => by
    simp only [combs, List.mem_append, List.mem_map, combs_mem, List.sublist_cons_iff]
    constructor
    · rintro (⟨x, ⟨h1, h2⟩, rfl⟩ | ⟨h1, h2⟩)
      · exact ⟨.inr ⟨x, rfl, h1⟩, by simp [h2]⟩
      · exact ⟨.inl h1, h2⟩
    · rintro ⟨h | ⟨x, rfl, h⟩, h2⟩
      · exact .inr ⟨h, h2⟩
      · exact .inl ⟨x, ⟨h, by simpa using h2⟩, rfl⟩
def unitR (n j : Nat) : List _root_.Rat := (List.range n).map fun k => if k = j then 1 else 0
/-- the conditions with their right sides -/
def augR (A : List (List _root_.Rat)) (n : Nat) : List (List _root_.Rat) := A.map (· ++ [1]) ++ (List.range n).map fun j => unitR n j ++ [0]
def sumQ (x : List _root_.Rat) : _root_.Rat := dotF x.length (fun _ => 1) (fnL x)
def feasQ (A : List (List _root_.Rat)) (x : List _root_.Rat) : Bool := x.all (fun q => decide (0 ≤ q)) && A.all fun r => decide (1 ≤ dotF x.length (fnL r) (fnL x))
/-- points in order, each once -/
def addPt (out : List (List _root_.Rat)) (x : List _root_.Rat) : List (List _root_.Rat) := if x ∈ out then out else out ++ [x]
def ptStep (A : List (List _root_.Rat)) (n : Nat) (out : List (List _root_.Rat)) (M : List (List _root_.Rat)) : List (List _root_.Rat) := match solQ n M with
  | some x => if feasQ A x then addPt out x else out
  | none => out
def ptsQ (A : List (List _root_.Rat)) (n : Nat) : List (List _root_.Rat) := (combs n (augR A n)).foldl (ptStep A n) []
def bestS (b : Option (List _root_.Rat × _root_.Rat)) (x : List _root_.Rat) : Option (List _root_.Rat × _root_.Rat) := match b with
  | none => some (x, sumQ x)
  | some p => if sumQ x < p.2 then some (x, sumQ x) else some p
def bestQ (l : List (List _root_.Rat)) : Option (List _root_.Rat × _root_.Rat) := l.foldl bestS none
def minQ (A : List (List _root_.Rat)) (n : Nat) : Option (List _root_.Rat × _root_.Rat) := bestQ (ptsQ A n)

theorem addPt_mem {out : List (List _root_.Rat)} {x y : List _root_.Rat} : y ∈ addPt out x ↔ y ∈ out ∨ y = x := by
  rw [addPt]
  split
  · rename_i h
    constructor
    · exact .inl
    · rintro (h1 | rfl)
      · exact h1
      · exact h
  · simp
theorem ptStep_mem {A : List (List _root_.Rat)} {n : Nat} {out M : List (List _root_.Rat)} {y : List _root_.Rat} : y ∈ ptStep A n out M ↔ y ∈ out ∨ (solQ n M = some y ∧ feasQ A y = true) := by
  rw [ptStep]
  cases h : solQ n M with
  | none => simp
  | some x =>
    simp only [Option.some.injEq]
    split
    · rename_i hf
      rw [addPt_mem]
      constructor
      · rintro (h | rfl)
        · exact .inl h
        · exact .inr ⟨rfl, hf⟩
      · rintro (h | ⟨rfl, _⟩)
        · exact .inl h
        · exact .inr rfl
    · rename_i hf
      constructor
      · exact .inl
      · rintro (h | ⟨rfl, h⟩)
        · exact h
        · exact absurd h hf
theorem pts_fold {A : List (List _root_.Rat)} {n : Nat} {y : List _root_.Rat} : ∀ (l : List (List (List _root_.Rat))) (out : List (List _root_.Rat)), y ∈ l.foldl (ptStep A n) out ↔ y ∈ out ∨ ∃ M ∈ l, solQ n M = some y ∧ feasQ A y = true
  | [], out => by simp
  | M :: l, out => by
    rw [List.foldl_cons, pts_fold l, ptStep_mem]
    simp only [List.mem_cons]
    constructor
    · rintro ((h | h) | ⟨M', hM, h⟩)
      · exact .inl h
      · exact .inr ⟨M, .inl rfl, h⟩
      · exact .inr ⟨M', .inr hM, h⟩
    · rintro (h | ⟨M', rfl | hM, h⟩)
      · exact .inl (.inl h)
      · exact .inl (.inr h)
      · exact .inr ⟨M', hM, h⟩
theorem pts_mem {A : List (List _root_.Rat)} {n : Nat} {y : List _root_.Rat} : y ∈ ptsQ A n ↔ ∃ M, M.Sublist (augR A n) ∧ M.length = n ∧ solQ n M = some y ∧ feasQ A y = true := by
  rw [ptsQ, pts_fold]
  simp only [List.not_mem_nil, false_or, combs_mem]
  constructor
  · rintro ⟨M, ⟨h1, h2⟩, h⟩; exact ⟨M, h1, h2, h⟩
  · rintro ⟨M, h1, h2, h⟩; exact ⟨M, ⟨h1, h2⟩, h⟩
theorem best_fold : ∀ (l : List (List _root_.Rat)) (b : Option (List _root_.Rat × _root_.Rat)), (∀ p, b = some p → p.2 = sumQ p.1) →
    (∀ p, l.foldl bestS b = some p → p.2 = sumQ p.1 ∧ (p.1 ∈ l ∨ b = some p) ∧ (∀ x ∈ l, p.2 ≤ sumQ x) ∧ ∀ p', b = some p' → p.2 ≤ p'.2) ∧ (l.foldl bestS b = none → b = none ∧ l = [])
  | [], b, hb => by
    refine ⟨fun p hp => ⟨hb p hp, .inr hp, by simp, fun p' hp' => ?_⟩, fun h => ⟨h, rfl⟩⟩
    rw [List.foldl_nil] at hp
    rw [hp, Option.some.injEq] at hp'
    subst hp'; exact Rat.le_refl
  | x :: l, b, hb => by
    have hs : ∃ p, bestS b x = some p ∧ p.2 = sumQ p.1 ∧ (p.1 = x ∨ b = some p) ∧ p.2 ≤ sumQ x ∧ ∀ p', b = some p' → p.2 ≤ p'.2 := by
      cases b with
      | none => exact ⟨(x, sumQ x), rfl, rfl, .inl rfl, Rat.le_refl, fun p' h => by cases h⟩
      | some q =>
        simp only [bestS]
        by_cases h : sumQ x < q.2
        · rw [if_pos h]
          exact ⟨(x, sumQ x), rfl, rfl, .inl rfl, Rat.le_refl, fun p' h' => by simp only [Option.some.injEq] at h'; subst h'; exact Rat.le_of_lt h⟩
        · rw [if_neg h]
          exact ⟨q, rfl, hb q rfl, .inr rfl, by grind, fun p' h' => by simp only [Option.some.injEq] at h'; subst h'; exact Rat.le_refl⟩
    obtain ⟨q, h1, h2, h3, h4, h5⟩ := hs
    rw [List.foldl_cons, h1]
    obtain ⟨i1, i2⟩ := best_fold l (some q) fun p hp => by simp only [Option.some.injEq] at hp; subst hp; exact h2
    refine ⟨fun p hp => ?_, fun h => absurd (i2 h).1 (by simp)⟩
    obtain ⟨j1, j2, j3, j4⟩ := i1 p hp
    have j5 := j4 q rfl
    refine ⟨j1, ?_, fun y hy => ?_, fun p' hp' => by have := h5 p' hp'; grind⟩
    · rcases j2 with h | h
      · exact .inl (List.mem_cons_of_mem _ h)
      · simp only [Option.some.injEq] at h
        subst h
        rcases h3 with h | h
        · exact .inl (by rw [h]; simp)
        · exact .inr h
    · rcases List.mem_cons.1 hy with rfl | hy
      · grind
      · exact j3 y hy
theorem best_some {l : List (List _root_.Rat)} (h : l ≠ []) : ∃ p, bestQ l = some p ∧ p.2 = sumQ p.1 ∧ p.1 ∈ l ∧ ∀ x ∈ l, p.2 ≤ sumQ x := by
  obtain ⟨h1, h2⟩ := best_fold l none (fun p h => by cases h)
  cases e : l.foldl bestS none with
  | none => exact absurd (h2 e).2 h
  | some p =>
    obtain ⟨a, b, c, _⟩ := h1 p e
    refine ⟨p, e, a, ?_, c⟩
    rcases b with b | b
    · exact b
    · cases b
/-- rows of noughts and ones -/
structure Mat01 (A : List (List _root_.Rat)) (n : Nat) : Prop where
  len : ∀ r ∈ A, r.length = n
  z : ∀ r ∈ A, ∀ q ∈ r, q = 0 ∨ q = 1
  one : ∀ r ∈ A, ∃ q ∈ r, q = 1
def feasC (A : List (List _root_.Rat)) (n : Nat) (y : Nat → _root_.Rat) : Prop := (∀ k, k < n → 0 ≤ y k) ∧ ∀ r ∈ A, 1 ≤ dotF n (fnL r) y
theorem unit_get {n j k : Nat} (hk : k < n) : fnL (unitR n j) k = if k = j then 1 else 0 := by
  rw [fnL, gd (by simpa [unitR] using hk)]; simp [unitR]
theorem app_get {r : List _root_.Rat} {n : Nat} {b : _root_.Rat} (hr : r.length = n) : (∀ k, k < n → fnL (r ++ [b]) k = fnL r k) ∧ fnL (r ++ [b]) n = b := by
  constructor
  · intro k hk
    rw [fnL, fnL, gd (by simp; omega), gd (by omega), List.getElem_append_left]
  · rw [fnL, gd (by simp; omega)]
    simp [← hr]
theorem aug_mem {A : List (List _root_.Rat)} {n : Nat} {r : List _root_.Rat} : r ∈ augR A n ↔ (∃ a ∈ A, r = a ++ [1]) ∨ ∃ j, j < n ∧ r = unitR n j ++ [0] := by
  simp only [augR, List.mem_append, List.mem_map, List.mem_range]
  constructor
  · rintro (⟨a, h, rfl⟩ | ⟨j, h, rfl⟩)
    · exact .inl ⟨a, h, rfl⟩
    · exact .inr ⟨j, h, rfl⟩
  · rintro (⟨a, h, rfl⟩ | ⟨j, h, rfl⟩)
    · exact .inl ⟨a, h, rfl⟩
    · exact .inr ⟨j, h, rfl⟩
theorem aug_len {A : List (List _root_.Rat)} {n : Nat} (h : Mat01 A n) : ∀ r ∈ augR A n, r.length = n + 1 := fun r hr => by
  rcases aug_mem.1 hr with ⟨a, ha, rfl⟩ | ⟨j, _, rfl⟩
  · simp [h.len a ha]
  · simp [unitR]
theorem aug_01 {A : List (List _root_.Rat)} {n : Nat} (h : Mat01 A n) : ∀ r ∈ augR A n, ∀ q ∈ r, q = 0 ∨ q = 1 := fun r hr q hq => by
  rcases aug_mem.1 hr with ⟨a, ha, rfl⟩ | ⟨j, _, rfl⟩
  · rcases List.mem_append.1 hq with hq | hq
    · exact h.z a ha q hq
    · exact .inr (List.mem_singleton.1 hq)
  · rcases List.mem_append.1 hq with hq | hq
    · obtain ⟨k, _, rfl⟩ := List.mem_map.1 hq
      split
      · exact .inr rfl
      · exact .inl rfl
    · exact .inl (List.mem_singleton.1 hq)
theorem bd_01 {n : Nat} {M : List (List _root_.Rat)} (hl : M.length = n) (h : ∀ r ∈ M, ∀ q ∈ r, q = 0 ∨ q = 1) : Bd n 0 M := by
  refine ⟨1, by omega, by simp [cbQ], fun i hi => ⟨1, fun k => if rowQ M i k = 1 then 1 else 0, ⟨by omega, by simp [cbQ], fun k _ => ?_, fun k _ => ?_⟩, fun h => by omega⟩⟩
  · have hr := h _ (getD_mem' (i := i) (d := []) (by omega))
    have : rowQ M i k = 0 ∨ rowQ M i k = 1 := by
      by_cases hk : k < (M.getD i []).length
      · rw [rowQ, fnL, gd hk]
        exact hr _ (List.getElem_mem hk)
      · left
        rw [rowQ, fnL, List.getD, List.getElem?_eq_none (by omega)]; rfl
    rcases this with e | e
    · rw [e, if_neg (by grind)]; simp
    · rw [e, if_pos rfl]; simp
  · simp only [bbQ]
    split <;> decide
theorem range_fn {n : Nat} {v : Nat → _root_.Rat} {k : Nat} (hk : k < n) : fnL ((List.range n).map v) k = v k := by
  rw [fnL, gd (by simpa using hk)]; simp
/-- what the least value is -/
theorem min_cov {A : List (List _root_.Rat)} {n : Nat} (h : Mat01 A n) : ∃ p, minQ A n = some p ∧ p.1.length = n ∧ p.2 = dotF n (fun _ => 1) (fnL p.1) ∧ feasC A n (fnL p.1) ∧ ∀ y, feasC A n y → p.2 ≤ dotF n (fun _ => 1) y := by
  have hrow : ∀ r ∈ augR A n, r.length = n + 1 := aug_len h
  have key : ∀ y, feasC A n y → ∃ x ∈ ptsQ A n, x.length = n ∧ sumQ x ≤ dotF n (fun _ => 1) y := fun y hy => by
    obtain ⟨C, hC⟩ : ∃ C : List Cst, C = (augR A n).map fun r => (fnL r, fnL r n) := ⟨_, rfl⟩
    have hfe : ∀ y, feasF n C y ↔ feasC A n y := fun y => by
      constructor
      · intro hf
        refine ⟨fun k hk => ?_, fun r hr => ?_⟩
        · have h1 := hf (fnL (unitR n k ++ [0]), fnL (unitR n k ++ [0]) n) (by rw [hC]; exact List.mem_map.2 ⟨_, aug_mem.2 (.inr ⟨k, hk, rfl⟩), rfl⟩)
          have h2 := app_get (r := unitR n k) (n := n) (b := 0) (by simp [unitR])
          simp only [h2.2] at h1
          rw [dotF_congr (a' := fnL (unitR n k)) (x' := y) h2.1 (fun _ _ => rfl), dotF_one (j := k) hk fun i hi hik => by rw [unit_get hi, if_neg hik]; grind, unit_get hk, if_pos rfl] at h1
          grind
        · have h1 := hf (fnL (r ++ [1]), fnL (r ++ [1]) n) (by rw [hC]; exact List.mem_map.2 ⟨_, aug_mem.2 (.inl ⟨r, hr, rfl⟩), rfl⟩)
          have h2 := app_get (r := r) (n := n) (b := 1) (h.len r hr)
          simp only [h2.2] at h1
          rwa [dotF_congr (a' := fnL r) (x' := y) h2.1 (fun _ _ => rfl)] at h1
      · rintro ⟨h1, h2⟩ p hp
        rw [hC] at hp
        obtain ⟨r, hr, rfl⟩ := List.mem_map.1 hp
        rcases aug_mem.1 hr with ⟨a, ha, rfl⟩ | ⟨j, hj, rfl⟩
        · have h3 := app_get (r := a) (n := n) (b := 1) (h.len a ha)
          simp only [h3.2]
          rw [dotF_congr (a' := fnL a) (x' := y) h3.1 (fun _ _ => rfl)]
          exact h2 a ha
        · have h3 := app_get (r := unitR n j) (n := n) (b := 0) (by simp [unitR])
          simp only [h3.2]
          rw [dotF_congr (a' := fnL (unitR n j)) (x' := y) h3.1 (fun _ _ => rfl), dotF_one (j := j) hj fun i hi hik => by rw [unit_get hi, if_neg hik]; grind, unit_get hj, if_pos rfl]
          have := h1 j hj
          grind
    obtain ⟨v, v1, v2, v3⟩ := vert_ex (n := n) (C := C) (c := fun _ => 1) (fun _ _ => by show (0 : _root_.Rat) ≤ 1; decide) (fun k hk => by
      refine ⟨(fnL (unitR n k ++ [0]), fnL (unitR n k ++ [0]) n), by rw [hC]; exact List.mem_map.2 ⟨_, aug_mem.2 (.inr ⟨k, hk, rfl⟩), rfl⟩, ?_, fun x => ?_⟩
      · exact (app_get (by simp [unitR])).2
      · have h2 := app_get (r := unitR n k) (n := n) (b := 0) (by simp [unitR])
        simp only
        rw [dotF_congr (a' := fnL (unitR n k)) (x' := x) h2.1 (fun _ _ => rfl), dotF_one (j := k) hk fun i hi hik => by rw [unit_get hi, if_neg hik]; grind, unit_get hk, if_pos rfl]
        grind) _ y ((hfe y).2 hy) (Nat.le_refl _)
    obtain ⟨B, hB, hBl, hBk⟩ := ker_sub _ _ (Nat.le_refl _) v3
    have he : (C.filter (tgt n v)).map Prod.fst = ((augR A n).filter fun r => tgt n v (fnL r, fnL r n)).map fnL := by
      rw [hC, List.filter_map, List.map_map]
      rfl
    rw [he] at hB
    obtain ⟨M, hM, rfl⟩ := List.sublist_map_iff.1 hB
    have hMs : M.Sublist (augR A n) := hM.trans List.filter_sublist
    have hMt : ∀ r ∈ M, dotF n (fnL r) v = fnL r n := fun r hr => by
      have := (List.mem_filter.1 (hM.subset hr)).2
      simpa [tgt] using this
    have hMl : M.length = n := by simpa using hBl
    have hMr : ∀ r ∈ M, r.length = n + 1 := fun r hr => hrow r (hMs.subset hr)
    have hMb : Bd n 0 M := bd_01 hMl fun r hr => aug_01 h r (hMs.subset hr)
    have hs := sol_some hMl hMr hMb hBk hMt
    have hvf := (hfe v).1 v1
    have hsum : sumQ ((List.range n).map v) = dotF n (fun _ => 1) v := by
      rw [sumQ, List.length_map, List.length_range]
      exact dotF_congr (fun _ _ => rfl) fun k hk => range_fn hk
    refine ⟨(List.range n).map v, pts_mem.2 ⟨M, hMs, hMl, hs, ?_⟩, by simp, ?_⟩
    · simp only [feasQ, Bool.and_eq_true, List.all_eq_true, decide_eq_true_eq, List.length_map, List.length_range]
      refine ⟨fun q hq => ?_, fun r hr => ?_⟩
      · obtain ⟨k, hk, rfl⟩ := List.mem_map.1 hq
        exact hvf.1 k (List.mem_range.1 hk)
      · rw [dotF_congr (a' := fnL r) (x' := v) (fun _ _ => rfl) fun k hk => range_fn hk]
        exact hvf.2 r hr
    · rw [hsum]; exact v2
  have h1 : feasC A n (fun _ => 1) := by
    refine ⟨fun _ _ => by show (0 : _root_.Rat) ≤ 1; decide, fun r hr => ?_⟩
    obtain ⟨q, hq, rfl⟩ := h.one r hr
    obtain ⟨i, hi, hqi⟩ := List.mem_iff_getElem.1 hq
    have hl := h.len r hr
    have hz : ∀ k, k < n → 0 ≤ fnL r k := fun k hk => by
      rw [fnL, gd (by omega)]
      rcases h.z r hr _ (List.getElem_mem (show k < r.length by omega)) with e | e <;> rw [e] <;> decide
    have hd : dotF n (fnL r) (fun _ => 1) = dotF n (fun k => fnL r k - if k = i then 1 else 0) (fun _ => 1) + dotF n (fun k => if k = i then 1 else 0) (fun _ => 1) := by
      rw [dotF_comm (fun k => fnL r k - if k = i then 1 else 0), dotF_comm (fun k => if k = i then (1 : _root_.Rat) else 0), ← dotF_add, dotF_comm]
      exact dotF_congr (fun _ _ => rfl) fun k _ => by grind
    have h2 : 0 ≤ dotF n (fun k => fnL r k - if k = i then 1 else 0) (fun _ => 1) := dotF_nonneg fun k hk => by
      by_cases e : k = i
      · subst e
        have : fnL r k = 1 := by rw [fnL, gd hi, hqi]
        rw [this, if_pos rfl]; grind
      · have := hz k hk
        rw [if_neg e]; grind
    have h3 : dotF n (fun k => if k = i then (1 : _root_.Rat) else 0) (fun _ => 1) = 1 := by
      rw [dotF_one (j := i) (by omega) fun k _ hk => by rw [if_neg hk]; grind, if_pos rfl]
      grind
    rw [hd, h3]
    grind
  obtain ⟨x0, hx0, _⟩ := key _ h1
  obtain ⟨p, p1, p2, p3, p4⟩ := best_some (List.ne_nil_of_mem hx0)
  obtain ⟨M, hM, hMl, hMs, hMf⟩ := pts_mem.1 p3
  have hpl : p.1.length = n := by
    rw [solQ] at hMs
    cases e : gj M n with
    | none => rw [e] at hMs; cases hMs
    | some m => rw [e, Option.map_some, Option.some.injEq] at hMs; rw [← hMs]; simp [outM]
  refine ⟨p, p1, hpl, by rw [p2, sumQ, hpl], ?_, fun y hy => ?_⟩
  · simp only [feasQ, Bool.and_eq_true, List.all_eq_true, decide_eq_true_eq, hpl] at hMf
    exact ⟨fun k hk => by rw [fnL, gd (by omega)]; exact hMf.1 _ (List.getElem_mem _), hMf.2⟩
  · obtain ⟨x, hx, _, hs⟩ := key y hy
    have := p4 x hx
    grind
end Go.Vs


namespace Go.Vs
/-! ### rationals as pairs of ints -/
theorem tdiv_dvd {a b : Int} (h : b ∣ a) : a.tdiv b = a / b := Int.tdiv_eq_ediv_of_dvd h
/-- a fraction with a denominator above 0, reduced -/
theorem q_norm (n d : Int) (hd : 0 < d) : (_root_.Rat.divInt n d).num = n.tdiv (Nat.gcd n.natAbs d.natAbs : Nat) ∧ (((_root_.Rat.divInt n d).den : Nat) : Int) = d.tdiv (Nat.gcd n.natAbs d.natAbs : Nat) := by
  have e : _root_.Rat.divInt n d = _root_.Rat.normalize n d.natAbs (by omega) := by
    have : d = (d.natAbs : Int) := by omega
    conv => lhs; rw [this]
    show _root_.mkRat n d.natAbs = _
    rw [_root_.Rat.normalize_eq_mkRat]
  rw [e, _root_.Rat.normalize_eq]
  simp only
  have h1 : ((Nat.gcd n.natAbs d.natAbs : Nat) : Int) ∣ n := Int.ofNat_dvd_left.2 (Nat.gcd_dvd_left _ _)
  have h2 : ((Nat.gcd n.natAbs d.natAbs : Nat) : Int) ∣ d := Int.ofNat_dvd_left.2 (Nat.gcd_dvd_right _ _)
  rw [tdiv_dvd h1, tdiv_dvd h2]
  refine ⟨rfl, ?_⟩
  rw [Int.natCast_ediv]
  congr 1
  omega
theorem q_add (a b : _root_.Rat) : a + b = _root_.Rat.divInt (a.num * b.den + b.num * a.den) ((a.den : Int) * b.den) := by
  rw [_root_.Rat.add_def, _root_.Rat.normalize_eq_mkRat]
  rfl
theorem q_mul (a b : _root_.Rat) : a * b = _root_.Rat.divInt (a.num * b.num) ((a.den : Int) * b.den) := by
  rw [_root_.Rat.mul_def, _root_.Rat.normalize_eq_mkRat]
  rfl
theorem q_self (a : _root_.Rat) : _root_.Rat.divInt a.num a.den = a := _root_.Rat.num_divInt_den a
theorem q_div (a b : _root_.Rat) : a / b = _root_.Rat.divInt (a.num * b.den) ((a.den : Int) * b.num) := by
  rw [_root_.Rat.div_def, _root_.Rat.inv_def]
  conv => lhs; rw [← q_self a]
  rw [_root_.Rat.divInt_mul_divInt]
theorem q_flip (n d : Int) : _root_.Rat.divInt (-n) (-d) = _root_.Rat.divInt n d := _root_.Rat.neg_divInt_neg n d
theorem q_neg (a : _root_.Rat) : (-a).num = - a.num ∧ (-a).den = a.den := ⟨rfl, rfl⟩
theorem q_sub (a b : _root_.Rat) : a - b = a + -b := by grind
end Go.Vs


namespace Go.Vs
/-! ### the width of a bag: the least weight of atoms that covers it -/
def r01 (b : Bool) : _root_.Rat := if b then 1 else 0
def covM (atoms : List PAtom) (bag : List Int) : List (List _root_.Rat) := bag.map fun v => atoms.map fun a => r01 (a.vars.contains v)
def widQ (atoms : List PAtom) (bag : List Int) : _root_.Rat := ((minQ (covM atoms bag) atoms.length).map (·.2)).getD 0
/-- each variable of the bag lies in an atom -/
def covered (atoms : List PAtom) (bag : List Int) : Prop := ∀ v ∈ bag, ∃ a ∈ atoms, v ∈ a.vars
theorem covM_01 {atoms : List PAtom} {bag : List Int} (h : covered atoms bag) : Mat01 (covM atoms bag) atoms.length := by
  refine ⟨fun r hr => ?_, fun r hr q hq => ?_, fun r hr => ?_⟩
  · obtain ⟨v, _, rfl⟩ := List.mem_map.1 hr; simp
  · obtain ⟨v, _, rfl⟩ := List.mem_map.1 hr
    obtain ⟨a, _, rfl⟩ := List.mem_map.1 hq
    simp only [r01]; split <;> simp
  · obtain ⟨v, hv, rfl⟩ := List.mem_map.1 hr
    obtain ⟨a, ha, hva⟩ := h v hv
    exact ⟨1, List.mem_map.2 ⟨a, ha, by simp [r01, hva]⟩, rfl⟩
theorem wid_min {atoms : List PAtom} {bag : List Int} (h : covered atoms bag) : ∃ p, minQ (covM atoms bag) atoms.length = some p ∧ p.2 = widQ atoms bag ∧ p.1.length = atoms.length ∧
    p.2 = dotF atoms.length (fun _ => 1) (fnL p.1) ∧ feasC (covM atoms bag) atoms.length (fnL p.1) ∧ ∀ y, feasC (covM atoms bag) atoms.length y → p.2 ≤ dotF atoms.length (fun _ => 1) y := by
  obtain ⟨p, h1, h2, h3, h4, h5⟩ := min_cov (covM_01 h)
  exact ⟨p, h1, by simp [widQ, h1], h2, h3, h4, h5⟩
theorem dotF_le {a b x : Nat → _root_.Rat} : ∀ {n : Nat}, (∀ k, k < n → a k * x k ≤ b k * x k) → dotF n a x ≤ dotF n b x
  | 0, _ => by simp [dotF]
  | n + 1, h => by
    have h1 := dotF_le (n := n) fun k hk => h k (by omega)
    have h2 := h n (by omega)
    simp only [dotF]
    grind
theorem wid_one {atoms : List PAtom} {bag : List Int} (h : covered atoms bag) (hne : bag ≠ []) : 1 ≤ widQ atoms bag := by
  obtain ⟨p, _, p2, _, p4, p5, _⟩ := wid_min h
  rw [← p2, p4]
  obtain ⟨v, hv⟩ := List.exists_mem_of_ne_nil _ hne
  have h1 := p5.2 _ (List.mem_map.2 ⟨v, hv, rfl⟩)
  have h2 : dotF atoms.length (fnL (atoms.map fun a => r01 (a.vars.contains v))) (fnL p.1) ≤ dotF atoms.length (fun _ => 1) (fnL p.1) := by
    refine dotF_le fun k hk => ?_
    have h0 := p5.1 k hk
    have h3 : fnL (atoms.map fun a => r01 (a.vars.contains v)) k ≤ 1 := by
      simp only [fnL, List.getD_eq_getElem?_getD, List.getElem?_map, List.getElem?_eq_getElem hk, Option.map_some, Option.getD_some, r01]
      split <;> decide
    have := _root_.Rat.mul_le_mul_of_nonneg_right h3 h0
    exact this
  grind
end Go.Vs


namespace Go.Vs
/-! ### rationals as the program holds them -/
def qR (q : _root_.Rat) : PRat := ⟨q.num, q.den⟩
theorem qR_inj {a b : _root_.Rat} : qR a = qR b ↔ a = b := by
  constructor
  · intro h
    have h1 : a.num = b.num := congrArg PRat.num h
    have h2 : (a.den : Int) = b.den := congrArg PRat.den h
    exact _root_.Rat.ext h1 (by omega)
  · rintro rfl; rfl
def cmpQ (a b : _root_.Rat) : Int := if a < b then -1 else if b < a then 1 else 0
theorem cmpQ_lt {a b : _root_.Rat} : cmpQ a b < 0 ↔ a < b := by
  unfold cmpQ
  split
  · simp [*]
  · split <;> simp [*]
theorem cmpQ_gt {a b : _root_.Rat} : 0 < cmpQ a b ↔ b < a := by
  unfold cmpQ
  split
  · rename_i h
    have : ¬ b < a := by grind
    simp [this]
  · split <;> simp [*]
theorem cmpQ_eq {a b : _root_.Rat} : cmpQ a b = (if a.num * b.den < b.num * a.den then -1 else if b.num * a.den < a.num * b.den then 1 else 0) := by
  unfold cmpQ
  simp only [_root_.Rat.lt_iff]
theorem mulB {a b : Int} {x y : Nat} (ha : a.natAbs ≤ x) (hb : b.natAbs ≤ y) : (a * b).natAbs ≤ x * y := natAbs_mul_le ha hb
theorem num_ne {q : _root_.Rat} (h : q ≠ 0) : q.num ≠ 0 := fun e => h (_root_.Rat.num_eq_zero.1 e)
theorem sm_pos {q : _root_.Rat} : 0 < (q.den : Int) := by have := q.den_pos; omega
theorem sm_gcd (q : _root_.Rat) : Nat.gcd q.num.natAbs q.den = 1 := q.reduced
theorem sm_neg {q : _root_.Rat} (h : smQ q) : smQ (-q) := ⟨by have := h.1; simp [(q_neg q).1]; exact this, by have := h.2; simp [(q_neg q).2]; exact this⟩
theorem sm_zero : smQ 0 := by constructor <;> decide
theorem sm_one : smQ 1 := by constructor <;> decide
/-- the products of numerators, denominators fit -/
theorem sm_mul {a b : _root_.Rat} (ha : smQ a) (hb : smQ b) : (a.num * b.den).natAbs ≤ 1000000000000000000 ∧ (b.num * a.den).natAbs ≤ 1000000000000000000 ∧ (a.num * b.num).natAbs ≤ 1000000000000000000 ∧ ((a.den : Int) * b.den).natAbs ≤ 1000000000000000000 ∧ ((a.den : Int) * b.num).natAbs ≤ 1000000000000000000 := by
  have h1 := ha.1
  have h2 := ha.2
  have h3 := hb.1
  have h4 := hb.2
  exact ⟨mulB h1 (y := 1000000000) (by omega), mulB h3 (y := 1000000000) (by omega), mulB h1 h3, mulB (x := 1000000000) (y := 1000000000) (by omega) (by omega), mulB (x := 1000000000) (by omega) h3⟩
theorem den_mul {a b : _root_.Rat} : (0 : Int) < (a.den : Int) * b.den := Int.mul_pos sm_pos sm_pos
/-- what a quotient of ints comes to -/
theorem norm_num {n d : Int} {q : _root_.Rat} (hq : q = _root_.Rat.divInt n d) (hd : 0 < d) : n.tdiv (Nat.gcd n.natAbs d.natAbs : Nat) = q.num ∧ d.tdiv (Nat.gcd n.natAbs d.natAbs : Nat) = q.den := by
  subst hq
  have := q_norm n d hd
  exact ⟨this.1.symm, this.2.symm⟩
theorem gcd_le {n d : Int} (hd : 0 < d) : 1 ≤ Nat.gcd n.natAbs d.natAbs ∧ ((Nat.gcd n.natAbs d.natAbs : Nat) : Int) ≤ d := by
  have h1 : 0 < d.natAbs := by omega
  have h2 := Nat.gcd_pos_of_pos_right n.natAbs h1
  have h3 := Nat.gcd_le_right n.natAbs h1
  omega
theorem tmod_nat (a b : Nat) : ((a : Int).tmod (b : Int)) = ((a % b : Nat) : Int) := by
  rw [Int.tmod_eq_emod_of_nonneg (by omega)]; simp
theorem sm_i {q : _root_.Rat} (h : smQ q) : -1000000000 ≤ q.num ∧ q.num ≤ 1000000000 ∧ (1 : Int) ≤ q.den ∧ (q.den : Int) ≤ 1000000000 := by
  have h1 := h.1
  have h2 := h.2
  have h3 := q.den_pos
  omega
end Go.Vs


namespace Go.Vs
/-! ### matrices of rationals in memory: rows with their blocks -/
def eQ (q : _root_.Rat) : List D := eRat (qR q)
def cR (T : TypeId × Nat) (r : Nat × List _root_.Rat) : List D := [.sl (some r.1) (some T) (r.2.map eQ)]
theorem eQ_def (q : _root_.Rat) : eQ q = [.int .i64 q.num, .int .i64 (q.den : Int)] := rfl
@[simp] theorem eQ_len (q : _root_.Rat) : (eQ q).length = 2 := rfl
@[simp] theorem ids_eQ (q : _root_.Rat) : idsL (eQ q) = [] := rfl
@[simp] theorem ids_eQs (l : List _root_.Rat) : idsLL (l.map eQ) = [] := by
  induction l with
  | nil => rfl
  | cons a r ih => simp [idsLL, ih]
@[simp] theorem hp_eQs (l : List _root_.Rat) : hpLL (l.map eQ) = false := by
  induction l with
  | nil => rfl
  | cons a r ih => simp [hpLL, hpL, eQ, eRat, cI, D.hp] at ih ⊢
@[simp] theorem tk_eQs (l : List _root_.Rat) : tkLL (l.map eQ) = true := by
  induction l with
  | nil => rfl
  | cons a r ih => simp [tkLL, ih, eQ, eRat, cI, tkL, D.tk]
@[simp] theorem re_eQs (φ : Nat → Option D) (l : List _root_.Rat) : reLL φ (l.map eQ) = some (l.map eQ) := by
  induction l with
  | nil => rfl
  | cons a r ih => simp [reLL, ih, eQ, eRat, cI, reL, reD]
@[simp] theorem ids_cR (T : TypeId × Nat) (r : Nat × List _root_.Rat) : idsL (cR T r) = [r.1] := by simp [cR, idsL, D.ids]
@[simp] theorem ids_cRs (T : TypeId × Nat) (l : List (Nat × List _root_.Rat)) : idsLL (l.map (cR T)) = l.map (·.1) := by
  induction l with
  | nil => rfl
  | cons a r ih => simp [idsLL, ih]
@[simp] theorem cR_len (T : TypeId × Nat) (r : Nat × List _root_.Rat) : (cR T r).length = 1 := rfl
@[simp] theorem hp_cRs (T : TypeId × Nat) (l : List (Nat × List _root_.Rat)) : hpLL (l.map (cR T)) = false := by
  induction l with
  | nil => rfl
  | cons a r ih => simp [hpLL, hpL, cR, D.hp] at ih ⊢
@[simp] theorem tk_cRs (T : TypeId × Nat) (l : List (Nat × List _root_.Rat)) : tkLL (l.map (cR T)) = true := by
  induction l with
  | nil => rfl
  | cons a r ih => simp [tkLL, ih, cR, tkL, D.tk]
theorem len_eQs {l l' : List _root_.Rat} (h : l'.length = l.length) : (l'.map eQ).map List.length = (l.map eQ).map List.length := by
  simp only [List.map_map, Function.comp_def, eQ_len, List.map_const', h]
theorem nd_idx {α : Type} {l : List α} (h : l.Nodup) {i j : Nat} {a : α} (hi : l[i]? = some a) (hj : l[j]? = some a) : i = j := by
  obtain ⟨hi', ei⟩ := List.getElem?_eq_some_iff.1 hi
  obtain ⟨hj', ej⟩ := List.getElem?_eq_some_iff.1 hj
  have h1 := List.pairwise_iff_getElem.1 h
  refine Classical.byContradiction fun hne => ?_
  rcases Nat.lt_or_gt_of_ne hne with hlt | hlt
  · exact h1 i j hi' hj' hlt (ei.trans ej.symm)
  · exact h1 j i hj' hi' hlt (ej.trans ei.symm)
/-- the matrix where one row is written -/
theorem re_rowQ {φ : Nat → Option D} {gm : Nat} {TM : Option (TypeId × Nat)} {T : TypeId × Nat} {rows : List (Nat × List _root_.Rat)} {i : Nat} {g : Nat} {r r' : List _root_.Rat} (hi : rows[i]? = some (g, r)) (hl : r'.length = r.length)
    (hnd : (rows.map (·.1)).Nodup) (hgm : φ gm = none) (hg : φ g = some (.sl (some g) (some T) (r'.map eQ))) (ho : ∀ q ∈ rows.map (·.1), q ≠ g → φ q = none) :
    reV φ (.d (.sl (some gm) TM (rows.map (cR T)))) = .d (.sl (some gm) TM ((rows.set i (g, r')).map (cR T))) := by
  obtain ⟨hlt, he⟩ := List.getElem?_eq_some_iff.1 hi
  have h1 : rows.map (cR T) = (rows.map (cR T)).set i (cR T (g, r)) := by
    rw [← he, set_same (by simp [hlt])]
  rw [h1, ← set_map]
  refine re_elemD hgm ?_ (fun j e hji hj q hq => ?_) (by simp)
  · simp only [cR, reL, reD, hg]
    rw [if_pos ⟨trivial, rfl, trivial, len_eQs hl⟩]
  · rw [List.getElem?_map] at hj
    cases hr : rows[j]? with
    | none => simp [hr] at hj
    | some p =>
      simp only [hr, Option.map_some, Option.some.injEq] at hj
      subst hj
      simp only [ids_cR, List.mem_singleton] at hq
      subst hq
      have hpm : p ∈ rows := List.mem_of_getElem? hr
      refine ho _ (List.mem_map.2 ⟨p, hpm, rfl⟩) fun e => hji ?_
      obtain ⟨hj', hjp⟩ := List.getElem?_eq_some_iff.1 hr
      have a1 : (rows.map (·.1))[j]? = some g := by simp [hr, e]
      have a2 : (rows.map (·.1))[i]? = some g := by simp [hi]
      exact nd_idx hnd a1 a2
/-- the matrix where all rows are written -/
theorem re_mat {W : List Nat} {gm : Nat} {TM TM' : Option (TypeId × Nat)} {T : TypeId × Nat} {rows rows' : List (Nat × List _root_.Rat)} (hf : rows'.map (·.1) = rows.map (·.1)) (hl : rows'.map (·.2.length) = rows.map (·.2.length))
    (hnd : (rows.map (·.1)).Nodup) (hgm : gm ∉ W) (hgr : gm ∉ rows.map (·.1)) (hW : ∀ q ∈ rows.map (·.1), q ∈ W) :
    reV (phi W [.sl (some gm) TM' (rows'.map (cR T))]) (.d (.sl (some gm) TM (rows.map (cR T)))) = .d (.sl (some gm) TM (rows'.map (cR T))) := by
  refine reV_d ?_
  simp only [reD, phi_out hgm]
  have hlen : rows'.length = rows.length := by have := congrArg List.length hf; simpa using this
  rw [reLL_of (l' := rows'.map (cR T)) (by simpa using hlen) ?_]
  · rfl
  intro i e e' he he'
  rw [List.getElem?_map] at he he'
  cases hr : rows[i]? with
  | none => simp [hr] at he
  | some p =>
    cases hr' : rows'[i]? with
    | none => simp [hr'] at he'
    | some p' =>
      simp only [hr, hr', Option.map_some, Option.some.injEq] at he he'
      subst he he'
      obtain ⟨g, r⟩ := p
      obtain ⟨g', r'⟩ := p'
      have a1 : (rows.map (·.1))[i]? = some g := by simp [hr]
      have a2 : (rows'.map (·.1))[i]? = some g' := by simp [hr']
      rw [hf, a1] at a2
      cases a2
      have b1 : (rows.map (·.2.length))[i]? = some r.length := by simp [hr]
      have b2 : (rows'.map (·.2.length))[i]? = some r'.length := by simp [hr']
      rw [hl, b1] at b2
      have hlr : r'.length = r.length := by simpa using b2.symm
      have hgm' : g ≠ gm := fun e => hgr (by rw [← e]; exact List.mem_of_getElem? a1)
      have hnd' : (rows'.map (·.1)).Nodup := by rw [hf]; exact hnd
      have hlook : ∀ (l : List (Nat × List _root_.Rat)), (l.map (·.1)).Nodup → (g, r') ∈ l → lookLL g (l.map (cR T)) = some (.sl (some g) (some T) (r'.map eQ)) := by
        intro l
        induction l with
        | nil => intro _ h; cases h
        | cons x s ih =>
          intro hn hm
          simp only [List.map_cons, List.nodup_cons] at hn
          simp only [List.map_cons, lookLL, cR, lookL, lookD]
          rcases List.mem_cons.1 hm with rfl | hm
          · simp
          · have hxg : x.1 ≠ g := fun e => hn.1 (by rw [e]; exact List.mem_map.2 ⟨_, hm, rfl⟩)
            rw [if_neg hxg]
            have hno : lookLL g (x.2.map eQ) = none := by
              have : ∀ l : List _root_.Rat, lookLL g (l.map eQ) = none := by
                intro l
                induction l with
                | nil => rfl
                | cons a b ih => simp [lookLL, lookL, eQ, eRat, cI, lookD, ih]
              exact this _
            rw [hno]
            exact ih hn.2 hm
      have hin := hW g (List.mem_of_getElem? a1)
      simp only [cR, reL, reD, phi, hin, if_true, lookL, lookD]
      rw [if_neg (Ne.symm hgm'), hlook rows' hnd' (List.mem_of_getElem? hr')]
      simp only [Option.getD_some]
      rw [if_pos ⟨trivial, rfl, trivial, len_eQs hlr⟩]
/-- a contract whose result is known by its elements only -/
theorem VC.erase {P : Program} {f : FuncId} {args : List V} {post : Nat → V → Prop} {v : V} (h : VC P f args post) (hv : ∀ n r, post n r → rp (fun _ => none) r = some v) : VC P f args (fun _ r => r = v) := by
  refine ⟨h.1, fun w vals A hg hLR => (h.2 w vals A hg hLR).mono fun e w' he => ?_⟩
  obtain ⟨val, r, rfl, hb, hvr, _, hp⟩ := he
  have hr := hv _ _ hp
  exact ⟨val, v, rfl, hb, VR.er _ _ _ hvr hr, rp_rd _ _ hr, rfl⟩
end Go.Vs


namespace Go.Vs
/-! ### programs of covers: what the walks need -/
theorem fnL_at {l : List _root_.Rat} {i : Nat} (h : i < l.length) : fnL l i = l[i] := by rw [fnL, gd h]
structure DotS (n : Nat) (a x : Nat → _root_.Rat) : Prop where
  sa : ∀ k, k < n → smQ (a k)
  sx : ∀ k, k < n → smQ (x k)
  sm : ∀ k, k < n → smQ (a k * x k)
  ss : ∀ k, k ≤ n → smQ (dotF k a x)
theorem sm_01 {q : _root_.Rat} (h : q = 0 ∨ q = 1) : smQ q := by
  rcases h with rfl | rfl
  · exact sm_zero
  · exact sm_one
theorem sol_dots {n : Nat} {x : List _root_.Rat} (h : SolB n x) (hn : n ≤ 4) {a : Nat → _root_.Rat} (ha : ∀ k, k < n → a k = 0 ∨ a k = 1) : DotS n a (fnL x) := by
  obtain ⟨_, D, hD, hDb, hX⟩ := h
  have hx : ∀ k, k < n → smQ (fnL x k) := fun k hk => by
    obtain ⟨X, h1, h2⟩ := hX k hk
    exact rb_sm (N := 67108864) (D := 2048) ⟨D, X, hD, h1, h2, hDb⟩ (by omega) (by omega)
  obtain ⟨c, hc⟩ : ∃ c : Nat, c = 67108864 := ⟨_, rfl⟩
  rw [← hc] at hX
  have hs : ∀ k, k ≤ n → ∃ M : Int, dotF k a (fnL x) * (D : _root_.Rat) = (M : _root_.Rat) ∧ M.natAbs ≤ k * c := by
    intro k
    induction k with
    | zero => intro _; exact ⟨0, by simp [dotF], by simp⟩
    | succ k ih =>
      intro hk
      obtain ⟨M, h1, h2⟩ := ih (by omega)
      obtain ⟨X, h3, h4⟩ := hX k (by omega)
      rcases ha k (by omega) with e | e
      · refine ⟨M, ?_, by rw [Nat.succ_mul]; omega⟩
        rw [dotF, e]; grind
      · refine ⟨M + X, ?_, by rw [Nat.succ_mul]; omega⟩
        rw [dotF, e, Rat.intCast_add]; grind
  refine ⟨fun k hk => sm_01 (ha k hk), hx, fun k hk => ?_, fun k hk => ?_⟩
  · rcases ha k hk with e | e
    · rw [e, _root_.Rat.zero_mul]; exact sm_zero
    · rw [e, _root_.Rat.one_mul]; exact hx k hk
  · obtain ⟨M, h1, h2⟩ := hs k hk
    have h3 : k * c ≤ 4 * c := Nat.mul_le_mul_right c (by omega)
    exact rb_sm (N := 268435456) (D := 2048) ⟨D, M, hD, h1, by omega, hDb⟩ (by omega) (by omega)
structure LPok (A : List (List _root_.Rat)) (n : Nat) : Prop where
  m01 : Mat01 A n
  n1 : 1 ≤ n
  n4 : n ≤ 4
  m1 : 1 ≤ A.length
  m5 : A.length ≤ 5
theorem LPok.sm {A : List (List _root_.Rat)} {n : Nat} (h : LPok A n) {r : List _root_.Rat} (hr : r ∈ A) : ∀ q ∈ r, smQ q := fun q hq => sm_01 (h.m01.z r hr q hq)
theorem rep_sm {m : Nat} : ∀ q ∈ List.replicate m (1 : _root_.Rat), smQ q := fun q hq => by rw [List.eq_of_mem_replicate hq]; exact sm_one
theorem LPok.dots {A : List (List _root_.Rat)} {n : Nat} {x : List _root_.Rat} (h : LPok A n) (hx : SolB n x) {r : List _root_.Rat} (hr : r ∈ A) : DotS n (fnL r) (fnL x) :=
  sol_dots hx h.n4 fun k hk => by
    have hl := h.m01.len r hr
    rw [fnL_at (by omega)]
    exact h.m01.z r hr _ (List.getElem_mem _)
theorem sol_sm {n : Nat} {x : List _root_.Rat} (h : SolB n x) (hn : n ≤ 4) : ∀ q ∈ x, smQ q := fun q hq => by
  obtain ⟨i, hi, rfl⟩ := List.mem_iff_getElem.1 hq
  have := (sol_dots h hn (a := fun _ => 1) fun _ _ => .inr rfl).sx i (by rw [← h.len]; exact hi)
  rwa [fnL_at hi] at this
theorem one_at {n k : Nat} (h : k < n) : fnL (List.replicate n (1 : _root_.Rat)) k = 1 := by rw [fnL_at (by simpa using h)]; simp
theorem one_dots {n : Nat} {x : List _root_.Rat} (hx : SolB n x) (hn : n ≤ 4) : DotS n (fnL (List.replicate n (1 : _root_.Rat))) (fnL x) :=
  sol_dots hx hn fun k hk => .inr (one_at hk)
theorem nneg_num {q : _root_.Rat} : 0 ≤ q ↔ 0 ≤ q.num := _root_.Rat.num_nonneg.symm
theorem sumQ_eq {n : Nat} {x : List _root_.Rat} (h : x.length = n) : dotF n (fnL (List.replicate n (1 : _root_.Rat))) (fnL x) = sumQ x := by
  rw [sumQ, h]; exact dotF_congr (fun k hk => one_at hk) fun _ _ => rfl
end Go.Vs


namespace Go.Vs
/-! ### elimination, number by number -/
def elimT (p k : Nat) (piv row : List _root_.Rat) : List _root_.Rat := row.mapIdx fun i x => if p ≤ i ∧ i < k then x - fnL row p / fnL piv p * fnL piv i else x
@[simp] theorem elimT_len {p k : Nat} {piv row : List _root_.Rat} : (elimT p k piv row).length = row.length := by simp [elimT]
theorem elimT_zero {p : Nat} {piv row : List _root_.Rat} : elimT p p piv row = row := by
  apply List.ext_getElem (by simp)
  intro i h1 h2
  simp only [elimT, List.getElem_mapIdx]
  rw [if_neg (by omega)]
theorem elimT_all {p k : Nat} {piv row : List _root_.Rat} (h : row.length ≤ k) : elimT p k piv row = elimR p piv row := by
  apply List.ext_getElem (by simp [elimR])
  intro i h1 h2
  have hi : i < row.length := by simpa using h1
  simp only [elimT, elimR, List.getElem_mapIdx]
  by_cases e : i < p
  · rw [if_neg (by omega), if_pos e]
  · rw [if_pos (by omega), if_neg e]
theorem elimT_at {p k : Nat} {piv row : List _root_.Rat} (h : k < row.length) : (elimT p k piv row)[k]'(by simpa using h) = row[k] := by
  simp only [elimT, List.getElem_mapIdx]
  rw [if_neg (by omega)]
theorem elimT_succ {p k : Nat} {piv row : List _root_.Rat} (hp : p ≤ k) (h : k < row.length) : elimT p (k + 1) piv row = (elimT p k piv row).set k (row[k] - fnL row p / fnL piv p * fnL piv k) := by
  apply List.ext_getElem (by simp)
  intro i h1 h2
  have hi : i < row.length := by simpa using h1
  rw [List.getElem_set]
  simp only [elimT, List.getElem_mapIdx]
  by_cases e : k = i
  · subst e; rw [if_pos rfl, if_pos (by omega)]
  · rw [if_neg e]
    by_cases e2 : p ≤ i ∧ i < k
    · rw [if_pos e2, if_pos (by omega)]
    · rw [if_neg e2, if_neg (by omega)]
/-- all numbers of one elimination are small -/
structure ElimS (n p : Nat) (piv row : List _root_.Rat) : Prop where
  lr : row.length = n + 1
  lv : piv.length = n + 1
  hp : p ≤ n
  ne : fnL piv p ≠ 0
  f : smQ (fnL row p / fnL piv p)
  r : ∀ k, k ≤ n → smQ (fnL row k)
  v : ∀ k, k ≤ n → smQ (fnL piv k)
  q : ∀ k, k ≤ n → smQ (fnL row p / fnL piv p * fnL piv k)
  d : ∀ k, k ≤ n → smQ (fnL row k - fnL row p / fnL piv p * fnL piv k)
theorem elim_zero {p : Nat} {piv row : List _root_.Rat} (h : fnL row p = 0) : elimR p piv row = row := by
  apply List.ext_getElem (by simp [elimR])
  intro i h1 h2
  simp only [elimR, List.getElem_mapIdx]
  split
  · rfl
  · simp only [h]; grind
/-- the matrix behind i rows of a step -/
def stepQ (p i : Nat) (m : List (List _root_.Rat)) : List (List _root_.Rat) := m.mapIdx fun j r => if j < i ∧ j ≠ p then elimR p (m.getD p []) r else r
@[simp] theorem stepQ_len {p i : Nat} {m : List (List _root_.Rat)} : (stepQ p i m).length = m.length := by simp [stepQ]
theorem stepQ_zero {p : Nat} {m : List (List _root_.Rat)} : stepQ p 0 m = m := by
  apply List.ext_getElem (by simp)
  intro i h1 h2
  simp only [stepQ, List.getElem_mapIdx]
  rw [if_neg (by omega)]
theorem stepQ_all {p i : Nat} {m : List (List _root_.Rat)} (h : m.length ≤ i) : stepQ p i m = stepM p m := by
  apply List.ext_getElem (by simp [stepM])
  intro j h1 h2
  have hj : j < m.length := by simpa using h1
  simp only [stepQ, stepM, List.getElem_mapIdx]
  by_cases e : j = p
  · rw [if_neg (by omega), if_pos e]
  · rw [if_pos ⟨by omega, e⟩, if_neg e]
theorem stepQ_at {p i : Nat} {m : List (List _root_.Rat)} (h : i < m.length) : (stepQ p i m)[i]'(by simpa using h) = m[i] := by
  simp only [stepQ, List.getElem_mapIdx]
  rw [if_neg (by omega)]
theorem stepQ_piv {p i : Nat} {m : List (List _root_.Rat)} (h : p < m.length) : (stepQ p i m)[p]'(by simpa using h) = m[p] := by
  simp only [stepQ, List.getElem_mapIdx]
  rw [if_neg (by simp)]
theorem stepQ_p {p : Nat} {m : List (List _root_.Rat)} : stepQ p (p + 1) m = stepQ p p m := by
  apply List.ext_getElem (by simp)
  intro j h1 h2
  simp only [stepQ, List.getElem_mapIdx]
  by_cases e : j < p
  · rw [if_pos (by omega), if_pos (by omega)]
  · rw [if_neg (by omega), if_neg (by omega)]
theorem stepQ_succ {p i : Nat} {m : List (List _root_.Rat)} (h : i < m.length) (hp : p < m.length) (hne : i ≠ p) : stepQ p (i + 1) m = (stepQ p i m).set i (elimR p m[p] m[i]) := by
  apply List.ext_getElem (by simp)
  intro j h1 h2
  rw [List.getElem_set]
  simp only [stepQ, List.getElem_mapIdx, gd hp]
  by_cases e : i = j
  · subst e; rw [if_pos ⟨by omega, hne⟩, if_pos rfl]
  · rw [if_neg e]
    by_cases e2 : j < i ∧ j ≠ p
    · rw [if_pos ⟨by omega, e2.2⟩, if_pos e2]
    · rw [if_neg (fun h => e2 ⟨by omega, h.2⟩), if_neg e2]
theorem SafeS.elim {n p i : Nat} {m : List (List _root_.Rat)} (h : SafeS n p m) (hl : m.length = n) (hr : ∀ r ∈ m, r.length = n + 1) (hp : p < n) (hi : i < n) (hne : rowQ m p p ≠ 0) : ElimS n p (m[p]'(by omega)) (m[i]'(by omega)) := by
  have e1 : ∀ j (hj : j < n), rowQ m j = fnL (m[j]'(by omega)) := fun j hj => by rw [rowQ, gd]
  have := e1 p hp
  have := e1 i hi
  refine ⟨hr _ (List.getElem_mem _), hr _ (List.getElem_mem _), by omega, ?_, ?_, fun k hk => ?_, fun k hk => ?_, fun k hk => ?_, fun k hk => ?_⟩
  · rw [← e1 p hp]; exact hne
  · rw [← e1 p hp, ← e1 i hi]; exact h.f i hi
  · rw [← e1 i hi]; exact h.at_ i k hi hk
  · rw [← e1 p hp]; exact h.at_ p k hp hk
  · rw [← e1 p hp, ← e1 i hi]; exact h.q i k hi hk
  · rw [← e1 p hp, ← e1 i hi]; exact h.d i k hi hk
theorem re_self {g : Nat} {T : TypeId × Nat} {l l' : List _root_.Rat} (h : l'.length = l.length) : reV (one g (.sl (some g) (some T) (l'.map eQ))) (.d (.sl (some g) (some T) (l.map eQ))) = .d (.sl (some g) (some T) (l'.map eQ)) := by
  refine reV_d ?_
  simp only [reD, one, if_true]
  rw [if_pos ⟨trivial, rfl, trivial, len_eQs h⟩]
end Go.Vs


namespace Go.Vs
/-! ### systems of equations: the program's loop -/
theorem piv_eq {m : List (List _root_.Rat)} {p k : Nat} (hp : p ≤ k) (hz : ∀ j, p ≤ j → j < k → rowQ m j p = 0) (h : k = m.length ∨ (k < m.length ∧ rowQ m k p ≠ 0)) : pivAt m p = k := by
  have hk : k ≤ m.length := by omega
  have key : (m.drop p).findIdx (fun r => decide (fnL r p ≠ 0)) = k - p := by
    rcases h with h | ⟨h1, h2⟩
    · have : (m.drop p).findIdx (fun r => decide (fnL r p ≠ 0)) = (m.drop p).length := by
        rw [List.findIdx_eq_length]
        intro x hx
        obtain ⟨j, hj, rfl⟩ := List.mem_iff_getElem.1 hx
        rw [List.length_drop] at hj
        have := hz (p + j) (by omega) (by omega)
        rw [rowQ, gd (by omega)] at this
        simp only [List.getElem_drop, this, ne_eq, not_true_eq_false, decide_false]
      rw [this, List.length_drop]; omega
    · rw [List.findIdx_eq (by rw [List.length_drop]; omega)]
      constructor
      · simp only [List.getElem_drop, decide_eq_true_eq]
        rw [rowQ, gd h1] at h2
        have : p + (k - p) = k := by omega
        simp only [this]; exact h2
      · intro j hj
        have := hz (p + j) (by omega) (by omega)
        rw [rowQ, gd (by omega)] at this
        simp only [List.getElem_drop, this, ne_eq, not_true_eq_false, decide_false]
  unfold pivAt
  rw [key]; omega
theorem gj_none {m0 : List (List _root_.Rat)} {p : Nat} (h : gj m0 p = none) : ∀ q, p ≤ q → gj m0 q = none
  | 0, hq => by have : p = 0 := by omega
                subst this; exact h
  | q + 1, hq => by
    by_cases e : p = q + 1
    · subst e; exact h
    · rw [gj, gj_none h q (by omega)]; rfl
theorem gj_succ {m0 m : List (List _root_.Rat)} {p : Nat} (h : gj m0 p = some m) : gj m0 (p + 1) = gjStep p m := by rw [gj, h]; rfl
theorem sol_none {n p : Nat} {m0 m : List (List _root_.Rat)} (h : gj m0 p = some m) (hk : ¬ pivAt m p < m.length) (hp : p < n) : solQ n m0 = none := by
  rw [solQ, gj_none (p := p + 1) (by rw [gj_succ h, gjStep, if_neg hk]) n hp]; rfl
/-- what is known of the matrix where a step begins -/
structure StpI (n p k : Nat) (R M : List (List _root_.Rat)) : Prop where
  kn : k < n
  pk : p ≤ k
  safe : SafeS n p (swapM M p k)
  len : (swapM M p k).length = n
  row : ∀ r ∈ swapM M p k, r.length = n + 1
  ne : rowQ (swapM M p k) p p ≠ 0
  nxt : gj R (p + 1) = some (stepM p (swapM M p k))
theorem stp_of {n p k : Nat} {R M : List (List _root_.Rat)} (hn : n ≤ 4) (hl : R.length = n) (hr : ∀ r ∈ R, r.length = n + 1) (hb : Bd n 0 R) (h : gj R p = some M) (hp : p < n) (hk : pivAt M p = k) (hkn : k < n) : StpI n p k R M := by
  obtain ⟨g, b⟩ := gj_inv hl hr hb p (by omega) M h
  have hM := g.len
  have hpl : pivAt M p < M.length := by omega
  obtain ⟨h1, h2⟩ := piv_lt hpl
  rw [hk] at h1 h2
  have g2 := g.swap h1 hkn
  have b2 := Bd.swap g h1 hkn b
  have hne : rowQ (swapM M p k) p p ≠ 0 := by
    rw [rowQ, swap_get (by omega) (by omega)]
    by_cases e : p = k
    · rw [if_pos e]; subst e; exact h2
    · rw [if_neg e, if_pos rfl]; exact h2
  refine ⟨hkn, h1, bd_safe b2 (by omega) hp hne, g2.len, g2.row, hne, ?_⟩
  rw [gj_succ h, gjStep, if_pos hpl, hk]
/-- the end: the quotients -/
theorem sol_end {n : Nat} {R M : List (List _root_.Rat)} (hn : n ≤ 4) (hl : R.length = n) (hr : ∀ r ∈ R, r.length = n + 1) (hb : Bd n 0 R) (h : gj R n = some M) :
    M.length = n ∧ (∀ r ∈ M, r.length = n + 1) ∧ solQ n R = some (outM n M) ∧ SolB n (outM n M) ∧ (∀ p (hp : p < M.length), fnL M[p] p ≠ 0 ∧ smQ (fnL M[p] p) ∧ smQ (fnL M[p] n) ∧ smQ (fnL M[p] n / fnL M[p] p)) := by
  obtain ⟨g, b⟩ := gj_inv hl hr hb n (Nat.le_refl _) M h
  have hs : solQ n R = some (outM n M) := by rw [solQ, h]; rfl
  have hB := sol_bd hn hl hr hb hs
  refine ⟨g.len, g.row, hs, hB, fun p hp => ?_⟩
  have hpn : p < n := by rw [← g.len]; exact hp
  have e : rowQ M p = fnL M[p] := by rw [rowQ, gd hp]
  refine ⟨by rw [← e]; exact g.piv p hpn, by rw [← e]; exact bd_at b hn hpn (by omega), by rw [← e]; exact bd_at b hn hpn (Nat.le_refl _), ?_⟩
  have := (sol_dots hB hn (a := fun _ => 1) fun _ _ => .inr rfl).sx p hpn
  rw [fnL, gd (by simpa [outM] using hpn)] at this
  simpa [outM, e] using this
theorem phi_single {g : Nat} {T : Option (TypeId × Nat)} {es : List (List D)} : phi [g] [.sl (some g) T es] = one g (.sl (some g) T es) := by
  funext j
  by_cases e : j = g
  · subst e; simp [phi, one, lookL, lookD]
  · simp [phi, one, e]
theorem re_rowout {φ : Nat → Option D} {g : Nat} {T : Option (TypeId × Nat)} {l : List _root_.Rat} (h : φ g = none) : reV φ (.d (.sl (some g) T (l.map eQ))) = .d (.sl (some g) T (l.map eQ)) := by
  simp [reV, reD, h]
theorem re_mset {gm : Nat} {TM : TypeId × Nat} {es : List (List D)} {i : Nat} {e' : List D} (h : i < es.length) (h1 : e'.length = es[i].length) : reV (one gm (.sl (some gm) (some TM) (es.set i e'))) (.d (.sl (some gm) (some TM) es)) = .d (.sl (some gm) (some TM) (es.set i e')) :=
  re_oneSet2 (by simp [List.getD, h, h1])
/-- two rows change places -/
def swapR (R : List (Nat × List _root_.Rat)) (p k : Nat) : List (Nat × List _root_.Rat) := (R.set p (R.getD k (0, []))).set k (R.getD p (0, []))
theorem swapR_snd {R : List (Nat × List _root_.Rat)} {p k : Nat} : (swapR R p k).map (·.2) = swapM (R.map (·.2)) p k := by
  simp only [swapR, swapM, List.map_set]
  have e : ∀ i, (R.map (·.2)).getD i [] = (R.getD i (0, [])).2 := fun i => by
    simp only [List.getD_eq_getElem?_getD, List.getElem?_map]
    cases R[i]? <;> rfl
  rw [e, e]
theorem swapR_len {R : List (Nat × List _root_.Rat)} {p k : Nat} : (swapR R p k).length = R.length := by simp [swapR]
theorem swapR_perm {R : List (Nat × List _root_.Rat)} {p k : Nat} (hp : p < R.length) (hk : k < R.length) : (swapR R p k).Perm R := by
  have : swapR R p k = (R.set p R[k]).set k R[p] := by rw [swapR, gd hp, gd hk]
  rw [this]
  exact List.set_set_perm hp hk
theorem app_last {r : List _root_.Rat} {n : Nat} (h : r.length = n + 1) : r.take n ++ [fnL r n] = r := by
  rw [fnL_at (by omega), List.take_append_getElem (by omega)]
  exact List.take_of_length_le (by omega)
theorem swapR_set {R : List (Nat × List _root_.Rat)} {p k : Nat} (hp : p < R.length) (hk : k < R.length) : swapR R p k = (R.set p R[k]).set k R[p] := by rw [swapR, gd hp, gd hk]
theorem swapR_set2 {R : List (Nat × List _root_.Rat)} {p k : Nat} (hp : p < R.length) (hk : k < R.length) : swapR R p k = (R.set k R[p]).set p R[k] := by
  rw [swapR_set hp hk]
  by_cases e : p = k
  · subst e; rfl
  · rw [List.set_comm _ _ e]
end Go.Vs


namespace Go.Vs
/-! ### choices of rows, in order -/
theorem combs_none {α : Type} : ∀ {n : Nat} {l : List α}, l.length < n → combs n l = []
  | 0, _, h => by omega
  | n + 1, [], _ => rfl
  | n + 1, a :: l, h => by
    simp only [List.length_cons] at h
    rw [combs, combs_none (n := n) (by omega), combs_none (n := n + 1) (by omega)]; rfl
theorem combs_map {α β : Type} (f : α → β) : ∀ (n : Nat) (l : List α), combs n (l.map f) = (combs n l).map (·.map f)
  | 0, _ => by simp [combs]
  | n + 1, [] => rfl
  | n + 1, a :: l => by
    rw [List.map_cons, combs, combs, combs_map f n l, combs_map f (n + 1) l, List.map_append, List.map_map, List.map_map]
    rfl
theorem combs_len {α : Type} : ∀ (n : Nat) (l : List α), (combs n l).length ≤ 2 ^ l.length
  | 0, l => by simp [combs, Nat.one_le_two_pow]
  | n + 1, [] => by simp [combs]
  | n + 1, a :: l => by
    have h1 := combs_len n l
    have h2 := combs_len (n + 1) l
    rw [combs, List.length_append, List.length_map, List.length_cons, Nat.pow_succ]
    omega
/-- the numbers from a, below b -/
def rgF (a b : Nat) : List Nat := List.range' a (b - a)
theorem rgF_cons {a b : Nat} (h : a < b) : rgF a b = a :: rgF (a + 1) b := by
  unfold rgF
  obtain ⟨k, hk⟩ : ∃ k, b - a = k + 1 := ⟨b - a - 1, by omega⟩
  rw [hk, List.range'_succ]
  congr 2; omega
theorem rgF_len {a b : Nat} : (rgF a b).length = b - a := by simp [rgF]
theorem rgF_mem {a b x : Nat} (h : x ∈ rgF a b) : a ≤ x ∧ x < b := by
  simp only [rgF, List.mem_range'_1] at h
  omega
theorem combs_rg {n a b : Nat} (h : a < b) : combs (n + 1) (rgF a b) = (combs n (rgF (a + 1) b)).map (a :: ·) ++ combs (n + 1) (rgF (a + 1) b) := by
  rw [rgF_cons h, combs]
theorem combs_end {n a b : Nat} (h : b < a + n) (h0 : 0 < n) : combs n (rgF a b) = [] := combs_none (by rw [rgF_len]; omega)
theorem combs_sub {n a b : Nat} {c : List Nat} (h : c ∈ combs n (rgF a b)) : c.length = n ∧ ∀ x ∈ c, a ≤ x ∧ x < b := by
  obtain ⟨h1, h2⟩ := combs_mem.1 h
  exact ⟨h2, fun x hx => rgF_mem (h1.subset hx)⟩
theorem combs_le {n a b : Nat} (h : b ≤ 9) : (combs n (rgF a b)).length ≤ 512 := by
  have h1 := combs_len n (rgF a b)
  rw [rgF_len] at h1
  have h2 : 2 ^ (b - a) ≤ 2 ^ 9 := Nat.pow_le_pow_right (by omega) (by omega)
  omega
/-- as ints -/
def intsN (c : List Nat) : List Int := c.map Int.ofNat
@[simp] theorem intsN_len (c : List Nat) : (intsN c).length = c.length := by simp [intsN]
theorem intsN_at {c : List Nat} {i : Nat} (h : i < c.length) : (intsN c)[i]'(by simpa using h) = (c[i] : Int) := by simp [intsN]
/-- the rows that are chosen -/
def rowsA (AR : List (List _root_.Rat)) (c : List Nat) : List (List _root_.Rat) := c.map fun i => AR.getD i []
theorem rowsA_len {AR : List (List _root_.Rat)} {c : List Nat} : (rowsA AR c).length = c.length := by simp [rowsA]
theorem rowsA_mem {AR : List (List _root_.Rat)} {c : List Nat} (h : ∀ i ∈ c, i < AR.length) {r : List _root_.Rat} (hr : r ∈ rowsA AR c) : r ∈ AR := by
  obtain ⟨i, hi, rfl⟩ := List.mem_map.1 hr
  exact getD_mem' (h i hi)
theorem rg_all (AR : List (List _root_.Rat)) : (rgF 0 AR.length).map (fun i => AR.getD i []) = AR := by
  apply List.ext_getElem (by simp [rgF])
  intro i h1 h2
  simp [rgF, List.getD, h2]
theorem combs_AR (n : Nat) (AR : List (List _root_.Rat)) : combs n AR = (combs n (rgF 0 AR.length)).map (rowsA AR) := by
  conv => lhs; rw [← rg_all AR]
  rw [combs_map]
  rfl
theorem augR_len {A : List (List _root_.Rat)} {n : Nat} : (augR A n).length = A.length + n := by simp [augR]
theorem augR_lo {A : List (List _root_.Rat)} {n i : Nat} (h : i < A.length) : (augR A n).getD i [] = A[i] ++ [1] := by
  rw [gd (by rw [augR_len]; omega)]
  simp only [augR]
  rw [List.getElem_append_left (by simpa using h)]; simp
theorem augR_hi {A : List (List _root_.Rat)} {n i : Nat} (h : A.length ≤ i) (h2 : i < A.length + n) : (augR A n).getD i [] = unitR n (i - A.length) ++ [0] := by
  rw [gd (by rw [augR_len]; omega)]
  simp only [augR]
  rw [List.getElem_append_right (by simpa using h)]; simp
theorem take_app {r : List _root_.Rat} {n : Nat} {b : _root_.Rat} (h : r.length = n) : (r ++ [b]).take n = r ∧ fnL (r ++ [b]) n = b :=
  ⟨by rw [List.take_append_of_le_length (by omega), List.take_of_length_le (by omega)], (app_get h).2⟩
theorem unitR_len {n j : Nat} : (unitR n j).length = n := by simp [unitR]
/-- what is found when the first rows c are chosen and the others come from a on -/
def foldC (A : List (List _root_.Rat)) (n : Nat) (c : List Nat) (a : Nat) (out : List (List _root_.Rat)) : List (List _root_.Rat) :=
  ((combs (n - c.length) (rgF a (A.length + n))).map fun s => rowsA (augR A n) (c ++ s)).foldl (ptStep A n) out
theorem foldC_full {A : List (List _root_.Rat)} {n : Nat} {c : List Nat} {a : Nat} {out : List (List _root_.Rat)} (h : c.length = n) : foldC A n c a out = ptStep A n out (rowsA (augR A n) c) := by
  unfold foldC
  rw [show n - c.length = 0 by omega]
  simp [combs]
theorem foldC_step {A : List (List _root_.Rat)} {n : Nat} {c : List Nat} {a : Nat} {out : List (List _root_.Rat)} (h : c.length < n) (ha : a < A.length + n) : foldC A n c a out = foldC A n c (a + 1) (foldC A n (c ++ [a]) (a + 1) out) := by
  unfold foldC
  obtain ⟨k, hk⟩ : ∃ k, n - c.length = k + 1 := ⟨n - c.length - 1, by omega⟩
  rw [hk, combs_rg ha, List.map_append, List.foldl_append, List.map_map]
  have e : n - (c ++ [a]).length = k := by simp; omega
  rw [e]
  congr 2
  apply List.map_congr_left
  intro s _
  simp
theorem foldC_end {A : List (List _root_.Rat)} {n : Nat} {c : List Nat} {a : Nat} {out : List (List _root_.Rat)} (h : c.length < n) (ha : A.length + n ≤ a) : foldC A n c a out = out := by
  unfold foldC
  rw [combs_end (by omega) (by omega)]; rfl
theorem foldC_all (A : List (List _root_.Rat)) (n : Nat) : foldC A n [] 0 [] = ptsQ A n := by
  unfold foldC ptsQ
  rw [combs_AR, augR_len]
  simp
theorem ptStep_len {A : List (List _root_.Rat)} {n : Nat} {out M : List (List _root_.Rat)} : (ptStep A n out M).length ≤ out.length + 1 := by
  unfold ptStep
  split
  · split
    · unfold addPt; split <;> simp
    · omega
  · omega
theorem fold_len {A : List (List _root_.Rat)} {n : Nat} : ∀ (l : List (List (List _root_.Rat))) (out : List (List _root_.Rat)), (l.foldl (ptStep A n) out).length ≤ out.length + l.length
  | [], out => by simp
  | M :: l, out => by
    have := fold_len (A := A) (n := n) l (ptStep A n out M)
    have := ptStep_len (A := A) (n := n) (out := out) (M := M)
    simp only [List.foldl_cons, List.length_cons]
    omega
theorem unit_set {n i : Nat} : (List.replicate n (0 : _root_.Rat)).set i 1 = unitR n i := by
  apply List.ext_getElem (by simp [unitR])
  intro k h1 h2
  simp only [List.getElem_set, unitR, List.getElem_map, List.getElem_range, List.getElem_replicate]
  by_cases e : i = k
  · subst e; simp
  · rw [if_neg e, if_neg (Ne.symm e)]
/-- how many choices are left -/
def cntC (A : List (List _root_.Rat)) (n : Nat) (c : List Nat) (a : Nat) : Nat := (combs (n - c.length) (rgF a (A.length + n))).length
theorem cntC_step {A : List (List _root_.Rat)} {n : Nat} {c : List Nat} {a : Nat} (h : c.length < n) (ha : a < A.length + n) : cntC A n c a = cntC A n (c ++ [a]) (a + 1) + cntC A n c (a + 1) := by
  unfold cntC
  obtain ⟨k, hk⟩ : ∃ k, n - c.length = k + 1 := ⟨n - c.length - 1, by omega⟩
  have e : n - (c ++ [a]).length = k := by simp; omega
  rw [hk, combs_rg ha, e]
  simp
theorem foldC_len {A : List (List _root_.Rat)} {n : Nat} {c : List Nat} {a : Nat} {out : List (List _root_.Rat)} : (foldC A n c a out).length ≤ out.length + cntC A n c a := by
  unfold foldC cntC
  have := fold_len (A := A) (n := n) ((combs (n - c.length) (rgF a (A.length + n))).map fun s => rowsA (augR A n) (c ++ s)) out
  simpa using this
theorem cntC_full {A : List (List _root_.Rat)} {n : Nat} {c : List Nat} {a : Nat} (h : c.length = n) : cntC A n c a = 1 := by
  unfold cntC
  rw [show n - c.length = 0 by omega]
  simp [combs]
theorem cntC_all {A : List (List _root_.Rat)} {n : Nat} (h : A.length + n ≤ 9) : cntC A n [] 0 ≤ 512 := by
  unfold cntC
  exact combs_le h
end Go.Vs


namespace Go.Vs
/-! ### the program of a bag; the best vertex -/
theorem pts_sol {A : List (List _root_.Rat)} {n : Nat} (h : LPok A n) : ∀ x ∈ ptsQ A n, SolB n x := fun x hx => by
  obtain ⟨M, h1, h2, h3, _⟩ := pts_mem.1 hx
  have hr : ∀ r ∈ M, r.length = n + 1 := fun r hr => aug_len h.m01 r (h1.subset hr)
  have h01 : ∀ r ∈ M, ∀ q ∈ r, q = 0 ∨ q = 1 := fun r hr => aug_01 h.m01 r (h1.subset hr)
  exact sol_bd h.n4 h2 hr (bd_01 h2 h01) h3
theorem pts_len {A : List (List _root_.Rat)} {n : Nat} (h : LPok A n) : (ptsQ A n).length ≤ 512 := by
  have h1 := h.n4
  have h2 := h.m5
  have := foldC_len (A := A) (n := n) (c := []) (a := 0) (out := [])
  rw [foldC_all] at this
  have := cntC_all (A := A) (n := n) (by omega)
  simp at *
  omega
theorem sum_sm {n : Nat} {x : List _root_.Rat} (hx : SolB n x) (hn : n ≤ 4) : smQ (sumQ x) := by
  rw [← sumQ_eq hx.len]
  exact (one_dots hx hn).ss n (Nat.le_refl _)
/-- the best of the first i -/
def bestT (l : List (List _root_.Rat)) (i : Nat) : Option (List _root_.Rat × _root_.Rat) := (l.take i).foldl bestS none
theorem bestT_zero {l : List (List _root_.Rat)} : bestT l 0 = none := rfl
theorem bestT_succ {l : List (List _root_.Rat)} {i : Nat} (h : i < l.length) : bestT l (i + 1) = bestS (bestT l i) l[i] := by
  rw [bestT, List.take_succ_eq_append_getElem h, List.foldl_append]; rfl
theorem bestT_all {l : List (List _root_.Rat)} : bestT l l.length = bestQ l := by rw [bestT, List.take_of_length_le (Nat.le_refl _)]; rfl
theorem bestT_sum {l : List (List _root_.Rat)} {i : Nat} {p : List _root_.Rat × _root_.Rat} (h : bestT l i = some p) : p.2 = sumQ p.1 ∧ p.1 ∈ l.take i := by
  have := (best_fold (l.take i) none (fun p h => by cases h)).1 p h
  exact ⟨this.1, this.2.1.resolve_right (by simp)⟩
def ptV (b : Option (List _root_.Rat × _root_.Rat)) : D := match b with
  | none => .pl []
  | some p => .pl (p.1.map eQ)
theorem r01_eQ (b : Bool) : eQ (r01 b) = [.int .i64 (if b then 1 else 0), .int .i64 1] := by cases b <;> rfl
/-- a bag of a query -/
theorem bag_facts {q : PQuery} {b : List Int} (hq : queryOk q = true) (hb : bagI q.n b = true) : 1 ≤ b.length ∧ b.length ≤ 5 ∧ 1 ≤ q.atoms.length ∧ q.atoms.length ≤ 4 ∧ covered q.atoms b := by
  simp only [queryOk, Bool.and_eq_true] at hq
  obtain ⟨⟨⟨⟨h1, h2⟩, _⟩, _⟩, h5⟩ := hq
  simp only [bagI, Bool.and_eq_true, decide_eq_true_eq] at hb
  obtain ⟨⟨b1, _⟩, b3⟩ := hb
  simp only [setOf, Bool.and_eq_true, decide_eq_true_eq, List.all_eq_true] at b3
  obtain ⟨b4, b5⟩ := b3
  simp only [inR, Bool.and_eq_true, decide_eq_true_eq] at h1 h2
  have hw : IntKind.i64.wrap (q.n - 1) = q.n - 1 := wrap64_of (by omega) (by omega)
  have hr : ∀ x ∈ b, 0 ≤ x ∧ x < q.n := fun x hx => by
    have := b4 x hx
    simp only [inR, Bool.and_eq_true, decide_eq_true_eq, hw] at this
    omega
  have hlen := nodup_len q.n.toNat b b5 (fun x hx => by have := hr x hx; omega)
  refine ⟨b1, by omega, by omega, by omega, fun v hv => ?_⟩
  have hv2 := hr v hv
  simp only [usesAll, List.all_eq_true, List.mem_range] at h5
  have h6 := h5 v.toNat (by omega)
  rw [show ((v.toNat : Nat) : Int) = v by omega, List.contains_eq_mem, decide_eq_true_eq, varsIn, List.mem_flatMap] at h6
  obtain ⟨a, ha, hva⟩ := h6
  exact ⟨a, ha, hva⟩
theorem bag_lp {q : PQuery} {b : List Int} (hq : queryOk q = true) (hb : bagI q.n b = true) : LPok (covM q.atoms b) q.atoms.length := by
  obtain ⟨h1, h2, h3, h4, h5⟩ := bag_facts hq hb
  exact ⟨covM_01 h5, h3, h4, by simpa [covM] using h1, by simpa [covM] using h2⟩
theorem wid_some {q : PQuery} {b : List Int} (hq : queryOk q = true) (hb : bagI q.n b = true) : ∃ p, minQ (covM q.atoms b) q.atoms.length = some p ∧ p.2 = widQ q.atoms b := by
  obtain ⟨p, h1, h2, _⟩ := wid_min (bag_facts hq hb).2.2.2.2
  exact ⟨p, h1, h2⟩
/-- what BagCoverWidth answers -/
def bcwV (q : PQuery) (b : List Int) : V := if queryOk q && bagI q.n b then .tup [.agg [.d (.int .i64 (widQ q.atoms b).num), .d (.int .i64 ((widQ q.atoms b).den : Int))], .d (.bool true)] else .tup [.agg [.d (.int .i64 0), .d (.int .i64 0)], .d (.bool false)]
end Go.Vs


namespace Go.Vs
/-! ### the width of a decomposition -/
theorem wid_sm {q : PQuery} {b : List Int} (hq : queryOk q = true) (hb : bagI q.n b = true) : smQ (widQ q.atoms b) ∧ 1 ≤ widQ q.atoms b := by
  obtain ⟨p, h1, h2⟩ := wid_some hq hb
  have h := bag_lp hq hb
  obtain ⟨f1, _, _, _, f5⟩ := bag_facts hq hb
  have h3 : p.2 = sumQ p.1 ∧ p.1 ∈ ptsQ (covM q.atoms b) q.atoms.length := by
    have := bestT_sum (l := ptsQ (covM q.atoms b) q.atoms.length) (i := (ptsQ (covM q.atoms b) q.atoms.length).length) (p := p) (by rw [bestT_all]; exact h1)
    rw [List.take_of_length_le (Nat.le_refl _)] at this
    exact this
  refine ⟨?_, wid_one f5 fun e => by rw [e] at f1; simp at f1⟩
  rw [← h2, h3.1]
  exact sum_sm (pts_sol h _ h3.2) h.n4
def mxS (a w : _root_.Rat) : _root_.Rat := if a < w then w else a
/-- the greatest width of the first i bags -/
def mxT (q : PQuery) (l : List (List Int)) (i : Nat) : _root_.Rat := ((l.take i).map (widQ q.atoms)).foldl mxS 0
theorem mxT_zero {q : PQuery} {l : List (List Int)} : mxT q l 0 = 0 := rfl
theorem mxT_succ {q : PQuery} {l : List (List Int)} {i : Nat} (h : i < l.length) : mxT q l (i + 1) = mxS (mxT q l i) (widQ q.atoms l[i]) := by
  rw [mxT, List.take_succ_eq_append_getElem h, List.map_append, List.foldl_append]; rfl
theorem mxT_sm {q : PQuery} {l : List (List Int)} (h : ∀ b ∈ l, smQ (widQ q.atoms b)) : ∀ i, i ≤ l.length → smQ (mxT q l i)
  | 0, _ => sm_zero
  | i + 1, hi => by
    rw [mxT_succ (by omega), mxS]
    split
    · exact h _ (List.getElem_mem _)
    · exact mxT_sm h i (by omega)
def decW (q : PQuery) (d : PDec) : _root_.Rat := mxT q d.bags d.bags.length
theorem dec_facts {q : PQuery} {d : PDec} (h : decOk q d = true) : queryOk q = true ∧ ∀ b ∈ d.bags, bagI q.n b = true := by
  simp only [decOk, Bool.and_eq_true, List.all_eq_true] at h
  exact ⟨h.1.1.1.1.1, h.1.1.2⟩
theorem dec_n1 {q : PQuery} (h : queryOk q = true) : 1 ≤ q.n ∧ q.n ≤ 5 := by
  simp only [queryOk, Bool.and_eq_true] at h
  obtain ⟨⟨⟨⟨h1, _⟩, _⟩, _⟩, _⟩ := h
  simp only [inR, Bool.and_eq_true, decide_eq_true_eq] at h1
  exact h1
def dwV (q : PQuery) (d : PDec) : V := if decOk q d then .tup [.agg [.d (.int .i64 (decW q d).num), .d (.int .i64 ((decW q d).den : Int))], .d (.bool true)] else .tup [.agg [.d (.int .i64 0), .d (.int .i64 0)], .d (.bool false)]
theorem mx_cmp {a w : _root_.Rat} : mxS a w = if 0 < cmpQ w a then w else a := by
  unfold mxS
  by_cases h : a < w
  · rw [if_pos h, if_pos (cmpQ_gt.2 h)]
  · rw [if_neg h, if_neg fun e => h (cmpQ_gt.1 e)]
end Go.Vs


namespace Go.Vs
/-! ### the decomposition of an order is one of the query -/
theorem fst_some {o l : List Int} : ∀ (m k r : Nat), fstIn o l m k = some r → k ≤ r ∧ r < k + m ∧ o.getD r 0 ∈ l ∧ ∀ j, k ≤ j → j < r → o.getD j 0 ∉ l
  | 0, _, _, h => by simp [fstIn] at h
  | m + 1, k, r, h => by
    simp only [fstIn] at h
    by_cases hc : l.contains (o.getD k 0) = true
    · rw [if_pos hc] at h
      obtain rfl := Option.some.inj h
      exact ⟨Nat.le_refl _, by omega, by simpa using hc, fun j h1 h2 => by omega⟩
    · rw [if_neg hc] at h
      obtain ⟨h1, h2, h3, h4⟩ := fst_some m (k + 1) r h
      refine ⟨by omega, by omega, h3, fun j h5 h6 => ?_⟩
      by_cases he : j = k
      · subst he; simpa using hc
      · exact h4 j (by omega) h6
theorem fst_none {o l : List Int} : ∀ (m k : Nat), fstIn o l m k = none → ∀ j, k ≤ j → j < k + m → o.getD j 0 ∉ l
  | 0, _, _, j, h1, h2 => by omega
  | m + 1, k, h, j, h1, h2 => by
    simp only [fstIn] at h
    by_cases hc : l.contains (o.getD k 0) = true
    · rw [if_pos hc] at h; cases h
    · rw [if_neg hc] at h
      by_cases he : j = k
      · subst he; simpa using hc
      · exact fst_none m (k + 1) h j (by omega) (by omega)
theorem up_facts (q : PQuery) (o : List Int) {i : Nat} (hi : i < o.length) : (i + 1 = o.length ∧ dcUp q o i = -1) ∨
    ∃ j : Nat, dcUp q o i = j ∧ i < j ∧ j < o.length ∧ i + 1 < o.length ∧ ∀ k, i < k → k < o.length → o.getD k 0 ∈ dcBag q o i → o.getD j 0 ∈ dcBag q o i ∧ j ≤ k := by
  by_cases he : i + 1 = o.length
  · exact .inl ⟨he, by rw [dcUp, if_pos he]⟩
  · refine .inr ?_
    cases hf : fstIn o (dcBag q o i) (o.length - (i + 1)) (i + 1) with
    | none =>
      refine ⟨i + 1, by rw [dcUp, if_neg he, hf]; rfl, by omega, by omega, by omega, fun k h1 h2 h3 => ?_⟩
      exact absurd h3 (fst_none _ _ hf k (by omega) (by omega))
    | some r =>
      obtain ⟨h1, h2, h3, h4⟩ := fst_some _ _ _ hf
      refine ⟨r, by rw [dcUp, if_neg he, hf], by omega, by omega, by omega, fun k h5 h6 h7 => ⟨h3, ?_⟩⟩
      refine Nat.le_of_not_lt fun hlt => ?_
      exact h4 k (by omega) hlt h7
def upsL (q : PQuery) (o : List Int) : List Int := (List.range o.length).map (dcUp q o)
def bagsL (q : PQuery) (o : List Int) : List (List Int) := (List.range o.length).map (dcBag q o)
theorem ups_len (q : PQuery) (o : List Int) : (upsL q o).length = o.length := by simp [upsL]
theorem ups_at (q : PQuery) (o : List Int) {i : Nat} (hi : i < o.length) : (upsL q o).getD i 0 = dcUp q o i := by
  simp [upsL, List.getD_eq_getElem?_getD, hi]
theorem bags_at (q : PQuery) (o : List Int) {i : Nat} (hi : i < o.length) : (bagsL q o).getD i [] = dcBag q o i := by
  simp [bagsL, List.getD_eq_getElem?_getD, hi]
theorem up_in (q : PQuery) (o : List Int) {i : Nat} (hi : i < o.length) : inR (dcUp q o i) (-1) (((upsL q o).length : Int) - 1) = true := by
  rw [ups_len]
  simp only [inR, Bool.and_eq_true, decide_eq_true_eq]
  rcases up_facts q o hi with ⟨h1, h2⟩ | ⟨j, h1, h2, h3, _, _⟩
  · omega
  · omega
theorem up_end (q : PQuery) (o : List Int) : ∀ (m i : Nat), i < o.length → o.length - i < m → endNeg (upI (upsL q o) m (i : Int)) = true
  | 0, i, _, h => by omega
  | m + 1, i, hi, h => by
    have hx : nxP (upsL q o) (i : Int) = dcUp q o i := by rw [nxP]; simpa using ups_at q o hi
    rw [upI, if_neg (by omega), hx, if_pos (up_in q o hi)]
    rcases up_facts q o hi with ⟨h1, h2⟩ | ⟨j, h1, h2, h3, _, _⟩
    · rw [h2]
      obtain ⟨m, rfl⟩ : ∃ k, m = k + 1 := ⟨m - 1, by omega⟩
      rfl
    · rw [h1]
      exact up_end q o m j h3 (by omega)
theorem up_tree (q : PQuery) (o : List Int) (h : 0 < o.length) : treeB (upsL q o) = true := by
  simp only [treeB, Bool.and_eq_true, List.all_eq_true, List.mem_range, decide_eq_true_eq]
  refine ⟨fun i hi => ?_, ?_⟩
  · rw [ups_len] at hi
    have hx : nxP (upsL q o) (i : Int) = dcUp q o i := by rw [nxP]; simpa using ups_at q o hi
    simp only [treeAt, Bool.and_eq_true]
    exact ⟨by rw [hx]; exact up_in q o hi, up_end q o _ i hi (by rw [ups_len]; omega)⟩
  · obtain ⟨n, hn⟩ : ∃ k, o.length = k + 1 := ⟨o.length - 1, by omega⟩
    rw [rootsN, upsL, hn, List.range_succ, List.map_append, List.filter_append, List.length_append]
    have h1 : (List.map (dcUp q o) (List.range n)).filter (fun p => decide (p < 0)) = [] := by
      rw [List.filter_eq_nil_iff]
      intro a ha
      obtain ⟨i, hi, rfl⟩ := List.mem_map.1 ha
      have hi := List.mem_range.1 hi
      rcases up_facts q o (i := i) (by omega) with ⟨h1, h2⟩ | ⟨j, h1, h2, h3, _, _⟩
      · omega
      · simp [h1]
    have h2 : dcUp q o n = -1 := by rw [dcUp, if_pos (by omega)]
    rw [h1]
    simp [h2]
theorem dcM_mono (q : PQuery) (o : List Int) (a b : Int) {i : Nat} : ∀ {j : Nat}, i ≤ j → dcM q o i a b = true → dcM q o j a b = true
  | 0, h, e => by rw [Nat.le_zero.1 h] at e; exact e
  | j + 1, h, e => by
    by_cases he : i = j + 1
    · rw [← he]; exact e
    · rw [dcM_succ, dcM_mono q o a b (by omega) e]; rfl
theorem pw_asc {b : List Int} (h : b.Pairwise (· < ·)) : ascB b = true := by
  simp only [ascB, List.all_eq_true, List.mem_range]
  intro i hi
  simp only [ascAt, Bool.or_eq_true, decide_eq_true_eq]
  by_cases h0 : i = 0
  · exact .inl h0
  · refine .inr ?_
    rw [getD_el _ hi, getD_el _ (show i - 1 < b.length by omega)]
    exact List.pairwise_iff_getElem.1 h (i - 1) i (by omega) hi (by omega)
theorem dcBag_ok {q : PQuery} {o : List Int} (h : Od q o) {i : Nat} (hi : i < o.length) : bagI q.n (dcBag q o i) = true := by
  have h5 := h.n5
  simp only [bagI, Bool.and_eq_true, decide_eq_true_eq]
  refine ⟨⟨?_, pw_asc filter_pw⟩, ?_⟩
  · have : o[i] ∈ dcBag q o i := (bag_mem h hi _).2 (.inl rfl)
    exact List.length_pos_of_mem this
  · simp only [setOf, Bool.and_eq_true, List.all_eq_true, decide_eq_true_eq]
    refine ⟨fun x hx => ?_, pw_nodup filter_pw⟩
    have := rangeI_mem.1 (List.mem_filter.1 hx).1
    rw [wrap64_of (by omega) (by omega)]
    simp only [inR, Bool.and_eq_true, decide_eq_true_eq]
    omega
theorem least (P : Nat → Prop) : ∀ n, P n → ∃ i, P i ∧ i ≤ n ∧ ∀ k, k < i → ¬ P k := by
  intro n
  induction n using Nat.strongRecOn with
  | ind n ih =>
    intro hn
    by_cases hk : ∃ k, k < n ∧ P k
    · obtain ⟨k, h1, h2⟩ := hk
      obtain ⟨i, h3, h4, h5⟩ := ih k h1 h2
      exact ⟨i, h3, by omega, h5⟩
    · exact ⟨n, hn, Nat.le_refl _, fun k h1 h2 => hk ⟨k, h1, h2⟩⟩
theorem dc_cover {q : PQuery} {o : List Int} (h : Od q o) {a : PAtom} (ha : a ∈ q.atoms) : anyIn (bagsL q o) a = true := by
  have h5 := h.n5
  have hao : atomOk q.n a = true := by
    have := h.qok
    simp only [queryOk, Bool.and_eq_true, List.all_eq_true] at this
    exact this.1.2 a ha
  have hlen : 0 < o.length := by have := h.len; omega
  have hrg := fun w hw => atom_in h.qok a ha w hw
  have key : ∃ i, i < o.length ∧ insD a (dcBag q o i) = true := by
    by_cases hv : a.vars = []
    · exact ⟨0, hlen, by simp [insD, hv]⟩
    · obtain ⟨v, hv⟩ := List.exists_mem_of_ne_nil _ hv
      obtain ⟨p, hp, hpv⟩ := List.mem_iff_getElem.1 (h.all (hrg v hv).1 (hrg v hv).2)
      obtain ⟨i, h1, h2, h3⟩ := least (fun k => o.getD k 0 ∈ a.vars) p (by show _ ∈ _; rw [getD_el _ hp, hpv]; exact hv)
      have hi : i < o.length := by omega
      rw [getD_el _ hi] at h1
      refine ⟨i, hi, ?_⟩
      simp only [insD, List.all_eq_true, List.contains_iff_mem]
      intro w hw
      rw [bag_mem h hi, lat_mem h hi]
      by_cases he : w = o[i]
      · exact .inl he
      · refine .inr ⟨(hrg w hw).1, (hrg w hw).2, dcM_mono q o _ _ (Nat.zero_le i) ?_, fun ht => ?_⟩
        · show nbrB q o[i] w = true
          simp only [nbrB, Bool.and_eq_true, Bool.not_eq_true', decide_eq_false_iff_not, List.any_eq_true, List.contains_iff_mem]
          exact ⟨he, a, ha, h1, hw⟩
        · obtain ⟨k, hk, hkw⟩ := List.mem_iff_getElem.1 ht
          rw [List.length_take] at hk
          rw [List.getElem_take] at hkw
          have := h3 k (by omega)
          rw [getD_el _ (by omega), hkw] at this
          exact this hw
  obtain ⟨i, hi, hb⟩ := key
  simp only [anyIn, List.any_eq_true]
  exact ⟨dcBag q o i, List.mem_map.2 ⟨i, List.mem_range.2 hi, rfl⟩, by rw [inAB_eq h5 hao]; exact hb⟩
theorem one_len (p : Nat) : ∀ n, ((List.range n).filter fun i => decide (i = p)).length = if p < n then 1 else 0
  | 0 => by simp
  | n + 1 => by
    rw [List.range_succ, List.filter_append, List.length_append, one_len p n]
    by_cases h : n = p
    · subst h; simp
    · by_cases h2 : p < n
      · simp [h, h2]; omega
      · simp [h, h2]; omega
theorem take_lt {o : List Int} (h : o.Nodup) {p i : Nat} (hp : p < o.length) : o[p] ∈ o.take i ↔ p < i := by
  constructor
  · intro hm
    obtain ⟨k, hk, e⟩ := List.mem_iff_getElem.1 hm
    rw [List.length_take] at hk
    rw [List.getElem_take] at e
    have := nodup_inj h (by omega) hp e
    omega
  · intro hlt
    exact List.mem_iff_getElem.2 ⟨p, by rw [List.length_take]; omega, List.getElem_take⟩
theorem dc_top {q : PQuery} {o : List Int} (h : Od q o) {p : Nat} (hp : p < o.length) {i : Nat} (hi : i < o.length) : topIs (bagsL q o) (upsL q o) o[p] i = decide (i = p) := by
  have hrp := h.rng _ (List.getElem_mem hp)
  rw [topIs, bags_at q o hi, ups_at q o hi]
  by_cases he : i = p
  · subst he
    rw [decide_eq_true rfl, Bool.and_eq_true, List.contains_iff_mem, Bool.or_eq_true, decide_eq_true_eq]
    refine ⟨(bag_mem h hi _).2 (.inl rfl), ?_⟩
    rcases up_facts q o hi with ⟨_, h2⟩ | ⟨j, h1, h2, h3, _, _⟩
    · exact .inl (by omega)
    · refine .inr ?_
      rw [h1, Int.toNat_natCast, bags_at q o h3, Bool.not_eq_true', ← Bool.not_eq_true, List.contains_iff_mem, bag_mem h h3, lat_mem h h3]
      rintro (e | ⟨_, _, _, e⟩)
      · have := nodup_inj h.nd hi h3 e; omega
      · exact e ((take_lt h.nd hi).2 h2)
  · rw [decide_eq_false he]
    by_cases hb : o[p] ∈ dcBag q o i
    · have hlt : i < p := by
        rcases (bag_mem h hi _).1 hb with e | e
        · exact absurd (nodup_inj h.nd hp hi e).symm he
        · have := ((lat_mem h hi _).1 e).2.2.2
          rw [take_lt h.nd hp] at this
          omega
      rcases up_facts q o hi with ⟨h1, h2⟩ | ⟨j, h1, h2, h3, _, h6⟩
      · omega
      · obtain ⟨h7, h8⟩ := h6 p hlt hp (by rw [getD_el _ hp]; exact hb)
        rw [getD_el _ h3] at h7
        have : o[p] ∈ dcBag q o j := by
          rw [bag_mem h h3, lat_mem h h3]
          by_cases e : j = p
          · subst e; exact .inl rfl
          · have hne : ¬ o[j] = o[p] := fun e' => e (nodup_inj h.nd h3 hp e')
            refine .inr ⟨hrp.1, hrp.2, dcM_mono q o _ _ (show i + 1 ≤ j by omega) ?_, by rw [take_lt h.nd hp]; omega⟩
            rw [dcM_succ]
            have hj := h.rng _ (List.getElem_mem h3)
            have e1 := (dcI_iff h hi hj.1 hj.2).2 ((bag_mem h hi _).1 h7)
            have e2 := (dcI_iff h hi hrp.1 hrp.2).2 ((bag_mem h hi _).1 hb)
            rw [e1, e2, decide_eq_false hne]
            simp
        rw [h1, Int.toNat_natCast, bags_at q o h3]
        simp [this]
    · simp [hb]
theorem dc_ok {q : PQuery} {o : List Int} (h : ordOk q o = true) : decOk q (dcP q o) = true := by
  have hd := od_of h
  have hlen : 0 < o.length := by have := hd.len; have := hd.n5; omega
  have hdc : dcP q o = ⟨bagsL q o, upsL q o⟩ := by rw [dcP, if_pos h]; rfl
  rw [hdc]
  simp only [decOk, Bool.and_eq_true, decide_eq_true_eq, List.all_eq_true, List.mem_range]
  refine ⟨⟨⟨⟨⟨hd.qok, by simp [bagsL, upsL]⟩, up_tree q o hlen⟩, fun b hb => ?_⟩, fun a ha => dc_cover hd ha⟩, fun v hv => ?_⟩
  · obtain ⟨i, hi, rfl⟩ := List.mem_map.1 hb
    exact dcBag_ok hd (List.mem_range.1 hi)
  · obtain ⟨p, hp, e⟩ := List.mem_iff_getElem.1 (hd.all (v := (v : Int)) (by omega) (by have := hd.n5; omega))
    have hbl : (bagsL q o).length = o.length := by simp [bagsL]
    rw [topN, hbl, ← e, List.filter_congr (q := fun i => decide (i = p)) fun i hi => dc_top hd hp (List.mem_range.1 hi), one_len, if_pos hp]
end Go.Vs


namespace Go.Vs
/-! ### all the orders of a query -/
def frO (n : Nat) (p : List Int) : List Int := (rangeI n).filter fun v => !p.contains v
def extO (n : Nat) (p : List Int) : List (List Int) := (frO n p).map fun v => p ++ [v]
def levO (n : Nat) : Nat → List (List Int)
  | 0 => [[]]
  | k + 1 => (levO n k).flatMap (extO n)
def moreO (n : Nat) : Nat → List Int → List (List Int)
  | 0, p => [p]
  | k + 1, p => (frO n p).flatMap fun v => moreO n k (p ++ [v])
theorem moreO_snoc (n : Nat) : ∀ (k : Nat) (p : List Int), moreO n (k + 1) p = (moreO n k p).flatMap (extO n)
  | 0, p => by
    simp only [moreO, List.flatMap_singleton, extO]
    exact List.map_eq_flatMap.symm
  | k + 1, p => by
    rw [moreO]
    have : (fun v => moreO n (k + 1) (p ++ [v])) = fun v => (moreO n k (p ++ [v])).flatMap (extO n) := funext fun v => moreO_snoc n k (p ++ [v])
    rw [this, ← List.flatMap_assoc]
    rfl
theorem levO_eq (n : Nat) : ∀ k, levO n k = moreO n k []
  | 0 => rfl
  | k + 1 => by rw [levO, levO_eq n k, moreO_snoc]
def allO (q : PQuery) : List (List Int) := if queryOk q then levO q.n.toNat q.n.toNat else []
theorem fr_le (n : Nat) (p : List Int) : (frO n p).length ≤ n := by
  have := List.length_filter_le (fun v => !p.contains v) (rangeI n)
  rw [rangeI_len] at this
  exact this
theorem flat_le {α β : Type} {f : α → List β} {c : Nat} (h : ∀ x, (f x).length ≤ c) : ∀ l : List α, (l.flatMap f).length ≤ c * l.length
  | [] => by simp
  | a :: r => by
    have h1 := flat_le h r
    have h2 := h a
    simp only [List.flatMap_cons, List.length_append, List.length_cons, Nat.mul_add, Nat.mul_one]
    omega
theorem ext_le {n : Nat} (hn : n ≤ 5) (p : List Int) : (extO n p).length ≤ 5 := by
  have := fr_le n p
  simp only [extO, List.length_map]; omega
theorem lev_le {n : Nat} (hn : n ≤ 5) : ∀ k, (levO n k).length ≤ 5 ^ k
  | 0 => by simp [levO]
  | k + 1 => by
    have h1 := flat_le (ext_le hn) (levO n k)
    have h2 := lev_le hn k
    rw [levO, Nat.pow_succ]
    omega
theorem more_le {n : Nat} (hn : n ≤ 5) : ∀ k p, (moreO n k p).length ≤ 5 ^ k
  | 0, p => by simp [moreO]
  | k + 1, p => by
    have h1 := flat_le (f := fun v => moreO n k (p ++ [v])) (fun v => more_le hn k (p ++ [v])) (frO n p)
    have h2 := fr_le n p
    rw [moreO, Nat.pow_succ]
    refine Nat.le_trans h1 ?_
    exact Nat.mul_le_mul_left _ (by omega)
theorem pow5 {k : Nat} (h : k ≤ 5) : 5 ^ k ≤ 3125 := by
  have := Nat.pow_le_pow_right (n := 5) (by omega) h
  omega
theorem pow4 {k : Nat} (h : k ≤ 4) : 5 ^ k ≤ 625 := by
  have := Nat.pow_le_pow_right (n := 5) (by omega) h
  omega
/-- what stands in the list when i of the values were tried behind p -/
def exP (p : List Int) (i : Nat) : List (List Int) := extO i p
theorem ex_zero (p : List Int) : exP p 0 = [] := rfl
theorem ex_succ (p : List Int) (i : Nat) : exP p (i + 1) = exP p i ++ if p.contains (i : Int) then [] else [p ++ [(i : Int)]] := by
  simp only [exP, extO, frO, rangeI_succ, List.filter_append, List.map_append]
  congr 1
  by_cases h : (i : Int) ∈ p <;> simp [h]
theorem ex_le {p : List Int} {i : Nat} (h : i ≤ 5) : (exP p i).length ≤ 5 := ext_le h p
def lvI (n : Nat) (L : List (List Int)) (j : Nat) : List (List Int) := (L.take j).flatMap (extO n)
theorem lv_zero (n : Nat) (L : List (List Int)) : lvI n L 0 = [] := rfl
theorem lv_succ (n : Nat) {L : List (List Int)} {j : Nat} (h : j < L.length) : lvI n L (j + 1) = lvI n L j ++ exP L[j] n := by
  rw [lvI, List.take_succ_eq_append_getElem h, List.flatMap_append]
  simp [lvI, exP]
theorem lv_all (n k : Nat) : lvI n (levO n k) (levO n k).length = levO n (k + 1) := by rw [lvI, List.take_length]; rfl
theorem lv_le {n : Nat} (hn : n ≤ 5) (L : List (List Int)) (j : Nat) : (lvI n L j).length ≤ 5 * L.length := by
  have h1 := flat_le (ext_le hn) (L.take j)
  rw [List.length_take] at h1
  simp only [lvI]; omega
def mrI (n k : Nat) (p : List Int) (i : Nat) : List (List Int) := (frO i p).flatMap fun v => moreO n k (p ++ [v])
theorem mr_zero (n k : Nat) (p : List Int) : mrI n k p 0 = [] := rfl
theorem mr_succ (n k : Nat) (p : List Int) (i : Nat) : mrI n k p (i + 1) = mrI n k p i ++ if p.contains (i : Int) then [] else moreO n k (p ++ [(i : Int)]) := by
  simp only [mrI, frO, rangeI_succ, List.filter_append, List.flatMap_append]
  congr 1
  by_cases h : (i : Int) ∈ p <;> simp [h]
theorem mr_all (n k : Nat) (p : List Int) : mrI n k p n = moreO n (k + 1) p := rfl
theorem mr_le {n k i : Nat} (hn : n ≤ 5) (hi : i ≤ n) (p : List Int) : (mrI n k p i).length ≤ 5 ^ k * 5 := by
  have h1 := flat_le (f := fun v => moreO n k (p ++ [v])) (fun v => more_le hn k (p ++ [v])) (frO i p)
  have h2 := fr_le i p
  refine Nat.le_trans h1 (Nat.mul_le_mul_left _ (by omega))
theorem lev_mem {n : Nat} : ∀ {k : Nat} {o : List Int}, o ∈ levO n k → o.length = k ∧ o.Nodup ∧ ∀ v ∈ o, 0 ≤ v ∧ v < n
  | 0, o, h => by
    simp only [levO, List.mem_singleton] at h
    subst h; simp
  | k + 1, o, h => by
    simp only [levO, List.mem_flatMap, extO, List.mem_map, frO, List.mem_filter, rangeI_mem] at h
    obtain ⟨p, hp, v, ⟨hv, hc⟩, rfl⟩ := h
    obtain ⟨h1, h2, h3⟩ := lev_mem hp
    refine ⟨by simp [h1], ?_, fun x hx => ?_⟩
    · rw [List.nodup_append]
      refine ⟨h2, by simp, fun a ha b hb e => ?_⟩
      rw [List.mem_singleton] at hb
      subst hb; subst e
      simp at hc
      exact hc ha
    · rcases List.mem_append.1 hx with hx | hx
      · exact h3 x hx
      · rw [List.mem_singleton] at hx
        subst hx; exact hv
theorem allO_ok {q : PQuery} {o : List Int} (h : o ∈ allO q) : ordOk q o = true := by
  rw [allO] at h
  split at h
  · rename_i hq
    have h5 := dec_n1 hq
    obtain ⟨h1, h2, h3⟩ := lev_mem h
    simp only [ordOk, Bool.and_eq_true, decide_eq_true_eq, setOf, List.all_eq_true]
    refine ⟨⟨hq, by omega⟩, fun x hx => ?_, h2⟩
    have := h3 x hx
    rw [wrap64_of (by omega) (by omega)]
    simp only [inR, Bool.and_eq_true, decide_eq_true_eq]
    omega
  · cases h
theorem allO_len (q : PQuery) : (allO q).length ≤ 3125 := by
  rw [allO]
  split
  · rename_i hq
    have h5 := dec_n1 hq
    exact Nat.le_trans (lev_le (by omega) _) (pow5 (by omega))
  · simp
/-! ### the best of them -/
def bdS (q : PQuery) (s : Option (List Int)) (o : List Int) : Option (List Int) := match s with
  | none => some o
  | some c => if decW q (dcP q o) < decW q (dcP q c) then some o else some c
def bdT (q : PQuery) (i : Nat) : Option (List Int) := ((allO q).take i).foldl (bdS q) none
theorem bdT_zero (q : PQuery) : bdT q 0 = none := rfl
theorem bdT_succ {q : PQuery} {i : Nat} (h : i < (allO q).length) : bdT q (i + 1) = bdS q (bdT q i) (allO q)[i] := by
  rw [bdT, List.take_succ_eq_append_getElem h, List.foldl_append]; rfl
theorem bdT_mem {q : PQuery} : ∀ {i : Nat} {o : List Int}, i ≤ (allO q).length → bdT q i = some o → o ∈ allO q
  | 0, _, _, h => by cases h
  | i + 1, o, hi, h => by
    rw [bdT_succ (by omega)] at h
    cases hb : bdT q i with
    | none => rw [hb] at h; simp only [bdS, Option.some.injEq] at h; subst h; exact List.getElem_mem _
    | some c =>
      rw [hb] at h
      simp only [bdS] at h
      split at h
      · obtain rfl := Option.some.inj h; exact List.getElem_mem _
      · obtain rfl := Option.some.inj h; exact bdT_mem (by omega) hb
def bdD (q : PQuery) : Option (List Int) → PDec
  | none => ⟨[], []⟩
  | some o => dcP q o
def bdR (q : PQuery) : Option (List Int) → List V
  | none => [.d (.int .i64 0), .d (.int .i64 0)]
  | some o => [.d (.int .i64 (decW q (dcP q o)).num), .d (.int .i64 ((decW q (dcP q o)).den : Int))]
def bdO (s : Option (List Int)) : Bool := s.isSome
def bdEnd (q : PQuery) : Option (List Int) := bdT q (allO q).length
theorem dec_bags {q : PQuery} {o : List Int} (h : ordOk q o = true) : (∀ b ∈ (dcP q o).bags, bagI q.n b = true) ∧ (dcP q o).bags.length = o.length ∧ (dcP q o).par.length = o.length ∧ 0 < o.length ∧ o.length ≤ 5 := by
  have hd := od_of h
  have h1 := (dec_facts (dc_ok h)).2
  have h2 := hd.len
  have h3 := hd.n5
  refine ⟨h1, ?_, ?_, by omega, by omega⟩ <;> simp [dcP, h]
theorem decW_sm {q : PQuery} {o : List Int} (h : ordOk q o = true) : smQ (decW q (dcP q o)) := by
  have hd := od_of h
  exact mxT_sm (fun b hb => (wid_sm hd.qok ((dec_bags h).1 b hb)).1) _ (Nat.le_refl _)
theorem dwV_ok {q : PQuery} {o : List Int} (h : ordOk q o = true) : dwV q (dcP q o) = .tup [.agg [.d (.int .i64 (decW q (dcP q o)).num), .d (.int .i64 ((decW q (dcP q o)).den : Int))], .d (.bool true)] := by
  rw [dwV, if_pos (dc_ok h)]
theorem bdS_cmp {q : PQuery} {o c : List Int} : bdS q (some c) o = if cmpQ (decW q (dcP q o)) (decW q (dcP q c)) < 0 then some o else some c := by
  simp only [bdS]
  by_cases h : decW q (dcP q o) < decW q (dcP q c)
  · rw [if_pos h, if_pos (cmpQ_lt.2 h)]
  · rw [if_neg h, if_neg fun e => h (cmpQ_lt.1 e)]
/-! ### the reference's widths, kept by the bags' letters -/
def mkN (b : List Int) (k : Nat) : Int := ((b.take k).map fun v => (2 : Int) ^ v.toNat).sum
theorem mk_zero (b : List Int) : mkN b 0 = 0 := rfl
theorem mk_succ {b : List Int} {k : Nat} (h : k < b.length) : mkN b (k + 1) = mkN b k + 2 ^ b[k].toNat := by
  rw [mkN, List.take_succ_eq_append_getElem h, List.map_append, List.sum_append, mkN]
  simp only [List.map_cons, List.map_nil, List.sum_cons, List.sum_nil, Int.add_zero]
theorem bag_fil {n : Int} (hn : 1 ≤ n ∧ n ≤ 5) {b : List Int} (h : bagI n b = true) : b = (rangeI 5).filter fun v => b.contains v := by
  simp only [bagI, Bool.and_eq_true, setOf, List.all_eq_true] at h
  refine pw_ext (asc_pw h.1.2) filter_pw fun x => ?_
  rw [List.mem_filter, rangeI_mem, List.contains_iff_mem]
  refine ⟨fun hx => ⟨?_, hx⟩, fun e => e.2⟩
  have h1 := h.2.1 x hx
  rw [wrap64_of (by omega) (by omega)] at h1
  simp only [inR, Bool.and_eq_true, decide_eq_true_eq] at h1
  omega
def bI (b : Bool) : Int := if b then 1 else 0
theorem bI_r (b : Bool) : 0 ≤ bI b ∧ bI b ≤ 1 := by cases b <;> simp [bI]
theorem bI_inj {a b : Bool} (h : bI a = bI b) : a = b := by cases a <;> cases b <;> simp [bI] at h ⊢
theorem mk_fil (c : Int → Bool) : mkN ((rangeI 5).filter c) ((rangeI 5).filter c).length = bI (c 0) + 2 * bI (c 1) + 4 * bI (c 2) + 8 * bI (c 3) + 16 * bI (c 4) := by
  have e : rangeI 5 = [0, 1, 2, 3, 4] := rfl
  rw [e, mkN, List.take_length]
  cases h0 : c 0 <;> cases h1 : c 1 <;> cases h2 : c 2 <;> cases h3 : c 3 <;> cases h4 : c 4 <;> simp [h0, h1, h2, h3, h4, bI]
def mkB (b : List Int) : Int := mkN b b.length
theorem mkB_eq {n : Int} (hn : 1 ≤ n ∧ n ≤ 5) {b : List Int} (h : bagI n b = true) : mkB b = bI (b.contains 0) + 2 * bI (b.contains 1) + 4 * bI (b.contains 2) + 8 * bI (b.contains 3) + 16 * bI (b.contains 4) := by
  have := mk_fil fun v => b.contains v
  rw [← bag_fil hn h] at this
  exact this
theorem mkB_inj {n : Int} (hn : 1 ≤ n ∧ n ≤ 5) {b c : List Int} (h : bagI n b = true) (g : bagI n c = true) (e : mkB b = mkB c) : b = c := by
  rw [mkB_eq hn h, mkB_eq hn g] at e
  have b0 := bI_r (b.contains 0); have b1 := bI_r (b.contains 1); have b2 := bI_r (b.contains 2); have b3 := bI_r (b.contains 3); have b4 := bI_r (b.contains 4)
  have c0 := bI_r (c.contains 0); have c1 := bI_r (c.contains 1); have c2 := bI_r (c.contains 2); have c3 := bI_r (c.contains 3); have c4 := bI_r (c.contains 4)
  have d0 := bI_inj (a := b.contains 0) (b := c.contains 0) (by omega)
  have d1 := bI_inj (a := b.contains 1) (b := c.contains 1) (by omega)
  have d2 := bI_inj (a := b.contains 2) (b := c.contains 2) (by omega)
  have d3 := bI_inj (a := b.contains 3) (b := c.contains 3) (by omega)
  have d4 := bI_inj (a := b.contains 4) (b := c.contains 4) (by omega)
  rw [bag_fil hn h, bag_fil hn g]
  refine List.filter_congr fun v hv => ?_
  have e5 : rangeI 5 = [0, 1, 2, 3, 4] := rfl
  rw [e5] at hv
  simp only [List.mem_cons, List.not_mem_nil, or_false] at hv
  rcases hv with rfl | rfl | rfl | rfl | rfl <;> assumption
theorem mkB_r {n : Int} (hn : 1 ≤ n ∧ n ≤ 5) {b : List Int} (h : bagI n b = true) : 0 ≤ mkB b ∧ mkB b < 32 := by
  rw [mkB_eq hn h]
  have b0 := bI_r (b.contains 0); have b1 := bI_r (b.contains 1); have b2 := bI_r (b.contains 2); have b3 := bI_r (b.contains 3); have b4 := bI_r (b.contains 4)
  omega
theorem pow2_pos (k : Nat) : (0 : Int) < 2 ^ k := Int.pow_pos (by decide)
theorem mk_nn (b : List Int) : ∀ k, k ≤ b.length → 0 ≤ mkN b k
  | 0, _ => by rw [mk_zero]; exact Int.le_refl _
  | k + 1, h => by
    rw [mk_succ (by omega)]
    have := mk_nn b k (by omega)
    have := pow2_pos b[k].toNat
    omega
theorem mk_mono (b : List Int) {k : Nat} : ∀ d, k + d = b.length → mkN b k ≤ mkB b
  | 0, h => by rw [mkB, ← h]; exact Int.le_refl _
  | d + 1, h => by
    have h1 := mk_mono b (k := k + 1) d (by omega)
    rw [mk_succ (by omega)] at h1
    have := pow2_pos b[k].toNat
    omega
def KnOk (q : PQuery) (kn : List (Option _root_.Rat)) : Prop := kn.length = 32 ∧ ∀ (i : Nat) (w : _root_.Rat), kn[i]? = some (some w) → ∀ b, bagI q.n b = true → mkB b = i → widQ q.atoms b = w
theorem kn_zero (q : PQuery) : KnOk q (List.replicate 32 none) := by
  refine ⟨by simp, fun i w h => ?_⟩
  rw [List.getElem?_replicate] at h
  split at h <;> simp at h
theorem kn_set {q : PQuery} (hq : queryOk q = true) {kn : List (Option _root_.Rat)} (h : KnOk q kn) {b : List Int} (hb : bagI q.n b = true) {m : Nat} (hm : mkB b = m) : KnOk q (kn.set m (some (widQ q.atoms b))) := by
  refine ⟨by simp [h.1], fun i w hi c hc e => ?_⟩
  rw [List.getElem?_set] at hi
  by_cases hmi : m = i
  · subst hmi
    rw [if_pos rfl] at hi
    split at hi
    · obtain rfl := Option.some.inj (Option.some.inj hi)
      rw [mkB_inj (dec_n1 hq) hb hc (by rw [hm, e])]
    · cases hi
  · rw [if_neg hmi] at hi
    exact h.2 i w hi c hc e
def eK : Option _root_.Rat → List D
  | none => [.int .i64 0, .int .i64 0]
  | some w => eQ w
end Go.Vs


namespace Go.Vs
/-- as 'VC.track'; what the result's blocks are: of what was handed in, or new -/
theorem VC.trackA {P : Program} {f : FuncId} {As Ps : List V} {v : V} (h : VC P f Ps (fun _ r => r = v)) (hp : rpL (fun _ => none) As = some Ps) (hh : hpVL As = false) (hv : v.pn = true) :
    VC P f As (fun n r => rp (fun _ => none) r = some v ∧ r.tk = true ∧ ∀ g ∈ r.ids, g ∈ idsVL As ∨ n ≤ g) := by
  refine ⟨h.1, fun w vals A hgl hLR => ?_⟩
  have hLR' : LR (fun _ => none) (fun _ => none) (fun g => g < w.heap.size ∧ (A g ∧ g ∈ idsVL As)) w As vals := LR.weak As vals hh (fun g hg hs => ⟨hs.1, hs.2, hg⟩) hLR
  refine (h.2 w vals (fun g => A g ∧ g ∈ idsVL As) hgl (LR.er _ _ _ hLR' hp)).mono fun e w' he => ?_
  obtain ⟨v', r, rfl, hb, hvr, _, rfl⟩ := he
  obtain ⟨y, h1, h2, h3, h4⟩ := VR.track _ _ hv hvr
  exact ⟨v', y, rfl, hb, VR.mono (fun g hg => ⟨hg.1.imp And.left id, hg.2⟩) (fun _ _ => rfl) (fun k => KC.refl k) y v' h1, h4, h2, h3, fun g hg => ((VR.ids_ y v' h1 g hg).1).imp And.right id⟩
theorem bdR_ex (q : PQuery) (s : Option (List Int)) : ∃ x y : Int, bdR q s = [.d (.int .i64 x), .d (.int .i64 y)] := by
  cases s <;> exact ⟨_, _, rfl⟩
theorem wp_bdD (q : PQuery) (s : Option (List Int)) : wpTDec (bdD q s) ≤ 100 := by
  cases s with
  | none => exact (by decide : wpTDec ⟨[], []⟩ ≤ 100)
  | some o => exact wp_dcP q o
end Go.Vs

