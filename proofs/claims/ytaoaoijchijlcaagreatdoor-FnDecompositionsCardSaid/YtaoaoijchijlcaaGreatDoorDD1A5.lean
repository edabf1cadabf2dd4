/-
  DD1A5: a part of a proof of this seat: the value-level semantics of Go code without maps, its walk rules, the frame of a row, facts of types, schedules, walks, plain lemmas (Pl88 Pl89 Pl90 Pl91 Pl92 Pl93 Pl94 Pl95 Pl96 Pl64 Pl65 Pl66 Pl67 Pl68 Pl69 Pl97 Pl98 Pl99). It holds of every program and state that its hypotheses name.
-/
import Derived.Test.YtaoaoijchijlcaaGreatDoorDD1A4
set_option linter.unusedSimpArgs false
set_option linter.unusedVariables false
set_option linter.unnecessarySimpa false
namespace Go.Vs
theorem fnL_at {l : List _root_.Rat} {i : Nat} (h : i < l.length) : fnL l i = l[i] := by rw [fnL, gd h]
structure DotS (n : Nat) (a x : Nat → _root_.Rat) : Prop where
 sa : ∀ k, k < n -> smQ (a k)
 sx : ∀ k, k < n -> smQ (x k)
 sm : ∀ k, k < n -> smQ (a k * x k)
 ss : ∀ k, k <= n -> smQ (dotF k a x)
theorem sm_01 {q : _root_.Rat} (h : q = 0 \/ q = 1) : smQ q := by
 rcases h with rfl | rfl
 ·exact sm_zero
 ·exact sm_one
theorem sol_dots {n : Nat} {x : List _root_.Rat} (h : SolB n x) (hn : n <= 4) {a : Nat -> _root_.Rat} (ha : ∀ k, k < n -> a k = 0 \/ a k = 1) : DotS n a (fnL x) := by
 obtain ⟨_, D, hD, hDb, hX⟩ := h
 have hx : ∀ k, k < n → smQ (fnL x k) := fun k hk => by
  obtain ⟨X, h1, h2⟩ := hX k hk
  exact rb_sm (N := 67108864) (D := 2048) ⟨D, X, hD, h1, h2, hDb⟩ (by omega) (by omega)
 obtain ⟨c, hc⟩ : ∃ c : Nat, c = 67108864 := ⟨_, rfl⟩
 rw [<- hc] at hX
 have hs : ∀ k, k ≤ n → ∃ M : Int, dotF k a (fnL x) * (D : _root_.Rat) = (M : _root_.Rat) ∧ M.natAbs ≤ k * c := by
  intro k
  induction k with
  | zero => intro _; exact ⟨0, by simp [dotF], by simp⟩
  | succ k ih =>
    intro hk
    obtain ⟨M, h1, h2⟩ := ih (by omega)
    obtain ⟨X, h3, h4⟩ := hX k (by omega)
    rcases ha k (by omega) with e | e
    ·refine ⟨M, ?_, by rw [Nat.succ_mul]; omega⟩
     rw [dotF, e]; grind
    ·refine ⟨M + X, ?_, by rw [Nat.succ_mul]; omega⟩
     rw [dotF, e, Rat.intCast_add]; grind
 refine ⟨fun k hk => sm_01 (ha k hk), hx, fun k hk => ?_, fun k hk => ?_⟩
 ·rcases ha k hk with e | e
  ·rw [e, _root_.Rat.zero_mul]; exact sm_zero
  ·rw [e, _root_.Rat.one_mul]; exact hx k hk
 ·obtain ⟨M, h1, h2⟩ := hs k hk
  have h3 : k * c <= 4 * c := Nat.mul_le_mul_right c (by omega)
  exact rb_sm (N := 268435456) (D := 2048) ⟨D, M, hD, h1, by omega, hDb⟩ (by omega) (by omega)
structure LPok (A : List (List _root_.Rat)) (n : Nat) : Prop where
 m01 : Mat01 A n
 n1 : 1 <= n
 n4 : n <= 4
 m1 : 1 <= A.length
 m5 : A.length <= 5
theorem LPok.sm {A : List (List _root_.Rat)} {n : Nat} (h : LPok A n) {r : List _root_.Rat} (hr : r ∈ A) : ∀ q ∈ r, smQ q := fun q hq => sm_01 (h.m01.z r hr q hq)
theorem rep_sm {m : Nat} : ∀ q ∈ List.replicate m (1 : _root_.Rat), smQ q := fun q hq => by rw [List.eq_of_mem_replicate hq]; exact sm_one
theorem LPok.dots {A : List (List _root_.Rat)} {n : Nat} {x : List _root_.Rat} (h : LPok A n) (hx : SolB n x) {r : List _root_.Rat} (hr : r ∈ A) : DotS n (fnL r) (fnL x) :=
 sol_dots hx h.n4 fun k hk => by
  have hl := h.m01.len r hr
  rw [fnL_at (by omega)]
  exact h.m01.z r hr _ (List.getElem_mem _)
theorem sol_sm {n : Nat} {x : List _root_.Rat} (h : SolB n x) (hn : n <= 4) : ∀ q ∈ x, smQ q := fun q hq => by
 obtain ⟨i, hi, rfl⟩ := List.mem_iff_getElem.1 hq
 have := (sol_dots h hn (a := fun _ => 1) fun _ _ => .inr rfl).sx i (by rw [<- h.len]; exact hi)
 rwa [fnL_at hi] at this
theorem one_at {n k : Nat} (h : k < n) : fnL (List.replicate n (1 : _root_.Rat)) k = 1 := by rw [fnL_at (by simpa using h)]; simp
theorem one_dots {n : Nat} {x : List _root_.Rat} (hx : SolB n x) (hn : n <= 4) : DotS n (fnL (List.replicate n (1 : _root_.Rat))) (fnL x) :=
 sol_dots hx hn fun k hk => .inr (one_at hk)
theorem nneg_num {q : _root_.Rat} : 0 <= q ↔ 0 <= q.num := _root_.Rat.num_nonneg.symm
theorem sumQ_eq {n : Nat} {x : List _root_.Rat} (h : x.length = n) : dotF n (fnL (List.replicate n (1 : _root_.Rat))) (fnL x) = sumQ x := by
 rw [sumQ, h]; exact dotF_congr (fun k hk => one_at hk) fun _ _ => rfl
def elimT (p k : Nat) (piv row : List _root_.Rat) : List _root_.Rat := row.mapIdx fun i x => if p <= i /\ i < k then x - fnL row p / fnL piv p * fnL piv i else x
@[simp] theorem elimT_len {p k : Nat} {piv row : List _root_.Rat} : (elimT p k piv row).length = row.length := by simp [elimT]
theorem elimT_zero {p : Nat} {piv row : List _root_.Rat} : elimT p p piv row = row := by
 apply List.ext_getElem (by simp)
 intro i h1 h2
 simp only [elimT, List.getElem_mapIdx]
 rw [if_neg (by omega)]
theorem elimT_all {p k : Nat} {piv row : List _root_.Rat} (h : row.length <= k) : elimT p k piv row = elimR p piv row := by
 apply List.ext_getElem (by simp [elimR])
 intro i h1 h2
 have hi : i < row.length := by simpa using h1
 simp only [elimT, elimR, List.getElem_mapIdx]
 by_cases e : i < p
 ·rw [if_neg (by omega), if_pos e]
 ·rw [if_pos (by omega), if_neg e]
theorem elimT_at {p k : Nat} {piv row : List _root_.Rat} (h : k < row.length) : (elimT p k piv row)[k]'(by simpa using h) = row[k] := by
 simp only [elimT, List.getElem_mapIdx]
 rw [if_neg (by omega)]
theorem elimT_succ {p k : Nat} {piv row : List _root_.Rat} (hp : p <= k) (h : k < row.length) : elimT p (k + 1) piv row = (elimT p k piv row).set k (row[k] - fnL row p / fnL piv p * fnL piv k) := by
 apply List.ext_getElem (by simp)
 intro i h1 h2
 have hi : i < row.length := by simpa using h1
 rw [List.getElem_set]
 simp only [elimT, List.getElem_mapIdx]
 by_cases e : k = i
 ·subst e; rw [if_pos rfl, if_pos (by omega)]
 ·rw [if_neg e]
  by_cases e2 : p <= i /\ i < k
  ·rw [if_pos e2, if_pos (by omega)]
  ·rw [if_neg e2, if_neg (by omega)]
structure ElimS (n p : Nat) (piv row : List _root_.Rat) : Prop where
 lr : row.length = n + 1
 lv : piv.length = n + 1
 hp : p <= n
 ne : fnL piv p ≠ 0
 f : smQ (fnL row p / fnL piv p)
 r : ∀ k, k <= n -> smQ (fnL row k)
 v : ∀ k, k <= n -> smQ (fnL piv k)
 q : ∀ k, k <= n -> smQ (fnL row p / fnL piv p * fnL piv k)
 d : ∀ k, k <= n -> smQ (fnL row k - fnL row p / fnL piv p * fnL piv k)
theorem elim_zero {p : Nat} {piv row : List _root_.Rat} (h : fnL row p = 0) : elimR p piv row = row := by
 apply List.ext_getElem (by simp [elimR])
 intro i h1 h2
 simp only [elimR, List.getElem_mapIdx]
 split
 ·rfl
 ·simp only [h]; grind
def stepQ (p i : Nat) (m : List (List _root_.Rat)) : List (List _root_.Rat) := m.mapIdx fun j r => if j < i /\ j ≠ p then elimR p (m.getD p []) r else r
@[simp] theorem stepQ_len {p i : Nat} {m : List (List _root_.Rat)} : (stepQ p i m).length = m.length := by simp [stepQ]
theorem stepQ_zero {p : Nat} {m : List (List _root_.Rat)} : stepQ p 0 m = m := by
 apply List.ext_getElem (by simp)
 intro i h1 h2
 simp only [stepQ, List.getElem_mapIdx]
 rw [if_neg (by omega)]
theorem stepQ_all {p i : Nat} {m : List (List _root_.Rat)} (h : m.length <= i) : stepQ p i m = stepM p m := by
 apply List.ext_getElem (by simp [stepM])
 intro j h1 h2
 have hj : j < m.length := by simpa using h1
 simp only [stepQ, stepM, List.getElem_mapIdx]
 by_cases e : j = p
 ·rw [if_neg (by omega), if_pos e]
 ·rw [if_pos ⟨by omega, e⟩, if_neg e]
theorem stepQ_at {p i : Nat} {m : List (List _root_.Rat)} (h : i < m.length) : (stepQ p i m)[i]'(by simpa using h) = m[i] := by
 simp only [stepQ, List.getElem_mapIdx]
 rw [if_neg (by omega)]
theorem stepQ_piv {p i : Nat} {m : List (List _root_.Rat)} (h : p < m.length) : (stepQ p i m)[p]'(by simpa using h) = m[p] := by
 simp only [stepQ, List.getElem_mapIdx]
 rw [if_neg (by simp)]
theorem stepQ_p {p : Nat} {m : List (List _root_.Rat)} : stepQ p (p + 1) m = stepQ p p m := by
 apply List.ext_getElem (by simp)
 intro j h1 h2
 simp only [stepQ, List.getElem_mapIdx]
 by_cases e : j < p
 ·rw [if_pos (by omega), if_pos (by omega)]
 ·rw [if_neg (by omega), if_neg (by omega)]
theorem stepQ_succ {p i : Nat} {m : List (List _root_.Rat)} (h : i < m.length) (hp : p < m.length) (hne : i ≠ p) : stepQ p (i + 1) m = (stepQ p i m).set i (elimR p m[p] m[i]) := by
 apply List.ext_getElem (by simp)
 intro j h1 h2
 rw [List.getElem_set]
 simp only [stepQ, List.getElem_mapIdx, gd hp]
 by_cases e : i = j
 ·subst e; rw [if_pos ⟨by omega, hne⟩, if_pos rfl]
 ·rw [if_neg e]
  by_cases e2 : j < i /\ j ≠ p
  ·rw [if_pos ⟨by omega, e2.2⟩, if_pos e2]
  ·rw [if_neg (fun h => e2 ⟨by omega, h.2⟩), if_neg e2]
theorem SafeS.elim {n p i : Nat} {m : List (List _root_.Rat)} (h : SafeS n p m) (hl : m.length = n) (hr : ∀ r ∈ m, r.length = n + 1) (hp : p < n) (hi : i < n) (hne : rowQ m p p ≠ 0) : ElimS n p (m[p]'(by omega)) (m[i]'(by omega)) := by
 have e1 : ∀ j (hj : j < n), rowQ m j = fnL (m[j]'(by omega)) := fun j hj => by rw [rowQ, gd]
 have := e1 p hp
 have := e1 i hi
 refine ⟨hr _ (List.getElem_mem _), hr _ (List.getElem_mem _), by omega, ?_, ?_, fun k hk => ?_, fun k hk => ?_, fun k hk => ?_, fun k hk => ?_⟩
 ·rw [<- e1 p hp]; exact hne
 ·rw [<- e1 p hp, <- e1 i hi]; exact h.f i hi
 ·rw [<- e1 i hi]; exact h.at_ i k hi hk
 ·rw [<- e1 p hp]; exact h.at_ p k hp hk
 ·rw [<- e1 p hp, <- e1 i hi]; exact h.q i k hi hk
 ·rw [<- e1 p hp, <- e1 i hi]; exact h.d i k hi hk
theorem re_self {g : Nat} {T : TypeId × Nat} {l l' : List _root_.Rat} (h : l'.length = l.length) : reV (one g (.sl (some g) (some T) (l'.map eQ))) (.d (.sl (some g) (some T) (l.map eQ))) = .d (.sl (some g) (some T) (l'.map eQ)) := by
 refine reV_d ?_
 simp only [reD, one, if_true]
 rw [if_pos ⟨trivial, rfl, trivial, len_eQs h⟩]
theorem piv_eq {m : List (List _root_.Rat)} {p k : Nat} (hp : p <= k) (hz : ∀ j, p <= j -> j < k -> rowQ m j p = 0) (h : k = m.length \/ (k < m.length /\ rowQ m k p ≠ 0)) : pivAt m p = k := by
 have hk : k <= m.length := by omega
 have key : (m.drop p).findIdx (fun r => decide (fnL r p ≠ 0)) = k - p := by
  rcases h with h | ⟨h1, h2⟩
  ·have : (m.drop p).findIdx (fun r => decide (fnL r p ≠ 0)) = (m.drop p).length := by
    rw [List.findIdx_eq_length]
    intro x hx
    obtain ⟨j, hj, rfl⟩ := List.mem_iff_getElem.1 hx
    rw [List.length_drop] at hj
    have := hz (p + j) (by omega) (by omega)
    rw [rowQ, gd (by omega)] at this
    simp only [List.getElem_drop, this, ne_eq, not_true_eq_false, decide_false]
   rw [this, List.length_drop]; omega
  ·rw [List.findIdx_eq (by rw [List.length_drop]; omega)]
   constructor
   ·simp only [List.getElem_drop, decide_eq_true_eq]
    rw [rowQ, gd h1] at h2
    have : p + (k - p) = k := by omega
    simp only [this]; exact h2
   ·intro j hj
    have := hz (p + j) (by omega) (by omega)
    rw [rowQ, gd (by omega)] at this
    simp only [List.getElem_drop, this, ne_eq, not_true_eq_false, decide_false]
 unfold pivAt
 rw [key]; omega
theorem gj_none {m0 : List (List _root_.Rat)} {p : Nat} (h : gj m0 p = none) : ∀ q, p <= q -> gj m0 q = none
 | 0, hq => by have : p = 0 := by omega
               subst this; exact h
 | q + 1, hq => by
   by_cases e : p = q + 1
   ·subst e; exact h
   ·rw [gj, gj_none h q (by omega)]; rfl
theorem gj_succ {m0 m : List (List _root_.Rat)} {p : Nat} (h : gj m0 p = some m) : gj m0 (p + 1) = gjStep p m := by rw [gj, h]; rfl
theorem sol_none {n p : Nat} {m0 m : List (List _root_.Rat)} (h : gj m0 p = some m) (hk : ¬ pivAt m p < m.length) (hp : p < n) : solQ n m0 = none := by
 rw [solQ, gj_none (p := p + 1) (by rw [gj_succ h, gjStep, if_neg hk]) n hp]; rfl
structure StpI (n p k : Nat) (R M : List (List _root_.Rat)) : Prop where
 kn : k < n
 pk : p <= k
 safe : SafeS n p (swapM M p k)
 len : (swapM M p k).length = n
 row : ∀ r ∈ swapM M p k, r.length = n + 1
 ne : rowQ (swapM M p k) p p ≠ 0
 nxt : gj R (p + 1) = some (stepM p (swapM M p k))
theorem stp_of {n p k : Nat} {R M : List (List _root_.Rat)} (hn : n <= 4) (hl : R.length = n) (hr : ∀ r ∈ R, r.length = n + 1) (hb : Bd n 0 R) (h : gj R p = some M) (hp : p < n) (hk : pivAt M p = k) (hkn : k < n) : StpI n p k R M := by
 obtain ⟨g, b⟩ := gj_inv hl hr hb p (by omega) M h
 have hM := g.len
 have hpl : pivAt M p < M.length := by omega
 obtain ⟨h1, h2⟩ := piv_lt hpl
 rw [hk] at h1 h2
 have g2 := g.swap h1 hkn
 have b2 := Bd.swap g h1 hkn b
 have hne : rowQ (swapM M p k) p p ≠ 0 := by
  rw [rowQ, swap_get (by omega) (by omega)]
  by_cases e : p = k
  ·rw [if_pos e]; subst e; exact h2
  ·rw [if_neg e, if_pos rfl]; exact h2
 refine ⟨hkn, h1, bd_safe b2 (by omega) hp hne, g2.len, g2.row, hne, ?_⟩
 rw [gj_succ h, gjStep, if_pos hpl, hk]
theorem sol_end {n : Nat} {R M : List (List _root_.Rat)} (hn : n <= 4) (hl : R.length = n) (hr : ∀ r ∈ R, r.length = n + 1) (hb : Bd n 0 R) (h : gj R n = some M) :
  M.length = n /\ (∀ r ∈ M, r.length = n + 1) /\ solQ n R = some (outM n M) /\ SolB n (outM n M) /\ (∀ p (hp : p < M.length), fnL M[p] p ≠ 0 /\ smQ (fnL M[p] p) /\ smQ (fnL M[p] n) /\ smQ (fnL M[p] n / fnL M[p] p)) := by
 obtain ⟨g, b⟩ := gj_inv hl hr hb n (Nat.le_refl _) M h
 have hs : solQ n R = some (outM n M) := by rw [solQ, h]; rfl
 have hB := sol_bd hn hl hr hb hs
 refine ⟨g.len, g.row, hs, hB, fun p hp => ?_⟩
 have hpn : p < n := by rw [<- g.len]; exact hp
 have e : rowQ M p = fnL M[p] := by rw [rowQ, gd hp]
 refine ⟨by rw [<- e]; exact g.piv p hpn, by rw [<- e]; exact bd_at b hn hpn (by omega), by rw [<- e]; exact bd_at b hn hpn (Nat.le_refl _), ?_⟩
 have := (sol_dots hB hn (a := fun _ => 1) fun _ _ => .inr rfl).sx p hpn
 rw [fnL, gd (by simpa [outM] using hpn)] at this
 simpa [outM, e] using this
theorem phi_single {g : Nat} {T : Option (TypeId × Nat)} {es : List (List D)} : phi [g] [.sl (some g) T es] = one g (.sl (some g) T es) := by
 funext j
 by_cases e : j = g
 ·subst e; simp [phi, one, lookL, lookD]
 ·simp [phi, one, e]
theorem re_rowout {φ : Nat -> Option D} {g : Nat} {T : Option (TypeId × Nat)} {l : List _root_.Rat} (h : φ g = none) : reV φ (.d (.sl (some g) T (l.map eQ))) = .d (.sl (some g) T (l.map eQ)) := by
 simp [reV, reD, h]
theorem re_mset {gm : Nat} {TM : TypeId × Nat} {es : List (List D)} {i : Nat} {e' : List D} (h : i < es.length) (h1 : e'.length = es[i].length) : reV (one gm (.sl (some gm) (some TM) (es.set i e'))) (.d (.sl (some gm) (some TM) es)) = .d (.sl (some gm) (some TM) (es.set i e')) :=
 re_oneSet2 (by simp [List.getD, h, h1])
def swapR (R : List (Nat × List _root_.Rat)) (p k : Nat) : List (Nat × List _root_.Rat) := (R.set p (R.getD k (0, []))).set k (R.getD p (0, []))
theorem swapR_snd {R : List (Nat × List _root_.Rat)} {p k : Nat} : (swapR R p k).map (·.2) = swapM (R.map (·.2)) p k := by
 simp only [swapR, swapM, List.map_set]
 have e : ∀ i, (R.map (·.2)).getD i [] = (R.getD i (0, [])).2 := fun i => by
  simp only [List.getD_eq_getElem?_getD, List.getElem?_map]
  cases R[i]? <;> rfl
 rw [e, e]
theorem swapR_len {R : List (Nat × List _root_.Rat)} {p k : Nat} : (swapR R p k).length = R.length := by simp [swapR]
theorem swapR_perm {R : List (Nat × List _root_.Rat)} {p k : Nat} (hp : p < R.length) (hk : k < R.length) : (swapR R p k).Perm R := by
 have : swapR R p k = (R.set p R[k]).set k R[p] := by rw [swapR, gd hp, gd hk]
 rw [this]
 exact List.set_set_perm hp hk
theorem app_last {r : List _root_.Rat} {n : Nat} (h : r.length = n + 1) : r.take n ++ [fnL r n] = r := by
 rw [fnL_at (by omega), List.take_append_getElem (by omega)]
 exact List.take_of_length_le (by omega)
theorem swapR_set {R : List (Nat × List _root_.Rat)} {p k : Nat} (hp : p < R.length) (hk : k < R.length) : swapR R p k = (R.set p R[k]).set k R[p] := by rw [swapR, gd hp, gd hk]
theorem swapR_set2 {R : List (Nat × List _root_.Rat)} {p k : Nat} (hp : p < R.length) (hk : k < R.length) : swapR R p k = (R.set k R[p]).set p R[k] := by
 rw [swapR_set hp hk]
 by_cases e : p = k
 ·subst e; rfl
 ·rw [List.set_comm _ _ e]
theorem combs_none {α : Type} : ∀ {n : Nat} {l : List α}, l.length < n -> combs n l = []
 | 0, _, h => by omega
 | n + 1, [], _ => rfl
 | n + 1, a :: l, h => by
   simp only [List.length_cons] at h
   rw [combs, combs_none (n := n) (by omega), combs_none (n := n + 1) (by omega)]; rfl
theorem combs_map {α β : Type} (f : α -> β) : ∀ (n : Nat) (l : List α), combs n (l.map f) = (combs n l).map (·.map f)
 | 0, _ => by simp [combs]
 | n + 1, [] => rfl
 | n + 1, a :: l => by
   rw [List.map_cons, combs, combs, combs_map f n l, combs_map f (n + 1) l, List.map_append, List.map_map, List.map_map]
   rfl
theorem combs_len {α : Type} : ∀ (n : Nat) (l : List α), (combs n l).length <= 2 ^ l.length
 | 0, l => by simp [combs, Nat.one_le_two_pow]
 | n + 1, [] => by simp [combs]
 | n + 1, a :: l => by
   have h1 := combs_len n l
   have h2 := combs_len (n + 1) l
   rw [combs, List.length_append, List.length_map, List.length_cons, Nat.pow_succ]
   omega
def rgF (a b : Nat) : List Nat := List.range' a (b - a)
theorem rgF_cons {a b : Nat} (h : a < b) : rgF a b = a :: rgF (a + 1) b := by
 unfold rgF
 obtain ⟨k, hk⟩ : ∃ k, b - a = k + 1 := ⟨b - a - 1, by omega⟩
 rw [hk, List.range'_succ]
 congr 2; omega
theorem rgF_len {a b : Nat} : (rgF a b).length = b - a := by simp [rgF]
theorem rgF_mem {a b x : Nat} (h : x ∈ rgF a b) : a <= x /\ x < b := by
 simp only [rgF, List.mem_range'_1] at h
 omega
theorem combs_rg {n a b : Nat} (h : a < b) : combs (n + 1) (rgF a b) = (combs n (rgF (a + 1) b)).map (a :: ·) ++ combs (n + 1) (rgF (a + 1) b) := by
 rw [rgF_cons h, combs]
theorem combs_end {n a b : Nat} (h : b < a + n) (h0 : 0 < n) : combs n (rgF a b) = [] := combs_none (by rw [rgF_len]; omega)
theorem combs_sub {n a b : Nat} {c : List Nat} (h : c ∈ combs n (rgF a b)) : c.length = n /\ ∀ x ∈ c, a <= x /\ x < b := by
 obtain ⟨h1, h2⟩ := combs_mem.1 h
 exact ⟨h2, fun x hx => rgF_mem (h1.subset hx)⟩
theorem combs_le {n a b : Nat} (h : b <= 9) : (combs n (rgF a b)).length <= 512 := by
 have h1 := combs_len n (rgF a b)
 rw [rgF_len] at h1
 have h2 : 2 ^ (b - a) <= 2 ^ 9 := Nat.pow_le_pow_right (by omega) (by omega)
 omega
def intsN (c : List Nat) : List Int := c.map Int.ofNat
@[simp] theorem intsN_len (c : List Nat) : (intsN c).length = c.length := by simp [intsN]
theorem intsN_at {c : List Nat} {i : Nat} (h : i < c.length) : (intsN c)[i]'(by simpa using h) = (c[i] : Int) := by simp [intsN]
def rowsA (AR : List (List _root_.Rat)) (c : List Nat) : List (List _root_.Rat) := c.map fun i => AR.getD i []
theorem rowsA_len {AR : List (List _root_.Rat)} {c : List Nat} : (rowsA AR c).length = c.length := by simp [rowsA]
theorem rowsA_mem {AR : List (List _root_.Rat)} {c : List Nat} (h : ∀ i ∈ c, i < AR.length) {r : List _root_.Rat} (hr : r ∈ rowsA AR c) : r ∈ AR := by
 obtain ⟨i, hi, rfl⟩ := List.mem_map.1 hr
 exact getD_mem' (h i hi)
theorem rg_all (AR : List (List _root_.Rat)) : (rgF 0 AR.length).map (fun i => AR.getD i []) = AR := by
 apply List.ext_getElem (by simp [rgF])
 intro i h1 h2
 simp [rgF, List.getD, h2]
theorem combs_AR (n : Nat) (AR : List (List _root_.Rat)) : combs n AR = (combs n (rgF 0 AR.length)).map (rowsA AR) := by
 conv => lhs; rw [<- rg_all AR]
 rw [combs_map]
 rfl
theorem augR_len {A : List (List _root_.Rat)} {n : Nat} : (augR A n).length = A.length + n := by simp [augR]
theorem augR_lo {A : List (List _root_.Rat)} {n i : Nat} (h : i < A.length) : (augR A n).getD i [] = A[i] ++ [1] := by
 rw [gd (by rw [augR_len]; omega)]
 simp only [augR]
 rw [List.getElem_append_left (by simpa using h)]; simp
theorem augR_hi {A : List (List _root_.Rat)} {n i : Nat} (h : A.length <= i) (h2 : i < A.length + n) : (augR A n).getD i [] = unitR n (i - A.length) ++ [0] := by
 rw [gd (by rw [augR_len]; omega)]
 simp only [augR]
 rw [List.getElem_append_right (by simpa using h)]; simp
theorem take_app {r : List _root_.Rat} {n : Nat} {b : _root_.Rat} (h : r.length = n) : (r ++ [b]).take n = r /\ fnL (r ++ [b]) n = b :=
 ⟨by rw [List.take_append_of_le_length (by omega), List.take_of_length_le (by omega)], (app_get h).2⟩
theorem unitR_len {n j : Nat} : (unitR n j).length = n := by simp [unitR]
def foldC (A : List (List _root_.Rat)) (n : Nat) (c : List Nat) (a : Nat) (out : List (List _root_.Rat)) : List (List _root_.Rat) :=
 ((combs (n - c.length) (rgF a (A.length + n))).map fun s => rowsA (augR A n) (c ++ s)).foldl (ptStep A n) out
theorem foldC_full {A : List (List _root_.Rat)} {n : Nat} {c : List Nat} {a : Nat} {out : List (List _root_.Rat)} (h : c.length = n) : foldC A n c a out = ptStep A n out (rowsA (augR A n) c) := by
 unfold foldC
 rw [show n - c.length = 0 by omega]
 simp [combs]
theorem foldC_step {A : List (List _root_.Rat)} {n : Nat} {c : List Nat} {a : Nat} {out : List (List _root_.Rat)} (h : c.length < n) (ha : a < A.length + n) : foldC A n c a out = foldC A n c (a + 1) (foldC A n (c ++ [a]) (a + 1) out) := by
 unfold foldC
 obtain ⟨k, hk⟩ : ∃ k, n - c.length = k + 1 := ⟨n - c.length - 1, by omega⟩
 rw [hk, combs_rg ha, List.map_append, List.foldl_append, List.map_map]
 have e : n - (c ++ [a]).length = k := by simp; omega
 rw [e]
 congr 2
 apply List.map_congr_left
 intro s _
 simp
theorem foldC_end {A : List (List _root_.Rat)} {n : Nat} {c : List Nat} {a : Nat} {out : List (List _root_.Rat)} (h : c.length < n) (ha : A.length + n <= a) : foldC A n c a out = out := by
 unfold foldC
 rw [combs_end (by omega) (by omega)]; rfl
theorem foldC_all (A : List (List _root_.Rat)) (n : Nat) : foldC A n [] 0 [] = ptsQ A n := by
 unfold foldC ptsQ
 rw [combs_AR, augR_len]
 simp
theorem ptStep_len {A : List (List _root_.Rat)} {n : Nat} {out M : List (List _root_.Rat)} : (ptStep A n out M).length <= out.length + 1 := by
 unfold ptStep
 split
 ·split
  ·unfold addPt; split <;> simp
  ·omega
 ·omega
theorem fold_len {A : List (List _root_.Rat)} {n : Nat} : ∀ (l : List (List (List _root_.Rat))) (out : List (List _root_.Rat)), (l.foldl (ptStep A n) out).length <= out.length + l.length
 | [], out => by simp
 | M :: l, out => by
   have := fold_len (A := A) (n := n) l (ptStep A n out M)
   have := ptStep_len (A := A) (n := n) (out := out) (M := M)
   simp only [List.foldl_cons, List.length_cons]
   omega
theorem unit_set {n i : Nat} : (List.replicate n (0 : _root_.Rat)).set i 1 = unitR n i := by
 apply List.ext_getElem (by simp [unitR])
 intro k h1 h2
 simp only [List.getElem_set, unitR, List.getElem_map, List.getElem_range, List.getElem_replicate]
 by_cases e : i = k
 ·subst e; simp
 ·rw [if_neg e, if_neg (Ne.symm e)]
def cntC (A : List (List _root_.Rat)) (n : Nat) (c : List Nat) (a : Nat) : Nat := (combs (n - c.length) (rgF a (A.length + n))).length
theorem cntC_step {A : List (List _root_.Rat)} {n : Nat} {c : List Nat} {a : Nat} (h : c.length < n) (ha : a < A.length + n) : cntC A n c a = cntC A n (c ++ [a]) (a + 1) + cntC A n c (a + 1) := by
 unfold cntC
 obtain ⟨k, hk⟩ : ∃ k, n - c.length = k + 1 := ⟨n - c.length - 1, by omega⟩
 have e : n - (c ++ [a]).length = k := by simp; omega
 rw [hk, combs_rg ha, e]
 simp
theorem foldC_len {A : List (List _root_.Rat)} {n : Nat} {c : List Nat} {a : Nat} {out : List (List _root_.Rat)} : (foldC A n c a out).length <= out.length + cntC A n c a := by
 unfold foldC cntC
 have := fold_len (A := A) (n := n) ((combs (n - c.length) (rgF a (A.length + n))).map fun s => rowsA (augR A n) (c ++ s)) out
 simpa using this
theorem cntC_full {A : List (List _root_.Rat)} {n : Nat} {c : List Nat} {a : Nat} (h : c.length = n) : cntC A n c a = 1 := by
 unfold cntC
 rw [show n - c.length = 0 by omega]
 simp [combs]
theorem cntC_all {A : List (List _root_.Rat)} {n : Nat} (h : A.length + n <= 9) : cntC A n [] 0 <= 512 := by
 unfold cntC
 exact combs_le h
theorem pts_sol {A : List (List _root_.Rat)} {n : Nat} (h : LPok A n) : ∀ x ∈ ptsQ A n, SolB n x := fun x hx => by
 obtain ⟨M, h1, h2, h3, _⟩ := pts_mem.1 hx
 have hr : ∀ r ∈ M, r.length = n + 1 := fun r hr => aug_len h.m01 r (h1.subset hr)
 have h01 : ∀ r ∈ M, ∀ q ∈ r, q = 0 \/ q = 1 := fun r hr => aug_01 h.m01 r (h1.subset hr)
 exact sol_bd h.n4 h2 hr (bd_01 h2 h01) h3
theorem pts_len {A : List (List _root_.Rat)} {n : Nat} (h : LPok A n) : (ptsQ A n).length <= 512 := by
 have h1 := h.n4
 have h2 := h.m5
 have := foldC_len (A := A) (n := n) (c := []) (a := 0) (out := [])
 rw [foldC_all] at this
 have := cntC_all (A := A) (n := n) (by omega)
 simp at *
 omega
theorem sum_sm {n : Nat} {x : List _root_.Rat} (hx : SolB n x) (hn : n <= 4) : smQ (sumQ x) := by
 rw [<- sumQ_eq hx.len]
 exact (one_dots hx hn).ss n (Nat.le_refl _)
def bestT (l : List (List _root_.Rat)) (i : Nat) : Option (List _root_.Rat × _root_.Rat) := (l.take i).foldl bestS none
theorem bestT_zero {l : List (List _root_.Rat)} : bestT l 0 = none := rfl
theorem bestT_succ {l : List (List _root_.Rat)} {i : Nat} (h : i < l.length) : bestT l (i + 1) = bestS (bestT l i) l[i] := by
 rw [bestT, List.take_succ_eq_append_getElem h, List.foldl_append]; rfl
theorem bestT_all {l : List (List _root_.Rat)} : bestT l l.length = bestQ l := by rw [bestT, List.take_of_length_le (Nat.le_refl _)]; rfl
theorem bestT_sum {l : List (List _root_.Rat)} {i : Nat} {p : List _root_.Rat × _root_.Rat} (h : bestT l i = some p) : p.2 = sumQ p.1 /\ p.1 ∈ l.take i := by
 have := (best_fold (l.take i) none (fun p h => by cases h)).1 p h
 exact ⟨this.1, this.2.1.resolve_right (by simp)⟩
def ptV (b : Option (List _root_.Rat × _root_.Rat)) : D := match b with
 | none => .pl []
 | some p => .pl (p.1.map eQ)
theorem r01_eQ (b : Bool) : eQ (r01 b) = [.int .i64 (if b then 1 else 0), .int .i64 1] := by cases b <;> rfl
theorem bag_facts {q : PQuery} {b : List Int} (hq : queryOk q = true) (hb : bagI q.n b = true) : 1 <= b.length /\ b.length <= 5 /\ 1 <= q.atoms.length /\ q.atoms.length <= 4 /\ covered q.atoms b := by
 simp only [queryOk, Bool.and_eq_true] at hq
 obtain ⟨⟨⟨⟨h1, h2⟩, _⟩, _⟩, h5⟩ := hq
 simp only [bagI, Bool.and_eq_true, decide_eq_true_eq] at hb
 obtain ⟨⟨b1, _⟩, b3⟩ := hb
 simp only [setOf, Bool.and_eq_true, decide_eq_true_eq, List.all_eq_true] at b3
 obtain ⟨b4, b5⟩ := b3
 simp only [inR, Bool.and_eq_true, decide_eq_true_eq] at h1 h2
 have hw : IntKind.i64.wrap (q.n - 1) = q.n - 1 := wrap64_of (by omega) (by omega)
 have hr : ∀ x ∈ b, 0 ≤ x ∧ x < q.n := fun x hx => by
  have := b4 x hx
  simp only [inR, Bool.and_eq_true, decide_eq_true_eq, hw] at this
  omega
 have hlen := nodup_len q.n.toNat b b5 (fun x hx => by have := hr x hx; omega)
 refine ⟨b1, by omega, by omega, by omega, fun v hv => ?_⟩
 have hv2 := hr v hv
 simp only [usesAll, List.all_eq_true, List.mem_range] at h5
 have h6 := h5 v.toNat (by omega)
 rw [show ((v.toNat : Nat) : Int) = v by omega, List.contains_eq_mem, decide_eq_true_eq, varsIn, List.mem_flatMap] at h6
 obtain ⟨a, ha, hva⟩ := h6
 exact ⟨a, ha, hva⟩
theorem bag_lp {q : PQuery} {b : List Int} (hq : queryOk q = true) (hb : bagI q.n b = true) : LPok (covM q.atoms b) q.atoms.length := by
 obtain ⟨h1, h2, h3, h4, h5⟩ := bag_facts hq hb
 exact ⟨covM_01 h5, h3, h4, by simpa [covM] using h1, by simpa [covM] using h2⟩
theorem wid_some {q : PQuery} {b : List Int} (hq : queryOk q = true) (hb : bagI q.n b = true) : ∃ p, minQ (covM q.atoms b) q.atoms.length = some p /\ p.2 = widQ q.atoms b := by
 obtain ⟨p, h1, h2, _⟩ := wid_min (bag_facts hq hb).2.2.2.2
 exact ⟨p, h1, h2⟩
def bcwV (q : PQuery) (b : List Int) : V := if queryOk q && bagI q.n b then .tup [.agg [.d (.int .i64 (widQ q.atoms b).num), .d (.int .i64 ((widQ q.atoms b).den : Int))], .d (.bool true)] else .tup [.agg [.d (.int .i64 0), .d (.int .i64 0)], .d (.bool false)]
theorem wid_sm {q : PQuery} {b : List Int} (hq : queryOk q = true) (hb : bagI q.n b = true) : smQ (widQ q.atoms b) /\ 1 <= widQ q.atoms b := by
 obtain ⟨p, h1, h2⟩ := wid_some hq hb
 have h := bag_lp hq hb
 obtain ⟨f1, _, _, _, f5⟩ := bag_facts hq hb
 have h3 : p.2 = sumQ p.1 ∧ p.1 ∈ ptsQ (covM q.atoms b) q.atoms.length := by
  have := bestT_sum (l := ptsQ (covM q.atoms b) q.atoms.length) (i := (ptsQ (covM q.atoms b) q.atoms.length).length) (p := p) (by rw [bestT_all]; exact h1)
  rw [List.take_of_length_le (Nat.le_refl _)] at this
  exact this
 refine ⟨?_, wid_one f5 fun e => by rw [e] at f1; simp at f1⟩
 rw [<- h2, h3.1]
 exact sum_sm (pts_sol h _ h3.2) h.n4
def mxS (a w : _root_.Rat) : _root_.Rat := if a < w then w else a
def mxT (q : PQuery) (l : List (List Int)) (i : Nat) : _root_.Rat := ((l.take i).map (widQ q.atoms)).foldl mxS 0
theorem mxT_zero {q : PQuery} {l : List (List Int)} : mxT q l 0 = 0 := rfl
theorem mxT_succ {q : PQuery} {l : List (List Int)} {i : Nat} (h : i < l.length) : mxT q l (i + 1) = mxS (mxT q l i) (widQ q.atoms l[i]) := by
 rw [mxT, List.take_succ_eq_append_getElem h, List.map_append, List.foldl_append]; rfl
theorem mxT_sm {q : PQuery} {l : List (List Int)} (h : ∀ b ∈ l, smQ (widQ q.atoms b)) : ∀ i, i <= l.length -> smQ (mxT q l i)
 | 0, _ => sm_zero
 | i + 1, hi => by
   rw [mxT_succ (by omega), mxS]
   split
   ·exact h _ (List.getElem_mem _)
   ·exact mxT_sm h i (by omega)
def decW (q : PQuery) (d : PDec) : _root_.Rat := mxT q d.bags d.bags.length
theorem dec_facts {q : PQuery} {d : PDec} (h : decOk q d = true) : queryOk q = true /\ ∀ b ∈ d.bags, bagI q.n b = true := by
 simp only [decOk, Bool.and_eq_true, List.all_eq_true] at h
 exact ⟨h.1.1.1.1.1, h.1.1.2⟩
theorem dec_n1 {q : PQuery} (h : queryOk q = true) : 1 <= q.n /\ q.n <= 5 := by
 simp only [queryOk, Bool.and_eq_true] at h
 obtain ⟨⟨⟨⟨h1, _⟩, _⟩, _⟩, _⟩ := h
 simp only [inR, Bool.and_eq_true, decide_eq_true_eq] at h1
 exact h1
def dwV (q : PQuery) (d : PDec) : V := if decOk q d then .tup [.agg [.d (.int .i64 (decW q d).num), .d (.int .i64 ((decW q d).den : Int))], .d (.bool true)] else .tup [.agg [.d (.int .i64 0), .d (.int .i64 0)], .d (.bool false)]
theorem mx_cmp {a w : _root_.Rat} : mxS a w = if 0 < cmpQ w a then w else a := by
 unfold mxS
 by_cases h : a < w
 ·rw [if_pos h, if_pos (cmpQ_gt.2 h)]
 ·rw [if_neg h, if_neg fun e => h (cmpQ_gt.1 e)]
theorem fst_some {o l : List Int} : ∀ (m k r : Nat), fstIn o l m k = some r -> k <= r /\ r < k + m /\ o.getD r 0 ∈ l /\ ∀ j, k <= j -> j < r -> o.getD j 0 ∉ l
 | 0, _, _, h => by simp [fstIn] at h
 | m + 1, k, r, h => by
   simp only [fstIn] at h
   by_cases hc : l.contains (o.getD k 0) = true
   ·rw [if_pos hc] at h
    obtain rfl := Option.some.inj h
    exact ⟨Nat.le_refl _, by omega, by simpa using hc, fun j h1 h2 => by omega⟩
   ·rw [if_neg hc] at h
    obtain ⟨h1, h2, h3, h4⟩ := fst_some m (k + 1) r h
    refine ⟨by omega, by omega, h3, fun j h5 h6 => ?_⟩
    by_cases he : j = k
    ·subst he; simpa using hc
    ·exact h4 j (by omega) h6
theorem fst_none {o l : List Int} : ∀ (m k : Nat), fstIn o l m k = none -> ∀ j, k <= j -> j < k + m -> o.getD j 0 ∉ l
 | 0, _, _, j, h1, h2 => by omega
 | m + 1, k, h, j, h1, h2 => by
   simp only [fstIn] at h
   by_cases hc : l.contains (o.getD k 0) = true
   ·rw [if_pos hc] at h; cases h
   ·rw [if_neg hc] at h
    by_cases he : j = k
    ·subst he; simpa using hc
    ·exact fst_none m (k + 1) h j (by omega) (by omega)
theorem up_facts (q : PQuery) (o : List Int) {i : Nat} (hi : i < o.length) : (i + 1 = o.length /\ dcUp q o i = -1) \/
  ∃ j : Nat, dcUp q o i = j /\ i < j /\ j < o.length /\ i + 1 < o.length /\ ∀ k, i < k -> k < o.length -> o.getD k 0 ∈ dcBag q o i -> o.getD j 0 ∈ dcBag q o i /\ j <= k := by
 by_cases he : i + 1 = o.length
 ·exact .inl ⟨he, by rw [dcUp, if_pos he]⟩
 ·refine .inr ?_
  cases hf : fstIn o (dcBag q o i) (o.length - (i + 1)) (i + 1) with
  | none =>
    refine ⟨i + 1, by rw [dcUp, if_neg he, hf]; rfl, by omega, by omega, by omega, fun k h1 h2 h3 => ?_⟩
    exact absurd h3 (fst_none _ _ hf k (by omega) (by omega))
  | some r =>
    obtain ⟨h1, h2, h3, h4⟩ := fst_some _ _ _ hf
    refine ⟨r, by rw [dcUp, if_neg he, hf], by omega, by omega, by omega, fun k h5 h6 h7 => ⟨h3, ?_⟩⟩
    refine Nat.le_of_not_lt fun hlt => ?_
    exact h4 k (by omega) hlt h7
def upsL (q : PQuery) (o : List Int) : List Int := (List.range o.length).map (dcUp q o)
def bagsL (q : PQuery) (o : List Int) : List (List Int) := (List.range o.length).map (dcBag q o)
theorem ups_len (q : PQuery) (o : List Int) : (upsL q o).length = o.length := by simp [upsL]
theorem ups_at (q : PQuery) (o : List Int) {i : Nat} (hi : i < o.length) : (upsL q o).getD i 0 = dcUp q o i := by
 simp [upsL, List.getD_eq_getElem?_getD, hi]
theorem bags_at (q : PQuery) (o : List Int) {i : Nat} (hi : i < o.length) : (bagsL q o).getD i [] = dcBag q o i := by
 simp [bagsL, List.getD_eq_getElem?_getD, hi]
theorem up_in (q : PQuery) (o : List Int) {i : Nat} (hi : i < o.length) : inR (dcUp q o i) (-1) (((upsL q o).length : Int) - 1) = true := by
 rw [ups_len]
 simp only [inR, Bool.and_eq_true, decide_eq_true_eq]
 rcases up_facts q o hi with ⟨h1, h2⟩ | ⟨j, h1, h2, h3, _, _⟩
 ·omega
 ·omega
theorem up_end (q : PQuery) (o : List Int) : ∀ (m i : Nat), i < o.length -> o.length - i < m -> endNeg (upI (upsL q o) m (i : Int)) = true
 | 0, i, _, h => by omega
 | m + 1, i, hi, h => by
   have hx : nxP (upsL q o) (i : Int) = dcUp q o i := by rw [nxP]; simpa using ups_at q o hi
   rw [upI, if_neg (by omega), hx, if_pos (up_in q o hi)]
   rcases up_facts q o hi with ⟨h1, h2⟩ | ⟨j, h1, h2, h3, _, _⟩
   ·rw [h2]
    obtain ⟨m, rfl⟩ : ∃ k, m = k + 1 := ⟨m - 1, by omega⟩
    rfl
   ·rw [h1]
    exact up_end q o m j h3 (by omega)
theorem up_tree (q : PQuery) (o : List Int) (h : 0 < o.length) : treeB (upsL q o) = true := by
 simp only [treeB, Bool.and_eq_true, List.all_eq_true, List.mem_range, decide_eq_true_eq]
 refine ⟨fun i hi => ?_, ?_⟩
 ·rw [ups_len] at hi
  have hx : nxP (upsL q o) (i : Int) = dcUp q o i := by rw [nxP]; simpa using ups_at q o hi
  simp only [treeAt, Bool.and_eq_true]
  exact ⟨by rw [hx]; exact up_in q o hi, up_end q o _ i hi (by rw [ups_len]; omega)⟩
 ·obtain ⟨n, hn⟩ : ∃ k, o.length = k + 1 := ⟨o.length - 1, by omega⟩
  rw [rootsN, upsL, hn, List.range_succ, List.map_append, List.filter_append, List.length_append]
  have h1 : (List.map (dcUp q o) (List.range n)).filter (fun p => decide (p < 0)) = [] := by
   rw [List.filter_eq_nil_iff]
   intro a ha
   obtain ⟨i, hi, rfl⟩ := List.mem_map.1 ha
   have hi := List.mem_range.1 hi
   rcases up_facts q o (i := i) (by omega) with ⟨h1, h2⟩ | ⟨j, h1, h2, h3, _, _⟩
   ·omega
   ·simp [h1]
  have h2 : dcUp q o n = -1 := by rw [dcUp, if_pos (by omega)]
  rw [h1]
  simp [h2]
theorem dcM_mono (q : PQuery) (o : List Int) (a b : Int) {i : Nat} : ∀ {j : Nat}, i <= j -> dcM q o i a b = true -> dcM q o j a b = true
 | 0, h, e => by rw [Nat.le_zero.1 h] at e; exact e
 | j + 1, h, e => by
   by_cases he : i = j + 1
   ·rw [<- he]; exact e
   ·rw [dcM_succ, dcM_mono q o a b (by omega) e]; rfl
theorem pw_asc {b : List Int} (h : b.Pairwise (· < ·)) : ascB b = true := by
 simp only [ascB, List.all_eq_true, List.mem_range]
 intro i hi
 simp only [ascAt, Bool.or_eq_true, decide_eq_true_eq]
 by_cases h0 : i = 0
 ·exact .inl h0
 ·refine .inr ?_
  rw [getD_el _ hi, getD_el _ (show i - 1 < b.length by omega)]
  exact List.pairwise_iff_getElem.1 h (i - 1) i (by omega) hi (by omega)
theorem dcBag_ok {q : PQuery} {o : List Int} (h : Od q o) {i : Nat} (hi : i < o.length) : bagI q.n (dcBag q o i) = true := by
 have h5 := h.n5
 simp only [bagI, Bool.and_eq_true, decide_eq_true_eq]
 refine ⟨⟨?_, pw_asc filter_pw⟩, ?_⟩
 ·have : o[i] ∈ dcBag q o i := (bag_mem h hi _).2 (.inl rfl)
  exact List.length_pos_of_mem this
 ·simp only [setOf, Bool.and_eq_true, List.all_eq_true, decide_eq_true_eq]
  refine ⟨fun x hx => ?_, pw_nodup filter_pw⟩
  have := rangeI_mem.1 (List.mem_filter.1 hx).1
  rw [wrap64_of (by omega) (by omega)]
  simp only [inR, Bool.and_eq_true, decide_eq_true_eq]
  omega
theorem least (P : Nat -> Prop) : ∀ n, P n -> ∃ i, P i /\ i <= n /\ ∀ k, k < i -> ¬ P k := by
 intro n
 induction n using Nat.strongRecOn with
 | ind n ih =>
   intro hn
   by_cases hk : ∃ k, k < n /\ P k
   ·obtain ⟨k, h1, h2⟩ := hk
    obtain ⟨i, h3, h4, h5⟩ := ih k h1 h2
    exact ⟨i, h3, by omega, h5⟩
   ·exact ⟨n, hn, Nat.le_refl _, fun k h1 h2 => hk ⟨k, h1, h2⟩⟩
theorem dc_cover {q : PQuery} {o : List Int} (h : Od q o) {a : PAtom} (ha : a ∈ q.atoms) : anyIn (bagsL q o) a = true := by
 have h5 := h.n5
 have hao : atomOk q.n a = true := by
  have := h.qok
  simp only [queryOk, Bool.and_eq_true, List.all_eq_true] at this
  exact this.1.2 a ha
 have hlen : 0 < o.length := by have := h.len; omega
 have hrg := fun w hw => atom_in h.qok a ha w hw
 have key : ∃ i, i < o.length ∧ insD a (dcBag q o i) = true := by
  by_cases hv : a.vars = []
  ·exact ⟨0, hlen, by simp [insD, hv]⟩
  ·obtain ⟨v, hv⟩ := List.exists_mem_of_ne_nil _ hv
   obtain ⟨p, hp, hpv⟩ := List.mem_iff_getElem.1 (h.all (hrg v hv).1 (hrg v hv).2)
   obtain ⟨i, h1, h2, h3⟩ := least (fun k => o.getD k 0 ∈ a.vars) p (by show _ ∈ _; rw [getD_el _ hp, hpv]; exact hv)
   have hi : i < o.length := by omega
   rw [getD_el _ hi] at h1
   refine ⟨i, hi, ?_⟩
   simp only [insD, List.all_eq_true, List.contains_iff_mem]
   intro w hw
   rw [bag_mem h hi, lat_mem h hi]
   by_cases he : w = o[i]
   ·exact .inl he
   ·refine .inr ⟨(hrg w hw).1, (hrg w hw).2, dcM_mono q o _ _ (Nat.zero_le i) ?_, fun ht => ?_⟩
    ·show nbrB q o[i] w = true
     simp only [nbrB, Bool.and_eq_true, Bool.not_eq_true', decide_eq_false_iff_not, List.any_eq_true, List.contains_iff_mem]
     exact ⟨he, a, ha, h1, hw⟩
    ·obtain ⟨k, hk, hkw⟩ := List.mem_iff_getElem.1 ht
     rw [List.length_take] at hk
     rw [List.getElem_take] at hkw
     have := h3 k (by omega)
     rw [getD_el _ (by omega), hkw] at this
     exact this hw
 obtain ⟨i, hi, hb⟩ := key
 simp only [anyIn, List.any_eq_true]
 exact ⟨dcBag q o i, List.mem_map.2 ⟨i, List.mem_range.2 hi, rfl⟩, by rw [inAB_eq h5 hao]; exact hb⟩
theorem one_len (p : Nat) : ∀ n, ((List.range n).filter fun i => decide (i = p)).length = if p < n then 1 else 0
 | 0 => by simp
 | n + 1 => by
   rw [List.range_succ, List.filter_append, List.length_append, one_len p n]
   by_cases h : n = p
   ·subst h; simp
   ·by_cases h2 : p < n
    ·simp [h, h2]; omega
    ·simp [h, h2]; omega
theorem take_lt {o : List Int} (h : o.Nodup) {p i : Nat} (hp : p < o.length) : o[p] ∈ o.take i ↔ p < i := by
 constructor
 ·intro hm
  obtain ⟨k, hk, e⟩ := List.mem_iff_getElem.1 hm
  rw [List.length_take] at hk
  rw [List.getElem_take] at e
  have := nodup_inj h (by omega) hp e
  omega
 ·intro hlt
  exact List.mem_iff_getElem.2 ⟨p, by rw [List.length_take]; omega, List.getElem_take⟩
theorem dc_top {q : PQuery} {o : List Int} (h : Od q o) {p : Nat} (hp : p < o.length) {i : Nat} (hi : i < o.length) : topIs (bagsL q o) (upsL q o) o[p] i = decide (i = p) := by
 have hrp := h.rng _ (List.getElem_mem hp)
 rw [topIs, bags_at q o hi, ups_at q o hi]
 by_cases he : i = p
 ·subst he
  rw [decide_eq_true rfl, Bool.and_eq_true, List.contains_iff_mem, Bool.or_eq_true, decide_eq_true_eq]
  refine ⟨(bag_mem h hi _).2 (.inl rfl), ?_⟩
  rcases up_facts q o hi with ⟨_, h2⟩ | ⟨j, h1, h2, h3, _, _⟩
  ·exact .inl (by omega)
  ·refine .inr ?_
   rw [h1, Int.toNat_natCast, bags_at q o h3, Bool.not_eq_true', <- Bool.not_eq_true, List.contains_iff_mem, bag_mem h h3, lat_mem h h3]
   rintro (e | ⟨_, _, _, e⟩)
   ·have := nodup_inj h.nd hi h3 e; omega
   ·exact e ((take_lt h.nd hi).2 h2)
 ·rw [decide_eq_false he]
  by_cases hb : o[p] ∈ dcBag q o i
  ·have hlt : i < p := by
    rcases (bag_mem h hi _).1 hb with e | e
    ·exact absurd (nodup_inj h.nd hp hi e).symm he
    ·have := ((lat_mem h hi _).1 e).2.2.2
     rw [take_lt h.nd hp] at this
     omega
   rcases up_facts q o hi with ⟨h1, h2⟩ | ⟨j, h1, h2, h3, _, h6⟩
   ·omega
   ·obtain ⟨h7, h8⟩ := h6 p hlt hp (by rw [getD_el _ hp]; exact hb)
    rw [getD_el _ h3] at h7
    have : o[p] ∈ dcBag q o j := by
     rw [bag_mem h h3, lat_mem h h3]
     by_cases e : j = p
     ·subst e; exact .inl rfl
     ·have hne : ¬ o[j] = o[p] := fun e' => e (nodup_inj h.nd h3 hp e')
      refine .inr ⟨hrp.1, hrp.2, dcM_mono q o _ _ (show i + 1 <= j by omega) ?_, by rw [take_lt h.nd hp]; omega⟩
      rw [dcM_succ]
      have hj := h.rng _ (List.getElem_mem h3)
      have e1 := (dcI_iff h hi hj.1 hj.2).2 ((bag_mem h hi _).1 h7)
      have e2 := (dcI_iff h hi hrp.1 hrp.2).2 ((bag_mem h hi _).1 hb)
      rw [e1, e2, decide_eq_false hne]
      simp
    rw [h1, Int.toNat_natCast, bags_at q o h3]
    simp [this]
  ·simp [hb]
theorem dc_ok {q : PQuery} {o : List Int} (h : ordOk q o = true) : decOk q (dcP q o) = true := by
 have hd := od_of h
 have hlen : 0 < o.length := by have := hd.len; have := hd.n5; omega
 have hdc : dcP q o = ⟨bagsL q o, upsL q o⟩ := by rw [dcP, if_pos h]; rfl
 rw [hdc]
 simp only [decOk, Bool.and_eq_true, decide_eq_true_eq, List.all_eq_true, List.mem_range]
 refine ⟨⟨⟨⟨⟨hd.qok, by simp [bagsL, upsL]⟩, up_tree q o hlen⟩, fun b hb => ?_⟩, fun a ha => dc_cover hd ha⟩, fun v hv => ?_⟩
 ·obtain ⟨i, hi, rfl⟩ := List.mem_map.1 hb
  exact dcBag_ok hd (List.mem_range.1 hi)
 ·obtain ⟨p, hp, e⟩ := List.mem_iff_getElem.1 (hd.all (v := (v : Int)) (by omega) (by have := hd.n5; omega))
  have hbl : (bagsL q o).length = o.length := by simp [bagsL]
  rw [topN, hbl, <- e, List.filter_congr (q := fun i => decide (i = p)) fun i hi => dc_top hd hp (List.mem_range.1 hi), one_len, if_pos hp]
theorem dec_bags {q : PQuery} {o : List Int} (h : ordOk q o = true) : (∀ b ∈ (dcP q o).bags, bagI q.n b = true) /\ (dcP q o).bags.length = o.length /\ (dcP q o).par.length = o.length /\ 0 < o.length /\ o.length <= 5 := by
 have hd := od_of h
 have h1 := (dec_facts (dc_ok h)).2
 have h2 := hd.len
 have h3 := hd.n5
 refine ⟨h1, ?_, ?_, by omega, by omega⟩ <;> simp [dcP, h]
theorem decW_sm {q : PQuery} {o : List Int} (h : ordOk q o = true) : smQ (decW q (dcP q o)) := by
 have hd := od_of h
 exact mxT_sm (fun b hb => (wid_sm hd.qok ((dec_bags h).1 b hb)).1) _ (Nat.le_refl _)
theorem dwV_ok {q : PQuery} {o : List Int} (h : ordOk q o = true) : dwV q (dcP q o) = .tup [.agg [.d (.int .i64 (decW q (dcP q o)).num), .d (.int .i64 ((decW q (dcP q o)).den : Int))], .d (.bool true)] := by
 rw [dwV, if_pos (dc_ok h)]
theorem bag_fil {n : Int} (hn : 1 <= n /\ n <= 5) {b : List Int} (h : bagI n b = true) : b = (rangeI 5).filter fun v => b.contains v := by
 simp only [bagI, Bool.and_eq_true, setOf, List.all_eq_true] at h
 refine pw_ext (asc_pw h.1.2) filter_pw fun x => ?_
 rw [List.mem_filter, rangeI_mem, List.contains_iff_mem]
 refine ⟨fun hx => ⟨?_, hx⟩, fun e => e.2⟩
 have h1 := h.2.1 x hx
 rw [wrap64_of (by omega) (by omega)] at h1
 simp only [inR, Bool.and_eq_true, decide_eq_true_eq] at h1
 omega
def lstB (b : UInt8) : List Int := (rangeI 5).filter fun v => decide (varNm v = [b])
def lstV (s : List UInt8) : List Int := s.flatMap lstB
theorem lstV_step {s : List UInt8} {i : Nat} (h : i < s.length) : lstV (s.take (i + 1)) = lstV (s.take i) ++ lstB s[i] := by
 unfold lstV
 rw [List.take_succ_eq_append_getElem h, List.flatMap_append]
 simp only [List.flatMap_cons, List.flatMap_nil, List.append_nil]
theorem lstB_len (b : UInt8) : (lstB b).length <= 5 := by
 have := List.length_filter_le (fun v => decide (varNm v = [b])) (rangeI 5)
 rw [rangeI_length] at this
 exact this
theorem lstV_len (s : List UInt8) : (lstV s).length <= 5 * s.length := by
 induction s with
 | nil => simp [lstV]
 | cons a r ih =>
   have := lstB_len a
   simp only [lstV, List.flatMap_cons, List.length_append, List.length_cons] at ih ⊢; omega
def lstT (b : UInt8) (j : Nat) : List Int := (rangeI j).filter fun v => decide (varNm v = [b])
theorem lstT_succ (b : UInt8) (j : Nat) : lstT b (j + 1) = lstT b j ++ if varNm j = [b] then [(j : Int)] else [] := by
 rw [lstT, rangeI_succ, List.filter_append, lstT]
 congr 1
 by_cases e : varNm j = [b] <;> simp [e]
theorem lstT_len (b : UInt8) (j : Nat) : (lstT b j).length <= j := by
 have := List.length_filter_le (fun v => decide (varNm v = [b])) (rangeI j)
 rw [rangeI_length] at this
 exact this
def vcK (b : UInt8) : Nat → Int → Int → Int
 | 0, _, cur => cur
 | k + 1, v, cur => if v < 5 then vcK b k (v + 1) (if varNm v = [b] then v + 1 else cur) else cur
theorem vcK_fuel (b : UInt8) : ∀ (k k' : Nat) (v cur : Int), 5 - v <= k -> 5 - v <= k' -> vcK b k v cur = vcK b k' v cur
 | 0, 0, _, _, _, _ => rfl
 | 0, k' + 1, v, cur, h, _ => by rw [vcK, vcK, if_neg (by omega)]
 | k + 1, 0, v, cur, _, h => by rw [vcK, vcK, if_neg (by omega)]
 | k + 1, k' + 1, v, cur, h, h' => by
   rw [vcK, vcK]
   split
   ·exact vcK_fuel b k k' _ _ (by omega) (by omega)
   ·rfl
theorem vcK_in (b : UInt8) : ∀ (k : Nat) (v cur : Int), 0 <= v -> 0 <= cur /\ cur <= 5 -> 0 <= vcK b k v cur /\ vcK b k v cur <= 5
 | 0, _, _, _, h => h
 | k + 1, v, cur, hv, h => by
   rw [vcK]
   split
   ·refine vcK_in b k _ _ (by omega) ?_
    split <;> omega
   ·exact h
def vcB (n : Int) (b : UInt8) : Int := vcK b 5 n n
structure VcI (b : UInt8) (n : Int) (v cur : Int) : Prop where
 le : 0 <= v /\ v <= 5
 inR5 : 0 <= cur /\ cur <= 5
 eq : vcK b 5 v cur = vcB n b
theorem VcI.zero {b : UInt8} {n : Int} (h : 0 <= n /\ n <= 5) : VcI b n n n := ⟨h, h, rfl⟩
theorem VcI.step {b : UInt8} {n v cur : Int} (h : VcI b n v cur) (hv : v < 5) : VcI b n (v + 1) (if varNm v = [b] then v + 1 else cur) := by
 have h1 := h.le
 have h2 := h.inR5
 refine ⟨by omega, by split <;> omega, ?_⟩
 have := h.eq
 rw [vcK, if_pos hv, vcK_fuel b 4 5 _ _ (by omega) (by omega)] at this
 exact this
theorem VcI.done {b : UInt8} {n v cur : Int} (h : VcI b n v cur) (hv : ¬ v < 5) : vcB n b = cur := by
 have := h.eq
 rw [vcK, if_neg hv] at this
 exact this.symm
theorem vcB_in {n : Int} (b : UInt8) (h : 0 <= n /\ n <= 5) : 0 <= vcB n b /\ vcB n b <= 5 := vcK_in b 5 n n h.1 h
def vcS (n : Int) (s : List UInt8) : Int := s.foldl vcB n
theorem vcS_step {n : Int} {s : List UInt8} {i : Nat} (h : i < s.length) : vcS n (s.take (i + 1)) = vcB (vcS n (s.take i)) s[i] := by
 rw [List.take_succ_eq_append_getElem h, vcS, List.foldl_append]; rfl
theorem vcS_in : ∀ (s : List UInt8) {n : Int}, 0 <= n /\ n <= 5 -> 0 <= vcS n s /\ vcS n s <= 5
 | [], _, h => h
 | b :: s, _, h => vcS_in s (vcB_in b h)
def prsM (l : List (List UInt8)) : Int := l.foldl vcS 0
theorem prsM_step {l : List (List UInt8)} {i : Nat} (h : i < l.length) : prsM (l.take (i + 1)) = vcS (prsM (l.take i)) l[i] := by
 rw [List.take_succ_eq_append_getElem h, prsM, List.foldl_append]; rfl
theorem prsM_in (l : List (List UInt8)) : 0 <= prsM l /\ prsM l <= 5 := by
 have : ∀ (l : List (List UInt8)) (n : Int), 0 ≤ n ∧ n ≤ 5 → 0 ≤ l.foldl vcS n ∧ l.foldl vcS n ≤ 5 := fun l => by
  induction l with
  | nil => exact fun _ h => h
  | cons a r ih => exact fun n h => ih _ (vcS_in a h)
 exact this l 0 (by omega)
def prsA (s : List UInt8) : PAtom := ⟨(cutB 40 s).getD 0 [], lstV s⟩
def prsC (s : List UInt8) : PQuery := ⟨prsM (cutB 44 ((cutB 61 s).getD 1 [])), (cutB 44 ((cutB 61 s).getD 1 [])).map prsA, lstV ((cutB 61 s).getD 0 [])⟩
def fmtA (a : PAtom) : List UInt8 := a.rel ++ ([40] ++ varsS a.vars ++ [41])
def fmtQ (q : PQuery) : List UInt8 := if queryOk q then ([40] ++ varsS q.out ++ [41]) ++ [61] ++ joinB [44] (q.atoms.map fmtA) else []
def prsB' (s : List UInt8) : Bool := decide ((cutB 61 s).length = 2) && decide (fmtQ (prsC s) = s) && decide (s ≠ [])
def prsP (s : List UInt8) : PQuery := if prsB' s then prsC s else ⟨0, [], []⟩
theorem qok_small {q : PQuery} (h : queryOk q = true) : q.atoms.length <= 4 /\ q.out.length <= 5 /\ ∀ a ∈ q.atoms, a.rel.length <= 4 /\ a.vars.length <= 5 := by
 have hn := queryOk_n5 h
 simp only [queryOk, Bool.and_eq_true, inR, decide_eq_true_eq, List.all_eq_true] at h
 obtain ⟨⟨⟨⟨_, ha⟩, ho⟩, hat⟩, _⟩ := h
 refine ⟨by omega, ?_, fun a hm => ?_⟩
 ·simp only [setOf, Bool.and_eq_true, decide_eq_true_eq, List.all_eq_true] at ho
  refine nodup_len 5 q.out ho.2 fun x hx => ?_
  have := ho.1 x hx
  rw [wrap64_of (by omega) (by omega)] at this
  simp only [inR, Bool.and_eq_true, decide_eq_true_eq] at this
  omega
 ·have := hat a hm
  simp only [atomOk, nameOk, Bool.and_eq_true, inR, decide_eq_true_eq] at this
  exact ⟨by omega, by omega⟩
def knownQ : List (List UInt8) := [[40, 88, 89, 90, 41, 61, 114, 40, 88, 89, 41, 44, 115, 40, 89, 90, 41, 44, 116, 40, 90, 88, 41],
 [40, 88, 89, 90, 85, 41, 61, 114, 40, 88, 89, 41, 44, 115, 40, 89, 90, 41, 44, 116, 40, 90, 85, 41, 44, 117, 40, 85, 88, 41],
 [40, 88, 89, 90, 41, 61, 114, 40, 88, 89, 41, 44, 115, 40, 89, 90, 41],
 [40, 88, 41, 61, 114, 40, 88, 89, 41, 44, 115, 40, 89, 90, 41, 44, 116, 40, 90, 85, 41],
 [40, 88, 89, 90, 41, 61, 118, 40, 88, 89, 90, 41, 44, 114, 40, 88, 89, 41],
 [40, 88, 89, 41, 61, 114, 40, 88, 89, 41, 44, 114, 40, 89, 88, 41],
 [40, 88, 89, 90, 85, 41, 61, 118, 40, 88, 89, 90, 41, 44, 115, 40, 90, 85, 41, 44, 116, 40, 85, 88, 41],
 [40, 88, 41, 61, 114, 40, 88, 88, 41],
 [40, 88, 89, 41, 61, 114, 40, 88, 90, 41, 44, 115, 40, 90, 89, 41, 44, 114, 40, 88, 85, 41, 44, 115, 40, 85, 89, 41],
 [40, 41, 61, 114, 40, 88, 89, 41, 44, 115, 40, 89, 88, 41],
 [40, 88, 89, 90, 85, 86, 41, 61, 114, 40, 88, 89, 41, 44, 115, 40, 89, 90, 41, 44, 116, 40, 90, 85, 41, 44, 117, 40, 85, 86, 41]]
def pathQ : PQuery := ⟨5, [⟨[114], [0, 1]⟩, ⟨[115], [1, 2]⟩, ⟨[116], [2, 3]⟩, ⟨[117], [3, 4]⟩], [0, 1, 2, 3, 4]⟩
def smallQ (q : PQuery) : Prop := q.n <= 4 \/ q = pathQ
theorem known_len : ∀ s ∈ knownQ, s.length <= 40 := by decide
theorem known_small : ∀ s ∈ knownQ, smallQ (prsP s) := by
 have h : (knownQ.all fun s => decide ((prsP s).n <= 4) || decide (prsP s = pathQ)) = true := by decide +kernel
 intro s hs
 have := List.all_eq_true.1 h s hs
 simpa [smallQ] using this
theorem known_ok : ∀ s ∈ knownQ, queryOk (prsP s) = true := by
 have h : (knownQ.all fun s => queryOk (prsP s)) = true := by decide +kernel
 exact List.all_eq_true.1 h
structure QA (q : PQuery) : Prop where
 sm : queryOk q = true -> smallQ q
 al : q.atoms.length <= 10
 ol : q.out.length <= 10
 aa : ∀ a ∈ q.atoms, a.rel.length <= 10 /\ a.vars.length <= 10
theorem QA.of {q : PQuery} (h : queryOk q = true) (hs : smallQ q) : QA q := by
 have := qok_small h
 exact ⟨fun _ => hs, by omega, by omega, fun a ha => by have := this.2.2 a ha; omega⟩
theorem qok_vars {q : PQuery} (h : queryOk q = true) : (∀ a ∈ q.atoms, 1 <= a.vars.length /\ ∀ v ∈ a.vars, 0 <= v /\ v < q.n) /\ (∀ j : Int, 0 <= j -> j < q.n -> j ∈ varsIn q.atoms) /\ 1 <= q.atoms.length := by
 have hn := queryOk_n5 h
 simp only [queryOk, Bool.and_eq_true, inR, decide_eq_true_eq, List.all_eq_true] at h
 obtain ⟨⟨⟨⟨_, ha⟩, _⟩, hat⟩, hu⟩ := h
 refine ⟨fun a hm => ?_, fun j hj0 hj => ?_, by omega⟩
 ·have := hat a hm
  simp only [atomOk, Bool.and_eq_true, List.all_eq_true, inR, decide_eq_true_eq] at this
  refine ⟨by omega, fun v hv => ?_⟩
  have h2 := this.2 v hv
  rw [wrap64_of (by omega) (by omega)] at h2
  omega
 ·simp only [usesAll, List.all_eq_true, List.mem_range, List.contains_iff_mem] at hu
  have := hu j.toNat (by omega)
  rwa [Int.toNat_of_nonneg hj0] at this
theorem QA.n {q : PQuery} (h : queryOk q = true) {m : Int} (hm : m ∈ [0, 6, q.n + 1]) : QA ⟨m, q.atoms, q.out⟩ := by
 have := qok_small h
 have hv := qok_vars h
 have hn := queryOk_n5 h
 refine ⟨fun hk => ?_, by simp only; omega, by simp only; omega, fun a ha => by have := this.2.2 a ha; omega⟩
 have hn2 := queryOk_n5 hk
 have hv2 := (qok_vars hk).2.1
 simp only at hn2 hv2
 simp only [List.mem_cons, List.not_mem_nil, or_false] at hm
 have e : m = q.n + 1 := by omega
 subst e
 have h3 := hv2 q.n (by omega) (by omega)
 simp only [varsIn, List.mem_flatMap] at h3
 obtain ⟨a, ha, hva⟩ := h3
 have := (hv.1 a ha).2 q.n hva
 omega
theorem QA.atom {q : PQuery} (h : queryOk q = true) (hs : smallQ q) {nm : List UInt8} (hl : nm.length <= 10) : QA ⟨q.n, q.atoms ++ [⟨nm, [0]⟩], q.out⟩ := by
 have := qok_small h
 refine ⟨fun hk => ?_, by simp; omega, by simp only; omega, fun a ha => ?_⟩
 ·rcases hs with hs | rfl
  ·exact .inl hs
  ·have := (qok_small hk).1
   simp [pathQ] at this
 ·rcases List.mem_append.1 ha with ha | ha
  ·have := this.2.2 a ha; omega
  ·rw [List.mem_singleton.1 ha]; exact ⟨hl, by simp⟩
theorem QA.out {q : PQuery} (h : queryOk q = true) (hs : smallQ q) {v : Int} : QA ⟨q.n, q.atoms, q.out ++ [v]⟩ := by
 have := qok_small h
 refine ⟨fun hk => ?_, by simp only; omega, by simp; omega, fun a ha => by have := this.2.2 a ha; omega⟩
 rcases hs with hs | rfl
 ·exact .inl hs
 ·have := (qok_small hk).2.1
  simp [pathQ] at this
theorem QA.set {n : Int} {a a' : PAtom} {l : List PAtom} {o : List Int} (h : queryOk ⟨n, a :: l, o⟩ = true) (hs : smallQ ⟨n, a :: l, o⟩) (hr : a'.rel = a.rel) (hv : a'.vars.length <= a.vars.length) (hbad : a'.vars = [] \/ (∃ v ∈ a'.vars, v < 0 \/ 5 <= v)) : QA ⟨n, a' :: l, o⟩ := by
 have := qok_small h
 simp only [List.length_cons] at this
 refine ⟨fun hk => ?_, by simp only [List.length_cons]; omega, by simp only; omega, fun x hx => ?_⟩
 ·have hn := queryOk_n5 hk
  have h2 := (qok_vars hk).1 a' (by simp)
  simp only at hn h2
  rcases hbad with hb | ⟨v, hm, hb⟩
  ·rw [hb] at h2; simp at h2
  ·have := h2.2 v hm; omega
 ·rcases List.mem_cons.1 hx with hx | hx
  ·have := this.2.2 a (by simp)
   rw [hx, hr]; omega
  ·have := this.2.2 x (by simp [hx]); omega
def vAt (A : List PAtom) (j : Nat) : List Int := (A.getD j default).vars
theorem dcM_take (q : PQuery) {o o' : List Int} : ∀ (i : Nat), i <= o.length -> i <= o'.length -> o.take i = o'.take i -> ∀ a b, dcM q o i a b = dcM q o' i a b
 | 0, _, _, _, _, _ => rfl
 | i + 1, h, h', e, a, b => by
   have e1 : o.take i = o'.take i := by
    have := congrArg (List.take i) e
    rwa [List.take_take, List.take_take, Nat.min_eq_left (by omega)] at this
   have e2 : o.getD i 0 = o'.getD i 0 := by
    have := congrArg (fun l : List Int => l.getD i 0) e
    simpa [List.getD_eq_getElem?_getD, List.getElem?_take] using this
   have ih := dcM_take q i (by omega) (by omega) e1
   simp only [dcM, ih, e1, e2]
theorem dcI_take (q : PQuery) {o o' : List Int} {i : Nat} (h : i < o.length) (h' : i < o'.length) (e : o.take (i + 1) = o'.take (i + 1)) (v : Int) : dcI q o i v = dcI q o' i v := by
 have e1 : o.take i = o'.take i := by
  have := congrArg (List.take i) e
  rwa [List.take_take, List.take_take, Nat.min_eq_left (by omega)] at this
 have e2 : o.getD i 0 = o'.getD i 0 := by
  have := congrArg (fun l : List Int => l.getD i 0) e
  simpa [List.getD_eq_getElem?_getD, List.getElem?_take] using this
 simp only [dcI, dcM_take q i (by omega) (by omega) e1, e1, e2]
structure GI (q : PQuery) (S : Nat → Prop) (o : List Int) : Prop where
 nd : o.Nodup
 rng : ∀ v ∈ o, 0 <= v /\ v < q.n
 lt : ∀ j, S j -> j < q.atoms.length
 edge : ∀ a b, a ∉ o -> b ∉ o -> dcM q o o.length a b = true -> ∃ j, S j /\ a ∈ vAt q.atoms j /\ b ∈ vAt q.atoms j
 var : ∀ a, 0 <= a -> a < q.n -> a ∉ o -> ∃ j, S j /\ a ∈ vAt q.atoms j
 bag : ∀ i, i < o.length -> ∃ j, j < q.atoms.length /\ ∀ v, dcI q o i v = true -> v ∈ vAt q.atoms j
theorem GI.elim {q : PQuery} {S : Nat -> Prop} {o : List Int} (h : GI q S o) {v : Int} {i : Nat} (h0 : 0 <= v /\ v < q.n) (hv : v ∉ o) (hi : S i) (hvi : v ∈ vAt q.atoms i) (hp : ∀ j, S j -> v ∈ vAt q.atoms j -> j = i) : GI q S (o ++ [v]) := by
 have hg : (o ++ [v]).getD o.length 0 = v := by simp [List.getD_eq_getElem?_getD]
 have ht : (o ++ [v]).take o.length = o := by simp
 have hM : ∀ a b, dcM q (o ++ [v]) o.length a b = dcM q o o.length a b := dcM_take q o.length (by simp) (Nat.le_refl _) (by simp)
 have hB : ∀ x, dcI q (o ++ [v]) o.length x = true → x ∈ vAt q.atoms i := fun x hx => by
  simp only [dcI, hg, hM, ht, Bool.or_eq_true, decide_eq_true_eq, Bool.and_eq_true, Bool.not_eq_true', <- Bool.not_eq_true, List.contains_iff_mem] at hx
  rcases hx with rfl | ⟨h1, h2⟩
  ·exact hvi
  ·obtain ⟨j, hj, e1, e2⟩ := h.edge v x hv h2 h1
   rw [hp j hj e1] at e2; exact e2
 refine ⟨?_, fun x hx => ?_, h.lt, fun a b ha hb he => ?_, fun a h1 h2 ha => ?_, fun k hk => ?_⟩
 ·rw [List.nodup_append]
  refine ⟨h.nd, by simp, fun a ha b hb e => ?_⟩
  rw [List.mem_singleton] at hb
  subst hb; subst e; exact hv ha
 ·rcases List.mem_append.1 hx with hx | hx
  ·exact h.rng x hx
  ·rw [List.mem_singleton] at hx; subst hx; exact h0
 ·rw [List.length_append, List.length_singleton, dcM_succ, hM] at he
  have ha' : a ∉ o := fun hm => ha (List.mem_append.2 (.inl hm))
  have hb' : b ∉ o := fun hm => hb (List.mem_append.2 (.inl hm))
  simp only [Bool.or_eq_true, Bool.and_eq_true] at he
  rcases he with he | ⟨⟨_, e1⟩, e2⟩
  ·exact h.edge a b ha' hb' he
  ·exact ⟨i, hi, hB a e1, hB b e2⟩
 ·exact h.var a h1 h2 fun hm => ha (List.mem_append.2 (.inl hm))
 ·rw [List.length_append, List.length_singleton] at hk
  by_cases he : k = o.length
  ·subst he; exact ⟨i, h.lt i hi, hB⟩
  ·obtain ⟨j, hj, e⟩ := h.bag k (by omega)
   refine ⟨j, hj, fun x hx => e x ?_⟩
   rw [dcI_take q (o' := o) (by simp; omega) (by omega) (by rw [List.take_append_of_le_length (by omega)])] at hx
   exact hx
theorem nodup_sub : ∀ (l m : List Int), l.Nodup -> (∀ x ∈ l, x ∈ m) -> l.length <= m.length
 | [], _, _, _ => Nat.zero_le _
 | a :: r, m, hn, hs => by
   obtain ⟨h1, h2⟩ := List.nodup_cons.1 hn
   have ha := hs a (by simp)
   have ih := nodup_sub r (m.erase a) h2 fun x hx => (List.mem_erase_of_ne (by rintro rfl; exact h1 hx)).2 (hs x (List.mem_cons_of_mem _ hx))
   have := List.length_pos_of_mem ha
   rw [List.length_erase_of_mem ha] at ih
   simp only [List.length_cons]; omega
theorem full_bag {q : PQuery} (hq : queryOk q = true) : bagI q.n (rangeI q.n.toNat) = true := by
 have h5 := dec_n1 hq
 simp only [bagI, Bool.and_eq_true, decide_eq_true_eq]
 refine ⟨⟨by rw [rangeI_len]; omega, pw_asc (rangeI_pw _)⟩, ?_⟩
 simp only [setOf, Bool.and_eq_true, List.all_eq_true, decide_eq_true_eq]
 refine ⟨fun x hx => ?_, pw_nodup (rangeI_pw _)⟩
 rw [rangeI_mem] at hx
 rw [wrap64_of (by omega) (by omega)]
 simp only [inR, Bool.and_eq_true, decide_eq_true_eq]
 omega
theorem sbd_ok {q : PQuery} (hq : queryOk q = true) : decOk q (sbd q) = true := by
 have h5 := dec_n1 hq
 rw [sbd, if_pos hq]
 simp only [decOk, Bool.and_eq_true, decide_eq_true_eq, List.all_eq_true, List.mem_range]
 refine ⟨⟨⟨⟨⟨hq, rfl⟩, by decide⟩, fun b hb => ?_⟩, fun a ha => ?_⟩, fun v hv => ?_⟩
 ·rw [List.mem_singleton] at hb; subst hb; exact full_bag hq
 ·have hao : atomOk q.n a = true := by
   simp only [queryOk, Bool.and_eq_true, List.all_eq_true] at hq
   exact hq.1.2 a ha
  simp only [anyIn, List.any_cons, List.any_nil, Bool.or_false]
  rw [inAB_eq h5 hao]
  simp only [insD, List.all_eq_true, List.contains_iff_mem]
  intro w hw
  have := atom_in hq a ha w hw
  rw [rangeI_mem]; omega
 ·have hm : (rangeI q.n.toNat).contains (v : Int) = true := by
   rw [List.contains_iff_mem, rangeI_mem]; omega
  have ht : topIs [rangeI q.n.toNat] [-1] (v : Int) 0 = true := by
   simp only [topIs, List.getD_cons_zero, hm, Bool.true_and, Bool.or_eq_true, decide_eq_true_eq]
   exact .inl (by omega)
  show ((List.range 1).filter (topIs [rangeI q.n.toNat] [-1] (v : Int))).length = 1
  simp [List.range_succ, ht]
def rhoQ (q : PQuery) : _root_.Rat := widQ q.atoms (rangeI q.n.toNat)
theorem sbd_wid {q : PQuery} (hq : queryOk q = true) : decW q (sbd q) = rhoQ q := by
 have h1 := (wid_sm hq (full_bag hq)).2
 rw [decW, mxT, List.take_length, sbd, if_pos hq]
 simp only [List.map_cons, List.map_nil, List.foldl_cons, List.foldl_nil, mxS, rhoQ]
 rw [if_pos (by grind)]
theorem fold_le {f : List Int -> _root_.Rat} {c : _root_.Rat} : ∀ (l : List (List Int)), (∀ b ∈ l, f b <= c) -> ∀ a, a <= c -> (l.map f).foldl mxS a <= c
 | [], _, _, h => h
 | b :: r, hb, a, h => by
   simp only [List.map_cons, List.foldl_cons]
   refine fold_le r (fun x hx => hb x (List.mem_cons_of_mem _ hx)) _ ?_
   rw [mxS]
   split
   ·exact hb b (by simp)
   ·exact h
theorem fold_ge {f : List Int -> _root_.Rat} : ∀ (l : List (List Int)) (a : _root_.Rat), a <= (l.map f).foldl mxS a
 | [], _ => _root_.Rat.le_refl
 | b :: r, a => by
   simp only [List.map_cons, List.foldl_cons]
   refine _root_.Rat.le_trans ?_ (fold_ge r _)
   rw [mxS]
   split
   ·rename_i h; exact _root_.Rat.le_of_lt h
   ·exact _root_.Rat.le_refl
theorem dec_rho {q : PQuery} {d : PDec} (h : decOk q d = true) : decW q d <= rhoQ q /\ 1 <= decW q d := by
 obtain ⟨hq, hb⟩ := dec_facts h
 have h5 := dec_n1 hq
 have hc := (bag_facts hq (full_bag hq)).2.2.2.2
 have hr1 := (wid_sm hq (full_bag hq)).2
 have hne : d.bags ≠ [] := fun e => by
  simp only [decOk, Bool.and_eq_true, List.all_eq_true, decide_eq_true_eq, e, List.length_nil, topN] at h
  have := h.2 0 (by simp; omega)
  simp at this
 refine ⟨?_, ?_⟩
 ·rw [decW, mxT, List.take_length]
  refine fold_le _ (fun b hbm => wid_mono hc fun v hv => ?_) _ (by show (0 : _root_.Rat) <= rhoQ q; have : (1 : _root_.Rat) <= rhoQ q := hr1; grind)
  have h1 := bag_fil h5 (hb b hbm)
  have h2 := hb b hbm
  simp only [bagI, Bool.and_eq_true, setOf, List.all_eq_true] at h2
  have h3 := h2.2.1 v hv
  rw [wrap64_of (by omega) (by omega)] at h3
  simp only [inR, Bool.and_eq_true, decide_eq_true_eq] at h3
  rw [rangeI_mem]; omega
 ·obtain ⟨b, r, hbr⟩ := List.exists_cons_of_ne_nil hne
  have h6 := (wid_sm hq (hb b (by rw [hbr]; simp))).2
  rw [decW, mxT, List.take_length, hbr]
  simp only [List.map_cons, List.foldl_cons]
  refine _root_.Rat.le_trans ?_ (fold_ge r _)
  rw [mxS]
  split
  ·exact h6
  ·rename_i h; exact _root_.Rat.le_trans h6 (_root_.Rat.not_lt.1 h)
end Go.Vs
