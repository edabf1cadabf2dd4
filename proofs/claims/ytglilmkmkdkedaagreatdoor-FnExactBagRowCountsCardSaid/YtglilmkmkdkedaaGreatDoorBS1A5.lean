/-
  BS1A5: a part of a proof of this seat: the value-level semantics of Go code without maps, its walk rules, the frame of a row, facts of types, schedules, walks, plain lemmas (Pl82 Pl83 Pl84 Pl85 Pl86 Pl87 Pl88 Pl89 Pl90 Pl91 Pl92 Pl102 Pl103). It holds of every program and state that its hypotheses name.
-/
import Derived.Test.YtglilmkmkdkedaaGreatDoorBS1A4
set_option linter.unusedSimpArgs false
set_option linter.unusedVariables false
set_option linter.unnecessarySimpa false
namespace Go.Vs
theorem dotF_two {a x : Nat -> _root_.Rat} {i j : Nat} : ∀ {n : Nat}, i < n -> j < n -> i ≠ j -> (∀ k, k < n -> k ≠ i -> k ≠ j -> a k * x k = 0) -> dotF n a x = a i * x i + a j * x j
 | 0, h, _, _, _ => by omega
 | n + 1, hi, hj, hij, hz => by
   rw [dotF]
   by_cases e : i = n
   ·subst e
    rw [dotF_one (j := j) (by omega) fun k hk hkj => hz k (by omega) (by omega) hkj]
    grind
   ·by_cases e2 : j = n
    ·subst e2
     rw [dotF_one (j := i) (by omega) fun k hk hki => hz k (by omega) hki (by omega)]
    ·rw [dotF_two (n := n) (i := i) (j := j) (by omega) (by omega) hij fun k hk => hz k (by omega), hz n (by omega) (by omega) (by omega)]
     grind
theorem gj_inv {n : Nat} {m0 : List (List _root_.Rat)} (hl : m0.length = n) (hr : ∀ r ∈ m0, r.length = n + 1) (hb : Bd n 0 m0) : ∀ p, p <= n -> ∀ m, gj m0 p = some m -> GJ n p m0 m /\ Bd n p m
 | 0, _, m, h => by
   simp only [gj, Option.some.injEq] at h
   subst h
   exact ⟨⟨hl, hr, fun i j _ h => by omega, fun i h => by omega, fun y => Iff.rfl⟩, hb⟩
 | p + 1, hp, m, h => by
   rw [gj] at h
   cases e : gj m0 p with
   | none => rw [e] at h; cases h
   | some m1 =>
     obtain ⟨g1, b1⟩ := gj_inv hl hr hb p (by omega) m1 e
     rw [e, Option.bind_some, gjStep] at h
     split at h
     ·rename_i hlt
      simp only [Option.some.injEq] at h
      subst h
      obtain ⟨h1, h2⟩ := piv_lt hlt
      have g2 := g1.swap h1 (by rw [<- g1.len]; exact hlt)
      have b2 := Bd.swap g1 h1 (by rw [<- g1.len]; exact hlt) b1
      have hne : rowQ (swapM m1 p (pivAt m1 p)) p p ≠ 0 := by
       have hp' : p < m1.length := by rw [g1.len]; omega
       rw [rowQ, swap_get hp' hlt]
       split
       ·rename_i e; rw [<- e] at h2; exact h2
       ·rw [if_pos rfl]; exact h2
      exact ⟨g2.step (by omega) hne, Bd.step g2 (by omega) hne b2⟩
     ·cases h
theorem gj_ex {n : Nat} {m0 : List (List _root_.Rat)} (hl : m0.length = n) (hr : ∀ r ∈ m0, r.length = n + 1) (hb : Bd n 0 m0) (hK : Ker n (m0.map fnL)) : ∀ p, p <= n -> ∃ m, gj m0 p = some m
 | 0, _ => ⟨m0, rfl⟩
 | p + 1, hp => by
   obtain ⟨m, hm⟩ := gj_ex hl hr hb hK p (by omega)
   obtain ⟨g, _⟩ := gj_inv hl hr hb p (by omega) m hm
   rw [gj, hm, Option.bind_some, gjStep]
   split
   ·exact ⟨_, rfl⟩
   ·rename_i hno
    exfalso
    have hpz := piv_none hno
    obtain ⟨y, hy⟩ : ∃ y : Nat -> _root_.Rat, y = fun k => if k < p then - rowQ m k p / rowQ m k k else if k = p then 1 else 0 := ⟨_, rfl⟩
    have y1 : ∀ k, k < p -> y k = - rowQ m k p / rowQ m k k := fun k hk => by rw [hy]; simp only [if_pos hk]
    have y2 : y p = 1 := by rw [hy]; simp
    have y3 : ∀ k, p < k -> y k = 0 := fun k hk => by rw [hy]; simp only [if_neg (show ¬ k < p by omega), if_neg (show ¬ k = p by omega)]
    have hz : ∀ r ∈ m, dotF (n + 1) (fnL r) y = 0 := fun r hr' => by
     obtain ⟨i, hi, rfl⟩ := List.mem_iff_getElem.1 hr'
     rw [<- gd hi (d := [])]
     show dotF (n + 1) (rowQ m i) y = 0
     have hin : i < n := by rw [<- g.len]; exact hi
     by_cases hip : i < p
     ·rw [dotF_two (i := i) (j := p) (by omega) (by omega) (by omega) fun k hk hki hkp => by
       by_cases hkl : k < p
       ·rw [g.dia i k hin hkl (by omega)]; grind
       ·rw [y3 k (by omega)]; grind]
      rw [y1 i hip, y2]
      have := g.piv i hip
      grind
     ·refine dotF_zero fun k hk => ?_
      by_cases hkl : k < p
      ·rw [g.dia i k hin hkl (by omega)]; grind
      ·by_cases hkp : k = p
       ·subst hkp; rw [hpz i (by omega) hi]; grind
       ·rw [y3 k (by omega)]; grind
    have h0 := (g.sol y).1 hz
    have h1 := hK y (fun a ha => by
     obtain ⟨r, hr', rfl⟩ := List.mem_map.1 ha
     have := h0 r hr'
     rw [dotF, y3 n (by omega)] at this
     grind) p (by omega)
    rw [y2] at h1
    grind
theorem sol_some {n : Nat} {m0 : List (List _root_.Rat)} {v : Nat -> _root_.Rat} (hl : m0.length = n) (hr : ∀ r ∈ m0, r.length = n + 1) (hb : Bd n 0 m0) (hK : Ker n (m0.map fnL)) (hv : ∀ r ∈ m0, dotF n (fnL r) v = fnL r n) :
  solQ n m0 = some ((List.range n).map v) := by
 obtain ⟨m, hm⟩ := gj_ex hl hr hb hK n (Nat.le_refl _)
 obtain ⟨g, _⟩ := gj_inv hl hr hb n (Nat.le_refl _) m hm
 rw [solQ, hm, Option.map_some, outM]
 congr 1
 refine List.map_congr_left fun p hp => ?_
 have hp := List.mem_range.1 hp
 obtain ⟨y, hy⟩ : ∃ y : Nat -> _root_.Rat, y = fun k => if k < n then v k else -1 := ⟨_, rfl⟩
 have y1 : ∀ k, k < n -> y k = v k := fun k hk => by rw [hy]; simp only [if_pos hk]
 have y2 : y n = -1 := by rw [hy]; simp
 have h0 : ∀ r ∈ m0, dotF (n + 1) (fnL r) y = 0 := fun r hr' => by
  rw [dotF, y2, dotF_congr (a' := fnL r) (x' := v) (fun _ _ => rfl) y1, hv r hr']
  grind
 have h1 := (g.sol y).2 h0 _ (getD_mem' (i := p) (d := []) (by rw [g.len]; exact hp))
 have h2 : dotF (n + 1) (rowQ m p) y = 0 := h1
 rw [dotF_two (i := p) (j := n) (by omega) (by omega) (by omega) fun k hk hkp hkn => by rw [g.dia p k hp (by omega) (by omega)]; grind] at h2
 rw [y1 p hp, y2] at h2
 have := g.piv p hp
 grind
def rbQ (N D : Nat) (q : _root_.Rat) : Prop := ∃ s M : Int, s ≠ 0 /\ q * (s : _root_.Rat) = (M : _root_.Rat) /\ M.natAbs <= N /\ s.natAbs <= D
theorem rb_num {N D : Nat} {q : _root_.Rat} (h : rbQ N D q) : q.num.natAbs <= N /\ q.den <= D := by
 obtain ⟨s, M, hs, hq, hM, hD⟩ := h
 have hs' : (s : _root_.Rat) ≠ 0 := fun e => hs (Rat.intCast_inj.1 (by simpa using e))
 have e : q = Rat.divInt M s := by
  rw [Rat.divInt_eq_div]
  grind
 constructor
 ·rw [e, Rat.num_divInt]
  refine Nat.le_trans ?_ hM
  rw [Int.natAbs_ediv_of_dvd (Int.dvd_trans (Int.gcd_dvd_right _ _) (Int.dvd_mul_left _ _)), Int.natAbs_mul]
  refine Nat.le_trans (Nat.div_le_self _ _) ?_
  have : s.sign.natAbs ≤ 1 := by
   rcases Int.lt_trichotomy s 0 with h | h | h
   ·rw [Int.sign_eq_neg_one_of_neg h]; decide
   ·exact absurd h hs
   ·rw [Int.sign_eq_one_of_pos h]; decide
  have := Nat.mul_le_mul_right M.natAbs this
  omega
 ·rw [e, Rat.den_divInt, if_neg hs]
  exact Nat.le_trans (Nat.div_le_self _ _) hD
def smQ (q : _root_.Rat) : Prop := q.num.natAbs <= 1000000000 /\ q.den <= 1000000000
theorem rb_sm {N D : Nat} {q : _root_.Rat} (h : rbQ N D q) (h1 : N <= 1000000000) (h2 : D <= 1000000000) : smQ q := by
 have := rb_num h
 exact ⟨by omega, by omega⟩
theorem bb4 {p : Nat} (h : p <= 4) : bbQ p <= 32768 /\ cbQ p <= 2048 := by
 have : p = 0 \/ p = 1 \/ p = 2 \/ p = 3 \/ p = 4 := by omega
 rcases this with rfl | rfl | rfl | rfl | rfl <;> simp [bbQ, cbQ]
theorem bb3 {p : Nat} (h : p <= 3) : bbQ p <= 128 /\ cbQ p <= 16 := by
 have : p = 0 \/ p = 1 \/ p = 2 \/ p = 3 := by omega
 rcases this with rfl | rfl | rfl | rfl <;> simp [bbQ, cbQ]
structure SafeS (n p : Nat) (m : List (List _root_.Rat)) : Prop where
 at_ : ∀ i k, i < n -> k <= n -> smQ (rowQ m i k)
 f : ∀ i, i < n -> smQ (rowQ m i p / rowQ m p p)
 q : ∀ i k, i < n -> k <= n -> smQ (rowQ m i p / rowQ m p p * rowQ m p k)
 d : ∀ i k, i < n -> k <= n -> smQ (rowQ m i k - rowQ m i p / rowQ m p p * rowQ m p k)
theorem bd_at {n p : Nat} {m : List (List _root_.Rat)} (h : Bd n p m) (hp : p <= 4) {i k : Nat} (hi : i < n) (hk : k <= n) : smQ (rowQ m i k) := by
 obtain ⟨D, _, _, h3⟩ := h
 obtain ⟨s, M, r, _⟩ := h3 i hi
 have := bb4 hp
 have := r.sc
 have := r.bd k hk
 exact rb_sm (N := 32768) (D := 2048) ⟨s, M k, r.ne, r.eq k hk, by omega, by omega⟩ (by omega) (by omega)
theorem bd_safe {n p : Nat} {m : List (List _root_.Rat)} (h : Bd n p m) (hp : p <= 3) (hpn : p < n) (hne : rowQ m p p ≠ 0) : SafeS n p m := by
 have h0 := h
 obtain ⟨D, _, _, h3⟩ := h
 obtain ⟨sp, P, rp, _⟩ := h3 p hpn
 have hb := bb3 hp
 have hP : P p ≠ 0 := fun e => by
  have := rp.eq p (by omega)
  rw [e] at this
  have hs : (sp : _root_.Rat) ≠ 0 := fun e => rp.ne (Rat.intCast_inj.1 (by simpa using e))
  have : rowQ m p p * (sp : _root_.Rat) = 0 := by simpa using this
  grind
 have cut : ∀ {a b : Int} {x y X Y : Nat}, a.natAbs <= x -> b.natAbs <= y -> x <= X -> y <= Y -> (a * b).natAbs <= X * Y := fun h1 h2 h3 h4 => Nat.le_trans (natAbs_mul_le h1 h2) (Nat.mul_le_mul h3 h4)
 refine ⟨fun i k hi hk => bd_at h0 (by omega) hi hk, fun i hi => ?_, fun i k hi hk => ?_, fun i k hi hk => ?_⟩
 all_goals obtain ⟨s, M, ri, _⟩ := h3 i hi
 all_goals have hs := Int.mul_ne_zero ri.ne hP
 all_goals have hsb : (s * P p).natAbs <= 16 * 128 := cut ri.sc (rp.bd p (by omega)) hb.2 hb.1
 ·exact rb_sm (N := 128 * 16) (D := 16 * 128) ⟨s * P p, M p * sp, hs, by rw [Rat.intCast_mul, Rat.intCast_mul]; exact el_f hne (ri.eq p (by omega)) (rp.eq p (by omega)), cut (ri.bd p (by omega)) rp.sc hb.1 hb.2, hsb⟩ (by omega) (by omega)
 ·exact rb_sm (N := 128 * 128) (D := 16 * 128) ⟨s * P p, M p * P k, hs, by rw [Rat.intCast_mul, Rat.intCast_mul]; exact el_q hne (ri.eq p (by omega)) (rp.eq p (by omega)) (rp.eq k hk), cut (ri.bd p (by omega)) (rp.bd k hk) hb.1 hb.1, hsb⟩ (by omega) (by omega)
 ·refine rb_sm (N := 2 * (128 * 128)) (D := 16 * 128) ⟨s * P p, P p * M k - M p * P k, hs, by rw [Rat.intCast_mul, Rat.intCast_sub, Rat.intCast_mul, Rat.intCast_mul]; exact el_num hne (ri.eq k hk) (ri.eq p (by omega)) (rp.eq p (by omega)) (rp.eq k hk), ?_, hsb⟩ (by omega) (by omega)
  have a1 : (P p * M k).natAbs <= 128 * 128 := cut (rp.bd p (by omega)) (ri.bd k hk) hb.1 hb.1
  have a2 : (M p * P k).natAbs <= 128 * 128 := cut (ri.bd p (by omega)) (rp.bd k hk) hb.1 hb.1
  have a3 := natAbs_sub_le' (P p * M k) (M p * P k)
  omega
structure SolB (n : Nat) (x : List _root_.Rat) : Prop where
 len : x.length = n
 ex : ∃ D : Int, D ≠ 0 /\ D.natAbs <= 2048 /\ ∀ k, k < n -> ∃ X : Int, fnL x k * (D : _root_.Rat) = (X : _root_.Rat) /\ X.natAbs <= 67108864
theorem sol_bd {n : Nat} {m0 : List (List _root_.Rat)} {x : List _root_.Rat} (hn : n <= 4) (hl : m0.length = n) (hr : ∀ r ∈ m0, r.length = n + 1) (hb : Bd n 0 m0) (h : solQ n m0 = some x) : SolB n x := by
 rw [solQ] at h
 cases e : gj m0 n with
 | none => rw [e] at h; cases h
 | some m =>
   obtain ⟨g, b⟩ := gj_inv hl hr hb n (Nat.le_refl _) m e
   rw [e, Option.map_some, Option.some.injEq] at h
   subst h
   obtain ⟨D, h1, h2, h3⟩ := b
   have hb := bb4 hn
   refine ⟨by simp [outM], D, h1, by omega, fun k hk => ?_⟩
   obtain ⟨s, M, r, he⟩ := h3 k hk
   obtain ⟨x, hx⟩ := he hk
   have hxn : x ≠ 0 := fun e => h1 (by rw [hx, e, Int.mul_zero])
   have hMn : M k ≠ 0 := fun e => h1 (by rw [hx, e, Int.zero_mul])
   have hxb : x.natAbs ≤ 2048 := by
    have h4 : (M k * x).natAbs <= 2048 := by rw [<- hx]; omega
    rw [Int.natAbs_mul] at h4
    have h5 := Nat.mul_le_mul_right x.natAbs (show 1 <= (M k).natAbs by omega)
    omega
   refine ⟨M n * x, ?_, ?_⟩
   ·rw [fnL, gd (by simpa [outM] using hk)]
    simp only [outM, List.getElem_map, List.getElem_range]
    have e1 := r.eq k (by omega)
    have e2 := r.eq n (by omega)
    have e3 := g.piv k hk
    rw [hx, Rat.intCast_mul, Rat.intCast_mul]
    grind
   ·exact Nat.le_trans (natAbs_mul_le (Nat.le_trans (r.bd n (by omega)) hb.1) hxb) (by omega)
def combs {α : Type} : Nat → List α → List (List α)
 | 0, _ => [[]]
 | _ + 1, [] => []
 | n + 1, a :: l => (combs n l).map (a :: ·) ++ combs (n + 1) l
theorem combs_mem {α : Type} : ∀ {n : Nat} {l M : List α}, M ∈ combs n l ↔ M.Sublist l /\ M.length = n
 | 0, l, M => by
   simp only [combs, List.mem_singleton]
   constructor
   ·rintro rfl; exact ⟨List.nil_sublist _, rfl⟩
   ·rintro ⟨_, h⟩; exact List.eq_nil_of_length_eq_zero h
 | n + 1, [], M => by
   simp only [combs, List.not_mem_nil, false_iff, not_and, List.sublist_nil]
   rintro rfl; simp
 | n + 1, a :: l, M => by
   simp only [combs, List.mem_append, List.mem_map, combs_mem, List.sublist_cons_iff]
   constructor
   ·rintro (⟨x, ⟨h1, h2⟩, rfl⟩ | ⟨h1, h2⟩)
    ·exact ⟨.inr ⟨x, rfl, h1⟩, by simp [h2]⟩
    ·exact ⟨.inl h1, h2⟩
   ·rintro ⟨h | ⟨x, rfl, h⟩, h2⟩
    ·exact .inr ⟨h, h2⟩
    ·exact .inl ⟨x, ⟨h, by simpa using h2⟩, rfl⟩
def unitR (n j : Nat) : List _root_.Rat := (List.range n).map fun k => if k = j then 1 else 0
def augR (A : List (List _root_.Rat)) (n : Nat) : List (List _root_.Rat) := A.map (· ++ [1]) ++ (List.range n).map fun j => unitR n j ++ [0]
def sumQ (x : List _root_.Rat) : _root_.Rat := dotF x.length (fun _ => 1) (fnL x)
def feasQ (A : List (List _root_.Rat)) (x : List _root_.Rat) : Bool := x.all (fun q => decide (0 <= q)) && A.all fun r => decide (1 <= dotF x.length (fnL r) (fnL x))
def addPt (out : List (List _root_.Rat)) (x : List _root_.Rat) : List (List _root_.Rat) := if x ∈ out then out else out ++ [x]
def ptStep (A : List (List _root_.Rat)) (n : Nat) (out : List (List _root_.Rat)) (M : List (List _root_.Rat)) : List (List _root_.Rat) := match solQ n M with
 | some x => if feasQ A x then addPt out x else out
 | none => out
def ptsQ (A : List (List _root_.Rat)) (n : Nat) : List (List _root_.Rat) := (combs n (augR A n)).foldl (ptStep A n) []
def bestS (b : Option (List _root_.Rat × _root_.Rat)) (x : List _root_.Rat) : Option (List _root_.Rat × _root_.Rat) := match b with
 | none => some (x, sumQ x)
 | some p => if sumQ x < p.2 then some (x, sumQ x) else some p
def bestQ (l : List (List _root_.Rat)) : Option (List _root_.Rat × _root_.Rat) := l.foldl bestS none
def minQ (A : List (List _root_.Rat)) (n : Nat) : Option (List _root_.Rat × _root_.Rat) := bestQ (ptsQ A n)
theorem addPt_mem {out : List (List _root_.Rat)} {x y : List _root_.Rat} : y ∈ addPt out x ↔ y ∈ out \/ y = x := by
 rw [addPt]
 split
 ·rename_i h
  constructor
  ·exact .inl
  ·rintro (h1 | rfl)
   ·exact h1
   ·exact h
 ·simp
theorem ptStep_mem {A : List (List _root_.Rat)} {n : Nat} {out M : List (List _root_.Rat)} {y : List _root_.Rat} : y ∈ ptStep A n out M ↔ y ∈ out \/ (solQ n M = some y /\ feasQ A y = true) := by
 rw [ptStep]
 cases h : solQ n M with
 | none => simp
 | some x =>
   simp only [Option.some.injEq]
   split
   ·rename_i hf
    rw [addPt_mem]
    constructor
    ·rintro (h | rfl)
     ·exact .inl h
     ·exact .inr ⟨rfl, hf⟩
    ·rintro (h | ⟨rfl, _⟩)
     ·exact .inl h
     ·exact .inr rfl
   ·rename_i hf
    constructor
    ·exact .inl
    ·rintro (h | ⟨rfl, h⟩)
     ·exact h
     ·exact absurd h hf
theorem pts_fold {A : List (List _root_.Rat)} {n : Nat} {y : List _root_.Rat} : ∀ (l : List (List (List _root_.Rat))) (out : List (List _root_.Rat)), y ∈ l.foldl (ptStep A n) out ↔ y ∈ out \/ ∃ M ∈ l, solQ n M = some y /\ feasQ A y = true
 | [], out => by simp
 | M :: l, out => by
   rw [List.foldl_cons, pts_fold l, ptStep_mem]
   simp only [List.mem_cons]
   constructor
   ·rintro ((h | h) | ⟨M', hM, h⟩)
    ·exact .inl h
    ·exact .inr ⟨M, .inl rfl, h⟩
    ·exact .inr ⟨M', .inr hM, h⟩
   ·rintro (h | ⟨M', rfl | hM, h⟩)
    ·exact .inl (.inl h)
    ·exact .inl (.inr h)
    ·exact .inr ⟨M', hM, h⟩
theorem pts_mem {A : List (List _root_.Rat)} {n : Nat} {y : List _root_.Rat} : y ∈ ptsQ A n ↔ ∃ M, M.Sublist (augR A n) /\ M.length = n /\ solQ n M = some y /\ feasQ A y = true := by
 rw [ptsQ, pts_fold]
 simp only [List.not_mem_nil, false_or, combs_mem]
 constructor
 ·rintro ⟨M, ⟨h1, h2⟩, h⟩; exact ⟨M, h1, h2, h⟩
 ·rintro ⟨M, h1, h2, h⟩; exact ⟨M, ⟨h1, h2⟩, h⟩
theorem best_fold : ∀ (l : List (List _root_.Rat)) (b : Option (List _root_.Rat × _root_.Rat)), (∀ p, b = some p -> p.2 = sumQ p.1) ->
  (∀ p, l.foldl bestS b = some p -> p.2 = sumQ p.1 /\ (p.1 ∈ l \/ b = some p) /\ (∀ x ∈ l, p.2 <= sumQ x) /\ ∀ p', b = some p' -> p.2 <= p'.2) /\ (l.foldl bestS b = none -> b = none /\ l = [])
 | [], b, hb => by
   refine ⟨fun p hp => ⟨hb p hp, .inr hp, by simp, fun p' hp' => ?_⟩, fun h => ⟨h, rfl⟩⟩
   rw [List.foldl_nil] at hp
   rw [hp, Option.some.injEq] at hp'
   subst hp'; exact Rat.le_refl
 | x :: l, b, hb => by
   have hs : ∃ p, bestS b x = some p ∧ p.2 = sumQ p.1 ∧ (p.1 = x ∨ b = some p) ∧ p.2 ≤ sumQ x ∧ ∀ p', b = some p' → p.2 ≤ p'.2 := by
    cases b with
    | none => exact ⟨(x, sumQ x), rfl, rfl, .inl rfl, Rat.le_refl, fun p' h => by cases h⟩
    | some q =>
      simp only [bestS]
      by_cases h : sumQ x < q.2
      ·rw [if_pos h]
       exact ⟨(x, sumQ x), rfl, rfl, .inl rfl, Rat.le_refl, fun p' h' => by simp only [Option.some.injEq] at h'; subst h'; exact Rat.le_of_lt h⟩
      ·rw [if_neg h]
       exact ⟨q, rfl, hb q rfl, .inr rfl, by grind, fun p' h' => by simp only [Option.some.injEq] at h'; subst h'; exact Rat.le_refl⟩
   obtain ⟨q, h1, h2, h3, h4, h5⟩ := hs
   rw [List.foldl_cons, h1]
   obtain ⟨i1, i2⟩ := best_fold l (some q) fun p hp => by simp only [Option.some.injEq] at hp; subst hp; exact h2
   refine ⟨fun p hp => ?_, fun h => absurd (i2 h).1 (by simp)⟩
   obtain ⟨j1, j2, j3, j4⟩ := i1 p hp
   have j5 := j4 q rfl
   refine ⟨j1, ?_, fun y hy => ?_, fun p' hp' => by have := h5 p' hp'; grind⟩
   ·rcases j2 with h | h
    ·exact .inl (List.mem_cons_of_mem _ h)
    ·simp only [Option.some.injEq] at h
     subst h
     rcases h3 with h | h
     ·exact .inl (by rw [h]; simp)
     ·exact .inr h
   ·rcases List.mem_cons.1 hy with rfl | hy
    ·grind
    ·exact j3 y hy
theorem best_some {l : List (List _root_.Rat)} (h : l ≠ []) : ∃ p, bestQ l = some p /\ p.2 = sumQ p.1 /\ p.1 ∈ l /\ ∀ x ∈ l, p.2 <= sumQ x := by
 obtain ⟨h1, h2⟩ := best_fold l none (fun p h => by cases h)
 cases e : l.foldl bestS none with
 | none => exact absurd (h2 e).2 h
 | some p =>
   obtain ⟨a, b, c, _⟩ := h1 p e
   refine ⟨p, e, a, ?_, c⟩
   rcases b with b | b
   ·exact b
   ·cases b
structure Mat01 (A : List (List _root_.Rat)) (n : Nat) : Prop where
 len : ∀ r ∈ A, r.length = n
 z : ∀ r ∈ A, ∀ q ∈ r, q = 0 \/ q = 1
 one : ∀ r ∈ A, ∃ q ∈ r, q = 1
def feasC (A : List (List _root_.Rat)) (n : Nat) (y : Nat -> _root_.Rat) : Prop := (∀ k, k < n -> 0 <= y k) /\ ∀ r ∈ A, 1 <= dotF n (fnL r) y
theorem unit_get {n j k : Nat} (hk : k < n) : fnL (unitR n j) k = if k = j then 1 else 0 := by
 rw [fnL, gd (by simpa [unitR] using hk)]; simp [unitR]
theorem app_get {r : List _root_.Rat} {n : Nat} {b : _root_.Rat} (hr : r.length = n) : (∀ k, k < n -> fnL (r ++ [b]) k = fnL r k) /\ fnL (r ++ [b]) n = b := by
 constructor
 ·intro k hk
  rw [fnL, fnL, gd (by simp; omega), gd (by omega), List.getElem_append_left]
 ·rw [fnL, gd (by simp; omega)]
  simp [<- hr]
theorem aug_mem {A : List (List _root_.Rat)} {n : Nat} {r : List _root_.Rat} : r ∈ augR A n ↔ (∃ a ∈ A, r = a ++ [1]) \/ ∃ j, j < n /\ r = unitR n j ++ [0] := by
 simp only [augR, List.mem_append, List.mem_map, List.mem_range]
 constructor
 ·rintro (⟨a, h, rfl⟩ | ⟨j, h, rfl⟩)
  ·exact .inl ⟨a, h, rfl⟩
  ·exact .inr ⟨j, h, rfl⟩
 ·rintro (⟨a, h, rfl⟩ | ⟨j, h, rfl⟩)
  ·exact .inl ⟨a, h, rfl⟩
  ·exact .inr ⟨j, h, rfl⟩
theorem aug_len {A : List (List _root_.Rat)} {n : Nat} (h : Mat01 A n) : ∀ r ∈ augR A n, r.length = n + 1 := fun r hr => by
 rcases aug_mem.1 hr with ⟨a, ha, rfl⟩ | ⟨j, _, rfl⟩
 ·simp [h.len a ha]
 ·simp [unitR]
theorem aug_01 {A : List (List _root_.Rat)} {n : Nat} (h : Mat01 A n) : ∀ r ∈ augR A n, ∀ q ∈ r, q = 0 \/ q = 1 := fun r hr q hq => by
 rcases aug_mem.1 hr with ⟨a, ha, rfl⟩ | ⟨j, _, rfl⟩
 ·rcases List.mem_append.1 hq with hq | hq
  ·exact h.z a ha q hq
  ·exact .inr (List.mem_singleton.1 hq)
 ·rcases List.mem_append.1 hq with hq | hq
  ·obtain ⟨k, _, rfl⟩ := List.mem_map.1 hq
   split
   ·exact .inr rfl
   ·exact .inl rfl
  ·exact .inl (List.mem_singleton.1 hq)
theorem bd_01 {n : Nat} {M : List (List _root_.Rat)} (hl : M.length = n) (h : ∀ r ∈ M, ∀ q ∈ r, q = 0 \/ q = 1) : Bd n 0 M := by
 refine ⟨1, by omega, by simp [cbQ], fun i hi => ⟨1, fun k => if rowQ M i k = 1 then 1 else 0, ⟨by omega, by simp [cbQ], fun k _ => ?_, fun k _ => ?_⟩, fun h => by omega⟩⟩
 ·have hr := h _ (getD_mem' (i := i) (d := []) (by omega))
  have : rowQ M i k = 0 ∨ rowQ M i k = 1 := by
   by_cases hk : k < (M.getD i []).length
   ·rw [rowQ, fnL, gd hk]
    exact hr _ (List.getElem_mem hk)
   ·left
    rw [rowQ, fnL, List.getD, List.getElem?_eq_none (by omega)]; rfl
  rcases this with e | e
  ·rw [e, if_neg (by grind)]; simp
  ·rw [e, if_pos rfl]; simp
 ·simp only [bbQ]
  split <;> decide
theorem range_fn {n : Nat} {v : Nat -> _root_.Rat} {k : Nat} (hk : k < n) : fnL ((List.range n).map v) k = v k := by
 rw [fnL, gd (by simpa using hk)]; simp
theorem min_cov {A : List (List _root_.Rat)} {n : Nat} (h : Mat01 A n) : ∃ p, minQ A n = some p /\ p.1.length = n /\ p.2 = dotF n (fun _ => 1) (fnL p.1) /\ feasC A n (fnL p.1) /\ ∀ y, feasC A n y -> p.2 <= dotF n (fun _ => 1) y := by
 have hrow : ∀ r ∈ augR A n, r.length = n + 1 := aug_len h
 have key : ∀ y, feasC A n y → ∃ x ∈ ptsQ A n, x.length = n ∧ sumQ x ≤ dotF n (fun _ => 1) y := fun y hy => by
  obtain ⟨C, hC⟩ : ∃ C : List Cst, C = (augR A n).map fun r => (fnL r, fnL r n) := ⟨_, rfl⟩
  have hfe : ∀ y, feasF n C y ↔ feasC A n y := fun y => by
   constructor
   ·intro hf
    refine ⟨fun k hk => ?_, fun r hr => ?_⟩
    ·have h1 := hf (fnL (unitR n k ++ [0]), fnL (unitR n k ++ [0]) n) (by rw [hC]; exact List.mem_map.2 ⟨_, aug_mem.2 (.inr ⟨k, hk, rfl⟩), rfl⟩)
     have h2 := app_get (r := unitR n k) (n := n) (b := 0) (by simp [unitR])
     simp only [h2.2] at h1
     rw [dotF_congr (a' := fnL (unitR n k)) (x' := y) h2.1 (fun _ _ => rfl), dotF_one (j := k) hk fun i hi hik => by rw [unit_get hi, if_neg hik]; grind, unit_get hk, if_pos rfl] at h1
     grind
    ·have h1 := hf (fnL (r ++ [1]), fnL (r ++ [1]) n) (by rw [hC]; exact List.mem_map.2 ⟨_, aug_mem.2 (.inl ⟨r, hr, rfl⟩), rfl⟩)
     have h2 := app_get (r := r) (n := n) (b := 1) (h.len r hr)
     simp only [h2.2] at h1
     rwa [dotF_congr (a' := fnL r) (x' := y) h2.1 (fun _ _ => rfl)] at h1
   ·rintro ⟨h1, h2⟩ p hp
    rw [hC] at hp
    obtain ⟨r, hr, rfl⟩ := List.mem_map.1 hp
    rcases aug_mem.1 hr with ⟨a, ha, rfl⟩ | ⟨j, hj, rfl⟩
    ·have h3 := app_get (r := a) (n := n) (b := 1) (h.len a ha)
     simp only [h3.2]
     rw [dotF_congr (a' := fnL a) (x' := y) h3.1 (fun _ _ => rfl)]
     exact h2 a ha
    ·have h3 := app_get (r := unitR n j) (n := n) (b := 0) (by simp [unitR])
     simp only [h3.2]
     rw [dotF_congr (a' := fnL (unitR n j)) (x' := y) h3.1 (fun _ _ => rfl), dotF_one (j := j) hj fun i hi hik => by rw [unit_get hi, if_neg hik]; grind, unit_get hj, if_pos rfl]
     have := h1 j hj
     grind
  obtain ⟨v, v1, v2, v3⟩ := vert_ex (n := n) (C := C) (c := fun _ => 1) (fun _ _ => by show (0 : _root_.Rat) ≤ 1; decide) (fun k hk => by
   refine ⟨(fnL (unitR n k ++ [0]), fnL (unitR n k ++ [0]) n), by rw [hC]; exact List.mem_map.2 ⟨_, aug_mem.2 (.inr ⟨k, hk, rfl⟩), rfl⟩, ?_, fun x => ?_⟩
   ·exact (app_get (by simp [unitR])).2
   ·have h2 := app_get (r := unitR n k) (n := n) (b := 0) (by simp [unitR])
    simp only
    rw [dotF_congr (a' := fnL (unitR n k)) (x' := x) h2.1 (fun _ _ => rfl), dotF_one (j := k) hk fun i hi hik => by rw [unit_get hi, if_neg hik]; grind, unit_get hk, if_pos rfl]
    grind) _ y ((hfe y).2 hy) (Nat.le_refl _)
  obtain ⟨B, hB, hBl, hBk⟩ := ker_sub _ _ (Nat.le_refl _) v3
  have he : (C.filter (tgt n v)).map Prod.fst = ((augR A n).filter fun r => tgt n v (fnL r, fnL r n)).map fnL := by
   rw [hC, List.filter_map, List.map_map]
   rfl
  rw [he] at hB
  obtain ⟨M, hM, rfl⟩ := List.sublist_map_iff.1 hB
  have hMs : M.Sublist (augR A n) := hM.trans List.filter_sublist
  have hMt : ∀ r ∈ M, dotF n (fnL r) v = fnL r n := fun r hr => by
   have := (List.mem_filter.1 (hM.subset hr)).2
   simpa [tgt] using this
  have hMl : M.length = n := by simpa using hBl
  have hMr : ∀ r ∈ M, r.length = n + 1 := fun r hr => hrow r (hMs.subset hr)
  have hMb : Bd n 0 M := bd_01 hMl fun r hr => aug_01 h r (hMs.subset hr)
  have hs := sol_some hMl hMr hMb hBk hMt
  have hvf := (hfe v).1 v1
  have hsum : sumQ ((List.range n).map v) = dotF n (fun _ => 1) v := by
   rw [sumQ, List.length_map, List.length_range]
   exact dotF_congr (fun _ _ => rfl) fun k hk => range_fn hk
  refine ⟨(List.range n).map v, pts_mem.2 ⟨M, hMs, hMl, hs, ?_⟩, by simp, ?_⟩
  ·simp only [feasQ, Bool.and_eq_true, List.all_eq_true, decide_eq_true_eq, List.length_map, List.length_range]
   refine ⟨fun q hq => ?_, fun r hr => ?_⟩
   ·obtain ⟨k, hk, rfl⟩ := List.mem_map.1 hq
    exact hvf.1 k (List.mem_range.1 hk)
   ·rw [dotF_congr (a' := fnL r) (x' := v) (fun _ _ => rfl) fun k hk => range_fn hk]
    exact hvf.2 r hr
  ·rw [hsum]; exact v2
 have h1 : feasC A n (fun _ => 1) := by
  refine ⟨fun _ _ => by show (0 : _root_.Rat) <= 1; decide, fun r hr => ?_⟩
  obtain ⟨q, hq, rfl⟩ := h.one r hr
  obtain ⟨i, hi, hqi⟩ := List.mem_iff_getElem.1 hq
  have hl := h.len r hr
  have hz : ∀ k, k < n → 0 ≤ fnL r k := fun k hk => by
   rw [fnL, gd (by omega)]
   rcases h.z r hr _ (List.getElem_mem (show k < r.length by omega)) with e | e <;> rw [e] <;> decide
  have hd : dotF n (fnL r) (fun _ => 1) = dotF n (fun k => fnL r k - if k = i then 1 else 0) (fun _ => 1) + dotF n (fun k => if k = i then 1 else 0) (fun _ => 1) := by
   rw [dotF_comm (fun k => fnL r k - if k = i then 1 else 0), dotF_comm (fun k => if k = i then (1 : _root_.Rat) else 0), <- dotF_add, dotF_comm]
   exact dotF_congr (fun _ _ => rfl) fun k _ => by grind
  have h2 : 0 ≤ dotF n (fun k => fnL r k - if k = i then 1 else 0) (fun _ => 1) := dotF_nonneg fun k hk => by
   by_cases e : k = i
   ·subst e
    have : fnL r k = 1 := by rw [fnL, gd hi, hqi]
    rw [this, if_pos rfl]; grind
   ·have := hz k hk
    rw [if_neg e]; grind
  have h3 : dotF n (fun k => if k = i then (1 : _root_.Rat) else 0) (fun _ => 1) = 1 := by
   rw [dotF_one (j := i) (by omega) fun k _ hk => by rw [if_neg hk]; grind, if_pos rfl]
   grind
  rw [hd, h3]
  grind
 obtain ⟨x0, hx0, _⟩ := key _ h1
 obtain ⟨p, p1, p2, p3, p4⟩ := best_some (List.ne_nil_of_mem hx0)
 obtain ⟨M, hM, hMl, hMs, hMf⟩ := pts_mem.1 p3
 have hpl : p.1.length = n := by
  rw [solQ] at hMs
  cases e : gj M n with
  | none => rw [e] at hMs; cases hMs
  | some m => rw [e, Option.map_some, Option.some.injEq] at hMs; rw [<- hMs]; simp [outM]
 refine ⟨p, p1, hpl, by rw [p2, sumQ, hpl], ?_, fun y hy => ?_⟩
 ·simp only [feasQ, Bool.and_eq_true, List.all_eq_true, decide_eq_true_eq, hpl] at hMf
  exact ⟨fun k hk => by rw [fnL, gd (by omega)]; exact hMf.1 _ (List.getElem_mem _), hMf.2⟩
 ·obtain ⟨x, hx, _, hs⟩ := key y hy
  have := p4 x hx
  grind
theorem tdiv_dvd {a b : Int} (h : b ∣ a) : a.tdiv b = a / b := Int.tdiv_eq_ediv_of_dvd h
theorem q_norm (n d : Int) (hd : 0 < d) : (_root_.Rat.divInt n d).num = n.tdiv (Nat.gcd n.natAbs d.natAbs : Nat) /\ (((_root_.Rat.divInt n d).den : Nat) : Int) = d.tdiv (Nat.gcd n.natAbs d.natAbs : Nat) := by
 have e : _root_.Rat.divInt n d = _root_.Rat.normalize n d.natAbs (by omega) := by
  have : d = (d.natAbs : Int) := by omega
  conv => lhs; rw [this]
  show _root_.mkRat n d.natAbs = _
  rw [_root_.Rat.normalize_eq_mkRat]
 rw [e, _root_.Rat.normalize_eq]
 simp only
 have h1 : ((Nat.gcd n.natAbs d.natAbs : Nat) : Int) ∣ n := Int.ofNat_dvd_left.2 (Nat.gcd_dvd_left _ _)
 have h2 : ((Nat.gcd n.natAbs d.natAbs : Nat) : Int) ∣ d := Int.ofNat_dvd_left.2 (Nat.gcd_dvd_right _ _)
 rw [tdiv_dvd h1, tdiv_dvd h2]
 refine ⟨rfl, ?_⟩
 rw [Int.natCast_ediv]
 congr 1
 omega
theorem q_add (a b : _root_.Rat) : a + b = _root_.Rat.divInt (a.num * b.den + b.num * a.den) ((a.den : Int) * b.den) := by
 rw [_root_.Rat.add_def, _root_.Rat.normalize_eq_mkRat]
 rfl
theorem q_mul (a b : _root_.Rat) : a * b = _root_.Rat.divInt (a.num * b.num) ((a.den : Int) * b.den) := by
 rw [_root_.Rat.mul_def, _root_.Rat.normalize_eq_mkRat]
 rfl
theorem q_self (a : _root_.Rat) : _root_.Rat.divInt a.num a.den = a := _root_.Rat.num_divInt_den a
theorem q_div (a b : _root_.Rat) : a / b = _root_.Rat.divInt (a.num * b.den) ((a.den : Int) * b.num) := by
 rw [_root_.Rat.div_def, _root_.Rat.inv_def]
 conv => lhs; rw [<- q_self a]
 rw [_root_.Rat.divInt_mul_divInt]
theorem q_flip (n d : Int) : _root_.Rat.divInt (-n) (-d) = _root_.Rat.divInt n d := _root_.Rat.neg_divInt_neg n d
theorem q_neg (a : _root_.Rat) : (-a).num = - a.num /\ (-a).den = a.den := ⟨rfl, rfl⟩
theorem q_sub (a b : _root_.Rat) : a - b = a + -b := by grind
def r01 (b : Bool) : _root_.Rat := if b then 1 else 0
def covM (atoms : List PAtom) (bag : List Int) : List (List _root_.Rat) := bag.map fun v => atoms.map fun a => r01 (a.vars.contains v)
def widQ (atoms : List PAtom) (bag : List Int) : _root_.Rat := ((minQ (covM atoms bag) atoms.length).map (·.2)).getD 0
def covered (atoms : List PAtom) (bag : List Int) : Prop := ∀ v ∈ bag, ∃ a ∈ atoms, v ∈ a.vars
theorem covM_01 {atoms : List PAtom} {bag : List Int} (h : covered atoms bag) : Mat01 (covM atoms bag) atoms.length := by
 refine ⟨fun r hr => ?_, fun r hr q hq => ?_, fun r hr => ?_⟩
 ·obtain ⟨v, _, rfl⟩ := List.mem_map.1 hr; simp
 ·obtain ⟨v, _, rfl⟩ := List.mem_map.1 hr
  obtain ⟨a, _, rfl⟩ := List.mem_map.1 hq
  simp only [r01]; split <;> simp
 ·obtain ⟨v, hv, rfl⟩ := List.mem_map.1 hr
  obtain ⟨a, ha, hva⟩ := h v hv
  exact ⟨1, List.mem_map.2 ⟨a, ha, by simp [r01, hva]⟩, rfl⟩
theorem wid_min {atoms : List PAtom} {bag : List Int} (h : covered atoms bag) : ∃ p, minQ (covM atoms bag) atoms.length = some p /\ p.2 = widQ atoms bag /\ p.1.length = atoms.length /\
  p.2 = dotF atoms.length (fun _ => 1) (fnL p.1) /\ feasC (covM atoms bag) atoms.length (fnL p.1) /\ ∀ y, feasC (covM atoms bag) atoms.length y -> p.2 <= dotF atoms.length (fun _ => 1) y := by
 obtain ⟨p, h1, h2, h3, h4, h5⟩ := min_cov (covM_01 h)
 exact ⟨p, h1, by simp [widQ, h1], h2, h3, h4, h5⟩
def qR (q : _root_.Rat) : PRat := ⟨q.num, q.den⟩
theorem qR_inj {a b : _root_.Rat} : qR a = qR b ↔ a = b := by
 constructor
 ·intro h
  have h1 : a.num = b.num := congrArg PRat.num h
  have h2 : (a.den : Int) = b.den := congrArg PRat.den h
  exact _root_.Rat.ext h1 (by omega)
 ·rintro rfl; rfl
def cmpQ (a b : _root_.Rat) : Int := if a < b then -1 else if b < a then 1 else 0
theorem cmpQ_lt {a b : _root_.Rat} : cmpQ a b < 0 ↔ a < b := by
 unfold cmpQ
 split
 ·simp [*]
 ·split <;> simp [*]
theorem cmpQ_eq {a b : _root_.Rat} : cmpQ a b = (if a.num * b.den < b.num * a.den then -1 else if b.num * a.den < a.num * b.den then 1 else 0) := by
 unfold cmpQ
 simp only [_root_.Rat.lt_iff]
theorem mulB {a b : Int} {x y : Nat} (ha : a.natAbs <= x) (hb : b.natAbs <= y) : (a * b).natAbs <= x * y := natAbs_mul_le ha hb
theorem num_ne {q : _root_.Rat} (h : q ≠ 0) : q.num ≠ 0 := fun e => h (_root_.Rat.num_eq_zero.1 e)
theorem sm_pos {q : _root_.Rat} : 0 < (q.den : Int) := by have := q.den_pos; omega
theorem sm_gcd (q : _root_.Rat) : Nat.gcd q.num.natAbs q.den = 1 := q.reduced
theorem sm_neg {q : _root_.Rat} (h : smQ q) : smQ (-q) := ⟨by have := h.1; simp [(q_neg q).1]; exact this, by have := h.2; simp [(q_neg q).2]; exact this⟩
theorem sm_zero : smQ 0 := by constructor <;> decide
theorem sm_one : smQ 1 := by constructor <;> decide
theorem sm_mul {a b : _root_.Rat} (ha : smQ a) (hb : smQ b) : (a.num * b.den).natAbs <= 1000000000000000000 /\ (b.num * a.den).natAbs <= 1000000000000000000 /\ (a.num * b.num).natAbs <= 1000000000000000000 /\ ((a.den : Int) * b.den).natAbs <= 1000000000000000000 /\ ((a.den : Int) * b.num).natAbs <= 1000000000000000000 := by
 have h1 := ha.1
 have h2 := ha.2
 have h3 := hb.1
 have h4 := hb.2
 exact ⟨mulB h1 (y := 1000000000) (by omega), mulB h3 (y := 1000000000) (by omega), mulB h1 h3, mulB (x := 1000000000) (y := 1000000000) (by omega) (by omega), mulB (x := 1000000000) (by omega) h3⟩
theorem den_mul {a b : _root_.Rat} : (0 : Int) < (a.den : Int) * b.den := Int.mul_pos sm_pos sm_pos
theorem norm_num {n d : Int} {q : _root_.Rat} (hq : q = _root_.Rat.divInt n d) (hd : 0 < d) : n.tdiv (Nat.gcd n.natAbs d.natAbs : Nat) = q.num /\ d.tdiv (Nat.gcd n.natAbs d.natAbs : Nat) = q.den := by
 subst hq
 have := q_norm n d hd
 exact ⟨this.1.symm, this.2.symm⟩
theorem gcd_le {n d : Int} (hd : 0 < d) : 1 <= Nat.gcd n.natAbs d.natAbs /\ ((Nat.gcd n.natAbs d.natAbs : Nat) : Int) <= d := by
 have h1 : 0 < d.natAbs := by omega
 have h2 := Nat.gcd_pos_of_pos_right n.natAbs h1
 have h3 := Nat.gcd_le_right n.natAbs h1
 omega
theorem tmod_nat (a b : Nat) : ((a : Int).tmod (b : Int)) = ((a % b : Nat) : Int) := by
 rw [Int.tmod_eq_emod_of_nonneg (by omega)]; simp
theorem sm_i {q : _root_.Rat} (h : smQ q) : -1000000000 <= q.num /\ q.num <= 1000000000 /\ (1 : Int) <= q.den /\ (q.den : Int) <= 1000000000 := by
 have h1 := h.1
 have h2 := h.2
 have h3 := q.den_pos
 omega
def eQ (q : _root_.Rat) : List D := eRat (qR q)
def cR (T : TypeId × Nat) (r : Nat × List _root_.Rat) : List D := [.sl (some r.1) (some T) (r.2.map eQ)]
theorem eQ_def (q : _root_.Rat) : eQ q = [.int .i64 q.num, .int .i64 (q.den : Int)] := rfl
@[simp] theorem eQ_len (q : _root_.Rat) : (eQ q).length = 2 := rfl
@[simp] theorem ids_eQ (q : _root_.Rat) : idsL (eQ q) = [] := rfl
@[simp] theorem ids_eQs (l : List _root_.Rat) : idsLL (l.map eQ) = [] := by
  induction l with
  | nil => rfl
  | cons a r ih => simp [idsLL, ih]
@[simp] theorem hp_eQs (l : List _root_.Rat) : hpLL (l.map eQ) = false := by
  induction l with
  | nil => rfl
  | cons a r ih => simp [hpLL, hpL, eQ, eRat, cI, D.hp] at ih ⊢
@[simp] theorem tk_eQs (l : List _root_.Rat) : tkLL (l.map eQ) = true := by
  induction l with
  | nil => rfl
  | cons a r ih => simp [tkLL, ih, eQ, eRat, cI, tkL, D.tk]
@[simp] theorem re_eQs (φ : Nat → Option D) (l : List _root_.Rat) : reLL φ (l.map eQ) = some (l.map eQ) := by
  induction l with
  | nil => rfl
  | cons a r ih => simp [reLL, ih, eQ, eRat, cI, reL, reD]
@[simp] theorem ids_cR (T : TypeId × Nat) (r : Nat × List _root_.Rat) : idsL (cR T r) = [r.1] := by simp [cR, idsL, D.ids]
@[simp] theorem ids_cRs (T : TypeId × Nat) (l : List (Nat × List _root_.Rat)) : idsLL (l.map (cR T)) = l.map (·.1) := by
  induction l with
  | nil => rfl
  | cons a r ih => simp [idsLL, ih]
@[simp] theorem cR_len (T : TypeId × Nat) (r : Nat × List _root_.Rat) : (cR T r).length = 1 := rfl
@[simp] theorem hp_cRs (T : TypeId × Nat) (l : List (Nat × List _root_.Rat)) : hpLL (l.map (cR T)) = false := by
  induction l with
  | nil => rfl
  | cons a r ih => simp [hpLL, hpL, cR, D.hp] at ih ⊢
@[simp] theorem tk_cRs (T : TypeId × Nat) (l : List (Nat × List _root_.Rat)) : tkLL (l.map (cR T)) = true := by
  induction l with
  | nil => rfl
  | cons a r ih => simp [tkLL, ih, cR, tkL, D.tk]
theorem len_eQs {l l' : List _root_.Rat} (h : l'.length = l.length) : (l'.map eQ).map List.length = (l.map eQ).map List.length := by
 simp only [List.map_map, Function.comp_def, eQ_len, List.map_const', h]
theorem nd_idx {α : Type} {l : List α} (h : l.Nodup) {i j : Nat} {a : α} (hi : l[i]? = some a) (hj : l[j]? = some a) : i = j := by
 obtain ⟨hi', ei⟩ := List.getElem?_eq_some_iff.1 hi
 obtain ⟨hj', ej⟩ := List.getElem?_eq_some_iff.1 hj
 have h1 := List.pairwise_iff_getElem.1 h
 refine Classical.byContradiction fun hne => ?_
 rcases Nat.lt_or_gt_of_ne hne with hlt | hlt
 ·exact h1 i j hi' hj' hlt (ei.trans ej.symm)
 ·exact h1 j i hj' hi' hlt (ej.trans ei.symm)
theorem re_rowQ {φ : Nat -> Option D} {gm : Nat} {TM : Option (TypeId × Nat)} {T : TypeId × Nat} {rows : List (Nat × List _root_.Rat)} {i : Nat} {g : Nat} {r r' : List _root_.Rat} (hi : rows[i]? = some (g, r)) (hl : r'.length = r.length)
  (hnd : (rows.map (·.1)).Nodup) (hgm : φ gm = none) (hg : φ g = some (.sl (some g) (some T) (r'.map eQ))) (ho : ∀ q ∈ rows.map (·.1), q ≠ g -> φ q = none) :
  reV φ (.d (.sl (some gm) TM (rows.map (cR T)))) = .d (.sl (some gm) TM ((rows.set i (g, r')).map (cR T))) := by
 obtain ⟨hlt, he⟩ := List.getElem?_eq_some_iff.1 hi
 have h1 : rows.map (cR T) = (rows.map (cR T)).set i (cR T (g, r)) := by
  rw [<- he, set_same (by simp [hlt])]
 rw [h1, <- set_map]
 refine re_elemD hgm ?_ (fun j e hji hj q hq => ?_) (by simp)
 ·simp only [cR, reL, reD, hg]
  rw [if_pos ⟨trivial, rfl, trivial, len_eQs hl⟩]
 ·rw [List.getElem?_map] at hj
  cases hr : rows[j]? with
  | none => simp [hr] at hj
  | some p =>
    simp only [hr, Option.map_some, Option.some.injEq] at hj
    subst hj
    simp only [ids_cR, List.mem_singleton] at hq
    subst hq
    have hpm : p ∈ rows := List.mem_of_getElem? hr
    refine ho _ (List.mem_map.2 ⟨p, hpm, rfl⟩) fun e => hji ?_
    obtain ⟨hj', hjp⟩ := List.getElem?_eq_some_iff.1 hr
    have a1 : (rows.map (·.1))[j]? = some g := by simp [hr, e]
    have a2 : (rows.map (·.1))[i]? = some g := by simp [hi]
    exact nd_idx hnd a1 a2
theorem VC.erase {P : Program} {f : FuncId} {args : List V} {post : Nat -> V -> Prop} {v : V} (h : VC P f args post) (hv : ∀ n r, post n r -> rp (fun _ => none) r = some v) : VC P f args (fun _ r => r = v) := by
 refine ⟨h.1, fun w vals A hg hLR => (h.2 w vals A hg hLR).mono fun e w' he => ?_⟩
 obtain ⟨val, r, rfl, hb, hvr, _, hp⟩ := he
 have hr := hv _ _ hp
 exact ⟨val, v, rfl, hb, VR.er _ _ _ hvr hr, rp_rd _ _ hr, rfl⟩
theorem fnL_at {l : List _root_.Rat} {i : Nat} (h : i < l.length) : fnL l i = l[i] := by rw [fnL, gd h]
structure DotS (n : Nat) (a x : Nat → _root_.Rat) : Prop where
 sa : ∀ k, k < n -> smQ (a k)
 sx : ∀ k, k < n -> smQ (x k)
 sm : ∀ k, k < n -> smQ (a k * x k)
 ss : ∀ k, k <= n -> smQ (dotF k a x)
theorem sm_01 {q : _root_.Rat} (h : q = 0 \/ q = 1) : smQ q := by
 rcases h with rfl | rfl
 ·exact sm_zero
 ·exact sm_one
theorem sol_dots {n : Nat} {x : List _root_.Rat} (h : SolB n x) (hn : n <= 4) {a : Nat -> _root_.Rat} (ha : ∀ k, k < n -> a k = 0 \/ a k = 1) : DotS n a (fnL x) := by
 obtain ⟨_, D, hD, hDb, hX⟩ := h
 have hx : ∀ k, k < n → smQ (fnL x k) := fun k hk => by
  obtain ⟨X, h1, h2⟩ := hX k hk
  exact rb_sm (N := 67108864) (D := 2048) ⟨D, X, hD, h1, h2, hDb⟩ (by omega) (by omega)
 obtain ⟨c, hc⟩ : ∃ c : Nat, c = 67108864 := ⟨_, rfl⟩
 rw [<- hc] at hX
 have hs : ∀ k, k ≤ n → ∃ M : Int, dotF k a (fnL x) * (D : _root_.Rat) = (M : _root_.Rat) ∧ M.natAbs ≤ k * c := by
  intro k
  induction k with
  | zero => intro _; exact ⟨0, by simp [dotF], by simp⟩
  | succ k ih =>
    intro hk
    obtain ⟨M, h1, h2⟩ := ih (by omega)
    obtain ⟨X, h3, h4⟩ := hX k (by omega)
    rcases ha k (by omega) with e | e
    ·refine ⟨M, ?_, by rw [Nat.succ_mul]; omega⟩
     rw [dotF, e]; grind
    ·refine ⟨M + X, ?_, by rw [Nat.succ_mul]; omega⟩
     rw [dotF, e, Rat.intCast_add]; grind
 refine ⟨fun k hk => sm_01 (ha k hk), hx, fun k hk => ?_, fun k hk => ?_⟩
 ·rcases ha k hk with e | e
  ·rw [e, _root_.Rat.zero_mul]; exact sm_zero
  ·rw [e, _root_.Rat.one_mul]; exact hx k hk
 ·obtain ⟨M, h1, h2⟩ := hs k hk
  have h3 : k * c <= 4 * c := Nat.mul_le_mul_right c (by omega)
  exact rb_sm (N := 268435456) (D := 2048) ⟨D, M, hD, h1, by omega, hDb⟩ (by omega) (by omega)
structure LPok (A : List (List _root_.Rat)) (n : Nat) : Prop where
 m01 : Mat01 A n
 n1 : 1 <= n
 n4 : n <= 4
 m1 : 1 <= A.length
 m5 : A.length <= 5
theorem LPok.sm {A : List (List _root_.Rat)} {n : Nat} (h : LPok A n) {r : List _root_.Rat} (hr : r ∈ A) : ∀ q ∈ r, smQ q := fun q hq => sm_01 (h.m01.z r hr q hq)
theorem rep_sm {m : Nat} : ∀ q ∈ List.replicate m (1 : _root_.Rat), smQ q := fun q hq => by rw [List.eq_of_mem_replicate hq]; exact sm_one
theorem LPok.dots {A : List (List _root_.Rat)} {n : Nat} {x : List _root_.Rat} (h : LPok A n) (hx : SolB n x) {r : List _root_.Rat} (hr : r ∈ A) : DotS n (fnL r) (fnL x) :=
 sol_dots hx h.n4 fun k hk => by
  have hl := h.m01.len r hr
  rw [fnL_at (by omega)]
  exact h.m01.z r hr _ (List.getElem_mem _)
theorem sol_sm {n : Nat} {x : List _root_.Rat} (h : SolB n x) (hn : n <= 4) : ∀ q ∈ x, smQ q := fun q hq => by
 obtain ⟨i, hi, rfl⟩ := List.mem_iff_getElem.1 hq
 have := (sol_dots h hn (a := fun _ => 1) fun _ _ => .inr rfl).sx i (by rw [<- h.len]; exact hi)
 rwa [fnL_at hi] at this
theorem one_at {n k : Nat} (h : k < n) : fnL (List.replicate n (1 : _root_.Rat)) k = 1 := by rw [fnL_at (by simpa using h)]; simp
theorem one_dots {n : Nat} {x : List _root_.Rat} (hx : SolB n x) (hn : n <= 4) : DotS n (fnL (List.replicate n (1 : _root_.Rat))) (fnL x) :=
 sol_dots hx hn fun k hk => .inr (one_at hk)
theorem nneg_num {q : _root_.Rat} : 0 <= q ↔ 0 <= q.num := _root_.Rat.num_nonneg.symm
theorem sumQ_eq {n : Nat} {x : List _root_.Rat} (h : x.length = n) : dotF n (fnL (List.replicate n (1 : _root_.Rat))) (fnL x) = sumQ x := by
 rw [sumQ, h]; exact dotF_congr (fun k hk => one_at hk) fun _ _ => rfl
def elimT (p k : Nat) (piv row : List _root_.Rat) : List _root_.Rat := row.mapIdx fun i x => if p <= i /\ i < k then x - fnL row p / fnL piv p * fnL piv i else x
@[simp] theorem elimT_len {p k : Nat} {piv row : List _root_.Rat} : (elimT p k piv row).length = row.length := by simp [elimT]
theorem elimT_zero {p : Nat} {piv row : List _root_.Rat} : elimT p p piv row = row := by
 apply List.ext_getElem (by simp)
 intro i h1 h2
 simp only [elimT, List.getElem_mapIdx]
 rw [if_neg (by omega)]
theorem elimT_all {p k : Nat} {piv row : List _root_.Rat} (h : row.length <= k) : elimT p k piv row = elimR p piv row := by
 apply List.ext_getElem (by simp [elimR])
 intro i h1 h2
 have hi : i < row.length := by simpa using h1
 simp only [elimT, elimR, List.getElem_mapIdx]
 by_cases e : i < p
 ·rw [if_neg (by omega), if_pos e]
 ·rw [if_pos (by omega), if_neg e]
theorem elimT_at {p k : Nat} {piv row : List _root_.Rat} (h : k < row.length) : (elimT p k piv row)[k]'(by simpa using h) = row[k] := by
 simp only [elimT, List.getElem_mapIdx]
 rw [if_neg (by omega)]
theorem elimT_succ {p k : Nat} {piv row : List _root_.Rat} (hp : p <= k) (h : k < row.length) : elimT p (k + 1) piv row = (elimT p k piv row).set k (row[k] - fnL row p / fnL piv p * fnL piv k) := by
 apply List.ext_getElem (by simp)
 intro i h1 h2
 have hi : i < row.length := by simpa using h1
 rw [List.getElem_set]
 simp only [elimT, List.getElem_mapIdx]
 by_cases e : k = i
 ·subst e; rw [if_pos rfl, if_pos (by omega)]
 ·rw [if_neg e]
  by_cases e2 : p <= i /\ i < k
  ·rw [if_pos e2, if_pos (by omega)]
  ·rw [if_neg e2, if_neg (by omega)]
structure ElimS (n p : Nat) (piv row : List _root_.Rat) : Prop where
 lr : row.length = n + 1
 lv : piv.length = n + 1
 hp : p <= n
 ne : fnL piv p ≠ 0
 f : smQ (fnL row p / fnL piv p)
 r : ∀ k, k <= n -> smQ (fnL row k)
 v : ∀ k, k <= n -> smQ (fnL piv k)
 q : ∀ k, k <= n -> smQ (fnL row p / fnL piv p * fnL piv k)
 d : ∀ k, k <= n -> smQ (fnL row k - fnL row p / fnL piv p * fnL piv k)
theorem elim_zero {p : Nat} {piv row : List _root_.Rat} (h : fnL row p = 0) : elimR p piv row = row := by
 apply List.ext_getElem (by simp [elimR])
 intro i h1 h2
 simp only [elimR, List.getElem_mapIdx]
 split
 ·rfl
 ·simp only [h]; grind
def stepQ (p i : Nat) (m : List (List _root_.Rat)) : List (List _root_.Rat) := m.mapIdx fun j r => if j < i /\ j ≠ p then elimR p (m.getD p []) r else r
@[simp] theorem stepQ_len {p i : Nat} {m : List (List _root_.Rat)} : (stepQ p i m).length = m.length := by simp [stepQ]
theorem stepQ_zero {p : Nat} {m : List (List _root_.Rat)} : stepQ p 0 m = m := by
 apply List.ext_getElem (by simp)
 intro i h1 h2
 simp only [stepQ, List.getElem_mapIdx]
 rw [if_neg (by omega)]
theorem stepQ_all {p i : Nat} {m : List (List _root_.Rat)} (h : m.length <= i) : stepQ p i m = stepM p m := by
 apply List.ext_getElem (by simp [stepM])
 intro j h1 h2
 have hj : j < m.length := by simpa using h1
 simp only [stepQ, stepM, List.getElem_mapIdx]
 by_cases e : j = p
 ·rw [if_neg (by omega), if_pos e]
 ·rw [if_pos ⟨by omega, e⟩, if_neg e]
theorem stepQ_at {p i : Nat} {m : List (List _root_.Rat)} (h : i < m.length) : (stepQ p i m)[i]'(by simpa using h) = m[i] := by
 simp only [stepQ, List.getElem_mapIdx]
 rw [if_neg (by omega)]
theorem stepQ_piv {p i : Nat} {m : List (List _root_.Rat)} (h : p < m.length) : (stepQ p i m)[p]'(by simpa using h) = m[p] := by
 simp only [stepQ, List.getElem_mapIdx]
 rw [if_neg (by simp)]
theorem stepQ_p {p : Nat} {m : List (List _root_.Rat)} : stepQ p (p + 1) m = stepQ p p m := by
 apply List.ext_getElem (by simp)
 intro j h1 h2
 simp only [stepQ, List.getElem_mapIdx]
 by_cases e : j < p
 ·rw [if_pos (by omega), if_pos (by omega)]
 ·rw [if_neg (by omega), if_neg (by omega)]
theorem stepQ_succ {p i : Nat} {m : List (List _root_.Rat)} (h : i < m.length) (hp : p < m.length) (hne : i ≠ p) : stepQ p (i + 1) m = (stepQ p i m).set i (elimR p m[p] m[i]) := by
 apply List.ext_getElem (by simp)
 intro j h1 h2
 rw [List.getElem_set]
 simp only [stepQ, List.getElem_mapIdx, gd hp]
 by_cases e : i = j
 ·subst e; rw [if_pos ⟨by omega, hne⟩, if_pos rfl]
 ·rw [if_neg e]
  by_cases e2 : j < i /\ j ≠ p
  ·rw [if_pos ⟨by omega, e2.2⟩, if_pos e2]
  ·rw [if_neg (fun h => e2 ⟨by omega, h.2⟩), if_neg e2]
theorem SafeS.elim {n p i : Nat} {m : List (List _root_.Rat)} (h : SafeS n p m) (hl : m.length = n) (hr : ∀ r ∈ m, r.length = n + 1) (hp : p < n) (hi : i < n) (hne : rowQ m p p ≠ 0) : ElimS n p (m[p]'(by omega)) (m[i]'(by omega)) := by
 have e1 : ∀ j (hj : j < n), rowQ m j = fnL (m[j]'(by omega)) := fun j hj => by rw [rowQ, gd]
 have := e1 p hp
 have := e1 i hi
 refine ⟨hr _ (List.getElem_mem _), hr _ (List.getElem_mem _), by omega, ?_, ?_, fun k hk => ?_, fun k hk => ?_, fun k hk => ?_, fun k hk => ?_⟩
 ·rw [<- e1 p hp]; exact hne
 ·rw [<- e1 p hp, <- e1 i hi]; exact h.f i hi
 ·rw [<- e1 i hi]; exact h.at_ i k hi hk
 ·rw [<- e1 p hp]; exact h.at_ p k hp hk
 ·rw [<- e1 p hp, <- e1 i hi]; exact h.q i k hi hk
 ·rw [<- e1 p hp, <- e1 i hi]; exact h.d i k hi hk
theorem re_self {g : Nat} {T : TypeId × Nat} {l l' : List _root_.Rat} (h : l'.length = l.length) : reV (one g (.sl (some g) (some T) (l'.map eQ))) (.d (.sl (some g) (some T) (l.map eQ))) = .d (.sl (some g) (some T) (l'.map eQ)) := by
 refine reV_d ?_
 simp only [reD, one, if_true]
 rw [if_pos ⟨trivial, rfl, trivial, len_eQs h⟩]
theorem piv_eq {m : List (List _root_.Rat)} {p k : Nat} (hp : p <= k) (hz : ∀ j, p <= j -> j < k -> rowQ m j p = 0) (h : k = m.length \/ (k < m.length /\ rowQ m k p ≠ 0)) : pivAt m p = k := by
 have hk : k <= m.length := by omega
 have key : (m.drop p).findIdx (fun r => decide (fnL r p ≠ 0)) = k - p := by
  rcases h with h | ⟨h1, h2⟩
  ·have : (m.drop p).findIdx (fun r => decide (fnL r p ≠ 0)) = (m.drop p).length := by
    rw [List.findIdx_eq_length]
    intro x hx
    obtain ⟨j, hj, rfl⟩ := List.mem_iff_getElem.1 hx
    rw [List.length_drop] at hj
    have := hz (p + j) (by omega) (by omega)
    rw [rowQ, gd (by omega)] at this
    simp only [List.getElem_drop, this, ne_eq, not_true_eq_false, decide_false]
   rw [this, List.length_drop]; omega
  ·rw [List.findIdx_eq (by rw [List.length_drop]; omega)]
   constructor
   ·simp only [List.getElem_drop, decide_eq_true_eq]
    rw [rowQ, gd h1] at h2
    have : p + (k - p) = k := by omega
    simp only [this]; exact h2
   ·intro j hj
    have := hz (p + j) (by omega) (by omega)
    rw [rowQ, gd (by omega)] at this
    simp only [List.getElem_drop, this, ne_eq, not_true_eq_false, decide_false]
 unfold pivAt
 rw [key]; omega
theorem gj_none {m0 : List (List _root_.Rat)} {p : Nat} (h : gj m0 p = none) : ∀ q, p <= q -> gj m0 q = none
 | 0, hq => by have : p = 0 := by omega
               subst this; exact h
 | q + 1, hq => by
   by_cases e : p = q + 1
   ·subst e; exact h
   ·rw [gj, gj_none h q (by omega)]; rfl
theorem gj_succ {m0 m : List (List _root_.Rat)} {p : Nat} (h : gj m0 p = some m) : gj m0 (p + 1) = gjStep p m := by rw [gj, h]; rfl
theorem sol_none {n p : Nat} {m0 m : List (List _root_.Rat)} (h : gj m0 p = some m) (hk : ¬ pivAt m p < m.length) (hp : p < n) : solQ n m0 = none := by
 rw [solQ, gj_none (p := p + 1) (by rw [gj_succ h, gjStep, if_neg hk]) n hp]; rfl
structure StpI (n p k : Nat) (R M : List (List _root_.Rat)) : Prop where
 kn : k < n
 pk : p <= k
 safe : SafeS n p (swapM M p k)
 len : (swapM M p k).length = n
 row : ∀ r ∈ swapM M p k, r.length = n + 1
 ne : rowQ (swapM M p k) p p ≠ 0
 nxt : gj R (p + 1) = some (stepM p (swapM M p k))
theorem stp_of {n p k : Nat} {R M : List (List _root_.Rat)} (hn : n <= 4) (hl : R.length = n) (hr : ∀ r ∈ R, r.length = n + 1) (hb : Bd n 0 R) (h : gj R p = some M) (hp : p < n) (hk : pivAt M p = k) (hkn : k < n) : StpI n p k R M := by
 obtain ⟨g, b⟩ := gj_inv hl hr hb p (by omega) M h
 have hM := g.len
 have hpl : pivAt M p < M.length := by omega
 obtain ⟨h1, h2⟩ := piv_lt hpl
 rw [hk] at h1 h2
 have g2 := g.swap h1 hkn
 have b2 := Bd.swap g h1 hkn b
 have hne : rowQ (swapM M p k) p p ≠ 0 := by
  rw [rowQ, swap_get (by omega) (by omega)]
  by_cases e : p = k
  ·rw [if_pos e]; subst e; exact h2
  ·rw [if_neg e, if_pos rfl]; exact h2
 refine ⟨hkn, h1, bd_safe b2 (by omega) hp hne, g2.len, g2.row, hne, ?_⟩
 rw [gj_succ h, gjStep, if_pos hpl, hk]
theorem sol_end {n : Nat} {R M : List (List _root_.Rat)} (hn : n <= 4) (hl : R.length = n) (hr : ∀ r ∈ R, r.length = n + 1) (hb : Bd n 0 R) (h : gj R n = some M) :
  M.length = n /\ (∀ r ∈ M, r.length = n + 1) /\ solQ n R = some (outM n M) /\ SolB n (outM n M) /\ (∀ p (hp : p < M.length), fnL M[p] p ≠ 0 /\ smQ (fnL M[p] p) /\ smQ (fnL M[p] n) /\ smQ (fnL M[p] n / fnL M[p] p)) := by
 obtain ⟨g, b⟩ := gj_inv hl hr hb n (Nat.le_refl _) M h
 have hs : solQ n R = some (outM n M) := by rw [solQ, h]; rfl
 have hB := sol_bd hn hl hr hb hs
 refine ⟨g.len, g.row, hs, hB, fun p hp => ?_⟩
 have hpn : p < n := by rw [<- g.len]; exact hp
 have e : rowQ M p = fnL M[p] := by rw [rowQ, gd hp]
 refine ⟨by rw [<- e]; exact g.piv p hpn, by rw [<- e]; exact bd_at b hn hpn (by omega), by rw [<- e]; exact bd_at b hn hpn (Nat.le_refl _), ?_⟩
 have := (sol_dots hB hn (a := fun _ => 1) fun _ _ => .inr rfl).sx p hpn
 rw [fnL, gd (by simpa [outM] using hpn)] at this
 simpa [outM, e] using this
theorem phi_single {g : Nat} {T : Option (TypeId × Nat)} {es : List (List D)} : phi [g] [.sl (some g) T es] = one g (.sl (some g) T es) := by
 funext j
 by_cases e : j = g
 ·subst e; simp [phi, one, lookL, lookD]
 ·simp [phi, one, e]
theorem re_rowout {φ : Nat -> Option D} {g : Nat} {T : Option (TypeId × Nat)} {l : List _root_.Rat} (h : φ g = none) : reV φ (.d (.sl (some g) T (l.map eQ))) = .d (.sl (some g) T (l.map eQ)) := by
 simp [reV, reD, h]
theorem re_mset {gm : Nat} {TM : TypeId × Nat} {es : List (List D)} {i : Nat} {e' : List D} (h : i < es.length) (h1 : e'.length = es[i].length) : reV (one gm (.sl (some gm) (some TM) (es.set i e'))) (.d (.sl (some gm) (some TM) es)) = .d (.sl (some gm) (some TM) (es.set i e')) :=
 re_oneSet2 (by simp [List.getD, h, h1])
def swapR (R : List (Nat × List _root_.Rat)) (p k : Nat) : List (Nat × List _root_.Rat) := (R.set p (R.getD k (0, []))).set k (R.getD p (0, []))
theorem swapR_snd {R : List (Nat × List _root_.Rat)} {p k : Nat} : (swapR R p k).map (·.2) = swapM (R.map (·.2)) p k := by
 simp only [swapR, swapM, List.map_set]
 have e : ∀ i, (R.map (·.2)).getD i [] = (R.getD i (0, [])).2 := fun i => by
  simp only [List.getD_eq_getElem?_getD, List.getElem?_map]
  cases R[i]? <;> rfl
 rw [e, e]
theorem swapR_len {R : List (Nat × List _root_.Rat)} {p k : Nat} : (swapR R p k).length = R.length := by simp [swapR]
theorem swapR_perm {R : List (Nat × List _root_.Rat)} {p k : Nat} (hp : p < R.length) (hk : k < R.length) : (swapR R p k).Perm R := by
 have : swapR R p k = (R.set p R[k]).set k R[p] := by rw [swapR, gd hp, gd hk]
 rw [this]
 exact List.set_set_perm hp hk
theorem app_last {r : List _root_.Rat} {n : Nat} (h : r.length = n + 1) : r.take n ++ [fnL r n] = r := by
 rw [fnL_at (by omega), List.take_append_getElem (by omega)]
 exact List.take_of_length_le (by omega)
theorem swapR_set {R : List (Nat × List _root_.Rat)} {p k : Nat} (hp : p < R.length) (hk : k < R.length) : swapR R p k = (R.set p R[k]).set k R[p] := by rw [swapR, gd hp, gd hk]
theorem combs_none {α : Type} : ∀ {n : Nat} {l : List α}, l.length < n -> combs n l = []
 | 0, _, h => by omega
 | n + 1, [], _ => rfl
 | n + 1, a :: l, h => by
   simp only [List.length_cons] at h
   rw [combs, combs_none (n := n) (by omega), combs_none (n := n + 1) (by omega)]; rfl
theorem combs_map {α β : Type} (f : α -> β) : ∀ (n : Nat) (l : List α), combs n (l.map f) = (combs n l).map (·.map f)
 | 0, _ => by simp [combs]
 | n + 1, [] => rfl
 | n + 1, a :: l => by
   rw [List.map_cons, combs, combs, combs_map f n l, combs_map f (n + 1) l, List.map_append, List.map_map, List.map_map]
   rfl
theorem combs_len {α : Type} : ∀ (n : Nat) (l : List α), (combs n l).length <= 2 ^ l.length
 | 0, l => by simp [combs, Nat.one_le_two_pow]
 | n + 1, [] => by simp [combs]
 | n + 1, a :: l => by
   have h1 := combs_len n l
   have h2 := combs_len (n + 1) l
   rw [combs, List.length_append, List.length_map, List.length_cons, Nat.pow_succ]
   omega
def rgF (a b : Nat) : List Nat := List.range' a (b - a)
theorem rgF_cons {a b : Nat} (h : a < b) : rgF a b = a :: rgF (a + 1) b := by
 unfold rgF
 obtain ⟨k, hk⟩ : ∃ k, b - a = k + 1 := ⟨b - a - 1, by omega⟩
 rw [hk, List.range'_succ]
 congr 2; omega
theorem rgF_len {a b : Nat} : (rgF a b).length = b - a := by simp [rgF]
theorem combs_rg {n a b : Nat} (h : a < b) : combs (n + 1) (rgF a b) = (combs n (rgF (a + 1) b)).map (a :: ·) ++ combs (n + 1) (rgF (a + 1) b) := by
 rw [rgF_cons h, combs]
theorem combs_end {n a b : Nat} (h : b < a + n) (h0 : 0 < n) : combs n (rgF a b) = [] := combs_none (by rw [rgF_len]; omega)
theorem combs_le {n a b : Nat} (h : b <= 9) : (combs n (rgF a b)).length <= 512 := by
 have h1 := combs_len n (rgF a b)
 rw [rgF_len] at h1
 have h2 : 2 ^ (b - a) <= 2 ^ 9 := Nat.pow_le_pow_right (by omega) (by omega)
 omega
def intsN (c : List Nat) : List Int := c.map Int.ofNat
@[simp] theorem intsN_len (c : List Nat) : (intsN c).length = c.length := by simp [intsN]
theorem intsN_at {c : List Nat} {i : Nat} (h : i < c.length) : (intsN c)[i]'(by simpa using h) = (c[i] : Int) := by simp [intsN]
def rowsA (AR : List (List _root_.Rat)) (c : List Nat) : List (List _root_.Rat) := c.map fun i => AR.getD i []
theorem rowsA_len {AR : List (List _root_.Rat)} {c : List Nat} : (rowsA AR c).length = c.length := by simp [rowsA]
theorem rowsA_mem {AR : List (List _root_.Rat)} {c : List Nat} (h : ∀ i ∈ c, i < AR.length) {r : List _root_.Rat} (hr : r ∈ rowsA AR c) : r ∈ AR := by
 obtain ⟨i, hi, rfl⟩ := List.mem_map.1 hr
 exact getD_mem' (h i hi)
theorem rg_all (AR : List (List _root_.Rat)) : (rgF 0 AR.length).map (fun i => AR.getD i []) = AR := by
 apply List.ext_getElem (by simp [rgF])
 intro i h1 h2
 simp [rgF, List.getD, h2]
theorem combs_AR (n : Nat) (AR : List (List _root_.Rat)) : combs n AR = (combs n (rgF 0 AR.length)).map (rowsA AR) := by
 conv => lhs; rw [<- rg_all AR]
 rw [combs_map]
 rfl
theorem augR_len {A : List (List _root_.Rat)} {n : Nat} : (augR A n).length = A.length + n := by simp [augR]
theorem take_app {r : List _root_.Rat} {n : Nat} {b : _root_.Rat} (h : r.length = n) : (r ++ [b]).take n = r /\ fnL (r ++ [b]) n = b :=
 ⟨by rw [List.take_append_of_le_length (by omega), List.take_of_length_le (by omega)], (app_get h).2⟩
theorem unitR_len {n j : Nat} : (unitR n j).length = n := by simp [unitR]
def foldC (A : List (List _root_.Rat)) (n : Nat) (c : List Nat) (a : Nat) (out : List (List _root_.Rat)) : List (List _root_.Rat) :=
 ((combs (n - c.length) (rgF a (A.length + n))).map fun s => rowsA (augR A n) (c ++ s)).foldl (ptStep A n) out
theorem foldC_full {A : List (List _root_.Rat)} {n : Nat} {c : List Nat} {a : Nat} {out : List (List _root_.Rat)} (h : c.length = n) : foldC A n c a out = ptStep A n out (rowsA (augR A n) c) := by
 unfold foldC
 rw [show n - c.length = 0 by omega]
 simp [combs]
theorem foldC_step {A : List (List _root_.Rat)} {n : Nat} {c : List Nat} {a : Nat} {out : List (List _root_.Rat)} (h : c.length < n) (ha : a < A.length + n) : foldC A n c a out = foldC A n c (a + 1) (foldC A n (c ++ [a]) (a + 1) out) := by
 unfold foldC
 obtain ⟨k, hk⟩ : ∃ k, n - c.length = k + 1 := ⟨n - c.length - 1, by omega⟩
 rw [hk, combs_rg ha, List.map_append, List.foldl_append, List.map_map]
 have e : n - (c ++ [a]).length = k := by simp; omega
 rw [e]
 congr 2
 apply List.map_congr_left
 intro s _
 simp
theorem foldC_end {A : List (List _root_.Rat)} {n : Nat} {c : List Nat} {a : Nat} {out : List (List _root_.Rat)} (h : c.length < n) (ha : A.length + n <= a) : foldC A n c a out = out := by
 unfold foldC
 rw [combs_end (by omega) (by omega)]; rfl
theorem foldC_all (A : List (List _root_.Rat)) (n : Nat) : foldC A n [] 0 [] = ptsQ A n := by
 unfold foldC ptsQ
 rw [combs_AR, augR_len]
 simp
theorem ptStep_len {A : List (List _root_.Rat)} {n : Nat} {out M : List (List _root_.Rat)} : (ptStep A n out M).length <= out.length + 1 := by
 unfold ptStep
 split
 ·split
  ·unfold addPt; split <;> simp
  ·omega
 ·omega
theorem fold_len {A : List (List _root_.Rat)} {n : Nat} : ∀ (l : List (List (List _root_.Rat))) (out : List (List _root_.Rat)), (l.foldl (ptStep A n) out).length <= out.length + l.length
 | [], out => by simp
 | M :: l, out => by
   have := fold_len (A := A) (n := n) l (ptStep A n out M)
   have := ptStep_len (A := A) (n := n) (out := out) (M := M)
   simp only [List.foldl_cons, List.length_cons]
   omega
def cntC (A : List (List _root_.Rat)) (n : Nat) (c : List Nat) (a : Nat) : Nat := (combs (n - c.length) (rgF a (A.length + n))).length
theorem cntC_step {A : List (List _root_.Rat)} {n : Nat} {c : List Nat} {a : Nat} (h : c.length < n) (ha : a < A.length + n) : cntC A n c a = cntC A n (c ++ [a]) (a + 1) + cntC A n c (a + 1) := by
 unfold cntC
 obtain ⟨k, hk⟩ : ∃ k, n - c.length = k + 1 := ⟨n - c.length - 1, by omega⟩
 have e : n - (c ++ [a]).length = k := by simp; omega
 rw [hk, combs_rg ha, e]
 simp
theorem foldC_len {A : List (List _root_.Rat)} {n : Nat} {c : List Nat} {a : Nat} {out : List (List _root_.Rat)} : (foldC A n c a out).length <= out.length + cntC A n c a := by
 unfold foldC cntC
 have := fold_len (A := A) (n := n) ((combs (n - c.length) (rgF a (A.length + n))).map fun s => rowsA (augR A n) (c ++ s)) out
 simpa using this
theorem cntC_full {A : List (List _root_.Rat)} {n : Nat} {c : List Nat} {a : Nat} (h : c.length = n) : cntC A n c a = 1 := by
 unfold cntC
 rw [show n - c.length = 0 by omega]
 simp [combs]
theorem cntC_all {A : List (List _root_.Rat)} {n : Nat} (h : A.length + n <= 9) : cntC A n [] 0 <= 512 := by
 unfold cntC
 exact combs_le h
theorem pts_sol {A : List (List _root_.Rat)} {n : Nat} (h : LPok A n) : ∀ x ∈ ptsQ A n, SolB n x := fun x hx => by
 obtain ⟨M, h1, h2, h3, _⟩ := pts_mem.1 hx
 have hr : ∀ r ∈ M, r.length = n + 1 := fun r hr => aug_len h.m01 r (h1.subset hr)
 have h01 : ∀ r ∈ M, ∀ q ∈ r, q = 0 \/ q = 1 := fun r hr => aug_01 h.m01 r (h1.subset hr)
 exact sol_bd h.n4 h2 hr (bd_01 h2 h01) h3
theorem pts_len {A : List (List _root_.Rat)} {n : Nat} (h : LPok A n) : (ptsQ A n).length <= 512 := by
 have h1 := h.n4
 have h2 := h.m5
 have := foldC_len (A := A) (n := n) (c := []) (a := 0) (out := [])
 rw [foldC_all] at this
 have := cntC_all (A := A) (n := n) (by omega)
 simp at *
 omega
theorem sum_sm {n : Nat} {x : List _root_.Rat} (hx : SolB n x) (hn : n <= 4) : smQ (sumQ x) := by
 rw [<- sumQ_eq hx.len]
 exact (one_dots hx hn).ss n (Nat.le_refl _)
def bestT (l : List (List _root_.Rat)) (i : Nat) : Option (List _root_.Rat × _root_.Rat) := (l.take i).foldl bestS none
theorem bestT_zero {l : List (List _root_.Rat)} : bestT l 0 = none := rfl
theorem bestT_succ {l : List (List _root_.Rat)} {i : Nat} (h : i < l.length) : bestT l (i + 1) = bestS (bestT l i) l[i] := by
 rw [bestT, List.take_succ_eq_append_getElem h, List.foldl_append]; rfl
theorem bestT_all {l : List (List _root_.Rat)} : bestT l l.length = bestQ l := by rw [bestT, List.take_of_length_le (Nat.le_refl _)]; rfl
theorem bestT_sum {l : List (List _root_.Rat)} {i : Nat} {p : List _root_.Rat × _root_.Rat} (h : bestT l i = some p) : p.2 = sumQ p.1 /\ p.1 ∈ l.take i := by
 have := (best_fold (l.take i) none (fun p h => by cases h)).1 p h
 exact ⟨this.1, this.2.1.resolve_right (by simp)⟩
theorem r01_eQ (b : Bool) : eQ (r01 b) = [.int .i64 (if b then 1 else 0), .int .i64 1] := by cases b <;> rfl
theorem bag_facts {q : PQuery} {b : List Int} (hq : queryOk q = true) (hb : bagI q.n b = true) : 1 <= b.length /\ b.length <= 5 /\ 1 <= q.atoms.length /\ q.atoms.length <= 4 /\ covered q.atoms b := by
 simp only [queryOk, Bool.and_eq_true] at hq
 obtain ⟨⟨⟨⟨h1, h2⟩, _⟩, _⟩, h5⟩ := hq
 simp only [bagI, Bool.and_eq_true, decide_eq_true_eq] at hb
 obtain ⟨⟨b1, _⟩, b3⟩ := hb
 simp only [setOf, Bool.and_eq_true, decide_eq_true_eq, List.all_eq_true] at b3
 obtain ⟨b4, b5⟩ := b3
 simp only [inR, Bool.and_eq_true, decide_eq_true_eq] at h1 h2
 have hw : IntKind.i64.wrap (q.n - 1) = q.n - 1 := wrap64_of (by omega) (by omega)
 have hr : ∀ x ∈ b, 0 ≤ x ∧ x < q.n := fun x hx => by
  have := b4 x hx
  simp only [inR, Bool.and_eq_true, decide_eq_true_eq, hw] at this
  omega
 have hlen := nodup_len q.n.toNat b b5 (fun x hx => by have := hr x hx; omega)
 refine ⟨b1, by omega, by omega, by omega, fun v hv => ?_⟩
 have hv2 := hr v hv
 simp only [usesAll, List.all_eq_true, List.mem_range] at h5
 have h6 := h5 v.toNat (by omega)
 rw [show ((v.toNat : Nat) : Int) = v by omega, List.contains_eq_mem, decide_eq_true_eq, varsIn, List.mem_flatMap] at h6
 obtain ⟨a, ha, hva⟩ := h6
 exact ⟨a, ha, hva⟩
theorem bag_lp {q : PQuery} {b : List Int} (hq : queryOk q = true) (hb : bagI q.n b = true) : LPok (covM q.atoms b) q.atoms.length := by
 obtain ⟨h1, h2, h3, h4, h5⟩ := bag_facts hq hb
 exact ⟨covM_01 h5, h3, h4, by simpa [covM] using h1, by simpa [covM] using h2⟩
theorem wid_some {q : PQuery} {b : List Int} (hq : queryOk q = true) (hb : bagI q.n b = true) : ∃ p, minQ (covM q.atoms b) q.atoms.length = some p /\ p.2 = widQ q.atoms b := by
 obtain ⟨p, h1, h2, _⟩ := wid_min (bag_facts hq hb).2.2.2.2
 exact ⟨p, h1, h2⟩
def bcwV (q : PQuery) (b : List Int) : V := if queryOk q && bagI q.n b then .tup [.agg [.d (.int .i64 (widQ q.atoms b).num), .d (.int .i64 ((widQ q.atoms b).den : Int))], .d (.bool true)] else .tup [.agg [.d (.int .i64 0), .d (.int .i64 0)], .d (.bool false)]
theorem nj_ok {a b : PVRel} (h : njB a b = true) : vrOk (njP a b) = true := by
 have h' := h
 simp only [njB, Bool.and_eq_true] at h'
 have fa := vrF_of h'.1.1
 have fb := vrF_of h'.1.2
 have hs := njP_spec h'.1.1 h'.1.2
 rw [h] at hs
 have hn := hs.1.symm
 rw [njP, if_pos h]
 simp only [newB, Bool.and_eq_true] at hn
 have hu := uniL_pw b.vars fa.pw
 simp only [vrOk, Bool.and_eq_true, decide_eq_true_eq]
 refine ⟨pw_vAsc hu.1 fun x hx => ?_, hn.2, trivial⟩
 rcases (hu.2 x).1 hx with h1 | h1
 ·exact fa.rng x h1
 ·exact fb.rng x h1
theorem br_okT {d : PDb} {q : PQuery} {bag : List Int} : ∀ {i : Nat} {v : PVRel}, i <= q.atoms.length -> brT d q bag i = some v -> vrOk v = true
 | 0, v, _, h => by
   rw [brT_zero] at h
   obtain rfl := Option.some.inj h
   decide
 | i + 1, v, hi, h => by
   rw [brT_succ d q bag (by omega)] at h
   cases hb : brT d q bag i with
   | none => rw [hb] at h; cases h
   | some c =>
     rw [hb] at h
     simp only [brS] at h
     split at h
     ·obtain rfl := Option.some.inj h; exact br_okT (by omega) hb
     ·split at h
      ·rename_i hn; obtain rfl := Option.some.inj h; exact nj_ok hn
      ·cases h
theorem br_ok {d : PDb} {q : PQuery} {bag : List Int} {v : PVRel} (h : brO d q bag = some v) : vrOk v = true := by
 rw [brO] at h
 split at h
 ·exact br_okT (Nat.le_refl _) h
 ·cases h
theorem wp_vr {v : PVRel} (h : vrOk v = true) : wpTVRel v <= 20006 := by
 have f := vrF_of h
 simp only [vrOk, Bool.and_eq_true] at h
 have h1 := wp_rows h.2.1
 have h2 := f.len
 simp only [wpTVRel, wpTReln, wpS_I]; omega
def rlS (d : PDb) (q : PQuery) (s : Option (List PVRel)) (b : List Int) : Option (List PVRel) := match s with
 | none => none
 | some l => match brO d q b with
   | none => none
   | some v => some (l ++ [v])
def rlT (d : PDb) (q : PQuery) (bs : List (List Int)) (i : Nat) : Option (List PVRel) := (bs.take i).foldl (rlS d q) (some [])
def rlO (d : PDb) (q : PQuery) (x : PDec) : Option (List PVRel) := if decOk q x then rlT d q x.bags x.bags.length else none
def ovL : Option (List PVRel) → List PVRel
 | none => []
 | some l => l
theorem rlT_zero (d : PDb) (q : PQuery) (bs : List (List Int)) : rlT d q bs 0 = some [] := rfl
theorem rlT_succ (d : PDb) (q : PQuery) {bs : List (List Int)} {i : Nat} (h : i < bs.length) : rlT d q bs (i + 1) = rlS d q (rlT d q bs i) bs[i] := by
 rw [rlT, List.take_succ_eq_append_getElem h, List.foldl_append]; rfl
theorem rlT_none {d : PDb} {q : PQuery} {bs : List (List Int)} {i : Nat} (h : rlT d q bs i = none) : ∀ j, i <= j -> rlT d q bs j = none := by
 intro j hj
 have key : ∀ l : List (List Int), l.foldl (rlS d q) none = none := fun l => by
  induction l with
  | nil => rfl
  | cons a r ih => simpa [rlS] using ih
 have e : bs.take j = bs.take i ++ (bs.take j).drop i := by
  have := (List.take_append_drop i (bs.take j)).symm
  rwa [List.take_take, Nat.min_eq_left hj] at this
 rw [rlT, e, List.foldl_append, <- rlT, h, key]
theorem rlT_len {d : PDb} {q : PQuery} {bs : List (List Int)} : ∀ {i : Nat} {l : List PVRel}, i <= bs.length -> rlT d q bs i = some l -> l.length = i
 | 0, l, _, h => by obtain rfl := Option.some.inj (h.symm.trans (rlT_zero d q bs)) ; rfl
 | i + 1, l, hi, h => by
   rw [rlT_succ d q (by omega)] at h
   cases hb : rlT d q bs i with
   | none => rw [hb] at h; cases h
   | some c =>
     rw [hb] at h
     have := rlT_len (by omega) hb
     simp only [rlS] at h
     split at h
     ·cases h
     ·obtain rfl := Option.some.inj h; simp [this]
theorem rlT_all {d : PDb} {q : PQuery} {bs : List (List Int)} : ∀ {i : Nat} {l : List PVRel}, i <= bs.length -> rlT d q bs i = some l -> ∀ j (h1 : j < i) (h2 : j < l.length) (h3 : j < bs.length), brO d q bs[j] = some l[j]
 | 0, l, _, h => by intro j h1; omega
 | i + 1, l, hi, h => by
   intro j h1 h2 h3
   rw [rlT_succ d q (by omega)] at h
   cases hb : rlT d q bs i with
   | none => rw [hb] at h; cases h
   | some c =>
     rw [hb] at h
     have hl := rlT_len (by omega) hb
     have ih := rlT_all (by omega) hb
     simp only [rlS] at h
     split at h
     ·cases h
     ·rename_i v hv
      obtain rfl := Option.some.inj h
      by_cases hj : j < i
      ·rw [ih j hj (by omega) h3, List.getElem_append_left (by omega)]
      ·have : j = i := by omega
       subst this
       rw [hv, List.getElem_append_right (by omega)]
       simp [hl]
theorem rl_dec {d : PDb} {q : PQuery} {x : PDec} {l : List PVRel} (h : rlO d q x = some l) : decOk q x = true /\ l.length = x.bags.length := by
 rw [rlO] at h
 split at h
 ·rename_i hd; exact ⟨hd, rlT_len (Nat.le_refl _) h⟩
 ·cases h
theorem rl_ok {d : PDb} {q : PQuery} {x : PDec} {l : List PVRel} (h : rlO d q x = some l) : ∀ v ∈ l, vrOk v = true := fun v hv => by
 have hl := (rl_dec h).2
 rw [rlO] at h
 split at h
 ·obtain ⟨j, hj, rfl⟩ := List.getElem_of_mem hv
  exact br_ok (rlT_all (Nat.le_refl _) h j (by omega) hj (by omega))
 ·cases h
theorem wp_rl (d : PDb) (q : PQuery) (x : PDec) : wpS wpVRel (ovL (rlO d q x)) <= 20008 * x.bags.length := by
 cases h : rlO d q x with
 | none => simp [ovL, wpS]
 | some l =>
   have hl := (rl_dec h).2
   have h2 := wpS_le (w := wpVRel) (k := 20007) (l := l) fun v hv => by
    have hv' := rl_ok h v hv
    have := wp_vr hv'
    have f := vrF_of hv'
    simp only [vrOk, Bool.and_eq_true] at hv'
    have h1 := wp_rows hv'.2.1
    have h2 := f.len
    simp only [wpVRel, wpReln, wpI, wpS_I]; omega
   simp only [ovL]
   omega
end Go.Vs
