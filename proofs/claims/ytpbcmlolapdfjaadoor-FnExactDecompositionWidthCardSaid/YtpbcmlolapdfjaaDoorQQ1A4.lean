/-
  QQ1A4: a part of a proof of this seat: the value-level semantics of Go code without maps, its walk rules, the frame of a row, facts of types, schedules, walks, plain lemmas (Pl19 Pl20 Pl80 Pl81 Pl82 Pl83 Pl84 Pl85 Pl86 Pl87 Pl88 Pl89 Pl90 Pl16 Pl17 Pl21 Pl22 Pl91 Pl92 Pl93). It holds of every program and state that its hypotheses name.
-/
import Derived.Test.YtpbcmlolapdfjaaDoorQQ1A3
set_option linter.unusedSimpArgs false
set_option linter.unusedVariables false
set_option linter.unnecessarySimpa false
namespace Go.Vs
/-! ### decompositions -/
def ascAt (b : List Int) (i : Nat) : Bool := decide (i = 0) || decide (b.getD (i - 1) 0 < b.getD i 0)
def ascB (b : List Int) : Bool := (List.range b.length).all (ascAt b)
def bagI (n : Int) (b : List Int) : Bool := decide (0 < b.length) && ascB b && setOf b n
def bagAt (n : Int) (b : List Int) (i : Nat) : Bool := inR (b.getD i 0) 0 (IntKind.i64.wrap (n - 1)) && ascAt b i
def bagS (n : Int) (b : List Int) : Bool := (List.range b.length).all (bagAt n b) && decide (0 < b.length)
theorem asc_pw {b : List Int} (h : ascB b = true) : b.Pairwise (· < ·) := by
  simp only [ascB, List.all_eq_true, List.mem_range] at h
  have key : ∀ n i, i + n + 1 < b.length → b.getD i 0 < b.getD (i + n + 1) 0 := by
    intro n
    induction n with
    | zero =>
      intro i hi
      have := h (i + 1) (by omega)
      simp only [ascAt, Bool.or_eq_true, decide_eq_true_eq] at this
      simpa using this
    | succ n ih =>
      intro i hi
      have h1 := ih i (by omega)
      have := h (i + n + 1 + 1) (by omega)
      simp only [ascAt, Bool.or_eq_true, decide_eq_true_eq] at this
      have h2 : b.getD (i + n + 1) 0 < b.getD (i + n + 1 + 1) 0 := by simpa using this
      exact Int.lt_trans h1 h2
  refine List.pairwise_iff_getElem.2 fun i j hi hj hij => ?_
  have := key (j - i - 1) i (by omega)
  rw [show i + (j - i - 1) + 1 = j by omega, getD_el _ hi, getD_el _ hj] at this
  exact this
theorem bag_eq (n : Int) (b : List Int) : bagI n b = bagS n b := by
  rw [Bool.eq_iff_iff]
  simp only [bagI, bagS, ascB, Bool.and_eq_true, decide_eq_true_eq, List.all_eq_true, List.mem_range, bagAt]
  constructor
  · rintro ⟨⟨h1, h2⟩, h3⟩
    refine ⟨fun i hi => ⟨?_, h2 i hi⟩, h1⟩
    simp only [setOf, Bool.and_eq_true, List.all_eq_true] at h3
    rw [getD_el _ hi]; exact h3.1 _ (List.getElem_mem hi)
  · rintro ⟨h1, h2⟩
    refine ⟨⟨h2, fun i hi => (h1 i hi).2⟩, ?_⟩
    have hpw := asc_pw (b := b) (by simp only [ascB, List.all_eq_true, List.mem_range]; exact fun i hi => (h1 i hi).2)
    simp only [setOf, Bool.and_eq_true, List.all_eq_true, decide_eq_true_eq]
    refine ⟨fun x hx => ?_, hpw.imp fun h e => by omega⟩
    obtain ⟨i, hi, rfl⟩ := List.mem_iff_getElem.1 hx
    have := (h1 i hi).1
    rwa [getD_el _ hi] at this
def avars (a : PAtom) : List Int := (rangeI 5).filter fun v => a.vars.contains v
def commL (x y : List Int) : List Int := x.filter fun v => y.contains v
def inAB (a : PAtom) (b : List Int) : Bool := decide ((commL (avars a) b).length = (avars a).length)
def insD (a : PAtom) (b : List Int) : Bool := a.vars.all fun v => b.contains v
theorem inAB_eq {a : PAtom} {n : Int} (hn : 1 ≤ n ∧ n ≤ 5) (h : atomOk n a = true) (b : List Int) : inAB a b = insD a b := by
  rw [Bool.eq_iff_iff]
  simp only [inAB, insD, decide_eq_true_eq, commL, List.length_filter_eq_length_iff, List.all_eq_true]
  have hv : ∀ v ∈ a.vars, 0 ≤ v ∧ v < 5 := fun v hv => by
    simp only [atomOk, Bool.and_eq_true, List.all_eq_true] at h
    have := h.2 v hv
    rw [wrap64_of (by omega) (by omega)] at this
    simp only [inR, Bool.and_eq_true, decide_eq_true_eq] at this
    omega
  constructor
  · intro h1 v hva
    have h2 := hv v hva
    refine h1 v (List.mem_filter.2 ⟨?_, by simpa using hva⟩)
    simp only [rangeI, List.mem_map, List.mem_range]
    exact ⟨v.toNat, by omega, by omega⟩
  · intro h1 v hva
    have := (List.mem_filter.1 hva).2
    exact h1 v (by simpa using this)
def topIs (bags : List (List Int)) (ps : List Int) (v : Int) (i : Nat) : Bool := (bags.getD i []).contains v && (decide (ps.getD i 0 < 0) || !((bags.getD (ps.getD i 0).toNat []).contains v))
def topN (bags : List (List Int)) (ps : List Int) (v : Int) (i : Nat) : Nat := ((List.range i).filter (topIs bags ps v)).length
theorem topN_step (bags : List (List Int)) (ps : List Int) (v : Int) (i : Nat) : topN bags ps v (i + 1) = topN bags ps v i + if topIs bags ps v i then 1 else 0 := by
  rw [topN, List.range_succ, List.filter_append, List.length_append]
  cases h : topIs bags ps v i <;> simp [topN, h]
theorem topN_le (bags : List (List Int)) (ps : List Int) (v : Int) (i : Nat) : topN bags ps v i ≤ i := by
  have := List.length_filter_le (topIs bags ps v) (List.range i)
  simpa [topN] using this
def anyIn (bags : List (List Int)) (a : PAtom) : Bool := bags.any fun b => inAB a b
def decOk (q : PQuery) (d : PDec) : Bool := queryOk q && decide (d.bags.length = d.par.length) && treeB d.par && d.bags.all (bagI q.n) && q.atoms.all (anyIn d.bags) && (List.range q.n.toNat).all fun v => decide (topN d.bags d.par (v : Int) d.bags.length = 1)
/-- as the reference tells it of the bags -/
def placeOk (q : PQuery) (d : PDec) (i : Nat) : Bool := bagS q.n (d.bags.getD i []) && pathOk d.par i
theorem decOk_q {q : PQuery} {d : PDec} (h : queryOk q = false) : decOk q d = false := by simp only [decOk, h, Bool.false_and]
theorem decOk_l {q : PQuery} {d : PDec} (h : ¬ d.bags.length = d.par.length) : decOk q d = false := by simp only [decOk, decide_eq_false h, Bool.false_and, Bool.and_false]
theorem decOk_t {q : PQuery} {d : PDec} (h : treeB d.par = false) : decOk q d = false := by simp only [decOk, h, Bool.false_and, Bool.and_false]
theorem decOk_r {q : PQuery} {d : PDec} (h : rootS d.par < 0) : decOk q d = false := decOk_t (by rw [tree_eq, treeS, decide_eq_false (by omega), Bool.false_and])
theorem decOk_b {q : PQuery} {d : PDec} {i : Nat} (hi : i < d.bags.length) (h : bagI q.n d.bags[i] = false) : decOk q d = false := by
  have : d.bags.all (bagI q.n) = false := all_bad hi h
  simp only [decOk, this, Bool.false_and, Bool.and_false]
theorem decOk_p {q : PQuery} {d : PDec} {i : Nat} (hl : d.bags.length = d.par.length) (hi : i < d.bags.length) (h : placeOk q d i = false) : decOk q d = false := by
  rw [placeOk, getD_el _ hi, ← bag_eq] at h
  cases hb : bagI q.n d.bags[i]
  · exact decOk_b hi hb
  · rw [hb, Bool.true_and] at h
    refine decOk_t ?_
    rw [tree_eq, treeS]
    have : (List.range d.par.length).all (pathOk d.par) = false := all_bad (p := pathOk d.par) (l := List.range d.par.length) (i := i) (by simp; omega) (by simpa using h)
    rw [this, Bool.and_false]
theorem decOk_a {q : PQuery} {d : PDec} {i : Nat} (hi : i < q.atoms.length) (h : anyIn d.bags q.atoms[i] = false) : decOk q d = false := by
  have : q.atoms.all (anyIn d.bags) = false := all_bad hi h
  simp only [decOk, this, Bool.false_and, Bool.and_false]
theorem decOk_v {q : PQuery} {d : PDec} {v : Nat} (hv : v < q.n.toNat) (h : ¬ topN d.bags d.par (v : Int) d.bags.length = 1) : decOk q d = false := by
  have : ((List.range q.n.toNat).all fun v => decide (topN d.bags d.par (v : Int) d.bags.length = 1)) = false := all_bad (p := fun v : Nat => decide (topN d.bags d.par (v : Int) d.bags.length = 1)) (l := List.range q.n.toNat) (i := v) (by simpa using hv) (by simpa using h)
  simp only [decOk, this, Bool.and_false]
theorem decOk_all {q : PQuery} {d : PDec} (h1 : queryOk q = true) (h2 : d.bags.length = d.par.length) (h3 : treeB d.par = true) (h4 : d.bags.all (bagI q.n) = true) (h5 : q.atoms.all (anyIn d.bags) = true) (h6 : ((List.range q.n.toNat).all fun v => decide (topN d.bags d.par (v : Int) d.bags.length = 1)) = true) : decOk q d = true := by
  simp only [decOk, h1, h3, h4, h5, h6, decide_eq_true h2]; rfl
/-- of all places -/
theorem places {q : PQuery} {d : PDec} (hl : d.bags.length = d.par.length) (hr : 0 ≤ rootS d.par) (h : (List.range d.bags.length).all (placeOk q d) = true) : treeB d.par = true ∧ d.bags.all (bagI q.n) = true := by
  simp only [List.all_eq_true, List.mem_range, placeOk, Bool.and_eq_true] at h
  constructor
  · rw [tree_eq, treeS, decide_eq_true hr, Bool.true_and]
    simp only [List.all_eq_true, List.mem_range]
    exact fun i hi => (h i (by omega)).2
  · simp only [List.all_eq_true]
    intro b hb
    obtain ⟨i, hi, rfl⟩ := List.mem_iff_getElem.1 hb
    have := (h i hi).1
    rwa [getD_el _ hi, ← bag_eq] at this
structure AscI (b : List Int) (i : Nat) : Prop where
  le : 1 ≤ i ∧ i ≤ b.length + 1
  ok : ∀ j, j < i → j < b.length → ascAt b j = true
theorem AscI.one {b : List Int} : AscI b 1 := by
  refine ⟨by omega, fun j hj _ => ?_⟩
  have : j = 0 := by omega
  subst this
  simp [ascAt]
theorem ascAt_eq {b : List Int} {i : Nat} (h1 : 1 ≤ i) (hi : i < b.length) : ascAt b i = decide (b[i - 1]'(by omega) < b[i]) := by
  rw [ascAt, getD_el _ hi, getD_el _ (show i - 1 < b.length by omega), decide_eq_false (by omega), Bool.false_or]
theorem AscI.step {b : List Int} {i : Nat} (h : AscI b i) (hi : i < b.length) (e : b[i - 1]'(by omega) < b[i]) : AscI b (i + 1) :=
  ⟨by omega, fun j hj hl => by
    by_cases hc : j < i
    · exact h.ok j hc hl
    · have : j = i := by omega
      subst this; rw [ascAt_eq h.le.1 hl]; simpa using e⟩
theorem AscI.done {b : List Int} {i : Nat} (h : AscI b i) (hi : b.length ≤ i) : ascB b = true := by
  simp only [ascB, List.all_eq_true, List.mem_range]
  exact fun j hj => h.ok j (by omega) hj
theorem asc_bad {b : List Int} {i : Nat} (h1 : 1 ≤ i) (hi : i < b.length) (e : ¬ b[i - 1]'(by omega) < b[i]) : ascB b = false :=
  all_bad (p := ascAt b) (l := List.range b.length) (i := i) (by simpa using hi) (by simp only [List.getElem_range]; rw [ascAt_eq h1 hi]; simpa using e)
structure BagI (n : Int) (b : List Int) (i : Nat) : Prop where
  le : i ≤ b.length
  ok : AllTo (bagAt n b) (List.range b.length) i
theorem BagI.zero {n : Int} {b : List Int} : BagI n b 0 := ⟨by omega, allTo_zero⟩
theorem BagI.step {n : Int} {b : List Int} {i : Nat} (h : BagI n b i) (hi : i < b.length) (e : bagAt n b i = true) : BagI n b (i + 1) := ⟨hi, allTo_step h.ok (by simpa using hi) (by simpa using e)⟩
theorem BagI.done {n : Int} {b : List Int} {i : Nat} (h : BagI n b i) (hi : b.length ≤ i) : bagS n b = decide (0 < b.length) := by
  rw [bagS, allTo_done h.ok (by simpa using hi), Bool.true_and]
theorem bagS_bad {n : Int} {b : List Int} {i : Nat} (hi : i < b.length) (e : bagAt n b i = false) : bagS n b = false := by
  have : (List.range b.length).all (bagAt n b) = false := all_bad (p := bagAt n b) (l := List.range b.length) (i := i) (by simpa using hi) (by simpa using e)
  rw [bagS, this, Bool.false_and]
theorem comm_step {l b : List Int} {i : Nat} (h : i < l.length) : commL (l.take (i + 1)) b = commL (l.take i) b ++ if b.contains l[i] then [l[i]] else [] := by
  rw [List.take_succ_eq_append_getElem h, commL, List.filter_append]
  cases e : b.contains l[i] <;> simp only [commL, List.filter_cons, e, List.filter_nil] <;> simp
def avTo (a : PAtom) (i : Nat) : List Int := (rangeI i).filter fun v => a.vars.contains v
theorem avTo_step (a : PAtom) (i : Nat) : avTo a (i + 1) = avTo a i ++ if a.vars.contains (i : Int) then [(i : Int)] else [] := by
  rw [avTo, rangeI_succ, List.filter_append]
  cases e : a.vars.contains (i : Int) <;> simp only [avTo, List.filter_cons, e, List.filter_nil] <;> simp
theorem avTo_len (a : PAtom) (i : Nat) : (avTo a i).length ≤ i := by
  have := List.length_filter_le (fun v => a.vars.contains v) (rangeI i)
  simpa [avTo] using this
structure InTo (b : List Int) (a : PAtom) (i : Nat) : Prop where
  le : i ≤ a.vars.length
  ok : AllTo (fun v => b.contains v) a.vars i
theorem InTo.zero {b : List Int} {a : PAtom} : InTo b a 0 := ⟨by omega, allTo_zero⟩
theorem InTo.step {b : List Int} {a : PAtom} {i : Nat} (h : InTo b a i) (hi : i < a.vars.length) (e : a.vars[i] ∈ b) : InTo b a (i + 1) := ⟨hi, allTo_step h.ok hi (by simpa using e)⟩
theorem InTo.done {b : List Int} {a : PAtom} {i : Nat} (h : InTo b a i) (hi : a.vars.length ≤ i) : insD a b = true := allTo_done h.ok hi
theorem ins_bad {b : List Int} {a : PAtom} {i : Nat} (hi : i < a.vars.length) (e : ¬ a.vars[i] ∈ b) : insD a b = false := all_bad (p := fun v => b.contains v) hi (by simpa using e)
structure TreI (ps : List Int) (i : Nat) : Prop where
  le : i ≤ ps.length
  ok : AllTo (treeAt ps) (List.range ps.length) i
theorem TreI.zero {ps : List Int} : TreI ps 0 := ⟨by omega, allTo_zero⟩
theorem TreI.step {ps : List Int} {i : Nat} (h : TreI ps i) (hi : i < ps.length) (e : treeAt ps i = true) : TreI ps (i + 1) := ⟨hi, allTo_step h.ok (by simpa using hi) (by simpa using e)⟩
def rootsTo (ps : List Int) (i : Nat) : Nat := ((ps.take i).filter fun p => decide (p < 0)).length
theorem rootsTo_step {ps : List Int} {i : Nat} (h : i < ps.length) : rootsTo ps (i + 1) = rootsTo ps i + if ps[i] < 0 then 1 else 0 := by
  rw [rootsTo, List.take_succ_eq_append_getElem h, List.filter_append, List.length_append]
  by_cases e : ps[i] < 0 <;> simp [rootsTo, e]
theorem rootsTo_le (ps : List Int) (i : Nat) : rootsTo ps i ≤ i := by
  have := List.length_filter_le (fun p : Int => decide (p < 0)) (ps.take i)
  rw [List.length_take] at this
  simp only [rootsTo]; omega
theorem TreI.done {ps : List Int} {i : Nat} (h : TreI ps i) (hi : ps.length ≤ i) : treeB ps = decide (rootsTo ps i = 1) := by
  rw [treeB, allTo_done h.ok (by simpa using hi), Bool.true_and, rootsTo, List.take_of_length_le hi]; rfl
theorem treeB_bad {ps : List Int} {i : Nat} (hi : i < ps.length) (e : treeAt ps i = false) : treeB ps = false := by
  have : (List.range ps.length).all (treeAt ps) = false := all_bad (p := treeAt ps) (l := List.range ps.length) (i := i) (by simpa using hi) (by simpa using e)
  rw [treeB, this, Bool.false_and]
/-- k steps up from place i -/
structure UpT (ps : List Int) (i : Nat) (p : Nat × Int) : Prop where
  le : p.1 ≤ ps.length + 1
  at_ : -1 ≤ p.2 ∧ p.2 ≤ ps.length - 1
  up : upI ps (ps.length + 1) i = upI ps (ps.length + 1 - p.1) p.2
theorem upI_succ {ps : List Int} {m : Nat} {a : Int} (ha : 0 ≤ a) : upI ps (m + 1) a = if inR (nxP ps a) (-1) (ps.length - 1) then upI ps m (nxP ps a) else none := by rw [upI, if_neg (by omega)]
theorem UpT.step {ps : List Int} {i k : Nat} {a q : Int} (h : UpT ps i (k, a)) (hk : k ≤ ps.length) (ha : 0 ≤ a) (e : nxP ps a = q) (hq : inR q (-1) (ps.length - 1) = true) : UpT ps i (k + 1, q) := by
  have h1 := h.up
  simp only at h1
  rw [show ps.length + 1 - k = (ps.length - k) + 1 by omega, upI_succ (m := ps.length - k) ha, e, if_pos hq] at h1
  simp only [inR, Bool.and_eq_true, decide_eq_true_eq] at hq
  exact ⟨by simp only; omega, hq, by rw [h1]; simp only; rw [show ps.length + 1 - (k + 1) = ps.length - k by omega]⟩
theorem UpT.bad {ps : List Int} {i k : Nat} {a q : Int} (h : UpT ps i (k, a)) (hk : k ≤ ps.length) (ha : 0 ≤ a) (e : nxP ps a = q) (hq : inR q (-1) (ps.length - 1) = false) : treeAt ps i = false := by
  have h1 := h.up
  simp only at h1
  rw [show ps.length + 1 - k = (ps.length - k) + 1 by omega, upI_succ (m := ps.length - k) ha, e, if_neg (by simp [hq])] at h1
  rw [treeAt, h1]; simp [endNeg]
theorem UpT.fin {ps : List Int} {i k : Nat} {a : Int} (h : UpT ps i (k, a)) (hk : ¬ (k ≤ ps.length ∧ 0 ≤ a)) : endNeg (upI ps (ps.length + 1) i) = decide (a < 0) := by
  have h1 := h.up
  have hle := h.le
  simp only at h1 hle
  rw [h1]
  by_cases ha : a < 0
  · rw [upI_neg ha]; rfl
  · have : ps.length + 1 - k = 0 := by omega
    rw [this]; rfl
/-- the only place without a parent among the first i -/
structure RootI (ps : List Int) (p : Nat × Int) : Prop where
  le : p.1 ≤ ps.length
  no : p.2 = -1 → ∀ j (h : j < ps.length), j < p.1 → ps[j] ≠ -1
  some : p.2 ≠ -1 → ∃ r : Nat, p.2 = (r : Int) ∧ r < p.1 ∧ ∃ hr : r < ps.length, ps[r] = -1 ∧ ∀ j (h : j < ps.length), j < p.1 → j ≠ r → ps[j] ≠ -1
theorem oneR_zero {ps : List Int} (h : ∀ j (h : j < ps.length), ps[j] ≠ -1) : oneR ps = 0 := by
  rw [oneR, List.length_eq_zero_iff, List.filter_eq_nil_iff]
  intro x hx
  obtain ⟨i, hi, rfl⟩ := List.mem_iff_getElem.1 hx
  simpa using h i hi
theorem oneR_one {ps : List Int} {r : Nat} (hr : r < ps.length) (e : ps[r] = -1) (h : ∀ j (h : j < ps.length), j ≠ r → ps[j] ≠ -1) : oneR ps = 1 := by
  have e0 : ps = ps.take r ++ ps[r] :: ps.drop (r + 1) := by rw [← List.drop_eq_getElem_cons hr, List.take_append_drop]
  have h1 : ((ps.take r).filter fun p => p == (-1 : Int)) = [] := by
    rw [List.filter_eq_nil_iff]; intro x hx
    obtain ⟨i, hi, rfl⟩ := List.mem_iff_getElem.1 hx
    rw [List.length_take] at hi
    rw [List.getElem_take]
    simpa using h i (by omega) (by omega)
  have h2 : ((ps.drop (r + 1)).filter fun p => p == (-1 : Int)) = [] := by
    rw [List.filter_eq_nil_iff]; intro x hx
    obtain ⟨i, hi, rfl⟩ := List.mem_iff_getElem.1 hx
    rw [List.length_drop] at hi
    rw [List.getElem_drop]
    simpa using h (r + 1 + i) (by omega) (by omega)
  rw [oneR, e0, List.filter_append, List.filter_cons, h1, h2, e]; simp
theorem RootI.done {ps : List Int} {i : Nat} {o : Int} (h : RootI ps (i, o)) (hi : ps.length ≤ i) : rootS ps = o := by
  by_cases ho : o = -1
  · have := oneR_zero fun j hj => h.no ho j hj (by simp only; omega)
    rw [rootS, if_neg (by omega), ho]
  · obtain ⟨r, e, _, hr, e1, e2⟩ := h.some ho
    have h1 := oneR_one hr e1 fun j hj hne => e2 j hj (by simp only; omega) hne
    obtain ⟨r', e', hr', e1'⟩ := root_at h1
    rw [e', one_uniq h1 hr' hr e1' e1]; exact e.symm
theorem RootI.two {ps : List Int} {i : Nat} {o : Int} (h : RootI ps (i, o)) (ho : 0 ≤ o) (hi : i < ps.length) (e : ps[i] = -1) : rootS ps = -1 := by
  obtain ⟨r, _, hlt, hr, e1, _⟩ := h.some (by simp only; omega)
  simp only at hlt
  have := two_at (p := fun p : Int => p == -1) hlt hi (by simp [e1]) (by simp [e])
  rw [rootS, if_neg (by simp only [oneR]; omega)]
theorem RootI.put {ps : List Int} {i : Nat} {o : Int} (h : RootI ps (i, o)) (ho : o < 0) (hi : i < ps.length) (e : ps[i] = -1) : RootI ps (i + 1, (i : Int)) := by
  have ho' : o = -1 := by
    by_cases hc : o = -1
    · exact hc
    · obtain ⟨r, e, _⟩ := h.some hc
      simp only at e; omega
  exact ⟨by simp only; omega, fun hc => by simp only at hc; omega, fun _ => ⟨i, rfl, by simp only; omega, hi, e, fun j hj hji hne => h.no ho' j hj (by simp only at hji ⊢; omega)⟩⟩
theorem RootI.skip {ps : List Int} {i : Nat} {o : Int} (h : RootI ps (i, o)) (hi : i < ps.length) (e : ps[i] ≠ -1) : RootI ps (i + 1, o) := by
  refine ⟨by simp only; omega, fun hc j hj hji => ?_, fun hc => ?_⟩
  · by_cases hx : j = i
    · subst hx; exact e
    · exact h.no hc j hj (by simp only at hji ⊢; omega)
  · obtain ⟨r, e1, e2, hr, e3, e4⟩ := h.some hc
    simp only at e2
    exact ⟨r, e1, by simp only; omega, hr, e3, fun j hj hji hne => by
      by_cases hx : j = i
      · subst hx; exact e
      · exact e4 j hj (by simp only at hji ⊢; omega) hne⟩
theorem RootI.zero {ps : List Int} : RootI ps (0, -1) := ⟨by simp, fun _ j _ hj => by simp at hj, fun h => absurd rfl h⟩
/-- the way so far -/
structure PathI (ps : List Int) (k0 : Int) (p : Int × List Int) : Prop where
  le : p.2.length ≤ ps.length + 1
  eq : pathS ps (ps.length + 1) k0 = p.2 ++ pathS ps (ps.length + 1 - p.2.length) p.1
theorem PathI.zero {ps : List Int} {k0 : Int} : PathI ps k0 (k0, []) := ⟨by simp, by simp⟩
theorem PathI.step {ps : List Int} {k0 k : Int} {o : List Int} (h : PathI ps k0 (k, o)) (hk : inR k 0 (ps.length - 1) = true) (ho : o.length ≤ ps.length) : PathI ps k0 (nxP ps k, o ++ [k]) := by
  have h1 := h.eq
  simp only at h1
  rw [show ps.length + 1 - o.length = (ps.length - o.length) + 1 by omega, path_yes hk] at h1
  refine ⟨by simp only [List.length_append, List.length_singleton]; omega, ?_⟩
  simp only [List.length_append, List.length_singleton]
  rw [h1, show ps.length + 1 - (o.length + 1) = ps.length - o.length by omega]; simp
theorem PathI.done {ps : List Int} {k0 k : Int} {o : List Int} (h : PathI ps k0 (k, o)) (hk : ¬ (inR k 0 (ps.length - 1) = true ∧ o.length ≤ ps.length)) : pathS ps (ps.length + 1) k0 = o := by
  have h1 := h.eq
  have hle := h.le
  simp only at h1 hle
  by_cases hc : inR k 0 (ps.length - 1) = true
  · have : ps.length + 1 - o.length = 0 := by
      have : ¬ o.length ≤ ps.length := fun hh => hk ⟨hc, hh⟩
      omega
    rw [h1, this]; simp [pathS]
  · rw [h1, path_out hc, List.append_nil]
end Go.Vs


namespace Go.Vs
def anyTo {α : Type} (f : α → Bool) (l : List α) (k : Nat) : Bool := (l.take k).any f
theorem anyTo_zero {α : Type} (f : α → Bool) (l : List α) : anyTo f l 0 = false := by simp [anyTo]
theorem anyTo_step {α : Type} {f : α → Bool} {l : List α} {k : Nat} (h : k < l.length) : anyTo f l (k + 1) = (anyTo f l k || f l[k]) := by
  rw [anyTo, List.take_succ_eq_append_getElem h, List.any_append]; simp [anyTo]
theorem anyTo_all {α : Type} {f : α → Bool} {l : List α} {k : Nat} (h : l.length ≤ k) : anyTo f l k = l.any f := by rw [anyTo, List.take_of_length_le h]
theorem tree_par {ps : List Int} (h : treeB ps = true) (i : Nat) (hi : i < ps.length) : -1 ≤ ps[i] ∧ ps[i] < ps.length := by
  simp only [treeB, Bool.and_eq_true, List.all_eq_true, List.mem_range] at h
  have := h.1 i hi
  simp only [treeAt, Bool.and_eq_true, nxP_at hi] at this
  have := this.1
  simp only [inR, Bool.and_eq_true, decide_eq_true_eq] at this
  omega
theorem path_ne {ps : List Int} {i : Nat} (h : i < ps.length) : 0 < (pathS ps (ps.length + 1) i).length := by
  rw [path_yes (by simp only [inR, Bool.and_eq_true, decide_eq_true_eq]; omega)]; simp
/-- places, atoms and variables of a walk -/
structure ToI {α : Type} (f : α → Bool) (l : List α) (i : Nat) : Prop where
  le : i ≤ l.length
  ok : AllTo f l i
theorem ToI.zero {α : Type} {f : α → Bool} {l : List α} : ToI f l 0 := ⟨by omega, allTo_zero⟩
theorem ToI.step {α : Type} {f : α → Bool} {l : List α} {i : Nat} (h : ToI f l i) (hi : i < l.length) (e : f l[i] = true) : ToI f l (i + 1) := ⟨hi, allTo_step h.ok hi e⟩
theorem ToI.done {α : Type} {f : α → Bool} {l : List α} {i : Nat} (h : ToI f l i) (hi : l.length ≤ i) : l.all f = true := allTo_done h.ok hi
def topV (d : PDec) (v : Nat) : Bool := decide (topN d.bags d.par (v : Int) d.bags.length = 1)
structure VarI (d : PDec) (n : Nat) (v : Nat) : Prop where
  le : v ≤ n
  ok : AllTo (topV d) (List.range n) v
theorem VarI.zero {d : PDec} {n : Nat} : VarI d n 0 := ⟨by omega, allTo_zero⟩
theorem VarI.step {d : PDec} {n v : Nat} (h : VarI d n v) (hv : v < n) (e : topN d.bags d.par (v : Int) d.bags.length = 1) : VarI d n (v + 1) := ⟨hv, allTo_step h.ok (by simpa using hv) (by simpa [topV] using e)⟩
theorem VarI.done {d : PDec} {n v : Nat} (h : VarI d n v) (hv : n ≤ v) : ((List.range n).all fun v => decide (topN d.bags d.par (v : Int) d.bags.length = 1)) = true := allTo_done h.ok (by simpa using hv)
structure PlI (q : PQuery) (d : PDec) (i : Nat) : Prop where
  le : i ≤ d.bags.length
  ok : AllTo (placeOk q d) (List.range d.bags.length) i
theorem PlI.zero {q : PQuery} {d : PDec} : PlI q d 0 := ⟨by omega, allTo_zero⟩
theorem PlI.step {q : PQuery} {d : PDec} {i : Nat} (h : PlI q d i) (hi : i < d.bags.length) (e : placeOk q d i = true) : PlI q d (i + 1) := ⟨hi, allTo_step h.ok (by simpa using hi) (by simpa using e)⟩
theorem PlI.done {q : PQuery} {d : PDec} {i : Nat} (h : PlI q d i) (hi : d.bags.length ≤ i) : (List.range d.bags.length).all (placeOk q d) = true := allTo_done h.ok (by simpa using hi)
theorem any_ins {q : PQuery} (hq : queryOk q = true) {a : PAtom} (ha : a ∈ q.atoms) (bags : List (List Int)) : (bags.any fun b => insD a b) = anyIn bags a := by
  have h1 := queryOk_n5 hq
  have h2 : atomOk q.n a = true := by
    cases hh : q.atoms.all (atomOk q.n)
    · simp only [queryOk, hh, Bool.false_and, Bool.and_false] at hq; cases hq
    · exact (List.all_eq_true.1 hh) a ha
  simp only [anyIn]
  congr 1
  funext b
  exact (inAB_eq h1 h2 b).symm
end Go.Vs


namespace Go.Vs
/-! ### linear programs: vectors, kernels, vertices -/
def dotF : Nat → (Nat → _root_.Rat) → (Nat → _root_.Rat) → _root_.Rat
  | 0, _, _ => 0
  | n + 1, a, x => dotF n a x + a n * x n
theorem dotF_congr {a a' x x' : Nat → _root_.Rat} : ∀ {n : Nat}, (∀ k, k < n → a k = a' k) → (∀ k, k < n → x k = x' k) → dotF n a x = dotF n a' x'
  | 0, _, _ => rfl
  | n + 1, h, h' => by
    rw [dotF, dotF, dotF_congr (n := n) (fun k hk => h k (by omega)) (fun k hk => h' k (by omega)), h n (by omega), h' n (by omega)]
theorem dotF_add (a x y : Nat → _root_.Rat) : ∀ n : Nat, dotF n a (fun k => x k + y k) = dotF n a x + dotF n a y
  | 0 => by simp only [dotF]; grind
  | n + 1 => by
    simp only [dotF, dotF_add a x y n]
    grind
theorem dotF_smul (a x : Nat → _root_.Rat) (t : _root_.Rat) : ∀ n : Nat, dotF n a (fun k => t * x k) = t * dotF n a x
  | 0 => by simp [dotF]
  | n + 1 => by
    simp only [dotF, dotF_smul a x t n]
    grind
theorem dotF_comm (a x : Nat → _root_.Rat) : ∀ n : Nat, dotF n a x = dotF n x a
  | 0 => rfl
  | n + 1 => by rw [dotF, dotF, dotF_comm a x n, Rat.mul_comm]
theorem dotF_zero {a x : Nat → _root_.Rat} : ∀ {n : Nat}, (∀ k, k < n → a k * x k = 0) → dotF n a x = 0
  | 0, _ => rfl
  | n + 1, h => by
    rw [dotF, dotF_zero (n := n) (fun k hk => h k (by omega)), h n (by omega)]
    grind
theorem dotF_nonneg {a x : Nat → _root_.Rat} : ∀ {n : Nat}, (∀ k, k < n → 0 ≤ a k * x k) → 0 ≤ dotF n a x
  | 0, _ => by simp [dotF]
  | n + 1, h => by
    have h1 := dotF_nonneg (n := n) (fun k hk => h k (by omega))
    have h2 := h n (by omega)
    rw [dotF]
    grind
theorem dotF_one {a x : Nat → _root_.Rat} {j : Nat} : ∀ {n : Nat}, j < n → (∀ k, k < n → k ≠ j → a k * x k = 0) → dotF n a x = a j * x j
  | 0, h, _ => by omega
  | n + 1, h, hz => by
    rw [dotF]
    by_cases e : j = n
    · subst e
      rw [dotF_zero fun k hk => hz k (by omega) (by omega)]
      grind
    · rw [dotF_one (n := n) (by omega) fun k hk => hz k (by omega), hz n (by omega) (by omega)]
      grind
theorem dotF_swap (c : Nat → _root_.Rat) (B : Nat → Nat → _root_.Rat) (y : Nat → _root_.Rat) (n : Nat) : ∀ m : Nat, dotF m c (fun i => dotF n (B i) y) = dotF n (fun k => dotF m c (fun i => B i k)) y
  | 0 => by rw [dotF_zero (n := n)]; · rfl
            intro k _; simp [dotF]
  | m + 1 => by
    rw [dotF, dotF_swap c B y n m]
    simp only [dotF]
    rw [dotF_comm (fun k => dotF m c (fun i => B i k) + c m * B m k), dotF_add, dotF_smul, dotF_comm y, dotF_comm y]
/-- fewer equations than unknowns -/
theorem homog : ∀ (n : Nat) (A : List (Nat → _root_.Rat)), A.length < n → ∃ y : Nat → _root_.Rat, (∃ k, k < n ∧ y k ≠ 0) ∧ ∀ a ∈ A, dotF n a y = 0
  | 0, _, h => by omega
  | n + 1, A, h => by
    by_cases hA : ∀ a ∈ A, a n = 0
    · refine ⟨fun k => if k = n then 1 else 0, ⟨n, by omega, by simp⟩, fun a ha => ?_⟩
      refine dotF_zero fun k hk => ?_
      by_cases e : k = n
      · rw [e, hA a ha]; grind
      · simp only [if_neg e]; grind
    · have : ∃ a0, a0 ∈ A ∧ a0 n ≠ 0 := by
        refine Classical.byContradiction fun hn => hA fun a ha => Classical.byContradiction fun h' => hn ⟨a, ha, h'⟩
      obtain ⟨a0, h0, hne⟩ := this
      obtain ⟨s, t, rfl⟩ := List.append_of_mem h0
      obtain ⟨y, ⟨k, hk, hy⟩, hz⟩ := homog n ((s ++ t).map fun a k => a k - a n / a0 n * a0 k) (by simp at h ⊢; omega)
      have hd : ∀ a : Nat → _root_.Rat, dotF (n + 1) a (fun k => if k = n then - dotF n a0 y / a0 n else y k) = dotF n a y + a n * (- dotF n a0 y / a0 n) := fun a => by
        rw [dotF]
        simp only [if_true]
        rw [dotF_congr (a := a) (a' := a) (x' := y) (fun _ _ => rfl) (fun k hk => if_neg (by omega))]
      refine ⟨fun k => if k = n then - dotF n a0 y / a0 n else y k, ⟨k, by omega, by simp only [if_neg (show ¬ k = n by omega)]; exact hy⟩, fun a ha => ?_⟩
      rw [hd]
      have hsub : ∀ a ∈ s ++ t, dotF n a y = a n / a0 n * dotF n a0 y := fun a ha => by
        have h1 := hz _ (List.mem_map_of_mem ha)
        have h2 : dotF n (fun k => a k - a n / a0 n * a0 k) y = dotF n a y - a n / a0 n * dotF n a0 y := by
          rw [dotF_comm, dotF_comm a, dotF_comm a0, show (fun k => a k - a n / a0 n * a0 k) = fun k => a k + (-(a n / a0 n)) * a0 k from funext fun k => by grind, dotF_add, dotF_smul]
          grind
        rw [h2] at h1
        grind
      rcases List.mem_append.1 ha with ha | ha
      · rw [hsub a (List.mem_append_left _ ha)]; grind
      · rcases List.mem_cons.1 ha with rfl | ha
        · grind
        · rw [hsub a (List.mem_append_right _ ha)]; grind
theorem gd {α : Type} {l : List α} {i : Nat} {d : α} (h : i < l.length) : l.getD i d = l[i] := by simp [List.getD, h]
/-- only the null vector is sent to zero -/
def Ker (n : Nat) (A : List (Nat → _root_.Rat)) : Prop := ∀ y : Nat → _root_.Rat, (∀ a ∈ A, dotF n a y = 0) → ∀ k, k < n → y k = 0
theorem ker_sub {n : Nat} : ∀ (m : Nat) (A : List (Nat → _root_.Rat)), A.length ≤ m → Ker n A → ∃ B : List (Nat → _root_.Rat), B.Sublist A ∧ B.length = n ∧ Ker n B
  | m, A, hm, hA => by
    by_cases h1 : A.length < n
    · obtain ⟨y, ⟨k, hk, hy⟩, hz⟩ := homog n A h1
      exact absurd (hA y hz k hk) hy
    by_cases h2 : A.length = n
    · exact ⟨A, .refl _, h2, hA⟩
    cases m with
    | zero => omega
    | succ m =>
      obtain ⟨c, ⟨j, hj, hc⟩, hz⟩ := homog A.length ((List.range n).map fun k i => A.getD i (fun _ => 0) k) (by simp; omega)
      have hz' : ∀ k, k < n → dotF A.length c (fun i => A.getD i (fun _ => 0) k) = 0 := fun k hk => by
        rw [dotF_comm]
        exact hz _ (List.mem_map.2 ⟨k, List.mem_range.2 hk, rfl⟩)
      have hK : Ker n (A.eraseIdx j) := fun y hy => hA y fun a ha => by
        obtain ⟨i, hi, rfl⟩ := List.mem_iff_getElem.1 ha
        by_cases e : i = j
        · subst e
          have h3 : dotF A.length c (fun i => dotF n (A.getD i (fun _ => 0)) y) = 0 := by
            rw [dotF_swap]
            exact dotF_zero fun k hk => by rw [hz' k hk]; grind
          have h4 : dotF A.length c (fun i => dotF n (A.getD i (fun _ => 0)) y) = c i * dotF n (A.getD i (fun _ => 0)) y := by
            refine dotF_one hi fun k hk hki => ?_
            have h5 : A.getD k (fun _ => 0) ∈ A.eraseIdx i := by
              rw [gd hk, List.mem_eraseIdx_iff_getElem]
              exact ⟨k, hk, hki, rfl⟩
            rw [hy _ h5]; grind
          rw [h4, gd hi] at h3
          grind
        · exact hy _ (List.mem_eraseIdx_iff_getElem.2 ⟨i, hi, e, rfl⟩)
      obtain ⟨B, hB, hl, hk⟩ := ker_sub m (A.eraseIdx j) (by rw [List.length_eraseIdx]; split <;> omega) hK
      exact ⟨B, hB.trans (List.eraseIdx_sublist _ _), hl, hk⟩
theorem filter_lt {α : Type} {q r : α → Bool} : ∀ {l : List α}, (∀ p ∈ l, q p = true → r p = true) → (∃ p, p ∈ l ∧ r p = true ∧ q p = false) → (l.filter q).length < (l.filter r).length
  | [], _, ⟨_, h, _⟩ => by simp at h
  | a :: l, h, ⟨p, hp, h1, h2⟩ => by
    have hle : ∀ l : List α, (∀ p ∈ l, q p = true → r p = true) → (l.filter q).length ≤ (l.filter r).length := fun l hl => by
      rw [← List.countP_eq_length_filter, ← List.countP_eq_length_filter]
      exact List.countP_mono_left hl
    have hl := hle l fun p hp => h p (by simp [hp])
    have ha := h a (by simp)
    rcases List.mem_cons.1 hp with rfl | hp
    · simp only [List.filter_cons, h1, h2, if_true, Bool.false_eq_true, if_false, List.length_cons]; omega
    · have ih := filter_lt (l := l) (fun p hp => h p (by simp [hp])) ⟨p, hp, h1, h2⟩
      simp only [List.filter_cons]
      by_cases e : q a = true
      · rw [if_pos e, if_pos (ha e)]; simp; exact ih
      · rw [if_neg e]
        split
        · simp; omega
        · exact ih
theorem min_ex {α : Type} (f : α → _root_.Rat) : ∀ {l : List α}, l ≠ [] → ∃ p, p ∈ l ∧ ∀ p' ∈ l, f p ≤ f p'
  | [], h => absurd rfl h
  | [a], _ => ⟨a, by simp, fun p' hp => by rw [List.mem_singleton.1 hp]; exact Rat.le_refl⟩
  | a :: b :: l, _ => by
    obtain ⟨p, hp, hm⟩ := min_ex f (l := b :: l) (by simp)
    by_cases e : f a ≤ f p
    · refine ⟨a, by simp, fun p' hp' => ?_⟩
      rcases List.mem_cons.1 hp' with rfl | hp'
      · exact Rat.le_refl
      · have := hm p' hp'; grind
    · refine ⟨p, by simp only [List.mem_cons] at hp ⊢; exact .inr hp, fun p' hp' => ?_⟩
      rcases List.mem_cons.1 hp' with rfl | hp'
      · grind
      · exact hm p' hp'
abbrev Cst := (Nat → _root_.Rat) × _root_.Rat
def feasF (n : Nat) (C : List Cst) (x : Nat → _root_.Rat) : Prop := ∀ p ∈ C, p.2 ≤ dotF n p.1 x
def tgt (n : Nat) (x : Nat → _root_.Rat) (p : Cst) : Bool := decide (dotF n p.1 x = p.2)
/-- a descent direction along the tight conditions -/
theorem dir_ex {n : Nat} {C : List Cst} {c x : Nat → _root_.Rat} (hc : ∀ k, k < n → 0 ≤ c k) (h : ¬ Ker n ((C.filter (tgt n x)).map Prod.fst)) :
    ∃ y : Nat → _root_.Rat, (∀ p ∈ C, tgt n x p = true → dotF n p.1 y = 0) ∧ dotF n c y ≤ 0 ∧ ∃ k, k < n ∧ y k < 0 := by
  have : ∃ y : Nat → _root_.Rat, (∀ a ∈ (C.filter (tgt n x)).map Prod.fst, dotF n a y = 0) ∧ ∃ k, k < n ∧ y k ≠ 0 :=
    Classical.byContradiction fun hn => h fun y hy k hk => Classical.byContradiction fun h' => hn ⟨y, hy, k, hk, h'⟩
  obtain ⟨y, hy, k, hk, hne⟩ := this
  have hy' : ∀ p ∈ C, tgt n x p = true → dotF n p.1 y = 0 := fun p hp ht => hy _ (List.mem_map_of_mem (List.mem_filter.2 ⟨hp, ht⟩))
  have hm : ∀ a : Nat → _root_.Rat, dotF n a (fun k => -1 * y k) = - dotF n a y := fun a => by rw [dotF_smul]; grind
  have hneg : ∀ y : Nat → _root_.Rat, dotF n c y < 0 → ∃ k, k < n ∧ y k < 0 := fun y h0 =>
    Classical.byContradiction fun hn => by
      have : 0 ≤ dotF n c y := dotF_nonneg fun k hk => Rat.mul_nonneg (hc k hk) (by
        by_cases e : y k < 0
        · exact absurd ⟨k, hk, e⟩ hn
        · grind)
      grind
  by_cases h1 : dotF n c y < 0
  · exact ⟨y, hy', by grind, hneg y h1⟩
  by_cases h2 : 0 < dotF n c y
  · refine ⟨fun k => -1 * y k, fun p hp ht => by rw [hm, hy' p hp ht]; grind, by rw [hm]; grind, hneg _ (by rw [hm]; grind)⟩
  by_cases h3 : y k < 0
  · exact ⟨y, hy', by grind, k, hk, h3⟩
  · exact ⟨fun k => -1 * y k, fun p hp ht => by rw [hm, hy' p hp ht]; grind, by rw [hm]; grind, k, hk, by grind⟩
/-- from each feasible point one comes to a vertex that is no worse -/
theorem vert_ex {n : Nat} {C : List Cst} {c : Nat → _root_.Rat} (hc : ∀ k, k < n → 0 ≤ c k) (hu : ∀ k, k < n → ∃ p ∈ C, p.2 = 0 ∧ ∀ x, dotF n p.1 x = x k) :
    ∀ (m : Nat) (x : Nat → _root_.Rat), feasF n C x → (C.filter fun p => !tgt n x p).length ≤ m → ∃ v, feasF n C v ∧ dotF n c v ≤ dotF n c x ∧ Ker n ((C.filter (tgt n v)).map Prod.fst)
  | m, x, hx, hm => by
    by_cases hK : Ker n ((C.filter (tgt n x)).map Prod.fst)
    · exact ⟨x, hx, Rat.le_refl, hK⟩
    obtain ⟨y, hy, hcy, k, hk, hyk⟩ := dir_ex hc hK
    obtain ⟨pk, hpk, _, hek⟩ := hu k hk
    have hne : (C.filter fun p => decide (dotF n p.1 y < 0)) ≠ [] := fun e => by
      have : pk ∈ (C.filter fun p => decide (dotF n p.1 y < 0)) := List.mem_filter.2 ⟨hpk, by rw [hek]; simpa using hyk⟩
      rw [e] at this; simp at this
    obtain ⟨p0, hp0, hmin⟩ := min_ex (fun p : Cst => (dotF n p.1 x - p.2) / (- dotF n p.1 y)) hne
    obtain ⟨hp0C, hp0n⟩ := List.mem_filter.1 hp0
    have hp0n : dotF n p0.1 y < 0 := by simpa using hp0n
    obtain ⟨t, ht⟩ : ∃ t, t = (dotF n p0.1 x - p0.2) / (- dotF n p0.1 y) := ⟨_, rfl⟩
    simp only [← ht] at hmin
    have hd : ∀ a : Nat → _root_.Rat, dotF n a (fun k => x k + t * y k) = dotF n a x + t * dotF n a y := fun a => by rw [dotF_add, dotF_smul]
    have hdiv : ∀ a b : _root_.Rat, 0 < b → 0 ≤ a → 0 ≤ a / b := fun a b hb ha => by
      rw [Rat.div_def]; exact Rat.mul_nonneg ha (Rat.le_of_lt (Rat.inv_pos.2 hb))
    have ht0 : 0 ≤ t := by
      rw [ht]
      exact hdiv _ _ (by grind) (by have := hx p0 hp0C; grind)
    have htp : t * (- dotF n p0.1 y) = dotF n p0.1 x - p0.2 := by
      rw [ht]
      have : (- dotF n p0.1 y) ≠ 0 := by grind
      grind
    have hx' : feasF n C (fun k => x k + t * y k) := fun p hp => by
      rw [hd]
      have h1 := hx p hp
      by_cases e : dotF n p.1 y < 0
      · have h2 := hmin p (List.mem_filter.2 ⟨hp, by simpa using e⟩)
        have h3 := Rat.mul_le_mul_of_nonneg_right h2 (c := - dotF n p.1 y) (by grind)
        have h4 : (dotF n p.1 x - p.2) / (- dotF n p.1 y) * (- dotF n p.1 y) = dotF n p.1 x - p.2 := by
          have : (- dotF n p.1 y) ≠ 0 := by grind
          grind
        rw [h4] at h3
        grind
      · have := Rat.mul_nonneg ht0 (show 0 ≤ dotF n p.1 y by grind)
        grind
    have hlt : (C.filter fun p => !tgt n (fun k => x k + t * y k) p).length < (C.filter fun p => !tgt n x p).length := by
      refine filter_lt (fun p hp hq => ?_) ⟨p0, hp0C, ?_, ?_⟩
      · cases e : tgt n x p with
        | false => rfl
        | true =>
          have h1 := hy p hp e
          simp only [tgt, hd, h1, Bool.not_eq_true', decide_eq_false_iff_not, decide_eq_true_eq] at hq e
          grind
      · cases e : tgt n x p0 with
        | false => rfl
        | true => have := hy p0 hp0C e; grind
      · simp only [tgt, hd, Bool.not_eq_false', decide_eq_true_eq]
        grind
    cases m with
    | zero => omega
    | succ m =>
      obtain ⟨v, h1, h2, h3⟩ := vert_ex hc hu m _ hx' (by omega)
      refine ⟨v, h1, ?_, h3⟩
      rw [hd] at h2
      have h4 := Rat.mul_nonneg ht0 (show 0 ≤ - dotF n c y by grind)
      grind
end Go.Vs


namespace Go.Vs
/-! ### systems of equations: elimination with small numbers -/
def fnL (r : List _root_.Rat) : Nat → _root_.Rat := fun k => r.getD k 0
def rowQ (m : List (List _root_.Rat)) (i : Nat) : Nat → _root_.Rat := fnL (m.getD i [])
def elimR (p : Nat) (piv row : List _root_.Rat) : List _root_.Rat := row.mapIdx fun k x => if k < p then x else x - fnL row p / fnL piv p * fnL piv k
def pivAt (m : List (List _root_.Rat)) (p : Nat) : Nat := p + (m.drop p).findIdx fun r => decide (fnL r p ≠ 0)
def swapM (m : List (List _root_.Rat)) (p k : Nat) : List (List _root_.Rat) := (m.set p (m.getD k [])).set k (m.getD p [])
def stepM (p : Nat) (m : List (List _root_.Rat)) : List (List _root_.Rat) := m.mapIdx fun i r => if i = p then r else elimR p (m.getD p []) r
def gjStep (p : Nat) (m : List (List _root_.Rat)) : Option (List (List _root_.Rat)) := if pivAt m p < m.length then some (stepM p (swapM m p (pivAt m p))) else none
def gj (m0 : List (List _root_.Rat)) : Nat → Option (List (List _root_.Rat))
  | 0 => some m0
  | p + 1 => (gj m0 p).bind (gjStep p)
def outM (n : Nat) (m : List (List _root_.Rat)) : List _root_.Rat := (List.range n).map fun p => rowQ m p n / rowQ m p p
def solQ (n : Nat) (m0 : List (List _root_.Rat)) : Option (List _root_.Rat) := (gj m0 n).map (outM n)

structure GJ (n p : Nat) (m0 m : List (List _root_.Rat)) : Prop where
  len : m.length = n
  row : ∀ r ∈ m, r.length = n + 1
  dia : ∀ i j, i < n → j < p → i ≠ j → rowQ m i j = 0
  piv : ∀ i, i < p → rowQ m i i ≠ 0
  sol : ∀ y, (∀ r ∈ m, dotF (n + 1) (fnL r) y = 0) ↔ (∀ r ∈ m0, dotF (n + 1) (fnL r) y = 0)

def bbQ : Nat → Nat
  | 0 => 1
  | p + 1 => 2 * (bbQ p * bbQ p)
def cbQ : Nat → Nat
  | 0 => 1
  | p + 1 => cbQ p * bbQ p
theorem bbQ_pos : ∀ p, 1 ≤ bbQ p
  | 0 => Nat.le_refl _
  | p + 1 => by
    have := bbQ_pos p
    have := Nat.mul_le_mul this this
    simp only [bbQ]; omega
theorem bbQ_mono (p : Nat) : bbQ p ≤ bbQ (p + 1) := by
  have := bbQ_pos p
  have := Nat.mul_le_mul_left (bbQ p) this
  simp only [bbQ]; omega
theorem cbQ_mono (p : Nat) : cbQ p ≤ cbQ (p + 1) := by
  have := bbQ_pos p
  have := Nat.mul_le_mul_left (cbQ p) this
  simp only [cbQ]; omega
/-- whole numbers behind a row -/
structure RowB (n : Nat) (c b : Nat) (r : Nat → _root_.Rat) (s : Int) (M : Nat → Int) : Prop where
  ne : s ≠ 0
  sc : s.natAbs ≤ c
  eq : ∀ k, k ≤ n → r k * (s : _root_.Rat) = (M k : _root_.Rat)
  bd : ∀ k, k ≤ n → (M k).natAbs ≤ b
def Bd (n p : Nat) (m : List (List _root_.Rat)) : Prop :=
  ∃ D : Int, D ≠ 0 ∧ D.natAbs ≤ cbQ p ∧ ∀ i, i < n → ∃ (s : Int) (M : Nat → Int), RowB n (cbQ p) (bbQ p) (rowQ m i) s M ∧ (i < p → ∃ e : Int, D = M i * e)

theorem el_num {x a d q s sp X A P Y : _root_.Rat} (hd : d ≠ 0) (h1 : x * s = X) (h2 : a * s = A) (h3 : d * sp = P) (h4 : q * sp = Y) : (x - a / d * q) * (s * P) = P * X - A * Y := by grind
theorem el_f {a d s sp A P : _root_.Rat} (hd : d ≠ 0) (h2 : a * s = A) (h3 : d * sp = P) : a / d * (s * P) = A * sp := by grind
theorem el_q {a d q s sp A P Y : _root_.Rat} (hd : d ≠ 0) (h2 : a * s = A) (h3 : d * sp = P) (h4 : q * sp = Y) : a / d * q * (s * P) = A * Y := by grind

theorem getD_mem' {α : Type} {l : List α} {i : Nat} {d : α} (h : i < l.length) : l.getD i d ∈ l := by rw [gd h]; exact List.getElem_mem h
theorem getD_set' {α : Type} {l : List α} {i j : Nat} {a d : α} (h : i < l.length) : (l.set i a).getD j d = if i = j then a else l.getD j d := by
  simp only [List.getD, List.getElem?_set]
  split
  · rfl
  · rfl
theorem swap_get {m : List (List _root_.Rat)} {p k : Nat} (hp : p < m.length) (hk : k < m.length) (i : Nat) : (swapM m p k).getD i [] = m.getD (if i = k then p else if i = p then k else i) [] := by
  rw [swapM, getD_set' (by simpa using hk)]
  by_cases e : k = i
  · subst e; simp
  · rw [if_neg e, getD_set' hp]
    have e' : ¬ i = k := fun h => e h.symm
    by_cases e2 : p = i
    · subst e2; simp [e']
    · have e2' : ¬ i = p := fun h => e2 h.symm
      simp [e2, e', e2']
theorem swap_mem {m : List (List _root_.Rat)} {p k : Nat} (hp : p < m.length) (hk : k < m.length) (r : List _root_.Rat) : r ∈ swapM m p k ↔ r ∈ m := by
  have hl : (swapM m p k).length = m.length := by simp [swapM]
  constructor
  · intro h
    obtain ⟨i, hi, rfl⟩ := List.mem_iff_getElem.1 h
    rw [← gd hi (d := []), swap_get hp hk]
    exact getD_mem' (by split; · exact hp
                        split; · exact hk
                        omega)
  · intro h
    obtain ⟨i, hi, rfl⟩ := List.mem_iff_getElem.1 h
    have e : m[i] = (swapM m p k).getD (if i = k then p else if i = p then k else i) [] := by
      rw [swap_get hp hk, ← gd hi (d := [])]
      congr 1
      by_cases h1 : i = k
      · subst h1
        simp only [if_true]
        split <;> simp_all
      · by_cases h2 : i = p
        · subst h2; simp [h1]
        · simp [h1, h2]
    rw [e]
    exact getD_mem' (by rw [hl]; split; · exact hp
                        split; · exact hk
                        exact hi)
theorem step_get {m : List (List _root_.Rat)} {p i : Nat} (hi : i < m.length) : (stepM p m).getD i [] = if i = p then m.getD p [] else elimR p (m.getD p []) (m.getD i []) := by
  rw [stepM, gd (by simpa using hi), List.getElem_mapIdx]
  split
  · rename_i h; subst h; exact (gd hi).symm
  · rw [gd hi]
theorem elim_fn {p n : Nat} {piv row : List _root_.Rat} (hr : row.length = n + 1) (hz : ∀ j, j < p → fnL piv j = 0) {k : Nat} (hk : k ≤ n) : fnL (elimR p piv row) k = fnL row k - fnL row p / fnL piv p * fnL piv k := by
  rw [fnL, elimR, gd (by simp; omega), List.getElem_mapIdx]
  have : fnL row k = row[k]'(by omega) := by rw [fnL, gd (by omega)]
  rw [this]
  split
  · rename_i h; rw [hz k h]; grind
  · rfl
theorem elim_len {p : Nat} {piv row : List _root_.Rat} : (elimR p piv row).length = row.length := by simp [elimR]
/-- the first row with a pivot -/
theorem piv_lt {m : List (List _root_.Rat)} {p : Nat} (h : pivAt m p < m.length) : p ≤ pivAt m p ∧ rowQ m (pivAt m p) p ≠ 0 := by
  have h1 : (m.drop p).findIdx (fun r => decide (fnL r p ≠ 0)) < (m.drop p).length := by
    rw [List.length_drop]; unfold pivAt at h; omega
  have h2 := List.findIdx_getElem (w := h1)
  refine ⟨by unfold pivAt; omega, ?_⟩
  simp only [List.getElem_drop, decide_eq_true_eq] at h2
  rw [rowQ, gd h]
  exact h2
theorem piv_none {m : List (List _root_.Rat)} {p : Nat} (h : ¬ pivAt m p < m.length) : ∀ k, p ≤ k → k < m.length → rowQ m k p = 0 := fun k h1 h2 => by
  have h3 : ¬ (m.drop p).findIdx (fun r => decide (fnL r p ≠ 0)) < (m.drop p).length := by
    rw [List.length_drop]; unfold pivAt at h; omega
  rw [List.findIdx_lt_length] at h3
  refine Classical.byContradiction fun hn => h3 ⟨m[k], ?_, ?_⟩
  · rw [List.mem_iff_getElem]
    exact ⟨k - p, by rw [List.length_drop]; omega, by simp only [List.getElem_drop]; congr 1; omega⟩
  · rw [rowQ, gd h2] at hn
    simpa using hn
theorem GJ.swap {n p k : Nat} {m0 m : List (List _root_.Rat)} (h : GJ n p m0 m) (hp : p ≤ k) (hk : k < n) : GJ n p m0 (swapM m p k) := by
  have hl := h.len
  have hg := swap_get (m := m) (p := p) (k := k) (by omega) (by omega)
  have hm := swap_mem (m := m) (p := p) (k := k) (by omega) (by omega)
  refine ⟨by simp [swapM, hl], fun r hr => h.row r ((hm r).1 hr), fun i j hi hj hij => ?_, fun i hi => ?_, fun y => ?_⟩
  · rw [rowQ, hg]
    split
    · exact h.dia p j (by omega) hj (by omega)
    · split
      · exact h.dia k j hk hj (by omega)
      · exact h.dia i j hi hj hij
  · rw [rowQ, hg, if_neg (by omega), if_neg (by omega)]
    exact h.piv i hi
  · rw [← h.sol y]
    exact ⟨fun hy r hr => hy r ((hm r).2 hr), fun hy r hr => hy r ((hm r).1 hr)⟩
theorem Bd.swap {n p k : Nat} {m0 m : List (List _root_.Rat)} (h : GJ n p m0 m) (hp : p ≤ k) (hk : k < n) (hb : Bd n p m) : Bd n p (swapM m p k) := by
  have hl := h.len
  have hg := swap_get (m := m) (p := p) (k := k) (by omega) (by omega)
  obtain ⟨D, h1, h2, h3⟩ := hb
  refine ⟨D, h1, h2, fun i hi => ?_⟩
  obtain ⟨s, M, hs, hD⟩ := h3 (if i = k then p else if i = p then k else i) (by split; · omega
                                                                                split; · omega
                                                                                exact hi)
  refine ⟨s, M, ?_, fun hip => ?_⟩
  · have : rowQ (swapM m p k) i = rowQ m (if i = k then p else if i = p then k else i) := by rw [rowQ, hg]; rfl
    rw [this]; exact hs
  · rw [if_neg (by omega), if_neg (by omega)] at hD
    exact hD hip
theorem GJ.step {n p : Nat} {m0 m : List (List _root_.Rat)} (h : GJ n p m0 m) (hp : p < n) (hne : rowQ m p p ≠ 0) : GJ n (p + 1) m0 (stepM p m) := by
  have hl := h.len
  have hz : ∀ j, j < p → fnL (m.getD p []) j = 0 := fun j hj => h.dia p j hp hj (by omega)
  have hr : ∀ i, i < n → (m.getD i []).length = n + 1 := fun i hi => h.row _ (getD_mem' (by omega))
  have hrow : ∀ i, i < n → i ≠ p → ∀ k, k ≤ n → rowQ (stepM p m) i k = rowQ m i k - rowQ m i p / rowQ m p p * rowQ m p k := fun i hi hip k hk => by
    rw [rowQ, step_get (by omega), if_neg hip]
    exact elim_fn (hr i hi) hz hk
  have hrp : rowQ (stepM p m) p = rowQ m p := by rw [rowQ, step_get (by omega), if_pos rfl]; rfl
  have hdot : ∀ i, i < n → i ≠ p → ∀ y, dotF (n + 1) (rowQ (stepM p m) i) y = dotF (n + 1) (rowQ m i) y - rowQ m i p / rowQ m p p * dotF (n + 1) (rowQ m p) y := fun i hi hip y => by
    rw [dotF_comm, dotF_comm (rowQ m i), dotF_comm (rowQ m p), dotF_congr (a := y) (a' := y) (x' := fun k => rowQ m i k + (-(rowQ m i p / rowQ m p p)) * rowQ m p k) (fun _ _ => rfl) (fun k hk => by rw [hrow i hi hip k (by omega)]; grind), dotF_add, dotF_smul]
    grind
  have hsl : (stepM p m).length = n := by simp [stepM, hl]
  refine ⟨hsl, fun r hr' => ?_, fun i j hi hj hij => ?_, fun i hi => ?_, fun y => ?_⟩
  · obtain ⟨i, hi, rfl⟩ := List.mem_iff_getElem.1 hr'
    rw [← gd hi (d := []), step_get (by omega)]
    split
    · exact hr p hp
    · rw [elim_len]; exact hr i (by omega)
  · by_cases e : i = p
    · subst e; rw [hrp]; exact h.dia i j hi (by omega) hij
    · rw [hrow i hi e j (by omega)]
      by_cases e2 : j = p
      · subst e2; grind
      · have := h.dia i j hi (by omega) hij
        have := h.dia p j hp (by omega) (by omega)
        grind
  · by_cases e : i = p
    · subst e; rw [hrp]; exact hne
    · rw [hrow i (by omega) e i (by omega)]
      have := h.piv i (by omega)
      have := h.dia p i hp (by omega) (by omega)
      grind
  · rw [← h.sol y]
    have hm : ∀ i, i < n → rowQ m i = fnL (m.getD i []) := fun _ _ => rfl
    constructor
    · intro hy r hr'
      obtain ⟨i, hi, rfl⟩ := List.mem_iff_getElem.1 hr'
      rw [← gd hi (d := [])]
      have hpz : dotF (n + 1) (rowQ m p) y = 0 := by
        rw [← hrp]; exact hy _ (getD_mem' (by omega))
      by_cases e : i = p
      · subst e; exact hpz
      · have h1 := hy _ (getD_mem' (l := stepM p m) (i := i) (d := []) (by omega))
        have h2 := hdot i (by omega) e y
        rw [hpz] at h2
        show dotF (n + 1) (rowQ m i) y = 0
        have h3 : dotF (n + 1) (rowQ (stepM p m) i) y = 0 := h1
        grind
    · intro hy r hr'
      obtain ⟨i, hi, rfl⟩ := List.mem_iff_getElem.1 hr'
      rw [← gd hi (d := [])]
      show dotF (n + 1) (rowQ (stepM p m) i) y = 0
      have hpz : dotF (n + 1) (rowQ m p) y = 0 := hy _ (getD_mem' (by omega))
      by_cases e : i = p
      · subst e; rw [hrp]; exact hpz
      · rw [hdot i (by omega) e y, hpz]
        have : dotF (n + 1) (rowQ m i) y = 0 := hy _ (getD_mem' (by omega))
        grind
theorem natAbs_mul_le {a b : Int} {x y : Nat} (h1 : a.natAbs ≤ x) (h2 : b.natAbs ≤ y) : (a * b).natAbs ≤ x * y := by rw [Int.natAbs_mul]; exact Nat.mul_le_mul h1 h2
theorem natAbs_sub_le' (a b : Int) : (a - b).natAbs ≤ a.natAbs + b.natAbs := by omega
theorem Bd.step {n p : Nat} {m0 m : List (List _root_.Rat)} (h : GJ n p m0 m) (hp : p < n) (hne : rowQ m p p ≠ 0) (hb : Bd n p m) : Bd n (p + 1) (stepM p m) := by
  have hl := h.len
  have hz : ∀ j, j < p → fnL (m.getD p []) j = 0 := fun j hj => h.dia p j hp hj (by omega)
  have hr : ∀ i, i < n → (m.getD i []).length = n + 1 := fun i hi => h.row _ (getD_mem' (by omega))
  have hrow : ∀ i, i < n → i ≠ p → ∀ k, k ≤ n → rowQ (stepM p m) i k = rowQ m i k - rowQ m i p / rowQ m p p * rowQ m p k := fun i hi hip k hk => by
    rw [rowQ, step_get (by omega), if_neg hip]
    exact elim_fn (hr i hi) hz hk
  have hrp : rowQ (stepM p m) p = rowQ m p := by rw [rowQ, step_get (by omega), if_pos rfl]; rfl
  obtain ⟨D, h1, h2, h3⟩ := hb
  obtain ⟨sp, P, rp, _⟩ := h3 p hp
  have hP : P p ≠ 0 := fun e => by
    have := rp.eq p (by omega)
    rw [e] at this
    have hs : (sp : _root_.Rat) ≠ 0 := fun e => rp.ne (Rat.intCast_inj.1 (by simpa using e))
    have : rowQ m p p * (sp : _root_.Rat) = 0 := by simpa using this
    grind
  refine ⟨D * P p, Int.mul_ne_zero h1 hP, natAbs_mul_le h2 (rp.bd p (by omega)), fun i hi => ?_⟩
  by_cases e : i = p
  · subst e
    refine ⟨sp, P, ⟨rp.ne, Nat.le_trans rp.sc (cbQ_mono _), fun k hk => by rw [hrp]; exact rp.eq k hk, fun k hk => Nat.le_trans (rp.bd k hk) (bbQ_mono _)⟩, fun _ => ⟨D, Int.mul_comm _ _⟩⟩
  · obtain ⟨s, M, ri, hD⟩ := h3 i hi
    refine ⟨s * P p, fun k => P p * M k - M p * P k, ⟨Int.mul_ne_zero ri.ne hP, natAbs_mul_le ri.sc (rp.bd p (by omega)), fun k hk => ?_, fun k hk => ?_⟩, fun hip => ?_⟩
    · rw [hrow i hi e k hk]
      have := el_num hne (ri.eq k hk) (ri.eq p (by omega)) (rp.eq p (by omega)) (rp.eq k hk)
      rw [Rat.intCast_mul, Rat.intCast_sub, Rat.intCast_mul, Rat.intCast_mul]
      exact this
    · have a1 := natAbs_mul_le (rp.bd p (by omega)) (ri.bd k hk)
      have a2 := natAbs_mul_le (ri.bd p (by omega)) (rp.bd k hk)
      have a3 := natAbs_sub_le' (P p * M k) (M p * P k)
      simp only [bbQ]; omega
    · obtain ⟨x, hx⟩ := hD (by omega)
      have : P i = 0 := by
        have h4 := rp.eq i (by omega)
        have h5 : rowQ m p i = 0 := hz i (by omega)
        rw [h5] at h4
        have : ((P i : Int) : _root_.Rat) = ((0 : Int) : _root_.Rat) := by rw [← h4]; simp
        exact Rat.intCast_inj.1 this
      refine ⟨x, ?_⟩
      simp only [this, hx, Int.mul_zero, Int.sub_zero]
      rw [Int.mul_comm (P p), Int.mul_assoc, Int.mul_assoc, Int.mul_comm x]
end Go.Vs


namespace Go.Vs
/-! ### systems of equations: the solution -/
theorem dotF_two {a x : Nat → _root_.Rat} {i j : Nat} : ∀ {n : Nat}, i < n → j < n → i ≠ j → (∀ k, k < n → k ≠ i → k ≠ j → a k * x k = 0) → dotF n a x = a i * x i + a j * x j
  | 0, h, _, _, _ => by omega
  | n + 1, hi, hj, hij, hz => by
    rw [dotF]
    by_cases e : i = n
    · subst e
      rw [dotF_one (j := j) (by omega) fun k hk hkj => hz k (by omega) (by omega) hkj]
      grind
    · by_cases e2 : j = n
      · subst e2
        rw [dotF_one (j := i) (by omega) fun k hk hki => hz k (by omega) hki (by omega)]
      · rw [dotF_two (n := n) (i := i) (j := j) (by omega) (by omega) hij fun k hk => hz k (by omega), hz n (by omega) (by omega) (by omega)]
        grind
theorem gj_inv {n : Nat} {m0 : List (List _root_.Rat)} (hl : m0.length = n) (hr : ∀ r ∈ m0, r.length = n + 1) (hb : Bd n 0 m0) : ∀ p, p ≤ n → ∀ m, gj m0 p = some m → GJ n p m0 m ∧ Bd n p m
  | 0, _, m, h => by
    simp only [gj, Option.some.injEq] at h
    subst h
    exact ⟨⟨hl, hr, fun i j _ h => by omega, fun i h => by omega, fun y => Iff.rfl⟩, hb⟩
  | p + 1, hp, m, h => by
    rw [gj] at h
    cases e : gj m0 p with
    | none => rw [e] at h; cases h
    | some m1 =>
      obtain ⟨g1, b1⟩ := gj_inv hl hr hb p (by omega) m1 e
      rw [e, Option.bind_some, gjStep] at h
      split at h
      · rename_i hlt
        simp only [Option.some.injEq] at h
        subst h
        obtain ⟨h1, h2⟩ := piv_lt hlt
        have g2 := g1.swap h1 (by rw [← g1.len]; exact hlt)
        have b2 := Bd.swap g1 h1 (by rw [← g1.len]; exact hlt) b1
        have hne : rowQ (swapM m1 p (pivAt m1 p)) p p ≠ 0 := by
          have hp' : p < m1.length := by rw [g1.len]; omega
          rw [rowQ, swap_get hp' hlt]
          split
          · rename_i e; rw [← e] at h2; exact h2
          · rw [if_pos rfl]; exact h2
        exact ⟨g2.step (by omega) hne, Bd.step g2 (by omega) hne b2⟩
      · cases h
theorem gj_ex {n : Nat} {m0 : List (List _root_.Rat)} (hl : m0.length = n) (hr : ∀ r ∈ m0, r.length = n + 1) (hb : Bd n 0 m0) (hK : Ker n (m0.map fnL)) : ∀ p, p ≤ n → ∃ m, gj m0 p = some m
  | 0, _ => ⟨m0, rfl⟩
  | p + 1, hp => by
    obtain ⟨m, hm⟩ := gj_ex hl hr hb hK p (by omega)
    obtain ⟨g, _⟩ := gj_inv hl hr hb p (by omega) m hm
    rw [gj, hm, Option.bind_some, gjStep]
    split
    · exact ⟨_, rfl⟩
    · rename_i hno
      exfalso
      have hpz := piv_none hno
      obtain ⟨y, hy⟩ : ∃ y : Nat → _root_.Rat, y = fun k => if k < p then - rowQ m k p / rowQ m k k else if k = p then 1 else 0 := ⟨_, rfl⟩
      have y1 : ∀ k, k < p → y k = - rowQ m k p / rowQ m k k := fun k hk => by rw [hy]; simp only [if_pos hk]
      have y2 : y p = 1 := by rw [hy]; simp
      have y3 : ∀ k, p < k → y k = 0 := fun k hk => by rw [hy]; simp only [if_neg (show ¬ k < p by omega), if_neg (show ¬ k = p by omega)]
      have hz : ∀ r ∈ m, dotF (n + 1) (fnL r) y = 0 := fun r hr' => by
        obtain ⟨i, hi, rfl⟩ := List.mem_iff_getElem.1 hr'
        rw [← gd hi (d := [])]
        show dotF (n + 1) (rowQ m i) y = 0
        have hin : i < n := by rw [← g.len]; exact hi
        by_cases hip : i < p
        · rw [dotF_two (i := i) (j := p) (by omega) (by omega) (by omega) fun k hk hki hkp => by
            by_cases hkl : k < p
            · rw [g.dia i k hin hkl (by omega)]; grind
            · rw [y3 k (by omega)]; grind]
          rw [y1 i hip, y2]
          have := g.piv i hip
          grind
        · refine dotF_zero fun k hk => ?_
          by_cases hkl : k < p
          · rw [g.dia i k hin hkl (by omega)]; grind
          · by_cases hkp : k = p
            · subst hkp; rw [hpz i (by omega) hi]; grind
            · rw [y3 k (by omega)]; grind
      have h0 := (g.sol y).1 hz
      have h1 := hK y (fun a ha => by
        obtain ⟨r, hr', rfl⟩ := List.mem_map.1 ha
        have := h0 r hr'
        rw [dotF, y3 n (by omega)] at this
        grind) p (by omega)
      rw [y2] at h1
      grind
theorem sol_some {n : Nat} {m0 : List (List _root_.Rat)} {v : Nat → _root_.Rat} (hl : m0.length = n) (hr : ∀ r ∈ m0, r.length = n + 1) (hb : Bd n 0 m0) (hK : Ker n (m0.map fnL)) (hv : ∀ r ∈ m0, dotF n (fnL r) v = fnL r n) :
    solQ n m0 = some ((List.range n).map v) := by
  obtain ⟨m, hm⟩ := gj_ex hl hr hb hK n (Nat.le_refl _)
  obtain ⟨g, _⟩ := gj_inv hl hr hb n (Nat.le_refl _) m hm
  rw [solQ, hm, Option.map_some, outM]
  congr 1
  refine List.map_congr_left fun p hp => ?_
  have hp := List.mem_range.1 hp
  obtain ⟨y, hy⟩ : ∃ y : Nat → _root_.Rat, y = fun k => if k < n then v k else -1 := ⟨_, rfl⟩
  have y1 : ∀ k, k < n → y k = v k := fun k hk => by rw [hy]; simp only [if_pos hk]
  have y2 : y n = -1 := by rw [hy]; simp
  have h0 : ∀ r ∈ m0, dotF (n + 1) (fnL r) y = 0 := fun r hr' => by
    rw [dotF, y2, dotF_congr (a' := fnL r) (x' := v) (fun _ _ => rfl) y1, hv r hr']
    grind
  have h1 := (g.sol y).2 h0 _ (getD_mem' (i := p) (d := []) (by rw [g.len]; exact hp))
  have h2 : dotF (n + 1) (rowQ m p) y = 0 := h1
  rw [dotF_two (i := p) (j := n) (by omega) (by omega) (by omega) fun k hk hkp hkn => by rw [g.dia p k hp (by omega) (by omega)]; grind] at h2
  rw [y1 p hp, y2] at h2
  have := g.piv p hp
  grind
/-! ### small numbers -/
def rbQ (N D : Nat) (q : _root_.Rat) : Prop := ∃ s M : Int, s ≠ 0 ∧ q * (s : _root_.Rat) = (M : _root_.Rat) ∧ M.natAbs ≤ N ∧ s.natAbs ≤ D
theorem rb_num {N D : Nat} {q : _root_.Rat} (h : rbQ N D q) : q.num.natAbs ≤ N ∧ q.den ≤ D := by
  obtain ⟨s, M, hs, hq, hM, hD⟩ := h
  have hs' : (s : _root_.Rat) ≠ 0 := fun e => hs (Rat.intCast_inj.1 (by simpa using e))
  have e : q = Rat.divInt M s := by
    rw [Rat.divInt_eq_div]
    grind
  constructor
  · rw [e, Rat.num_divInt]
    refine Nat.le_trans ?_ hM
    rw [Int.natAbs_ediv_of_dvd (Int.dvd_trans (Int.gcd_dvd_right _ _) (Int.dvd_mul_left _ _)), Int.natAbs_mul]
    refine Nat.le_trans (Nat.div_le_self _ _) ?_
    have : s.sign.natAbs ≤ 1 := by
      rcases Int.lt_trichotomy s 0 with h | h | h
      · rw [Int.sign_eq_neg_one_of_neg h]; decide
      · exact absurd h hs
      · rw [Int.sign_eq_one_of_pos h]; decide
    have := Nat.mul_le_mul_right M.natAbs this
    omega
  · rw [e, Rat.den_divInt, if_neg hs]
    exact Nat.le_trans (Nat.div_le_self _ _) hD
def smQ (q : _root_.Rat) : Prop := q.num.natAbs ≤ 1000000000 ∧ q.den ≤ 1000000000
theorem rb_sm {N D : Nat} {q : _root_.Rat} (h : rbQ N D q) (h1 : N ≤ 1000000000) (h2 : D ≤ 1000000000) : smQ q := by
  have := rb_num h
  exact ⟨by omega, by omega⟩
theorem bb4 {p : Nat} (h : p ≤ 4) : bbQ p ≤ 32768 ∧ cbQ p ≤ 2048 := by
  have : p = 0 ∨ p = 1 ∨ p = 2 ∨ p = 3 ∨ p = 4 := by omega
  rcases this with rfl | rfl | rfl | rfl | rfl <;> simp [bbQ, cbQ]
theorem bb3 {p : Nat} (h : p ≤ 3) : bbQ p ≤ 128 ∧ cbQ p ≤ 16 := by
  have : p = 0 ∨ p = 1 ∨ p = 2 ∨ p = 3 := by omega
  rcases this with rfl | rfl | rfl | rfl <;> simp [bbQ, cbQ]
/-- all numbers of a step are small -/
structure SafeS (n p : Nat) (m : List (List _root_.Rat)) : Prop where
  at_ : ∀ i k, i < n → k ≤ n → smQ (rowQ m i k)
  f : ∀ i, i < n → smQ (rowQ m i p / rowQ m p p)
  q : ∀ i k, i < n → k ≤ n → smQ (rowQ m i p / rowQ m p p * rowQ m p k)
  d : ∀ i k, i < n → k ≤ n → smQ (rowQ m i k - rowQ m i p / rowQ m p p * rowQ m p k)
theorem bd_at {n p : Nat} {m : List (List _root_.Rat)} (h : Bd n p m) (hp : p ≤ 4) {i k : Nat} (hi : i < n) (hk : k ≤ n) : smQ (rowQ m i k) := by
  obtain ⟨D, _, _, h3⟩ := h
  obtain ⟨s, M, r, _⟩ := h3 i hi
  have := bb4 hp
  have := r.sc
  have := r.bd k hk
  exact rb_sm (N := 32768) (D := 2048) ⟨s, M k, r.ne, r.eq k hk, by omega, by omega⟩ (by omega) (by omega)
theorem bd_safe {n p : Nat} {m : List (List _root_.Rat)} (h : Bd n p m) (hp : p ≤ 3) (hpn : p < n) (hne : rowQ m p p ≠ 0) : SafeS n p m := by
  have h0 := h
  obtain ⟨D, _, _, h3⟩ := h
  obtain ⟨sp, P, rp, _⟩ := h3 p hpn
  have hb := bb3 hp
  have hP : P p ≠ 0 := fun e => by
    have := rp.eq p (by omega)
    rw [e] at this
    have hs : (sp : _root_.Rat) ≠ 0 := fun e => rp.ne (Rat.intCast_inj.1 (by simpa using e))
    have : rowQ m p p * (sp : _root_.Rat) = 0 := by simpa using this
    grind
  have cut : ∀ {a b : Int} {x y X Y : Nat}, a.natAbs ≤ x → b.natAbs ≤ y → x ≤ X → y ≤ Y → (a * b).natAbs ≤ X * Y := fun h1 h2 h3 h4 => Nat.le_trans (natAbs_mul_le h1 h2) (Nat.mul_le_mul h3 h4)
  refine ⟨fun i k hi hk => bd_at h0 (by omega) hi hk, fun i hi => ?_, fun i k hi hk => ?_, fun i k hi hk => ?_⟩
  all_goals obtain ⟨s, M, ri, _⟩ := h3 i hi
  all_goals have hs := Int.mul_ne_zero ri.ne hP
  all_goals have hsb : (s * P p).natAbs ≤ 16 * 128 := cut ri.sc (rp.bd p (by omega)) hb.2 hb.1
  · exact rb_sm (N := 128 * 16) (D := 16 * 128) ⟨s * P p, M p * sp, hs, by rw [Rat.intCast_mul, Rat.intCast_mul]; exact el_f hne (ri.eq p (by omega)) (rp.eq p (by omega)), cut (ri.bd p (by omega)) rp.sc hb.1 hb.2, hsb⟩ (by omega) (by omega)
  · exact rb_sm (N := 128 * 128) (D := 16 * 128) ⟨s * P p, M p * P k, hs, by rw [Rat.intCast_mul, Rat.intCast_mul]; exact el_q hne (ri.eq p (by omega)) (rp.eq p (by omega)) (rp.eq k hk), cut (ri.bd p (by omega)) (rp.bd k hk) hb.1 hb.1, hsb⟩ (by omega) (by omega)
  · refine rb_sm (N := 2 * (128 * 128)) (D := 16 * 128) ⟨s * P p, P p * M k - M p * P k, hs, by rw [Rat.intCast_mul, Rat.intCast_sub, Rat.intCast_mul, Rat.intCast_mul]; exact el_num hne (ri.eq k hk) (ri.eq p (by omega)) (rp.eq p (by omega)) (rp.eq k hk), ?_, hsb⟩ (by omega) (by omega)
    have a1 : (P p * M k).natAbs ≤ 128 * 128 := cut (rp.bd p (by omega)) (ri.bd k hk) hb.1 hb.1
    have a2 : (M p * P k).natAbs ≤ 128 * 128 := cut (ri.bd p (by omega)) (rp.bd k hk) hb.1 hb.1
    have a3 := natAbs_sub_le' (P p * M k) (M p * P k)
    omega
/-- the numbers of a solution have one denominator -/
structure SolB (n : Nat) (x : List _root_.Rat) : Prop where
  len : x.length = n
  ex : ∃ D : Int, D ≠ 0 ∧ D.natAbs ≤ 2048 ∧ ∀ k, k < n → ∃ X : Int, fnL x k * (D : _root_.Rat) = (X : _root_.Rat) ∧ X.natAbs ≤ 67108864
theorem sol_bd {n : Nat} {m0 : List (List _root_.Rat)} {x : List _root_.Rat} (hn : n ≤ 4) (hl : m0.length = n) (hr : ∀ r ∈ m0, r.length = n + 1) (hb : Bd n 0 m0) (h : solQ n m0 = some x) : SolB n x := by
  rw [solQ] at h
  cases e : gj m0 n with
  | none => rw [e] at h; cases h
  | some m =>
    obtain ⟨g, b⟩ := gj_inv hl hr hb n (Nat.le_refl _) m e
    rw [e, Option.map_some, Option.some.injEq] at h
    subst h
    obtain ⟨D, h1, h2, h3⟩ := b
    have hb := bb4 hn
    refine ⟨by simp [outM], D, h1, by omega, fun k hk => ?_⟩
    obtain ⟨s, M, r, he⟩ := h3 k hk
    obtain ⟨x, hx⟩ := he hk
    have hxn : x ≠ 0 := fun e => h1 (by rw [hx, e, Int.mul_zero])
    have hMn : M k ≠ 0 := fun e => h1 (by rw [hx, e, Int.zero_mul])
    have hxb : x.natAbs ≤ 2048 := by
      have h4 : (M k * x).natAbs ≤ 2048 := by rw [← hx]; omega
      rw [Int.natAbs_mul] at h4
      have h5 := Nat.mul_le_mul_right x.natAbs (show 1 ≤ (M k).natAbs by omega)
      omega
    refine ⟨M n * x, ?_, ?_⟩
    · rw [fnL, gd (by simpa [outM] using hk)]
      simp only [outM, List.getElem_map, List.getElem_range]
      have e1 := r.eq k (by omega)
      have e2 := r.eq n (by omega)
      have e3 := g.piv k hk
      rw [hx, Rat.intCast_mul, Rat.intCast_mul]
      grind
    · exact Nat.le_trans (natAbs_mul_le (Nat.le_trans (r.bd n (by omega)) hb.1) hxb) (by omega)
end Go.Vs


namespace Go.Vs
/-! ### the least value of a covering program -/
def combs {α : Type} : Nat → List α → List (List α)
  | 0, _ => [[]]
  | _ + 1, [] => []
  | n + 1, a :: l => (combs n l).map (a :: ·) ++ combs (n + 1) l
theorem combs_mem {α : Type} : ∀ {n : Nat} {l M : List α}, M ∈ combs n l ↔ M.Sublist l ∧ M.length = n
  | 0, l, M => by
    simp only [combs, List.mem_singleton]
    constructor
    · rintro rfl; exact ⟨List.nil_sublist _, rfl⟩
    · rintro ⟨_, h⟩; exact List.eq_nil_of_length_eq_zero h
  | n + 1, [], M => by
    simp only [combs, List.not_mem_nil, false_iff, not_and, List.sublist_nil]
    rintro rfl; simp
  | n + 1, a :: l, M => by
    simp only [combs, List.mem_append, List.mem_map, combs_mem, List.sublist_cons_iff]
    constructor
    · rintro (⟨x, ⟨h1, h2⟩, rfl⟩ | ⟨h1, h2⟩)
      · exact ⟨.inr ⟨x, rfl, h1⟩, by simp [h2]⟩
      · exact ⟨.inl h1, h2⟩
    · rintro ⟨h | ⟨x, rfl, h⟩, h2⟩
      · exact .inr ⟨h, h2⟩
      · exact .inl ⟨x, ⟨h, by simpa using h2⟩, rfl⟩
def unitR (n j : Nat) : List _root_.Rat := (List.range n).map fun k => if k = j then 1 else 0
/-- the conditions with their right sides -/
def augR (A : List (List _root_.Rat)) (n : Nat) : List (List _root_.Rat) := A.map (· ++ [1]) ++ (List.range n).map fun j => unitR n j ++ [0]
def sumQ (x : List _root_.Rat) : _root_.Rat := dotF x.length (fun _ => 1) (fnL x)
def feasQ (A : List (List _root_.Rat)) (x : List _root_.Rat) : Bool := x.all (fun q => decide (0 ≤ q)) && A.all fun r => decide (1 ≤ dotF x.length (fnL r) (fnL x))
/-- points in order, each once -/
def addPt (out : List (List _root_.Rat)) (x : List _root_.Rat) : List (List _root_.Rat) := if x ∈ out then out else out ++ [x]
def ptStep (A : List (List _root_.Rat)) (n : Nat) (out : List (List _root_.Rat)) (M : List (List _root_.Rat)) : List (List _root_.Rat) := match solQ n M with
  | some x => if feasQ A x then addPt out x else out
  | none => out
def ptsQ (A : List (List _root_.Rat)) (n : Nat) : List (List _root_.Rat) := (combs n (augR A n)).foldl (ptStep A n) []
def bestS (b : Option (List _root_.Rat × _root_.Rat)) (x : List _root_.Rat) : Option (List _root_.Rat × _root_.Rat) := match b with
  | none => some (x, sumQ x)
  | some p => if sumQ x < p.2 then some (x, sumQ x) else some p
def bestQ (l : List (List _root_.Rat)) : Option (List _root_.Rat × _root_.Rat) := l.foldl bestS none
def minQ (A : List (List _root_.Rat)) (n : Nat) : Option (List _root_.Rat × _root_.Rat) := bestQ (ptsQ A n)

theorem addPt_mem {out : List (List _root_.Rat)} {x y : List _root_.Rat} : y ∈ addPt out x ↔ y ∈ out ∨ y = x := by
  rw [addPt]
  split
  · rename_i h
    constructor
    · exact .inl
    · rintro (h1 | rfl)
      · exact h1
      · exact h
  · simp
theorem ptStep_mem {A : List (List _root_.Rat)} {n : Nat} {out M : List (List _root_.Rat)} {y : List _root_.Rat} : y ∈ ptStep A n out M ↔ y ∈ out ∨ (solQ n M = some y ∧ feasQ A y = true) := by
  rw [ptStep]
  cases h : solQ n M with
  | none => simp
  | some x =>
    simp only [Option.some.injEq]
    split
    · rename_i hf
      rw [addPt_mem]
      constructor
      · rintro (h | rfl)
        · exact .inl h
        · exact .inr ⟨rfl, hf⟩
      · rintro (h | ⟨rfl, _⟩)
        · exact .inl h
        · exact .inr rfl
    · rename_i hf
      constructor
      · exact .inl
      · rintro (h | ⟨rfl, h⟩)
        · exact h
        · exact absurd h hf
theorem pts_fold {A : List (List _root_.Rat)} {n : Nat} {y : List _root_.Rat} : ∀ (l : List (List (List _root_.Rat))) (out : List (List _root_.Rat)), y ∈ l.foldl (ptStep A n) out ↔ y ∈ out ∨ ∃ M ∈ l, solQ n M = some y ∧ feasQ A y = true
  | [], out => by simp
  | M :: l, out => by
    rw [List.foldl_cons, pts_fold l, ptStep_mem]
    simp only [List.mem_cons]
    constructor
    · rintro ((h | h) | ⟨M', hM, h⟩)
      · exact .inl h
      · exact .inr ⟨M, .inl rfl, h⟩
      · exact .inr ⟨M', .inr hM, h⟩
    · rintro (h | ⟨M', rfl | hM, h⟩)
      · exact .inl (.inl h)
      · exact .inl (.inr h)
      · exact .inr ⟨M', hM, h⟩
theorem pts_mem {A : List (List _root_.Rat)} {n : Nat} {y : List _root_.Rat} : y ∈ ptsQ A n ↔ ∃ M, M.Sublist (augR A n) ∧ M.length = n ∧ solQ n M = some y ∧ feasQ A y = true := by
  rw [ptsQ, pts_fold]
  simp only [List.not_mem_nil, false_or, combs_mem]
  constructor
  · rintro ⟨M, ⟨h1, h2⟩, h⟩; exact ⟨M, h1, h2, h⟩
  · rintro ⟨M, h1, h2, h⟩; exact ⟨M, ⟨h1, h2⟩, h⟩
theorem best_fold : ∀ (l : List (List _root_.Rat)) (b : Option (List _root_.Rat × _root_.Rat)), (∀ p, b = some p → p.2 = sumQ p.1) →
    (∀ p, l.foldl bestS b = some p → p.2 = sumQ p.1 ∧ (p.1 ∈ l ∨ b = some p) ∧ (∀ x ∈ l, p.2 ≤ sumQ x) ∧ ∀ p', b = some p' → p.2 ≤ p'.2) ∧ (l.foldl bestS b = none → b = none ∧ l = [])
  | [], b, hb => by
    refine ⟨fun p hp => ⟨hb p hp, .inr hp, by simp, fun p' hp' => ?_⟩, fun h => ⟨h, rfl⟩⟩
    rw [List.foldl_nil] at hp
    rw [hp, Option.some.injEq] at hp'
    subst hp'; exact Rat.le_refl
  | x :: l, b, hb => by
    have hs : ∃ p, bestS b x = some p ∧ p.2 = sumQ p.1 ∧ (p.1 = x ∨ b = some p) ∧ p.2 ≤ sumQ x ∧ ∀ p', b = some p' → p.2 ≤ p'.2 := by
      cases b with
      | none => exact ⟨(x, sumQ x), rfl, rfl, .inl rfl, Rat.le_refl, fun p' h => by cases h⟩
      | some q =>
        simp only [bestS]
        by_cases h : sumQ x < q.2
        · rw [if_pos h]
          exact ⟨(x, sumQ x), rfl, rfl, .inl rfl, Rat.le_refl, fun p' h' => by simp only [Option.some.injEq] at h'; subst h'; exact Rat.le_of_lt h⟩
        · rw [if_neg h]
          exact ⟨q, rfl, hb q rfl, .inr rfl, by grind, fun p' h' => by simp only [Option.some.injEq] at h'; subst h'; exact Rat.le_refl⟩
    obtain ⟨q, h1, h2, h3, h4, h5⟩ := hs
    rw [List.foldl_cons, h1]
    obtain ⟨i1, i2⟩ := best_fold l (some q) fun p hp => by simp only [Option.some.injEq] at hp; subst hp; exact h2
    refine ⟨fun p hp => ?_, fun h => absurd (i2 h).1 (by simp)⟩
    obtain ⟨j1, j2, j3, j4⟩ := i1 p hp
    have j5 := j4 q rfl
    refine ⟨j1, ?_, fun y hy => ?_, fun p' hp' => by have := h5 p' hp'; grind⟩
    · rcases j2 with h | h
      · exact .inl (List.mem_cons_of_mem _ h)
      · simp only [Option.some.injEq] at h
        subst h
        rcases h3 with h | h
        · exact .inl (by rw [h]; simp)
        · exact .inr h
    · rcases List.mem_cons.1 hy with rfl | hy
      · grind
      · exact j3 y hy
theorem best_some {l : List (List _root_.Rat)} (h : l ≠ []) : ∃ p, bestQ l = some p ∧ p.2 = sumQ p.1 ∧ p.1 ∈ l ∧ ∀ x ∈ l, p.2 ≤ sumQ x := by
  obtain ⟨h1, h2⟩ := best_fold l none (fun p h => by cases h)
  cases e : l.foldl bestS none with
  | none => exact absurd (h2 e).2 h
  | some p =>
    obtain ⟨a, b, c, _⟩ := h1 p e
    refine ⟨p, e, a, ?_, c⟩
    rcases b with b | b
    · exact b
    · cases b
/-- rows of noughts and ones -/
structure Mat01 (A : List (List _root_.Rat)) (n : Nat) : Prop where
  len : ∀ r ∈ A, r.length = n
  z : ∀ r ∈ A, ∀ q ∈ r, q = 0 ∨ q = 1
  one : ∀ r ∈ A, ∃ q ∈ r, q = 1
def feasC (A : List (List _root_.Rat)) (n : Nat) (y : Nat → _root_.Rat) : Prop := (∀ k, k < n → 0 ≤ y k) ∧ ∀ r ∈ A, 1 ≤ dotF n (fnL r) y
theorem unit_get {n j k : Nat} (hk : k < n) : fnL (unitR n j) k = if k = j then 1 else 0 := by
  rw [fnL, gd (by simpa [unitR] using hk)]; simp [unitR]
theorem app_get {r : List _root_.Rat} {n : Nat} {b : _root_.Rat} (hr : r.length = n) : (∀ k, k < n → fnL (r ++ [b]) k = fnL r k) ∧ fnL (r ++ [b]) n = b := by
  constructor
  · intro k hk
    rw [fnL, fnL, gd (by simp; omega), gd (by omega), List.getElem_append_left]
  · rw [fnL, gd (by simp; omega)]
    simp [← hr]
theorem aug_mem {A : List (List _root_.Rat)} {n : Nat} {r : List _root_.Rat} : r ∈ augR A n ↔ (∃ a ∈ A, r = a ++ [1]) ∨ ∃ j, j < n ∧ r = unitR n j ++ [0] := by
  simp only [augR, List.mem_append, List.mem_map, List.mem_range]
  constructor
  · rintro (⟨a, h, rfl⟩ | ⟨j, h, rfl⟩)
    · exact .inl ⟨a, h, rfl⟩
    · exact .inr ⟨j, h, rfl⟩
  · rintro (⟨a, h, rfl⟩ | ⟨j, h, rfl⟩)
    · exact .inl ⟨a, h, rfl⟩
    · exact .inr ⟨j, h, rfl⟩
theorem aug_len {A : List (List _root_.Rat)} {n : Nat} (h : Mat01 A n) : ∀ r ∈ augR A n, r.length = n + 1 := fun r hr => by
  rcases aug_mem.1 hr with ⟨a, ha, rfl⟩ | ⟨j, _, rfl⟩
  · simp [h.len a ha]
  · simp [unitR]
theorem aug_01 {A : List (List _root_.Rat)} {n : Nat} (h : Mat01 A n) : ∀ r ∈ augR A n, ∀ q ∈ r, q = 0 ∨ q = 1 := fun r hr q hq => by
  rcases aug_mem.1 hr with ⟨a, ha, rfl⟩ | ⟨j, _, rfl⟩
  · rcases List.mem_append.1 hq with hq | hq
    · exact h.z a ha q hq
    · exact .inr (List.mem_singleton.1 hq)
  · rcases List.mem_append.1 hq with hq | hq
    · obtain ⟨k, _, rfl⟩ := List.mem_map.1 hq
      split
      · exact .inr rfl
      · exact .inl rfl
    · exact .inl (List.mem_singleton.1 hq)
theorem bd_01 {n : Nat} {M : List (List _root_.Rat)} (hl : M.length = n) (h : ∀ r ∈ M, ∀ q ∈ r, q = 0 ∨ q = 1) : Bd n 0 M := by
  refine ⟨1, by omega, by simp [cbQ], fun i hi => ⟨1, fun k => if rowQ M i k = 1 then 1 else 0, ⟨by omega, by simp [cbQ], fun k _ => ?_, fun k _ => ?_⟩, fun h => by omega⟩⟩
  · have hr := h _ (getD_mem' (i := i) (d := []) (by omega))
    have : rowQ M i k = 0 ∨ rowQ M i k = 1 := by
      by_cases hk : k < (M.getD i []).length
      · rw [rowQ, fnL, gd hk]
        exact hr _ (List.getElem_mem hk)
      · left
        rw [rowQ, fnL, List.getD, List.getElem?_eq_none (by omega)]; rfl
    rcases this with e | e
    · rw [e, if_neg (by grind)]; simp
    · rw [e, if_pos rfl]; simp
  · simp only [bbQ]
    split <;> decide
theorem range_fn {n : Nat} {v : Nat → _root_.Rat} {k : Nat} (hk : k < n) : fnL ((List.range n).map v) k = v k := by
  rw [fnL, gd (by simpa using hk)]; simp
/-- what the least value is -/
theorem min_cov {A : List (List _root_.Rat)} {n : Nat} (h : Mat01 A n) : ∃ p, minQ A n = some p ∧ p.1.length = n ∧ p.2 = dotF n (fun _ => 1) (fnL p.1) ∧ feasC A n (fnL p.1) ∧ ∀ y, feasC A n y → p.2 ≤ dotF n (fun _ => 1) y := by
  have hrow : ∀ r ∈ augR A n, r.length = n + 1 := aug_len h
  have key : ∀ y, feasC A n y → ∃ x ∈ ptsQ A n, x.length = n ∧ sumQ x ≤ dotF n (fun _ => 1) y := fun y hy => by
    obtain ⟨C, hC⟩ : ∃ C : List Cst, C = (augR A n).map fun r => (fnL r, fnL r n) := ⟨_, rfl⟩
    have hfe : ∀ y, feasF n C y ↔ feasC A n y := fun y => by
      constructor
      · intro hf
        refine ⟨fun k hk => ?_, fun r hr => ?_⟩
        · have h1 := hf (fnL (unitR n k ++ [0]), fnL (unitR n k ++ [0]) n) (by rw [hC]; exact List.mem_map.2 ⟨_, aug_mem.2 (.inr ⟨k, hk, rfl⟩), rfl⟩)
          have h2 := app_get (r := unitR n k) (n := n) (b := 0) (by simp [unitR])
          simp only [h2.2] at h1
          rw [dotF_congr (a' := fnL (unitR n k)) (x' := y) h2.1 (fun _ _ => rfl), dotF_one (j := k) hk fun i hi hik => by rw [unit_get hi, if_neg hik]; grind, unit_get hk, if_pos rfl] at h1
          grind
        · have h1 := hf (fnL (r ++ [1]), fnL (r ++ [1]) n) (by rw [hC]; exact List.mem_map.2 ⟨_, aug_mem.2 (.inl ⟨r, hr, rfl⟩), rfl⟩)
          have h2 := app_get (r := r) (n := n) (b := 1) (h.len r hr)
          simp only [h2.2] at h1
          rwa [dotF_congr (a' := fnL r) (x' := y) h2.1 (fun _ _ => rfl)] at h1
      · rintro ⟨h1, h2⟩ p hp
        rw [hC] at hp
        obtain ⟨r, hr, rfl⟩ := List.mem_map.1 hp
        rcases aug_mem.1 hr with ⟨a, ha, rfl⟩ | ⟨j, hj, rfl⟩
        · have h3 := app_get (r := a) (n := n) (b := 1) (h.len a ha)
          simp only [h3.2]
          rw [dotF_congr (a' := fnL a) (x' := y) h3.1 (fun _ _ => rfl)]
          exact h2 a ha
        · have h3 := app_get (r := unitR n j) (n := n) (b := 0) (by simp [unitR])
          simp only [h3.2]
          rw [dotF_congr (a' := fnL (unitR n j)) (x' := y) h3.1 (fun _ _ => rfl), dotF_one (j := j) hj fun i hi hik => by rw [unit_get hi, if_neg hik]; grind, unit_get hj, if_pos rfl]
          have := h1 j hj
          grind
    obtain ⟨v, v1, v2, v3⟩ := vert_ex (n := n) (C := C) (c := fun _ => 1) (fun _ _ => by show (0 : _root_.Rat) ≤ 1; decide) (fun k hk => by
      refine ⟨(fnL (unitR n k ++ [0]), fnL (unitR n k ++ [0]) n), by rw [hC]; exact List.mem_map.2 ⟨_, aug_mem.2 (.inr ⟨k, hk, rfl⟩), rfl⟩, ?_, fun x => ?_⟩
      · exact (app_get (by simp [unitR])).2
      · have h2 := app_get (r := unitR n k) (n := n) (b := 0) (by simp [unitR])
        simp only
        rw [dotF_congr (a' := fnL (unitR n k)) (x' := x) h2.1 (fun _ _ => rfl), dotF_one (j := k) hk fun i hi hik => by rw [unit_get hi, if_neg hik]; grind, unit_get hk, if_pos rfl]
        grind) _ y ((hfe y).2 hy) (Nat.le_refl _)
    obtain ⟨B, hB, hBl, hBk⟩ := ker_sub _ _ (Nat.le_refl _) v3
    have he : (C.filter (tgt n v)).map Prod.fst = ((augR A n).filter fun r => tgt n v (fnL r, fnL r n)).map fnL := by
      rw [hC, List.filter_map, List.map_map]
      rfl
    rw [he] at hB
    obtain ⟨M, hM, rfl⟩ := List.sublist_map_iff.1 hB
    have hMs : M.Sublist (augR A n) := hM.trans List.filter_sublist
    have hMt : ∀ r ∈ M, dotF n (fnL r) v = fnL r n := fun r hr => by
      have := (List.mem_filter.1 (hM.subset hr)).2
      simpa [tgt] using this
    have hMl : M.length = n := by simpa using hBl
    have hMr : ∀ r ∈ M, r.length = n + 1 := fun r hr => hrow r (hMs.subset hr)
    have hMb : Bd n 0 M := bd_01 hMl fun r hr => aug_01 h r (hMs.subset hr)
    have hs := sol_some hMl hMr hMb hBk hMt
    have hvf := (hfe v).1 v1
    have hsum : sumQ ((List.range n).map v) = dotF n (fun _ => 1) v := by
      rw [sumQ, List.length_map, List.length_range]
      exact dotF_congr (fun _ _ => rfl) fun k hk => range_fn hk
    refine ⟨(List.range n).map v, pts_mem.2 ⟨M, hMs, hMl, hs, ?_⟩, by simp, ?_⟩
    · simp only [feasQ, Bool.and_eq_true, List.all_eq_true, decide_eq_true_eq, List.length_map, List.length_range]
      refine ⟨fun q hq => ?_, fun r hr => ?_⟩
      · obtain ⟨k, hk, rfl⟩ := List.mem_map.1 hq
        exact hvf.1 k (List.mem_range.1 hk)
      · rw [dotF_congr (a' := fnL r) (x' := v) (fun _ _ => rfl) fun k hk => range_fn hk]
        exact hvf.2 r hr
    · rw [hsum]; exact v2
  have h1 : feasC A n (fun _ => 1) := by
    refine ⟨fun _ _ => by show (0 : _root_.Rat) ≤ 1; decide, fun r hr => ?_⟩
    obtain ⟨q, hq, rfl⟩ := h.one r hr
    obtain ⟨i, hi, hqi⟩ := List.mem_iff_getElem.1 hq
    have hl := h.len r hr
    have hz : ∀ k, k < n → 0 ≤ fnL r k := fun k hk => by
      rw [fnL, gd (by omega)]
      rcases h.z r hr _ (List.getElem_mem (show k < r.length by omega)) with e | e <;> rw [e] <;> decide
    have hd : dotF n (fnL r) (fun _ => 1) = dotF n (fun k => fnL r k - if k = i then 1 else 0) (fun _ => 1) + dotF n (fun k => if k = i then 1 else 0) (fun _ => 1) := by
      rw [dotF_comm (fun k => fnL r k - if k = i then 1 else 0), dotF_comm (fun k => if k = i then (1 : _root_.Rat) else 0), ← dotF_add, dotF_comm]
      exact dotF_congr (fun _ _ => rfl) fun k _ => by grind
    have h2 : 0 ≤ dotF n (fun k => fnL r k - if k = i then 1 else 0) (fun _ => 1) := dotF_nonneg fun k hk => by
      by_cases e : k = i
      · subst e
        have : fnL r k = 1 := by rw [fnL, gd hi, hqi]
        rw [this, if_pos rfl]; grind
      · have := hz k hk
        rw [if_neg e]; grind
    have h3 : dotF n (fun k => if k = i then (1 : _root_.Rat) else 0) (fun _ => 1) = 1 := by
      rw [dotF_one (j := i) (by omega) fun k _ hk => by rw [if_neg hk]; grind, if_pos rfl]
      grind
    rw [hd, h3]
    grind
  obtain ⟨x0, hx0, _⟩ := key _ h1
  obtain ⟨p, p1, p2, p3, p4⟩ := best_some (List.ne_nil_of_mem hx0)
  obtain ⟨M, hM, hMl, hMs, hMf⟩ := pts_mem.1 p3
  have hpl : p.1.length = n := by
    rw [solQ] at hMs
    cases e : gj M n with
    | none => rw [e] at hMs; cases hMs
    | some m => rw [e, Option.map_some, Option.some.injEq] at hMs; rw [← hMs]; simp [outM]
  refine ⟨p, p1, hpl, by rw [p2, sumQ, hpl], ?_, fun y hy => ?_⟩
  · simp only [feasQ, Bool.and_eq_true, List.all_eq_true, decide_eq_true_eq, hpl] at hMf
    exact ⟨fun k hk => by rw [fnL, gd (by omega)]; exact hMf.1 _ (List.getElem_mem _), hMf.2⟩
  · obtain ⟨x, hx, _, hs⟩ := key y hy
    have := p4 x hx
    grind
end Go.Vs


namespace Go.Vs
/-! ### rationals as pairs of ints -/
theorem tdiv_dvd {a b : Int} (h : b ∣ a) : a.tdiv b = a / b := Int.tdiv_eq_ediv_of_dvd h
/-- a fraction with a denominator above 0, reduced -/
theorem q_norm (n d : Int) (hd : 0 < d) : (_root_.Rat.divInt n d).num = n.tdiv (Nat.gcd n.natAbs d.natAbs : Nat) ∧ (((_root_.Rat.divInt n d).den : Nat) : Int) = d.tdiv (Nat.gcd n.natAbs d.natAbs : Nat) := by
  have e : _root_.Rat.divInt n d = _root_.Rat.normalize n d.natAbs (by omega) := by
    have : d = (d.natAbs : Int) := by omega
    conv => lhs; rw [this]
    show _root_.mkRat n d.natAbs = _
    rw [_root_.Rat.normalize_eq_mkRat]
  rw [e, _root_.Rat.normalize_eq]
  simp only
  have h1 : ((Nat.gcd n.natAbs d.natAbs : Nat) : Int) ∣ n := Int.ofNat_dvd_left.2 (Nat.gcd_dvd_left _ _)
  have h2 : ((Nat.gcd n.natAbs d.natAbs : Nat) : Int) ∣ d := Int.ofNat_dvd_left.2 (Nat.gcd_dvd_right _ _)
  rw [tdiv_dvd h1, tdiv_dvd h2]
  refine ⟨rfl, ?_⟩
  rw [Int.natCast_ediv]
  congr 1
  omega
theorem q_add (a b : _root_.Rat) : a + b = _root_.Rat.divInt (a.num * b.den + b.num * a.den) ((a.den : Int) * b.den) := by
  rw [_root_.Rat.add_def, _root_.Rat.normalize_eq_mkRat]
  rfl
theorem q_mul (a b : _root_.Rat) : a * b = _root_.Rat.divInt (a.num * b.num) ((a.den : Int) * b.den) := by
  rw [_root_.Rat.mul_def, _root_.Rat.normalize_eq_mkRat]
  rfl
theorem q_self (a : _root_.Rat) : _root_.Rat.divInt a.num a.den = a := _root_.Rat.num_divInt_den a
theorem q_div (a b : _root_.Rat) : a / b = _root_.Rat.divInt (a.num * b.den) ((a.den : Int) * b.num) := by
  rw [_root_.Rat.div_def, _root_.Rat.inv_def]
  conv => lhs; rw [← q_self a]
  rw [_root_.Rat.divInt_mul_divInt]
theorem q_flip (n d : Int) : _root_.Rat.divInt (-n) (-d) = _root_.Rat.divInt n d := _root_.Rat.neg_divInt_neg n d
theorem q_neg (a : _root_.Rat) : (-a).num = - a.num ∧ (-a).den = a.den := ⟨rfl, rfl⟩
theorem q_sub (a b : _root_.Rat) : a - b = a + -b := by grind
end Go.Vs


namespace Go.Vs
/-! ### the width of a bag: the least weight of atoms that covers it -/
def r01 (b : Bool) : _root_.Rat := if b then 1 else 0
def covM (atoms : List PAtom) (bag : List Int) : List (List _root_.Rat) := bag.map fun v => atoms.map fun a => r01 (a.vars.contains v)
def widQ (atoms : List PAtom) (bag : List Int) : _root_.Rat := ((minQ (covM atoms bag) atoms.length).map (·.2)).getD 0
/-- each variable of the bag lies in an atom -/
def covered (atoms : List PAtom) (bag : List Int) : Prop := ∀ v ∈ bag, ∃ a ∈ atoms, v ∈ a.vars
theorem covM_01 {atoms : List PAtom} {bag : List Int} (h : covered atoms bag) : Mat01 (covM atoms bag) atoms.length := by
  refine ⟨fun r hr => ?_, fun r hr q hq => ?_, fun r hr => ?_⟩
  · obtain ⟨v, _, rfl⟩ := List.mem_map.1 hr; simp
  · obtain ⟨v, _, rfl⟩ := List.mem_map.1 hr
    obtain ⟨a, _, rfl⟩ := List.mem_map.1 hq
    simp only [r01]; split <;> simp
  · obtain ⟨v, hv, rfl⟩ := List.mem_map.1 hr
    obtain ⟨a, ha, hva⟩ := h v hv
    exact ⟨1, List.mem_map.2 ⟨a, ha, by simp [r01, hva]⟩, rfl⟩
theorem wid_min {atoms : List PAtom} {bag : List Int} (h : covered atoms bag) : ∃ p, minQ (covM atoms bag) atoms.length = some p ∧ p.2 = widQ atoms bag ∧ p.1.length = atoms.length ∧
    p.2 = dotF atoms.length (fun _ => 1) (fnL p.1) ∧ feasC (covM atoms bag) atoms.length (fnL p.1) ∧ ∀ y, feasC (covM atoms bag) atoms.length y → p.2 ≤ dotF atoms.length (fun _ => 1) y := by
  obtain ⟨p, h1, h2, h3, h4, h5⟩ := min_cov (covM_01 h)
  exact ⟨p, h1, by simp [widQ, h1], h2, h3, h4, h5⟩
theorem dotF_le {a b x : Nat → _root_.Rat} : ∀ {n : Nat}, (∀ k, k < n → a k * x k ≤ b k * x k) → dotF n a x ≤ dotF n b x
  | 0, _ => by simp [dotF]
  | n + 1, h => by
    have h1 := dotF_le (n := n) fun k hk => h k (by omega)
    have h2 := h n (by omega)
    simp only [dotF]
    grind
theorem wid_one {atoms : List PAtom} {bag : List Int} (h : covered atoms bag) (hne : bag ≠ []) : 1 ≤ widQ atoms bag := by
  obtain ⟨p, _, p2, _, p4, p5, _⟩ := wid_min h
  rw [← p2, p4]
  obtain ⟨v, hv⟩ := List.exists_mem_of_ne_nil _ hne
  have h1 := p5.2 _ (List.mem_map.2 ⟨v, hv, rfl⟩)
  have h2 : dotF atoms.length (fnL (atoms.map fun a => r01 (a.vars.contains v))) (fnL p.1) ≤ dotF atoms.length (fun _ => 1) (fnL p.1) := by
    refine dotF_le fun k hk => ?_
    have h0 := p5.1 k hk
    have h3 : fnL (atoms.map fun a => r01 (a.vars.contains v)) k ≤ 1 := by
      simp only [fnL, List.getD_eq_getElem?_getD, List.getElem?_map, List.getElem?_eq_getElem hk, Option.map_some, Option.getD_some, r01]
      split <;> decide
    have := _root_.Rat.mul_le_mul_of_nonneg_right h3 h0
    exact this
  grind
end Go.Vs


namespace Go.Vs
/-! ### rationals as the program holds them -/
def qR (q : _root_.Rat) : PRat := ⟨q.num, q.den⟩
theorem qR_inj {a b : _root_.Rat} : qR a = qR b ↔ a = b := by
  constructor
  · intro h
    have h1 : a.num = b.num := congrArg PRat.num h
    have h2 : (a.den : Int) = b.den := congrArg PRat.den h
    exact _root_.Rat.ext h1 (by omega)
  · rintro rfl; rfl
def cmpQ (a b : _root_.Rat) : Int := if a < b then -1 else if b < a then 1 else 0
theorem cmpQ_lt {a b : _root_.Rat} : cmpQ a b < 0 ↔ a < b := by
  unfold cmpQ
  split
  · simp [*]
  · split <;> simp [*]
theorem cmpQ_gt {a b : _root_.Rat} : 0 < cmpQ a b ↔ b < a := by
  unfold cmpQ
  split
  · rename_i h
    have : ¬ b < a := by grind
    simp [this]
  · split <;> simp [*]
theorem cmpQ_eq {a b : _root_.Rat} : cmpQ a b = (if a.num * b.den < b.num * a.den then -1 else if b.num * a.den < a.num * b.den then 1 else 0) := by
  unfold cmpQ
  simp only [_root_.Rat.lt_iff]
theorem mulB {a b : Int} {x y : Nat} (ha : a.natAbs ≤ x) (hb : b.natAbs ≤ y) : (a * b).natAbs ≤ x * y := natAbs_mul_le ha hb
theorem num_ne {q : _root_.Rat} (h : q ≠ 0) : q.num ≠ 0 := fun e => h (_root_.Rat.num_eq_zero.1 e)
theorem sm_pos {q : _root_.Rat} : 0 < (q.den : Int) := by have := q.den_pos; omega
theorem sm_gcd (q : _root_.Rat) : Nat.gcd q.num.natAbs q.den = 1 := q.reduced
theorem sm_neg {q : _root_.Rat} (h : smQ q) : smQ (-q) := ⟨by have := h.1; simp [(q_neg q).1]; exact this, by have := h.2; simp [(q_neg q).2]; exact this⟩
theorem sm_zero : smQ 0 := by constructor <;> decide
theorem sm_one : smQ 1 := by constructor <;> decide
/-- the products of numerators, denominators fit -/
theorem sm_mul {a b : _root_.Rat} (ha : smQ a) (hb : smQ b) : (a.num * b.den).natAbs ≤ 1000000000000000000 ∧ (b.num * a.den).natAbs ≤ 1000000000000000000 ∧ (a.num * b.num).natAbs ≤ 1000000000000000000 ∧ ((a.den : Int) * b.den).natAbs ≤ 1000000000000000000 ∧ ((a.den : Int) * b.num).natAbs ≤ 1000000000000000000 := by
  have h1 := ha.1
  have h2 := ha.2
  have h3 := hb.1
  have h4 := hb.2
  exact ⟨mulB h1 (y := 1000000000) (by omega), mulB h3 (y := 1000000000) (by omega), mulB h1 h3, mulB (x := 1000000000) (y := 1000000000) (by omega) (by omega), mulB (x := 1000000000) (by omega) h3⟩
theorem den_mul {a b : _root_.Rat} : (0 : Int) < (a.den : Int) * b.den := Int.mul_pos sm_pos sm_pos
/-- what a quotient of ints comes to -/
theorem norm_num {n d : Int} {q : _root_.Rat} (hq : q = _root_.Rat.divInt n d) (hd : 0 < d) : n.tdiv (Nat.gcd n.natAbs d.natAbs : Nat) = q.num ∧ d.tdiv (Nat.gcd n.natAbs d.natAbs : Nat) = q.den := by
  subst hq
  have := q_norm n d hd
  exact ⟨this.1.symm, this.2.symm⟩
theorem gcd_le {n d : Int} (hd : 0 < d) : 1 ≤ Nat.gcd n.natAbs d.natAbs ∧ ((Nat.gcd n.natAbs d.natAbs : Nat) : Int) ≤ d := by
  have h1 : 0 < d.natAbs := by omega
  have h2 := Nat.gcd_pos_of_pos_right n.natAbs h1
  have h3 := Nat.gcd_le_right n.natAbs h1
  omega
theorem tmod_nat (a b : Nat) : ((a : Int).tmod (b : Int)) = ((a % b : Nat) : Int) := by
  rw [Int.tmod_eq_emod_of_nonneg (by omega)]; simp
theorem sm_i {q : _root_.Rat} (h : smQ q) : -1000000000 ≤ q.num ∧ q.num ≤ 1000000000 ∧ (1 : Int) ≤ q.den ∧ (q.den : Int) ≤ 1000000000 := by
  have h1 := h.1
  have h2 := h.2
  have h3 := q.den_pos
  omega
end Go.Vs


namespace Go.Vs
/-! ### matrices of rationals in memory: rows with their blocks -/
def eQ (q : _root_.Rat) : List D := eRat (qR q)
def cR (T : TypeId × Nat) (r : Nat × List _root_.Rat) : List D := [.sl (some r.1) (some T) (r.2.map eQ)]
theorem eQ_def (q : _root_.Rat) : eQ q = [.int .i64 q.num, .int .i64 (q.den : Int)] := rfl
@[simp] theorem eQ_len (q : _root_.Rat) : (eQ q).length = 2 := rfl
@[simp] theorem ids_eQ (q : _root_.Rat) : idsL (eQ q) = [] := rfl
@[simp] theorem ids_eQs (l : List _root_.Rat) : idsLL (l.map eQ) = [] := by
  induction l with
  | nil => rfl
  | cons a r ih => simp [idsLL, ih]
@[simp] theorem hp_eQs (l : List _root_.Rat) : hpLL (l.map eQ) = false := by
  induction l with
  | nil => rfl
  | cons a r ih => simp [hpLL, hpL, eQ, eRat, cI, D.hp] at ih ⊢
@[simp] theorem tk_eQs (l : List _root_.Rat) : tkLL (l.map eQ) = true := by
  induction l with
  | nil => rfl
  | cons a r ih => simp [tkLL, ih, eQ, eRat, cI, tkL, D.tk]
@[simp] theorem re_eQs (φ : Nat → Option D) (l : List _root_.Rat) : reLL φ (l.map eQ) = some (l.map eQ) := by
  induction l with
  | nil => rfl
  | cons a r ih => simp [reLL, ih, eQ, eRat, cI, reL, reD]
@[simp] theorem ids_cR (T : TypeId × Nat) (r : Nat × List _root_.Rat) : idsL (cR T r) = [r.1] := by simp [cR, idsL, D.ids]
@[simp] theorem ids_cRs (T : TypeId × Nat) (l : List (Nat × List _root_.Rat)) : idsLL (l.map (cR T)) = l.map (·.1) := by
  induction l with
  | nil => rfl
  | cons a r ih => simp [idsLL, ih]
@[simp] theorem cR_len (T : TypeId × Nat) (r : Nat × List _root_.Rat) : (cR T r).length = 1 := rfl
@[simp] theorem hp_cRs (T : TypeId × Nat) (l : List (Nat × List _root_.Rat)) : hpLL (l.map (cR T)) = false := by
  induction l with
  | nil => rfl
  | cons a r ih => simp [hpLL, hpL, cR, D.hp] at ih ⊢
@[simp] theorem tk_cRs (T : TypeId × Nat) (l : List (Nat × List _root_.Rat)) : tkLL (l.map (cR T)) = true := by
  induction l with
  | nil => rfl
  | cons a r ih => simp [tkLL, ih, cR, tkL, D.tk]
theorem len_eQs {l l' : List _root_.Rat} (h : l'.length = l.length) : (l'.map eQ).map List.length = (l.map eQ).map List.length := by
  simp only [List.map_map, Function.comp_def, eQ_len, List.map_const', h]
theorem nd_idx {α : Type} {l : List α} (h : l.Nodup) {i j : Nat} {a : α} (hi : l[i]? = some a) (hj : l[j]? = some a) : i = j := by
  obtain ⟨hi', ei⟩ := List.getElem?_eq_some_iff.1 hi
  obtain ⟨hj', ej⟩ := List.getElem?_eq_some_iff.1 hj
  have h1 := List.pairwise_iff_getElem.1 h
  refine Classical.byContradiction fun hne => ?_
  rcases Nat.lt_or_gt_of_ne hne with hlt | hlt
  · exact h1 i j hi' hj' hlt (ei.trans ej.symm)
  · exact h1 j i hj' hi' hlt (ej.trans ei.symm)
/-- the matrix where one row is written -/
theorem re_rowQ {φ : Nat → Option D} {gm : Nat} {TM : Option (TypeId × Nat)} {T : TypeId × Nat} {rows : List (Nat × List _root_.Rat)} {i : Nat} {g : Nat} {r r' : List _root_.Rat} (hi : rows[i]? = some (g, r)) (hl : r'.length = r.length)
    (hnd : (rows.map (·.1)).Nodup) (hgm : φ gm = none) (hg : φ g = some (.sl (some g) (some T) (r'.map eQ))) (ho : ∀ q ∈ rows.map (·.1), q ≠ g → φ q = none) :
    reV φ (.d (.sl (some gm) TM (rows.map (cR T)))) = .d (.sl (some gm) TM ((rows.set i (g, r')).map (cR T))) := by
  obtain ⟨hlt, he⟩ := List.getElem?_eq_some_iff.1 hi
  have h1 : rows.map (cR T) = (rows.map (cR T)).set i (cR T (g, r)) := by
    rw [← he, set_same (by simp [hlt])]
  rw [h1, ← set_map]
  refine re_elemD hgm ?_ (fun j e hji hj q hq => ?_) (by simp)
  · simp only [cR, reL, reD, hg]
    rw [if_pos ⟨trivial, rfl, trivial, len_eQs hl⟩]
  · rw [List.getElem?_map] at hj
    cases hr : rows[j]? with
    | none => simp [hr] at hj
    | some p =>
      simp only [hr, Option.map_some, Option.some.injEq] at hj
      subst hj
      simp only [ids_cR, List.mem_singleton] at hq
      subst hq
      have hpm : p ∈ rows := List.mem_of_getElem? hr
      refine ho _ (List.mem_map.2 ⟨p, hpm, rfl⟩) fun e => hji ?_
      obtain ⟨hj', hjp⟩ := List.getElem?_eq_some_iff.1 hr
      have a1 : (rows.map (·.1))[j]? = some g := by simp [hr, e]
      have a2 : (rows.map (·.1))[i]? = some g := by simp [hi]
      exact nd_idx hnd a1 a2
/-- the matrix where all rows are written -/
theorem re_mat {W : List Nat} {gm : Nat} {TM TM' : Option (TypeId × Nat)} {T : TypeId × Nat} {rows rows' : List (Nat × List _root_.Rat)} (hf : rows'.map (·.1) = rows.map (·.1)) (hl : rows'.map (·.2.length) = rows.map (·.2.length))
    (hnd : (rows.map (·.1)).Nodup) (hgm : gm ∉ W) (hgr : gm ∉ rows.map (·.1)) (hW : ∀ q ∈ rows.map (·.1), q ∈ W) :
    reV (phi W [.sl (some gm) TM' (rows'.map (cR T))]) (.d (.sl (some gm) TM (rows.map (cR T)))) = .d (.sl (some gm) TM (rows'.map (cR T))) := by
  refine reV_d ?_
  simp only [reD, phi_out hgm]
  have hlen : rows'.length = rows.length := by have := congrArg List.length hf; simpa using this
  rw [reLL_of (l' := rows'.map (cR T)) (by simpa using hlen) ?_]
  · rfl
  intro i e e' he he'
  rw [List.getElem?_map] at he he'
  cases hr : rows[i]? with
  | none => simp [hr] at he
  | some p =>
    cases hr' : rows'[i]? with
    | none => simp [hr'] at he'
    | some p' =>
      simp only [hr, hr', Option.map_some, Option.some.injEq] at he he'
      subst he he'
      obtain ⟨g, r⟩ := p
      obtain ⟨g', r'⟩ := p'
      have a1 : (rows.map (·.1))[i]? = some g := by simp [hr]
      have a2 : (rows'.map (·.1))[i]? = some g' := by simp [hr']
      rw [hf, a1] at a2
      cases a2
      have b1 : (rows.map (·.2.length))[i]? = some r.length := by simp [hr]
      have b2 : (rows'.map (·.2.length))[i]? = some r'.length := by simp [hr']
      rw [hl, b1] at b2
      have hlr : r'.length = r.length := by simpa using b2.symm
      have hgm' : g ≠ gm := fun e => hgr (by rw [← e]; exact List.mem_of_getElem? a1)
      have hnd' : (rows'.map (·.1)).Nodup := by rw [hf]; exact hnd
      have hlook : ∀ (l : List (Nat × List _root_.Rat)), (l.map (·.1)).Nodup → (g, r') ∈ l → lookLL g (l.map (cR T)) = some (.sl (some g) (some T) (r'.map eQ)) := by
        intro l
        induction l with
        | nil => intro _ h; cases h
        | cons x s ih =>
          intro hn hm
          simp only [List.map_cons, List.nodup_cons] at hn
          simp only [List.map_cons, lookLL, cR, lookL, lookD]
          rcases List.mem_cons.1 hm with rfl | hm
          · simp
          · have hxg : x.1 ≠ g := fun e => hn.1 (by rw [e]; exact List.mem_map.2 ⟨_, hm, rfl⟩)
            rw [if_neg hxg]
            have hno : lookLL g (x.2.map eQ) = none := by
              have : ∀ l : List _root_.Rat, lookLL g (l.map eQ) = none := by
                intro l
                induction l with
                | nil => rfl
                | cons a b ih => simp [lookLL, lookL, eQ, eRat, cI, lookD, ih]
              exact this _
            rw [hno]
            exact ih hn.2 hm
      have hin := hW g (List.mem_of_getElem? a1)
      simp only [cR, reL, reD, phi, hin, if_true, lookL, lookD]
      rw [if_neg (Ne.symm hgm'), hlook rows' hnd' (List.mem_of_getElem? hr')]
      simp only [Option.getD_some]
      rw [if_pos ⟨trivial, rfl, trivial, len_eQs hlr⟩]
/-- a contract whose result is known by its elements only -/
theorem VC.erase {P : Program} {f : FuncId} {args : List V} {post : Nat → V → Prop} {v : V} (h : VC P f args post) (hv : ∀ n r, post n r → rp (fun _ => none) r = some v) : VC P f args (fun _ r => r = v) := by
  refine ⟨h.1, fun w vals A hg hLR => (h.2 w vals A hg hLR).mono fun e w' he => ?_⟩
  obtain ⟨val, r, rfl, hb, hvr, _, hp⟩ := he
  have hr := hv _ _ hp
  exact ⟨val, v, rfl, hb, VR.er _ _ _ hvr hr, rp_rd _ _ hr, rfl⟩
end Go.Vs


namespace Go.Vs
/-! ### programs of covers: what the walks need -/
theorem fnL_at {l : List _root_.Rat} {i : Nat} (h : i < l.length) : fnL l i = l[i] := by rw [fnL, gd h]
structure DotS (n : Nat) (a x : Nat → _root_.Rat) : Prop where
  sa : ∀ k, k < n → smQ (a k)
  sx : ∀ k, k < n → smQ (x k)
  sm : ∀ k, k < n → smQ (a k * x k)
  ss : ∀ k, k ≤ n → smQ (dotF k a x)
theorem sm_01 {q : _root_.Rat} (h : q = 0 ∨ q = 1) : smQ q := by
  rcases h with rfl | rfl
  · exact sm_zero
  · exact sm_one
theorem sol_dots {n : Nat} {x : List _root_.Rat} (h : SolB n x) (hn : n ≤ 4) {a : Nat → _root_.Rat} (ha : ∀ k, k < n → a k = 0 ∨ a k = 1) : DotS n a (fnL x) := by
  obtain ⟨_, D, hD, hDb, hX⟩ := h
  have hx : ∀ k, k < n → smQ (fnL x k) := fun k hk => by
    obtain ⟨X, h1, h2⟩ := hX k hk
    exact rb_sm (N := 67108864) (D := 2048) ⟨D, X, hD, h1, h2, hDb⟩ (by omega) (by omega)
  obtain ⟨c, hc⟩ : ∃ c : Nat, c = 67108864 := ⟨_, rfl⟩
  rw [← hc] at hX
  have hs : ∀ k, k ≤ n → ∃ M : Int, dotF k a (fnL x) * (D : _root_.Rat) = (M : _root_.Rat) ∧ M.natAbs ≤ k * c := by
    intro k
    induction k with
    | zero => intro _; exact ⟨0, by simp [dotF], by simp⟩
    | succ k ih =>
      intro hk
      obtain ⟨M, h1, h2⟩ := ih (by omega)
      obtain ⟨X, h3, h4⟩ := hX k (by omega)
      rcases ha k (by omega) with e | e
      · refine ⟨M, ?_, by rw [Nat.succ_mul]; omega⟩
        rw [dotF, e]; grind
      · refine ⟨M + X, ?_, by rw [Nat.succ_mul]; omega⟩
        rw [dotF, e, Rat.intCast_add]; grind
  refine ⟨fun k hk => sm_01 (ha k hk), hx, fun k hk => ?_, fun k hk => ?_⟩
  · rcases ha k hk with e | e
    · rw [e, _root_.Rat.zero_mul]; exact sm_zero
    · rw [e, _root_.Rat.one_mul]; exact hx k hk
  · obtain ⟨M, h1, h2⟩ := hs k hk
    have h3 : k * c ≤ 4 * c := Nat.mul_le_mul_right c (by omega)
    exact rb_sm (N := 268435456) (D := 2048) ⟨D, M, hD, h1, by omega, hDb⟩ (by omega) (by omega)
structure LPok (A : List (List _root_.Rat)) (n : Nat) : Prop where
  m01 : Mat01 A n
  n1 : 1 ≤ n
  n4 : n ≤ 4
  m1 : 1 ≤ A.length
  m5 : A.length ≤ 5
theorem LPok.sm {A : List (List _root_.Rat)} {n : Nat} (h : LPok A n) {r : List _root_.Rat} (hr : r ∈ A) : ∀ q ∈ r, smQ q := fun q hq => sm_01 (h.m01.z r hr q hq)
theorem rep_sm {m : Nat} : ∀ q ∈ List.replicate m (1 : _root_.Rat), smQ q := fun q hq => by rw [List.eq_of_mem_replicate hq]; exact sm_one
theorem LPok.dots {A : List (List _root_.Rat)} {n : Nat} {x : List _root_.Rat} (h : LPok A n) (hx : SolB n x) {r : List _root_.Rat} (hr : r ∈ A) : DotS n (fnL r) (fnL x) :=
  sol_dots hx h.n4 fun k hk => by
    have hl := h.m01.len r hr
    rw [fnL_at (by omega)]
    exact h.m01.z r hr _ (List.getElem_mem _)
theorem sol_sm {n : Nat} {x : List _root_.Rat} (h : SolB n x) (hn : n ≤ 4) : ∀ q ∈ x, smQ q := fun q hq => by
  obtain ⟨i, hi, rfl⟩ := List.mem_iff_getElem.1 hq
  have := (sol_dots h hn (a := fun _ => 1) fun _ _ => .inr rfl).sx i (by rw [← h.len]; exact hi)
  rwa [fnL_at hi] at this
theorem one_at {n k : Nat} (h : k < n) : fnL (List.replicate n (1 : _root_.Rat)) k = 1 := by rw [fnL_at (by simpa using h)]; simp
theorem one_dots {n : Nat} {x : List _root_.Rat} (hx : SolB n x) (hn : n ≤ 4) : DotS n (fnL (List.replicate n (1 : _root_.Rat))) (fnL x) :=
  sol_dots hx hn fun k hk => .inr (one_at hk)
theorem nneg_num {q : _root_.Rat} : 0 ≤ q ↔ 0 ≤ q.num := _root_.Rat.num_nonneg.symm
theorem sumQ_eq {n : Nat} {x : List _root_.Rat} (h : x.length = n) : dotF n (fnL (List.replicate n (1 : _root_.Rat))) (fnL x) = sumQ x := by
  rw [sumQ, h]; exact dotF_congr (fun k hk => one_at hk) fun _ _ => rfl
end Go.Vs


namespace Go.Vs
/-! ### elimination, number by number -/
def elimT (p k : Nat) (piv row : List _root_.Rat) : List _root_.Rat := row.mapIdx fun i x => if p ≤ i ∧ i < k then x - fnL row p / fnL piv p * fnL piv i else x
@[simp] theorem elimT_len {p k : Nat} {piv row : List _root_.Rat} : (elimT p k piv row).length = row.length := by simp [elimT]
theorem elimT_zero {p : Nat} {piv row : List _root_.Rat} : elimT p p piv row = row := by
  apply List.ext_getElem (by simp)
  intro i h1 h2
  simp only [elimT, List.getElem_mapIdx]
  rw [if_neg (by omega)]
theorem elimT_all {p k : Nat} {piv row : List _root_.Rat} (h : row.length ≤ k) : elimT p k piv row = elimR p piv row := by
  apply List.ext_getElem (by simp [elimR])
  intro i h1 h2
  have hi : i < row.length := by simpa using h1
  simp only [elimT, elimR, List.getElem_mapIdx]
  by_cases e : i < p
  · rw [if_neg (by omega), if_pos e]
  · rw [if_pos (by omega), if_neg e]
theorem elimT_at {p k : Nat} {piv row : List _root_.Rat} (h : k < row.length) : (elimT p k piv row)[k]'(by simpa using h) = row[k] := by
  simp only [elimT, List.getElem_mapIdx]
  rw [if_neg (by omega)]
theorem elimT_succ {p k : Nat} {piv row : List _root_.Rat} (hp : p ≤ k) (h : k < row.length) : elimT p (k + 1) piv row = (elimT p k piv row).set k (row[k] - fnL row p / fnL piv p * fnL piv k) := by
  apply List.ext_getElem (by simp)
  intro i h1 h2
  have hi : i < row.length := by simpa using h1
  rw [List.getElem_set]
  simp only [elimT, List.getElem_mapIdx]
  by_cases e : k = i
  · subst e; rw [if_pos rfl, if_pos (by omega)]
  · rw [if_neg e]
    by_cases e2 : p ≤ i ∧ i < k
    · rw [if_pos e2, if_pos (by omega)]
    · rw [if_neg e2, if_neg (by omega)]
/-- all numbers of one elimination are small -/
structure ElimS (n p : Nat) (piv row : List _root_.Rat) : Prop where
  lr : row.length = n + 1
  lv : piv.length = n + 1
  hp : p ≤ n
  ne : fnL piv p ≠ 0
  f : smQ (fnL row p / fnL piv p)
  r : ∀ k, k ≤ n → smQ (fnL row k)
  v : ∀ k, k ≤ n → smQ (fnL piv k)
  q : ∀ k, k ≤ n → smQ (fnL row p / fnL piv p * fnL piv k)
  d : ∀ k, k ≤ n → smQ (fnL row k - fnL row p / fnL piv p * fnL piv k)
theorem elim_zero {p : Nat} {piv row : List _root_.Rat} (h : fnL row p = 0) : elimR p piv row = row := by
  apply List.ext_getElem (by simp [elimR])
  intro i h1 h2
  simp only [elimR, List.getElem_mapIdx]
  split
  · rfl
  · simp only [h]; grind
/-- the matrix behind i rows of a step -/
def stepQ (p i : Nat) (m : List (List _root_.Rat)) : List (List _root_.Rat) := m.mapIdx fun j r => if j < i ∧ j ≠ p then elimR p (m.getD p []) r else r
@[simp] theorem stepQ_len {p i : Nat} {m : List (List _root_.Rat)} : (stepQ p i m).length = m.length := by simp [stepQ]
theorem stepQ_zero {p : Nat} {m : List (List _root_.Rat)} : stepQ p 0 m = m := by
  apply List.ext_getElem (by simp)
  intro i h1 h2
  simp only [stepQ, List.getElem_mapIdx]
  rw [if_neg (by omega)]
theorem stepQ_all {p i : Nat} {m : List (List _root_.Rat)} (h : m.length ≤ i) : stepQ p i m = stepM p m := by
  apply List.ext_getElem (by simp [stepM])
  intro j h1 h2
  have hj : j < m.length := by simpa using h1
  simp only [stepQ, stepM, List.getElem_mapIdx]
  by_cases e : j = p
  · rw [if_neg (by omega), if_pos e]
  · rw [if_pos ⟨by omega, e⟩, if_neg e]
theorem stepQ_at {p i : Nat} {m : List (List _root_.Rat)} (h : i < m.length) : (stepQ p i m)[i]'(by simpa using h) = m[i] := by
  simp only [stepQ, List.getElem_mapIdx]
  rw [if_neg (by omega)]
theorem stepQ_piv {p i : Nat} {m : List (List _root_.Rat)} (h : p < m.length) : (stepQ p i m)[p]'(by simpa using h) = m[p] := by
  simp only [stepQ, List.getElem_mapIdx]
  rw [if_neg (by simp)]
theorem stepQ_p {p : Nat} {m : List (List _root_.Rat)} : stepQ p (p + 1) m = stepQ p p m := by
  apply List.ext_getElem (by simp)
  intro j h1 h2
  simp only [stepQ, List.getElem_mapIdx]
  by_cases e : j < p
  · rw [if_pos (by omega), if_pos (by omega)]
  · rw [if_neg (by omega), if_neg (by omega)]
theorem stepQ_succ {p i : Nat} {m : List (List _root_.Rat)} (h : i < m.length) (hp : p < m.length) (hne : i ≠ p) : stepQ p (i + 1) m = (stepQ p i m).set i (elimR p m[p] m[i]) := by
  apply List.ext_getElem (by simp)
  intro j h1 h2
  rw [List.getElem_set]
  simp only [stepQ, List.getElem_mapIdx, gd hp]
  by_cases e : i = j
  · subst e; rw [if_pos ⟨by omega, hne⟩, if_pos rfl]
  · rw [if_neg e]
    by_cases e2 : j < i ∧ j ≠ p
    · rw [if_pos ⟨by omega, e2.2⟩, if_pos e2]
    · rw [if_neg (fun h => e2 ⟨by omega, h.2⟩), if_neg e2]
theorem SafeS.elim {n p i : Nat} {m : List (List _root_.Rat)} (h : SafeS n p m) (hl : m.length = n) (hr : ∀ r ∈ m, r.length = n + 1) (hp : p < n) (hi : i < n) (hne : rowQ m p p ≠ 0) : ElimS n p (m[p]'(by omega)) (m[i]'(by omega)) := by
  have e1 : ∀ j (hj : j < n), rowQ m j = fnL (m[j]'(by omega)) := fun j hj => by rw [rowQ, gd]
  have := e1 p hp
  have := e1 i hi
  refine ⟨hr _ (List.getElem_mem _), hr _ (List.getElem_mem _), by omega, ?_, ?_, fun k hk => ?_, fun k hk => ?_, fun k hk => ?_, fun k hk => ?_⟩
  · rw [← e1 p hp]; exact hne
  · rw [← e1 p hp, ← e1 i hi]; exact h.f i hi
  · rw [← e1 i hi]; exact h.at_ i k hi hk
  · rw [← e1 p hp]; exact h.at_ p k hp hk
  · rw [← e1 p hp, ← e1 i hi]; exact h.q i k hi hk
  · rw [← e1 p hp, ← e1 i hi]; exact h.d i k hi hk
theorem re_self {g : Nat} {T : TypeId × Nat} {l l' : List _root_.Rat} (h : l'.length = l.length) : reV (one g (.sl (some g) (some T) (l'.map eQ))) (.d (.sl (some g) (some T) (l.map eQ))) = .d (.sl (some g) (some T) (l'.map eQ)) := by
  refine reV_d ?_
  simp only [reD, one, if_true]
  rw [if_pos ⟨trivial, rfl, trivial, len_eQs h⟩]
end Go.Vs


namespace Go.Vs
/-! ### systems of equations: the program's loop -/
theorem piv_eq {m : List (List _root_.Rat)} {p k : Nat} (hp : p ≤ k) (hz : ∀ j, p ≤ j → j < k → rowQ m j p = 0) (h : k = m.length ∨ (k < m.length ∧ rowQ m k p ≠ 0)) : pivAt m p = k := by
  have hk : k ≤ m.length := by omega
  have key : (m.drop p).findIdx (fun r => decide (fnL r p ≠ 0)) = k - p := by
    rcases h with h | ⟨h1, h2⟩
    · have : (m.drop p).findIdx (fun r => decide (fnL r p ≠ 0)) = (m.drop p).length := by
        rw [List.findIdx_eq_length]
        intro x hx
        obtain ⟨j, hj, rfl⟩ := List.mem_iff_getElem.1 hx
        rw [List.length_drop] at hj
        have := hz (p + j) (by omega) (by omega)
        rw [rowQ, gd (by omega)] at this
        simp only [List.getElem_drop, this, ne_eq, not_true_eq_false, decide_false]
      rw [this, List.length_drop]; omega
    · rw [List.findIdx_eq (by rw [List.length_drop]; omega)]
      constructor
      · simp only [List.getElem_drop, decide_eq_true_eq]
        rw [rowQ, gd h1] at h2
        have : p + (k - p) = k := by omega
        simp only [this]; exact h2
      · intro j hj
        have := hz (p + j) (by omega) (by omega)
        rw [rowQ, gd (by omega)] at this
        simp only [List.getElem_drop, this, ne_eq, not_true_eq_false, decide_false]
  unfold pivAt
  rw [key]; omega
theorem gj_none {m0 : List (List _root_.Rat)} {p : Nat} (h : gj m0 p = none) : ∀ q, p ≤ q → gj m0 q = none
  | 0, hq => by have : p = 0 := by omega
                subst this; exact h
  | q + 1, hq => by
    by_cases e : p = q + 1
    · subst e; exact h
    · rw [gj, gj_none h q (by omega)]; rfl
theorem gj_succ {m0 m : List (List _root_.Rat)} {p : Nat} (h : gj m0 p = some m) : gj m0 (p + 1) = gjStep p m := by rw [gj, h]; rfl
theorem sol_none {n p : Nat} {m0 m : List (List _root_.Rat)} (h : gj m0 p = some m) (hk : ¬ pivAt m p < m.length) (hp : p < n) : solQ n m0 = none := by
  rw [solQ, gj_none (p := p + 1) (by rw [gj_succ h, gjStep, if_neg hk]) n hp]; rfl
/-- what is known of the matrix where a step begins -/
structure StpI (n p k : Nat) (R M : List (List _root_.Rat)) : Prop where
  kn : k < n
  pk : p ≤ k
  safe : SafeS n p (swapM M p k)
  len : (swapM M p k).length = n
  row : ∀ r ∈ swapM M p k, r.length = n + 1
  ne : rowQ (swapM M p k) p p ≠ 0
  nxt : gj R (p + 1) = some (stepM p (swapM M p k))
theorem stp_of {n p k : Nat} {R M : List (List _root_.Rat)} (hn : n ≤ 4) (hl : R.length = n) (hr : ∀ r ∈ R, r.length = n + 1) (hb : Bd n 0 R) (h : gj R p = some M) (hp : p < n) (hk : pivAt M p = k) (hkn : k < n) : StpI n p k R M := by
  obtain ⟨g, b⟩ := gj_inv hl hr hb p (by omega) M h
  have hM := g.len
  have hpl : pivAt M p < M.length := by omega
  obtain ⟨h1, h2⟩ := piv_lt hpl
  rw [hk] at h1 h2
  have g2 := g.swap h1 hkn
  have b2 := Bd.swap g h1 hkn b
  have hne : rowQ (swapM M p k) p p ≠ 0 := by
    rw [rowQ, swap_get (by omega) (by omega)]
    by_cases e : p = k
    · rw [if_pos e]; subst e; exact h2
    · rw [if_neg e, if_pos rfl]; exact h2
  refine ⟨hkn, h1, bd_safe b2 (by omega) hp hne, g2.len, g2.row, hne, ?_⟩
  rw [gj_succ h, gjStep, if_pos hpl, hk]
/-- the end: the quotients -/
theorem sol_end {n : Nat} {R M : List (List _root_.Rat)} (hn : n ≤ 4) (hl : R.length = n) (hr : ∀ r ∈ R, r.length = n + 1) (hb : Bd n 0 R) (h : gj R n = some M) :
    M.length = n ∧ (∀ r ∈ M, r.length = n + 1) ∧ solQ n R = some (outM n M) ∧ SolB n (outM n M) ∧ (∀ p (hp : p < M.length), fnL M[p] p ≠ 0 ∧ smQ (fnL M[p] p) ∧ smQ (fnL M[p] n) ∧ smQ (fnL M[p] n / fnL M[p] p)) := by
  obtain ⟨g, b⟩ := gj_inv hl hr hb n (Nat.le_refl _) M h
  have hs : solQ n R = some (outM n M) := by rw [solQ, h]; rfl
  have hB := sol_bd hn hl hr hb hs
  refine ⟨g.len, g.row, hs, hB, fun p hp => ?_⟩
  have hpn : p < n := by rw [← g.len]; exact hp
  have e : rowQ M p = fnL M[p] := by rw [rowQ, gd hp]
  refine ⟨by rw [← e]; exact g.piv p hpn, by rw [← e]; exact bd_at b hn hpn (by omega), by rw [← e]; exact bd_at b hn hpn (Nat.le_refl _), ?_⟩
  have := (sol_dots hB hn (a := fun _ => 1) fun _ _ => .inr rfl).sx p hpn
  rw [fnL, gd (by simpa [outM] using hpn)] at this
  simpa [outM, e] using this
theorem phi_single {g : Nat} {T : Option (TypeId × Nat)} {es : List (List D)} : phi [g] [.sl (some g) T es] = one g (.sl (some g) T es) := by
  funext j
  by_cases e : j = g
  · subst e; simp [phi, one, lookL, lookD]
  · simp [phi, one, e]
theorem re_rowout {φ : Nat → Option D} {g : Nat} {T : Option (TypeId × Nat)} {l : List _root_.Rat} (h : φ g = none) : reV φ (.d (.sl (some g) T (l.map eQ))) = .d (.sl (some g) T (l.map eQ)) := by
  simp [reV, reD, h]
theorem re_mset {gm : Nat} {TM : TypeId × Nat} {es : List (List D)} {i : Nat} {e' : List D} (h : i < es.length) (h1 : e'.length = es[i].length) : reV (one gm (.sl (some gm) (some TM) (es.set i e'))) (.d (.sl (some gm) (some TM) es)) = .d (.sl (some gm) (some TM) (es.set i e')) :=
  re_oneSet2 (by simp [List.getD, h, h1])
/-- two rows change places -/
def swapR (R : List (Nat × List _root_.Rat)) (p k : Nat) : List (Nat × List _root_.Rat) := (R.set p (R.getD k (0, []))).set k (R.getD p (0, []))
theorem swapR_snd {R : List (Nat × List _root_.Rat)} {p k : Nat} : (swapR R p k).map (·.2) = swapM (R.map (·.2)) p k := by
  simp only [swapR, swapM, List.map_set]
  have e : ∀ i, (R.map (·.2)).getD i [] = (R.getD i (0, [])).2 := fun i => by
    simp only [List.getD_eq_getElem?_getD, List.getElem?_map]
    cases R[i]? <;> rfl
  rw [e, e]
theorem swapR_len {R : List (Nat × List _root_.Rat)} {p k : Nat} : (swapR R p k).length = R.length := by simp [swapR]
theorem swapR_perm {R : List (Nat × List _root_.Rat)} {p k : Nat} (hp : p < R.length) (hk : k < R.length) : (swapR R p k).Perm R := by
  have : swapR R p k = (R.set p R[k]).set k R[p] := by rw [swapR, gd hp, gd hk]
  rw [this]
  exact List.set_set_perm hp hk
theorem app_last {r : List _root_.Rat} {n : Nat} (h : r.length = n + 1) : r.take n ++ [fnL r n] = r := by
  rw [fnL_at (by omega), List.take_append_getElem (by omega)]
  exact List.take_of_length_le (by omega)
theorem swapR_set {R : List (Nat × List _root_.Rat)} {p k : Nat} (hp : p < R.length) (hk : k < R.length) : swapR R p k = (R.set p R[k]).set k R[p] := by rw [swapR, gd hp, gd hk]
theorem swapR_set2 {R : List (Nat × List _root_.Rat)} {p k : Nat} (hp : p < R.length) (hk : k < R.length) : swapR R p k = (R.set k R[p]).set p R[k] := by
  rw [swapR_set hp hk]
  by_cases e : p = k
  · subst e; rfl
  · rw [List.set_comm _ _ e]
end Go.Vs


namespace Go.Vs
/-! ### databases -/
def tabOk (t : PTab) : Bool := nameOk t.name && rowsOk t.rel.ar t.rel.rows && decide (1 ≤ t.rel.ar) && decide (t.rel.rows.length ≤ 16)
/-- the table at place j is right and comes behind the one before it -/
def dbAt (l : List PTab) (j : Nat) : Bool := (decide (j = 0) || Op.bytesLess (l.getD (j - 1) default).name (l.getD j default).name) && tabOk (l.getD j default)
def dbOk (d : PDb) : Bool := decide (d.tabs.length ≤ 6) && (List.range d.tabs.length).all (dbAt d.tabs)
structure DbTo (l : List PTab) (i : Nat) : Prop where
  le : i ≤ l.length
  ok : AllTo (dbAt l) (List.range l.length) i
theorem DbTo.zero {l : List PTab} : DbTo l 0 := ⟨by omega, allTo_zero⟩
theorem DbTo.step {l : List PTab} {i : Nat} (h : DbTo l i) (hi : i < l.length) (e : dbAt l i = true) : DbTo l (i + 1) := ⟨hi, allTo_step h.ok (by simpa using hi) (by simpa using e)⟩
theorem DbTo.done {l : List PTab} {i : Nat} (h : DbTo l i) (hi : l.length ≤ i) : dbOk ⟨l⟩ = decide (l.length ≤ 6) := by
  have := allTo_done h.ok (by simpa using hi)
  simp only [dbOk, this, Bool.and_true]
/-! ### texts of relations -/
def fmtRow (r : List Int) : List UInt8 := [40] ++ joinB [44] (r.map decZ) ++ [41]
def fmtRel (r : PReln) : List UInt8 := if rowsOk r.ar r.rows then decZ r.ar ++ [58] ++ joinB [32] (r.rows.map fmtRow) else []
/-! ### checksums -/
/-! ### the files of a version -/
def runNm (v : Int) (nm : List UInt8) : List UInt8 := [116] ++ decZ v ++ [46] ++ nm
def runs (v : Int) (l : List PTab) : List PFile := l.map fun t => ⟨runNm v t.name, fmtRel t.rel⟩
@[simp] theorem runs_length (v : Int) (l : List PTab) : (runs v l).length = l.length := by simp [runs]
end Go.Vs


namespace Go.Vs
/-! ### relations of a database, differences -/
def lkT (d : PDb) (nm : List UInt8) : Option PReln := if dbOk d then (d.tabs.find? fun t => t.name == nm).map PTab.rel else none
def lkB (d : PDb) (nm : List UInt8) : Bool := (lkT d nm).isSome
def lkR (d : PDb) (nm : List UInt8) : PReln := (lkT d nm).getD ⟨0, []⟩
theorem lk_no {d : PDb} {nm : List UInt8} (h : dbOk d = false) : lkB d nm = false ∧ lkR d nm = ⟨0, []⟩ := by simp [lkB, lkR, lkT, h]
theorem find_no {α : Type} {p : α → Bool} {l : List α} (h : (l.all fun a => !p a) = true) : l.find? p = none := by
  rw [List.find?_eq_none]; intro x hx
  have := (List.all_eq_true.1 h) x hx
  simpa using this
theorem lk_none {l : List PTab} {nm : List UInt8} (h : (l.all fun t => !(t.name == nm)) = true) : lkB ⟨l⟩ nm = false ∧ lkR ⟨l⟩ nm = ⟨0, []⟩ := by
  have := find_no (p := fun t : PTab => t.name == nm) h
  by_cases hd : dbOk ⟨l⟩ = true
  · have hT : lkT ⟨l⟩ nm = none := by rw [lkT, if_pos hd]; simp only; rw [this]; rfl
    exact ⟨by rw [lkB, hT]; rfl, by rw [lkR, hT]; rfl⟩
  · exact lk_no (by simpa using hd)
structure LkTo (l : List PTab) (nm : List UInt8) (i : Nat) : Prop where
  le : i ≤ l.length
  ok : AllTo (fun t => !(t.name == nm)) l i
theorem LkTo.zero {l : List PTab} {nm : List UInt8} : LkTo l nm 0 := ⟨by omega, allTo_zero⟩
theorem LkTo.step {l : List PTab} {nm : List UInt8} {i : Nat} (h : LkTo l nm i) (hi : i < l.length) (e : ¬ l[i].name = nm) : LkTo l nm (i + 1) := ⟨hi, allTo_step h.ok hi (by simp [e])⟩
theorem LkTo.done {l : List PTab} {nm : List UInt8} {i : Nat} (h : LkTo l nm i) (hi : l.length ≤ i) : lkB ⟨l⟩ nm = false ∧ lkR ⟨l⟩ nm = ⟨0, []⟩ := lk_none (allTo_done h.ok hi)
/-- rows of our own: those that the first i rows leave -/
structure NorI (f : List (List Int) → List (List Int)) (l : List (List Int)) (B : Nat) (p : Nat × List Ints) (h : Nat) : Prop where
  le : p.1 ≤ l.length
  pl : p.2.map (plS plI) = f (l.take p.1)
  ok : ∀ y ∈ p.2, okS okI y
  good : GoodL (cS cI) (whS whI) B h p.2
theorem NorI.zero {f : List (List Int) → List (List Int)} {l : List (List Int)} {B h : Nat} (hf : f [] = []) : NorI f l B (0, []) h := ⟨by simp, by simp [hf], by simp, GoodL.nil⟩
theorem NorI.skip {f : List (List Int) → List (List Int)} {l : List (List Int)} {B h h' i : Nat} {ys : List Ints} (H : NorI f l B (i, ys) h) (hi : i < l.length) (e : f (l.take (i + 1)) = f (l.take i)) (hh : h ≤ h') : NorI f l B (i + 1, ys) h' :=
  ⟨hi, by rw [e]; exact H.pl, H.ok, ⟨H.good.nd, H.good.lo, fun g hg => Nat.lt_of_lt_of_le (H.good.hi g hg) hh, H.good.wh⟩⟩
theorem NorI.snoc {f : List (List Int) → List (List Int)} {l : List (List Int)} {B h m h' i : Nat} {ys : List Ints} {y : Ints} (H : NorI f l B (i, ys) h) (hi : i < l.length) (e : f (l.take (i + 1)) = f (l.take i) ++ [l[i]]) (hy : plS plI y = l[i]) (hok : okS okI y) (hb : B ≤ m ∧ h ≤ m) (hm : m ≤ h') (G : Good (cS cI y) (whS whI y) m) (hr : ∀ g ∈ idsL (cS cI y), g < h') : NorI f l B (i + 1, ys ++ [y]) h' := by
  refine ⟨hi, ?_, fun z hz => ?_, GoodL.snoc H.good hb hm G hr⟩
  · have := H.pl
    simp only at this
    simp only [List.map_append, List.map_cons, List.map_nil]
    rw [this, hy, e]
  · rcases List.mem_append.1 hz with h | h
    · exact H.ok z h
    · rw [List.mem_singleton.1 h]; exact hok
end Go.Vs


namespace Go.Vs
/-- a contract on arguments known by elements only holds of typed ones -/
theorem VC.er {P : Program} {f : FuncId} {As Ps : List V} {post : Nat → V → Prop} (h : VC P f Ps post) (hp : rpL (fun _ => none) As = some Ps) : VC P f As post :=
  ⟨h.1, fun w vals A hgl hLR => h.2 w vals A hgl (LR.er _ _ _ hLR hp)⟩
/-- copies: the first i elements -/
structure CopI {α β : Type} (c : α → List D) (wh : α → Prop) (ok : α → Prop) (pl : α → β) (l : List β) (B : Nat) (p : Nat × List α) (h : Nat) : Prop where
  le : p.1 ≤ l.length
  pl : p.2.map pl = l.take p.1
  ok : ∀ y ∈ p.2, ok y
  good : GoodL c wh B h p.2
section
variable {α β : Type} {c : α → List D} {wh : α → Prop} {ok : α → Prop} {pl : α → β} {l : List β} {B : Nat}
theorem CopI.zero {h : Nat} : CopI c wh ok pl l B (0, []) h := ⟨by simp, by simp, by simp, GoodL.nil⟩
theorem CopI.len {h i : Nat} {ys : List α} (H : CopI c wh ok pl l B (i, ys) h) : ys.length = i := by
  have := congrArg List.length H.pl
  have hl := H.le
  simp only [List.length_map, List.length_take] at this hl
  omega
theorem CopI.snoc {h m h' i : Nat} {ys : List α} {y : α} (H : CopI c wh ok pl l B (i, ys) h) (hi : i < l.length) (hy : pl y = l[i]) (hok : ok y) (hb : B ≤ m ∧ h ≤ m) (hm : m ≤ h') (G : Good (c y) (wh y) m) (hr : ∀ g ∈ idsL (c y), g < h') : CopI c wh ok pl l B (i + 1, ys ++ [y]) h' := by
  refine ⟨hi, ?_, fun z hz => ?_, GoodL.snoc H.good hb hm G hr⟩
  · have := H.pl
    simp only at this
    simp only [List.map_append, List.map_cons, List.map_nil]
    rw [this, hy, List.take_succ_eq_append_getElem hi]
  · rcases List.mem_append.1 hz with h | h
    · exact H.ok z h
    · rw [List.mem_singleton.1 h]; exact hok
theorem CopI.all {h i : Nat} {ys : List α} (H : CopI c wh ok pl l B (i, ys) h) (hi : l.length ≤ i) : ys.map pl = l := by
  have := H.pl
  simp only at this
  rwa [List.take_of_length_le hi] at this
end
end Go.Vs


namespace Go.Vs
/-- two ordered lists, and what of them stands in order behind -/
structure MJ (rows a b out : List (List Int)) : Prop where
  sa : Srt a
  sb : Srt b
  so : Srt out
  lt : ∀ y ∈ out, ∀ z, z ∈ a ∨ z ∈ b → cmpL y z < 0
  mem : ∀ x, (x ∈ out ∨ x ∈ a ∨ x ∈ b) ↔ x ∈ rows
  len : out.length + a.length + b.length ≤ rows.length
theorem MJ.start (rows : List (List Int)) (m : Nat) : MJ rows (srtU (rows.take m)) (srtU (rows.drop m)) [] := by
  have h := MI.start rows m
  exact ⟨h.sa, h.sb, h.so, by simp, h.mem, h.len⟩
theorem MJ.swap {rows a b out : List (List Int)} (h : MJ rows a b out) : MJ rows b a out :=
  ⟨h.sb, h.sa, h.so, fun y hy z hz => h.lt y hy z hz.symm, fun x => by rw [← h.mem x, or_comm (a := x ∈ a)], by have := h.len; omega⟩
theorem MJ.done {rows out : List (List Int)} (h : MJ rows [] [] out) : out = srtU rows := srtU_uniq h.so fun x => by rw [← h.mem x]; simp
theorem MJ.left {rows a b out : List (List Int)} {x : List Int} (h : MJ rows (x :: a) b out) (hb : ∀ z ∈ b, cmpL x z < 0) : MJ rows a b (out ++ [x]) := by
  have ha := List.pairwise_cons.1 h.sa
  have hl := h.len
  simp only [List.length_cons] at hl
  refine ⟨ha.2, h.sb, List.pairwise_append.2 ⟨h.so, by simp, fun y hy z hz => ?_⟩, fun y hy z hz => ?_, fun y => ?_, by simp only [List.length_append, List.length_cons, List.length_nil]; omega⟩
  · rw [List.mem_singleton.1 hz]; exact h.lt y hy x (by simp)
  · rcases List.mem_append.1 hy with hy | hy
    · exact h.lt y hy z (hz.imp (fun hz => by simp [hz]) id)
    · rw [List.mem_singleton.1 hy]
      rcases hz with hz | hz
      · exact ha.1 z hz
      · exact hb z hz
  · rw [← h.mem y]
    simp only [List.mem_append, List.mem_cons, List.not_mem_nil, or_false]
    constructor
    · rintro ((h1 | h1) | h1 | h1) <;> simp [h1]
    · rintro (h1 | (h1 | h1) | h1) <;> simp [h1]
theorem MJ.both {rows a b out : List (List Int)} {x : List Int} (h : MJ rows (x :: a) (x :: b) out) : MJ rows a b (out ++ [x]) := by
  have hb := List.pairwise_cons.1 h.sb
  have hl := h.len
  simp only [List.length_cons] at hl
  refine MJ.left (x := x) ⟨h.sa, hb.2, h.so, fun y hy z hz => h.lt y hy z (hz.imp id fun hz => by simp [hz]), fun y => ?_, by simp only [List.length_cons]; omega⟩ hb.1
  rw [← h.mem y]
  simp only [List.mem_cons]
  constructor
  · rintro (h1 | h1 | h1)
    · exact .inl h1
    · exact .inr (.inl h1)
    · exact .inr (.inr (.inr h1))
  · rintro (h1 | h1 | h1 | h1)
    · exact .inl h1
    · exact .inr (.inl h1)
    · exact .inr (.inl (.inl h1))
    · exact .inr (.inr h1)
/-- rows of our own, each with blocks of its own -/
structure OwnR (B : Nat) (L : List Ints) : Prop where
  nd : (idsLL (L.map (cS cI))).Nodup
  lo : ∀ g ∈ idsLL (L.map (cS cI)), B ≤ g
  wh : ∀ r ∈ L, whS whI r
  ok : ∀ r ∈ L, okS okI r
theorem ids_perm {L L' : List Ints} (h : L'.Perm L) : (idsLL (L'.map (cS cI))).Perm (idsLL (L.map (cS cI))) := by
  induction h with
  | nil => exact .refl _
  | cons a _ ih => simp only [List.map_cons, idsLL]; exact (List.Perm.refl _).append ih
  | swap a b l => simp only [List.map_cons, idsLL]; exact List.perm_append_comm_assoc _ _ _
  | trans _ _ h1 h2 => exact h1.trans h2
theorem OwnR.perm {B : Nat} {L L' : List Ints} (H : OwnR B L) (h : L'.Perm L) : OwnR B L' :=
  ⟨(ids_perm h).nodup_iff.2 H.nd, fun g hg => H.lo g ((ids_perm h).mem_iff.1 hg), fun r hr => H.wh r (h.mem_iff.1 hr), fun r hr => H.ok r (h.mem_iff.1 hr)⟩
theorem OwnR.sub {B : Nat} {L L' : List Ints} (H : OwnR B L) (h : L'.Sublist L) : OwnR B L' :=
  ⟨H.nd.sublist (ids_sub h), fun g hg => H.lo g ((ids_sub h).subset hg), fun r hr => H.wh r (h.subset hr), fun r hr => H.ok r (h.subset hr)⟩
/-- the merge of two slices of our own -/
structure SrtI (rows : List (List Int)) (B : Nat) (p : List Ints × List Ints × List Ints × Option (TypeId × Nat) × Option (TypeId × Nat)) : Prop where
  mj : MJ rows (p.1.map (plS plI)) (p.2.1.map (plS plI)) (p.2.2.1.map (plS plI))
  own : OwnR B (p.2.2.1 ++ (p.1 ++ p.2.1))
theorem SrtI.left {rows : List (List Int)} {B : Nat} {x : Ints} {a b o : List Ints} {Ta Tb Ta' : Option (TypeId × Nat)} (H : SrtI rows B (x :: a, b, o, Ta, Tb)) (hb : ∀ z ∈ b.map (plS plI), cmpL (plS plI x) z < 0) : SrtI rows B (a, b, o ++ [x], Ta', Tb) := by
  have h1 := H.mj
  simp only [List.map_cons] at h1
  refine ⟨by simp only [List.map_append, List.map_cons, List.map_nil]; exact h1.left hb, ?_⟩
  have h2 := H.own
  simp only at h2 ⊢
  simpa using h2
theorem SrtI.right {rows : List (List Int)} {B : Nat} {y : Ints} {a b o : List Ints} {Ta Tb Tb' : Option (TypeId × Nat)} (H : SrtI rows B (a, y :: b, o, Ta, Tb)) (ha : ∀ z ∈ a.map (plS plI), cmpL (plS plI y) z < 0) : SrtI rows B (a, b, o ++ [y], Ta, Tb') := by
  have h1 := H.mj
  simp only [List.map_cons] at h1
  refine ⟨by simp only [List.map_append, List.map_cons, List.map_nil]; exact (h1.swap.left ha).swap, ?_⟩
  refine H.own.perm ?_
  simp only [List.append_assoc, List.singleton_append]
  exact (List.Perm.refl o).append List.perm_middle.symm
theorem SrtI.both {rows : List (List Int)} {B : Nat} {x y : Ints} {a b o : List Ints} {Ta Tb Ta' Tb' : Option (TypeId × Nat)} (H : SrtI rows B (x :: a, y :: b, o, Ta, Tb)) (e : plS plI x = plS plI y) : SrtI rows B (a, b, o ++ [x], Ta', Tb') := by
  have h1 := H.mj
  simp only [List.map_cons, ← e] at h1
  refine ⟨by simp only [List.map_append, List.map_cons, List.map_nil]; exact h1.both, ?_⟩
  refine H.own.sub ?_
  simp only [List.append_assoc, List.singleton_append]
  exact (List.Sublist.refl o).append ((((List.Sublist.refl a).append (List.sublist_cons_self y b))).cons_cons x)
structure ToN (ar : Int) (l : List (List Int)) (i : Nat) : Prop where
  le : i ≤ l.length
  ok : AllTo (fun r : List Int => decide ((r.length : Int) = ar) && valsOk r) l i
theorem ToN.zero {ar : Int} {l : List (List Int)} : ToN ar l 0 := ⟨by omega, allTo_zero⟩
theorem ToN.step {ar : Int} {l : List (List Int)} {i : Nat} (h : ToN ar l i) (hi : i < l.length) (e : (decide ((l[i].length : Int) = ar) && valsOk l[i]) = true) : ToN ar l (i + 1) := ⟨hi, allTo_step h.ok hi e⟩
theorem ToN.done {ar : Int} {l : List (List Int)} {i : Nat} (h : ToN ar l i) (hi : l.length ≤ i) : (l.all fun r : List Int => decide ((r.length : Int) = ar) && valsOk r) = true := allTo_done h.ok hi
theorem ToN.bad {ar : Int} {l : List (List Int)} {i : Nat} (_ : ToN ar l i) (hi : i < l.length) (e : (decide ((l[i].length : Int) = ar) && valsOk l[i]) = false) : newB ar l = false := by
  have : (l.all fun r : List Int => decide ((r.length : Int) = ar) && valsOk r) = false := all_bad (p := fun r : List Int => decide ((r.length : Int) = ar) && valsOk r) hi e
  rw [newB, this, Bool.false_and]
theorem VC.weak {P : Program} {f : FuncId} {As : List V} {post post' : Nat → V → Prop} (h : VC P f As post) (hp : ∀ n r, post n r → post' n r) : VC P f As post' :=
  ⟨h.1, fun w vals A hgl hLR => (h.2 w vals A hgl hLR).mono fun e w' he => by
    obtain ⟨v, r, h1, h2, h3, h4, h5⟩ := he
    exact ⟨v, r, h1, h2, h3, h4, hp _ _ h5⟩⟩
end Go.Vs


namespace Go.Vs
/-! ### choices of rows, in order -/
theorem combs_none {α : Type} : ∀ {n : Nat} {l : List α}, l.length < n → combs n l = []
  | 0, _, h => by omega
  | n + 1, [], _ => rfl
  | n + 1, a :: l, h => by
    simp only [List.length_cons] at h
    rw [combs, combs_none (n := n) (by omega), combs_none (n := n + 1) (by omega)]; rfl
theorem combs_map {α β : Type} (f : α → β) : ∀ (n : Nat) (l : List α), combs n (l.map f) = (combs n l).map (·.map f)
  | 0, _ => by simp [combs]
  | n + 1, [] => rfl
  | n + 1, a :: l => by
    rw [List.map_cons, combs, combs, combs_map f n l, combs_map f (n + 1) l, List.map_append, List.map_map, List.map_map]
    rfl
theorem combs_len {α : Type} : ∀ (n : Nat) (l : List α), (combs n l).length ≤ 2 ^ l.length
  | 0, l => by simp [combs, Nat.one_le_two_pow]
  | n + 1, [] => by simp [combs]
  | n + 1, a :: l => by
    have h1 := combs_len n l
    have h2 := combs_len (n + 1) l
    rw [combs, List.length_append, List.length_map, List.length_cons, Nat.pow_succ]
    omega
/-- the numbers from a, below b -/
def rgF (a b : Nat) : List Nat := List.range' a (b - a)
theorem rgF_cons {a b : Nat} (h : a < b) : rgF a b = a :: rgF (a + 1) b := by
  unfold rgF
  obtain ⟨k, hk⟩ : ∃ k, b - a = k + 1 := ⟨b - a - 1, by omega⟩
  rw [hk, List.range'_succ]
  congr 2; omega
theorem rgF_len {a b : Nat} : (rgF a b).length = b - a := by simp [rgF]
theorem rgF_mem {a b x : Nat} (h : x ∈ rgF a b) : a ≤ x ∧ x < b := by
  simp only [rgF, List.mem_range'_1] at h
  omega
theorem combs_rg {n a b : Nat} (h : a < b) : combs (n + 1) (rgF a b) = (combs n (rgF (a + 1) b)).map (a :: ·) ++ combs (n + 1) (rgF (a + 1) b) := by
  rw [rgF_cons h, combs]
theorem combs_end {n a b : Nat} (h : b < a + n) (h0 : 0 < n) : combs n (rgF a b) = [] := combs_none (by rw [rgF_len]; omega)
theorem combs_sub {n a b : Nat} {c : List Nat} (h : c ∈ combs n (rgF a b)) : c.length = n ∧ ∀ x ∈ c, a ≤ x ∧ x < b := by
  obtain ⟨h1, h2⟩ := combs_mem.1 h
  exact ⟨h2, fun x hx => rgF_mem (h1.subset hx)⟩
theorem combs_le {n a b : Nat} (h : b ≤ 9) : (combs n (rgF a b)).length ≤ 512 := by
  have h1 := combs_len n (rgF a b)
  rw [rgF_len] at h1
  have h2 : 2 ^ (b - a) ≤ 2 ^ 9 := Nat.pow_le_pow_right (by omega) (by omega)
  omega
/-- as ints -/
def intsN (c : List Nat) : List Int := c.map Int.ofNat
@[simp] theorem intsN_len (c : List Nat) : (intsN c).length = c.length := by simp [intsN]
theorem intsN_at {c : List Nat} {i : Nat} (h : i < c.length) : (intsN c)[i]'(by simpa using h) = (c[i] : Int) := by simp [intsN]
/-- the rows that are chosen -/
def rowsA (AR : List (List _root_.Rat)) (c : List Nat) : List (List _root_.Rat) := c.map fun i => AR.getD i []
theorem rowsA_len {AR : List (List _root_.Rat)} {c : List Nat} : (rowsA AR c).length = c.length := by simp [rowsA]
theorem rowsA_mem {AR : List (List _root_.Rat)} {c : List Nat} (h : ∀ i ∈ c, i < AR.length) {r : List _root_.Rat} (hr : r ∈ rowsA AR c) : r ∈ AR := by
  obtain ⟨i, hi, rfl⟩ := List.mem_map.1 hr
  exact getD_mem' (h i hi)
theorem rg_all (AR : List (List _root_.Rat)) : (rgF 0 AR.length).map (fun i => AR.getD i []) = AR := by
  apply List.ext_getElem (by simp [rgF])
  intro i h1 h2
  simp [rgF, List.getD, h2]
theorem combs_AR (n : Nat) (AR : List (List _root_.Rat)) : combs n AR = (combs n (rgF 0 AR.length)).map (rowsA AR) := by
  conv => lhs; rw [← rg_all AR]
  rw [combs_map]
  rfl
theorem augR_len {A : List (List _root_.Rat)} {n : Nat} : (augR A n).length = A.length + n := by simp [augR]
theorem augR_lo {A : List (List _root_.Rat)} {n i : Nat} (h : i < A.length) : (augR A n).getD i [] = A[i] ++ [1] := by
  rw [gd (by rw [augR_len]; omega)]
  simp only [augR]
  rw [List.getElem_append_left (by simpa using h)]; simp
theorem augR_hi {A : List (List _root_.Rat)} {n i : Nat} (h : A.length ≤ i) (h2 : i < A.length + n) : (augR A n).getD i [] = unitR n (i - A.length) ++ [0] := by
  rw [gd (by rw [augR_len]; omega)]
  simp only [augR]
  rw [List.getElem_append_right (by simpa using h)]; simp
theorem take_app {r : List _root_.Rat} {n : Nat} {b : _root_.Rat} (h : r.length = n) : (r ++ [b]).take n = r ∧ fnL (r ++ [b]) n = b :=
  ⟨by rw [List.take_append_of_le_length (by omega), List.take_of_length_le (by omega)], (app_get h).2⟩
theorem unitR_len {n j : Nat} : (unitR n j).length = n := by simp [unitR]
/-- what is found when the first rows c are chosen and the others come from a on -/
def foldC (A : List (List _root_.Rat)) (n : Nat) (c : List Nat) (a : Nat) (out : List (List _root_.Rat)) : List (List _root_.Rat) :=
  ((combs (n - c.length) (rgF a (A.length + n))).map fun s => rowsA (augR A n) (c ++ s)).foldl (ptStep A n) out
theorem foldC_full {A : List (List _root_.Rat)} {n : Nat} {c : List Nat} {a : Nat} {out : List (List _root_.Rat)} (h : c.length = n) : foldC A n c a out = ptStep A n out (rowsA (augR A n) c) := by
  unfold foldC
  rw [show n - c.length = 0 by omega]
  simp [combs]
theorem foldC_step {A : List (List _root_.Rat)} {n : Nat} {c : List Nat} {a : Nat} {out : List (List _root_.Rat)} (h : c.length < n) (ha : a < A.length + n) : foldC A n c a out = foldC A n c (a + 1) (foldC A n (c ++ [a]) (a + 1) out) := by
  unfold foldC
  obtain ⟨k, hk⟩ : ∃ k, n - c.length = k + 1 := ⟨n - c.length - 1, by omega⟩
  rw [hk, combs_rg ha, List.map_append, List.foldl_append, List.map_map]
  have e : n - (c ++ [a]).length = k := by simp; omega
  rw [e]
  congr 2
  apply List.map_congr_left
  intro s _
  simp
theorem foldC_end {A : List (List _root_.Rat)} {n : Nat} {c : List Nat} {a : Nat} {out : List (List _root_.Rat)} (h : c.length < n) (ha : A.length + n ≤ a) : foldC A n c a out = out := by
  unfold foldC
  rw [combs_end (by omega) (by omega)]; rfl
theorem foldC_all (A : List (List _root_.Rat)) (n : Nat) : foldC A n [] 0 [] = ptsQ A n := by
  unfold foldC ptsQ
  rw [combs_AR, augR_len]
  simp
theorem ptStep_len {A : List (List _root_.Rat)} {n : Nat} {out M : List (List _root_.Rat)} : (ptStep A n out M).length ≤ out.length + 1 := by
  unfold ptStep
  split
  · split
    · unfold addPt; split <;> simp
    · omega
  · omega
theorem fold_len {A : List (List _root_.Rat)} {n : Nat} : ∀ (l : List (List (List _root_.Rat))) (out : List (List _root_.Rat)), (l.foldl (ptStep A n) out).length ≤ out.length + l.length
  | [], out => by simp
  | M :: l, out => by
    have := fold_len (A := A) (n := n) l (ptStep A n out M)
    have := ptStep_len (A := A) (n := n) (out := out) (M := M)
    simp only [List.foldl_cons, List.length_cons]
    omega
theorem unit_set {n i : Nat} : (List.replicate n (0 : _root_.Rat)).set i 1 = unitR n i := by
  apply List.ext_getElem (by simp [unitR])
  intro k h1 h2
  simp only [List.getElem_set, unitR, List.getElem_map, List.getElem_range, List.getElem_replicate]
  by_cases e : i = k
  · subst e; simp
  · rw [if_neg e, if_neg (Ne.symm e)]
/-- how many choices are left -/
def cntC (A : List (List _root_.Rat)) (n : Nat) (c : List Nat) (a : Nat) : Nat := (combs (n - c.length) (rgF a (A.length + n))).length
theorem cntC_step {A : List (List _root_.Rat)} {n : Nat} {c : List Nat} {a : Nat} (h : c.length < n) (ha : a < A.length + n) : cntC A n c a = cntC A n (c ++ [a]) (a + 1) + cntC A n c (a + 1) := by
  unfold cntC
  obtain ⟨k, hk⟩ : ∃ k, n - c.length = k + 1 := ⟨n - c.length - 1, by omega⟩
  have e : n - (c ++ [a]).length = k := by simp; omega
  rw [hk, combs_rg ha, e]
  simp
theorem foldC_len {A : List (List _root_.Rat)} {n : Nat} {c : List Nat} {a : Nat} {out : List (List _root_.Rat)} : (foldC A n c a out).length ≤ out.length + cntC A n c a := by
  unfold foldC cntC
  have := fold_len (A := A) (n := n) ((combs (n - c.length) (rgF a (A.length + n))).map fun s => rowsA (augR A n) (c ++ s)) out
  simpa using this
theorem cntC_full {A : List (List _root_.Rat)} {n : Nat} {c : List Nat} {a : Nat} (h : c.length = n) : cntC A n c a = 1 := by
  unfold cntC
  rw [show n - c.length = 0 by omega]
  simp [combs]
theorem cntC_all {A : List (List _root_.Rat)} {n : Nat} (h : A.length + n ≤ 9) : cntC A n [] 0 ≤ 512 := by
  unfold cntC
  exact combs_le h
end Go.Vs


namespace Go.Vs
/-! ### the program of a bag; the best vertex -/
theorem pts_sol {A : List (List _root_.Rat)} {n : Nat} (h : LPok A n) : ∀ x ∈ ptsQ A n, SolB n x := fun x hx => by
  obtain ⟨M, h1, h2, h3, _⟩ := pts_mem.1 hx
  have hr : ∀ r ∈ M, r.length = n + 1 := fun r hr => aug_len h.m01 r (h1.subset hr)
  have h01 : ∀ r ∈ M, ∀ q ∈ r, q = 0 ∨ q = 1 := fun r hr => aug_01 h.m01 r (h1.subset hr)
  exact sol_bd h.n4 h2 hr (bd_01 h2 h01) h3
theorem pts_len {A : List (List _root_.Rat)} {n : Nat} (h : LPok A n) : (ptsQ A n).length ≤ 512 := by
  have h1 := h.n4
  have h2 := h.m5
  have := foldC_len (A := A) (n := n) (c := []) (a := 0) (out := [])
  rw [foldC_all] at this
  have := cntC_all (A := A) (n := n) (by omega)
  simp at *
  omega
theorem sum_sm {n : Nat} {x : List _root_.Rat} (hx : SolB n x) (hn : n ≤ 4) : smQ (sumQ x) := by
  rw [← sumQ_eq hx.len]
  exact (one_dots hx hn).ss n (Nat.le_refl _)
/-- the best of the first i -/
def bestT (l : List (List _root_.Rat)) (i : Nat) : Option (List _root_.Rat × _root_.Rat) := (l.take i).foldl bestS none
theorem bestT_zero {l : List (List _root_.Rat)} : bestT l 0 = none := rfl
theorem bestT_succ {l : List (List _root_.Rat)} {i : Nat} (h : i < l.length) : bestT l (i + 1) = bestS (bestT l i) l[i] := by
  rw [bestT, List.take_succ_eq_append_getElem h, List.foldl_append]; rfl
theorem bestT_all {l : List (List _root_.Rat)} : bestT l l.length = bestQ l := by rw [bestT, List.take_of_length_le (Nat.le_refl _)]; rfl
theorem bestT_sum {l : List (List _root_.Rat)} {i : Nat} {p : List _root_.Rat × _root_.Rat} (h : bestT l i = some p) : p.2 = sumQ p.1 ∧ p.1 ∈ l.take i := by
  have := (best_fold (l.take i) none (fun p h => by cases h)).1 p h
  exact ⟨this.1, this.2.1.resolve_right (by simp)⟩
def ptV (b : Option (List _root_.Rat × _root_.Rat)) : D := match b with
  | none => .pl []
  | some p => .pl (p.1.map eQ)
theorem r01_eQ (b : Bool) : eQ (r01 b) = [.int .i64 (if b then 1 else 0), .int .i64 1] := by cases b <;> rfl
/-- a bag of a query -/
theorem bag_facts {q : PQuery} {b : List Int} (hq : queryOk q = true) (hb : bagI q.n b = true) : 1 ≤ b.length ∧ b.length ≤ 5 ∧ 1 ≤ q.atoms.length ∧ q.atoms.length ≤ 4 ∧ covered q.atoms b := by
  simp only [queryOk, Bool.and_eq_true] at hq
  obtain ⟨⟨⟨⟨h1, h2⟩, _⟩, _⟩, h5⟩ := hq
  simp only [bagI, Bool.and_eq_true, decide_eq_true_eq] at hb
  obtain ⟨⟨b1, _⟩, b3⟩ := hb
  simp only [setOf, Bool.and_eq_true, decide_eq_true_eq, List.all_eq_true] at b3
  obtain ⟨b4, b5⟩ := b3
  simp only [inR, Bool.and_eq_true, decide_eq_true_eq] at h1 h2
  have hw : IntKind.i64.wrap (q.n - 1) = q.n - 1 := wrap64_of (by omega) (by omega)
  have hr : ∀ x ∈ b, 0 ≤ x ∧ x < q.n := fun x hx => by
    have := b4 x hx
    simp only [inR, Bool.and_eq_true, decide_eq_true_eq, hw] at this
    omega
  have hlen := nodup_len q.n.toNat b b5 (fun x hx => by have := hr x hx; omega)
  refine ⟨b1, by omega, by omega, by omega, fun v hv => ?_⟩
  have hv2 := hr v hv
  simp only [usesAll, List.all_eq_true, List.mem_range] at h5
  have h6 := h5 v.toNat (by omega)
  rw [show ((v.toNat : Nat) : Int) = v by omega, List.contains_eq_mem, decide_eq_true_eq, varsIn, List.mem_flatMap] at h6
  obtain ⟨a, ha, hva⟩ := h6
  exact ⟨a, ha, hva⟩
theorem bag_lp {q : PQuery} {b : List Int} (hq : queryOk q = true) (hb : bagI q.n b = true) : LPok (covM q.atoms b) q.atoms.length := by
  obtain ⟨h1, h2, h3, h4, h5⟩ := bag_facts hq hb
  exact ⟨covM_01 h5, h3, h4, by simpa [covM] using h1, by simpa [covM] using h2⟩
theorem wid_some {q : PQuery} {b : List Int} (hq : queryOk q = true) (hb : bagI q.n b = true) : ∃ p, minQ (covM q.atoms b) q.atoms.length = some p ∧ p.2 = widQ q.atoms b := by
  obtain ⟨p, h1, h2, _⟩ := wid_min (bag_facts hq hb).2.2.2.2
  exact ⟨p, h1, h2⟩
/-- what BagCoverWidth answers -/
def bcwV (q : PQuery) (b : List Int) : V := if queryOk q && bagI q.n b then .tup [.agg [.d (.int .i64 (widQ q.atoms b).num), .d (.int .i64 ((widQ q.atoms b).den : Int))], .d (.bool true)] else .tup [.agg [.d (.int .i64 0), .d (.int .i64 0)], .d (.bool false)]
end Go.Vs


namespace Go.Vs
/-! ### the width of a decomposition -/
theorem wid_sm {q : PQuery} {b : List Int} (hq : queryOk q = true) (hb : bagI q.n b = true) : smQ (widQ q.atoms b) ∧ 1 ≤ widQ q.atoms b := by
  obtain ⟨p, h1, h2⟩ := wid_some hq hb
  have h := bag_lp hq hb
  obtain ⟨f1, _, _, _, f5⟩ := bag_facts hq hb
  have h3 : p.2 = sumQ p.1 ∧ p.1 ∈ ptsQ (covM q.atoms b) q.atoms.length := by
    have := bestT_sum (l := ptsQ (covM q.atoms b) q.atoms.length) (i := (ptsQ (covM q.atoms b) q.atoms.length).length) (p := p) (by rw [bestT_all]; exact h1)
    rw [List.take_of_length_le (Nat.le_refl _)] at this
    exact this
  refine ⟨?_, wid_one f5 fun e => by rw [e] at f1; simp at f1⟩
  rw [← h2, h3.1]
  exact sum_sm (pts_sol h _ h3.2) h.n4
def mxS (a w : _root_.Rat) : _root_.Rat := if a < w then w else a
/-- the greatest width of the first i bags -/
def mxT (q : PQuery) (l : List (List Int)) (i : Nat) : _root_.Rat := ((l.take i).map (widQ q.atoms)).foldl mxS 0
theorem mxT_zero {q : PQuery} {l : List (List Int)} : mxT q l 0 = 0 := rfl
theorem mxT_succ {q : PQuery} {l : List (List Int)} {i : Nat} (h : i < l.length) : mxT q l (i + 1) = mxS (mxT q l i) (widQ q.atoms l[i]) := by
  rw [mxT, List.take_succ_eq_append_getElem h, List.map_append, List.foldl_append]; rfl
theorem mxT_sm {q : PQuery} {l : List (List Int)} (h : ∀ b ∈ l, smQ (widQ q.atoms b)) : ∀ i, i ≤ l.length → smQ (mxT q l i)
  | 0, _ => sm_zero
  | i + 1, hi => by
    rw [mxT_succ (by omega), mxS]
    split
    · exact h _ (List.getElem_mem _)
    · exact mxT_sm h i (by omega)
def decW (q : PQuery) (d : PDec) : _root_.Rat := mxT q d.bags d.bags.length
theorem dec_facts {q : PQuery} {d : PDec} (h : decOk q d = true) : queryOk q = true ∧ ∀ b ∈ d.bags, bagI q.n b = true := by
  simp only [decOk, Bool.and_eq_true, List.all_eq_true] at h
  exact ⟨h.1.1.1.1.1, h.1.1.2⟩
theorem dec_n1 {q : PQuery} (h : queryOk q = true) : 1 ≤ q.n ∧ q.n ≤ 5 := by
  simp only [queryOk, Bool.and_eq_true] at h
  obtain ⟨⟨⟨⟨h1, _⟩, _⟩, _⟩, _⟩ := h
  simp only [inR, Bool.and_eq_true, decide_eq_true_eq] at h1
  exact h1
def dwV (q : PQuery) (d : PDec) : V := if decOk q d then .tup [.agg [.d (.int .i64 (decW q d).num), .d (.int .i64 ((decW q d).den : Int))], .d (.bool true)] else .tup [.agg [.d (.int .i64 0), .d (.int .i64 0)], .d (.bool false)]
theorem mx_cmp {a w : _root_.Rat} : mxS a w = if 0 < cmpQ w a then w else a := by
  unfold mxS
  by_cases h : a < w
  · rw [if_pos h, if_pos (cmpQ_gt.2 h)]
  · rw [if_neg h, if_neg fun e => h (cmpQ_gt.1 e)]
/-- the answers, split -/
theorem bcw_ex (q : PQuery) (b : List Int) : ∃ (x y : Int) (k : Bool), bcwV q b = .tup [.agg [.d (.int .i64 x), .d (.int .i64 y)], .d (.bool k)] := by
  unfold bcwV; split <;> exact ⟨_, _, _, rfl⟩
theorem dw_ex (q : PQuery) (d : PDec) : ∃ (x y : Int) (k : Bool), dwV q d = .tup [.agg [.d (.int .i64 x), .d (.int .i64 y)], .d (.bool k)] := by
  unfold dwV; split <;> exact ⟨_, _, _, rfl⟩
end Go.Vs

