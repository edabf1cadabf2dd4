/-
  Q2A4: a part of a proof of this seat: the value-level semantics of Go code without maps, its walk rules, the frame of a row, facts of types, schedules, walks, plain lemmas (Pl22 Pl23 Pl24 Pl25 Pl26 Pl27 Pl28 Pl29 Pl30 Pl31 Pl32 Pl33 Pl34 Pl35 Pl36 Pl37 Pl38 Pl39 Pl40 Pl41 Pl42 Pl43 Pl44 Pl45 Pl46 Pl47 Pl48 Pl49 Pl50 Pl51 Pl52 Pl53 Pl54 Pl55 Pl56 Pl58 Pl64 Pl65 Pl66 Pl67 Pl68 Pl69). It holds of every program and state that its hypotheses name.
-/
import Derived.Test.YtmgphabeodaokaaGreatQ2A3
set_option linter.unusedSimpArgs false
set_option linter.unusedVariables false
set_option linter.unnecessarySimpa false
namespace Go.Vs
/-- two ordered lists, and what of them stands in order behind -/
structure MJ (rows a b out : List (List Int)) : Prop where
  sa : Srt a
  sb : Srt b
  so : Srt out
  lt : ∀ y ∈ out, ∀ z, z ∈ a ∨ z ∈ b → cmpL y z < 0
  mem : ∀ x, (x ∈ out ∨ x ∈ a ∨ x ∈ b) ↔ x ∈ rows
  len : out.length + a.length + b.length ≤ rows.length
theorem MJ.start (rows : List (List Int)) (m : Nat) : MJ rows (srtU (rows.take m)) (srtU (rows.drop m)) [] := by
  have h := MI.start rows m
  exact ⟨h.sa, h.sb, h.so, by simp, h.mem, h.len⟩
theorem MJ.swap {rows a b out : List (List Int)} (h : MJ rows a b out) : MJ rows b a out :=
  ⟨h.sb, h.sa, h.so, fun y hy z hz => h.lt y hy z hz.symm, fun x => by rw [← h.mem x, or_comm (a := x ∈ a)], by have := h.len; omega⟩
theorem MJ.done {rows out : List (List Int)} (h : MJ rows [] [] out) : out = srtU rows := srtU_uniq h.so fun x => by rw [← h.mem x]; simp
theorem MJ.left {rows a b out : List (List Int)} {x : List Int} (h : MJ rows (x :: a) b out) (hb : ∀ z ∈ b, cmpL x z < 0) : MJ rows a b (out ++ [x]) := by
  have ha := List.pairwise_cons.1 h.sa
  have hl := h.len
  simp only [List.length_cons] at hl
  refine ⟨ha.2, h.sb, List.pairwise_append.2 ⟨h.so, by simp, fun y hy z hz => ?_⟩, fun y hy z hz => ?_, fun y => ?_, by simp only [List.length_append, List.length_cons, List.length_nil]; omega⟩
  · rw [List.mem_singleton.1 hz]; exact h.lt y hy x (by simp)
  · rcases List.mem_append.1 hy with hy | hy
    · exact h.lt y hy z (hz.imp (fun hz => by simp [hz]) id)
    · rw [List.mem_singleton.1 hy]
      rcases hz with hz | hz
      · exact ha.1 z hz
      · exact hb z hz
  · rw [← h.mem y]
    simp only [List.mem_append, List.mem_cons, List.not_mem_nil, or_false]
    constructor
    · rintro ((h1 | h1) | h1 | h1) <;> simp [h1]
    · rintro (h1 | (h1 | h1) | h1) <;> simp [h1]
theorem MJ.both {rows a b out : List (List Int)} {x : List Int} (h : MJ rows (x :: a) (x :: b) out) : MJ rows a b (out ++ [x]) := by
  have hb := List.pairwise_cons.1 h.sb
  have hl := h.len
  simp only [List.length_cons] at hl
  refine MJ.left (x := x) ⟨h.sa, hb.2, h.so, fun y hy z hz => h.lt y hy z (hz.imp id fun hz => by simp [hz]), fun y => ?_, by simp only [List.length_cons]; omega⟩ hb.1
  rw [← h.mem y]
  simp only [List.mem_cons]
  constructor
  · rintro (h1 | h1 | h1)
    · exact .inl h1
    · exact .inr (.inl h1)
    · exact .inr (.inr (.inr h1))
  · rintro (h1 | h1 | h1 | h1)
    · exact .inl h1
    · exact .inr (.inl h1)
    · exact .inr (.inl (.inl h1))
    · exact .inr (.inr h1)
theorem MJ.less {rows a b out : List (List Int)} {x y : List Int} (h : MJ rows (x :: a) (y :: b) out) (hc : cmpL x y < 0) : ∀ z ∈ y :: b, cmpL x z < 0 := fun z hz => by
  rcases List.mem_cons.1 hz with rfl | hz
  · exact hc
  · exact cmpL_trans hc ((List.pairwise_cons.1 h.sb).1 z hz)
/-- rows of our own, each with blocks of its own -/
structure OwnR (B : Nat) (L : List Ints) : Prop where
  nd : (idsLL (L.map (cS cI))).Nodup
  lo : ∀ g ∈ idsLL (L.map (cS cI)), B ≤ g
  wh : ∀ r ∈ L, whS whI r
  ok : ∀ r ∈ L, okS okI r
theorem ids_perm {L L' : List Ints} (h : L'.Perm L) : (idsLL (L'.map (cS cI))).Perm (idsLL (L.map (cS cI))) := by
  induction h with
  | nil => exact .refl _
  | cons a _ ih => simp only [List.map_cons, idsLL]; exact (List.Perm.refl _).append ih
  | swap a b l => simp only [List.map_cons, idsLL]; exact List.perm_append_comm_assoc _ _ _
  | trans _ _ h1 h2 => exact h1.trans h2
theorem OwnR.perm {B : Nat} {L L' : List Ints} (H : OwnR B L) (h : L'.Perm L) : OwnR B L' :=
  ⟨(ids_perm h).nodup_iff.2 H.nd, fun g hg => H.lo g ((ids_perm h).mem_iff.1 hg), fun r hr => H.wh r (h.mem_iff.1 hr), fun r hr => H.ok r (h.mem_iff.1 hr)⟩
theorem OwnR.sub {B : Nat} {L L' : List Ints} (H : OwnR B L) (h : L'.Sublist L) : OwnR B L' :=
  ⟨H.nd.sublist (ids_sub h), fun g hg => H.lo g ((ids_sub h).subset hg), fun r hr => H.wh r (h.subset hr), fun r hr => H.ok r (h.subset hr)⟩
/-- the merge of two slices of our own -/
structure SrtI (rows : List (List Int)) (B : Nat) (p : List Ints × List Ints × List Ints × Option (TypeId × Nat) × Option (TypeId × Nat)) : Prop where
  mj : MJ rows (p.1.map (plS plI)) (p.2.1.map (plS plI)) (p.2.2.1.map (plS plI))
  own : OwnR B (p.2.2.1 ++ (p.1 ++ p.2.1))
theorem SrtI.left {rows : List (List Int)} {B : Nat} {x : Ints} {a b o : List Ints} {Ta Tb Ta' : Option (TypeId × Nat)} (H : SrtI rows B (x :: a, b, o, Ta, Tb)) (hb : ∀ z ∈ b.map (plS plI), cmpL (plS plI x) z < 0) : SrtI rows B (a, b, o ++ [x], Ta', Tb) := by
  have h1 := H.mj
  simp only [List.map_cons] at h1
  refine ⟨by simp only [List.map_append, List.map_cons, List.map_nil]; exact h1.left hb, ?_⟩
  have h2 := H.own
  simp only at h2 ⊢
  simpa using h2
theorem SrtI.right {rows : List (List Int)} {B : Nat} {y : Ints} {a b o : List Ints} {Ta Tb Tb' : Option (TypeId × Nat)} (H : SrtI rows B (a, y :: b, o, Ta, Tb)) (ha : ∀ z ∈ a.map (plS plI), cmpL (plS plI y) z < 0) : SrtI rows B (a, b, o ++ [y], Ta, Tb') := by
  have h1 := H.mj
  simp only [List.map_cons] at h1
  refine ⟨by simp only [List.map_append, List.map_cons, List.map_nil]; exact (h1.swap.left ha).swap, ?_⟩
  refine H.own.perm ?_
  simp only [List.append_assoc, List.singleton_append]
  exact (List.Perm.refl o).append List.perm_middle.symm
theorem SrtI.both {rows : List (List Int)} {B : Nat} {x y : Ints} {a b o : List Ints} {Ta Tb Ta' Tb' : Option (TypeId × Nat)} (H : SrtI rows B (x :: a, y :: b, o, Ta, Tb)) (e : plS plI x = plS plI y) : SrtI rows B (a, b, o ++ [x], Ta', Tb') := by
  have h1 := H.mj
  simp only [List.map_cons, ← e] at h1
  refine ⟨by simp only [List.map_append, List.map_cons, List.map_nil]; exact h1.both, ?_⟩
  refine H.own.sub ?_
  simp only [List.append_assoc, List.singleton_append]
  exact (List.Sublist.refl o).append ((((List.Sublist.refl a).append (List.sublist_cons_self y b))).cons_cons x)
structure ToN (ar : Int) (l : List (List Int)) (i : Nat) : Prop where
  le : i ≤ l.length
  ok : AllTo (fun r : List Int => decide ((r.length : Int) = ar) && valsOk r) l i
theorem ToN.zero {ar : Int} {l : List (List Int)} : ToN ar l 0 := ⟨by omega, allTo_zero⟩
theorem ToN.step {ar : Int} {l : List (List Int)} {i : Nat} (h : ToN ar l i) (hi : i < l.length) (e : (decide ((l[i].length : Int) = ar) && valsOk l[i]) = true) : ToN ar l (i + 1) := ⟨hi, allTo_step h.ok hi e⟩
theorem ToN.done {ar : Int} {l : List (List Int)} {i : Nat} (h : ToN ar l i) (hi : l.length ≤ i) : (l.all fun r : List Int => decide ((r.length : Int) = ar) && valsOk r) = true := allTo_done h.ok hi
theorem ToN.bad {ar : Int} {l : List (List Int)} {i : Nat} (_ : ToN ar l i) (hi : i < l.length) (e : (decide ((l[i].length : Int) = ar) && valsOk l[i]) = false) : newB ar l = false := by
  have : (l.all fun r : List Int => decide ((r.length : Int) = ar) && valsOk r) = false := all_bad (p := fun r : List Int => decide ((r.length : Int) = ar) && valsOk r) hi e
  rw [newB, this, Bool.false_and]
theorem VC.weak {P : Program} {f : FuncId} {As : List V} {post post' : Nat → V → Prop} (h : VC P f As post) (hp : ∀ n r, post n r → post' n r) : VC P f As post' :=
  ⟨h.1, fun w vals A hLR => (h.2 w vals A hLR).mono fun e w' he => by
    obtain ⟨v, r, h1, h2, h3, h4, h5⟩ := he
    exact ⟨v, r, h1, h2, h3, h4, hp _ _ h5⟩⟩
/-- a call that is handed rows of ours; its result is new -/
theorem call_own {P : Program} {E : Md} {args : List Operand} {f : FuncId} {vs : List V} {dst : Option Tmp} {K : St → Prop} {σ : St} {post : Nat → V → Prop} (hk : keysVL vs ≠ [])
    (hc : ∀ γ n, σ.hs ≤ n → Gam σ γ n → ∃ As, rdL γ σ.m vs = some As ∧ VC P f As post) (hi : ∀ n r, post n r → (∀ i ∈ r.ids, n ≤ i) ∧ r.hp = false)
    (hK : ∀ n hs' r, σ.hs ≤ n → n ≤ hs' → post n r → (∀ i ∈ r.ids, i < hs') → K ({ σ with hs := hs' }.put dst r)) : vcallA P E f args vs dst K σ := by
  refine .inl ?_
  unfold vcall
  split
  · rename_i h; exact (hk h).elim
  · intro γ n a b
    obtain ⟨As, h1, h2⟩ := hc γ n a b
    exact ⟨As, post, h1, h2, fun r hs' c d e => ⟨(hi n r d).1, (hi n r d).2, hK n hs' r a c d e⟩⟩
end Go.Vs


namespace Go.Vs
/-! ### setting a relation -/
theorem bl_irr : ∀ (a : List UInt8), Op.bytesLess a a = false
  | [] => rfl
  | x :: r => by simp [Op.bytesLess, bl_irr r, UInt8.lt_irrefl]
theorem bl_trans : ∀ {a b c : List UInt8}, Op.bytesLess a b = true → Op.bytesLess b c = true → Op.bytesLess a c = true
  | _, [], _, h, _ => by cases ‹List UInt8› <;> simp [Op.bytesLess] at h
  | _, _ :: _, [], _, h => by simp [Op.bytesLess] at h
  | [], _ :: _, _ :: _, _, _ => rfl
  | x :: a, y :: b, z :: c, h1, h2 => by
    simp only [Op.bytesLess, Bool.or_eq_true, Bool.and_eq_true, decide_eq_true_eq, beq_iff_eq] at h1 h2 ⊢
    rcases h1 with h1 | ⟨rfl, h1⟩
    · rcases h2 with h2 | ⟨rfl, h2⟩
      · exact .inl (UInt8.lt_trans h1 h2)
      · exact .inl h1
    · rcases h2 with h2 | ⟨rfl, h2⟩
      · exact .inl h2
      · exact .inr ⟨rfl, bl_trans h1 h2⟩
/-- names in order -/
def SrtT (l : List PTab) : Prop := l.Pairwise fun a b => Op.bytesLess a.name b.name = true
theorem dbOk_srt {l : List PTab} (h : dbOk ⟨l⟩ = true) : SrtT l := by
  simp only [dbOk, Bool.and_eq_true, List.all_eq_true, List.mem_range] at h
  have key : ∀ n i, i + n + 1 < l.length → Op.bytesLess (l.getD i default).name (l.getD (i + n + 1) default).name = true := by
    intro n
    induction n with
    | zero =>
      intro i hi
      have := h.2 (i + 1) (by omega)
      simp only [dbAt, Bool.and_eq_true, Bool.or_eq_true, decide_eq_true_eq] at this
      simpa using this.1
    | succ n ih =>
      intro i hi
      have h1 := ih i (by omega)
      have := h.2 (i + n + 1 + 1) (by omega)
      simp only [dbAt, Bool.and_eq_true, Bool.or_eq_true, decide_eq_true_eq] at this
      have h2 : Op.bytesLess (l.getD (i + n + 1) default).name (l.getD (i + n + 1 + 1) default).name = true := by simpa using this.1
      exact bl_trans h1 h2
  refine List.pairwise_iff_getElem.2 fun i j hi hj hij => ?_
  have := key (j - i - 1) i (by omega)
  rw [show i + (j - i - 1) + 1 = j by omega, getD_el _ hi, getD_el _ hj] at this
  exact this
/-- where the name stands or belongs -/
def setK (l : List PTab) (nm : List UInt8) : Nat := (l.takeWhile fun t => Op.bytesLess t.name nm).length
def hitK (l : List PTab) (nm : List UInt8) : Bool := decide (setK l nm < l.length) && decide ((l.getD (setK l nm) default).name = nm)
def setL (l : List PTab) (nm : List UInt8) (r : PReln) : List PTab := l.take (setK l nm) ++ ⟨nm, r⟩ :: l.drop (if hitK l nm then setK l nm + 1 else setK l nm)
/-- as the reference does it -/
def stS (nm : List UInt8) (r : PReln) (s : List PTab × Bool) (t : PTab) : List PTab × Bool :=
  let s1 := if !s.2 && !(Op.bytesLess t.name nm) then (s.1 ++ [⟨nm, r⟩], true) else s
  if t.name = nm then s1 else (s1.1 ++ [t], s1.2)
def setS (l : List PTab) (nm : List UInt8) (r : PReln) : List PTab :=
  let s := l.foldl (stS nm r) ([], false)
  if s.2 then s.1 else s.1 ++ [⟨nm, r⟩]
theorem stS_after {nm : List UInt8} {r : PReln} : ∀ (l : List PTab) (o : List PTab), (∀ t ∈ l, t.name ≠ nm) → l.foldl (stS nm r) (o, true) = (o ++ l, true)
  | [], o, _ => by simp
  | t :: l, o, h => by
    have h1 := h t (by simp)
    rw [List.foldl_cons]
    have : stS nm r (o, true) t = (o ++ [t], true) := by simp [stS, h1]
    rw [this, stS_after l _ fun u hu => h u (by simp [hu])]
    simp
theorem setS_eq {nm : List UInt8} {r : PReln} : ∀ (l : List PTab) (o : List PTab), SrtT l →
    (let s := l.foldl (stS nm r) (o, false); if s.2 then s.1 else s.1 ++ [⟨nm, r⟩]) = o ++ setL l nm r
  | [], o, _ => by simp [setL, setK, hitK]
  | t :: l, o, hs => by
    have hp := List.pairwise_cons.1 hs
    rw [List.foldl_cons]
    cases hb : Op.bytesLess t.name nm
    · have hrest : ∀ u ∈ l, u.name ≠ nm := fun u hu e => by
        have h1 := hp.1 u hu
        rw [e, hb] at h1; cases h1
      have hk : setK (t :: l) nm = 0 := by simp [setK, hb]
      by_cases he : t.name = nm
      · have e1 : stS nm r (o, false) t = (o ++ [⟨nm, r⟩], true) := by simp [stS, hb, he, bl_irr]
        rw [e1, stS_after l _ hrest]
        simp [setL, hk, hitK, he]
      · have e1 : stS nm r (o, false) t = (o ++ [⟨nm, r⟩] ++ [t], true) := by simp [stS, hb, he]
        rw [e1, stS_after l _ hrest]
        simp [setL, hk, hitK, he]
    · have he : ¬ t.name = nm := fun e => by rw [e, bl_irr] at hb; cases hb
      have e1 : stS nm r (o, false) t = (o ++ [t], false) := by simp [stS, hb, he]
      rw [e1, setS_eq l _ hp.2]
      have hk : setK (t :: l) nm = setK l nm + 1 := by simp [setK, hb]
      have hh : hitK (t :: l) nm = hitK l nm := by
        simp only [hitK, hk, List.length_cons, List.getD_cons_succ]
        congr 2
        apply propext; omega
      simp only [setL, hk, hh, List.take_succ_cons, List.append_assoc, List.cons_append, List.nil_append]
      cases hitK l nm <;> simp
theorem setS_L {l : List PTab} {nm : List UInt8} {r : PReln} (h : dbOk ⟨l⟩ = true) : setS l nm r = setL l nm r := by
  have := setS_eq (nm := nm) (r := r) l [] (dbOk_srt h)
  simpa [setS] using this
def setB (d : PDb) (nm : List UInt8) (r : PReln) : Bool := dbOk d && dbOk ⟨setL d.tabs nm r⟩
def setP (d : PDb) (nm : List UInt8) (r : PReln) : PDb := if setB d nm r then ⟨setL d.tabs nm r⟩ else d
end Go.Vs
namespace Go.Vs
theorem stS_len (nm : List UInt8) (r : PReln) (s : List PTab × Bool) (t : PTab) : (stS nm r s t).1.length ≤ s.1.length + 2 := by
  simp only [stS]
  repeat' split
  all_goals simp
theorem foldS_len (nm : List UInt8) (r : PReln) : ∀ (l : List PTab) (s : List PTab × Bool), (l.foldl (stS nm r) s).1.length ≤ s.1.length + 2 * l.length
  | [], s => by simp
  | t :: l, s => by
    have h1 := foldS_len nm r l (stS nm r s t)
    have h2 := stS_len nm r s t
    simp only [List.foldl_cons, List.length_cons]; omega
theorem foldS_mem (nm : List UInt8) (r : PReln) : ∀ (l : List PTab) (s : List PTab × Bool) (t : PTab), t ∈ (l.foldl (stS nm r) s).1 → t ∈ s.1 ∨ t ∈ l ∨ t = ⟨nm, r⟩
  | [], s, t, h => .inl h
  | u :: l, s, t, h => by
    rcases foldS_mem nm r l (stS nm r s u) t h with h | h | h
    · have : t ∈ s.1 ∨ t = u ∨ t = ⟨nm, r⟩ := by
        obtain ⟨so, sb⟩ := s
        have key : ∀ o' : List PTab × Bool, (t ∈ o'.1 → t ∈ so ∨ t = u ∨ t = ⟨nm, r⟩) → t ∈ (if u.name = nm then o' else (o'.1 ++ [u], o'.2)).1 → t ∈ so ∨ t = u ∨ t = ⟨nm, r⟩ := fun o' h1 h2 => by
          split at h2
          · exact h1 h2
          · rcases List.mem_append.1 h2 with h2 | h2
            · exact h1 h2
            · exact .inr (.inl (List.mem_singleton.1 h2))
        refine key _ (fun h1 => ?_) h
        split at h1
        · rcases List.mem_append.1 h1 with h2 | h2
          · exact .inl h2
          · exact .inr (.inr (List.mem_singleton.1 h2))
        · exact .inl h1
      rcases this with h | h | h
      · exact .inl h
      · exact .inr (.inl (by simp [h]))
      · exact .inr (.inr h)
    · exact .inr (.inl (by simp [h]))
    · exact .inr (.inr h)
theorem setS_mem {l : List PTab} {nm : List UInt8} {r : PReln} {t : PTab} (h : t ∈ setS l nm r) : t ∈ l ∨ t = ⟨nm, r⟩ := by
  simp only [setS] at h
  have key := foldS_mem nm r l ([], false) t
  split at h
  · simpa using key h
  · rcases List.mem_append.1 h with h | h
    · simpa using key h
    · exact .inr (List.mem_singleton.1 h)
structure StI (nm : List UInt8) (r : PReln) (l : List PTab) (p : Nat × List PTab × Bool) : Prop where
  le : p.1 ≤ l.length
  eq : (l.take p.1).foldl (stS nm r) ([], false) = p.2
theorem StI.zero {nm : List UInt8} {r : PReln} {l : List PTab} : StI nm r l (0, [], false) := ⟨by simp, rfl⟩
theorem StI.step {nm : List UInt8} {r : PReln} {l : List PTab} {i : Nat} {s s' : List PTab × Bool} (h : StI nm r l (i, s)) (hi : i < l.length) (e : stS nm r s l[i] = s') : StI nm r l (i + 1, s') := by
  refine ⟨hi, ?_⟩
  have := h.eq
  simp only at this ⊢
  rw [List.take_succ_eq_append_getElem hi, List.foldl_append, this, List.foldl_cons, List.foldl_nil, e]
theorem StI.len {nm : List UInt8} {r : PReln} {l : List PTab} {i : Nat} {s : List PTab × Bool} (h : StI nm r l (i, s)) : s.1.length ≤ 2 * i := by
  have h1 := foldS_len nm r (l.take i) ([], false)
  have h2 := h.eq
  simp only at h2
  rw [h2] at h1
  simp only [List.length_nil, List.length_take] at h1
  omega
theorem StI.done {nm : List UInt8} {r : PReln} {l : List PTab} {i : Nat} {s : List PTab × Bool} (h : StI nm r l (i, s)) (hi : l.length ≤ i) : setS l nm r = if s.2 then s.1 else s.1 ++ [⟨nm, r⟩] := by
  have h2 := h.eq
  simp only [List.take_of_length_le hi] at h2
  simp only [setS, h2]
end Go.Vs


namespace Go.Vs
theorem setK_le (l : List PTab) (nm : List UInt8) : setK l nm ≤ l.length := by
  unfold setK; exact (List.takeWhile_sublist _).length_le
theorem setK_lt : ∀ {l : List PTab} {nm : List UInt8} {i : Nat} (hi : i < l.length), i < setK l nm → Op.bytesLess l[i].name nm = true
  | t :: l, nm, 0, _, h => by
    cases hb : Op.bytesLess t.name nm
    · simp [setK, hb] at h
    · exact hb
  | t :: l, nm, i + 1, hi, h => by
    cases hb : Op.bytesLess t.name nm
    · simp [setK, hb] at h
    · simp only [List.getElem_cons_succ]
      refine setK_lt (by simpa using hi) ?_
      have hk : setK (t :: l) nm = setK l nm + 1 := by simp [setK, hb]
      omega
theorem setK_at : ∀ {l : List PTab} {nm : List UInt8} (hi : setK l nm < l.length), Op.bytesLess l[setK l nm].name nm = false
  | t :: l, nm, h => by
    cases hb : Op.bytesLess t.name nm
    · have hk : setK (t :: l) nm = 0 := by simp [setK, hb]
      simp only [hk, List.getElem_cons_zero]; exact hb
    · have hk : setK (t :: l) nm = setK l nm + 1 := by simp [setK, hb]
      simp only [hk, List.getElem_cons_succ]
      exact setK_at (by simp only [hk, List.length_cons] at h; omega)
section
variable {α : Type} {c : α → List D} {wh : α → Prop}
theorem good_put {xs : List α} {y : α} {k j n m : Nat} (hk : k ≤ j) (h1 : (idsLL (xs.map c)).Nodup) (h2 : ∀ g ∈ idsLL (xs.map c), n ≤ g ∧ g < m) (h3 : ∀ a ∈ xs, wh a) (G : Good (c y) (wh y) m) (hn : n ≤ m) :
    ((idsLL ((xs.take k ++ y :: xs.drop j).map c)).Nodup ∧ ∀ g ∈ idsLL ((xs.take k ++ y :: xs.drop j).map c), n ≤ g) ∧ (∀ a ∈ xs.take k ++ y :: xs.drop j, wh a) := by
  have hs : (xs.take k ++ xs.drop j).Sublist xs := by
    have h := List.Sublist.append (List.Sublist.refl (xs.take k)) (List.drop_sublist_drop_left xs hk)
    rwa [List.take_append_drop] at h
  have hsi := ids_sub (c := c) hs
  have hp : (idsLL ((xs.take k ++ y :: xs.drop j).map c)).Perm (idsL (c y) ++ idsLL ((xs.take k ++ xs.drop j).map c)) := by
    simp only [List.map_append, List.map_cons, idsLL_append, idsLL]
    exact List.perm_append_comm_assoc _ _ _
  refine ⟨⟨hp.nodup_iff.2 (List.nodup_append.2 ⟨G.nd, h1.sublist hsi, fun a ha b hb e => ?_⟩), fun g hg => ?_⟩, fun a ha => ?_⟩
  · have := G.lo a ha
    have := (h2 b (hsi.subset hb)).2
    omega
  · rcases List.mem_append.1 (hp.mem_iff.1 hg) with h | h
    · have := G.lo g h; omega
    · exact (h2 g (hsi.subset h)).1
  · rcases List.mem_append.1 ha with h | h
    · exact h3 a (List.mem_of_mem_take h)
    · rcases List.mem_cons.1 h with rfl | h
      · exact G.wh
      · exact h3 a (List.mem_of_mem_drop h)
end
theorem map_put {α β : Type} (f : α → β) (xs : List α) (y : α) (k j : Nat) : (xs.take k ++ y :: xs.drop j).map f = (xs.map f).take k ++ f y :: (xs.map f).drop j := by
  simp [List.map_take, List.map_drop]
structure KTo (l : List PTab) (nm : List UInt8) (i : Nat) : Prop where
  le : i ≤ setK l nm
theorem KTo.zero {l : List PTab} {nm : List UInt8} : KTo l nm 0 := ⟨by omega⟩
end Go.Vs
namespace Go.Vs
theorem okDb_st {d : Db} (h : okDb d) : ∀ t ∈ (plDb d).tabs, t.name.length ≤ maxLen := fun t ht => by
  obtain ⟨⟨id, T, xs⟩⟩ := d
  simp only [plDb, plS, List.mem_map] at ht
  obtain ⟨a, ha, rfl⟩ := ht
  exact (h.2 a ha).1
end Go.Vs


namespace Go.Vs
/-! ### applying a delta -/
def difD (d : PDb) (x : PDelta) : PReln := difR (lkR d x.name) (norP d x).del
def appU (d : PDb) (x : PDelta) : PReln := uniR (difD d x) (norP d x).ins
def appG (d : PDb) (x : PDelta) : Bool := fitB d x && uniB (difD d x) (norP d x).ins
def appB (d : PDb) (x : PDelta) : Bool := appG d x && setB d x.name (appU d x)
def appP (d : PDb) (x : PDelta) : PDb := if appG d x then setP d x.name (appU d x) else d
theorem uniR_ok {a b : PReln} (h : uniB a b = true) : szRel (uniR a b) := by
  simp only [uniB, Bool.and_eq_true] at h
  have h2 := h.2
  simp only [newB, Bool.and_eq_true] at h2
  simp only [uniR, h.1, if_true, newR, h.2]
  exact szRel_ok h2.2
end Go.Vs


namespace Go.Vs
end Go.Vs


namespace Go.Vs
/-! ### batches -/
def runB : PDb → List PDelta → Nat → Option PDb × Nat
  | c, [], k => (some c, k)
  | c, x :: r, k => if appB c x then runB (appP c x) r (k + 1) else (none, k)
def batG (d : PDb) (xs : List PDelta) : Bool := decide (xs.length ≤ 5) && dbOk d
def batT (d : PDb) (xs : List PDelta) : PDb × Nat × Bool :=
  if batG d xs then match runB d xs 0 with
    | (some c, k) => (c, k, true)
    | (none, k) => (d, k, false)
  else (d, 0, false)
def batP (d : PDb) (xs : List PDelta) : PDb := (batT d xs).1
def batN (d : PDb) (xs : List PDelta) : Int := (batT d xs).2.1
def batB (d : PDb) (xs : List PDelta) : Bool := (batT d xs).2.2
theorem app_ok {d : PDb} {x : PDelta} (h : appB d x = true) : dbOk (appP d x) = true := by
  simp only [appB, Bool.and_eq_true] at h
  have h2 := h.2
  simp only [setB, Bool.and_eq_true] at h2
  simp only [appP, h.1, if_true, setP, h.2]
  exact h2.2
theorem dbOk_st {d : PDb} (h : dbOk d = true) : ∀ t ∈ d.tabs, t.name.length ≤ maxLen := fun t ht => by
  have h1 := dbOk_tab h ht
  simp only [tabOk, nameOk, Bool.and_eq_true, decide_eq_true_eq] at h1
  have := h1.1.1.1.1.2
  simp only [maxLen]; omega
structure RunI (d : PDb) (xs : List PDelta) (i : Nat) (c : PDb) : Prop where
  le : i ≤ xs.length
  ok : dbOk c = true
  eq : runB c (xs.drop i) i = runB d xs 0
theorem RunI.zero {d : PDb} {xs : List PDelta} (h : dbOk d = true) : RunI d xs 0 d := ⟨by omega, h, rfl⟩
theorem RunI.step {d c : PDb} {xs : List PDelta} {i : Nat} (h : RunI d xs i c) (hi : i < xs.length) (e : appB c xs[i] = true) : RunI d xs (i + 1) (appP c xs[i]) := by
  refine ⟨hi, app_ok e, ?_⟩
  have := h.eq
  rwa [List.drop_eq_getElem_cons hi, runB, e, if_pos rfl] at this
theorem RunI.bad {d c : PDb} {xs : List PDelta} {i : Nat} (h : RunI d xs i c) (hi : i < xs.length) (e : appB c xs[i] = false) : runB d xs 0 = (none, i) := by
  have := h.eq
  rw [List.drop_eq_getElem_cons hi, runB, e] at this
  exact this.symm
theorem RunI.done {d c : PDb} {xs : List PDelta} {i : Nat} (h : RunI d xs i c) (hi : xs.length ≤ i) : runB d xs 0 = (some c, i) := by
  have := h.eq
  rw [List.drop_of_length_le hi, runB] at this
  exact this.symm
theorem bat_no {d : PDb} {xs : List PDelta} (h : batG d xs = false) : batT d xs = (d, 0, false) := by simp [batT, h]
theorem bat_bad {d : PDb} {xs : List PDelta} {i : Nat} (h : batG d xs = true) (e : runB d xs 0 = (none, i)) : batT d xs = (d, i, false) := by simp [batT, h, e]
theorem bat_done {d c : PDb} {xs : List PDelta} {i : Nat} (h : batG d xs = true) (e : runB d xs 0 = (some c, i)) : batT d xs = (c, i, true) := by simp [batT, h, e]
theorem run_ok : ∀ (xs : List PDelta) (d : PDb) (k : Nat) (c : PDb) (j : Nat), dbOk d = true → runB d xs k = (some c, j) → dbOk c = true
  | [], d, k, c, j, h, e => by simp only [runB, Prod.mk.injEq, Option.some.injEq] at e; rw [← e.1]; exact h
  | x :: r, d, k, c, j, h, e => by
    rw [runB] at e
    split at e
    · rename_i h1; exact run_ok r _ _ c j (app_ok h1) e
    · simp at e
end Go.Vs
namespace Go.Vs
structure RunT (d : PDb) (xs : List PDelta) (B : Nat) (p : Nat × Db) : Prop where
  run : RunI d xs p.1 (plDb p.2)
  ok : okDb p.2
  good : Good (cDb p.2) (whDb p.2) B
end Go.Vs


namespace Go.Vs
/-! ### inverting a batch -/
def invD (x : PDelta) : PDelta := ⟨x.name, x.del, x.ins⟩
def invL : PDb → List PDelta → List PDelta → List PDelta
  | _, [], acc => acc
  | c, x :: r, acc => invL (appP c x) r (invD (norP c x) :: acc)
def invP (d : PDb) (xs : List PDelta) : List PDelta := if batB d xs then invL d xs [] else []
theorem batB_run {d : PDb} {xs : List PDelta} (h : batB d xs = true) : batG d xs = true ∧ ∃ c k, runB d xs 0 = (some c, k) := by
  unfold batB batT at h
  split at h
  · rename_i hg
    refine ⟨hg, ?_⟩
    split at h
    · rename_i c k e; exact ⟨c, k, e⟩
    · simp at h
  · simp at h
structure InvI (d : PDb) (xs : List PDelta) (i : Nat) (c : PDb) (acc : List PDelta) : Prop where
  run : RunI d xs i c
  eq : invL c (xs.drop i) acc = invL d xs []
  len : acc.length = i
theorem InvI.zero {d : PDb} {xs : List PDelta} (h : batB d xs = true) : InvI d xs 0 d [] := by
  have h1 := (batB_run h).1
  simp only [batG, Bool.and_eq_true] at h1
  exact ⟨.zero h1.2, rfl, rfl⟩
theorem InvI.ap {d c : PDb} {xs acc : List PDelta} {i : Nat} (hb : batB d xs = true) (h : InvI d xs i c acc) (hi : i < xs.length) : appB c xs[i] = true := by
  cases e : appB c xs[i]
  · have h1 := h.run.bad hi e
    obtain ⟨_, c', k, h2⟩ := batB_run hb
    rw [h1] at h2
    simp at h2
  · rfl
theorem InvI.step {d c : PDb} {xs acc : List PDelta} {i : Nat} (hb : batB d xs = true) (h : InvI d xs i c acc) (hi : i < xs.length) : InvI d xs (i + 1) (appP c xs[i]) (invD (norP c xs[i]) :: acc) := by
  refine ⟨h.run.step hi (h.ap hb hi), ?_, by simp [h.len]⟩
  have := h.eq
  rwa [List.drop_eq_getElem_cons hi, invL] at this
theorem InvI.done {d c : PDb} {xs acc : List PDelta} {i : Nat} (hb : batB d xs = true) (h : InvI d xs i c acc) (hi : xs.length ≤ i) : acc = invP d xs := by
  have := h.eq
  rw [List.drop_of_length_le hi, invL] at this
  rw [invP, if_pos hb, this]
end Go.Vs
namespace Go.Vs
theorem good_nilS {α : Type} {c : α → List D} {wh : α → Prop} (n : Nat) : Good (cS c nilS) (whS wh nilS) n :=
  ⟨by simp [cS, nilS, dSl, idsL, D.ids, idsLL], by simp [cS, nilS, dSl, idsL, D.ids, idsLL], ⟨fun _ => rfl, fun h => absurd rfl h⟩, by simp [nilS]⟩
end Go.Vs
namespace Go.Vs
theorem rpL_cons {a : V} {l : List V} {x : List V} (h : rpL (fun _ => none) (a :: l) = some x) : ∃ y z, x = y :: z ∧ rp (fun _ => none) a = some y ∧ rpL (fun _ => none) l = some z := by
  simp only [rpL] at h
  cases h1 : rp (fun _ => none) a <;> cases h2 : rpL (fun _ => none) l <;> simp [h1, h2] at h
  exact ⟨_, _, h.symm, rfl, rfl⟩
theorem okDeltas_st {s : Sl Delta} (h : okS okDelta s) : ∀ x ∈ plS plDelta s, x.name.length ≤ maxLen := fun x hx => by
  obtain ⟨id, T, xs⟩ := s
  simp only [plS, List.mem_map] at hx
  obtain ⟨a, ha, rfl⟩ := hx
  exact (h.2 a ha).1
end Go.Vs


namespace Go.Vs
/-! ### cutting texts -/
/-- the pieces of a text between signs; acc: the piece under way -/
def cutA (c : UInt8) (acc : List UInt8) : List UInt8 → List (List UInt8)
  | [] => [acc]
  | x :: r => if x = c then acc :: cutA c [] r else cutA c (acc ++ [x]) r
def cutB (c : UInt8) (s : List UInt8) : List (List UInt8) := cutA c [] s
theorem cutA_len (c : UInt8) : ∀ (s acc : List UInt8), (cutA c acc s).length ≤ s.length + 1 ∧ cutA c acc s ≠ []
  | [], acc => by simp [cutA]
  | x :: r, acc => by
    rw [cutA]
    split
    · have := cutA_len c r []; simp; exact this.1
    · have := cutA_len c r (acc ++ [x]); simp only [List.length_cons]; exact ⟨by omega, this.2⟩
theorem cutB_len (c : UInt8) (s : List UInt8) : (cutB c s).length ≤ s.length + 1 := (cutA_len c s []).1
/-- all pieces are no longer than the text -/
theorem cutA_sum (c : UInt8) : ∀ (s acc : List UInt8), ((cutA c acc s).map List.length).sum ≤ acc.length + s.length
  | [], acc => by simp [cutA]
  | x :: r, acc => by
    rw [cutA]
    split
    · have := cutA_sum c r []; simp only [List.map_cons, List.sum_cons, List.length_cons, List.length_nil] at this ⊢; omega
    · have := cutA_sum c r (acc ++ [x]); simp only [List.length_append, List.length_cons, List.length_nil] at this ⊢; omega
theorem sum_mem : ∀ {l : List Nat} {x : Nat}, x ∈ l → x ≤ l.sum
  | a :: r, x, h => by
    simp only [List.sum_cons]
    rcases List.mem_cons.1 h with rfl | h
    · omega
    · have := sum_mem h; omega
theorem cutB_mem {c : UInt8} {s x : List UInt8} (h : x ∈ cutB c s) : x.length ≤ s.length := by
  have h1 := cutA_sum c s []
  have h2 : x.length ≤ ((cutB c s).map List.length).sum := sum_mem (List.mem_map.2 ⟨x, h, rfl⟩)
  simp only [cutB, List.length_nil] at h1 h2; omega
/-- the place in a walk over a text: out the pieces so far, from the start of the piece under way -/
structure CutI (c : UInt8) (s : List UInt8) (p : Nat × Nat × List (List UInt8)) : Prop where
  fr : p.1 ≤ p.2.1
  le : p.2.1 ≤ s.length
  eq : cutB c s = p.2.2 ++ cutA c ((s.drop p.1).take (p.2.1 - p.1)) (s.drop p.2.1)
  len : p.2.2.length ≤ p.2.1
theorem CutI.zero {c : UInt8} {s : List UInt8} : CutI c s (0, 0, []) := ⟨by simp, by simp, by simp [cutB], by simp⟩
theorem CutI.hit {c : UInt8} {s : List UInt8} {f i : Nat} {out : List (List UInt8)} (h : CutI c s (f, i, out)) (hi : i < s.length) (e : s[i] = c) : CutI c s (i + 1, i + 1, out ++ [(s.drop f).take (i - f)]) := by
  refine ⟨Nat.le_refl _, hi, ?_, ?_⟩
  · have := h.eq
    simp only at this ⊢
    rw [this, List.drop_eq_getElem_cons hi, cutA, if_pos e]
    simp
  · have := h.len; simp only [List.length_append, List.length_singleton] at this ⊢; omega
theorem CutI.miss {c : UInt8} {s : List UInt8} {f i : Nat} {out : List (List UInt8)} (h : CutI c s (f, i, out)) (hi : i < s.length) (e : s[i] ≠ c) : CutI c s (f, i + 1, out) := by
  have hf := h.fr
  simp only at hf
  refine ⟨by simp only; omega, hi, ?_, ?_⟩
  · have := h.eq
    simp only at this ⊢
    rw [this, List.drop_eq_getElem_cons hi, cutA, if_neg e]
    have : (s.drop f).take (i + 1 - f) = (s.drop f).take (i - f) ++ [s[i]] := by
      rw [show i + 1 - f = (i - f) + 1 by omega, List.take_succ_eq_append_getElem (by rw [List.length_drop]; omega), List.getElem_drop]
      simp only [show f + (i - f) = i by omega]
    rw [this]
  · have := h.len; simp only at this ⊢; omega
theorem CutI.done {c : UInt8} {s : List UInt8} {f i : Nat} {out : List (List UInt8)} (h : CutI c s (f, i, out)) (hi : s.length ≤ i) : out ++ [(s.drop f).take (i - f)] = cutB c s ∧ (s.drop f).take (i - f) = s.drop f ∧ i = s.length := by
  have hl := h.le
  have := h.eq
  simp only at hl this
  rw [List.drop_of_length_le hi, cutA] at this
  exact ⟨this.symm, List.take_of_length_le (by rw [List.length_drop]; omega), by omega⟩
/-! ### numbers' texts -/
def isDg (b : UInt8) : Bool := decide (48 ≤ b.toNat) && decide (b.toNat ≤ 57)
def digF (p : Int × Nat) (b : UInt8) : Int × Nat := if isDg b then (p.1 * 10 + ((b.toNat : Int) - 48), p.2 + 1) else p
def digs (s : List UInt8) : Int × Nat := s.foldl digF (0, 0)
def prsV (s : List UInt8) : Int := if s.head? = some 45 then -(digs (s.take 11)).1 else (digs (s.take 11)).1
def prsZ (s : List UInt8) : Option Int := if (digs (s.take 11)).2 ≤ 9 ∧ s.length ≤ 10 ∧ decZ (prsV s) = s then some (prsV s) else none
def prsN (s : List UInt8) : Int := (prsZ s).getD 0
end Go.Vs
namespace Go.Vs
end Go.Vs


namespace Go.Vs
/-! ### relations' texts read -/
def inTx (x : List UInt8) : List UInt8 := (x.drop 1).take (x.length - 2)
def rowTx (x : List UInt8) : List Int := if 2 < x.length then (cutB 44 (inTx x)).map prsN else []
def preRel (s : List UInt8) : PReln :=
  ⟨prsN ((cutB 58 s).getD 0 []), if (cutB 58 s).length = 2 ∧ (cutB 58 s).getD 1 [] ≠ [] then (cutB 32 ((cutB 58 s).getD 1 [])).map rowTx else []⟩
def prsB (s : List UInt8) : Bool := decide (fmtRel (preRel s) = s) && decide (s ≠ [])
def prsR (s : List UInt8) : PReln := if prsB s then preRel s else ⟨0, []⟩
end Go.Vs


namespace Go.Vs
/-! ### disks -/
def rdF (k : List PFile) (nm : List UInt8) : Option (List UInt8) := (k.find? fun f => decide (f.name = nm)).map (·.data)
def rdD (k : List PFile) (nm : List UInt8) : List UInt8 := (rdF k nm).getD []
def rdB (k : List PFile) (nm : List UInt8) : Bool := (rdF k nm).isSome
structure RdI (k : List PFile) (nm : List UInt8) (i : Nat) : Prop where
  le : i ≤ k.length
  eq : rdF (k.drop i) nm = rdF k nm
theorem RdI.zero {k : List PFile} {nm : List UInt8} : RdI k nm 0 := ⟨by omega, rfl⟩
theorem RdI.miss {k : List PFile} {nm : List UInt8} {i : Nat} (h : RdI k nm i) (hi : i < k.length) (e : k[i].name ≠ nm) : RdI k nm (i + 1) := by
  refine ⟨hi, ?_⟩
  rw [← h.eq, List.drop_eq_getElem_cons hi, rdF, rdF, List.find?_cons_of_neg (by simpa using e)]
theorem RdI.hit {k : List PFile} {nm : List UInt8} {i : Nat} (h : RdI k nm i) (hi : i < k.length) (e : k[i].name = nm) : rdF k nm = some k[i].data := by
  rw [← h.eq, List.drop_eq_getElem_cons hi, rdF, List.find?_cons_of_pos (by simpa using e)]; rfl
theorem RdI.done {k : List PFile} {nm : List UInt8} {i : Nat} (h : RdI k nm i) (hi : k.length ≤ i) : rdF k nm = none := by
  rw [← h.eq, List.drop_of_length_le hi]; rfl
/-- the disk's names ascend -/
def dskAt (l : List PFile) (j : Nat) : Bool := decide (j = 0) || Op.bytesLess (l.getD (j - 1) default).name (l.getD j default).name
def dskOk (l : List PFile) : Bool := (List.range l.length).all (dskAt l)
structure DskI (l : List PFile) (i : Nat) : Prop where
  lo : 1 ≤ i
  ok : ∀ j, j < i → j < l.length → dskAt l j = true
theorem DskI.one {l : List PFile} : DskI l 1 := ⟨by omega, fun j h1 _ => by simp [dskAt, show j = 0 by omega]⟩
theorem DskI.step {l : List PFile} {i : Nat} (h : DskI l i) (e : dskAt l i = true) : DskI l (i + 1) :=
  ⟨by omega, fun j h1 h2 => by
    by_cases hj : j < i
    · exact h.ok j hj h2
    · rw [show j = i by omega]; exact e⟩
theorem DskI.done {l : List PFile} {i : Nat} (h : DskI l i) (hi : l.length ≤ i) : dskOk l = true := by
  simp only [dskOk, List.all_eq_true, List.mem_range]
  exact fun j hj => h.ok j (by omega) hj
/-! ### loading a version -/
def hdNm (v : Int) : List UInt8 := [109] ++ decZ v
def lnNm (ln : List UInt8) : List UInt8 := (cutB 61 ln).getD 0 []
def tabO (k : List PFile) (v : Int) (ln : List UInt8) : Option PTab := if rdB k (runNm v (lnNm ln)) && prsB (rdD k (runNm v (lnNm ln))) then some ⟨lnNm ln, prsR (rdD k (runNm v (lnNm ln)))⟩ else none
def lnCk (ln s : List UInt8) : Bool := decide ((cutB 61 ln).length = 2) && decide (decZ (ckS s) = (cutB 61 ln).getD 1 [])
def tabS (k : List PFile) (v : Int) (ln : List UInt8) : Option PTab := if lnCk ln (rdD k (runNm v (lnNm ln))) then tabO k v ln else none
def tabsM (f : List UInt8 → Option PTab) : List (List UInt8) → Option (List PTab)
  | [] => some []
  | x :: r => match f x with
    | none => none
    | some t => (tabsM f r).map (t :: ·)
structure TbI (f : List UInt8 → Option PTab) (ls : List (List UInt8)) (i : Nat) (acc : List PTab) : Prop where
  le : i ≤ ls.length
  eq : tabsM f ls = (tabsM f (ls.drop i)).map (acc ++ ·)
  len : acc.length = i
theorem TbI.zero {f : List UInt8 → Option PTab} {ls : List (List UInt8)} : TbI f ls 0 [] := ⟨by omega, by simp, rfl⟩
theorem TbI.step {f : List UInt8 → Option PTab} {ls : List (List UInt8)} {i : Nat} {acc : List PTab} (h : TbI f ls i acc) (hi : i < ls.length) {t : PTab} (e : f ls[i] = some t) : TbI f ls (i + 1) (acc ++ [t]) := by
  refine ⟨hi, ?_, by simp [h.len]⟩
  rw [h.eq, List.drop_eq_getElem_cons hi, tabsM, e]
  simp only [Option.map_map, Function.comp_def, List.append_assoc, List.singleton_append]
theorem TbI.bad {f : List UInt8 → Option PTab} {ls : List (List UInt8)} {i : Nat} {acc : List PTab} (h : TbI f ls i acc) (hi : i < ls.length) (e : f ls[i] = none) : tabsM f ls = none := by
  rw [h.eq, List.drop_eq_getElem_cons hi, tabsM, e]; rfl
theorem TbI.done {f : List UInt8 → Option PTab} {ls : List (List UInt8)} {i : Nat} {acc : List PTab} (h : TbI f ls i acc) (hi : ls.length ≤ i) : tabsM f ls = some acc := by
  rw [h.eq, List.drop_of_length_le hi, tabsM]; simp
/-- the manifest's lines but for the last -/
def lns (h : List UInt8) : List (List UInt8) := (cutB 10 h).dropLast
def headEq (ts : List PTab) (h : List UInt8) : Bool := decide (headTx ts ++ decZ (ckS (headTx ts)) = h)
def loadS (k : List PFile) (v : Int) : Option PDb :=
  if rdB k (hdNm v) then match tabsM (tabS k v) (lns (rdD k (hdNm v))) with
    | none => none
    | some ts => if verB ⟨ts⟩ v && headEq ts (rdD k (hdNm v)) then some ⟨ts⟩ else none
  else none
/-! ### the newest version -/
def newF (k : List PFile) : Nat → Nat
  | 0 => 0
  | n + 1 => if (loadS k ((n + 1 : Nat) : Int)).isSome then n + 1 else newF k n
def newV (k : List PFile) : Nat := newF k 99
def recP (k : List PFile) : PDb := if newV k = 0 then ⟨[]⟩ else (loadS k (newV k)).getD ⟨[]⟩
def recB (k : List PFile) : Bool := decide (newV k ≠ 0)
structure NewI (k : List PFile) (v : Nat) : Prop where
  le : v ≤ 99
  eq : newF k v = newV k
theorem NewI.hit {k : List PFile} {v : Nat} (h : NewI k (v + 1)) {d : PDb} (e : loadS k ((v + 1 : Nat) : Int) = some d) : newV k = v + 1 ∧ recP k = d ∧ recB k = true := by
  have h1 : newV k = v + 1 := by rw [← h.eq, newF, e]; rfl
  exact ⟨h1, by rw [recP, if_neg (by omega), h1, e]; rfl, by simp [recB, h1]⟩
theorem NewI.zero {k : List PFile} (h : NewI k 0) : newV k = 0 ∧ recP k = ⟨[]⟩ ∧ recB k = false := by
  have h1 : newV k = 0 := by rw [← h.eq]; rfl
  exact ⟨h1, by rw [recP, if_pos h1], by simp [recB, h1]⟩
/-! ### writing -/
def wrA (n : PFile) : Bool → List PFile → List PFile
  | done, [] => if done then [] else [n]
  | done, f :: r => (if !done && !Op.bytesLess f.name n.name then [n] else []) ++ (if f.name = n.name then [] else [f]) ++ wrA n (done || !Op.bytesLess f.name n.name) r
def wrF (k : List PFile) (n : PFile) : List PFile := wrA n false k
structure WrI (k : List PFile) (n : PFile) (p : Nat × Bool × List PFile) : Prop where
  le : p.1 ≤ k.length
  eq : wrF k n = p.2.2 ++ wrA n p.2.1 (k.drop p.1)
  len : p.2.2.length ≤ p.1 + (if p.2.1 then 1 else 0)
theorem WrI.zero {k : List PFile} {n : PFile} : WrI k n (0, false, []) := ⟨by simp, by simp [wrF], by simp⟩
theorem WrI.step {k : List PFile} {n : PFile} {i : Nat} {b : Bool} {out : List PFile} (h : WrI k n (i, b, out)) (hi : i < k.length) :
    WrI k n (i + 1, b || !Op.bytesLess k[i].name n.name, out ++ ((if !b && !Op.bytesLess k[i].name n.name then [n] else []) ++ (if k[i].name = n.name then [] else [k[i]]))) := by
  refine ⟨hi, ?_, ?_⟩
  · have := h.eq
    simp only at this ⊢
    rw [this, List.drop_eq_getElem_cons hi, wrA]
    simp only [List.append_assoc]
  · have := h.len
    simp only [List.length_append] at this ⊢
    have h2 : (if k[i].name = n.name then ([] : List PFile) else [k[i]]).length ≤ 1 := by split <;> simp
    cases b <;> cases Op.bytesLess k[i].name n.name <;> simp at this ⊢ <;> omega
theorem WrI.done {k : List PFile} {n : PFile} {i : Nat} {b : Bool} {out : List PFile} (h : WrI k n (i, b, out)) (hi : k.length ≤ i) : wrF k n = out ++ (if b then [] else [n]) := by
  have := h.eq
  simp only at this
  rw [this, List.drop_of_length_le hi, wrA]
/-! ### what is kept -/
end Go.Vs


namespace Go.Vs
end Go.Vs


namespace Go.Vs
/-! ### tracked disks -/
end Go.Vs


namespace Go.Vs
end Go.Vs


namespace Go.Vs
end Go.Vs


namespace Go.Vs
/-! ### the laws of counted relations -/
def negP (z : PCnt) : PCnt := ⟨z.ar, z.rows, z.cs.map fun n => -n⟩
structure Cz (rows : List (List Int)) (cs : List Int) : Prop where
  srt : Srt rows
  len : cs.length = rows.length
  nz : ∀ n ∈ cs, n ≠ 0
theorem cz_ok {z : PCnt} (h : cntsOk z = true) : Cz z.rows z.cs := by
  simp only [cntsOk, Bool.and_eq_true, decide_eq_true_eq, List.all_eq_true] at h
  refine ⟨rowsOk_srt h.1.2, h.1.1.symm, fun n hn e => ?_⟩
  have := h.2 n hn
  simp [cntOk, e] at this
theorem cz_mem {rows : List (List Int)} {cs : List Int} (h : Cz rows cs) (y : List Int) : y ∈ rows ↔ lkC rows cs y ≠ 0 := by
  constructor
  · intro hy
    have e := look_all h.srt h.len
    have : lkC rows cs y ∈ cs := by
      have h2 : lkC rows cs y ∈ rows.map (lkC rows cs) := List.mem_map.2 ⟨y, hy, rfl⟩
      rwa [← e] at h2
    exact h.nz _ this
  · intro hn
    exact Classical.byContradiction fun hy => hn (look_none hy)
theorem cz_ext {r r' : List (List Int)} {c c' : List Int} (h : Cz r c) (h' : Cz r' c') (e : ∀ y, lkC r c y = lkC r' c' y) : r = r' ∧ c = c' := by
  have hr : r = r' := srt_ext h.srt h'.srt fun x => by rw [cz_mem h, cz_mem h', e]
  refine ⟨hr, ?_⟩
  rw [look_all h.srt h.len, look_all h'.srt h'.len, hr]
  exact List.map_congr_left fun y _ => by rw [← hr]; rw [e, hr]
theorem sttl_cons {α : Type} (x : α) (r : List α) (c : Int) (s : List Int) : sttl (x :: r) (c :: s) = if c = 0 then sttl r s else (x, c) :: sttl r s := by
  simp only [sttl, List.zip_cons_cons, List.filter_cons]
  by_cases h : c = 0 <;> simp [h]
theorem look_sttl (y : List Int) : ∀ (R : List (List Int)) (cs : List Int), lkC ((sttl R cs).map Prod.fst) ((sttl R cs).map Prod.snd) y = lkC R cs y
  | [], cs => by simp [sttl, lkC]
  | _ :: _, [] => by simp [sttl, lkC]
  | x :: r, c :: s => by
    have ih := look_sttl y r s
    rw [sttl_cons]
    by_cases h : c = 0
    · rw [if_pos h, ih]; simp [lkC, h]
    · rw [if_neg h, List.map_cons, List.map_cons, lkC, ih]; rfl
theorem look_map {y : List Int} {f : List Int → Int} : ∀ {R : List (List Int)}, Srt R → lkC R (R.map f) y = if y ∈ R then f y else 0
  | [], _ => by simp [lkC]
  | x :: r, h => by
    simp only [Srt, List.pairwise_cons] at h
    have hx : x ∉ r := fun hm => by have := h.1 x hm; simp [cmpL_self] at this
    have ih := look_map (y := y) (f := f) h.2
    simp only [List.map_cons, lkC, ih, List.mem_cons]
    by_cases e : x = y
    · subst e; simp [hx]
    · have e' : ¬ y = x := fun h => e h.symm
      simp [e, e']
theorem look_sum {ar : Int} {rows : List (List Int)} {cs : List Int} (y : List Int) : lkC (sumOf ar rows cs).rows (sumOf ar rows cs).cs y = lkC rows cs y := by
  show lkC ((sttl (srtU rows) (sumsOf rows cs)).map Prod.fst) ((sttl (srtU rows) (sumsOf rows cs)).map Prod.snd) y = _
  rw [look_sttl, sumsOf, look_map (srtU_srt rows)]
  split
  · rfl
  · rename_i h
    rw [look_none fun hm => h ((srtU_mem rows y).2 hm)]
theorem sttl_subl {α : Type} : ∀ (R : List α) (cs : List Int), ((sttl R cs).map Prod.fst).Sublist R
  | [], cs => by simp [sttl]
  | _ :: _, [] => by simp [sttl]
  | x :: r, c :: s => by
    have ih := sttl_subl r s
    rw [sttl_cons]
    by_cases h : c = 0
    · rw [if_pos h]; exact ih.cons x
    · rw [if_neg h, List.map_cons]; exact ih.cons_cons x
theorem cz_sum {ar : Int} {rows : List (List Int)} {cs : List Int} : Cz (sumOf ar rows cs).rows (sumOf ar rows cs).cs := by
  refine ⟨?_, by simp [sumOf], fun n hn => ?_⟩
  · exact List.Pairwise.sublist (sttl_subl (srtU rows) (sumsOf rows cs)) (srtU_srt rows)
  · simp only [sumOf, List.mem_map, sttl, List.mem_filter] at hn
    obtain ⟨p, hp, rfl⟩ := hn
    simpa using hp.2
theorem addC_ok {a b : PCnt} (h : addCB a b = true) : cntsOk (addCP a b) = true ∧ (addCP a b).ar = a.ar ∧ (∀ y, lkC (addCP a b).rows (addCP a b).cs y = lkC a.rows a.cs y + lkC b.rows b.cs y) ∧ (srtU (a.rows ++ b.rows)).length ≤ 4000 ∧ cntsOk a = true ∧ cntsOk b = true ∧ a.ar = b.ar := by
  have h0 := h
  simp only [addCB, sumB, Bool.and_eq_true, decide_eq_true_eq] at h
  obtain ⟨⟨⟨ha, hb⟩, har⟩, hl, hs⟩ := h
  rw [addCP, if_pos h0]
  exact ⟨hs, rfl, fun y => by rw [look_sum, look_app (cz_ok ha).len.symm], hl, ha, hb, har⟩
theorem addC_of {a b w : PCnt} (ha : cntsOk a = true) (hb : cntsOk b = true) (har : a.ar = b.ar) (hl : (srtU (a.rows ++ b.rows)).length ≤ 4000) (hw : cntsOk w = true) (hwa : w.ar = a.ar)
    (h : ∀ y, lkC w.rows w.cs y = lkC a.rows a.cs y + lkC b.rows b.cs y) : addCB a b = true ∧ addCP a b = w := by
  have hc := cz_ext (cz_sum (ar := a.ar) (rows := a.rows ++ b.rows) (cs := a.cs ++ b.cs)) (cz_ok hw) fun y => by rw [look_sum, look_app (cz_ok ha).len.symm, h]
  have he : sumOf a.ar (a.rows ++ b.rows) (a.cs ++ b.cs) = w := by
    obtain ⟨war, wr, wc⟩ := w
    simp only at hc hwa
    have h1 : sumOf a.ar (a.rows ++ b.rows) (a.cs ++ b.cs) = ⟨(sumOf a.ar (a.rows ++ b.rows) (a.cs ++ b.cs)).ar, (sumOf a.ar (a.rows ++ b.rows) (a.cs ++ b.cs)).rows, (sumOf a.ar (a.rows ++ b.rows) (a.cs ++ b.cs)).cs⟩ := rfl
    rw [h1, hc.1, hc.2, hwa]; rfl
  have hB : addCB a b = true := by
    simp only [addCB, sumB, Bool.and_eq_true, decide_eq_true_eq, he]
    exact ⟨⟨⟨ha, hb⟩, har⟩, hl, hw⟩
  exact ⟨hB, by rw [addCP, if_pos hB, he]⟩
theorem look_neg (y : List Int) : ∀ (R : List (List Int)) (cs : List Int), lkC R (cs.map fun n => -n) y = - lkC R cs y
  | [], cs => by simp [look_nil]
  | _ :: _, [] => by simp [lkC]
  | x :: r, c :: s => by
    simp only [List.map_cons, lkC, look_neg y r s]
    split <;> omega
end Go.Vs


namespace Go.Vs
/-! ### the law of projections of counted relations -/
theorem projP_ok {z : PCnt} {cols : List Int} (h : projB z cols = true) : cntsOk (projP z cols) = true := by
  rw [projP, if_pos h]
  simp only [projB, sumB, Bool.and_eq_true] at h
  exact h.2.2
end Go.Vs


namespace Go.Vs
/-! ### the laws of deltas and batches -/
theorem bl_ne {a b : List UInt8} (h : Op.bytesLess a b = true) : a ≠ b := fun e => by rw [e, bl_irr] at h; cases h
/-- a table that is found stands between smaller and greater names -/
structure SplT (l A B : List PTab) (nm : List UInt8) (r : PReln) : Prop where
  eq : l = A ++ ⟨nm, r⟩ :: B
  lo : ∀ t ∈ A, Op.bytesLess t.name nm = true
  hi : ∀ t ∈ B, Op.bytesLess nm t.name = true
theorem lk_db {d : PDb} {nm : List UInt8} (h : lkB d nm = true) : dbOk d = true := by
  cases hd : dbOk d
  · rw [(lk_no hd).1] at h; cases h
  · rfl
theorem lk_split {d : PDb} {nm : List UInt8} (h : lkB d nm = true) : ∃ A B, SplT d.tabs A B nm (lkR d nm) := by
  have hd := lk_db h
  cases hT : lkT d nm with
  | none => rw [lkB, hT] at h; cases h
  | some r =>
    have hr : lkR d nm = r := by rw [lkR, hT]; rfl
    rw [hr]
    rw [lkT, if_pos hd] at hT
    obtain ⟨t, ht, rfl⟩ := Option.map_eq_some_iff.1 hT
    have hn : t.name = nm := by simpa using List.find?_some ht
    obtain ⟨A, B, hl⟩ := List.append_of_mem (List.mem_of_find?_eq_some ht)
    have hs := dbOk_srt (l := d.tabs) hd
    rw [hl] at hs
    have hp := List.pairwise_append.1 hs
    refine ⟨A, B, ?_, fun u hu => ?_, fun u hu => ?_⟩
    · rw [hl, ← hn]
    · rw [← hn]; exact hp.2.2 u hu t (by simp)
    · rw [← hn]; exact (List.pairwise_cons.1 hp.2.1).1 u hu
theorem tw_app {α : Type} {p : α → Bool} {A B : List α} {t : α} (hA : ∀ a ∈ A, p a = true) (ht : p t = false) : (A ++ t :: B).takeWhile p = A := by
  induction A with
  | nil => simp [ht]
  | cons a r ih => rw [List.cons_append, List.takeWhile_cons, hA a (by simp), if_pos rfl, ih fun b hb => hA b (List.mem_cons_of_mem _ hb)]
theorem SplT.set {l A B : List PTab} {nm : List UInt8} {r : PReln} (h : SplT l A B nm r) (u : PReln) : setL l nm u = A ++ ⟨nm, u⟩ :: B := by
  have hk : setK l nm = A.length := by rw [setK, h.eq, tw_app h.lo (bl_irr nm)]
  have hh : hitK l nm = true := by
    rw [hitK, hk, h.eq]
    simp [List.getD]
  rw [setL, hk, hh, h.eq]
  simp
theorem SplT.lk {l A B : List PTab} {nm : List UInt8} {r : PReln} (h : SplT l A B nm r) (hd : dbOk ⟨l⟩ = true) : lkB ⟨l⟩ nm = true ∧ lkR ⟨l⟩ nm = r := by
  have hA : A.find? (fun t => t.name == nm) = none := by
    rw [List.find?_eq_none]; intro t ht e
    exact bl_ne (h.lo t ht) (by simpa using e)
  have hT : lkT ⟨l⟩ nm = some r := by
    rw [lkT, if_pos hd]
    simp only
    rw [h.eq, List.find?_append, hA]
    simp
  exact ⟨by rw [lkB, hT]; rfl, by rw [lkR, hT]; rfl⟩
theorem SplT.put {l A B : List PTab} {nm : List UInt8} {r : PReln} (h : SplT l A B nm r) (u : PReln) : SplT (setL l nm u) A B nm u := ⟨h.set u, h.lo, h.hi⟩
theorem dbOk_of {l : List PTab} (h1 : l.length ≤ 6) (h2 : SrtT l) (h3 : ∀ t ∈ l, tabOk t = true) : dbOk ⟨l⟩ = true := by
  simp only [dbOk, Bool.and_eq_true, decide_eq_true_eq, List.all_eq_true, List.mem_range]
  refine ⟨h1, fun i hi => ?_⟩
  rw [dbAt_eq hi, h3 _ (List.getElem_mem hi), Bool.and_true]
  by_cases h0 : i = 0
  · simp [h0]
  · have := List.pairwise_iff_getElem.1 h2 (i - 1) i (by omega) hi (by omega)
    simp [this]
theorem SplT.ok {l A B : List PTab} {nm : List UInt8} {r u : PReln} (h : SplT l A B nm r) (hd : dbOk ⟨l⟩ = true) (hu : tabOk ⟨nm, u⟩ = true) : dbOk ⟨setL l nm u⟩ = true := by
  have hlen := dbOk_len hd
  have hs := dbOk_srt hd
  have hm : ∀ t ∈ l, tabOk t = true := fun t ht => dbOk_tab hd ht
  have e := h.eq
  rw [h.set u]
  rw [e] at hs hm hlen
  simp only at hlen
  refine dbOk_of (by simpa using hlen) ?_ fun t ht => ?_
  · have hp := List.pairwise_append.1 hs
    refine List.pairwise_append.2 ⟨hp.1, List.pairwise_cons.2 ⟨fun t ht => h.hi t ht, (List.pairwise_cons.1 hp.2.1).2⟩, fun a ha b hb => ?_⟩
    rcases List.mem_cons.1 hb with hb | hb
    · subst hb; exact h.lo a ha
    · exact hp.2.2 a ha b (List.mem_cons_of_mem _ hb)
  · rcases List.mem_append.1 ht with ht | ht
    · exact hm t (by simp [ht])
    · rcases List.mem_cons.1 ht with ht | ht
      · subst ht; exact hu
      · exact hm t (by simp [ht])
theorem SplT.tab {l A B : List PTab} {nm : List UInt8} {r : PReln} (h : SplT l A B nm r) (hd : dbOk ⟨l⟩ = true) : tabOk ⟨nm, r⟩ = true :=
  dbOk_tab hd (t := ⟨nm, r⟩) (by rw [h.eq]; simp)
theorem app_no {d : PDb} {x : PDelta} (h : appB d x = false) : appP d x = d := by
  rw [appP]
  split
  · rename_i h1
    rw [appB, h1, Bool.true_and] at h
    rw [setP, h]; rfl
  · rfl
end Go.Vs


namespace Go.Vs
/-! ### bindings: a join by glue, and a walk over atoms -/
/-- the value that a row over the variables 'a' gives to v -/
def lookV (a r : List Int) (v : Int) : Int := r.getD (idxL a v).toNat 0
def aVars (vs : List Int) : List Int := (rangeI 5).filter fun v => vs.contains v
def fitR (vs row : List Int) : Bool := decide (vs.map (lookV vs row) = row)
def valL (vs row : List Int) : List Int := (vs.zip row).foldl (fun val p => val.set p.1.toNat p.2) (List.replicate 5 0)
def abL (vs : List Int) (rows : List (List Int)) : List (List Int) := (rows.filter (fitR vs)).map fun row => pickR (aVars vs) (valL vs row)
def abR (d : PDb) (a : PAtom) : List (List Int) := srtU (abL a.vars (lkR d a.rel).rows)
def insI (l : List Int) (n : Int) : List Int :=
  if (l.getD (l.takeWhile fun x => decide (x < n)).length (n + 1)) = n then l else l.take (l.takeWhile fun x => decide (x < n)).length ++ n :: l.drop (l.takeWhile fun x => decide (x < n)).length
def uniL (a b : List Int) : List Int := b.foldl insI a
def glV (a r b s : List Int) (v : Int) : Bool := !(a.contains v && b.contains v && !decide (lookV a r v = lookV b s v))
def glB (u a r b s : List Int) : Bool := u.all (glV a r b s)
def glR (u a r b s : List Int) : List Int := u.map fun v => if a.contains v then lookV a r v else lookV b s v
def glO (u a r b s : List Int) : Option (List Int) := if glB u a r b s then some (glR u a r b s) else none
def joinL (u a : List Int) (rows : List (List Int)) (b : List Int) (list : List (List Int)) : List (List Int) := rows.flatMap fun r => list.filterMap fun s => glO u a r b s
def joinS (d : PDb) (p : List Int × List (List Int)) (a : PAtom) : List Int × List (List Int) := (uniL p.1 (aVars a.vars), joinL (uniL p.1 (aVars a.vars)) p.1 p.2 (aVars a.vars) (abR d a))
def binds (d : PDb) (l : List PAtom) : List Int × List (List Int) := l.foldl (joinS d) ([], [[]])
def qryFor (d : PDb) (q : PQuery) : Bool := queryOk q && dbOk d && q.atoms.all fun a => lkB d a.rel && decide ((lkR d a.rel).ar = a.vars.length)
def bdB (d : PDb) (q : PQuery) : Bool := qryFor d q && rowsOk q.n (srtU (binds d q.atoms).2)
def bdP (d : PDb) (q : PQuery) : PReln := if bdB d q then ⟨q.n, srtU (binds d q.atoms).2⟩ else ⟨0, []⟩
/-- a tuple is laid into a row -/
def asgO : List Int → List (Int × Int) → Option (List Int)
  | x, [] => some x
  | x, (v, y) :: r => if x.getD v.toNat 0 = -1 ∨ x.getD v.toNat 0 = y then asgO (x.set v.toNat y) r else none
def walkL (d : PDb) : List PAtom → List Int → List (List Int)
  | [], row => [row]
  | a :: r, row => (lkR d a.rel).rows.flatMap fun t => match asgO row (a.vars.zip t) with
    | none => []
    | some x => walkL d r x
def abP (d : PDb) (q : PQuery) : PReln := if qryFor d q then newR q.n (walkL d q.atoms (List.replicate q.n.toNat (-1))) else ⟨0, []⟩
/-! rows as maps -/
theorem idxL_mem {l : List Int} {v : Int} (h : v ∈ l) : (idxL l v).toNat < l.length ∧ l.getD (idxL l v).toNat 0 = v := by
  rw [idxL, if_pos h]
  simp only [Int.toNat_natCast]
  induction l with
  | nil => cases h
  | cons x r ih =>
    by_cases hx : x = v
    · subst hx; simp
    · have hr : v ∈ r := (List.mem_cons.1 h).resolve_left fun e => hx e.symm
      have := ih hr
      have hb : (!(x == v)) = true := by simp [hx]
      have e : (x :: r).takeWhile (fun x => !(x == v)) = x :: r.takeWhile (fun x => !(x == v)) := by rw [List.takeWhile_cons, if_pos hb]
      rw [e]
      simp only [List.length_cons, List.getD_cons_succ]
      exact ⟨by omega, this.2⟩
theorem lookV_map {a : List Int} (β : Int → Int) {v : Int} (h : v ∈ a) : lookV a (a.map β) v = β v := by
  obtain ⟨h1, h2⟩ := idxL_mem h
  rw [lookV]
  have : (a.map β).getD (idxL a v).toNat 0 = β (a.getD (idxL a v).toNat 0) := by
    simp [List.getD, h1]
  rw [this, h2]
theorem idxL_self : ∀ {a : List Int}, a.Nodup → ∀ i (h : i < a.length), (idxL a a[i]).toNat = i := by
  intro a ha i h
  obtain ⟨h1, h2⟩ := idxL_mem (List.getElem_mem h)
  have h3 : a[(idxL a a[i]).toNat] = a[i] := by
    have := h2
    rwa [getD_el _ h1] at this
  exact (List.getElem_inj ha).1 h3
theorem map_lookV {a r : List Int} (ha : a.Nodup) (hl : r.length = a.length) : a.map (lookV a r) = r := by
  refine List.ext_getElem (by simp [hl]) fun i h1 h2 => ?_
  rw [List.getElem_map, lookV, idxL_self ha i (by simpa using h1), getD_el _ h2]
theorem map_congr_mem {a : List Int} {f g : Int → Int} : a.map f = a.map g ↔ ∀ v ∈ a, f v = g v := List.map_inj_left
/-! the rows of an atom -/
theorem aVars_mem {vs : List Int} {v : Int} : v ∈ aVars vs ↔ v ∈ vs ∧ 0 ≤ v ∧ v < 5 := by
  rw [aVars, List.mem_filter]
  simp only [rangeI, List.mem_map, List.mem_range, List.contains_iff_mem]
  constructor
  · rintro ⟨⟨k, hk, rfl⟩, h⟩; exact ⟨h, by omega, by omega⟩
  · rintro ⟨h, h0, h1⟩; exact ⟨⟨v.toNat, by omega, by omega⟩, h⟩
theorem rangeI_pw (n : Nat) : (rangeI n).Pairwise (· < ·) := by
  rw [rangeI, List.pairwise_map]
  exact List.pairwise_lt_range.imp fun h => by omega
theorem aVars_pw (vs : List Int) : (aVars vs).Pairwise (· < ·) := List.Pairwise.filter _ (rangeI_pw 5)
theorem pw_nodup {l : List Int} (h : l.Pairwise (· < ·)) : l.Nodup := h.imp fun h => by omega
theorem val_step {vs row : List Int} (val : List Int) (β : Int → Int) (hr : row = vs.map β) (hv : ∀ v ∈ vs, 0 ≤ v ∧ v < 5) (hl : val.length = 5) :
    ((vs.zip row).foldl (fun val p => val.set p.1.toNat p.2) val).length = 5 ∧ ∀ u : Int, 0 ≤ u → u < 5 → ((vs.zip row).foldl (fun val p => val.set p.1.toNat p.2) val).getD u.toNat 0 = if u ∈ vs then β u else val.getD u.toNat 0 := by
  subst hr
  induction vs generalizing val with
  | nil => simp [hl]
  | cons w r ih =>
    simp only [List.map_cons, List.zip_cons_cons, List.foldl_cons]
    have hw := hv w (by simp)
    have := ih (val.set w.toNat (β w)) (fun v hm => hv v (List.mem_cons_of_mem _ hm)) (by simp [hl])
    refine ⟨this.1, fun u h0 h5 => ?_⟩
    rw [this.2 u h0 h5]
    by_cases h1 : u ∈ r
    · simp [h1]
    · by_cases h2 : u = w
      · subst h2
        simp only [h1, if_false, List.mem_cons, true_or, if_true]
        simp [List.getD, List.getElem?_set, hl, show u.toNat < 5 by omega]
      · have h3 : u ∉ w :: r := by simp [h1, h2]
        rw [if_neg h1, if_neg h3]
        have : w.toNat ≠ u.toNat := by omega
        simp [List.getD, List.getElem?_set, this]
theorem val_pick {vs row : List Int} (β : Int → Int) (hr : row = vs.map β) (hv : ∀ v ∈ vs, 0 ≤ v ∧ v < 5) : pickR (aVars vs) (valL vs row) = (aVars vs).map β := by
  rw [pickR]
  refine map_congr_mem.2 fun u hu => ?_
  obtain ⟨h1, h2, h3⟩ := aVars_mem.1 hu
  rw [valL, (val_step (List.replicate 5 0) β hr hv (by simp)).2 u h2 h3, if_pos h1]
/-- the rows of an atom are the bindings of its variables -/
theorem ab_mem {vs : List Int} {rows : List (List Int)} (hv : ∀ v ∈ vs, 0 ≤ v ∧ v < 5) (β : Int → Int) : (aVars vs).map β ∈ srtU (abL vs rows) ↔ vs.map β ∈ rows := by
  rw [srtU_mem, abL, List.mem_map]
  constructor
  · rintro ⟨row, hrow, e⟩
    obtain ⟨h1, h2⟩ := List.mem_filter.1 hrow
    have hf : row = vs.map (lookV vs row) := (of_decide_eq_true h2).symm
    rw [val_pick (lookV vs row) hf hv] at e
    have he := map_congr_mem.1 e
    have : vs.map β = row := by
      rw [hf]
      refine map_congr_mem.2 fun v hm => ?_
      exact (he v (aVars_mem.2 ⟨hm, hv v hm⟩)).symm
    rw [this]; exact h1
  · intro h
    refine ⟨vs.map β, List.mem_filter.2 ⟨h, decide_eq_true ?_⟩, val_pick β rfl hv⟩
    exact map_congr_mem.2 fun v hm => lookV_map β hm
theorem ab_len {vs : List Int} {rows : List (List Int)} : ∀ s ∈ srtU (abL vs rows), s.length = (aVars vs).length := fun s hs => by
  rw [srtU_mem, abL, List.mem_map] at hs
  obtain ⟨row, _, rfl⟩ := hs
  exact pickR_len _ _
/-! sets of variables -/
theorem insI_pw {l : List Int} (h : l.Pairwise (· < ·)) (n : Int) : (insI l n).Pairwise (· < ·) ∧ ∀ x, x ∈ insI l n ↔ x ∈ l ∨ x = n := by
  induction l with
  | nil =>
    have e : insI [] n = [n] := by
      have : ([] : List Int).getD 0 (n + 1) ≠ n := by simp [List.getD]; omega
      simp only [insI, List.takeWhile_nil, List.length_nil, if_neg this, List.take_nil, List.drop_nil, List.nil_append]
    rw [e]; simp
  | cons a r ih =>
    have hp := List.pairwise_cons.1 h
    have ih := ih hp.2
    by_cases h1 : a < n
    · have e : insI (a :: r) n = a :: insI r n := by
        simp only [insI, List.takeWhile_cons, decide_eq_true h1, if_true, List.length_cons, List.getD_cons_succ, List.take_succ_cons, List.drop_succ_cons]
        split <;> simp
      rw [e]
      refine ⟨List.pairwise_cons.2 ⟨fun x hx => ?_, ih.1⟩, fun x => ?_⟩
      · rcases (ih.2 x).1 hx with hx | hx
        · exact hp.1 x hx
        · omega
      · rw [List.mem_cons, ih.2, List.mem_cons, or_assoc]
    · have e0 : (List.takeWhile (fun x => decide (x < n)) (a :: r)).length = 0 := by simp [List.takeWhile_cons, h1]
      by_cases h2 : a = n
      · subst h2
        have e : insI (a :: r) a = a :: r := by simp [insI, e0]
        rw [e]
        exact ⟨h, fun x => by simp; intro hx; exact .inl hx⟩
      · have e : insI (a :: r) n = n :: a :: r := by simp [insI, e0, h2]
        rw [e]
        refine ⟨List.pairwise_cons.2 ⟨fun x hx => ?_, h⟩, fun x => by simp [or_comm]⟩
        rcases List.mem_cons.1 hx with hx | hx
        · omega
        · have := hp.1 x hx; omega
theorem uniL_pw : ∀ (b : List Int) {a : List Int}, a.Pairwise (· < ·) → (uniL a b).Pairwise (· < ·) ∧ ∀ x, x ∈ uniL a b ↔ x ∈ a ∨ x ∈ b
  | [], a, h => ⟨h, by simp [uniL]⟩
  | n :: b, a, h => by
    have h1 := insI_pw h n
    have h2 := uniL_pw b h1.1
    refine ⟨h2.1, fun x => ?_⟩
    have : uniL a (n :: b) = uniL (insI a n) b := rfl
    rw [this, h2.2, h1.2, List.mem_cons, or_assoc]
theorem pw_ext : ∀ {l l' : List Int}, l.Pairwise (· < ·) → l'.Pairwise (· < ·) → (∀ x, x ∈ l ↔ x ∈ l') → l = l'
  | [], [], _, _, _ => rfl
  | [], b :: s, _, _, h => by have := (h b).2 (by simp); simp at this
  | a :: r, [], _, _, h => by have := (h a).1 (by simp); simp at this
  | a :: r, b :: s, h1, h2, h => by
    have p1 := List.pairwise_cons.1 h1
    have p2 := List.pairwise_cons.1 h2
    have hab : a = b := by
      rcases List.mem_cons.1 ((h a).1 (by simp)) with e | e
      · exact e
      · rcases List.mem_cons.1 ((h b).2 (by simp)) with e' | e'
        · exact e'.symm
        · have := p2.1 a e; have := p1.1 b e'; omega
    subst hab
    congr 1
    refine pw_ext p1.2 p2.2 fun x => ?_
    have hx := h x
    simp only [List.mem_cons] at hx
    constructor
    · intro hm
      rcases hx.1 (.inr hm) with e | e
      · have := p1.1 x hm; omega
      · exact e
    · intro hm
      rcases hx.2 (.inr hm) with e | e
      · have := p2.1 x hm; omega
      · exact e
/-! the join -/
theorem join_mem {u a b : List Int} {rows list : List (List Int)} (ha : a.Nodup) (hb : b.Nodup) (hu : ∀ x, x ∈ u ↔ x ∈ a ∨ x ∈ b) (hr : ∀ r ∈ rows, r.length = a.length) (hs : ∀ s ∈ list, s.length = b.length) (β : Int → Int) :
    u.map β ∈ joinL u a rows b list ↔ a.map β ∈ rows ∧ b.map β ∈ list := by
  simp only [joinL, List.mem_flatMap, List.mem_filterMap, glO]
  constructor
  · rintro ⟨r, hrm, s, hsm, h⟩
    split at h
    · rename_i hg
      simp only [Option.some.injEq, glR] at h
      have he := map_congr_mem.1 h
      have hgv : ∀ v ∈ u, v ∈ a → v ∈ b → lookV a r v = lookV b s v := fun v h1 h2 h3 => by
        have := (List.all_eq_true.1 hg) v h1
        simpa [glV, List.contains_iff_mem, h2, h3] using this
      have e1 : ∀ v ∈ a, lookV a r v = β v := fun v hv => by
        have := he v ((hu v).2 (.inl hv))
        simpa [List.contains_iff_mem, hv] using this
      have e2 : ∀ v ∈ b, lookV b s v = β v := fun v hv => by
        by_cases hva : v ∈ a
        · rw [← hgv v ((hu v).2 (.inr hv)) hva hv]; exact e1 v hva
        · have := he v ((hu v).2 (.inr hv))
          simpa [List.contains_iff_mem, hva] using this
      have f1 : a.map β = r := by rw [← map_lookV ha (hr r hrm)]; exact map_congr_mem.2 fun v hv => (e1 v hv).symm
      have f2 : b.map β = s := by rw [← map_lookV hb (hs s hsm)]; exact map_congr_mem.2 fun v hv => (e2 v hv).symm
      rw [f1, f2]; exact ⟨hrm, hsm⟩
    · cases h
  · rintro ⟨h1, h2⟩
    refine ⟨a.map β, h1, b.map β, h2, ?_⟩
    rw [if_pos]
    · simp only [Option.some.injEq, glR]
      refine map_congr_mem.2 fun v hv => ?_
      by_cases hva : v ∈ a
      · simp only [List.contains_iff_mem, hva, if_true]; exact lookV_map β hva
      · have hvb := ((hu v).1 hv).resolve_left hva
        simp only [List.contains_iff_mem, hva, if_false]; exact lookV_map β hvb
    · refine List.all_eq_true.2 fun v hv => ?_
      by_cases hva : v ∈ a
      · by_cases hvb : v ∈ b
        · simp [glV, lookV_map β hva, lookV_map β hvb]
        · simp [glV, List.contains_iff_mem, hvb]
      · simp [glV, List.contains_iff_mem, hva]
theorem join_len {u a b : List Int} {rows list : List (List Int)} : ∀ x ∈ joinL u a rows b list, x.length = u.length := fun x hx => by
  simp only [joinL, List.mem_flatMap, List.mem_filterMap, glO] at hx
  obtain ⟨r, _, s, _, h⟩ := hx
  split at h
  · simp only [Option.some.injEq] at h
    rw [← h, glR, List.length_map]
  · cases h
/-- what a partial join holds -/
structure Jn (d : PDb) (as : List PAtom) (p : List Int × List (List Int)) : Prop where
  pw : p.1.Pairwise (· < ·)
  mem : ∀ x, x ∈ p.1 ↔ x ∈ varsIn as
  len : ∀ r ∈ p.2, r.length = p.1.length
  iff : ∀ β : Int → Int, p.1.map β ∈ p.2 ↔ ∀ a ∈ as, a.vars.map β ∈ (lkR d a.rel).rows
theorem Jn.zero (d : PDb) : Jn d [] ([], [[]]) := ⟨.nil, by simp [varsIn], by simp, by simp⟩
theorem Jn.step {d : PDb} {as : List PAtom} {p : List Int × List (List Int)} (h : Jn d as p) {a : PAtom} (hv : ∀ v ∈ a.vars, 0 ≤ v ∧ v < 5) : Jn d (as ++ [a]) (joinS d p a) := by
  have hu := uniL_pw (aVars a.vars) h.pw
  have hab : ∀ x, x ∈ uniL p.1 (aVars a.vars) ↔ x ∈ p.1 ∨ x ∈ aVars a.vars := hu.2
  refine ⟨hu.1, fun x => ?_, join_len, fun β => ?_⟩
  · show x ∈ uniL p.1 (aVars a.vars) ↔ _
    rw [hab, h.mem, varsIn, varsIn, List.flatMap_append, List.mem_append, aVars_mem]
    simp only [List.flatMap_cons, List.flatMap_nil, List.append_nil]
    constructor
    · rintro (h | h)
      · exact .inl h
      · exact .inr h.1
    · rintro (h | h)
      · exact .inl h
      · exact .inr ⟨h, hv x h⟩
  · show (uniL p.1 (aVars a.vars)).map β ∈ joinL (uniL p.1 (aVars a.vars)) p.1 p.2 (aVars a.vars) (abR d a) ↔ _
    have hl : ∀ s ∈ abR d a, s.length = (aVars a.vars).length := ab_len
    rw [join_mem (pw_nodup h.pw) (pw_nodup (aVars_pw a.vars)) hab h.len hl, h.iff, abR, ab_mem hv]
    simp only [List.mem_append, List.mem_singleton]
    constructor
    · rintro ⟨h1, h2⟩ b (hb | rfl)
      · exact h1 b hb
      · exact h2
    · exact fun h => ⟨fun b hb => h b (.inl hb), h a (.inr rfl)⟩
theorem Jn.all {d : PDb} : ∀ (l as : List PAtom) (p : List Int × List (List Int)), Jn d as p → (∀ a ∈ l, ∀ v ∈ a.vars, 0 ≤ v ∧ v < 5) → Jn d (as ++ l) (l.foldl (joinS d) p)
  | [], as, p, h, _ => by simpa using h
  | a :: l, as, p, h, hv => by
    have := Jn.all l (as ++ [a]) (joinS d p a) (h.step (hv a (by simp))) fun b hb => hv b (List.mem_cons_of_mem _ hb)
    simpa using this
/-! the walk -/
theorem getD_set_eq {x : List Int} {i : Nat} {y : Int} (h : i < x.length) : (x.set i y).getD i 0 = y := by simp [List.getD, List.getElem?_set, h]
theorem getD_set_ne {x : List Int} {i j : Nat} {y : Int} (h : i ≠ j) : (x.set i y).getD j 0 = x.getD j 0 := by simp [List.getD, List.getElem?_set, h]
theorem asg_iff : ∀ (vs t x z : List Int), t.length = vs.length → (∀ v ∈ vs, 0 ≤ v ∧ v < x.length) → (∀ y ∈ t, y ≠ -1) →
    (asgO x (vs.zip t) = some z ↔ z.length = x.length ∧ pickR vs z = t ∧ (∀ j : Nat, (j : Int) ∉ vs → z.getD j 0 = x.getD j 0) ∧ ∀ j : Nat, x.getD j 0 ≠ -1 → z.getD j 0 = x.getD j 0)
  | [], [], x, z, _, _, _ => by
    simp only [List.zip_nil_left, asgO, Option.some.injEq, pickR, List.map_nil, true_and, List.not_mem_nil, not_false_eq_true, forall_const]
    constructor
    · rintro rfl; exact ⟨rfl, fun _ => rfl, fun _ _ => rfl⟩
    · rintro ⟨h1, h2, _⟩
      refine List.ext_getElem h1.symm fun i a b => ?_
      have := h2 i
      rw [getD_el _ b, getD_el _ a] at this
      exact this.symm
  | [], _ :: _, _, _, h, _, _ => by simp at h
  | _ :: _, [], _, _, h, _, _ => by simp at h
  | v :: vs, y :: t, x, z, hl, hv, hy => by
    have hv0 := hv v (by simp)
    have hy0 := hy y (by simp)
    have hvn : v.toNat < x.length := by omega
    rw [List.zip_cons_cons, asgO]
    by_cases hc : x.getD v.toNat 0 = -1 ∨ x.getD v.toNat 0 = y
    · rw [if_pos hc, asg_iff vs t (x.set v.toNat y) z (by simpa using hl) (fun u hu => by have := hv u (List.mem_cons_of_mem _ hu); simpa using this) fun w hw => hy w (List.mem_cons_of_mem _ hw)]
      simp only [List.length_set]
      have hp : pickR (v :: vs) z = y :: t ↔ z.getD v.toNat 0 = y ∧ pickR vs z = t := by simp [pickR]
      rw [hp]
      constructor
      · rintro ⟨h1, h2, h3, h4⟩
        have h5 : z.getD v.toNat 0 = y := by
          have := h4 v.toNat (by rw [getD_set_eq hvn]; exact hy0)
          rwa [getD_set_eq hvn] at this
        refine ⟨h1, ⟨h5, h2⟩, fun j hj => ?_, fun j hj => ?_⟩
        · have hne : v.toNat ≠ j := fun e => hj (by rw [← e, Int.toNat_of_nonneg hv0.1]; simp)
          rw [h3 j fun hm => hj (List.mem_cons_of_mem _ hm), getD_set_ne hne]
        · by_cases e : v.toNat = j
          · subst e
            rcases hc with hc | hc
            · exact absurd hc hj
            · rw [h5, hc]
          · have := h4 j (by rw [getD_set_ne e]; exact hj)
            rwa [getD_set_ne e] at this
      · rintro ⟨h1, ⟨h5, h2⟩, h3, h4⟩
        refine ⟨h1, h2, fun j hj => ?_, fun j hj => ?_⟩
        · by_cases e : v.toNat = j
          · subst e; rw [getD_set_eq hvn, h5]
          · rw [getD_set_ne e]
            refine h3 j fun hm => ?_
            rcases List.mem_cons.1 hm with hm | hm
            · exact e (by rw [← hm]; simp)
            · exact hj hm
        · by_cases e : v.toNat = j
          · subst e; rw [getD_set_eq hvn, h5]
          · rw [getD_set_ne e] at hj ⊢; exact h4 j hj
    · rw [if_neg hc]
      constructor
      · intro h; cases h
      · rintro ⟨h1, h2, h3, h4⟩
        have h5 : z.getD v.toNat 0 = y := by
          simp only [pickR, List.map_cons, List.cons.injEq] at h2; exact h2.1
        have := h4 v.toNat fun e => hc (.inl e)
        exact absurd (this ▸ h5) fun e => hc (.inr e)
/-- what the walk over atoms yields -/
theorem walk_iff (d : PDb) : ∀ (as : List PAtom) (x z : List Int), (∀ a ∈ as, (∀ v ∈ a.vars, 0 ≤ v ∧ v < x.length) ∧ ∀ t ∈ (lkR d a.rel).rows, t.length = a.vars.length ∧ ∀ y ∈ t, y ≠ -1) →
    (z ∈ walkL d as x ↔ z.length = x.length ∧ (∀ a ∈ as, pickR a.vars z ∈ (lkR d a.rel).rows) ∧ (∀ j : Nat, (j : Int) ∉ varsIn as → z.getD j 0 = x.getD j 0) ∧ ∀ j : Nat, x.getD j 0 ≠ -1 → z.getD j 0 = x.getD j 0)
  | [], x, z, _ => by
    simp only [walkL, List.mem_singleton, varsIn, List.flatMap_nil, List.not_mem_nil, not_false_eq_true, forall_const, false_implies, true_and]
    constructor
    · rintro rfl; exact ⟨rfl, fun _ => rfl, fun _ _ => rfl⟩
    · rintro ⟨h1, h2, _⟩
      refine List.ext_getElem h1 fun i a b => ?_
      have := h2 i
      rw [getD_el _ a, getD_el _ b] at this
      exact this
  | a :: as, x, z, h => by
    obtain ⟨hv, ht⟩ := h a (by simp)
    have hin : ∀ v, v ∈ varsIn (a :: as) ↔ v ∈ a.vars ∨ v ∈ varsIn as := fun v => by simp [varsIn]
    rw [walkL, List.mem_flatMap]
    constructor
    · rintro ⟨t, htm, hz⟩
      obtain ⟨htl, hty⟩ := ht t htm
      cases ho : asgO x (a.vars.zip t) with
      | none => rw [ho] at hz; cases hz
      | some w =>
        rw [ho] at hz
        obtain ⟨w1, w2, w3, w4⟩ := (asg_iff a.vars t x w htl hv hty).1 ho
        obtain ⟨z1, z2, z3, z4⟩ := (walk_iff d as w z fun b hb => by rw [w1]; exact h b (List.mem_cons_of_mem _ hb)).1 hz
        have hpz : pickR a.vars z = t := by
          rw [← w2]
          refine map_congr_mem.2 fun v hm => ?_
          have hv' := hv v hm
          refine z4 v.toNat fun e => ?_
          have : w.getD v.toNat 0 ∈ t := by rw [← w2]; exact List.mem_map.2 ⟨v, hm, rfl⟩
          exact hty _ this e
        refine ⟨by rw [z1, w1], fun b hb => ?_, fun j hj => ?_, fun j hj => ?_⟩
        · rcases List.mem_cons.1 hb with rfl | hb
          · rw [hpz]; exact htm
          · exact z2 b hb
        · rw [z3 j fun hm => hj ((hin _).2 (.inr hm)), w3 j fun hm => hj ((hin _).2 (.inl hm))]
        · have e := w4 j hj
          rw [z4 j (by rw [e]; exact hj), e]
    · rintro ⟨z1, z2, z3, z4⟩
      have htm := z2 a (by simp)
      obtain ⟨htl, hty⟩ := ht _ htm
      -- the row behind the first atom
      let w : List Int := (List.range x.length).map fun (j : Nat) => if (j : Int) ∈ a.vars then z.getD j 0 else x.getD j 0
      have wl : w.length = x.length := by simp [w]
      have wg : ∀ j : Nat, w.getD j 0 = if (j : Int) ∈ a.vars then z.getD j 0 else x.getD j 0 := fun j => by
        by_cases hj : j < x.length
        · rw [getD_el _ (by rw [wl]; exact hj)]
          simp [w]
        · have e1 : w.getD j 0 = 0 := by simp [List.getD, List.getElem?_eq_none (show w.length ≤ j by omega)]
          have e2 : x.getD j 0 = 0 := by simp [List.getD, List.getElem?_eq_none (show x.length ≤ j by omega)]
          have e3 : z.getD j 0 = 0 := by simp [List.getD, List.getElem?_eq_none (show z.length ≤ j by omega)]
          rw [e1, e2, e3]; simp
      have hw2 : pickR a.vars w = pickR a.vars z := map_congr_mem.2 fun v hm => by
        have := hv v hm
        rw [wg, if_pos (by rw [Int.toNat_of_nonneg this.1]; exact hm)]
      have hwx : ∀ j : Nat, x.getD j 0 ≠ -1 → w.getD j 0 = x.getD j 0 := fun j hj => by
        rw [wg]; split
        · exact z4 j hj
        · rfl
      have ho : asgO x (a.vars.zip (pickR a.vars z)) = some w := (asg_iff a.vars _ x w htl hv hty).2 ⟨wl, hw2, fun j hj => by rw [wg, if_neg hj], hwx⟩
      refine ⟨_, htm, ?_⟩
      rw [ho]
      simp only
      refine (walk_iff d as w z fun b hb => by rw [wl]; exact h b (List.mem_cons_of_mem _ hb)).2 ⟨by rw [z1, wl], fun b hb => z2 b (List.mem_cons_of_mem _ hb), fun j hj => ?_, fun j hj => ?_⟩
      · rw [wg]
        split
        · rfl
        · rename_i hn
          exact z3 j fun hm => by
            rcases (hin _).1 hm with hm | hm
            · exact hn hm
            · exact hj hm
      · rw [wg] at hj ⊢
        split
        · rfl
        · rename_i hn
          rw [if_neg hn] at hj
          exact z4 j hj
end Go.Vs


namespace Go.Vs
/-! ### the bindings of a query, and views -/
structure Qf (d : PDb) (q : PQuery) : Prop where
  qok : queryOk q = true
  dok : dbOk d = true
  n5 : 1 ≤ q.n ∧ q.n ≤ 5
  a4 : 1 ≤ q.atoms.length ∧ q.atoms.length ≤ 4
  vin : ∀ a ∈ q.atoms, ∀ v ∈ a.vars, 0 ≤ v ∧ v < q.n
  vlen : ∀ a ∈ q.atoms, 1 ≤ a.vars.length ∧ a.vars.length ≤ 5
  lk : ∀ a ∈ q.atoms, lkB d a.rel = true
  ar : ∀ a ∈ q.atoms, (lkR d a.rel).ar = a.vars.length
  all : ∀ j : Int, 0 ≤ j → j < q.n → j ∈ varsIn q.atoms
theorem qf_of {d : PDb} {q : PQuery} (h : qryFor d q = true) : Qf d q := by
  simp only [qryFor, Bool.and_eq_true, List.all_eq_true, decide_eq_true_eq] at h
  obtain ⟨⟨h1, h2⟩, h3⟩ := h
  have h0 := h1
  simp only [queryOk, Bool.and_eq_true, inR, decide_eq_true_eq, List.all_eq_true] at h1
  obtain ⟨⟨⟨⟨hn, ha⟩, ho⟩, hat⟩, hu⟩ := h1
  refine ⟨h0, h2, hn, by omega, fun a hm v hv => ?_, fun a hm => ?_, fun a hm => (h3 a hm).1, fun a hm => (h3 a hm).2, fun j hj0 hj => ?_⟩
  · have := hat a hm
    simp only [atomOk, Bool.and_eq_true, List.all_eq_true] at this
    have := this.2 v hv
    rw [wrap64_of (by omega) (by omega)] at this
    simp only [inR, Bool.and_eq_true, decide_eq_true_eq] at this
    omega
  · have := hat a hm
    simp only [atomOk, Bool.and_eq_true, inR, decide_eq_true_eq] at this
    omega
  · simp only [usesAll, List.all_eq_true, List.mem_range, List.contains_iff_mem] at hu
    have := hu j.toNat (by omega)
    rwa [Int.toNat_of_nonneg hj0] at this
theorem lk_rows {d : PDb} {nm : List UInt8} (h : lkB d nm = true) : (lkR d nm).rows.length ≤ 16 := by
  obtain ⟨A, B, sp⟩ := lk_split h
  have := sp.tab (lk_db h)
  simp only [tabOk, Bool.and_eq_true, decide_eq_true_eq] at this
  exact this.2
theorem rel_rows {d : PDb} {q : PQuery} (f : Qf d q) {a : PAtom} (ha : a ∈ q.atoms) : ∀ t ∈ (lkR d a.rel).rows, t.length = a.vars.length ∧ ∀ y ∈ t, y ≠ -1 := fun t ht => by
  have hr := lk_ok (f.lk a ha)
  obtain ⟨h1, h2⟩ := rowsOk_mem hr ht
  refine ⟨by have := f.ar a ha; omega, fun y hy e => ?_⟩
  simp only [valsOk, List.all_eq_true] at h2
  have := h2 y hy
  subst e
  simp [inR] at this
theorem rangeI_mem {n : Nat} {x : Int} : x ∈ rangeI n ↔ 0 ≤ x ∧ x < n := by
  simp only [rangeI, List.mem_map, List.mem_range]
  constructor
  · rintro ⟨k, hk, rfl⟩; omega
  · rintro ⟨h0, h1⟩; exact ⟨x.toNat, by omega, by omega⟩
theorem rangeI_len (n : Nat) : (rangeI n).length = n := by simp [rangeI]
theorem rangeI_map {n : Nat} {z : List Int} (h : z.length = n) : (rangeI n).map (fun v => z.getD v.toNat 0) = z := by
  refine List.ext_getElem (by simp [rangeI_len, h]) fun i h1 h2 => ?_
  simp only [rangeI, List.map_map, List.getElem_map, List.getElem_range, Function.comp_apply, Int.toNat_natCast]
  exact getD_el _ h2
theorem binds_jn {d : PDb} {q : PQuery} (f : Qf d q) : Jn d q.atoms (binds d q.atoms) := by
  have := Jn.all q.atoms [] ([], [[]]) (Jn.zero d) fun a ha v hv => by have := f.vin a ha v hv; have := f.n5; omega
  simpa [binds] using this
theorem binds_vars {d : PDb} {q : PQuery} (f : Qf d q) : (binds d q.atoms).1 = rangeI q.n.toNat := by
  have j := binds_jn f
  refine pw_ext j.pw (rangeI_pw _) fun x => ?_
  rw [j.mem, rangeI_mem]
  constructor
  · intro h
    simp only [varsIn, List.mem_flatMap] at h
    obtain ⟨a, ha, hx⟩ := h
    have := f.vin a ha x hx; omega
  · rintro ⟨h0, h1⟩; exact f.all x h0 (by omega)
theorem binds_mem {d : PDb} {q : PQuery} (f : Qf d q) (z : List Int) : z ∈ (binds d q.atoms).2 ↔ z.length = q.n.toNat ∧ ∀ a ∈ q.atoms, pickR a.vars z ∈ (lkR d a.rel).rows := by
  have j := binds_jn f
  have hv := binds_vars f
  have key : z.length = q.n.toNat → (z ∈ (binds d q.atoms).2 ↔ ∀ a ∈ q.atoms, pickR a.vars z ∈ (lkR d a.rel).rows) := fun hl => by
    have := j.iff fun v => z.getD v.toNat 0
    rw [hv, rangeI_map hl] at this
    exact this
  constructor
  · intro h
    have hl : z.length = q.n.toNat := by rw [j.len z h, hv, rangeI_len]
    exact ⟨hl, (key hl).1 h⟩
  · rintro ⟨hl, h⟩; exact (key hl).2 h
theorem walk_mem {d : PDb} {q : PQuery} (f : Qf d q) (z : List Int) : z ∈ walkL d q.atoms (List.replicate q.n.toNat (-1)) ↔ z.length = q.n.toNat ∧ ∀ a ∈ q.atoms, pickR a.vars z ∈ (lkR d a.rel).rows := by
  rw [walk_iff d q.atoms _ z fun a ha => ⟨fun v hv => by have := f.vin a ha v hv; simp only [List.length_replicate]; omega, rel_rows f ha⟩]
  simp only [List.length_replicate]
  constructor
  · exact fun h => ⟨h.1, h.2.1⟩
  · rintro ⟨hl, h⟩
    have out : ∀ j : Nat, q.n.toNat ≤ j → z.getD j 0 = (List.replicate q.n.toNat (-1)).getD j 0 := fun j hj => by
      simp [List.getD, List.getElem?_eq_none (show z.length ≤ j by omega), List.getElem?_eq_none (show (List.replicate q.n.toNat (-1 : Int)).length ≤ j by simpa using hj)]
    refine ⟨hl, h, fun j hj => out j ?_, fun j hj => out j ?_⟩
    · refine Nat.le_of_not_lt fun hlt => hj (f.all j (by omega) (by omega))
    · refine Nat.le_of_not_lt fun hlt => hj ?_
      rw [getD_el _ (by simpa using hlt)]
      simp
theorem newB_srt (n : Int) (l : List (List Int)) : newB n l = rowsOk n (srtU l) := by
  cases h : rowsOk n (srtU l)
  · simp [newB, h]
  · simp only [newB, h, Bool.and_true, List.all_eq_true, Bool.and_eq_true, decide_eq_true_eq]
    exact fun x hx => rowsOk_mem h ((srtU_mem l x).2 hx)
/-- the join and the walk find the same bindings -/
theorem ab_bd (d : PDb) (q : PQuery) : abP d q = bdP d q := by
  cases hq : qryFor d q
  · simp [abP, bdP, bdB, hq]
  have f := qf_of hq
  have e : srtU (walkL d q.atoms (List.replicate q.n.toNat (-1))) = srtU (binds d q.atoms).2 := srt_ext (srtU_srt _) (srtU_srt _) fun z => by
    rw [srtU_mem, srtU_mem, walk_mem f, binds_mem f]
  simp only [abP, bdP, bdB, hq, Bool.true_and, if_true, newR, newB_srt, e]
theorem ab_ar (d : PDb) (q : PQuery) : (qryFor d q && decide ((abP d q).ar = q.n)) = bdB d q := by
  rw [ab_bd]
  cases hq : qryFor d q
  · simp [bdB, hq]
  have f := qf_of hq
  simp only [bdP, bdB, hq, Bool.true_and]
  cases h : rowsOk q.n (srtU (binds d q.atoms).2)
  · have := f.n5
    simp; omega
  · simp
/-! sizes -/
theorem join_size {u a b : List Int} {rows list : List (List Int)} : (joinL u a rows b list).length ≤ rows.length * list.length := by
  simp only [joinL]
  induction rows with
  | nil => simp
  | cons r rs ih =>
    rw [List.flatMap_cons, List.length_append, List.length_cons, Nat.add_mul, Nat.one_mul]
    have := List.length_filterMap_le (fun s => glO u a r b s) list
    omega
theorem abR_size {d : PDb} {q : PQuery} (f : Qf d q) {a : PAtom} (ha : a ∈ q.atoms) : (abR d a).length ≤ 16 := by
  have h1 := srtU_len (abL a.vars (lkR d a.rel).rows)
  have h2 := List.length_filter_le (fitR a.vars) (lkR d a.rel).rows
  have h3 := lk_rows (f.lk a ha)
  simp only [abR]
  simp only [abL, List.length_map] at h1
  simp only [abL]
  omega
theorem binds_snoc (d : PDb) (l : List PAtom) (a : PAtom) : binds d (l ++ [a]) = joinS d (binds d l) a := by simp [binds]
theorem binds_size {d : PDb} {q : PQuery} (f : Qf d q) : ∀ i, i ≤ q.atoms.length → (binds d (q.atoms.take i)).2.length ≤ 16 ^ i
  | 0, _ => by simp [binds]
  | i + 1, hi => by
    have ih := binds_size f i (by omega)
    rw [List.take_succ_eq_append_getElem (by omega), binds_snoc]
    show (joinL _ _ (binds d (q.atoms.take i)).2 _ (abR d q.atoms[i])).length ≤ _
    refine Nat.le_trans join_size ?_
    rw [Nat.pow_succ]
    exact Nat.mul_le_mul ih (abR_size f (List.getElem_mem _))
theorem binds_le {d : PDb} {q : PQuery} (f : Qf d q) {i : Nat} (hi : i ≤ q.atoms.length) : (binds d (q.atoms.take i)).2.length ≤ 65536 := by
  refine Nat.le_trans (binds_size f i hi) ?_
  have : 16 ^ i ≤ 16 ^ 4 := Nat.pow_le_pow_right (by omega) (by have := f.a4; omega)
  simpa using this
theorem walk_size {d : PDb} : ∀ (as : List PAtom) (x : List Int), (∀ a ∈ as, (lkR d a.rel).rows.length ≤ 16) → (walkL d as x).length ≤ 16 ^ as.length
  | [], x, _ => by simp [walkL]
  | a :: as, x, h => by
    have ha := h a (by simp)
    rw [walkL]
    have key : ∀ rows : List (List Int), (rows.flatMap fun t => match asgO x (a.vars.zip t) with
        | none => []
        | some x => walkL d as x).length ≤ rows.length * 16 ^ as.length := fun rows => by
      induction rows with
      | nil => simp
      | cons t ts ih =>
        rw [List.flatMap_cons, List.length_append, List.length_cons, Nat.add_mul, Nat.one_mul]
        have : (match asgO x (a.vars.zip t) with
          | none => []
          | some x => walkL d as x).length ≤ 16 ^ as.length := by
          split
          · simp
          · exact walk_size as _ fun b hb => h b (List.mem_cons_of_mem _ hb)
        omega
    refine Nat.le_trans (key _) ?_
    rw [List.length_cons, Nat.pow_succ, Nat.mul_comm (16 ^ as.length)]
    exact Nat.mul_le_mul_right _ ha
/-! views -/
def nvB (d : PDb) (q : PQuery) : Bool := bdB d q && projB (cntOf (bdP d q)) q.out
def nvR (d : PDb) (q : PQuery) : PCnt := if nvB d q then projP (cntOf (bdP d q)) q.out else ⟨0, [], []⟩
def nvP (d : PDb) (q : PQuery) : PView := if nvB d q then ⟨q, nvR d q⟩ else ⟨⟨0, [], []⟩, ⟨0, [], []⟩⟩
end Go.Vs


namespace Go.Vs
def fitJ (vs row : List Int) (j : Nat) : Bool := (List.range j).all fun i => decide (lookV vs row (vs.getD i 0) = row.getD i 0)
theorem fitJ_zero (vs row : List Int) : fitJ vs row 0 = true := rfl
theorem fitJ_succ (vs row : List Int) (j : Nat) : fitJ vs row (j + 1) = (fitJ vs row j && decide (lookV vs row (vs.getD j 0) = row.getD j 0)) := by
  simp only [fitJ, List.range_succ, List.all_append, List.all_cons, List.all_nil, Bool.and_true]
theorem fitJ_all {vs row : List Int} (h : row.length = vs.length) : fitJ vs row vs.length = fitR vs row := by
  have : fitJ vs row vs.length = true ↔ fitR vs row = true := by
    simp only [fitJ, List.all_eq_true, List.mem_range, decide_eq_true_eq, fitR]
    constructor
    · intro hh
      refine List.ext_getElem (by simp [h]) fun i h1 h2 => ?_
      have := hh i (by omega)
      rw [getD_el _ (by omega), getD_el _ h2] at this
      rw [List.getElem_map]; exact this
    · intro hh i hi
      have : (vs.map (lookV vs row))[i]'(by simpa using hi) = row[i]'(by omega) := by congr 1
      rw [getD_el _ hi, getD_el _ (by omega)]
      rw [List.getElem_map] at this; exact this
  cases h1 : fitJ vs row vs.length <;> cases h2 : fitR vs row <;> simp_all
def valJ (vs row : List Int) (j : Nat) : List Int := ((vs.take j).zip (row.take j)).foldl (fun val p => val.set p.1.toNat p.2) (List.replicate 5 0)
theorem valJ_zero (vs row : List Int) : valJ vs row 0 = List.replicate 5 0 := by simp [valJ]
theorem valJ_succ {vs row : List Int} {j : Nat} (h1 : j < vs.length) (h2 : j < row.length) : valJ vs row (j + 1) = (valJ vs row j).set vs[j].toNat row[j] := by
  rw [valJ, List.take_succ_eq_append_getElem h1, List.take_succ_eq_append_getElem h2, List.zip_append (by simp; omega), List.foldl_append]
  rfl
theorem valJ_len (vs row : List Int) (j : Nat) : (valJ vs row j).length = 5 := by
  rw [valJ]
  generalize (vs.take j).zip (row.take j) = l
  have : ∀ (l : List (Int × Int)) (v : List Int), (l.foldl (fun val p => val.set p.1.toNat p.2) v).length = v.length := fun l => by
    induction l with
    | nil => simp
    | cons p r ih => intro v; rw [List.foldl_cons, ih]; simp
  rw [this]; simp
theorem valJ_all {vs row : List Int} (h : row.length = vs.length) : valJ vs row vs.length = valL vs row := by
  rw [valJ, List.take_of_length_le (Nat.le_refl _), List.take_of_length_le (by omega)]; rfl
theorem abL_succ {vs : List Int} {rows : List (List Int)} {i : Nat} (h : i < rows.length) : abL vs (rows.take (i + 1)) = abL vs (rows.take i) ++ if fitR vs rows[i] then [pickR (aVars vs) (valL vs rows[i])] else [] := by
  rw [List.take_succ_eq_append_getElem h]
  simp only [abL, List.filter_append, List.map_append]
  cases hf : fitR vs rows[i] <;> simp [hf]
theorem abL_len (vs : List Int) (rows : List (List Int)) : (abL vs rows).length ≤ rows.length := by
  simp only [abL, List.length_map]; exact List.length_filter_le _ _
theorem abL_el {vs : List Int} {rows : List (List Int)} : ∀ x ∈ abL vs rows, x.length ≤ 5 := fun x hx => by
  simp only [abL, List.mem_map] at hx
  obtain ⟨row, _, rfl⟩ := hx
  rw [pickR_len]
  have := List.length_filter_le (fun v => vs.contains v) (rangeI 5)
  rw [rangeI_len] at this
  exact this
end Go.Vs


namespace Go.Vs
/-- a contract on blocks, as one on what is known by elements -/
theorem VC.plain {P : Program} {f : FuncId} {As : List V} {post : Nat → V → Prop} {v : V} (h : VC P f As post) (hq : ∀ n r, post n r → rp (fun _ => none) r = some v) (hv : rd (fun _ => none) (fun _ => none) v = some v) :
    VC P f As (fun _ r => r = v) := by
  refine ⟨h.1, fun w vals A hLR => ?_⟩
  refine (h.2 w vals A hLR).mono fun e w' he => ?_
  obtain ⟨v', r, rfl, hb, hvr, _, hp⟩ := he
  exact ⟨v', v, rfl, hb, VR.er _ _ _ hvr (hq _ _ hp), hv, rfl⟩
end Go.Vs


namespace Go.Vs
/-- a contract on all blocks that read as the given elements, as one on the elements -/
theorem VC.untrack {P : Program} {f : FuncId} {Ps As0 : List V} {post post0 : Nat → V → Prop} (h0 : VC P f As0 post0) (hv : pnVL Ps = true)
    (h : ∀ As, rpL (fun _ => none) As = some Ps → tkVL As = true → lnVL As → VC P f As post) : VC P f Ps post := by
  refine ⟨h0.1, fun w vals A hLR => ?_⟩
  obtain ⟨ys, h3, h4, h5, _⟩ := LR.track Ps vals hv hLR
  exact (h ys h4 h5 (LR.ln _ _ h3)).2 w vals A h3
theorem rp_args1 {As : List V} {a : V} (h : rpL (fun _ => none) As = some [a]) (ht : tkVL As = true) (hl : lnVL As) : ∃ x, As = [x] ∧ rp (fun _ => none) x = some a ∧ x.tk = true ∧ x.ln := by
  match As, h, ht, hl with
  | [], h, _, _ => simp [rpL] at h
  | x :: r, h, ht, hl =>
    simp only [rpL] at h
    cases hx : rp (fun _ => none) x with
    | none => simp [hx] at h
    | some y =>
      cases hs : rpL (fun _ => none) r with
      | none => simp [hx, hs] at h
      | some ys =>
        simp only [hx, hs, Option.some.injEq, List.cons.injEq] at h
        obtain ⟨rfl, rfl⟩ := h
        simp only [tkVL, Bool.and_eq_true] at ht
        cases r with
        | nil => exact ⟨x, rfl, hx, ht.1, hl.1⟩
        | cons z s =>
          simp only [rpL] at hs
          cases h1 : rp (fun _ => none) z <;> cases h2 : rpL (fun _ => none) s <;> simp [h1, h2] at hs
theorem rp_args2 {As : List V} {a b : V} (h : rpL (fun _ => none) As = some [a, b]) (ht : tkVL As = true) (hl : lnVL As) :
    ∃ x y, As = [x, y] ∧ (rp (fun _ => none) x = some a ∧ x.tk = true ∧ x.ln) ∧ rp (fun _ => none) y = some b ∧ y.tk = true ∧ y.ln := by
  match As, h, ht, hl with
  | [], h, _, _ => simp [rpL] at h
  | x :: r, h, ht, hl =>
    simp only [rpL] at h
    cases hx : rp (fun _ => none) x with
    | none => simp [hx] at h
    | some y =>
      cases hs : rpL (fun _ => none) r with
      | none => simp [hx, hs] at h
      | some ys =>
        simp only [hx, hs, Option.some.injEq, List.cons.injEq] at h
        obtain ⟨rfl, rfl⟩ := h
        simp only [tkVL, Bool.and_eq_true] at ht
        obtain ⟨z, rfl, h1, h2, h3⟩ := rp_args1 hs ht.2 hl.2
        exact ⟨x, z, rfl, ⟨hx, ht.1, hl.1⟩, h1, h2, h3⟩
theorem lnLL_mem {α : Type} {c : α → List D} {l : List α} (h : lnLL (l.map c)) : ∀ a ∈ l, lnL (c a) := by
  induction l with
  | nil => simp
  | cons x r ih =>
    simp only [List.map_cons, lnLL] at h
    intro a ha
    rcases List.mem_cons.1 ha with rfl | h'
    · exact h.1
    · exact ih h.2 a h'
theorem ok_ln {α : Type} {c : α → List D} {ok : α → Prop} (hc : ∀ a, lnL (c a) → ok a) {s : Sl α} (h : lnL (cS c s)) : okS ok s := by
  simp only [cS, dSl, lnL, D.ln, List.length_map] at h
  exact ⟨h.1.1, fun a ha => hc a (lnLL_mem h.1.2 a ha)⟩
theorem ok_lnI (n : Int) (_ : lnL (cI n)) : okI n := trivial
theorem okReln_ln {a : Reln} (h : lnL (cReln a)) : okReln a := by
  rw [cReln, lnL_app] at h
  exact ⟨trivial, ok_ln (fun _ => ok_ln ok_lnI) h.2⟩
theorem okCnt_ln {a : Cnt} (h : lnL (cCnt a)) : okCnt a := by
  rw [cCnt, lnL_app, lnL_app] at h
  exact ⟨trivial, ok_ln (fun _ => ok_ln ok_lnI) h.1.2, ok_ln ok_lnI h.2⟩
theorem pn_agg {l : List D} (h : pnL l = true) : pnVL [V.agg (l.map V.d)] = true := by
  have : ∀ l : List D, pnL l = true → pnVL (l.map V.d) = true := by
    intro l
    induction l with
    | nil => intro _; rfl
    | cons x r ih => intro h; simp only [pnL, Bool.and_eq_true] at h; simp only [List.map_cons, pnVL, V.pn, h.1, ih h.2, Bool.and_self]
  simp only [pnVL, V.pn, this l h, Bool.and_self]
theorem queryOk_a4 {q : PQuery} (h : queryOk q = true) : q.atoms.length ≤ 4 := by
  simp only [queryOk, Bool.and_eq_true, inR, decide_eq_true_eq] at h
  omega
end Go.Vs


namespace Go.Vs
theorem binds_jn_take {d : PDb} {q : PQuery} (f : Qf d q) (i : Nat) : Jn d (q.atoms.take i) (binds d (q.atoms.take i)) := by
  have := Jn.all (q.atoms.take i) [] ([], [[]]) (Jn.zero d) fun a ha v hv => by have := f.vin a (List.mem_of_mem_take ha) v hv; have := f.n5; omega
  simpa [binds] using this
theorem pw_len5 {l : List Int} (h : l.Pairwise (· < ·)) (hm : ∀ x ∈ l, 0 ≤ x ∧ x < 5) : l.length ≤ 5 := by
  have : l = (rangeI 5).filter fun v => l.contains v := by
    refine pw_ext h (List.Pairwise.filter _ (rangeI_pw 5)) fun x => ?_
    rw [List.mem_filter, rangeI_mem, List.contains_iff_mem]
    exact ⟨fun h => ⟨hm x h, h⟩, fun h => h.2⟩
  rw [this]
  have := List.length_filter_le (fun v => l.contains v) (rangeI 5)
  rw [rangeI_len] at this
  exact this
theorem jn_len5 {d : PDb} {q : PQuery} (f : Qf d q) {as : List PAtom} {p : List Int × List (List Int)} (h : Jn d as p) (hs : ∀ a ∈ as, a ∈ q.atoms) : p.1.length ≤ 5 := by
  refine pw_len5 h.pw fun x hx => ?_
  rw [h.mem] at hx
  simp only [varsIn, List.mem_flatMap] at hx
  obtain ⟨a, ha, hx⟩ := hx
  have := f.vin a (hs a ha) x hx; have := f.n5; omega
theorem binds_len5 {d : PDb} {q : PQuery} (f : Qf d q) (i : Nat) : (binds d (q.atoms.take i)).1.length ≤ 5 :=
  jn_len5 f (binds_jn_take f i) fun _ h => List.mem_of_mem_take h
theorem binds_succ (d : PDb) {l : List PAtom} {i : Nat} (h : i < l.length) : binds d (l.take (i + 1)) = joinS d (binds d (l.take i)) l[i] := by
  rw [List.take_succ_eq_append_getElem h, binds_snoc]
theorem aVars_len5 (vs : List Int) : (aVars vs).length ≤ 5 := by
  have := List.length_filter_le (fun v => vs.contains v) (rangeI 5)
  rw [rangeI_len] at this
  exact this
/-- the partial list of the inner loops -/
def jnI (u a : List Int) (rows : List (List Int)) (b : List Int) (list : List (List Int)) (k : Nat) (j : Nat) : List (List Int) :=
  joinL u a (rows.take k) b list ++ (list.take j).filterMap fun s => glO u a (rows.getD k []) b s
theorem jnI_zero (u a : List Int) (rows : List (List Int)) (b : List Int) (list : List (List Int)) (k : Nat) : jnI u a rows b list k 0 = joinL u a (rows.take k) b list := by simp [jnI]
theorem jnI_all {u a : List Int} {rows : List (List Int)} {b : List Int} {list : List (List Int)} {k : Nat} (h : k < rows.length) : jnI u a rows b list k list.length = joinL u a (rows.take (k + 1)) b list := by
  rw [jnI, List.take_of_length_le (Nat.le_refl _), List.take_succ_eq_append_getElem h, joinL, joinL, List.flatMap_append]
  simp [List.getElem?_eq_getElem h]
theorem jnI_succ {u a : List Int} {rows : List (List Int)} {b : List Int} {list : List (List Int)} {k j : Nat} (h : j < list.length) :
    jnI u a rows b list k (j + 1) = jnI u a rows b list k j ++ if glB u a (rows.getD k []) b list[j] then [glR u a (rows.getD k []) b list[j]] else [] := by
  rw [jnI, jnI, List.take_succ_eq_append_getElem h, List.filterMap_append, List.append_assoc]
  congr 1
  cases hg : glB u a (rows.getD k []) b list[j] <;> simp only [List.getD_eq_getElem?_getD] at hg <;> simp [glO, hg]
theorem jnI_len {u a : List Int} {rows : List (List Int)} {b : List Int} {list : List (List Int)} {k j : Nat} (hk : k ≤ 65536) (hl : list.length ≤ 16) : (jnI u a rows b list k j).length ≤ 65536 * 16 + 16 := by
  have h1 := join_size (u := u) (a := a) (rows := rows.take k) (b := b) (list := list)
  have h2 := List.length_filterMap_le (fun s => glO u a (rows.getD k []) b s) (list.take j)
  have h3 : (rows.take k).length * list.length ≤ 65536 * 16 := Nat.mul_le_mul (by rw [List.length_take]; omega) hl
  rw [jnI, List.length_append]
  rw [List.length_take] at h2
  omega
theorem joinL_nil (u a b : List Int) (list : List (List Int)) : joinL u a [] b list = [] := rfl
end Go.Vs


namespace Go.Vs
theorem asgO_app : ∀ (l : List (Int × Int)) (x : List Int) (v y : Int), asgO x (l ++ [(v, y)]) = (asgO x l).bind fun z => if z.getD v.toNat 0 = -1 ∨ z.getD v.toNat 0 = y then some (z.set v.toNat y) else none
  | [], x, v, y => by simp [asgO]
  | (u, w) :: r, x, v, y => by
    rw [List.cons_append, asgO, asgO]
    split
    · exact asgO_app r _ v y
    · rfl
theorem asgO_none : ∀ (l r : List (Int × Int)) (x : List Int), asgO x l = none → asgO x (l ++ r) = none
  | [], _, _, h => by simp [asgO] at h
  | (u, w) :: l, r, x, h => by
    rw [List.cons_append, asgO]
    rw [asgO] at h
    split at h
    · rename_i hc
      rw [if_pos hc]
      exact asgO_none l r _ h
    · rename_i hc
      rw [if_neg hc]
/-- the state of the inner loop -/
structure AsS (row vs t : List Int) (j : Nat) (x : List Int) (fits : Bool) : Prop where
  le : j ≤ vs.length
  len : x.length = row.length
  yes : fits = true → asgO row ((vs.zip t).take j) = some x
  no : fits = false → asgO row (vs.zip t) = none
theorem AsS.zero {row vs t : List Int} : AsS row vs t 0 row true := ⟨by omega, rfl, fun _ => by simp [asgO], fun h => by cases h⟩
theorem zip_take {vs t : List Int} {j : Nat} (h1 : j < vs.length) (h2 : j < t.length) : (vs.zip t).take (j + 1) = (vs.zip t).take j ++ [(vs[j], t[j])] := by
  rw [List.take_succ_eq_append_getElem (by simp; omega)]
  simp
theorem AsS.step {row vs t x : List Int} {j : Nat} (h : AsS row vs t j x true) (h1 : j < vs.length) (h2 : j < t.length) :
    AsS row vs t (j + 1) (x.set vs[j].toNat t[j]) (decide (x.getD vs[j].toNat 0 = -1 ∨ x.getD vs[j].toNat 0 = t[j])) := by
  have hy := h.yes rfl
  have hz : asgO row ((vs.zip t).take (j + 1)) = if x.getD vs[j].toNat 0 = -1 ∨ x.getD vs[j].toNat 0 = t[j] then some (x.set vs[j].toNat t[j]) else none := by
    rw [zip_take h1 h2, asgO_app, hy]; rfl
  refine ⟨by omega, by rw [List.length_set]; exact h.len, fun hd => ?_, fun hd => ?_⟩
  · rw [hz, if_pos (of_decide_eq_true hd)]
  · rw [if_neg (of_decide_eq_false hd)] at hz
    have := asgO_none _ ((vs.zip t).drop (j + 1)) _ hz
    rwa [List.take_append_drop] at this
theorem AsS.done {row vs t x : List Int} {j : Nat} {fits : Bool} (h : AsS row vs t j x fits) (hj : fits = true → vs.length ≤ j) : asgO row (vs.zip t) = if fits then some x else none := by
  cases fits with
  | false => simpa using h.no rfl
  | true =>
    have h2 := hj rfl
    have h3 := h.yes rfl
    rw [List.take_of_length_le (by simp; omega)] at h3
    simpa using h3
def wkF (d : PDb) (as : List PAtom) (vs row t : List Int) : List (List Int) := match asgO row (vs.zip t) with
  | none => []
  | some x => walkL d as x
theorem walkL_cons (d : PDb) (a : PAtom) (as : List PAtom) (row : List Int) : walkL d (a :: as) row = (lkR d a.rel).rows.flatMap (wkF d as a.vars row) := by
  rw [walkL]; rfl
theorem flatMap_succ {α β : Type} {f : α → List β} {l : List α} {i : Nat} (h : i < l.length) : (l.take (i + 1)).flatMap f = (l.take i).flatMap f ++ f l[i] := by
  rw [List.take_succ_eq_append_getElem h, List.flatMap_append]; simp
theorem wkF_len {d : PDb} {al : List PAtom} {vs row t : List Int} (h : ∀ a ∈ al, (lkR d a.rel).rows.length ≤ 16) (h4 : al.length ≤ 4) : (wkF d al vs row t).length ≤ 65536 := by
  rw [wkF]
  split
  · simp
  · refine Nat.le_trans (walk_size al _ h) ?_
    have : 16 ^ al.length ≤ 16 ^ 4 := Nat.pow_le_pow_right (by omega) h4
    simpa using this
theorem wkF_all {d : PDb} {al : List PAtom} {vs row : List Int} {ts : List (List Int)} (h : ∀ a ∈ al, (lkR d a.rel).rows.length ≤ 16) (h4 : al.length ≤ 4) : (ts.flatMap (wkF d al vs row)).length ≤ ts.length * 65536 := by
  induction ts with
  | nil => simp
  | cons t r ih =>
    rw [List.flatMap_cons, List.length_append, List.length_cons, Nat.add_mul, Nat.one_mul]
    have := wkF_len (vs := vs) (row := row) (t := t) h h4
    omega
theorem setOf_len5 {l : List Int} {n : Int} (h : setOf l n = true) (h1 : 1 ≤ n) (hn : n ≤ 5) : l.length ≤ 5 := by
  simp only [setOf, Bool.and_eq_true, List.all_eq_true, decide_eq_true_eq] at h
  refine nodup_len 5 l h.2 fun x hx => ?_
  have := h.1 x hx
  rw [wrap64_of (by omega) (by omega)] at this
  simp only [inR, Bool.and_eq_true, decide_eq_true_eq] at this
  omega
theorem Qf.out5 {d : PDb} {q : PQuery} (f : Qf d q) : q.out.length ≤ 5 := by
  have h := f.qok
  have hn := f.n5
  simp only [queryOk, Bool.and_eq_true] at h
  exact setOf_len5 h.1.1.2 hn.1 hn.2
end Go.Vs


namespace Go.Vs
theorem rpL_d : ∀ l : List D, rpL (fun _ => none) (l.map V.d) = some ((erL l).map V.d)
  | [] => rfl
  | x :: r => by simp only [List.map_cons, rpL, rp, rpL_d r, erL]
theorem rdL_dd : ∀ l : List D, rdL (fun _ => none) (fun _ => none) (l.map V.d) = some (l.map V.d)
  | [] => rfl
  | x :: r => by simp only [List.map_cons, rdL, rd, rdL_dd r]
theorem rp_agg_d (l : List D) : rp (fun _ => none) (.agg (l.map V.d)) = some (.agg ((erL l).map V.d)) := by simp only [rp, rpL_d, Option.map_some]
theorem rd_agg_d (l : List D) : rd (fun _ => none) (fun _ => none) (.agg (l.map V.d)) = some (.agg (l.map V.d)) := by simp only [rd, rdL_dd, Option.map_some]
/-- a struct and a truth value: what is known of their blocks, put away -/
theorem VC.plain2 {P : Program} {f : FuncId} {As : List V} {α β : Type} {c : α → List D} {e : β → List D} {pl : α → β} (he : ∀ a, erL (c a) = e (pl a)) {b : Bool} {p : β} {Q : Nat → α → Prop}
    (h : VC P f As (fun n v => ∃ y : α, v = .tup [.agg ((c y).map V.d), .d (.bool b)] ∧ pl y = p ∧ Q n y)) : VC P f As (fun _ v => v = .tup [.agg ((e p).map V.d), .d (.bool b)]) := by
  refine VC.plain h (fun n r hr => ?_) ?_
  · obtain ⟨y, rfl, hp, _⟩ := hr
    simp only [rp, rpL, rpL_d, he, hp, Option.map_some, D.er]
  · simp only [rd, rdL, rdL_dd, Option.map_some]
/-- the same of a struct alone -/
theorem VC.plain1 {P : Program} {f : FuncId} {As : List V} {α β : Type} {c : α → List D} {e : β → List D} {pl : α → β} (he : ∀ a, erL (c a) = e (pl a)) {p : β} {Q : Nat → α → Prop}
    (h : VC P f As (fun n v => ∃ y : α, v = .agg ((c y).map V.d) ∧ pl y = p ∧ Q n y)) : VC P f As (fun _ v => v = .agg ((e p).map V.d)) := by
  refine VC.plain h (fun n r hr => ?_) ?_
  · obtain ⟨y, rfl, hp, _⟩ := hr
    simp only [rp_agg_d, he, hp]
  · exact rd_agg_d _
theorem okView_strs {v : View} (h : okView v) : ∀ a ∈ (plView v).q.atoms, a.rel.length ≤ maxLen := okQuery_strs h.1
end Go.Vs


namespace Go.Vs
theorem app_strs {d : PDb} {x : PDelta} (h : ∀ t ∈ d.tabs, t.name.length ≤ maxLen) : ∀ t ∈ (appP d x).tabs, t.name.length ≤ maxLen := by
  cases hb : appB d x
  · rw [app_no hb]; exact h
  · exact dbOk_st (app_ok hb)
theorem nvR_ok {d : PDb} {q : PQuery} (h : nvB d q = true) : cntsOk (nvR d q) = true := by
  have h2 := h
  simp only [nvB, Bool.and_eq_true] at h2
  rw [nvR, if_pos h]
  exact projP_ok h2.2
theorem cnts_small {z : PCnt} (h : cntsOk z = true) : z.rows.length ≤ 4294967296 ∧ (∀ r ∈ z.rows, r.length ≤ 4294967296) ∧ z.cs.length ≤ 4294967296 := by
  have h1 := rowsOk_len (cntsOk_rows h)
  have h2 := cntsOk_len h
  exact ⟨by omega, fun r hr => by have := rowsOk_row (cntsOk_rows h) r hr; omega, by omega⟩
theorem nvR_small {d : PDb} {q : PQuery} (h : nvB d q = true) : (nvR d q).rows.length ≤ 4294967296 ∧ (∀ r ∈ (nvR d q).rows, r.length ≤ 4294967296) ∧ (nvR d q).cs.length ≤ 4294967296 := cnts_small (nvR_ok h)
theorem okDb_ln {a : Db} (h : lnL (cDb a)) (hs : ∀ t ∈ (plDb a).tabs, t.name.length ≤ maxLen) : okDb a := by
  rw [cDb] at h
  have h2 : okS (fun t : Tab => lnL (cTab t)) a.tabs := ok_ln (fun _ h => h) h
  refine ⟨h2.1, fun t ht => ⟨hs (plTab t) (List.mem_map_of_mem ht), ?_⟩⟩
  have h3 : lnL (cStr t.name ++ cReln t.rel) := h2.2 t ht
  exact okReln_ln ((lnL_app _ _).1 h3).2
theorem okDelta_ln {a : Delta} (h : lnL (cDelta a)) (hs : (plDelta a).name.length ≤ maxLen) : okDelta a := by
  rw [cDelta, lnL_app, lnL_app] at h
  exact ⟨hs, okReln_ln h.1.2, okReln_ln h.2⟩
end Go.Vs


namespace Go.Vs
theorem nv_qf {d : PDb} {q : PQuery} (h : nvB d q = true) : Qf d q := qf_of (by
  cases h2 : qryFor d q with
  | true => rfl
  | false => simp [nvB, bdB, h2] at h)
end Go.Vs


namespace Go.Vs
/-! ### signed joins: sums of counts by row -/
/-- the sum of the counts of a row in a list of pairs -/
def sW : List (List Int × Int) → List Int → Int
  | [], _ => 0
  | p :: P, r => (if p.1 = r then p.2 else 0) + sW P r
theorem sW_app (P Q : List (List Int × Int)) (r : List Int) : sW (P ++ Q) r = sW P r + sW Q r := by
  induction P with
  | nil => simp [sW]
  | cons p P ih => simp only [List.cons_append, sW, ih]; omega
/-- a sum over the pairs of a list -/
def sumL {α : Type} (f : α → Int) : List α → Int
  | [] => 0
  | a :: l => f a + sumL f l
theorem sumL_congr {α : Type} {f g : α → Int} {l : List α} (h : ∀ a ∈ l, f a = g a) : sumL f l = sumL g l := by
  induction l with
  | nil => rfl
  | cons a l ih => rw [sumL, sumL, h a (by simp), ih fun b hb => h b (List.mem_cons_of_mem _ hb)]
theorem sumL_mul {α : Type} (f : α → Int) (k : Int) (l : List α) : sumL (fun a => f a * k) l = sumL f l * k := by
  induction l with
  | nil => simp [sumL]
  | cons a l ih => simp only [sumL, ih, Int.add_mul]
theorem sW_flat {α : Type} (f : α → List (List Int × Int)) (r : List Int) (l : List α) : sW (l.flatMap f) r = sumL (fun a => sW (f a) r) l := by
  induction l with
  | nil => rfl
  | cons a l ih => simp only [List.flatMap_cons, sW_app, sumL, ih]
theorem sW_sumL (P : List (List Int × Int)) (r : List Int) : sW P r = sumL (fun p => if p.1 = r then p.2 else 0) P := by
  induction P with
  | nil => rfl
  | cons p P ih => rw [sW, sumL, ih]
/-- the join with signs -/
def joinW (u a : List Int) (P : List (List Int × Int)) (b : List Int) (L : List (List Int × Int)) : List (List Int × Int) :=
  P.flatMap fun r => L.filterMap fun s => (glO u a r.1 b s.1).map fun x => (x, r.2 * s.2)
theorem joinW_fst (u a : List Int) (P : List (List Int × Int)) (b : List Int) (L : List (List Int × Int)) : (joinW u a P b L).map Prod.fst = joinL u a (P.map Prod.fst) b (L.map Prod.fst) := by
  rw [joinW, joinL, List.map_flatMap, List.flatMap_map]
  refine congrArg (fun f => List.flatMap f P) (funext fun r => ?_)
  rw [List.map_filterMap, List.filterMap_map]
  refine congrArg (fun f => List.filterMap f L) (funext fun s => ?_)
  simp only [Function.comp_apply, Option.map_map]
  cases glO u a r.1 b s.1 <;> rfl
theorem gl_iff {u a b : List Int} (ha : a.Nodup) (hb : b.Nodup) (hu : ∀ x, x ∈ u ↔ x ∈ a ∨ x ∈ b) {r s : List Int} (hr : r.length = a.length) (hs : s.length = b.length) (β : Int → Int) :
    glO u a r b s = some (u.map β) ↔ r = a.map β ∧ s = b.map β := by
  have h := join_mem (rows := [r]) (list := [s]) ha hb hu (fun x hx => by rw [List.mem_singleton.1 hx]; exact hr) (fun x hx => by rw [List.mem_singleton.1 hx]; exact hs) β
  simp only [joinL, List.flatMap_cons, List.flatMap_nil, List.append_nil, List.mem_filterMap, List.mem_singleton, exists_eq_left] at h
  rw [h]
  constructor
  · rintro ⟨h1, h2⟩; exact ⟨h1.symm, h2.symm⟩
  · rintro ⟨h1, h2⟩; exact ⟨h1.symm, h2.symm⟩
theorem sW_fm {u a b : List Int} (ha : a.Nodup) (hb : b.Nodup) (hu : ∀ x, x ∈ u ↔ x ∈ a ∨ x ∈ b) {r : List Int} (c : Int) (hr : r.length = a.length) (β : Int → Int) :
    ∀ (L : List (List Int × Int)), (∀ s ∈ L, s.1.length = b.length) → sW (L.filterMap fun s => (glO u a r b s.1).map fun x => (x, c * s.2)) (u.map β) = (if r = a.map β then c else 0) * sW L (b.map β)
  | [], _ => by simp [sW]
  | s :: L, hs => by
    have ih := sW_fm ha hb hu c hr β L fun t ht => hs t (List.mem_cons_of_mem _ ht)
    have hg := gl_iff ha hb hu hr (hs s (by simp)) β
    rw [sW, Int.mul_add, ← ih]
    cases hO : glO u a r b s.1 with
    | none =>
      rw [List.filterMap_cons_none (by rw [hO]; rfl)]
      have : ¬ (r = a.map β ∧ s.1 = b.map β) := fun h => by rw [hg.2 h] at hO; cases hO
      by_cases h1 : r = a.map β
      · rw [if_neg (fun e => this ⟨h1, e⟩)]; simp
      · simp [h1]
    | some x =>
      rw [List.filterMap_cons_some (by rw [hO]; rfl), sW]
      rw [hO] at hg
      by_cases hx : x = u.map β
      · obtain ⟨h1, h2⟩ := hg.1 (by rw [hx])
        simp only [hx, h1, h2, if_true]
      · have : ¬ (r = a.map β ∧ s.1 = b.map β) := fun h => hx (by have := hg.2 h; simpa using this)
        simp only [if_neg hx]
        by_cases h1 : r = a.map β
        · rw [if_neg (fun e => this ⟨h1, e⟩)]; simp
        · simp [h1]
theorem sW_join {u a b : List Int} (ha : a.Nodup) (hb : b.Nodup) (hu : ∀ x, x ∈ u ↔ x ∈ a ∨ x ∈ b) {P L : List (List Int × Int)} (hr : ∀ r ∈ P, r.1.length = a.length) (hs : ∀ s ∈ L, s.1.length = b.length) (β : Int → Int) :
    sW (joinW u a P b L) (u.map β) = sW P (a.map β) * sW L (b.map β) := by
  rw [joinW, sW_flat, sW_sumL P, ← sumL_mul]
  exact sumL_congr fun r hm => sW_fm ha hb hu r.2 (hr r hm) β L hs
/-- what a signed join holds -/
structure JnW (as : List (List Int × List (List Int × Int))) (u : List Int) (P : List (List Int × Int)) : Prop where
  pw : u.Pairwise (· < ·)
  mem : ∀ x, x ∈ u ↔ x ∈ as.flatMap Prod.fst
  len : ∀ r ∈ P, r.1.length = u.length
  sum : ∀ β : Int → Int, sW P (u.map β) = as.foldr (fun a n => sW a.2 (a.1.map β) * n) 1
  sup : ∀ β : Int → Int, u.map β ∈ P.map Prod.fst ↔ ∀ a ∈ as, a.1.map β ∈ a.2.map Prod.fst
theorem JnW.zero : JnW [] [] [([], 1)] := ⟨.nil, by simp, by simp, fun β => by simp [sW], fun β => by simp⟩
theorem prod_snoc (β : Int → Int) : ∀ (as : List (List Int × List (List Int × Int))) (a : List Int × List (List Int × Int)),
    (as ++ [a]).foldr (fun a n => sW a.2 (a.1.map β) * n) 1 = as.foldr (fun a n => sW a.2 (a.1.map β) * n) 1 * sW a.2 (a.1.map β)
  | [], a => by simp
  | b :: as, a => by simp only [List.cons_append, List.foldr_cons, prod_snoc β as a, Int.mul_assoc]
theorem joinW_len {u a : List Int} {P : List (List Int × Int)} {b : List Int} {L : List (List Int × Int)} : ∀ r ∈ joinW u a P b L, r.1.length = u.length := fun r hr =>
  join_len r.1 (by rw [← joinW_fst]; exact List.mem_map_of_mem hr)
theorem JnW.step {as : List (List Int × List (List Int × Int))} {u : List Int} {P : List (List Int × Int)} (h : JnW as u P) {vs : List Int} (hv : ∀ v ∈ vs, 0 ≤ v ∧ v < 5) {T L : List (List Int × Int)}
    (hl : ∀ s ∈ L, s.1.length = (aVars vs).length) (hw : ∀ β : Int → Int, sW L ((aVars vs).map β) = sW T (vs.map β)) (hm : ∀ β : Int → Int, (aVars vs).map β ∈ L.map Prod.fst ↔ vs.map β ∈ T.map Prod.fst) :
    JnW (as ++ [(vs, T)]) (uniL u (aVars vs)) (joinW (uniL u (aVars vs)) u P (aVars vs) L) := by
  have hu := uniL_pw (aVars vs) h.pw
  refine ⟨hu.1, fun x => ?_, joinW_len, fun β => ?_, fun β => ?_⟩
  · rw [hu.2, h.mem, List.flatMap_append, List.mem_append, aVars_mem]
    simp only [List.flatMap_cons, List.flatMap_nil, List.append_nil]
    constructor
    · rintro (h | h)
      · exact .inl h
      · exact .inr h.1
    · rintro (h | h)
      · exact .inl h
      · exact .inr ⟨h, hv x h⟩
  · rw [sW_join (pw_nodup h.pw) (pw_nodup (aVars_pw vs)) hu.2 h.len hl, h.sum, hw, prod_snoc]
  · rw [joinW_fst, join_mem (pw_nodup h.pw) (pw_nodup (aVars_pw vs)) hu.2 (fun r hr => by
      obtain ⟨p, hp, rfl⟩ := List.mem_map.1 hr
      exact h.len p hp) (fun s hs => by
      obtain ⟨p, hp, rfl⟩ := List.mem_map.1 hs
      exact hl p hp), h.sup, hm]
    simp only [List.mem_append, List.mem_singleton]
    constructor
    · rintro ⟨h1, h2⟩ b (hb | rfl)
      · exact h1 b hb
      · exact h2
    · exact fun h => ⟨fun b hb => h b (.inl hb), h (vs, T) (.inr rfl)⟩
/-! the walk with counts -/
end Go.Vs


namespace Go.Vs
/-! ### the delta of an atom -/
/-! the lists of the program and of its reference -/
end Go.Vs


namespace Go.Vs
/-! ### lookups behind a delta, and the delta of an atom in both ways -/
end Go.Vs


namespace Go.Vs
/-! ### the delta of an atom: both ways agree -/
end Go.Vs


namespace Go.Vs
/-! ### the delta of an atom: sizes and the answer -/
end Go.Vs


namespace Go.Vs
/-! ### data read deeper by elements only -/
section
variable {S : Nat → Prop} {w : World}
end
/-! ### the loops of the delta of an atom -/
/-! ### the loops of the reference -/
end Go.Vs


namespace Go.Vs
/-! ### the lists that the reference walks -/
end Go.Vs


namespace Go.Vs
end Go.Vs


namespace Go.Vs
end Go.Vs


namespace Go.Vs
/-! ### disks: what is read after a change -/
/-! ### the order of a disk -/
end Go.Vs


namespace Go.Vs
/-! ### versions on a disk -/
/-! the newest version -/
end Go.Vs


namespace Go.Vs
/-! ### what may go -/
end Go.Vs


namespace Go.Vs
/-! ### a view's rows are the query's answers -/
end Go.Vs


namespace Go.Vs
/-! ### texts of queries -/
def lstB (b : UInt8) : List Int := (rangeI 5).filter fun v => decide (varNm v = [b])
def lstV (s : List UInt8) : List Int := s.flatMap lstB
theorem lstV_step {s : List UInt8} {i : Nat} (h : i < s.length) : lstV (s.take (i + 1)) = lstV (s.take i) ++ lstB s[i] := by
  unfold lstV
  rw [List.take_succ_eq_append_getElem h, List.flatMap_append]
  simp only [List.flatMap_cons, List.flatMap_nil, List.append_nil]
theorem lstB_len (b : UInt8) : (lstB b).length ≤ 5 := by
  have := List.length_filter_le (fun v => decide (varNm v = [b])) (rangeI 5)
  rw [rangeI_length] at this
  exact this
theorem lstV_len (s : List UInt8) : (lstV s).length ≤ 5 * s.length := by
  induction s with
  | nil => simp [lstV]
  | cons a r ih =>
    have := lstB_len a
    simp only [lstV, List.flatMap_cons, List.length_append, List.length_cons] at ih ⊢; omega
def lstT (b : UInt8) (j : Nat) : List Int := (rangeI j).filter fun v => decide (varNm v = [b])
theorem lstT_succ (b : UInt8) (j : Nat) : lstT b (j + 1) = lstT b j ++ if varNm j = [b] then [(j : Int)] else [] := by
  rw [lstT, rangeI_succ, List.filter_append, lstT]
  congr 1
  by_cases e : varNm j = [b] <;> simp [e]
theorem lstT_len (b : UInt8) (j : Nat) : (lstT b j).length ≤ j := by
  have := List.length_filter_le (fun v => decide (varNm v = [b])) (rangeI j)
  rw [rangeI_length] at this
  exact this
/-- the count of variables behind a letter -/
def vcK (b : UInt8) : Nat → Int → Int → Int
  | 0, _, cur => cur
  | k + 1, v, cur => if v < 5 then vcK b k (v + 1) (if varNm v = [b] then v + 1 else cur) else cur
theorem vcK_fuel (b : UInt8) : ∀ (k k' : Nat) (v cur : Int), 5 - v ≤ k → 5 - v ≤ k' → vcK b k v cur = vcK b k' v cur
  | 0, 0, _, _, _, _ => rfl
  | 0, k' + 1, v, cur, h, _ => by rw [vcK, vcK, if_neg (by omega)]
  | k + 1, 0, v, cur, _, h => by rw [vcK, vcK, if_neg (by omega)]
  | k + 1, k' + 1, v, cur, h, h' => by
    rw [vcK, vcK]
    split
    · exact vcK_fuel b k k' _ _ (by omega) (by omega)
    · rfl
theorem vcK_in (b : UInt8) : ∀ (k : Nat) (v cur : Int), 0 ≤ v → 0 ≤ cur ∧ cur ≤ 5 → 0 ≤ vcK b k v cur ∧ vcK b k v cur ≤ 5
  | 0, _, _, _, h => h
  | k + 1, v, cur, hv, h => by
    rw [vcK]
    split
    · refine vcK_in b k _ _ (by omega) ?_
      split <;> omega
    · exact h
def vcB (n : Int) (b : UInt8) : Int := vcK b 5 n n
structure VcI (b : UInt8) (n : Int) (v cur : Int) : Prop where
  le : 0 ≤ v ∧ v ≤ 5
  inR5 : 0 ≤ cur ∧ cur ≤ 5
  eq : vcK b 5 v cur = vcB n b
theorem VcI.zero {b : UInt8} {n : Int} (h : 0 ≤ n ∧ n ≤ 5) : VcI b n n n := ⟨h, h, rfl⟩
theorem VcI.step {b : UInt8} {n v cur : Int} (h : VcI b n v cur) (hv : v < 5) : VcI b n (v + 1) (if varNm v = [b] then v + 1 else cur) := by
  have h1 := h.le
  have h2 := h.inR5
  refine ⟨by omega, by split <;> omega, ?_⟩
  have := h.eq
  rw [vcK, if_pos hv, vcK_fuel b 4 5 _ _ (by omega) (by omega)] at this
  exact this
theorem VcI.done {b : UInt8} {n v cur : Int} (h : VcI b n v cur) (hv : ¬ v < 5) : vcB n b = cur := by
  have := h.eq
  rw [vcK, if_neg hv] at this
  exact this.symm
theorem vcB_in {n : Int} (b : UInt8) (h : 0 ≤ n ∧ n ≤ 5) : 0 ≤ vcB n b ∧ vcB n b ≤ 5 := vcK_in b 5 n n h.1 h
def vcS (n : Int) (s : List UInt8) : Int := s.foldl vcB n
theorem vcS_step {n : Int} {s : List UInt8} {i : Nat} (h : i < s.length) : vcS n (s.take (i + 1)) = vcB (vcS n (s.take i)) s[i] := by
  rw [List.take_succ_eq_append_getElem h, vcS, List.foldl_append]; rfl
theorem vcS_in : ∀ (s : List UInt8) {n : Int}, 0 ≤ n ∧ n ≤ 5 → 0 ≤ vcS n s ∧ vcS n s ≤ 5
  | [], _, h => h
  | b :: s, _, h => vcS_in s (vcB_in b h)
def prsM (l : List (List UInt8)) : Int := l.foldl vcS 0
theorem prsM_step {l : List (List UInt8)} {i : Nat} (h : i < l.length) : prsM (l.take (i + 1)) = vcS (prsM (l.take i)) l[i] := by
  rw [List.take_succ_eq_append_getElem h, prsM, List.foldl_append]; rfl
theorem prsM_in (l : List (List UInt8)) : 0 ≤ prsM l ∧ prsM l ≤ 5 := by
  have : ∀ (l : List (List UInt8)) (n : Int), 0 ≤ n ∧ n ≤ 5 → 0 ≤ l.foldl vcS n ∧ l.foldl vcS n ≤ 5 := fun l => by
    induction l with
    | nil => exact fun _ h => h
    | cons a r ih => exact fun n h => ih _ (vcS_in a h)
  exact this l 0 (by omega)
def prsA (s : List UInt8) : PAtom := ⟨(cutB 40 s).getD 0 [], lstV s⟩
def prsC (s : List UInt8) : PQuery := ⟨prsM (cutB 44 ((cutB 61 s).getD 1 [])), (cutB 44 ((cutB 61 s).getD 1 [])).map prsA, lstV ((cutB 61 s).getD 0 [])⟩
def fmtA (a : PAtom) : List UInt8 := a.rel ++ ([40] ++ varsS a.vars ++ [41])
def fmtQ (q : PQuery) : List UInt8 := if queryOk q then ([40] ++ varsS q.out ++ [41]) ++ [61] ++ joinB [44] (q.atoms.map fmtA) else []
def prsB' (s : List UInt8) : Bool := decide ((cutB 61 s).length = 2) && decide (fmtQ (prsC s) = s) && decide (s ≠ [])
def prsP (s : List UInt8) : PQuery := if prsB' s then prsC s else ⟨0, [], []⟩
theorem qok_small {q : PQuery} (h : queryOk q = true) : q.atoms.length ≤ 4 ∧ q.out.length ≤ 5 ∧ ∀ a ∈ q.atoms, a.rel.length ≤ 4 ∧ a.vars.length ≤ 5 := by
  have hn := queryOk_n5 h
  simp only [queryOk, Bool.and_eq_true, inR, decide_eq_true_eq, List.all_eq_true] at h
  obtain ⟨⟨⟨⟨_, ha⟩, ho⟩, hat⟩, _⟩ := h
  refine ⟨by omega, ?_, fun a hm => ?_⟩
  · simp only [setOf, Bool.and_eq_true, decide_eq_true_eq, List.all_eq_true] at ho
    refine nodup_len 5 q.out ho.2 fun x hx => ?_
    have := ho.1 x hx
    rw [wrap64_of (by omega) (by omega)] at this
    simp only [inR, Bool.and_eq_true, decide_eq_true_eq] at this
    omega
  · have := hat a hm
    simp only [atomOk, nameOk, Bool.and_eq_true, inR, decide_eq_true_eq] at this
    exact ⟨by omega, by omega⟩
end Go.Vs


namespace Go.Vs
/-! ### the queries that are drawn -/
def knownQ : List (List UInt8) := [[40, 88, 89, 90, 41, 61, 114, 40, 88, 89, 41, 44, 115, 40, 89, 90, 41, 44, 116, 40, 90, 88, 41],
  [40, 88, 89, 90, 85, 41, 61, 114, 40, 88, 89, 41, 44, 115, 40, 89, 90, 41, 44, 116, 40, 90, 85, 41, 44, 117, 40, 85, 88, 41],
  [40, 88, 89, 90, 41, 61, 114, 40, 88, 89, 41, 44, 115, 40, 89, 90, 41],
  [40, 88, 41, 61, 114, 40, 88, 89, 41, 44, 115, 40, 89, 90, 41, 44, 116, 40, 90, 85, 41],
  [40, 88, 89, 90, 41, 61, 118, 40, 88, 89, 90, 41, 44, 114, 40, 88, 89, 41],
  [40, 88, 89, 41, 61, 114, 40, 88, 89, 41, 44, 114, 40, 89, 88, 41],
  [40, 88, 89, 90, 85, 41, 61, 118, 40, 88, 89, 90, 41, 44, 115, 40, 90, 85, 41, 44, 116, 40, 85, 88, 41],
  [40, 88, 41, 61, 114, 40, 88, 88, 41],
  [40, 88, 89, 41, 61, 114, 40, 88, 90, 41, 44, 115, 40, 90, 89, 41, 44, 114, 40, 88, 85, 41, 44, 115, 40, 85, 89, 41],
  [40, 41, 61, 114, 40, 88, 89, 41, 44, 115, 40, 89, 88, 41],
  [40, 88, 89, 90, 85, 86, 41, 61, 114, 40, 88, 89, 41, 44, 115, 40, 89, 90, 41, 44, 116, 40, 90, 85, 41, 44, 117, 40, 85, 86, 41]]
def pathQ : PQuery := ⟨5, [⟨[114], [0, 1]⟩, ⟨[115], [1, 2]⟩, ⟨[116], [2, 3]⟩, ⟨[117], [3, 4]⟩], [0, 1, 2, 3, 4]⟩
def smallQ (q : PQuery) : Prop := q.n ≤ 4 ∨ q = pathQ
theorem known_len : ∀ s ∈ knownQ, s.length ≤ 40 := by decide
theorem known_small : ∀ s ∈ knownQ, smallQ (prsP s) := by
  have h : (knownQ.all fun s => decide ((prsP s).n ≤ 4) || decide (prsP s = pathQ)) = true := by decide +kernel
  intro s hs
  have := List.all_eq_true.1 h s hs
  simpa [smallQ] using this
theorem known_ok : ∀ s ∈ knownQ, queryOk (prsP s) = true := by
  have h : (knownQ.all fun s => queryOk (prsP s)) = true := by decide +kernel
  exact List.all_eq_true.1 h
/-- a drawn query that may be wrong -/
structure QA (q : PQuery) : Prop where
  sm : queryOk q = true → smallQ q
  al : q.atoms.length ≤ 10
  ol : q.out.length ≤ 10
  aa : ∀ a ∈ q.atoms, a.rel.length ≤ 10 ∧ a.vars.length ≤ 10
theorem QA.of {q : PQuery} (h : queryOk q = true) (hs : smallQ q) : QA q := by
  have := qok_small h
  exact ⟨fun _ => hs, by omega, by omega, fun a ha => by have := this.2.2 a ha; omega⟩
theorem qok_vars {q : PQuery} (h : queryOk q = true) : (∀ a ∈ q.atoms, 1 ≤ a.vars.length ∧ ∀ v ∈ a.vars, 0 ≤ v ∧ v < q.n) ∧ (∀ j : Int, 0 ≤ j → j < q.n → j ∈ varsIn q.atoms) ∧ 1 ≤ q.atoms.length := by
  have hn := queryOk_n5 h
  simp only [queryOk, Bool.and_eq_true, inR, decide_eq_true_eq, List.all_eq_true] at h
  obtain ⟨⟨⟨⟨_, ha⟩, _⟩, hat⟩, hu⟩ := h
  refine ⟨fun a hm => ?_, fun j hj0 hj => ?_, by omega⟩
  · have := hat a hm
    simp only [atomOk, Bool.and_eq_true, List.all_eq_true, inR, decide_eq_true_eq] at this
    refine ⟨by omega, fun v hv => ?_⟩
    have h2 := this.2 v hv
    rw [wrap64_of (by omega) (by omega)] at h2
    omega
  · simp only [usesAll, List.all_eq_true, List.mem_range, List.contains_iff_mem] at hu
    have := hu j.toNat (by omega)
    rwa [Int.toNat_of_nonneg hj0] at this
theorem QA.n {q : PQuery} (h : queryOk q = true) {m : Int} (hm : m ∈ [0, 6, q.n + 1]) : QA ⟨m, q.atoms, q.out⟩ := by
  have := qok_small h
  have hv := qok_vars h
  have hn := queryOk_n5 h
  refine ⟨fun hk => ?_, by simp only; omega, by simp only; omega, fun a ha => by have := this.2.2 a ha; omega⟩
  have hn2 := queryOk_n5 hk
  have hv2 := (qok_vars hk).2.1
  simp only at hn2 hv2
  simp only [List.mem_cons, List.not_mem_nil, or_false] at hm
  have e : m = q.n + 1 := by omega
  subst e
  have h3 := hv2 q.n (by omega) (by omega)
  simp only [varsIn, List.mem_flatMap] at h3
  obtain ⟨a, ha, hva⟩ := h3
  have := (hv.1 a ha).2 q.n hva
  omega
theorem QA.atom {q : PQuery} (h : queryOk q = true) (hs : smallQ q) {nm : List UInt8} (hl : nm.length ≤ 10) : QA ⟨q.n, q.atoms ++ [⟨nm, [0]⟩], q.out⟩ := by
  have := qok_small h
  refine ⟨fun hk => ?_, by simp; omega, by simp only; omega, fun a ha => ?_⟩
  · rcases hs with hs | rfl
    · exact .inl hs
    · have := (qok_small hk).1
      simp [pathQ] at this
  · rcases List.mem_append.1 ha with ha | ha
    · have := this.2.2 a ha; omega
    · rw [List.mem_singleton.1 ha]; exact ⟨hl, by simp⟩
theorem QA.out {q : PQuery} (h : queryOk q = true) (hs : smallQ q) {v : Int} : QA ⟨q.n, q.atoms, q.out ++ [v]⟩ := by
  have := qok_small h
  refine ⟨fun hk => ?_, by simp only; omega, by simp; omega, fun a ha => by have := this.2.2 a ha; omega⟩
  rcases hs with hs | rfl
  · exact .inl hs
  · have := (qok_small hk).2.1
    simp [pathQ] at this
theorem QA.set {n : Int} {a a' : PAtom} {l : List PAtom} {o : List Int} (h : queryOk ⟨n, a :: l, o⟩ = true) (hs : smallQ ⟨n, a :: l, o⟩) (hr : a'.rel = a.rel) (hv : a'.vars.length ≤ a.vars.length) (hbad : a'.vars = [] ∨ (∃ v ∈ a'.vars, v < 0 ∨ 5 ≤ v)) : QA ⟨n, a' :: l, o⟩ := by
  have := qok_small h
  simp only [List.length_cons] at this
  refine ⟨fun hk => ?_, by simp only [List.length_cons]; omega, by simp only; omega, fun x hx => ?_⟩
  · have hn := queryOk_n5 hk
    have h2 := (qok_vars hk).1 a' (by simp)
    simp only at hn h2
    rcases hbad with hb | ⟨v, hm, hb⟩
    · rw [hb] at h2; simp at h2
    · have := h2.2 v hm; omega
  · rcases List.mem_cons.1 hx with hx | hx
    · have := this.2.2 a (by simp)
      rw [hx, hr]; omega
    · have := this.2.2 x (by simp [hx]); omega
end Go.Vs

