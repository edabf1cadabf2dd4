/-
  DD1A4: a part of a proof of this seat: the value-level semantics of Go code without maps, its walk rules, the frame of a row, facts of types, schedules, walks, plain lemmas (Pl15 Pl18 Pl19 Pl20 Pl16 Pl17 Pl21 Pl22 Pl23 Pl24 Pl25 Pl26 Pl27 Pl28 Pl29 Pl30 Pl31 Pl32 Pl33 Pl34 Pl35 Pl36 Pl37 Pl38 Pl39 Pl40 Pl41 Pl42 Pl43 Pl44 Pl57 Pl59 Pl45 Pl46 Pl47 Pl48 Pl49 Pl50 Pl51 Pl52 Pl53 Pl54 Pl55 Pl56 Pl58 Pl60 Pl61 Pl62 Pl63 Pl80 Pl81 Pl82 Pl83 Pl84 Pl85 Pl86 Pl87). It holds of every program and state that its hypotheses name.
-/
import Derived.Test.YtaoaoijchijlcaaGreatDoorDD1A3
set_option linter.unusedSimpArgs false
set_option linter.unusedVariables false
set_option linter.unnecessarySimpa false
namespace Go.Vs
def lowB (b : UInt8) : Bool := decide (97 <= b.toNat /\ b.toNat <= 122)
theorem lowB_lo {b : UInt8} (h : (b.toNat : Int) < 97) : lowB b = false := by simp only [lowB, decide_eq_false_iff_not]; omega
theorem lowB_hi {b : UInt8} (h : (122 : Int) < (b.toNat : Int)) : lowB b = false := by simp only [lowB, decide_eq_false_iff_not]; omega
theorem lowB_ok {b : UInt8} (h : ¬ (b.toNat : Int) < 97) (h' : ¬ (122 : Int) < (b.toNat : Int)) : lowB b = true := by simp only [lowB, decide_eq_true_eq]; omega
def nameOk (s : List UInt8) : Bool := decide (1 <= s.length /\ s.length <= 4) && s.all lowB
theorem nameOk_bad {s : List UInt8} (h : s.all lowB = false) : nameOk s = false := by rw [nameOk, h, Bool.and_false]
theorem nameOk_len {s : List UInt8} (h : ¬ (1 <= s.length /\ s.length <= 4)) : nameOk s = false := by rw [nameOk, decide_eq_false h, Bool.false_and]
theorem nameOk_ok {s : List UInt8} (h : s.all lowB = true) : nameOk s = decide (1 <= s.length /\ s.length <= 4) := by rw [nameOk, h, Bool.and_true]
def setOf (l : List Int) (n : Int) : Bool := l.all (fun x => inR x 0 (IntKind.i64.wrap (n - 1))) && decide l.Nodup
def atomOk (n : Int) (a : PAtom) : Bool := nameOk a.rel && inR a.vars.length 1 5 && a.vars.all fun x => inR x 0 (IntKind.i64.wrap (n - 1))
def varsIn (l : List PAtom) : List Int := l.flatMap PAtom.vars
def usesAll (n : Int) (l : List PAtom) : Bool := (List.range n.toNat).all fun (v : Nat) => (varsIn l).contains (v : Int)
def queryOk (q : PQuery) : Bool := inR q.n 1 5 && inR q.atoms.length 1 4 && setOf q.out q.n && q.atoms.all (atomOk q.n) && usesAll q.n q.atoms
theorem nodup_len : ∀ (n : Nat) (l : List Int), l.Nodup -> (∀ x ∈ l, 0 <= x /\ x < n) -> l.length <= n
 | 0, l, _, h => by
   cases l with
   | nil => simp
   | cons a r => have := h a (by simp); omega
 | n + 1, l, hn, h => by
   have h1 := nodup_len n (l.erase (n : Int)) (hn.erase _) fun x hx => by
    have h2 := h x (List.mem_of_mem_erase hx)
    have h3 := (hn.mem_erase_iff.1 hx).1
    omega
   rw [List.length_erase] at h1
   split at h1 <;> omega
theorem setOf_len {l : List Int} {n : Int} (hn : 1 <= n /\ n <= 5) (h : setOf l n = true) : (l.length : Int) <= n := by
 simp only [setOf, Bool.and_eq_true, List.all_eq_true, decide_eq_true_eq] at h
 obtain ⟨m, rfl⟩ : ∃ m : Nat, n = (m : Int) := ⟨n.toNat, by omega⟩
 have := nodup_len m l h.2 fun x hx => by
  have := h.1 x hx
  rw [wrap64_of (by omega) (by omega)] at this
  simp only [inR, Bool.and_eq_true, decide_eq_true_eq] at this
  omega
 omega
def idxL (l : List Int) (v : Int) : Int := if v ∈ l then ((l.takeWhile fun x => !(x == v)).length : Int) else -1
theorem idxL_at {l : List Int} {v : Int} {i : Nat} (h : AllTo (fun x => !(x == v)) l i) (hi : i < l.length) (e : l[i] = v) : idxL l v = i := by
 have hm : v ∈ l := e ▸ List.getElem_mem hi
 rw [idxL, if_pos hm, takeWhile_at h (by omega) (fun _ => by simp [e])]
theorem idxL_no {l : List Int} {v : Int} (h : (l.all fun x => !(x == v)) = true) : v ∉ l /\ idxL l v = -1 := by
 have hm : v ∉ l := fun hm => by
  have := (List.all_eq_true.1 h) v hm
  simp at this
 exact ⟨hm, by rw [idxL, if_neg hm]⟩
theorem idxL_ge (l : List Int) (v : Int) : decide (0 <= idxL l v) = l.contains v := by
 by_cases h : v ∈ l
 ·simp [idxL, h]
 ·simp [idxL, h]
structure SetTo (l : List Int) (n : Int) (i : Nat) : Prop where
 le : i <= l.length
 all : ∀ x ∈ l.take i, inR x 0 (IntKind.i64.wrap (n - 1)) = true
 nd : (l.take i).Nodup
theorem SetTo.zero {l : List Int} {n : Int} : SetTo l n 0 := ⟨by omega, by simp, by simp⟩
theorem SetTo.step {l : List Int} {n : Int} {i : Nat} (h : SetTo l n i) (hi : i < l.length) (h1 : inR l[i] 0 (IntKind.i64.wrap (n - 1)) = true) (h2 : l[i] ∉ l.take i) : SetTo l n (i + 1) := by
 refine ⟨hi, fun x hx => ?_, ?_⟩
 ·rw [List.take_succ_eq_append_getElem hi] at hx
  rcases List.mem_append.1 hx with h' | h'
  ·exact h.all x h'
  ·simp only [List.mem_singleton] at h'; rw [h']; exact h1
 ·rw [List.take_succ_eq_append_getElem hi]
  exact List.nodup_append.2 ⟨h.nd, by simp, fun a ha b hb e => by simp only [List.mem_singleton] at hb; subst hb; subst e; exact h2 ha⟩
theorem SetTo.done {l : List Int} {n : Int} {i : Nat} (h : SetTo l n i) (hi : l.length <= i) : setOf l n = true := by
 have h1 := h.all; have h2 := h.nd
 rw [List.take_of_length_le hi] at h1 h2
 simp only [setOf, Bool.and_eq_true, List.all_eq_true, decide_eq_true_eq]
 exact ⟨h1, h2⟩
theorem setOf_bad1 {l : List Int} {n : Int} {i : Nat} (hi : i < l.length) (h1 : inR l[i] 0 (IntKind.i64.wrap (n - 1)) = false) : setOf l n = false := by
 have : l.all (fun x => inR x 0 (IntKind.i64.wrap (n - 1))) = false := all_bad (p := fun x => inR x 0 (IntKind.i64.wrap (n - 1))) hi h1
 simp only [setOf, this, Bool.false_and]
theorem setOf_bad2 {l : List Int} {n : Int} {i : Nat} (hi : i < l.length) (h2 : l[i] ∈ l.take i) : setOf l n = false := by
 have : ¬ l.Nodup := fun hn => by
  have e : l = l.take i ++ l[i] :: l.drop (i + 1) := by rw [<- List.drop_eq_getElem_cons hi, List.take_append_drop]
  rw [e] at hn
  exact (List.nodup_append.1 hn).2.2 _ h2 _ (List.mem_cons.2 (.inl rfl)) rfl
 simp only [setOf, this, decide_false, Bool.and_false]
structure AtI (n : Int) (l : List PAtom) (i : Nat) : Prop where
 le : i <= l.length
 ok : AllTo (atomOk n) l i
theorem AtI.zero {n : Int} {l : List PAtom} : AtI n l 0 := ⟨by omega, allTo_zero⟩
structure AtK (n : Int) (l : List Int) (k : Nat) : Prop where
 le : k <= l.length
 ok : AllTo (fun x => inR x 0 (IntKind.i64.wrap (n - 1))) l k
theorem AtK.zero {n : Int} {l : List Int} : AtK n l 0 := ⟨by omega, allTo_zero⟩
theorem AtK.step {n : Int} {l : List Int} {k : Nat} (h : AtK n l k) (hk : k < l.length) (e : inR l[k] 0 (IntKind.i64.wrap (n - 1)) = true) : AtK n l (k + 1) := ⟨hk, allTo_step h.ok hk e⟩
theorem atomOk_bad {n : Int} {a : PAtom} {k : Nat} (hk : k < a.vars.length) (e : inR a.vars[k] 0 (IntKind.i64.wrap (n - 1)) = false) : atomOk n a = false := by
 have : a.vars.all (fun x => inR x 0 (IntKind.i64.wrap (n - 1))) = false := all_bad (p := fun x => inR x 0 (IntKind.i64.wrap (n - 1))) hk e
 simp only [atomOk, this, Bool.and_false]
theorem atomOk_done {n : Int} {a : PAtom} {k : Nat} (h : AtK n a.vars k) (hk : a.vars.length <= k) (h1 : nameOk a.rel = true) (h2 : inR a.vars.length 1 5 = true) : atomOk n a = true := by
 have := allTo_done h.ok hk
 simp only [atomOk, h1, h2, this]; rfl
theorem AtI.step {n : Int} {l : List PAtom} {i : Nat} (h : AtI n l i) (hi : i < l.length) (e : atomOk n l[i] = true) : AtI n l (i + 1) := ⟨hi, allTo_step h.ok hi e⟩
theorem queryOk_n {q : PQuery} (h : inR q.n 1 5 = false) : queryOk q = false := by simp only [queryOk, h, Bool.false_and]
theorem queryOk_a {q : PQuery} (h : inR q.atoms.length 1 4 = false) : queryOk q = false := by simp only [queryOk, h, Bool.false_and, Bool.and_false]
theorem queryOk_o {q : PQuery} (h : setOf q.out q.n = false) : queryOk q = false := by simp only [queryOk, h, Bool.false_and, Bool.and_false]
theorem queryOk_at {q : PQuery} {i : Nat} (hi : i < q.atoms.length) (h : atomOk q.n q.atoms[i] = false) : queryOk q = false := by
 have : q.atoms.all (atomOk q.n) = false := all_bad hi h
 simp only [queryOk, this, Bool.false_and, Bool.and_false]
theorem queryOk_u {q : PQuery} (h : usesAll q.n q.atoms = false) : queryOk q = false := by simp only [queryOk, h, Bool.and_false]
theorem queryOk_all {q : PQuery} (h1 : inR q.n 1 5 = true) (h2 : inR q.atoms.length 1 4 = true) (h3 : setOf q.out q.n = true) (h4 : q.atoms.all (atomOk q.n) = true) (h5 : usesAll q.n q.atoms = true) : queryOk q = true := by
 simp only [queryOk, h1, h2, h3, h4, h5]; rfl
def hasTo (l : List PAtom) (v : Int) (i : Nat) : Bool := (l.take i).any fun a => a.vars.contains v
theorem hasTo_zero (l : List PAtom) (v : Int) : hasTo l v 0 = false := by simp [hasTo]
theorem hasTo_step {l : List PAtom} {v : Int} {i : Nat} (hi : i < l.length) : hasTo l v (i + 1) = (hasTo l v i || l[i].vars.contains v) := by
 rw [hasTo, List.take_succ_eq_append_getElem hi, List.any_append]; simp [hasTo]
theorem hasTo_all {l : List PAtom} {v : Int} {i : Nat} (hi : l.length <= i) : hasTo l v i = (varsIn l).contains v := by
 rw [hasTo, List.take_of_length_le hi, Bool.eq_iff_iff]
 simp [varsIn]
structure UsTo (n : Int) (l : List PAtom) (v : Nat) : Prop where
 le : v <= n.toNat
 ok : AllTo (fun (v : Nat) => (varsIn l).contains (v : Int)) (List.range n.toNat) v
theorem UsTo.zero {n : Int} {l : List PAtom} : UsTo n l 0 := ⟨by omega, allTo_zero⟩
theorem UsTo.step {n : Int} {l : List PAtom} {v : Nat} (h : UsTo n l v) (hv : v < n.toNat) (e : (varsIn l).contains (v : Int) = true) : UsTo n l (v + 1) :=
 ⟨hv, allTo_step h.ok (by simpa using hv) (by simpa using e)⟩
theorem usesAll_bad {n : Int} {l : List PAtom} {v : Nat} (hv : v < n.toNat) (e : (varsIn l).contains (v : Int) = false) : usesAll n l = false :=
 all_bad (p := fun (v : Nat) => (varsIn l).contains (v : Int)) (l := List.range n.toNat) (i := v) (by simpa using hv) (by simpa using e)
theorem UsTo.done {n : Int} {l : List PAtom} {v : Nat} (h : UsTo n l v) (hv : n.toNat <= v) : usesAll n l = true := allTo_done h.ok (by simpa using hv)
def usedL (n : Nat) (vs : List Int) : List Bool := (List.range n).map fun (j : Nat) => vs.contains (j : Int)
@[simp] theorem usedL_length (n : Nat) (vs : List Int) : (usedL n vs).length = n := by simp [usedL]
theorem usedL_nil (n : Nat) : usedL n [] = List.replicate n false := by
 apply List.ext_getElem (by simp)
 intro i h1 h2; simp [usedL]
theorem usedL_snoc {n k : Nat} {vs : List Int} (h : k < n) : (usedL n vs).set k true = usedL n (vs ++ [(k : Int)]) := by
 apply List.ext_getElem (by simp)
 intro i h1 h2
 simp only [List.length_set, usedL_length] at h1
 rw [List.getElem_set]
 simp only [usedL, List.getElem_map, List.getElem_range]
 by_cases e : k = i
 ·subst e; simp
 ·have : ¬ ((i : Int) = (k : Int)) := by omega
  simp [e, this]
theorem usesAll_iff {n : Int} {l : List PAtom} : usesAll n l = (usedL n.toNat (varsIn l)).all id := by
 simp only [usesAll, usedL, List.all_map]; rfl
def rangeI (n : Nat) : List Int := (List.range n).map fun (k : Nat) => (k : Int)
@[simp] theorem rangeI_length (n : Nat) : (rangeI n).length = n := by simp [rangeI]
theorem rangeI_succ (n : Nat) : rangeI (n + 1) = rangeI n ++ [(n : Int)] := by simp [rangeI, List.range_succ]
theorem rangeI_zero : rangeI 0 = [] := rfl
def defOrd (q : PQuery) : List Int := if queryOk q then rangeI q.n.toNat else []
def sbd (q : PQuery) : PDec := if queryOk q then ⟨[rangeI q.n.toNat], [-1]⟩ else ⟨[], []⟩
theorem queryOk_n5 {q : PQuery} (h : queryOk q = true) : 1 <= q.n /\ q.n <= 5 := by
 cases h1 : inR q.n 1 5
 ·rw [queryOk_n h1] at h; cases h
 ·simpa [inR] using h1
theorem okQuery_strs {q : Query} (h : okQuery q) : ∀ a ∈ (plQuery q).atoms, a.rel.length <= maxLen := fun a ha => by
 simp only [plQuery, plS, List.mem_map] at ha
 obtain ⟨b, hb, rfl⟩ := ha
 exact (h.2.1.2 b hb).1
structure OrdI (q : PQuery) (i : Nat) : Prop where
 le : (i : Int) <= max 0 q.n
 ok : 0 < i -> queryOk q = true
theorem good_Dec0 (B : Nat) : Good (cDec ⟨nilS, nilS⟩) (whDec ⟨nilS, nilS⟩) B :=
 ⟨by simp [cDec, nilS, cS, dSl, idsL, D.ids, idsLL], by simp [cDec, nilS, cS, dSl, idsL, D.ids, idsLL], ⟨⟨⟨by simp [nilS], by simp [nilS]⟩, by simp [nilS]⟩, ⟨⟨by simp [nilS], by simp [nilS]⟩, by simp [nilS]⟩⟩⟩
theorem good_nilI (B : Nat) : Good (cS cI (nilS : Ints)) (whS whI (nilS : Ints)) B :=
 ⟨by simp [nilS, cS, dSl, idsL, D.ids, idsLL], by simp [nilS, cS, dSl, idsL, D.ids, idsLL], ⟨⟨by simp [nilS], by simp [nilS]⟩, by simp [nilS]⟩⟩
theorem good_Dec2 {B : Nat} {bags : List Ints} {par : List Int} {g1 g2 : Option Nat} {T1 T2 : TypeId × Nat}
  (hnd : (idsLL (bags.map (cS cI))).Nodup) (hlo : ∀ g ∈ idsLL (bags.map (cS cI)), B <= g) (hwh : ∀ r ∈ bags, whS whI r)
  (q1 : ∀ g, g1 = some g -> B <= g /\ g ∉ idsLL (bags.map (cS cI))) (e1 : bags ≠ [] -> g1 ≠ none)
  (q2 : ∀ g, g2 = some g -> B <= g /\ g ∉ idsLL (bags.map (cS cI))) (e2 : par ≠ [] -> g2 ≠ none) (hne : ∀ g, g1 = some g -> g2 = some g -> False) :
  Good (cDec ⟨⟨g1, some T1, bags⟩, ⟨g2, some T2, par⟩⟩) (whDec ⟨⟨g1, some T1, bags⟩, ⟨g2, some T2, par⟩⟩) B := by
 have K1 : Good (cS (cS cI) ⟨g1, some T1, bags⟩) (whS (whS whI) ⟨g1, some T1, bags⟩) B := good_row (fun g h => (q1 g h).1) e1 (fun g h => (q1 g h).2) ⟨hnd, hlo⟩ hwh
 have K2 : Good (cS cI ⟨g2, some T2, par⟩) (whS whI ⟨g2, some T2, par⟩) B := good_row (fun g h => (q2 g h).1) e2 (by simp) ⟨by simp, by simp⟩ (by simp [whI])
 have := Good.app K1 K2 fun g h h' => by
  rw [idsL_cS] at h h'
  have h' := (mem_sl_ids.1 h').resolve_right (by simp)
  rcases mem_sl_ids.1 h with h | h
  ·exact hne g h h'
  ·exact (q2 g h').2 h
 exact this
end Go.Vs
namespace Go.Vs
def nxP (ps : List Int) (k : Int) : Int := ps.getD k.toNat 0
def upI (ps : List Int) : Nat → Int → Option Int
 | 0, a => some a
 | m + 1, a => if a < 0 then some a else if inR (nxP ps a) (-1) (ps.length - 1) then upI ps m (nxP ps a) else none
def endNeg : Option Int → Bool
 | some a => decide (a < 0)
 | none => false
def treeAt (ps : List Int) (i : Nat) : Bool := inR (nxP ps i) (-1) (ps.length - 1) && endNeg (upI ps (ps.length + 1) i)
def rootsN (ps : List Int) : Nat := (ps.filter fun p => decide (p < 0)).length
def treeB (ps : List Int) : Bool := (List.range ps.length).all (treeAt ps) && decide (rootsN ps = 1)
def pathS (ps : List Int) : Nat → Int → List Int
 | 0, _ => []
 | m + 1, k => if inR k 0 (ps.length - 1) then k :: pathS ps m (nxP ps k) else []
def oneR (ps : List Int) : Nat := (ps.filter fun p => p == -1).length
def rootS (ps : List Int) : Int := if oneR ps = 1 then (ps.findIdx fun p => p == -1 : Nat) else -1
def lastZ (l : List Int) : Int := l.getD (l.length - 1) 0
def pathOk (ps : List Int) (i : Nat) : Bool := decide ((pathS ps (ps.length + 1) i).length <= ps.length) && decide (lastZ (pathS ps (ps.length + 1) i) = rootS ps)
def treeS (ps : List Int) : Bool := decide (0 <= rootS ps) && (List.range ps.length).all (pathOk ps)
section
variable {ps : List Int}
theorem path_yes {m : Nat} {k : Int} (h : inR k 0 (ps.length - 1) = true) : pathS ps (m + 1) k = k :: pathS ps m (nxP ps k) := by
 show (if inR k 0 (ps.length - 1) then k :: pathS ps m (nxP ps k) else []) = _
 rw [if_pos h]
theorem path_out {m : Nat} {k : Int} (h : ¬ inR k 0 (ps.length - 1) = true) : pathS ps m k = [] := by
 cases m with
 | zero => rfl
 | succ m =>
   show (if inR k 0 (ps.length - 1) then k :: pathS ps m (nxP ps k) else []) = _
   rw [if_neg h]
theorem inR_neg {k n : Int} (h : k < 0) : ¬ inR k 0 n = true := by simp only [inR, Bool.and_eq_true, decide_eq_true_eq]; omega
theorem upI_neg {m : Nat} {a : Int} (h : a < 0) : upI ps m a = some a := by
 cases m with
 | zero => rfl
 | succ m => rw [upI, if_pos h]
theorem upI_pos {m : Nat} {a b : Int} (ha : 0 <= a) (h : upI ps (m + 1) a = some b) : inR (nxP ps a) (-1) (ps.length - 1) = true /\ upI ps m (nxP ps a) = some b := by
 rw [upI, if_neg (by omega)] at h
 split at h
 ·rename_i h1; exact ⟨h1, h⟩
 ·cases h
theorem up_more : ∀ {m : Nat} {a b : Int}, b < 0 -> upI ps m a = some b -> upI ps (m + 1) a = some b /\ pathS ps (m + 1) a = pathS ps m a
 | 0, a, b, hb, h => by
   simp only [upI, Option.some.injEq] at h
   subst h
   exact ⟨upI_neg hb, by rw [path_out (inR_neg hb), path_out (inR_neg hb)]⟩
 | m + 1, a, b, hb, h => by
   by_cases ha : a < 0
   ·rw [upI_neg ha] at h
    refine ⟨by rw [upI_neg ha]; exact h, ?_⟩
    rw [path_out (inR_neg ha), path_out (inR_neg ha)]
   ·obtain ⟨h1, h2⟩ := upI_pos (by omega) h
    obtain ⟨h3, h4⟩ := up_more hb h2
    refine ⟨by rw [upI, if_neg ha, if_pos h1]; exact h3, ?_⟩
    by_cases hin : inR a 0 (ps.length - 1) = true
    ·rw [path_yes hin, path_yes hin, h4]
    ·rw [path_out hin, path_out hin]
theorem up_le {a b : Int} (hb : b < 0) {m : Nat} (h : upI ps m a = some b) : ∀ k, upI ps (m + k) a = some b /\ pathS ps (m + k) a = pathS ps m a
 | 0 => ⟨h, rfl⟩
 | k + 1 => by
   obtain ⟨h1, h2⟩ := up_le hb h k
   obtain ⟨h3, h4⟩ := up_more hb h1
   exact ⟨h3, h4.trans h2⟩
theorem path_in : ∀ (m : Nat) (a : Int), ∀ x ∈ pathS ps m a, 0 <= x /\ x < ps.length
 | 0, a, x, hx => by simp [pathS] at hx
 | m + 1, a, x, hx => by
   by_cases h : inR a 0 (ps.length - 1) = true
   ·rw [path_yes h] at hx
    simp only [inR, Bool.and_eq_true, decide_eq_true_eq] at h
    rcases List.mem_cons.1 hx with h' | h'
    ·omega
    ·exact path_in m _ x h'
   ·rw [path_out h] at hx; simp at hx
theorem path_tail : ∀ {m : Nat} {a b : Int}, b < 0 -> 0 <= a -> a < ps.length -> upI ps m a = some b -> ∀ x ∈ (pathS ps m a).tail, ∃ m', upI ps m' x = some b /\ (pathS ps m' x).length < (pathS ps m a).length
 | 0, a, b, _, _, _, _, x, hx => by simp [pathS] at hx
 | m + 1, a, b, hb, ha, hl, h, x, hx => by
   have hin : inR a 0 (ps.length - 1) = true := by simp only [inR, Bool.and_eq_true, decide_eq_true_eq]; omega
   obtain ⟨h1, h2⟩ := upI_pos ha h
   rw [path_yes hin] at hx ⊢
   simp only [List.tail_cons] at hx
   cases m with
   | zero => simp [pathS] at hx
   | succ m =>
     by_cases hq : inR (nxP ps a) 0 (ps.length - 1) = true
     ·have hq' := hq
      simp only [inR, Bool.and_eq_true, decide_eq_true_eq] at hq'
      rw [path_yes hq] at hx
      rcases List.mem_cons.1 hx with h' | h'
      ·subst h'; exact ⟨m + 1, h2, by simp⟩
      ·have := path_tail hb hq'.1 (by omega) h2 x (by rw [path_yes hq]; exact h')
       obtain ⟨m', e1, e2⟩ := this
       exact ⟨m', e1, by simp only [List.length_cons]; omega⟩
     ·rw [path_out hq] at hx; simp at hx
theorem path_nd : ∀ {m : Nat} {a b : Int}, b < 0 -> 0 <= a -> a < ps.length -> upI ps m a = some b -> (pathS ps m a).Nodup
 | 0, a, b, _, _, _, _ => by simp [pathS]
 | m + 1, a, b, hb, ha, hl, h => by
   have hin : inR a 0 (ps.length - 1) = true := by simp only [inR, Bool.and_eq_true, decide_eq_true_eq]; omega
   have ht := path_tail hb ha hl h
   obtain ⟨h1, h2⟩ := upI_pos ha h
   have hu := up_le hb h
   have e : pathS ps (m + 1) a = a :: pathS ps m (nxP ps a) := path_yes hin
   rw [e, List.nodup_cons]
   refine ⟨fun hm => ?_, ?_⟩
   ·obtain ⟨m', e1, e2⟩ := ht a (by rw [e]; exact hm)
    have hu' := up_le hb e1
    have a1 := (hu m').2
    have a2 := (hu' (m + 1)).2
    rw [Nat.add_comm] at a2
    rw [<- a1, a2] at e2
    omega
   ·by_cases hq : inR (nxP ps a) 0 (ps.length - 1) = true
    ·simp only [inR, Bool.and_eq_true, decide_eq_true_eq] at hq
     exact path_nd hb hq.1 (by omega) h2
    ·rw [path_out hq]; simp
theorem path_len {m : Nat} {a b : Int} (hb : b < 0) (ha : 0 <= a) (hl : a < ps.length) (h : upI ps m a = some b) : (pathS ps m a).length <= ps.length :=
 nodup_len ps.length _ (path_nd hb ha hl h) fun x hx => by have := path_in _ _ x hx; omega
theorem lastZ_cons {x : Int} {l : List Int} (h : l ≠ []) : lastZ (x :: l) = lastZ l := by
 cases l with
 | nil => exact absurd rfl h
 | cons y r => simp [lastZ]
theorem path_last : ∀ {m : Nat} {a b : Int}, b < 0 -> 0 <= a -> a < ps.length -> upI ps m a = some b -> 0 < m /\ pathS ps m a ≠ [] /\ nxP ps (lastZ (pathS ps m a)) = -1 /\ 0 <= lastZ (pathS ps m a) /\ lastZ (pathS ps m a) < ps.length
 | 0, a, b, hb, ha, _, h => by simp only [upI, Option.some.injEq] at h; omega
 | m + 1, a, b, hb, ha, hl, h => by
   have hin : inR a 0 (ps.length - 1) = true := by simp only [inR, Bool.and_eq_true, decide_eq_true_eq]; omega
   obtain ⟨h1, h2⟩ := upI_pos ha h
   have e : pathS ps (m + 1) a = a :: pathS ps m (nxP ps a) := path_yes hin
   rw [e]
   refine ⟨by omega, by simp, ?_⟩
   simp only [inR, Bool.and_eq_true, decide_eq_true_eq] at h1
   by_cases hq : 0 <= nxP ps a
   ·obtain ⟨_, e1, e2, e3, e4⟩ := path_last hb hq (by omega) h2
    rw [lastZ_cons e1]; exact ⟨e2, e3, e4⟩
   ·have hnil : pathS ps m (nxP ps a) = [] := path_out (inR_neg (by omega))
    rw [hnil]
    simp only [lastZ, List.length_singleton, Nat.sub_self, List.getD_cons_zero]
    exact ⟨by omega, ha, hl⟩
theorem path_up : ∀ {m : Nat} {a : Int}, 0 <= a -> a < ps.length -> (pathS ps m a).length < m -> nxP ps (lastZ (pathS ps m a)) = -1 -> upI ps m a = some (-1)
 | 0, a, _, _, h, _ => by omega
 | m + 1, a, ha, hl, h, he => by
   have hin : inR a 0 (ps.length - 1) = true := by simp only [inR, Bool.and_eq_true, decide_eq_true_eq]; omega
   have e : pathS ps (m + 1) a = a :: pathS ps m (nxP ps a) := path_yes hin
   rw [e] at h he
   simp only [List.length_cons] at h
   rw [upI, if_neg (by omega)]
   by_cases hq : inR (nxP ps a) 0 (ps.length - 1) = true
   ·simp only [inR, Bool.and_eq_true, decide_eq_true_eq] at hq
    have hne : pathS ps m (nxP ps a) ≠ [] := by
     cases m with
     | zero => omega
     | succ m => rw [path_yes (by simp only [inR, Bool.and_eq_true, decide_eq_true_eq]; omega)]; simp
    rw [lastZ_cons hne] at he
    rw [if_pos (by simp only [inR, Bool.and_eq_true, decide_eq_true_eq]; omega)]
    exact path_up hq.1 (by omega) (by omega) he
   ·have hnil : pathS ps m (nxP ps a) = [] := path_out hq
    rw [hnil] at he
    simp only [lastZ, List.length_singleton, Nat.sub_self, List.getD_cons_zero] at he
    rw [he, if_pos (by simp only [inR, Bool.and_eq_true, decide_eq_true_eq]; omega)]
    exact upI_neg (by omega)
theorem nxP_at {i : Nat} (h : i < ps.length) : nxP ps i = ps[i] := by
 rw [nxP, Int.toNat_natCast, getD_el _ h]
theorem two_at {α : Type} {p : α -> Bool} {l : List α} {i j : Nat} (hij : i < j) (hj : j < l.length) (h1 : p (l[i]'(by omega)) = true) (h2 : p l[j] = true) : 2 <= (l.filter p).length := by
 have e : l.filter p = (l.take (i + 1)).filter p ++ (l.drop (i + 1)).filter p := by rw [<- List.filter_append, List.take_append_drop]
 have m1 : l[i]'(by omega) ∈ (l.take (i + 1)).filter p := List.mem_filter.2 ⟨by
  rw [List.take_succ_eq_append_getElem (by omega)]; exact List.mem_append.2 (.inr (List.mem_singleton.2 rfl)), h1⟩
 have m2 : l[j] ∈ (l.drop (i + 1)).filter p := List.mem_filter.2 ⟨by
  rw [List.mem_iff_getElem]
  exact ⟨j - (i + 1), by simp; omega, by simp only [List.getElem_drop]; congr 1; omega⟩, h2⟩
 have l1 := List.length_pos_of_mem m1
 have l2 := List.length_pos_of_mem m2
 rw [e, List.length_append]; omega
theorem one_uniq {i j : Nat} (h : oneR ps = 1) (hi : i < ps.length) (hj : j < ps.length) (e1 : ps[i] = -1) (e2 : ps[j] = -1) : i = j := by
 rcases Nat.lt_trichotomy i j with hc | hc | hc
 ·have := two_at (p := fun p : Int => p == -1) hc hj (by simp [e1]) (by simp [e2])
  simp only [oneR] at h; omega
 ·exact hc
 ·have := two_at (p := fun p : Int => p == -1) hc hi (by simp [e2]) (by simp [e1])
  simp only [oneR] at h; omega
theorem root_at (h : oneR ps = 1) : ∃ r : Nat, rootS ps = (r : Int) /\ ∃ hr : r < ps.length, ps[r] = -1 := by
 have hm : ∃ x ∈ ps, (x == (-1 : Int)) = true := by
  have : 0 < (ps.filter fun p => p == (-1 : Int)).length := by simp only [oneR] at h; omega
  obtain ⟨x, hx⟩ := List.exists_mem_of_length_pos this
  obtain ⟨h1, h2⟩ := List.mem_filter.1 hx
  exact ⟨x, h1, h2⟩
 have hl := List.findIdx_lt_length_of_exists hm
 refine ⟨ps.findIdx fun p => p == -1, by rw [rootS, if_pos h], hl, ?_⟩
 have := List.findIdx_getElem (w := hl)
 simpa using this
theorem endNeg_iff {o : Option Int} : endNeg o = true ↔ ∃ b, o = some b /\ b < 0 := by
 cases o with
 | none => simp [endNeg]
 | some b => simp [endNeg]
theorem tree_eq (ps : List Int) : treeB ps = treeS ps := by
 rw [Bool.eq_iff_iff]
 simp only [treeB, treeS, Bool.and_eq_true, decide_eq_true_eq, List.all_eq_true, List.mem_range]
 constructor
 ·rintro ⟨h1, h2⟩
  have hpar : ∀ i (h : i < ps.length), -1 ≤ ps[i] ∧ ps[i] ≤ ps.length - 1 := fun i h => by
   have := h1 i h
   simp only [treeAt, Bool.and_eq_true, nxP_at h] at this
   simpa [inR] using this.1
  have hone : oneR ps = 1 := by
   rw [<- h2, oneR, rootsN]
   congr 1
   refine List.filter_congr fun x hx => ?_
   obtain ⟨i, hi, rfl⟩ := List.mem_iff_getElem.1 hx
   have := hpar i hi
   by_cases e : ps[i] = -1
   ·simp [e]
   ·simp [e]; omega
  obtain ⟨r, hr, hrl, hre⟩ := root_at hone
  refine ⟨by omega, fun i hi => ?_⟩
  have hi' := h1 i hi
  simp only [treeAt, Bool.and_eq_true] at hi'
  obtain ⟨b, hu, hb⟩ := endNeg_iff.1 hi'.2
  have hlen := path_len hb (by omega) (by omega) hu
  obtain ⟨_, _, e2, e3, e4⟩ := path_last hb (by omega) (by omega) hu
  simp only [pathOk, Bool.and_eq_true, decide_eq_true_eq]
  refine ⟨hlen, ?_⟩
  obtain ⟨l, hl⟩ : ∃ l : Nat, lastZ (pathS ps (ps.length + 1) i) = (l : Int) := ⟨(lastZ (pathS ps (ps.length + 1) i)).toNat, by omega⟩
  rw [hl] at e2 e4 ⊢
  have hll : l < ps.length := by omega
  rw [nxP_at hll] at e2
  rw [hr, one_uniq hone hll hrl e2 hre]
 ·rintro ⟨h1, h2⟩
  have hone : oneR ps = 1 := by
   by_cases hc : oneR ps = 1
   ·exact hc
   ·rw [rootS, if_neg hc] at h1; omega
  obtain ⟨r, hr, hrl, hre⟩ := root_at hone
  have hu : ∀ i, i < ps.length → upI ps (ps.length + 1) i = some (-1) := fun i hi => by
   have := h2 i hi
   simp only [pathOk, Bool.and_eq_true, decide_eq_true_eq] at this
   refine path_up (by omega) (by omega) (by omega) ?_
   rw [this.2, hr, nxP_at hrl, hre]
  have hpar : ∀ i, i < ps.length -> inR (nxP ps i) (-1) (ps.length - 1) = true := fun i hi => (upI_pos (by omega) (hu i hi)).1
  refine ⟨fun i hi => ?_, ?_⟩
  ·simp only [treeAt, hpar i hi, hu i hi, endNeg]; decide
  ·rw [← hone, oneR, rootsN]
   congr 1
   refine List.filter_congr fun x hx => ?_
   obtain ⟨i, hi, rfl⟩ := List.mem_iff_getElem.1 hx
   have := hpar i hi
   rw [nxP_at hi] at this
   simp only [inR, Bool.and_eq_true, decide_eq_true_eq] at this
   by_cases e : ps[i] = -1
   ·simp [e]
   ·simp [e]; omega
end
end Go.Vs
namespace Go.Vs
def ascAt (b : List Int) (i : Nat) : Bool := decide (i = 0) || decide (b.getD (i - 1) 0 < b.getD i 0)
def ascB (b : List Int) : Bool := (List.range b.length).all (ascAt b)
def bagI (n : Int) (b : List Int) : Bool := decide (0 < b.length) && ascB b && setOf b n
def bagAt (n : Int) (b : List Int) (i : Nat) : Bool := inR (b.getD i 0) 0 (IntKind.i64.wrap (n - 1)) && ascAt b i
def bagS (n : Int) (b : List Int) : Bool := (List.range b.length).all (bagAt n b) && decide (0 < b.length)
theorem asc_pw {b : List Int} (h : ascB b = true) : b.Pairwise (· < ·) := by
 simp only [ascB, List.all_eq_true, List.mem_range] at h
 have key : ∀ n i, i + n + 1 < b.length → b.getD i 0 < b.getD (i + n + 1) 0 := by
  intro n
  induction n with
  | zero =>
    intro i hi
    have := h (i + 1) (by omega)
    simp only [ascAt, Bool.or_eq_true, decide_eq_true_eq] at this
    simpa using this
  | succ n ih =>
    intro i hi
    have h1 := ih i (by omega)
    have := h (i + n + 1 + 1) (by omega)
    simp only [ascAt, Bool.or_eq_true, decide_eq_true_eq] at this
    have h2 : b.getD (i + n + 1) 0 < b.getD (i + n + 1 + 1) 0 := by simpa using this
    exact Int.lt_trans h1 h2
 refine List.pairwise_iff_getElem.2 fun i j hi hj hij => ?_
 have := key (j - i - 1) i (by omega)
 rw [show i + (j - i - 1) + 1 = j by omega, getD_el _ hi, getD_el _ hj] at this
 exact this
theorem bag_eq (n : Int) (b : List Int) : bagI n b = bagS n b := by
 rw [Bool.eq_iff_iff]
 simp only [bagI, bagS, ascB, Bool.and_eq_true, decide_eq_true_eq, List.all_eq_true, List.mem_range, bagAt]
 constructor
 ·rintro ⟨⟨h1, h2⟩, h3⟩
  refine ⟨fun i hi => ⟨?_, h2 i hi⟩, h1⟩
  simp only [setOf, Bool.and_eq_true, List.all_eq_true] at h3
  rw [getD_el _ hi]; exact h3.1 _ (List.getElem_mem hi)
 ·rintro ⟨h1, h2⟩
  refine ⟨⟨h2, fun i hi => (h1 i hi).2⟩, ?_⟩
  have hpw := asc_pw (b := b) (by simp only [ascB, List.all_eq_true, List.mem_range]; exact fun i hi => (h1 i hi).2)
  simp only [setOf, Bool.and_eq_true, List.all_eq_true, decide_eq_true_eq]
  refine ⟨fun x hx => ?_, hpw.imp fun h e => by omega⟩
  obtain ⟨i, hi, rfl⟩ := List.mem_iff_getElem.1 hx
  have := (h1 i hi).1
  rwa [getD_el _ hi] at this
def avars (a : PAtom) : List Int := (rangeI 5).filter fun v => a.vars.contains v
def commL (x y : List Int) : List Int := x.filter fun v => y.contains v
def inAB (a : PAtom) (b : List Int) : Bool := decide ((commL (avars a) b).length = (avars a).length)
def insD (a : PAtom) (b : List Int) : Bool := a.vars.all fun v => b.contains v
theorem inAB_eq {a : PAtom} {n : Int} (hn : 1 <= n /\ n <= 5) (h : atomOk n a = true) (b : List Int) : inAB a b = insD a b := by
 rw [Bool.eq_iff_iff]
 simp only [inAB, insD, decide_eq_true_eq, commL, List.length_filter_eq_length_iff, List.all_eq_true]
 have hv : ∀ v ∈ a.vars, 0 ≤ v ∧ v < 5 := fun v hv => by
  simp only [atomOk, Bool.and_eq_true, List.all_eq_true] at h
  have := h.2 v hv
  rw [wrap64_of (by omega) (by omega)] at this
  simp only [inR, Bool.and_eq_true, decide_eq_true_eq] at this
  omega
 constructor
 ·intro h1 v hva
  have h2 := hv v hva
  refine h1 v (List.mem_filter.2 ⟨?_, by simpa using hva⟩)
  simp only [rangeI, List.mem_map, List.mem_range]
  exact ⟨v.toNat, by omega, by omega⟩
 ·intro h1 v hva
  have := (List.mem_filter.1 hva).2
  exact h1 v (by simpa using this)
def topIs (bags : List (List Int)) (ps : List Int) (v : Int) (i : Nat) : Bool := (bags.getD i []).contains v && (decide (ps.getD i 0 < 0) || !((bags.getD (ps.getD i 0).toNat []).contains v))
def topN (bags : List (List Int)) (ps : List Int) (v : Int) (i : Nat) : Nat := ((List.range i).filter (topIs bags ps v)).length
theorem topN_step (bags : List (List Int)) (ps : List Int) (v : Int) (i : Nat) : topN bags ps v (i + 1) = topN bags ps v i + if topIs bags ps v i then 1 else 0 := by
 rw [topN, List.range_succ, List.filter_append, List.length_append]
 cases h : topIs bags ps v i <;> simp [topN, h]
theorem topN_le (bags : List (List Int)) (ps : List Int) (v : Int) (i : Nat) : topN bags ps v i <= i := by
 have := List.length_filter_le (topIs bags ps v) (List.range i)
 simpa [topN] using this
def anyIn (bags : List (List Int)) (a : PAtom) : Bool := bags.any fun b => inAB a b
def decOk (q : PQuery) (d : PDec) : Bool := queryOk q && decide (d.bags.length = d.par.length) && treeB d.par && d.bags.all (bagI q.n) && q.atoms.all (anyIn d.bags) && (List.range q.n.toNat).all fun v => decide (topN d.bags d.par (v : Int) d.bags.length = 1)
def placeOk (q : PQuery) (d : PDec) (i : Nat) : Bool := bagS q.n (d.bags.getD i []) && pathOk d.par i
theorem decOk_q {q : PQuery} {d : PDec} (h : queryOk q = false) : decOk q d = false := by simp only [decOk, h, Bool.false_and]
theorem decOk_l {q : PQuery} {d : PDec} (h : ¬ d.bags.length = d.par.length) : decOk q d = false := by simp only [decOk, decide_eq_false h, Bool.false_and, Bool.and_false]
theorem decOk_t {q : PQuery} {d : PDec} (h : treeB d.par = false) : decOk q d = false := by simp only [decOk, h, Bool.false_and, Bool.and_false]
theorem decOk_r {q : PQuery} {d : PDec} (h : rootS d.par < 0) : decOk q d = false := decOk_t (by rw [tree_eq, treeS, decide_eq_false (by omega), Bool.false_and])
theorem decOk_b {q : PQuery} {d : PDec} {i : Nat} (hi : i < d.bags.length) (h : bagI q.n d.bags[i] = false) : decOk q d = false := by
 have : d.bags.all (bagI q.n) = false := all_bad hi h
 simp only [decOk, this, Bool.false_and, Bool.and_false]
theorem decOk_p {q : PQuery} {d : PDec} {i : Nat} (hl : d.bags.length = d.par.length) (hi : i < d.bags.length) (h : placeOk q d i = false) : decOk q d = false := by
 rw [placeOk, getD_el _ hi, <- bag_eq] at h
 cases hb : bagI q.n d.bags[i]
 ·exact decOk_b hi hb
 ·rw [hb, Bool.true_and] at h
  refine decOk_t ?_
  rw [tree_eq, treeS]
  have : (List.range d.par.length).all (pathOk d.par) = false := all_bad (p := pathOk d.par) (l := List.range d.par.length) (i := i) (by simp; omega) (by simpa using h)
  rw [this, Bool.and_false]
theorem decOk_a {q : PQuery} {d : PDec} {i : Nat} (hi : i < q.atoms.length) (h : anyIn d.bags q.atoms[i] = false) : decOk q d = false := by
 have : q.atoms.all (anyIn d.bags) = false := all_bad hi h
 simp only [decOk, this, Bool.false_and, Bool.and_false]
theorem decOk_v {q : PQuery} {d : PDec} {v : Nat} (hv : v < q.n.toNat) (h : ¬ topN d.bags d.par (v : Int) d.bags.length = 1) : decOk q d = false := by
 have : ((List.range q.n.toNat).all fun v => decide (topN d.bags d.par (v : Int) d.bags.length = 1)) = false := all_bad (p := fun v : Nat => decide (topN d.bags d.par (v : Int) d.bags.length = 1)) (l := List.range q.n.toNat) (i := v) (by simpa using hv) (by simpa using h)
 simp only [decOk, this, Bool.and_false]
theorem decOk_all {q : PQuery} {d : PDec} (h1 : queryOk q = true) (h2 : d.bags.length = d.par.length) (h3 : treeB d.par = true) (h4 : d.bags.all (bagI q.n) = true) (h5 : q.atoms.all (anyIn d.bags) = true) (h6 : ((List.range q.n.toNat).all fun v => decide (topN d.bags d.par (v : Int) d.bags.length = 1)) = true) : decOk q d = true := by
 simp only [decOk, h1, h3, h4, h5, h6, decide_eq_true h2]; rfl
theorem places {q : PQuery} {d : PDec} (hl : d.bags.length = d.par.length) (hr : 0 <= rootS d.par) (h : (List.range d.bags.length).all (placeOk q d) = true) : treeB d.par = true /\ d.bags.all (bagI q.n) = true := by
 simp only [List.all_eq_true, List.mem_range, placeOk, Bool.and_eq_true] at h
 constructor
 ·rw [tree_eq, treeS, decide_eq_true hr, Bool.true_and]
  simp only [List.all_eq_true, List.mem_range]
  exact fun i hi => (h i (by omega)).2
 ·simp only [List.all_eq_true]
  intro b hb
  obtain ⟨i, hi, rfl⟩ := List.mem_iff_getElem.1 hb
  have := (h i hi).1
  rwa [getD_el _ hi, <- bag_eq] at this
structure AscI (b : List Int) (i : Nat) : Prop where
 le : 1 <= i /\ i <= b.length + 1
 ok : ∀ j, j < i -> j < b.length -> ascAt b j = true
theorem AscI.one {b : List Int} : AscI b 1 := by
 refine ⟨by omega, fun j hj _ => ?_⟩
 have : j = 0 := by omega
 subst this
 simp [ascAt]
theorem ascAt_eq {b : List Int} {i : Nat} (h1 : 1 <= i) (hi : i < b.length) : ascAt b i = decide (b[i - 1]'(by omega) < b[i]) := by
 rw [ascAt, getD_el _ hi, getD_el _ (show i - 1 < b.length by omega), decide_eq_false (by omega), Bool.false_or]
theorem AscI.step {b : List Int} {i : Nat} (h : AscI b i) (hi : i < b.length) (e : b[i - 1]'(by omega) < b[i]) : AscI b (i + 1) :=
 ⟨by omega, fun j hj hl => by
  by_cases hc : j < i
  ·exact h.ok j hc hl
  ·have : j = i := by omega
   subst this; rw [ascAt_eq h.le.1 hl]; simpa using e⟩
theorem AscI.done {b : List Int} {i : Nat} (h : AscI b i) (hi : b.length <= i) : ascB b = true := by
 simp only [ascB, List.all_eq_true, List.mem_range]
 exact fun j hj => h.ok j (by omega) hj
theorem asc_bad {b : List Int} {i : Nat} (h1 : 1 <= i) (hi : i < b.length) (e : ¬ b[i - 1]'(by omega) < b[i]) : ascB b = false :=
 all_bad (p := ascAt b) (l := List.range b.length) (i := i) (by simpa using hi) (by simp only [List.getElem_range]; rw [ascAt_eq h1 hi]; simpa using e)
structure BagI (n : Int) (b : List Int) (i : Nat) : Prop where
 le : i <= b.length
 ok : AllTo (bagAt n b) (List.range b.length) i
theorem BagI.zero {n : Int} {b : List Int} : BagI n b 0 := ⟨by omega, allTo_zero⟩
theorem BagI.step {n : Int} {b : List Int} {i : Nat} (h : BagI n b i) (hi : i < b.length) (e : bagAt n b i = true) : BagI n b (i + 1) := ⟨hi, allTo_step h.ok (by simpa using hi) (by simpa using e)⟩
theorem BagI.done {n : Int} {b : List Int} {i : Nat} (h : BagI n b i) (hi : b.length <= i) : bagS n b = decide (0 < b.length) := by
 rw [bagS, allTo_done h.ok (by simpa using hi), Bool.true_and]
theorem bagS_bad {n : Int} {b : List Int} {i : Nat} (hi : i < b.length) (e : bagAt n b i = false) : bagS n b = false := by
 have : (List.range b.length).all (bagAt n b) = false := all_bad (p := bagAt n b) (l := List.range b.length) (i := i) (by simpa using hi) (by simpa using e)
 rw [bagS, this, Bool.false_and]
theorem comm_step {l b : List Int} {i : Nat} (h : i < l.length) : commL (l.take (i + 1)) b = commL (l.take i) b ++ if b.contains l[i] then [l[i]] else [] := by
 rw [List.take_succ_eq_append_getElem h, commL, List.filter_append]
 cases e : b.contains l[i] <;> simp only [commL, List.filter_cons, e, List.filter_nil] <;> simp
def avTo (a : PAtom) (i : Nat) : List Int := (rangeI i).filter fun v => a.vars.contains v
theorem avTo_step (a : PAtom) (i : Nat) : avTo a (i + 1) = avTo a i ++ if a.vars.contains (i : Int) then [(i : Int)] else [] := by
 rw [avTo, rangeI_succ, List.filter_append]
 cases e : a.vars.contains (i : Int) <;> simp only [avTo, List.filter_cons, e, List.filter_nil] <;> simp
theorem avTo_len (a : PAtom) (i : Nat) : (avTo a i).length <= i := by
 have := List.length_filter_le (fun v => a.vars.contains v) (rangeI i)
 simpa [avTo] using this
structure InTo (b : List Int) (a : PAtom) (i : Nat) : Prop where
 le : i <= a.vars.length
 ok : AllTo (fun v => b.contains v) a.vars i
theorem InTo.zero {b : List Int} {a : PAtom} : InTo b a 0 := ⟨by omega, allTo_zero⟩
theorem InTo.step {b : List Int} {a : PAtom} {i : Nat} (h : InTo b a i) (hi : i < a.vars.length) (e : a.vars[i] ∈ b) : InTo b a (i + 1) := ⟨hi, allTo_step h.ok hi (by simpa using e)⟩
theorem InTo.done {b : List Int} {a : PAtom} {i : Nat} (h : InTo b a i) (hi : a.vars.length <= i) : insD a b = true := allTo_done h.ok hi
theorem ins_bad {b : List Int} {a : PAtom} {i : Nat} (hi : i < a.vars.length) (e : ¬ a.vars[i] ∈ b) : insD a b = false := all_bad (p := fun v => b.contains v) hi (by simpa using e)
structure TreI (ps : List Int) (i : Nat) : Prop where
 le : i <= ps.length
 ok : AllTo (treeAt ps) (List.range ps.length) i
theorem TreI.zero {ps : List Int} : TreI ps 0 := ⟨by omega, allTo_zero⟩
theorem TreI.step {ps : List Int} {i : Nat} (h : TreI ps i) (hi : i < ps.length) (e : treeAt ps i = true) : TreI ps (i + 1) := ⟨hi, allTo_step h.ok (by simpa using hi) (by simpa using e)⟩
def rootsTo (ps : List Int) (i : Nat) : Nat := ((ps.take i).filter fun p => decide (p < 0)).length
theorem rootsTo_step {ps : List Int} {i : Nat} (h : i < ps.length) : rootsTo ps (i + 1) = rootsTo ps i + if ps[i] < 0 then 1 else 0 := by
 rw [rootsTo, List.take_succ_eq_append_getElem h, List.filter_append, List.length_append]
 by_cases e : ps[i] < 0 <;> simp [rootsTo, e]
theorem rootsTo_le (ps : List Int) (i : Nat) : rootsTo ps i <= i := by
 have := List.length_filter_le (fun p : Int => decide (p < 0)) (ps.take i)
 rw [List.length_take] at this
 simp only [rootsTo]; omega
theorem TreI.done {ps : List Int} {i : Nat} (h : TreI ps i) (hi : ps.length <= i) : treeB ps = decide (rootsTo ps i = 1) := by
 rw [treeB, allTo_done h.ok (by simpa using hi), Bool.true_and, rootsTo, List.take_of_length_le hi]; rfl
theorem treeB_bad {ps : List Int} {i : Nat} (hi : i < ps.length) (e : treeAt ps i = false) : treeB ps = false := by
 have : (List.range ps.length).all (treeAt ps) = false := all_bad (p := treeAt ps) (l := List.range ps.length) (i := i) (by simpa using hi) (by simpa using e)
 rw [treeB, this, Bool.false_and]
structure UpT (ps : List Int) (i : Nat) (p : Nat × Int) : Prop where
 le : p.1 <= ps.length + 1
 at_ : -1 <= p.2 /\ p.2 <= ps.length - 1
 up : upI ps (ps.length + 1) i = upI ps (ps.length + 1 - p.1) p.2
theorem upI_succ {ps : List Int} {m : Nat} {a : Int} (ha : 0 <= a) : upI ps (m + 1) a = if inR (nxP ps a) (-1) (ps.length - 1) then upI ps m (nxP ps a) else none := by rw [upI, if_neg (by omega)]
theorem UpT.step {ps : List Int} {i k : Nat} {a q : Int} (h : UpT ps i (k, a)) (hk : k <= ps.length) (ha : 0 <= a) (e : nxP ps a = q) (hq : inR q (-1) (ps.length - 1) = true) : UpT ps i (k + 1, q) := by
 have h1 := h.up
 simp only at h1
 rw [show ps.length + 1 - k = (ps.length - k) + 1 by omega, upI_succ (m := ps.length - k) ha, e, if_pos hq] at h1
 simp only [inR, Bool.and_eq_true, decide_eq_true_eq] at hq
 exact ⟨by simp only; omega, hq, by rw [h1]; simp only; rw [show ps.length + 1 - (k + 1) = ps.length - k by omega]⟩
theorem UpT.bad {ps : List Int} {i k : Nat} {a q : Int} (h : UpT ps i (k, a)) (hk : k <= ps.length) (ha : 0 <= a) (e : nxP ps a = q) (hq : inR q (-1) (ps.length - 1) = false) : treeAt ps i = false := by
 have h1 := h.up
 simp only at h1
 rw [show ps.length + 1 - k = (ps.length - k) + 1 by omega, upI_succ (m := ps.length - k) ha, e, if_neg (by simp [hq])] at h1
 rw [treeAt, h1]; simp [endNeg]
theorem UpT.fin {ps : List Int} {i k : Nat} {a : Int} (h : UpT ps i (k, a)) (hk : ¬ (k <= ps.length /\ 0 <= a)) : endNeg (upI ps (ps.length + 1) i) = decide (a < 0) := by
 have h1 := h.up
 have hle := h.le
 simp only at h1 hle
 rw [h1]
 by_cases ha : a < 0
 ·rw [upI_neg ha]; rfl
 ·have : ps.length + 1 - k = 0 := by omega
  rw [this]; rfl
structure RootI (ps : List Int) (p : Nat × Int) : Prop where
 le : p.1 <= ps.length
 no : p.2 = -1 -> ∀ j (h : j < ps.length), j < p.1 -> ps[j] ≠ -1
 some : p.2 ≠ -1 -> ∃ r : Nat, p.2 = (r : Int) /\ r < p.1 /\ ∃ hr : r < ps.length, ps[r] = -1 /\ ∀ j (h : j < ps.length), j < p.1 -> j ≠ r -> ps[j] ≠ -1
theorem oneR_zero {ps : List Int} (h : ∀ j (h : j < ps.length), ps[j] ≠ -1) : oneR ps = 0 := by
 rw [oneR, List.length_eq_zero_iff, List.filter_eq_nil_iff]
 intro x hx
 obtain ⟨i, hi, rfl⟩ := List.mem_iff_getElem.1 hx
 simpa using h i hi
theorem oneR_one {ps : List Int} {r : Nat} (hr : r < ps.length) (e : ps[r] = -1) (h : ∀ j (h : j < ps.length), j ≠ r -> ps[j] ≠ -1) : oneR ps = 1 := by
 have e0 : ps = ps.take r ++ ps[r] :: ps.drop (r + 1) := by rw [<- List.drop_eq_getElem_cons hr, List.take_append_drop]
 have h1 : ((ps.take r).filter fun p => p == (-1 : Int)) = [] := by
  rw [List.filter_eq_nil_iff]; intro x hx
  obtain ⟨i, hi, rfl⟩ := List.mem_iff_getElem.1 hx
  rw [List.length_take] at hi
  rw [List.getElem_take]
  simpa using h i (by omega) (by omega)
 have h2 : ((ps.drop (r + 1)).filter fun p => p == (-1 : Int)) = [] := by
  rw [List.filter_eq_nil_iff]; intro x hx
  obtain ⟨i, hi, rfl⟩ := List.mem_iff_getElem.1 hx
  rw [List.length_drop] at hi
  rw [List.getElem_drop]
  simpa using h (r + 1 + i) (by omega) (by omega)
 rw [oneR, e0, List.filter_append, List.filter_cons, h1, h2, e]; simp
theorem RootI.done {ps : List Int} {i : Nat} {o : Int} (h : RootI ps (i, o)) (hi : ps.length <= i) : rootS ps = o := by
 by_cases ho : o = -1
 ·have := oneR_zero fun j hj => h.no ho j hj (by simp only; omega)
  rw [rootS, if_neg (by omega), ho]
 ·obtain ⟨r, e, _, hr, e1, e2⟩ := h.some ho
  have h1 := oneR_one hr e1 fun j hj hne => e2 j hj (by simp only; omega) hne
  obtain ⟨r', e', hr', e1'⟩ := root_at h1
  rw [e', one_uniq h1 hr' hr e1' e1]; exact e.symm
theorem RootI.two {ps : List Int} {i : Nat} {o : Int} (h : RootI ps (i, o)) (ho : 0 <= o) (hi : i < ps.length) (e : ps[i] = -1) : rootS ps = -1 := by
 obtain ⟨r, _, hlt, hr, e1, _⟩ := h.some (by simp only; omega)
 simp only at hlt
 have := two_at (p := fun p : Int => p == -1) hlt hi (by simp [e1]) (by simp [e])
 rw [rootS, if_neg (by simp only [oneR]; omega)]
theorem RootI.put {ps : List Int} {i : Nat} {o : Int} (h : RootI ps (i, o)) (ho : o < 0) (hi : i < ps.length) (e : ps[i] = -1) : RootI ps (i + 1, (i : Int)) := by
 have ho' : o = -1 := by
  by_cases hc : o = -1
  ·exact hc
  ·obtain ⟨r, e, _⟩ := h.some hc
   simp only at e; omega
 exact ⟨by simp only; omega, fun hc => by simp only at hc; omega, fun _ => ⟨i, rfl, by simp only; omega, hi, e, fun j hj hji hne => h.no ho' j hj (by simp only at hji ⊢; omega)⟩⟩
theorem RootI.skip {ps : List Int} {i : Nat} {o : Int} (h : RootI ps (i, o)) (hi : i < ps.length) (e : ps[i] ≠ -1) : RootI ps (i + 1, o) := by
 refine ⟨by simp only; omega, fun hc j hj hji => ?_, fun hc => ?_⟩
 ·by_cases hx : j = i
  ·subst hx; exact e
  ·exact h.no hc j hj (by simp only at hji ⊢; omega)
 ·obtain ⟨r, e1, e2, hr, e3, e4⟩ := h.some hc
  simp only at e2
  exact ⟨r, e1, by simp only; omega, hr, e3, fun j hj hji hne => by
   by_cases hx : j = i
   ·subst hx; exact e
   ·exact e4 j hj (by simp only at hji ⊢; omega) hne⟩
theorem RootI.zero {ps : List Int} : RootI ps (0, -1) := ⟨by simp, fun _ j _ hj => by simp at hj, fun h => absurd rfl h⟩
structure PathI (ps : List Int) (k0 : Int) (p : Int × List Int) : Prop where
 le : p.2.length <= ps.length + 1
 eq : pathS ps (ps.length + 1) k0 = p.2 ++ pathS ps (ps.length + 1 - p.2.length) p.1
theorem PathI.zero {ps : List Int} {k0 : Int} : PathI ps k0 (k0, []) := ⟨by simp, by simp⟩
theorem PathI.step {ps : List Int} {k0 k : Int} {o : List Int} (h : PathI ps k0 (k, o)) (hk : inR k 0 (ps.length - 1) = true) (ho : o.length <= ps.length) : PathI ps k0 (nxP ps k, o ++ [k]) := by
 have h1 := h.eq
 simp only at h1
 rw [show ps.length + 1 - o.length = (ps.length - o.length) + 1 by omega, path_yes hk] at h1
 refine ⟨by simp only [List.length_append, List.length_singleton]; omega, ?_⟩
 simp only [List.length_append, List.length_singleton]
 rw [h1, show ps.length + 1 - (o.length + 1) = ps.length - o.length by omega]; simp
theorem PathI.done {ps : List Int} {k0 k : Int} {o : List Int} (h : PathI ps k0 (k, o)) (hk : ¬ (inR k 0 (ps.length - 1) = true /\ o.length <= ps.length)) : pathS ps (ps.length + 1) k0 = o := by
 have h1 := h.eq
 have hle := h.le
 simp only at h1 hle
 by_cases hc : inR k 0 (ps.length - 1) = true
 ·have : ps.length + 1 - o.length = 0 := by
   have : ¬ o.length <= ps.length := fun hh => hk ⟨hc, hh⟩
   omega
  rw [h1, this]; simp [pathS]
 ·rw [h1, path_out hc, List.append_nil]
def anyTo {α : Type} (f : α -> Bool) (l : List α) (k : Nat) : Bool := (l.take k).any f
theorem anyTo_zero {α : Type} (f : α -> Bool) (l : List α) : anyTo f l 0 = false := by simp [anyTo]
theorem anyTo_step {α : Type} {f : α -> Bool} {l : List α} {k : Nat} (h : k < l.length) : anyTo f l (k + 1) = (anyTo f l k || f l[k]) := by
 rw [anyTo, List.take_succ_eq_append_getElem h, List.any_append]; simp [anyTo]
theorem anyTo_all {α : Type} {f : α -> Bool} {l : List α} {k : Nat} (h : l.length <= k) : anyTo f l k = l.any f := by rw [anyTo, List.take_of_length_le h]
theorem tree_par {ps : List Int} (h : treeB ps = true) (i : Nat) (hi : i < ps.length) : -1 <= ps[i] /\ ps[i] < ps.length := by
 simp only [treeB, Bool.and_eq_true, List.all_eq_true, List.mem_range] at h
 have := h.1 i hi
 simp only [treeAt, Bool.and_eq_true, nxP_at hi] at this
 have := this.1
 simp only [inR, Bool.and_eq_true, decide_eq_true_eq] at this
 omega
theorem path_ne {ps : List Int} {i : Nat} (h : i < ps.length) : 0 < (pathS ps (ps.length + 1) i).length := by
 rw [path_yes (by simp only [inR, Bool.and_eq_true, decide_eq_true_eq]; omega)]; simp
structure ToI {α : Type} (f : α → Bool) (l : List α) (i : Nat) : Prop where
 le : i <= l.length
 ok : AllTo f l i
theorem ToI.zero {α : Type} {f : α -> Bool} {l : List α} : ToI f l 0 := ⟨by omega, allTo_zero⟩
theorem ToI.step {α : Type} {f : α -> Bool} {l : List α} {i : Nat} (h : ToI f l i) (hi : i < l.length) (e : f l[i] = true) : ToI f l (i + 1) := ⟨hi, allTo_step h.ok hi e⟩
theorem ToI.done {α : Type} {f : α -> Bool} {l : List α} {i : Nat} (h : ToI f l i) (hi : l.length <= i) : l.all f = true := allTo_done h.ok hi
def topV (d : PDec) (v : Nat) : Bool := decide (topN d.bags d.par (v : Int) d.bags.length = 1)
structure VarI (d : PDec) (n : Nat) (v : Nat) : Prop where
 le : v <= n
 ok : AllTo (topV d) (List.range n) v
theorem VarI.zero {d : PDec} {n : Nat} : VarI d n 0 := ⟨by omega, allTo_zero⟩
theorem VarI.step {d : PDec} {n v : Nat} (h : VarI d n v) (hv : v < n) (e : topN d.bags d.par (v : Int) d.bags.length = 1) : VarI d n (v + 1) := ⟨hv, allTo_step h.ok (by simpa using hv) (by simpa [topV] using e)⟩
theorem VarI.done {d : PDec} {n v : Nat} (h : VarI d n v) (hv : n <= v) : ((List.range n).all fun v => decide (topN d.bags d.par (v : Int) d.bags.length = 1)) = true := allTo_done h.ok (by simpa using hv)
structure PlI (q : PQuery) (d : PDec) (i : Nat) : Prop where
 le : i <= d.bags.length
 ok : AllTo (placeOk q d) (List.range d.bags.length) i
theorem PlI.zero {q : PQuery} {d : PDec} : PlI q d 0 := ⟨by omega, allTo_zero⟩
theorem PlI.step {q : PQuery} {d : PDec} {i : Nat} (h : PlI q d i) (hi : i < d.bags.length) (e : placeOk q d i = true) : PlI q d (i + 1) := ⟨hi, allTo_step h.ok (by simpa using hi) (by simpa using e)⟩
theorem PlI.done {q : PQuery} {d : PDec} {i : Nat} (h : PlI q d i) (hi : d.bags.length <= i) : (List.range d.bags.length).all (placeOk q d) = true := allTo_done h.ok (by simpa using hi)
theorem any_ins {q : PQuery} (hq : queryOk q = true) {a : PAtom} (ha : a ∈ q.atoms) (bags : List (List Int)) : (bags.any fun b => insD a b) = anyIn bags a := by
 have h1 := queryOk_n5 hq
 have h2 : atomOk q.n a = true := by
  cases hh : q.atoms.all (atomOk q.n)
  ·simp only [queryOk, hh, Bool.false_and, Bool.and_false] at hq; cases hq
  ·exact (List.all_eq_true.1 hh) a ha
 simp only [anyIn]
 congr 1
 funext b
 exact (inAB_eq h1 h2 b).symm
def tabOk (t : PTab) : Bool := nameOk t.name && rowsOk t.rel.ar t.rel.rows && decide (1 <= t.rel.ar) && decide (t.rel.rows.length <= 16)
def dbAt (l : List PTab) (j : Nat) : Bool := (decide (j = 0) || Op.bytesLess (l.getD (j - 1) default).name (l.getD j default).name) && tabOk (l.getD j default)
def dbOk (d : PDb) : Bool := decide (d.tabs.length <= 6) && (List.range d.tabs.length).all (dbAt d.tabs)
structure DbTo (l : List PTab) (i : Nat) : Prop where
 le : i <= l.length
 ok : AllTo (dbAt l) (List.range l.length) i
theorem DbTo.zero {l : List PTab} : DbTo l 0 := ⟨by omega, allTo_zero⟩
theorem DbTo.step {l : List PTab} {i : Nat} (h : DbTo l i) (hi : i < l.length) (e : dbAt l i = true) : DbTo l (i + 1) := ⟨hi, allTo_step h.ok (by simpa using hi) (by simpa using e)⟩
theorem DbTo.done {l : List PTab} {i : Nat} (h : DbTo l i) (hi : l.length <= i) : dbOk ⟨l⟩ = decide (l.length <= 6) := by
 have := allTo_done h.ok (by simpa using hi)
 simp only [dbOk, this, Bool.and_true]
theorem dbOk_len {d : PDb} (h : dbOk d = true) : d.tabs.length <= 6 := by
 simp only [dbOk, Bool.and_eq_true, decide_eq_true_eq] at h; exact h.1
theorem dbOk_tab {d : PDb} (h : dbOk d = true) {t : PTab} (ht : t ∈ d.tabs) : tabOk t = true := by
 obtain ⟨i, hi, rfl⟩ := List.getElem_of_mem ht
 simp only [dbOk, Bool.and_eq_true, List.all_eq_true] at h
 have := h.2 i (by simpa using hi)
 simp only [dbAt, Bool.and_eq_true] at this
 have h2 := this.2
 rwa [getD_el _ hi] at h2
theorem dbAt_eq {l : List PTab} {i : Nat} (hi : i < l.length) : dbAt l i = ((decide (i = 0) || Op.bytesLess (l[i - 1]'(by omega)).name l[i].name) && tabOk l[i]) := by
 rw [dbAt, getD_el _ hi, getD_el _ (show i - 1 < l.length by omega)]
def fmtRow (r : List Int) : List UInt8 := [40] ++ joinB [44] (r.map decZ) ++ [41]
def fmtRel (r : PReln) : List UInt8 := if rowsOk r.ar r.rows then decZ r.ar ++ [58] ++ joinB [32] (r.rows.map fmtRow) else []
theorem strW_map {α : Type} (f : α -> List UInt8) (s k : Nat) : ∀ (l : List α), (∀ a ∈ l, (f a).length <= k) -> strW s (l.map f) <= (k + s) * l.length
 | [], _ => by simp [strW]
 | a :: r, h => by
   have h1 := strW_map f s k r fun b hb => h b (by simp [hb])
   have h2 := h a (by simp)
   simp only [List.map_cons, strW, List.length_cons, Nat.mul_add, Nat.mul_one]; omega
def ckB (x : Int) (b : UInt8) : Int := (31 * x + b.toNat + 1).tmod 65521
def ckS (s : List UInt8) : Int := s.foldl ckB 7
def runNm (v : Int) (nm : List UInt8) : List UInt8 := [116] ++ decZ v ++ [46] ++ nm
def headLn (t : PTab) : List UInt8 := t.name ++ [61] ++ decZ (ckS (fmtRel t.rel)) ++ [10]
def headTx (l : List PTab) : List UInt8 := l.flatMap headLn
def runs (v : Int) (l : List PTab) : List PFile := l.map fun t => ⟨runNm v t.name, fmtRel t.rel⟩
def verB (d : PDb) (v : Int) : Bool := dbOk d && inR v 1 99
@[simp] theorem runs_length (v : Int) (l : List PTab) : (runs v l).length = l.length := by simp [runs]
def lkT (d : PDb) (nm : List UInt8) : Option PReln := if dbOk d then (d.tabs.find? fun t => t.name == nm).map PTab.rel else none
def lkB (d : PDb) (nm : List UInt8) : Bool := (lkT d nm).isSome
def lkR (d : PDb) (nm : List UInt8) : PReln := (lkT d nm).getD ⟨0, []⟩
theorem lk_no {d : PDb} {nm : List UInt8} (h : dbOk d = false) : lkB d nm = false /\ lkR d nm = ⟨0, []⟩ := by simp [lkB, lkR, lkT, h]
theorem find_no {α : Type} {p : α -> Bool} {l : List α} (h : (l.all fun a => !p a) = true) : l.find? p = none := by
 rw [List.find?_eq_none]; intro x hx
 have := (List.all_eq_true.1 h) x hx
 simpa using this
theorem lk_none {l : List PTab} {nm : List UInt8} (h : (l.all fun t => !(t.name == nm)) = true) : lkB ⟨l⟩ nm = false /\ lkR ⟨l⟩ nm = ⟨0, []⟩ := by
 have := find_no (p := fun t : PTab => t.name == nm) h
 by_cases hd : dbOk ⟨l⟩ = true
 ·have hT : lkT ⟨l⟩ nm = none := by rw [lkT, if_pos hd]; simp only; rw [this]; rfl
  exact ⟨by rw [lkB, hT]; rfl, by rw [lkR, hT]; rfl⟩
 ·exact lk_no (by simpa using hd)
structure LkTo (l : List PTab) (nm : List UInt8) (i : Nat) : Prop where
 le : i <= l.length
 ok : AllTo (fun t => !(t.name == nm)) l i
theorem LkTo.zero {l : List PTab} {nm : List UInt8} : LkTo l nm 0 := ⟨by omega, allTo_zero⟩
theorem LkTo.step {l : List PTab} {nm : List UInt8} {i : Nat} (h : LkTo l nm i) (hi : i < l.length) (e : ¬ l[i].name = nm) : LkTo l nm (i + 1) := ⟨hi, allTo_step h.ok hi (by simp [e])⟩
theorem LkTo.done {l : List PTab} {nm : List UInt8} {i : Nat} (h : LkTo l nm i) (hi : l.length <= i) : lkB ⟨l⟩ nm = false /\ lkR ⟨l⟩ nm = ⟨0, []⟩ := lk_none (allTo_done h.ok hi)
def hasR (r : PReln) (row : List Int) : Bool := rowsOk r.ar r.rows && placeB r.rows row
def difB (a b : PReln) : Bool := rowsOk a.ar a.rows && rowsOk b.ar b.rows && decide (a.ar = b.ar)
def difL (l : List (List Int)) (b : List (List Int)) : List (List Int) := l.filter fun r => !placeB b r
def difR (a b : PReln) : PReln := if difB a b then ⟨a.ar, difL a.rows b.rows⟩ else ⟨0, []⟩
def fitB (d : PDb) (x : PDelta) : Bool := lkB d x.name && rowsOk x.ins.ar x.ins.rows && rowsOk x.del.ar x.del.rows && decide (x.ins.ar = (lkR d x.name).ar) && decide (x.del.ar = (lkR d x.name).ar)
def norI (r : PReln) (l : List (List Int)) : List (List Int) := l.filter fun y => !hasR r y
def norD (r ins : PReln) (l : List (List Int)) : List (List Int) := l.filter fun y => hasR r y && !hasR ins y
def norP (d : PDb) (x : PDelta) : PDelta := if fitB d x then ⟨x.name, ⟨(lkR d x.name).ar, norI (lkR d x.name) x.ins.rows⟩, ⟨(lkR d x.name).ar, norD (lkR d x.name) x.ins x.del.rows⟩⟩ else ⟨[], ⟨0, []⟩, ⟨0, []⟩⟩
structure NorI (f : List (List Int) → List (List Int)) (l : List (List Int)) (B : Nat) (p : Nat × List Ints) (h : Nat) : Prop where
 le : p.1 <= l.length
 pl : p.2.map (plS plI) = f (l.take p.1)
 ok : ∀ y ∈ p.2, okS okI y
 good : GoodL (cS cI) (whS whI) B h p.2
theorem NorI.zero {f : List (List Int) -> List (List Int)} {l : List (List Int)} {B h : Nat} (hf : f [] = []) : NorI f l B (0, []) h := ⟨by simp, by simp [hf], by simp, GoodL.nil⟩
theorem NorI.skip {f : List (List Int) -> List (List Int)} {l : List (List Int)} {B h h' i : Nat} {ys : List Ints} (H : NorI f l B (i, ys) h) (hi : i < l.length) (e : f (l.take (i + 1)) = f (l.take i)) (hh : h <= h') : NorI f l B (i + 1, ys) h' :=
 ⟨hi, by rw [e]; exact H.pl, H.ok, ⟨H.good.nd, H.good.lo, fun g hg => Nat.lt_of_lt_of_le (H.good.hi g hg) hh, H.good.wh⟩⟩
theorem NorI.snoc {f : List (List Int) -> List (List Int)} {l : List (List Int)} {B h m h' i : Nat} {ys : List Ints} {y : Ints} (H : NorI f l B (i, ys) h) (hi : i < l.length) (e : f (l.take (i + 1)) = f (l.take i) ++ [l[i]]) (hy : plS plI y = l[i]) (hok : okS okI y) (hb : B <= m /\ h <= m) (hm : m <= h') (G : Good (cS cI y) (whS whI y) m) (hr : ∀ g ∈ idsL (cS cI y), g < h') : NorI f l B (i + 1, ys ++ [y]) h' := by
 refine ⟨hi, ?_, fun z hz => ?_, GoodL.snoc H.good hb hm G hr⟩
 ·have := H.pl
  simp only at this
  simp only [List.map_append, List.map_cons, List.map_nil]
  rw [this, hy, e]
 ·rcases List.mem_append.1 hz with h | h
  ·exact H.ok z h
  ·rw [List.mem_singleton.1 h]; exact hok
end Go.Vs
namespace Go.Vs
theorem VC.er {P : Program} {f : FuncId} {As Ps : List V} {post : Nat -> V -> Prop} (h : VC P f Ps post) (hp : rpL (fun _ => none) As = some Ps) : VC P f As post :=
 ⟨h.1, fun w vals A hgl hLR => h.2 w vals A hgl (LR.er _ _ _ hLR hp)⟩
structure CopI {α β : Type} (c : α → List D) (wh : α → Prop) (ok : α → Prop) (pl : α → β) (l : List β) (B : Nat) (p : Nat × List α) (h : Nat) : Prop where
 le : p.1 <= l.length
 pl : p.2.map pl = l.take p.1
 ok : ∀ y ∈ p.2, ok y
 good : GoodL c wh B h p.2
section
variable {α β : Type} {c : α -> List D} {wh : α -> Prop} {ok : α -> Prop} {pl : α -> β} {l : List β} {B : Nat}
theorem CopI.zero {h : Nat} : CopI c wh ok pl l B (0, []) h := ⟨by simp, by simp, by simp, GoodL.nil⟩
theorem CopI.len {h i : Nat} {ys : List α} (H : CopI c wh ok pl l B (i, ys) h) : ys.length = i := by
 have := congrArg List.length H.pl
 have hl := H.le
 simp only [List.length_map, List.length_take] at this hl
 omega
theorem CopI.snoc {h m h' i : Nat} {ys : List α} {y : α} (H : CopI c wh ok pl l B (i, ys) h) (hi : i < l.length) (hy : pl y = l[i]) (hok : ok y) (hb : B <= m /\ h <= m) (hm : m <= h') (G : Good (c y) (wh y) m) (hr : ∀ g ∈ idsL (c y), g < h') : CopI c wh ok pl l B (i + 1, ys ++ [y]) h' := by
 refine ⟨hi, ?_, fun z hz => ?_, GoodL.snoc H.good hb hm G hr⟩
 ·have := H.pl
  simp only at this
  simp only [List.map_append, List.map_cons, List.map_nil]
  rw [this, hy, List.take_succ_eq_append_getElem hi]
 ·rcases List.mem_append.1 hz with h | h
  ·exact H.ok z h
  ·rw [List.mem_singleton.1 h]; exact hok
theorem CopI.all {h i : Nat} {ys : List α} (H : CopI c wh ok pl l B (i, ys) h) (hi : l.length <= i) : ys.map pl = l := by
 have := H.pl
 simp only at this
 rwa [List.take_of_length_le hi] at this
end
def uniB (a b : PReln) : Bool := difB a b && newB a.ar (a.rows ++ b.rows)
def uniR (a b : PReln) : PReln := if difB a b then newR a.ar (a.rows ++ b.rows) else ⟨0, []⟩
end Go.Vs
namespace Go.Vs
structure MJ (rows a b out : List (List Int)) : Prop where
 sa : Srt a
 sb : Srt b
 so : Srt out
 lt : ∀ y ∈ out, ∀ z, z ∈ a \/ z ∈ b -> cmpL y z < 0
 mem : ∀ x, (x ∈ out \/ x ∈ a \/ x ∈ b) ↔ x ∈ rows
 len : out.length + a.length + b.length <= rows.length
theorem MJ.start (rows : List (List Int)) (m : Nat) : MJ rows (srtU (rows.take m)) (srtU (rows.drop m)) [] := by
 have h := MI.start rows m
 exact ⟨h.sa, h.sb, h.so, by simp, h.mem, h.len⟩
theorem MJ.swap {rows a b out : List (List Int)} (h : MJ rows a b out) : MJ rows b a out :=
 ⟨h.sb, h.sa, h.so, fun y hy z hz => h.lt y hy z hz.symm, fun x => by rw [<- h.mem x, or_comm (a := x ∈ a)], by have := h.len; omega⟩
theorem MJ.done {rows out : List (List Int)} (h : MJ rows [] [] out) : out = srtU rows := srtU_uniq h.so fun x => by rw [<- h.mem x]; simp
theorem MJ.left {rows a b out : List (List Int)} {x : List Int} (h : MJ rows (x :: a) b out) (hb : ∀ z ∈ b, cmpL x z < 0) : MJ rows a b (out ++ [x]) := by
 have ha := List.pairwise_cons.1 h.sa
 have hl := h.len
 simp only [List.length_cons] at hl
 refine ⟨ha.2, h.sb, List.pairwise_append.2 ⟨h.so, by simp, fun y hy z hz => ?_⟩, fun y hy z hz => ?_, fun y => ?_, by simp only [List.length_append, List.length_cons, List.length_nil]; omega⟩
 ·rw [List.mem_singleton.1 hz]; exact h.lt y hy x (by simp)
 ·rcases List.mem_append.1 hy with hy | hy
  ·exact h.lt y hy z (hz.imp (fun hz => by simp [hz]) id)
  ·rw [List.mem_singleton.1 hy]
   rcases hz with hz | hz
   ·exact ha.1 z hz
   ·exact hb z hz
 ·rw [← h.mem y]
  simp only [List.mem_append, List.mem_cons, List.not_mem_nil, or_false]
  constructor
  ·rintro ((h1 | h1) | h1 | h1) <;> simp [h1]
  ·rintro (h1 | (h1 | h1) | h1) <;> simp [h1]
theorem MJ.both {rows a b out : List (List Int)} {x : List Int} (h : MJ rows (x :: a) (x :: b) out) : MJ rows a b (out ++ [x]) := by
 have hb := List.pairwise_cons.1 h.sb
 have hl := h.len
 simp only [List.length_cons] at hl
 refine MJ.left (x := x) ⟨h.sa, hb.2, h.so, fun y hy z hz => h.lt y hy z (hz.imp id fun hz => by simp [hz]), fun y => ?_, by simp only [List.length_cons]; omega⟩ hb.1
 rw [<- h.mem y]
 simp only [List.mem_cons]
 constructor
 ·rintro (h1 | h1 | h1)
  ·exact .inl h1
  ·exact .inr (.inl h1)
  ·exact .inr (.inr (.inr h1))
 ·rintro (h1 | h1 | h1 | h1)
  ·exact .inl h1
  ·exact .inr (.inl h1)
  ·exact .inr (.inl (.inl h1))
  ·exact .inr (.inr h1)
structure OwnR (B : Nat) (L : List Ints) : Prop where
 nd : (idsLL (L.map (cS cI))).Nodup
 lo : ∀ g ∈ idsLL (L.map (cS cI)), B <= g
 wh : ∀ r ∈ L, whS whI r
 ok : ∀ r ∈ L, okS okI r
theorem ids_perm {L L' : List Ints} (h : L'.Perm L) : (idsLL (L'.map (cS cI))).Perm (idsLL (L.map (cS cI))) := by
 induction h with
 | nil => exact .refl _
 | cons a _ ih => simp only [List.map_cons, idsLL]; exact (List.Perm.refl _).append ih
 | swap a b l => simp only [List.map_cons, idsLL]; exact List.perm_append_comm_assoc _ _ _
 | trans _ _ h1 h2 => exact h1.trans h2
theorem OwnR.perm {B : Nat} {L L' : List Ints} (H : OwnR B L) (h : L'.Perm L) : OwnR B L' :=
 ⟨(ids_perm h).nodup_iff.2 H.nd, fun g hg => H.lo g ((ids_perm h).mem_iff.1 hg), fun r hr => H.wh r (h.mem_iff.1 hr), fun r hr => H.ok r (h.mem_iff.1 hr)⟩
theorem OwnR.sub {B : Nat} {L L' : List Ints} (H : OwnR B L) (h : L'.Sublist L) : OwnR B L' :=
 ⟨H.nd.sublist (ids_sub h), fun g hg => H.lo g ((ids_sub h).subset hg), fun r hr => H.wh r (h.subset hr), fun r hr => H.ok r (h.subset hr)⟩
structure SrtI (rows : List (List Int)) (B : Nat) (p : List Ints × List Ints × List Ints × Option (TypeId × Nat) × Option (TypeId × Nat)) : Prop where
 mj : MJ rows (p.1.map (plS plI)) (p.2.1.map (plS plI)) (p.2.2.1.map (plS plI))
 own : OwnR B (p.2.2.1 ++ (p.1 ++ p.2.1))
theorem SrtI.left {rows : List (List Int)} {B : Nat} {x : Ints} {a b o : List Ints} {Ta Tb Ta' : Option (TypeId × Nat)} (H : SrtI rows B (x :: a, b, o, Ta, Tb)) (hb : ∀ z ∈ b.map (plS plI), cmpL (plS plI x) z < 0) : SrtI rows B (a, b, o ++ [x], Ta', Tb) := by
 have h1 := H.mj
 simp only [List.map_cons] at h1
 refine ⟨by simp only [List.map_append, List.map_cons, List.map_nil]; exact h1.left hb, ?_⟩
 have h2 := H.own
 simp only at h2 ⊢
 simpa using h2
theorem SrtI.right {rows : List (List Int)} {B : Nat} {y : Ints} {a b o : List Ints} {Ta Tb Tb' : Option (TypeId × Nat)} (H : SrtI rows B (a, y :: b, o, Ta, Tb)) (ha : ∀ z ∈ a.map (plS plI), cmpL (plS plI y) z < 0) : SrtI rows B (a, b, o ++ [y], Ta, Tb') := by
 have h1 := H.mj
 simp only [List.map_cons] at h1
 refine ⟨by simp only [List.map_append, List.map_cons, List.map_nil]; exact (h1.swap.left ha).swap, ?_⟩
 refine H.own.perm ?_
 simp only [List.append_assoc, List.singleton_append]
 exact (List.Perm.refl o).append List.perm_middle.symm
theorem SrtI.both {rows : List (List Int)} {B : Nat} {x y : Ints} {a b o : List Ints} {Ta Tb Ta' Tb' : Option (TypeId × Nat)} (H : SrtI rows B (x :: a, y :: b, o, Ta, Tb)) (e : plS plI x = plS plI y) : SrtI rows B (a, b, o ++ [x], Ta', Tb') := by
 have h1 := H.mj
 simp only [List.map_cons, <- e] at h1
 refine ⟨by simp only [List.map_append, List.map_cons, List.map_nil]; exact h1.both, ?_⟩
 refine H.own.sub ?_
 simp only [List.append_assoc, List.singleton_append]
 exact (List.Sublist.refl o).append ((((List.Sublist.refl a).append (List.sublist_cons_self y b))).cons_cons x)
structure ToN (ar : Int) (l : List (List Int)) (i : Nat) : Prop where
 le : i <= l.length
 ok : AllTo (fun r : List Int => decide ((r.length : Int) = ar) && valsOk r) l i
theorem ToN.zero {ar : Int} {l : List (List Int)} : ToN ar l 0 := ⟨by omega, allTo_zero⟩
theorem ToN.step {ar : Int} {l : List (List Int)} {i : Nat} (h : ToN ar l i) (hi : i < l.length) (e : (decide ((l[i].length : Int) = ar) && valsOk l[i]) = true) : ToN ar l (i + 1) := ⟨hi, allTo_step h.ok hi e⟩
theorem ToN.done {ar : Int} {l : List (List Int)} {i : Nat} (h : ToN ar l i) (hi : l.length <= i) : (l.all fun r : List Int => decide ((r.length : Int) = ar) && valsOk r) = true := allTo_done h.ok hi
theorem ToN.bad {ar : Int} {l : List (List Int)} {i : Nat} (_ : ToN ar l i) (hi : i < l.length) (e : (decide ((l[i].length : Int) = ar) && valsOk l[i]) = false) : newB ar l = false := by
 have : (l.all fun r : List Int => decide ((r.length : Int) = ar) && valsOk r) = false := all_bad (p := fun r : List Int => decide ((r.length : Int) = ar) && valsOk r) hi e
 rw [newB, this, Bool.false_and]
theorem VC.weak {P : Program} {f : FuncId} {As : List V} {post post' : Nat -> V -> Prop} (h : VC P f As post) (hp : ∀ n r, post n r -> post' n r) : VC P f As post' :=
 ⟨h.1, fun w vals A hgl hLR => (h.2 w vals A hgl hLR).mono fun e w' he => by
  obtain ⟨v, r, h1, h2, h3, h4, h5⟩ := he
  exact ⟨v, r, h1, h2, h3, h4, hp _ _ h5⟩⟩
theorem call_own {P : Program} {E : Md} {args : List Operand} {f : FuncId} {vs : List V} {dst : Option Tmp} {K : St -> Prop} {σ : St} {post : Nat -> V -> Prop} (hk : keysVL vs ≠ [])
  (hc : ∀ γ n, σ.hs <= n -> Gam σ γ n -> ∃ As, rdL γ σ.m vs = some As /\ VC P f As post) (hi : ∀ n r, post n r -> (∀ i ∈ r.ids, n <= i) /\ r.hp = false)
  (hK : ∀ n hs' r, σ.hs <= n -> n <= hs' -> post n r -> (∀ i ∈ r.ids, i < hs') -> K ({ σ with hs := hs' }.put dst r)) : vcallA P E f args vs dst K σ := by
 refine .inl ?_
 unfold vcall
 split
 ·rename_i h; exact (hk h).elim
 ·intro γ n a b
  obtain ⟨As, h1, h2⟩ := hc γ n a b
  exact ⟨As, post, h1, h2, fun r hs' c d e => ⟨(hi n r d).1, (hi n r d).2, hK n hs' r a c d e⟩⟩
theorem bl_irr : ∀ (a : List UInt8), Op.bytesLess a a = false
 | [] => rfl
 | x :: r => by simp [Op.bytesLess, bl_irr r, UInt8.lt_irrefl]
theorem bl_trans : ∀ {a b c : List UInt8}, Op.bytesLess a b = true -> Op.bytesLess b c = true -> Op.bytesLess a c = true
 | _, [], _, h, _ => by cases ‹List UInt8› <;> simp [Op.bytesLess] at h
 | _, _ :: _, [], _, h => by simp [Op.bytesLess] at h
 | [], _ :: _, _ :: _, _, _ => rfl
 | x :: a, y :: b, z :: c, h1, h2 => by
   simp only [Op.bytesLess, Bool.or_eq_true, Bool.and_eq_true, decide_eq_true_eq, beq_iff_eq] at h1 h2 ⊢
   rcases h1 with h1 | ⟨rfl, h1⟩
   ·rcases h2 with h2 | ⟨rfl, h2⟩
    ·exact .inl (UInt8.lt_trans h1 h2)
    ·exact .inl h1
   ·rcases h2 with h2 | ⟨rfl, h2⟩
    ·exact .inl h2
    ·exact .inr ⟨rfl, bl_trans h1 h2⟩
def SrtT (l : List PTab) : Prop := l.Pairwise fun a b => Op.bytesLess a.name b.name = true
theorem dbOk_srt {l : List PTab} (h : dbOk ⟨l⟩ = true) : SrtT l := by
 simp only [dbOk, Bool.and_eq_true, List.all_eq_true, List.mem_range] at h
 have key : ∀ n i, i + n + 1 < l.length → Op.bytesLess (l.getD i default).name (l.getD (i + n + 1) default).name = true := by
  intro n
  induction n with
  | zero =>
    intro i hi
    have := h.2 (i + 1) (by omega)
    simp only [dbAt, Bool.and_eq_true, Bool.or_eq_true, decide_eq_true_eq] at this
    simpa using this.1
  | succ n ih =>
    intro i hi
    have h1 := ih i (by omega)
    have := h.2 (i + n + 1 + 1) (by omega)
    simp only [dbAt, Bool.and_eq_true, Bool.or_eq_true, decide_eq_true_eq] at this
    have h2 : Op.bytesLess (l.getD (i + n + 1) default).name (l.getD (i + n + 1 + 1) default).name = true := by simpa using this.1
    exact bl_trans h1 h2
 refine List.pairwise_iff_getElem.2 fun i j hi hj hij => ?_
 have := key (j - i - 1) i (by omega)
 rw [show i + (j - i - 1) + 1 = j by omega, getD_el _ hi, getD_el _ hj] at this
 exact this
def setK (l : List PTab) (nm : List UInt8) : Nat := (l.takeWhile fun t => Op.bytesLess t.name nm).length
def hitK (l : List PTab) (nm : List UInt8) : Bool := decide (setK l nm < l.length) && decide ((l.getD (setK l nm) default).name = nm)
def setL (l : List PTab) (nm : List UInt8) (r : PReln) : List PTab := l.take (setK l nm) ++ ⟨nm, r⟩ :: l.drop (if hitK l nm then setK l nm + 1 else setK l nm)
def stS (nm : List UInt8) (r : PReln) (s : List PTab × Bool) (t : PTab) : List PTab × Bool :=
 let s1 := if !s.2 && !(Op.bytesLess t.name nm) then (s.1 ++ [⟨nm, r⟩], true) else s
 if t.name = nm then s1 else (s1.1 ++ [t], s1.2)
def setS (l : List PTab) (nm : List UInt8) (r : PReln) : List PTab :=
 let s := l.foldl (stS nm r) ([], false)
 if s.2 then s.1 else s.1 ++ [⟨nm, r⟩]
def setB (d : PDb) (nm : List UInt8) (r : PReln) : Bool := dbOk d && dbOk ⟨setL d.tabs nm r⟩
def setP (d : PDb) (nm : List UInt8) (r : PReln) : PDb := if setB d nm r then ⟨setL d.tabs nm r⟩ else d
theorem stS_len (nm : List UInt8) (r : PReln) (s : List PTab × Bool) (t : PTab) : (stS nm r s t).1.length <= s.1.length + 2 := by
 simp only [stS]
 repeat' split
 all_goals simp
theorem foldS_len (nm : List UInt8) (r : PReln) : ∀ (l : List PTab) (s : List PTab × Bool), (l.foldl (stS nm r) s).1.length <= s.1.length + 2 * l.length
 | [], s => by simp
 | t :: l, s => by
   have h1 := foldS_len nm r l (stS nm r s t)
   have h2 := stS_len nm r s t
   simp only [List.foldl_cons, List.length_cons]; omega
structure StI (nm : List UInt8) (r : PReln) (l : List PTab) (p : Nat × List PTab × Bool) : Prop where
 le : p.1 <= l.length
 eq : (l.take p.1).foldl (stS nm r) ([], false) = p.2
theorem StI.zero {nm : List UInt8} {r : PReln} {l : List PTab} : StI nm r l (0, [], false) := ⟨by simp, rfl⟩
theorem StI.step {nm : List UInt8} {r : PReln} {l : List PTab} {i : Nat} {s s' : List PTab × Bool} (h : StI nm r l (i, s)) (hi : i < l.length) (e : stS nm r s l[i] = s') : StI nm r l (i + 1, s') := by
 refine ⟨hi, ?_⟩
 have := h.eq
 simp only at this ⊢
 rw [List.take_succ_eq_append_getElem hi, List.foldl_append, this, List.foldl_cons, List.foldl_nil, e]
theorem StI.len {nm : List UInt8} {r : PReln} {l : List PTab} {i : Nat} {s : List PTab × Bool} (h : StI nm r l (i, s)) : s.1.length <= 2 * i := by
 have h1 := foldS_len nm r (l.take i) ([], false)
 have h2 := h.eq
 simp only at h2
 rw [h2] at h1
 simp only [List.length_nil, List.length_take] at h1
 omega
theorem StI.done {nm : List UInt8} {r : PReln} {l : List PTab} {i : Nat} {s : List PTab × Bool} (h : StI nm r l (i, s)) (hi : l.length <= i) : setS l nm r = if s.2 then s.1 else s.1 ++ [⟨nm, r⟩] := by
 have h2 := h.eq
 simp only [List.take_of_length_le hi] at h2
 simp only [setS, h2]
end Go.Vs
namespace Go.Vs
section
variable {α : Type} {c : α -> List D} {wh : α -> Prop}
end
structure KTo (l : List PTab) (nm : List UInt8) (i : Nat) : Prop where
 le : i <= setK l nm
theorem KTo.zero {l : List PTab} {nm : List UInt8} : KTo l nm 0 := ⟨by omega⟩
end Go.Vs
namespace Go.Vs
def difD (d : PDb) (x : PDelta) : PReln := difR (lkR d x.name) (norP d x).del
def appU (d : PDb) (x : PDelta) : PReln := uniR (difD d x) (norP d x).ins
def appG (d : PDb) (x : PDelta) : Bool := fitB d x && uniB (difD d x) (norP d x).ins
def appB (d : PDb) (x : PDelta) : Bool := appG d x && setB d x.name (appU d x)
def appP (d : PDb) (x : PDelta) : PDb := if appG d x then setP d x.name (appU d x) else d
def runB : PDb → List PDelta → Nat → Option PDb × Nat
 | c, [], k => (some c, k)
 | c, x :: r, k => if appB c x then runB (appP c x) r (k + 1) else (none, k)
def batG (d : PDb) (xs : List PDelta) : Bool := decide (xs.length <= 5) && dbOk d
def batT (d : PDb) (xs : List PDelta) : PDb × Nat × Bool :=
 if batG d xs then match runB d xs 0 with
  | (some c, k) => (c, k, true)
  | (none, k) => (d, k, false)
 else (d, 0, false)
def batB (d : PDb) (xs : List PDelta) : Bool := (batT d xs).2.2
theorem app_ok {d : PDb} {x : PDelta} (h : appB d x = true) : dbOk (appP d x) = true := by
 simp only [appB, Bool.and_eq_true] at h
 have h2 := h.2
 simp only [setB, Bool.and_eq_true] at h2
 simp only [appP, h.1, if_true, setP, h.2]
 exact h2.2
structure RunI (d : PDb) (xs : List PDelta) (i : Nat) (c : PDb) : Prop where
 le : i <= xs.length
 ok : dbOk c = true
 eq : runB c (xs.drop i) i = runB d xs 0
theorem RunI.zero {d : PDb} {xs : List PDelta} (h : dbOk d = true) : RunI d xs 0 d := ⟨by omega, h, rfl⟩
theorem RunI.step {d c : PDb} {xs : List PDelta} {i : Nat} (h : RunI d xs i c) (hi : i < xs.length) (e : appB c xs[i] = true) : RunI d xs (i + 1) (appP c xs[i]) := by
 refine ⟨hi, app_ok e, ?_⟩
 have := h.eq
 rwa [List.drop_eq_getElem_cons hi, runB, e, if_pos rfl] at this
theorem RunI.bad {d c : PDb} {xs : List PDelta} {i : Nat} (h : RunI d xs i c) (hi : i < xs.length) (e : appB c xs[i] = false) : runB d xs 0 = (none, i) := by
 have := h.eq
 rw [List.drop_eq_getElem_cons hi, runB, e] at this
 exact this.symm
theorem RunI.done {d c : PDb} {xs : List PDelta} {i : Nat} (h : RunI d xs i c) (hi : xs.length <= i) : runB d xs 0 = (some c, i) := by
 have := h.eq
 rw [List.drop_of_length_le hi, runB] at this
 exact this.symm
def invD (x : PDelta) : PDelta := ⟨x.name, x.del, x.ins⟩
def invL : PDb → List PDelta → List PDelta → List PDelta
 | _, [], acc => acc
 | c, x :: r, acc => invL (appP c x) r (invD (norP c x) :: acc)
def invP (d : PDb) (xs : List PDelta) : List PDelta := if batB d xs then invL d xs [] else []
theorem batB_run {d : PDb} {xs : List PDelta} (h : batB d xs = true) : batG d xs = true /\ ∃ c k, runB d xs 0 = (some c, k) := by
 unfold batB batT at h
 split at h
 ·rename_i hg
  refine ⟨hg, ?_⟩
  split at h
  ·rename_i c k e; exact ⟨c, k, e⟩
  ·simp at h
 ·simp at h
structure InvI (d : PDb) (xs : List PDelta) (i : Nat) (c : PDb) (acc : List PDelta) : Prop where
 run : RunI d xs i c
 eq : invL c (xs.drop i) acc = invL d xs []
 len : acc.length = i
theorem InvI.zero {d : PDb} {xs : List PDelta} (h : batB d xs = true) : InvI d xs 0 d [] := by
 have h1 := (batB_run h).1
 simp only [batG, Bool.and_eq_true] at h1
 exact ⟨.zero h1.2, rfl, rfl⟩
theorem InvI.ap {d c : PDb} {xs acc : List PDelta} {i : Nat} (hb : batB d xs = true) (h : InvI d xs i c acc) (hi : i < xs.length) : appB c xs[i] = true := by
 cases e : appB c xs[i]
 ·have h1 := h.run.bad hi e
  obtain ⟨_, c', k, h2⟩ := batB_run hb
  rw [h1] at h2
  simp at h2
 ·rfl
theorem InvI.step {d c : PDb} {xs acc : List PDelta} {i : Nat} (hb : batB d xs = true) (h : InvI d xs i c acc) (hi : i < xs.length) : InvI d xs (i + 1) (appP c xs[i]) (invD (norP c xs[i]) :: acc) := by
 refine ⟨h.run.step hi (h.ap hb hi), ?_, by simp [h.len]⟩
 have := h.eq
 rwa [List.drop_eq_getElem_cons hi, invL] at this
theorem InvI.done {d c : PDb} {xs acc : List PDelta} {i : Nat} (hb : batB d xs = true) (h : InvI d xs i c acc) (hi : xs.length <= i) : acc = invP d xs := by
 have := h.eq
 rw [List.drop_of_length_le hi, invL] at this
 rw [invP, if_pos hb, this]
theorem good_nilS {α : Type} {c : α -> List D} {wh : α -> Prop} (n : Nat) : Good (cS c nilS) (whS wh nilS) n :=
 ⟨by simp [cS, nilS, dSl, idsL, D.ids, idsLL], by simp [cS, nilS, dSl, idsL, D.ids, idsLL], ⟨fun _ => rfl, fun h => absurd rfl h⟩, by simp [nilS]⟩
theorem rpL_cons {a : V} {l : List V} {x : List V} (h : rpL (fun _ => none) (a :: l) = some x) : ∃ y z, x = y :: z /\ rp (fun _ => none) a = some y /\ rpL (fun _ => none) l = some z := by
 simp only [rpL] at h
 cases h1 : rp (fun _ => none) a <;> cases h2 : rpL (fun _ => none) l <;> simp [h1, h2] at h
 exact ⟨_, _, h.symm, rfl, rfl⟩
def cutA (c : UInt8) (acc : List UInt8) : List UInt8 → List (List UInt8)
 | [] => [acc]
 | x :: r => if x = c then acc :: cutA c [] r else cutA c (acc ++ [x]) r
def cutB (c : UInt8) (s : List UInt8) : List (List UInt8) := cutA c [] s
theorem cutA_len (c : UInt8) : ∀ (s acc : List UInt8), (cutA c acc s).length <= s.length + 1 /\ cutA c acc s ≠ []
 | [], acc => by simp [cutA]
 | x :: r, acc => by
   rw [cutA]
   split
   ·have := cutA_len c r []; simp; exact this.1
   ·have := cutA_len c r (acc ++ [x]); simp only [List.length_cons]; exact ⟨by omega, this.2⟩
theorem cutB_len (c : UInt8) (s : List UInt8) : (cutB c s).length <= s.length + 1 := (cutA_len c s []).1
theorem cutA_sum (c : UInt8) : ∀ (s acc : List UInt8), ((cutA c acc s).map List.length).sum <= acc.length + s.length
 | [], acc => by simp [cutA]
 | x :: r, acc => by
   rw [cutA]
   split
   ·have := cutA_sum c r []; simp only [List.map_cons, List.sum_cons, List.length_cons, List.length_nil] at this ⊢; omega
   ·have := cutA_sum c r (acc ++ [x]); simp only [List.length_append, List.length_cons, List.length_nil] at this ⊢; omega
theorem sum_mem : ∀ {l : List Nat} {x : Nat}, x ∈ l -> x <= l.sum
 | a :: r, x, h => by
   simp only [List.sum_cons]
   rcases List.mem_cons.1 h with rfl | h
   ·omega
   ·have := sum_mem h; omega
theorem cutB_mem {c : UInt8} {s x : List UInt8} (h : x ∈ cutB c s) : x.length <= s.length := by
 have h1 := cutA_sum c s []
 have h2 : x.length <= ((cutB c s).map List.length).sum := sum_mem (List.mem_map.2 ⟨x, h, rfl⟩)
 simp only [cutB, List.length_nil] at h1 h2; omega
structure CutI (c : UInt8) (s : List UInt8) (p : Nat × Nat × List (List UInt8)) : Prop where
 fr : p.1 <= p.2.1
 le : p.2.1 <= s.length
 eq : cutB c s = p.2.2 ++ cutA c ((s.drop p.1).take (p.2.1 - p.1)) (s.drop p.2.1)
 len : p.2.2.length <= p.2.1
theorem CutI.zero {c : UInt8} {s : List UInt8} : CutI c s (0, 0, []) := ⟨by simp, by simp, by simp [cutB], by simp⟩
theorem CutI.hit {c : UInt8} {s : List UInt8} {f i : Nat} {out : List (List UInt8)} (h : CutI c s (f, i, out)) (hi : i < s.length) (e : s[i] = c) : CutI c s (i + 1, i + 1, out ++ [(s.drop f).take (i - f)]) := by
 refine ⟨Nat.le_refl _, hi, ?_, ?_⟩
 ·have := h.eq
  simp only at this ⊢
  rw [this, List.drop_eq_getElem_cons hi, cutA, if_pos e]
  simp
 ·have := h.len; simp only [List.length_append, List.length_singleton] at this ⊢; omega
theorem CutI.miss {c : UInt8} {s : List UInt8} {f i : Nat} {out : List (List UInt8)} (h : CutI c s (f, i, out)) (hi : i < s.length) (e : s[i] ≠ c) : CutI c s (f, i + 1, out) := by
 have hf := h.fr
 simp only at hf
 refine ⟨by simp only; omega, hi, ?_, ?_⟩
 ·have := h.eq
  simp only at this ⊢
  rw [this, List.drop_eq_getElem_cons hi, cutA, if_neg e]
  have : (s.drop f).take (i + 1 - f) = (s.drop f).take (i - f) ++ [s[i]] := by
   rw [show i + 1 - f = (i - f) + 1 by omega, List.take_succ_eq_append_getElem (by rw [List.length_drop]; omega), List.getElem_drop]
   simp only [show f + (i - f) = i by omega]
  rw [this]
 ·have := h.len; simp only at this ⊢; omega
theorem CutI.done {c : UInt8} {s : List UInt8} {f i : Nat} {out : List (List UInt8)} (h : CutI c s (f, i, out)) (hi : s.length <= i) : out ++ [(s.drop f).take (i - f)] = cutB c s /\ (s.drop f).take (i - f) = s.drop f /\ i = s.length := by
 have hl := h.le
 have := h.eq
 simp only at hl this
 rw [List.drop_of_length_le hi, cutA] at this
 exact ⟨this.symm, List.take_of_length_le (by rw [List.length_drop]; omega), by omega⟩
def isDg (b : UInt8) : Bool := decide (48 <= b.toNat) && decide (b.toNat <= 57)
def digF (p : Int × Nat) (b : UInt8) : Int × Nat := if isDg b then (p.1 * 10 + ((b.toNat : Int) - 48), p.2 + 1) else p
def digs (s : List UInt8) : Int × Nat := s.foldl digF (0, 0)
def prsV (s : List UInt8) : Int := if s.head? = some 45 then -(digs (s.take 11)).1 else (digs (s.take 11)).1
def prsZ (s : List UInt8) : Option Int := if (digs (s.take 11)).2 <= 9 /\ s.length <= 10 /\ decZ (prsV s) = s then some (prsV s) else none
def prsN (s : List UInt8) : Int := (prsZ s).getD 0
def inTx (x : List UInt8) : List UInt8 := (x.drop 1).take (x.length - 2)
def rowTx (x : List UInt8) : List Int := if 2 < x.length then (cutB 44 (inTx x)).map prsN else []
def preRel (s : List UInt8) : PReln :=
 ⟨prsN ((cutB 58 s).getD 0 []), if (cutB 58 s).length = 2 /\ (cutB 58 s).getD 1 [] ≠ [] then (cutB 32 ((cutB 58 s).getD 1 [])).map rowTx else []⟩
def prsB (s : List UInt8) : Bool := decide (fmtRel (preRel s) = s) && decide (s ≠ [])
def prsR (s : List UInt8) : PReln := if prsB s then preRel s else ⟨0, []⟩
def rdF (k : List PFile) (nm : List UInt8) : Option (List UInt8) := (k.find? fun f => decide (f.name = nm)).map (·.data)
def rdD (k : List PFile) (nm : List UInt8) : List UInt8 := (rdF k nm).getD []
def rdB (k : List PFile) (nm : List UInt8) : Bool := (rdF k nm).isSome
structure RdI (k : List PFile) (nm : List UInt8) (i : Nat) : Prop where
 le : i <= k.length
 eq : rdF (k.drop i) nm = rdF k nm
theorem RdI.zero {k : List PFile} {nm : List UInt8} : RdI k nm 0 := ⟨by omega, rfl⟩
theorem RdI.miss {k : List PFile} {nm : List UInt8} {i : Nat} (h : RdI k nm i) (hi : i < k.length) (e : k[i].name ≠ nm) : RdI k nm (i + 1) := by
 refine ⟨hi, ?_⟩
 rw [<- h.eq, List.drop_eq_getElem_cons hi, rdF, rdF, List.find?_cons_of_neg (by simpa using e)]
theorem RdI.hit {k : List PFile} {nm : List UInt8} {i : Nat} (h : RdI k nm i) (hi : i < k.length) (e : k[i].name = nm) : rdF k nm = some k[i].data := by
 rw [<- h.eq, List.drop_eq_getElem_cons hi, rdF, List.find?_cons_of_pos (by simpa using e)]; rfl
theorem RdI.done {k : List PFile} {nm : List UInt8} {i : Nat} (h : RdI k nm i) (hi : k.length <= i) : rdF k nm = none := by
 rw [<- h.eq, List.drop_of_length_le hi]; rfl
def dskAt (l : List PFile) (j : Nat) : Bool := decide (j = 0) || Op.bytesLess (l.getD (j - 1) default).name (l.getD j default).name
def dskOk (l : List PFile) : Bool := (List.range l.length).all (dskAt l)
structure DskI (l : List PFile) (i : Nat) : Prop where
 lo : 1 <= i
 ok : ∀ j, j < i -> j < l.length -> dskAt l j = true
theorem DskI.one {l : List PFile} : DskI l 1 := ⟨by omega, fun j h1 _ => by simp [dskAt, show j = 0 by omega]⟩
theorem DskI.step {l : List PFile} {i : Nat} (h : DskI l i) (e : dskAt l i = true) : DskI l (i + 1) :=
 ⟨by omega, fun j h1 h2 => by
  by_cases hj : j < i
  ·exact h.ok j hj h2
  ·rw [show j = i by omega]; exact e⟩
theorem DskI.done {l : List PFile} {i : Nat} (h : DskI l i) (hi : l.length <= i) : dskOk l = true := by
 simp only [dskOk, List.all_eq_true, List.mem_range]
 exact fun j hj => h.ok j (by omega) hj
def hdNm (v : Int) : List UInt8 := [109] ++ decZ v
def lnNm (ln : List UInt8) : List UInt8 := (cutB 61 ln).getD 0 []
def tabO (k : List PFile) (v : Int) (ln : List UInt8) : Option PTab := if rdB k (runNm v (lnNm ln)) && prsB (rdD k (runNm v (lnNm ln))) then some ⟨lnNm ln, prsR (rdD k (runNm v (lnNm ln)))⟩ else none
def lnCk (ln s : List UInt8) : Bool := decide ((cutB 61 ln).length = 2) && decide (decZ (ckS s) = (cutB 61 ln).getD 1 [])
def tabS (k : List PFile) (v : Int) (ln : List UInt8) : Option PTab := if lnCk ln (rdD k (runNm v (lnNm ln))) then tabO k v ln else none
def tabsM (f : List UInt8 → Option PTab) : List (List UInt8) → Option (List PTab)
 | [] => some []
 | x :: r => match f x with
   | none => none
   | some t => (tabsM f r).map (t :: ·)
structure TbI (f : List UInt8 → Option PTab) (ls : List (List UInt8)) (i : Nat) (acc : List PTab) : Prop where
 le : i <= ls.length
 eq : tabsM f ls = (tabsM f (ls.drop i)).map (acc ++ ·)
 len : acc.length = i
theorem TbI.zero {f : List UInt8 -> Option PTab} {ls : List (List UInt8)} : TbI f ls 0 [] := ⟨by omega, by simp, rfl⟩
theorem TbI.step {f : List UInt8 -> Option PTab} {ls : List (List UInt8)} {i : Nat} {acc : List PTab} (h : TbI f ls i acc) (hi : i < ls.length) {t : PTab} (e : f ls[i] = some t) : TbI f ls (i + 1) (acc ++ [t]) := by
 refine ⟨hi, ?_, by simp [h.len]⟩
 rw [h.eq, List.drop_eq_getElem_cons hi, tabsM, e]
 simp only [Option.map_map, Function.comp_def, List.append_assoc, List.singleton_append]
theorem TbI.bad {f : List UInt8 -> Option PTab} {ls : List (List UInt8)} {i : Nat} {acc : List PTab} (h : TbI f ls i acc) (hi : i < ls.length) (e : f ls[i] = none) : tabsM f ls = none := by
 rw [h.eq, List.drop_eq_getElem_cons hi, tabsM, e]; rfl
theorem TbI.done {f : List UInt8 -> Option PTab} {ls : List (List UInt8)} {i : Nat} {acc : List PTab} (h : TbI f ls i acc) (hi : ls.length <= i) : tabsM f ls = some acc := by
 rw [h.eq, List.drop_of_length_le hi, tabsM]; simp
def lns (h : List UInt8) : List (List UInt8) := (cutB 10 h).dropLast
def headEq (ts : List PTab) (h : List UInt8) : Bool := decide (headTx ts ++ decZ (ckS (headTx ts)) = h)
def loadS (k : List PFile) (v : Int) : Option PDb :=
 if rdB k (hdNm v) then match tabsM (tabS k v) (lns (rdD k (hdNm v))) with
  | none => none
  | some ts => if verB ⟨ts⟩ v && headEq ts (rdD k (hdNm v)) then some ⟨ts⟩ else none
 else none
def newF (k : List PFile) : Nat → Nat
 | 0 => 0
 | n + 1 => if (loadS k ((n + 1 : Nat) : Int)).isSome then n + 1 else newF k n
def newV (k : List PFile) : Nat := newF k 99
def recP (k : List PFile) : PDb := if newV k = 0 then ⟨[]⟩ else (loadS k (newV k)).getD ⟨[]⟩
def recB (k : List PFile) : Bool := decide (newV k ≠ 0)
structure NewI (k : List PFile) (v : Nat) : Prop where
 le : v <= 99
 eq : newF k v = newV k
theorem NewI.hit {k : List PFile} {v : Nat} (h : NewI k (v + 1)) {d : PDb} (e : loadS k ((v + 1 : Nat) : Int) = some d) : newV k = v + 1 /\ recP k = d /\ recB k = true := by
 have h1 : newV k = v + 1 := by rw [<- h.eq, newF, e]; rfl
 exact ⟨h1, by rw [recP, if_neg (by omega), h1, e]; rfl, by simp [recB, h1]⟩
theorem NewI.zero {k : List PFile} (h : NewI k 0) : newV k = 0 /\ recP k = ⟨[]⟩ /\ recB k = false := by
 have h1 : newV k = 0 := by rw [<- h.eq]; rfl
 exact ⟨h1, by rw [recP, if_pos h1], by simp [recB, h1]⟩
def wrA (n : PFile) : Bool → List PFile → List PFile
 | done, [] => if done then [] else [n]
 | done, f :: r => (if !done && !Op.bytesLess f.name n.name then [n] else []) ++ (if f.name = n.name then [] else [f]) ++ wrA n (done || !Op.bytesLess f.name n.name) r
def wrF (k : List PFile) (n : PFile) : List PFile := wrA n false k
structure WrI (k : List PFile) (n : PFile) (p : Nat × Bool × List PFile) : Prop where
 le : p.1 <= k.length
 eq : wrF k n = p.2.2 ++ wrA n p.2.1 (k.drop p.1)
 len : p.2.2.length <= p.1 + (if p.2.1 then 1 else 0)
theorem WrI.zero {k : List PFile} {n : PFile} : WrI k n (0, false, []) := ⟨by simp, by simp [wrF], by simp⟩
theorem WrI.step {k : List PFile} {n : PFile} {i : Nat} {b : Bool} {out : List PFile} (h : WrI k n (i, b, out)) (hi : i < k.length) :
  WrI k n (i + 1, b || !Op.bytesLess k[i].name n.name, out ++ ((if !b && !Op.bytesLess k[i].name n.name then [n] else []) ++ (if k[i].name = n.name then [] else [k[i]]))) := by
 refine ⟨hi, ?_, ?_⟩
 ·have := h.eq
  simp only at this ⊢
  rw [this, List.drop_eq_getElem_cons hi, wrA]
  simp only [List.append_assoc]
 ·have := h.len
  simp only [List.length_append] at this ⊢
  have h2 : (if k[i].name = n.name then ([] : List PFile) else [k[i]]).length <= 1 := by split <;> simp
  cases b <;> cases Op.bytesLess k[i].name n.name <;> simp at this ⊢ <;> omega
theorem WrI.done {k : List PFile} {n : PFile} {i : Nat} {b : Bool} {out : List PFile} (h : WrI k n (i, b, out)) (hi : k.length <= i) : wrF k n = out ++ (if b then [] else [n]) := by
 have := h.eq
 simp only at this
 rw [this, List.drop_of_length_le hi, wrA]
structure SplT (l A B : List PTab) (nm : List UInt8) (r : PReln) : Prop where
 eq : l = A ++ ⟨nm, r⟩ :: B
 lo : ∀ t ∈ A, Op.bytesLess t.name nm = true
 hi : ∀ t ∈ B, Op.bytesLess nm t.name = true
theorem tw_app {α : Type} {p : α -> Bool} {A B : List α} {t : α} (hA : ∀ a ∈ A, p a = true) (ht : p t = false) : (A ++ t :: B).takeWhile p = A := by
 induction A with
 | nil => simp [ht]
 | cons a r ih => rw [List.cons_append, List.takeWhile_cons, hA a (by simp), if_pos rfl, ih fun b hb => hA b (List.mem_cons_of_mem _ hb)]
theorem SplT.set {l A B : List PTab} {nm : List UInt8} {r : PReln} (h : SplT l A B nm r) (u : PReln) : setL l nm u = A ++ ⟨nm, u⟩ :: B := by
 have hk : setK l nm = A.length := by rw [setK, h.eq, tw_app h.lo (bl_irr nm)]
 have hh : hitK l nm = true := by
  rw [hitK, hk, h.eq]
  simp [List.getD]
 rw [setL, hk, hh, h.eq]
 simp
theorem SplT.put {l A B : List PTab} {nm : List UInt8} {r : PReln} (h : SplT l A B nm r) (u : PReln) : SplT (setL l nm u) A B nm u := ⟨h.set u, h.lo, h.hi⟩
theorem dbOk_of {l : List PTab} (h1 : l.length <= 6) (h2 : SrtT l) (h3 : ∀ t ∈ l, tabOk t = true) : dbOk ⟨l⟩ = true := by
 simp only [dbOk, Bool.and_eq_true, decide_eq_true_eq, List.all_eq_true, List.mem_range]
 refine ⟨h1, fun i hi => ?_⟩
 rw [dbAt_eq hi, h3 _ (List.getElem_mem hi), Bool.and_true]
 by_cases h0 : i = 0
 ·simp [h0]
 ·have := List.pairwise_iff_getElem.1 h2 (i - 1) i (by omega) hi (by omega)
  simp [this]
theorem SplT.ok {l A B : List PTab} {nm : List UInt8} {r u : PReln} (h : SplT l A B nm r) (hd : dbOk ⟨l⟩ = true) (hu : tabOk ⟨nm, u⟩ = true) : dbOk ⟨setL l nm u⟩ = true := by
 have hlen := dbOk_len hd
 have hs := dbOk_srt hd
 have hm : ∀ t ∈ l, tabOk t = true := fun t ht => dbOk_tab hd ht
 have e := h.eq
 rw [h.set u]
 rw [e] at hs hm hlen
 simp only at hlen
 refine dbOk_of (by simpa using hlen) ?_ fun t ht => ?_
 ·have hp := List.pairwise_append.1 hs
  refine List.pairwise_append.2 ⟨hp.1, List.pairwise_cons.2 ⟨fun t ht => h.hi t ht, (List.pairwise_cons.1 hp.2.1).2⟩, fun a ha b hb => ?_⟩
  rcases List.mem_cons.1 hb with hb | hb
  ·subst hb; exact h.lo a ha
  ·exact hp.2.2 a ha b (List.mem_cons_of_mem _ hb)
 ·rcases List.mem_append.1 ht with ht | ht
  ·exact hm t (by simp [ht])
  ·rcases List.mem_cons.1 ht with ht | ht
   ·subst ht; exact hu
   ·exact hm t (by simp [ht])
def lookV (a r : List Int) (v : Int) : Int := r.getD (idxL a v).toNat 0
def aVars (vs : List Int) : List Int := (rangeI 5).filter fun v => vs.contains v
def fitR (vs row : List Int) : Bool := decide (vs.map (lookV vs row) = row)
def valL (vs row : List Int) : List Int := (vs.zip row).foldl (fun val p => val.set p.1.toNat p.2) (List.replicate 5 0)
def abL (vs : List Int) (rows : List (List Int)) : List (List Int) := (rows.filter (fitR vs)).map fun row => pickR (aVars vs) (valL vs row)
def abR (d : PDb) (a : PAtom) : List (List Int) := srtU (abL a.vars (lkR d a.rel).rows)
def insI (l : List Int) (n : Int) : List Int :=
 if (l.getD (l.takeWhile fun x => decide (x < n)).length (n + 1)) = n then l else l.take (l.takeWhile fun x => decide (x < n)).length ++ n :: l.drop (l.takeWhile fun x => decide (x < n)).length
def uniL (a b : List Int) : List Int := b.foldl insI a
def glV (a r b s : List Int) (v : Int) : Bool := !(a.contains v && b.contains v && !decide (lookV a r v = lookV b s v))
def glB (u a r b s : List Int) : Bool := u.all (glV a r b s)
def glR (u a r b s : List Int) : List Int := u.map fun v => if a.contains v then lookV a r v else lookV b s v
def glO (u a r b s : List Int) : Option (List Int) := if glB u a r b s then some (glR u a r b s) else none
def joinL (u a : List Int) (rows : List (List Int)) (b : List Int) (list : List (List Int)) : List (List Int) := rows.flatMap fun r => list.filterMap fun s => glO u a r b s
def joinS (d : PDb) (p : List Int × List (List Int)) (a : PAtom) : List Int × List (List Int) := (uniL p.1 (aVars a.vars), joinL (uniL p.1 (aVars a.vars)) p.1 p.2 (aVars a.vars) (abR d a))
def binds (d : PDb) (l : List PAtom) : List Int × List (List Int) := l.foldl (joinS d) ([], [[]])
def asgO : List Int → List (Int × Int) → Option (List Int)
 | x, [] => some x
 | x, (v, y) :: r => if x.getD v.toNat 0 = -1 \/ x.getD v.toNat 0 = y then asgO (x.set v.toNat y) r else none
theorem idxL_mem {l : List Int} {v : Int} (h : v ∈ l) : (idxL l v).toNat < l.length /\ l.getD (idxL l v).toNat 0 = v := by
 rw [idxL, if_pos h]
 simp only [Int.toNat_natCast]
 induction l with
 | nil => cases h
 | cons x r ih =>
   by_cases hx : x = v
   ·subst hx; simp
   ·have hr : v ∈ r := (List.mem_cons.1 h).resolve_left fun e => hx e.symm
    have := ih hr
    have hb : (!(x == v)) = true := by simp [hx]
    have e : (x :: r).takeWhile (fun x => !(x == v)) = x :: r.takeWhile (fun x => !(x == v)) := by rw [List.takeWhile_cons, if_pos hb]
    rw [e]
    simp only [List.length_cons, List.getD_cons_succ]
    exact ⟨by omega, this.2⟩
theorem lookV_map {a : List Int} (β : Int -> Int) {v : Int} (h : v ∈ a) : lookV a (a.map β) v = β v := by
 obtain ⟨h1, h2⟩ := idxL_mem h
 rw [lookV]
 have : (a.map β).getD (idxL a v).toNat 0 = β (a.getD (idxL a v).toNat 0) := by
  simp [List.getD, h1]
 rw [this, h2]
theorem idxL_self : ∀ {a : List Int}, a.Nodup -> ∀ i (h : i < a.length), (idxL a a[i]).toNat = i := by
 intro a ha i h
 obtain ⟨h1, h2⟩ := idxL_mem (List.getElem_mem h)
 have h3 : a[(idxL a a[i]).toNat] = a[i] := by
  have := h2
  rwa [getD_el _ h1] at this
 exact (List.getElem_inj ha).1 h3
theorem map_lookV {a r : List Int} (ha : a.Nodup) (hl : r.length = a.length) : a.map (lookV a r) = r := by
 refine List.ext_getElem (by simp [hl]) fun i h1 h2 => ?_
 rw [List.getElem_map, lookV, idxL_self ha i (by simpa using h1), getD_el _ h2]
theorem map_congr_mem {a : List Int} {f g : Int -> Int} : a.map f = a.map g ↔ ∀ v ∈ a, f v = g v := List.map_inj_left
theorem aVars_mem {vs : List Int} {v : Int} : v ∈ aVars vs ↔ v ∈ vs /\ 0 <= v /\ v < 5 := by
 rw [aVars, List.mem_filter]
 simp only [rangeI, List.mem_map, List.mem_range, List.contains_iff_mem]
 constructor
 ·rintro ⟨⟨k, hk, rfl⟩, h⟩; exact ⟨h, by omega, by omega⟩
 ·rintro ⟨h, h0, h1⟩; exact ⟨⟨v.toNat, by omega, by omega⟩, h⟩
theorem rangeI_pw (n : Nat) : (rangeI n).Pairwise (· < ·) := by
 rw [rangeI, List.pairwise_map]
 exact List.pairwise_lt_range.imp fun h => by omega
theorem aVars_pw (vs : List Int) : (aVars vs).Pairwise (· < ·) := List.Pairwise.filter _ (rangeI_pw 5)
theorem pw_nodup {l : List Int} (h : l.Pairwise (· < ·)) : l.Nodup := h.imp fun h => by omega
theorem val_step {vs row : List Int} (val : List Int) (β : Int -> Int) (hr : row = vs.map β) (hv : ∀ v ∈ vs, 0 <= v /\ v < 5) (hl : val.length = 5) :
  ((vs.zip row).foldl (fun val p => val.set p.1.toNat p.2) val).length = 5 /\ ∀ u : Int, 0 <= u -> u < 5 -> ((vs.zip row).foldl (fun val p => val.set p.1.toNat p.2) val).getD u.toNat 0 = if u ∈ vs then β u else val.getD u.toNat 0 := by
 subst hr
 induction vs generalizing val with
 | nil => simp [hl]
 | cons w r ih =>
   simp only [List.map_cons, List.zip_cons_cons, List.foldl_cons]
   have hw := hv w (by simp)
   have := ih (val.set w.toNat (β w)) (fun v hm => hv v (List.mem_cons_of_mem _ hm)) (by simp [hl])
   refine ⟨this.1, fun u h0 h5 => ?_⟩
   rw [this.2 u h0 h5]
   by_cases h1 : u ∈ r
   ·simp [h1]
   ·by_cases h2 : u = w
    ·subst h2
     simp only [h1, if_false, List.mem_cons, true_or, if_true]
     simp [List.getD, List.getElem?_set, hl, show u.toNat < 5 by omega]
    ·have h3 : u ∉ w :: r := by simp [h1, h2]
     rw [if_neg h1, if_neg h3]
     have : w.toNat ≠ u.toNat := by omega
     simp [List.getD, List.getElem?_set, this]
theorem val_pick {vs row : List Int} (β : Int -> Int) (hr : row = vs.map β) (hv : ∀ v ∈ vs, 0 <= v /\ v < 5) : pickR (aVars vs) (valL vs row) = (aVars vs).map β := by
 rw [pickR]
 refine map_congr_mem.2 fun u hu => ?_
 obtain ⟨h1, h2, h3⟩ := aVars_mem.1 hu
 rw [valL, (val_step (List.replicate 5 0) β hr hv (by simp)).2 u h2 h3, if_pos h1]
theorem ab_mem {vs : List Int} {rows : List (List Int)} (hv : ∀ v ∈ vs, 0 <= v /\ v < 5) (β : Int -> Int) : (aVars vs).map β ∈ srtU (abL vs rows) ↔ vs.map β ∈ rows := by
 rw [srtU_mem, abL, List.mem_map]
 constructor
 ·rintro ⟨row, hrow, e⟩
  obtain ⟨h1, h2⟩ := List.mem_filter.1 hrow
  have hf : row = vs.map (lookV vs row) := (of_decide_eq_true h2).symm
  rw [val_pick (lookV vs row) hf hv] at e
  have he := map_congr_mem.1 e
  have : vs.map β = row := by
   rw [hf]
   refine map_congr_mem.2 fun v hm => ?_
   exact (he v (aVars_mem.2 ⟨hm, hv v hm⟩)).symm
  rw [this]; exact h1
 ·intro h
  refine ⟨vs.map β, List.mem_filter.2 ⟨h, decide_eq_true ?_⟩, val_pick β rfl hv⟩
  exact map_congr_mem.2 fun v hm => lookV_map β hm
theorem ab_len {vs : List Int} {rows : List (List Int)} : ∀ s ∈ srtU (abL vs rows), s.length = (aVars vs).length := fun s hs => by
 rw [srtU_mem, abL, List.mem_map] at hs
 obtain ⟨row, _, rfl⟩ := hs
 exact pickR_len _ _
theorem insI_pw {l : List Int} (h : l.Pairwise (· < ·)) (n : Int) : (insI l n).Pairwise (· < ·) /\ ∀ x, x ∈ insI l n ↔ x ∈ l \/ x = n := by
 induction l with
 | nil =>
   have e : insI [] n = [n] := by
    have : ([] : List Int).getD 0 (n + 1) ≠ n := by simp [List.getD]; omega
    simp only [insI, List.takeWhile_nil, List.length_nil, if_neg this, List.take_nil, List.drop_nil, List.nil_append]
   rw [e]; simp
 | cons a r ih =>
   have hp := List.pairwise_cons.1 h
   have ih := ih hp.2
   by_cases h1 : a < n
   ·have e : insI (a :: r) n = a :: insI r n := by
     simp only [insI, List.takeWhile_cons, decide_eq_true h1, if_true, List.length_cons, List.getD_cons_succ, List.take_succ_cons, List.drop_succ_cons]
     split <;> simp
    rw [e]
    refine ⟨List.pairwise_cons.2 ⟨fun x hx => ?_, ih.1⟩, fun x => ?_⟩
    ·rcases (ih.2 x).1 hx with hx | hx
     ·exact hp.1 x hx
     ·omega
    ·rw [List.mem_cons, ih.2, List.mem_cons, or_assoc]
   ·have e0 : (List.takeWhile (fun x => decide (x < n)) (a :: r)).length = 0 := by simp [List.takeWhile_cons, h1]
    by_cases h2 : a = n
    ·subst h2
     have e : insI (a :: r) a = a :: r := by simp [insI, e0]
     rw [e]
     exact ⟨h, fun x => by simp; intro hx; exact .inl hx⟩
    ·have e : insI (a :: r) n = n :: a :: r := by simp [insI, e0, h2]
     rw [e]
     refine ⟨List.pairwise_cons.2 ⟨fun x hx => ?_, h⟩, fun x => by simp [or_comm]⟩
     rcases List.mem_cons.1 hx with hx | hx
     ·omega
     ·have := hp.1 x hx; omega
theorem uniL_pw : ∀ (b : List Int) {a : List Int}, a.Pairwise (· < ·) -> (uniL a b).Pairwise (· < ·) /\ ∀ x, x ∈ uniL a b ↔ x ∈ a \/ x ∈ b
 | [], a, h => ⟨h, by simp [uniL]⟩
 | n :: b, a, h => by
   have h1 := insI_pw h n
   have h2 := uniL_pw b h1.1
   refine ⟨h2.1, fun x => ?_⟩
   have : uniL a (n :: b) = uniL (insI a n) b := rfl
   rw [this, h2.2, h1.2, List.mem_cons, or_assoc]
theorem pw_ext : ∀ {l l' : List Int}, l.Pairwise (· < ·) -> l'.Pairwise (· < ·) -> (∀ x, x ∈ l ↔ x ∈ l') -> l = l'
 | [], [], _, _, _ => rfl
 | [], b :: s, _, _, h => by have := (h b).2 (by simp); simp at this
 | a :: r, [], _, _, h => by have := (h a).1 (by simp); simp at this
 | a :: r, b :: s, h1, h2, h => by
   have p1 := List.pairwise_cons.1 h1
   have p2 := List.pairwise_cons.1 h2
   have hab : a = b := by
    rcases List.mem_cons.1 ((h a).1 (by simp)) with e | e
    ·exact e
    ·rcases List.mem_cons.1 ((h b).2 (by simp)) with e' | e'
     ·exact e'.symm
     ·have := p2.1 a e; have := p1.1 b e'; omega
   subst hab
   congr 1
   refine pw_ext p1.2 p2.2 fun x => ?_
   have hx := h x
   simp only [List.mem_cons] at hx
   constructor
   ·intro hm
    rcases hx.1 (.inr hm) with e | e
    ·have := p1.1 x hm; omega
    ·exact e
   ·intro hm
    rcases hx.2 (.inr hm) with e | e
    ·have := p2.1 x hm; omega
    ·exact e
theorem join_mem {u a b : List Int} {rows list : List (List Int)} (ha : a.Nodup) (hb : b.Nodup) (hu : ∀ x, x ∈ u ↔ x ∈ a \/ x ∈ b) (hr : ∀ r ∈ rows, r.length = a.length) (hs : ∀ s ∈ list, s.length = b.length) (β : Int -> Int) :
  u.map β ∈ joinL u a rows b list ↔ a.map β ∈ rows /\ b.map β ∈ list := by
 simp only [joinL, List.mem_flatMap, List.mem_filterMap, glO]
 constructor
 ·rintro ⟨r, hrm, s, hsm, h⟩
  split at h
  ·rename_i hg
   simp only [Option.some.injEq, glR] at h
   have he := map_congr_mem.1 h
   have hgv : ∀ v ∈ u, v ∈ a → v ∈ b → lookV a r v = lookV b s v := fun v h1 h2 h3 => by
    have := (List.all_eq_true.1 hg) v h1
    simpa [glV, List.contains_iff_mem, h2, h3] using this
   have e1 : ∀ v ∈ a, lookV a r v = β v := fun v hv => by
    have := he v ((hu v).2 (.inl hv))
    simpa [List.contains_iff_mem, hv] using this
   have e2 : ∀ v ∈ b, lookV b s v = β v := fun v hv => by
    by_cases hva : v ∈ a
    ·rw [<- hgv v ((hu v).2 (.inr hv)) hva hv]; exact e1 v hva
    ·have := he v ((hu v).2 (.inr hv))
     simpa [List.contains_iff_mem, hva] using this
   have f1 : a.map β = r := by rw [<- map_lookV ha (hr r hrm)]; exact map_congr_mem.2 fun v hv => (e1 v hv).symm
   have f2 : b.map β = s := by rw [<- map_lookV hb (hs s hsm)]; exact map_congr_mem.2 fun v hv => (e2 v hv).symm
   rw [f1, f2]; exact ⟨hrm, hsm⟩
  ·cases h
 ·rintro ⟨h1, h2⟩
  refine ⟨a.map β, h1, b.map β, h2, ?_⟩
  rw [if_pos]
  ·simp only [Option.some.injEq, glR]
   refine map_congr_mem.2 fun v hv => ?_
   by_cases hva : v ∈ a
   ·simp only [List.contains_iff_mem, hva, if_true]; exact lookV_map β hva
   ·have hvb := ((hu v).1 hv).resolve_left hva
    simp only [List.contains_iff_mem, hva, if_false]; exact lookV_map β hvb
  ·refine List.all_eq_true.2 fun v hv => ?_
   by_cases hva : v ∈ a
   ·by_cases hvb : v ∈ b
    ·simp [glV, lookV_map β hva, lookV_map β hvb]
    ·simp [glV, List.contains_iff_mem, hvb]
   ·simp [glV, List.contains_iff_mem, hva]
theorem join_len {u a b : List Int} {rows list : List (List Int)} : ∀ x ∈ joinL u a rows b list, x.length = u.length := fun x hx => by
 simp only [joinL, List.mem_flatMap, List.mem_filterMap, glO] at hx
 obtain ⟨r, _, s, _, h⟩ := hx
 split at h
 ·simp only [Option.some.injEq] at h
  rw [<- h, glR, List.length_map]
 ·cases h
structure Jn (d : PDb) (as : List PAtom) (p : List Int × List (List Int)) : Prop where
 pw : p.1.Pairwise (· < ·)
 mem : ∀ x, x ∈ p.1 ↔ x ∈ varsIn as
 len : ∀ r ∈ p.2, r.length = p.1.length
 iff : ∀ β : Int -> Int, p.1.map β ∈ p.2 ↔ ∀ a ∈ as, a.vars.map β ∈ (lkR d a.rel).rows
theorem Jn.zero (d : PDb) : Jn d [] ([], [[]]) := ⟨.nil, by simp [varsIn], by simp, by simp⟩
theorem Jn.step {d : PDb} {as : List PAtom} {p : List Int × List (List Int)} (h : Jn d as p) {a : PAtom} (hv : ∀ v ∈ a.vars, 0 <= v /\ v < 5) : Jn d (as ++ [a]) (joinS d p a) := by
 have hu := uniL_pw (aVars a.vars) h.pw
 have hab : ∀ x, x ∈ uniL p.1 (aVars a.vars) ↔ x ∈ p.1 \/ x ∈ aVars a.vars := hu.2
 refine ⟨hu.1, fun x => ?_, join_len, fun β => ?_⟩
 ·show x ∈ uniL p.1 (aVars a.vars) ↔ _
  rw [hab, h.mem, varsIn, varsIn, List.flatMap_append, List.mem_append, aVars_mem]
  simp only [List.flatMap_cons, List.flatMap_nil, List.append_nil]
  constructor
  ·rintro (h | h)
   ·exact .inl h
   ·exact .inr h.1
  ·rintro (h | h)
   ·exact .inl h
   ·exact .inr ⟨h, hv x h⟩
 ·show (uniL p.1 (aVars a.vars)).map β ∈ joinL (uniL p.1 (aVars a.vars)) p.1 p.2 (aVars a.vars) (abR d a) ↔ _
  have hl : ∀ s ∈ abR d a, s.length = (aVars a.vars).length := ab_len
  rw [join_mem (pw_nodup h.pw) (pw_nodup (aVars_pw a.vars)) hab h.len hl, h.iff, abR, ab_mem hv]
  simp only [List.mem_append, List.mem_singleton]
  constructor
  ·rintro ⟨h1, h2⟩ b (hb | rfl)
   ·exact h1 b hb
   ·exact h2
  ·exact fun h => ⟨fun b hb => h b (.inl hb), h a (.inr rfl)⟩
theorem Jn.all {d : PDb} : ∀ (l as : List PAtom) (p : List Int × List (List Int)), Jn d as p -> (∀ a ∈ l, ∀ v ∈ a.vars, 0 <= v /\ v < 5) -> Jn d (as ++ l) (l.foldl (joinS d) p)
 | [], as, p, h, _ => by simpa using h
 | a :: l, as, p, h, hv => by
   have := Jn.all l (as ++ [a]) (joinS d p a) (h.step (hv a (by simp))) fun b hb => hv b (List.mem_cons_of_mem _ hb)
   simpa using this
theorem getD_set_ne {x : List Int} {i j : Nat} {y : Int} (h : i ≠ j) : (x.set i y).getD j 0 = x.getD j 0 := by simp [List.getD, List.getElem?_set, h]
theorem rangeI_mem {n : Nat} {x : Int} : x ∈ rangeI n ↔ 0 <= x /\ x < n := by
 simp only [rangeI, List.mem_map, List.mem_range]
 constructor
 ·rintro ⟨k, hk, rfl⟩; omega
 ·rintro ⟨h0, h1⟩; exact ⟨x.toNat, by omega, by omega⟩
theorem rangeI_len (n : Nat) : (rangeI n).length = n := by simp [rangeI]
theorem VC.plain {P : Program} {f : FuncId} {As : List V} {post : Nat -> V -> Prop} {v : V} (h : VC P f As post) (hq : ∀ n r, post n r -> rp (fun _ => none) r = some v) (hv : rd (fun _ => none) (fun _ => none) v = some v) :
  VC P f As (fun _ r => r = v) := by
 refine ⟨h.1, fun w vals A hgl hLR => ?_⟩
 refine (h.2 w vals A hgl hLR).mono fun e w' he => ?_
 obtain ⟨v', r, rfl, hb, hvr, _, hp⟩ := he
 exact ⟨v', v, rfl, hb, VR.er _ _ _ hvr (hq _ _ hp), hv, rfl⟩
theorem VC.untrack {P : Program} {f : FuncId} {Ps As0 : List V} {post post0 : Nat -> V -> Prop} (h0 : VC P f As0 post0) (hv : pnVL Ps = true)
  (h : ∀ As, rpL (fun _ => none) As = some Ps -> tkVL As = true -> lnVL As -> VC P f As post) : VC P f Ps post := by
 refine ⟨h0.1, fun w vals A hgl hLR => ?_⟩
 obtain ⟨ys, h3, h4, h5, _⟩ := LR.track Ps vals hv hLR
 exact (h ys h4 h5 (LR.ln _ _ h3)).2 w vals A hgl h3
theorem rp_args1 {As : List V} {a : V} (h : rpL (fun _ => none) As = some [a]) (ht : tkVL As = true) (hl : lnVL As) : ∃ x, As = [x] /\ rp (fun _ => none) x = some a /\ x.tk = true /\ x.ln := by
 match As, h, ht, hl with
 | [], h, _, _ => simp [rpL] at h
 | x :: r, h, ht, hl =>
   simp only [rpL] at h
   cases hx : rp (fun _ => none) x with
   | none => simp [hx] at h
   | some y =>
     cases hs : rpL (fun _ => none) r with
     | none => simp [hx, hs] at h
     | some ys =>
       simp only [hx, hs, Option.some.injEq, List.cons.injEq] at h
       obtain ⟨rfl, rfl⟩ := h
       simp only [tkVL, Bool.and_eq_true] at ht
       cases r with
       | nil => exact ⟨x, rfl, hx, ht.1, hl.1⟩
       | cons z s =>
         simp only [rpL] at hs
         cases h1 : rp (fun _ => none) z <;> cases h2 : rpL (fun _ => none) s <;> simp [h1, h2] at hs
theorem rp_args2 {As : List V} {a b : V} (h : rpL (fun _ => none) As = some [a, b]) (ht : tkVL As = true) (hl : lnVL As) :
  ∃ x y, As = [x, y] /\ (rp (fun _ => none) x = some a /\ x.tk = true /\ x.ln) /\ rp (fun _ => none) y = some b /\ y.tk = true /\ y.ln := by
 match As, h, ht, hl with
 | [], h, _, _ => simp [rpL] at h
 | x :: r, h, ht, hl =>
   simp only [rpL] at h
   cases hx : rp (fun _ => none) x with
   | none => simp [hx] at h
   | some y =>
     cases hs : rpL (fun _ => none) r with
     | none => simp [hx, hs] at h
     | some ys =>
       simp only [hx, hs, Option.some.injEq, List.cons.injEq] at h
       obtain ⟨rfl, rfl⟩ := h
       simp only [tkVL, Bool.and_eq_true] at ht
       obtain ⟨z, rfl, h1, h2, h3⟩ := rp_args1 hs ht.2 hl.2
       exact ⟨x, z, rfl, ⟨hx, ht.1, hl.1⟩, h1, h2, h3⟩
theorem queryOk_a4 {q : PQuery} (h : queryOk q = true) : q.atoms.length <= 4 := by
 simp only [queryOk, Bool.and_eq_true, inR, decide_eq_true_eq] at h
 omega
theorem aVars_len5 (vs : List Int) : (aVars vs).length <= 5 := by
 have := List.length_filter_le (fun v => vs.contains v) (rangeI 5)
 rw [rangeI_len] at this
 exact this
def nbrB (q : PQuery) (v w : Int) : Bool := !(decide (w = v)) && q.atoms.any fun a => a.vars.contains v && a.vars.contains w
def nbrL (q : PQuery) (v : Int) : List Int := if queryOk q then (rangeI q.n.toNat).filter (nbrB q v) else []
def comL (a b : List Int) : List Int := a.filter fun x => b.contains x
def ordOk (q : PQuery) (o : List Int) : Bool := queryOk q && decide ((o.length : Int) = q.n) && setOf o q.n
def dcM (q : PQuery) (o : List Int) : Nat → Int → Int → Bool
 | 0, a, b => nbrB q a b
 | i + 1, a, b => dcM q o i a b || (!(decide (a = b)) && (decide (a = o.getD i 0) || (dcM q o i (o.getD i 0) a && !(o.take i).contains a)) && (decide (b = o.getD i 0) || (dcM q o i (o.getD i 0) b && !(o.take i).contains b)))
def dcI (q : PQuery) (o : List Int) (i : Nat) (v : Int) : Bool := decide (v = o.getD i 0) || (dcM q o i (o.getD i 0) v && !(o.take i).contains v)
def dcBag (q : PQuery) (o : List Int) (i : Nat) : List Int := (rangeI q.n.toNat).filter (dcI q o i)
def dcLat (q : PQuery) (o : List Int) (i : Nat) : List Int := (rangeI q.n.toNat).filter fun v => dcM q o i (o.getD i 0) v && (o.drop (i + 1)).contains v
def dcNear (q : PQuery) (o : List Int) (i : Nat) (v : Int) : List Int := (rangeI q.n.toNat).filter (dcM q o i v)
def fstIn (o l : List Int) : Nat → Nat → Option Nat
 | 0, _ => none
 | m + 1, k => if l.contains (o.getD k 0) then some k else fstIn o l m (k + 1)
def dcUp (q : PQuery) (o : List Int) (i : Nat) : Int :=
 if i + 1 = o.length then -1 else match fstIn o (dcBag q o i) (o.length - (i + 1)) (i + 1) with
 | some k => k
 | none => i + 1
def dcP (q : PQuery) (o : List Int) : PDec := if ordOk q o then ⟨(List.range o.length).map (dcBag q o), (List.range o.length).map (dcUp q o)⟩ else ⟨[], []⟩
theorem dcM_succ (q : PQuery) (o : List Int) (i : Nat) (a b : Int) : dcM q o (i + 1) a b = (dcM q o i a b || (!(decide (a = b)) && dcI q o i a && dcI q o i b)) := rfl
theorem dcM_sym (q : PQuery) (o : List Int) : ∀ i a b, dcM q o i a b = dcM q o i b a
 | 0, a, b => by
   simp only [dcM, nbrB]
   rw [show decide (b = a) = decide (a = b) from Bool.eq_iff_iff.2 (by simp [eq_comm])]
   congr 2
   funext c
   exact Bool.and_comm _ _
 | i + 1, a, b => by
   rw [dcM_succ, dcM_succ, dcM_sym q o i a b, show decide (b = a) = decide (a = b) from Bool.eq_iff_iff.2 (by simp [eq_comm])]
   rw [Bool.and_assoc, Bool.and_assoc, Bool.and_comm (dcI q o i a)]
theorem dcM_irr (q : PQuery) (o : List Int) : ∀ i a, dcM q o i a a = false
 | 0, a => by simp [dcM, nbrB]
 | i + 1, a => by rw [dcM_succ, dcM_irr q o i a]; simp
theorem filter_pw {n : Nat} {p : Int -> Bool} : ((rangeI n).filter p).Pairwise (· < ·) := List.Pairwise.filter _ (rangeI_pw n)
theorem nbr_impl {q : PQuery} (hq : queryOk q = true) (v : Int) (l : List PAtom) (hl : ∀ a ∈ l, ∀ w ∈ a.vars, 0 <= w /\ w < q.n) (hn : q.n <= 5) :
  ((l.foldl (fun out a => if a.vars.contains v then uniL out (aVars a.vars) else out) []).filter fun x => !(decide (x = v))) = (rangeI q.n.toNat).filter fun w => !(decide (w = v)) && l.any fun a => a.vars.contains v && a.vars.contains w := by
 have key : ∀ (l : List PAtom) (out : List Int), out.Pairwise (· < ·) → (l.foldl (fun out a => if a.vars.contains v then uniL out (aVars a.vars) else out) out).Pairwise (· < ·) ∧
   ∀ x, x ∈ l.foldl (fun out a => if a.vars.contains v then uniL out (aVars a.vars) else out) out ↔ x ∈ out \/ ∃ a ∈ l, a.vars.contains v = true /\ x ∈ aVars a.vars := by
  intro l
  induction l with
  | nil => intro out h; exact ⟨h, by simp⟩
  | cons a l ih =>
    intro out h
    rw [List.foldl_cons]
    by_cases hc : a.vars.contains v = true
    ·rw [if_pos hc]
     have hu := uniL_pw (aVars a.vars) h
     obtain ⟨h1, h2⟩ := ih _ hu.1
     refine ⟨h1, fun x => ?_⟩
     rw [h2, hu.2]
     constructor
     ·rintro ((h | h) | ⟨b, hb, h3⟩)
      ·exact .inl h
      ·exact .inr ⟨a, by simp, hc, h⟩
      ·exact .inr ⟨b, List.mem_cons_of_mem _ hb, h3⟩
     ·rintro (h | ⟨b, hb, h3, h4⟩)
      ·exact .inl (.inl h)
      ·rcases List.mem_cons.1 hb with rfl | hb
       ·exact .inl (.inr h4)
       ·exact .inr ⟨b, hb, h3, h4⟩
    ·rw [if_neg hc]
     obtain ⟨h1, h2⟩ := ih _ h
     refine ⟨h1, fun x => ?_⟩
     rw [h2]
     constructor
     ·rintro (h | ⟨b, hb, h3⟩)
      ·exact .inl h
      ·exact .inr ⟨b, List.mem_cons_of_mem _ hb, h3⟩
     ·rintro (h | ⟨b, hb, h3, h4⟩)
      ·exact .inl h
      ·rcases List.mem_cons.1 hb with rfl | hb
       ·exact absurd h3 hc
       ·exact .inr ⟨b, hb, h3, h4⟩
 obtain ⟨k1, k2⟩ := key l [] .nil
 refine pw_ext (List.Pairwise.filter _ k1) filter_pw fun x => ?_
 rw [List.mem_filter, List.mem_filter, k2, rangeI_mem]
 simp only [List.not_mem_nil, false_or, Bool.and_eq_true, List.any_eq_true, List.contains_iff_mem, aVars_mem]
 constructor
 ·rintro ⟨⟨a, ha, h1, h2, h3⟩, h4⟩
  have := hl a ha x h2
  exact ⟨by omega, h4, a, ha, h1, h2⟩
 ·rintro ⟨h0, h4, a, ha, h1, h2⟩
  exact ⟨⟨a, ha, h1, h2, by omega⟩, h4⟩
structure Od (q : PQuery) (o : List Int) : Prop where
 qok : queryOk q = true
 len : (o.length : Int) = q.n
 nd : o.Nodup
 rng : ∀ v ∈ o, 0 <= v /\ v < q.n
 n5 : 1 <= q.n /\ q.n <= 5
theorem od_of {q : PQuery} {o : List Int} (h : ordOk q o = true) : Od q o := by
 simp only [ordOk, Bool.and_eq_true, decide_eq_true_eq] at h
 obtain ⟨⟨h1, h2⟩, h3⟩ := h
 have hn : 1 ≤ q.n ∧ q.n ≤ 5 := by
  simp only [queryOk, inR, Bool.and_eq_true, decide_eq_true_eq] at h1
  omega
 simp only [setOf, Bool.and_eq_true, List.all_eq_true, decide_eq_true_eq] at h3
 refine ⟨h1, h2, h3.2, fun v hv => ?_, hn⟩
 have := h3.1 v hv
 rw [wrap64_of (by omega) (by omega)] at this
 simp only [inR, Bool.and_eq_true, decide_eq_true_eq] at this
 omega
theorem Od.all {q : PQuery} {o : List Int} (h : Od q o) {v : Int} (h0 : 0 <= v) (h1 : v < q.n) : v ∈ o := by
 refine Classical.byContradiction fun hn => ?_
 have := nodup_len (o.length) (v :: o) (List.nodup_cons.2 ⟨hn, h.nd⟩) fun x hx => by
  rcases List.mem_cons.1 hx with rfl | hx
  ·have := h.len; omega
  ·have := h.rng x hx; have := h.len; omega
 simp at this; omega
theorem Od.at {q : PQuery} {o : List Int} {i : Nat} (hi : i < o.length) : o.getD i 0 = o[i] := by simp [List.getD_eq_getElem?_getD, List.getElem?_eq_getElem hi]
theorem Od.split {q : PQuery} {o : List Int} (h : Od q o) {i : Nat} (hi : i < o.length) {v : Int} (h0 : 0 <= v) (h1 : v < q.n) : v ∈ o.drop (i + 1) ↔ v ∉ o.take i /\ v ≠ o[i] := by
 have e : o = o.take i ++ o[i] :: o.drop (i + 1) := by rw [<- List.drop_eq_getElem_cons hi, List.take_append_drop]
 have hnd := h.nd
 rw [e] at hnd
 obtain ⟨n1, n2, n3⟩ := List.nodup_append.1 hnd
 obtain ⟨n4, n5⟩ := List.nodup_cons.1 n2
 have hm := h.all h0 h1
 rw [e, List.mem_append, List.mem_cons] at hm
 constructor
 ·intro hv
  exact ⟨fun ht => n3 v ht v (List.mem_cons_of_mem _ hv) rfl, fun he => n4 (he ▸ hv)⟩
 ·rintro ⟨h3, h4⟩
  rcases hm with hm | hm | hm
  ·exact absurd hm h3
  ·exact absurd hm h4
  ·exact hm
theorem df_lat {q : PQuery} {o : List Int} {i : Nat} (hi : i < o.length) : comL (dcNear q o i (o[i])) (o.drop (i + 1)) = dcLat q o i := by
 rw [comL, dcNear, dcLat, List.filter_filter, Od.at (q := q) hi]
 exact List.filter_congr fun x _ => Bool.and_comm _ _
theorem lat_mem {q : PQuery} {o : List Int} (h : Od q o) {i : Nat} (hi : i < o.length) (v : Int) : v ∈ dcLat q o i ↔ 0 <= v /\ v < q.n /\ dcM q o i o[i] v = true /\ v ∉ o.take i := by
 rw [dcLat, List.mem_filter, rangeI_mem, Od.at (q := q) hi, Bool.and_eq_true, List.contains_iff_mem]
 constructor
 ·rintro ⟨h0, h1, h2⟩
  exact ⟨h0.1, by omega, h1, ((h.split hi h0.1 (by omega)).1 h2).1⟩
 ·rintro ⟨h0, h1, h2, h3⟩
  refine ⟨⟨h0, by omega⟩, h2, (h.split hi h0 h1).2 ⟨h3, fun e => ?_⟩⟩
  rw [e, dcM_irr] at h2; cases h2
theorem bag_mem {q : PQuery} {o : List Int} (h : Od q o) {i : Nat} (hi : i < o.length) (v : Int) : v ∈ dcBag q o i ↔ v = o[i] \/ v ∈ dcLat q o i := by
 rw [lat_mem h hi, dcBag, List.mem_filter, rangeI_mem, dcI, Od.at (q := q) hi]
 simp only [Bool.or_eq_true, decide_eq_true_eq, Bool.and_eq_true, Bool.not_eq_true', <- Bool.not_eq_true, List.contains_iff_mem]
 have := h.rng o[i] (List.getElem_mem hi)
 constructor
 ·rintro ⟨h0, h1 | h1⟩
  ·exact .inl h1
  ·exact .inr ⟨h0.1, by omega, h1.1, h1.2⟩
 ·rintro (h1 | h1)
  ·exact ⟨by omega, .inl h1⟩
  ·exact ⟨by omega, .inr h1.2.2⟩
theorem df_bag {q : PQuery} {o : List Int} (h : Od q o) {i : Nat} (hi : i < o.length) : uniL [o[i]] (dcLat q o i) = dcBag q o i := by
 have hu := uniL_pw (dcLat q o i) (show [o[i]].Pairwise (· < ·) by simp)
 exact pw_ext hu.1 filter_pw fun x => by rw [hu.2, bag_mem h hi, List.mem_singleton]
theorem dcI_iff {q : PQuery} {o : List Int} (h : Od q o) {i : Nat} (hi : i < o.length) {v : Int} (h0 : 0 <= v) (h1 : v < q.n) : dcI q o i v = true ↔ v = o[i] \/ v ∈ dcLat q o i := by
 rw [<- bag_mem h hi, dcBag, List.mem_filter, rangeI_mem]
 exact ⟨fun e => ⟨by omega, e⟩, fun e => e.2⟩
theorem df_near {q : PQuery} {o : List Int} (h : Od q o) {i : Nat} (hi : i < o.length) {x : Int} (hx : x ∈ dcLat q o i) : ((uniL (dcNear q o i x) (dcLat q o i)).filter fun y => !(decide (y = x))) = dcNear q o (i + 1) x := by
 have hu := uniL_pw (dcLat q o i) (show (dcNear q o i x).Pairwise (· < ·) from filter_pw)
 have hxm := (lat_mem h hi x).1 hx
 refine pw_ext (List.Pairwise.filter _ hu.1) filter_pw fun y => ?_
 rw [List.mem_filter, hu.2, dcNear, dcNear, List.mem_filter, List.mem_filter, rangeI_mem]
 simp only [Bool.not_eq_true', decide_eq_false_iff_not]
 constructor
 ·rintro ⟨⟨h0, h1⟩ | h1, h2⟩
  ·exact ⟨h0, by rw [dcM_succ, h1]; rfl⟩
  ·have hym := (lat_mem h hi y).1 h1
   refine ⟨by omega, ?_⟩
   rw [dcM_succ, Bool.or_eq_true, Bool.and_eq_true, Bool.and_eq_true, dcI_iff h hi hxm.1 hxm.2.1, dcI_iff h hi hym.1 hym.2.1]
   exact .inr ⟨⟨by simpa using fun e => h2 e.symm, .inr hx⟩, .inr h1⟩
 ·rintro ⟨h0, h1⟩
  rw [dcM_succ, Bool.or_eq_true, Bool.and_eq_true, Bool.and_eq_true, dcI_iff h hi hxm.1 hxm.2.1, dcI_iff h hi h0.1 (by omega)] at h1
  rcases h1 with h1 | ⟨⟨h1, _⟩, h2⟩
  ·exact ⟨.inl ⟨h0, h1⟩, fun e => by rw [e, dcM_irr] at h1; cases h1⟩
  ·refine ⟨?_, fun e => by simp [e] at h1⟩
   rcases h2 with h2 | h2
   ·refine .inl ⟨h0, ?_⟩
    rw [h2, dcM_sym]; exact hxm.2.2.1
   ·exact .inr h2
theorem df_same {q : PQuery} {o : List Int} (h : Od q o) {i : Nat} (hi : i < o.length) {x : Int} (h0 : 0 <= x) (h1 : x < q.n) (hx : x ∉ dcLat q o i) : dcNear q o (i + 1) x = dcNear q o i x := by
 refine List.filter_congr fun y hy => ?_
 rw [rangeI_mem] at hy
 rw [dcM_succ]
 cases hm : dcM q o i x y
 ·rw [Bool.false_or]
  refine Bool.eq_false_iff.2 fun hc => ?_
  rw [Bool.and_eq_true, Bool.and_eq_true, dcI_iff h hi h0 h1, dcI_iff h hi hy.1 (by omega)] at hc
  obtain ⟨⟨h2, h3⟩, h4⟩ := hc
  rcases h3 with rfl | h3
  ·rcases h4 with rfl | h4
   ·simp at h2
   ·have := ((lat_mem h hi y).1 h4).2.2.1
    rw [this] at hm; cases hm
  ·exact hx h3
 ·rfl
def nbF (v : Int) (l : List PAtom) : List Int := l.foldl (fun out a => if a.vars.contains v then uniL out (aVars a.vars) else out) []
theorem nbF_pw (v : Int) : ∀ (l : List PAtom) (out : List Int), out.Pairwise (· < ·) -> (∀ x ∈ out, 0 <= x /\ x < 5) -> (l.foldl (fun out a => if a.vars.contains v then uniL out (aVars a.vars) else out) out).Pairwise (· < ·) /\ ∀ x ∈ l.foldl (fun out a => if a.vars.contains v then uniL out (aVars a.vars) else out) out, 0 <= x /\ x < 5
 | [], out, h, h2 => ⟨h, h2⟩
 | a :: l, out, h, h2 => by
   rw [List.foldl_cons]
   cases hc : a.vars.contains v
   ·simpa using nbF_pw v l out h h2
   ·have hu := uniL_pw (aVars a.vars) h
    simp only [if_true]
    refine nbF_pw v l _ hu.1 fun x hx => ?_
    rcases (hu.2 x).1 hx with h3 | h3
    ·exact h2 x h3
    ·exact (aVars_mem.1 h3).2
theorem pw_nodupZ {l : List Int} (h : l.Pairwise (· < ·)) : l.Nodup := by
 rw [List.nodup_iff_pairwise_ne]
 exact h.imp fun h => by omega
theorem nbF_len (v : Int) (l : List PAtom) : (nbF v l).length <= 5 := by
 have h := nbF_pw v l [] .nil (by simp)
 exact nodup_len 5 _ (pw_nodupZ h.1) fun x hx => h.2 x hx
theorem nbF_snoc (v : Int) {l : List PAtom} {i : Nat} (h : i < l.length) : nbF v (l.take (i + 1)) = if l[i].vars.contains v then uniL (nbF v (l.take i)) (aVars l[i].vars) else nbF v (l.take i) := by
 rw [List.take_succ_eq_append_getElem h, nbF, List.foldl_append]; rfl
theorem atom_in {q : PQuery} (h : queryOk q = true) : ∀ a ∈ q.atoms, ∀ w ∈ a.vars, 0 <= w /\ w < q.n := by
 have hn := queryOk_n5 h
 intro a ha w hw
 simp only [queryOk, Bool.and_eq_true, List.all_eq_true] at h
 have := h.1.2 a ha
 simp only [atomOk, Bool.and_eq_true, List.all_eq_true] at this
 have := this.2 w hw
 rw [wrap64_of (by omega) (by omega)] at this
 simp only [inR, Bool.and_eq_true, decide_eq_true_eq] at this
 omega
theorem nbr_ok {q : PQuery} (h : queryOk q = true) (v : Int) : ((nbF v q.atoms).filter fun x => !(decide (x = v))) = nbrL q v := by
 rw [nbrL, if_pos h]
 exact nbr_impl h v q.atoms (atom_in h) (queryOk_n5 h).2
theorem asgO_app : ∀ (l : List (Int × Int)) (x : List Int) (v y : Int), asgO x (l ++ [(v, y)]) = (asgO x l).bind fun z => if z.getD v.toNat 0 = -1 \/ z.getD v.toNat 0 = y then some (z.set v.toNat y) else none
 | [], x, v, y => by simp [asgO]
 | (u, w) :: r, x, v, y => by
   rw [List.cons_append, asgO, asgO]
   split
   ·exact asgO_app r _ v y
   ·rfl
theorem asgO_none : ∀ (l r : List (Int × Int)) (x : List Int), asgO x l = none -> asgO x (l ++ r) = none
 | [], _, _, h => by simp [asgO] at h
 | (u, w) :: l, r, x, h => by
   rw [List.cons_append, asgO]
   rw [asgO] at h
   split at h
   ·rename_i hc
    rw [if_pos hc]
    exact asgO_none l r _ h
   ·rename_i hc
    rw [if_neg hc]
structure AsS (row vs t : List Int) (j : Nat) (x : List Int) (fits : Bool) : Prop where
 le : j <= vs.length
 len : x.length = row.length
 yes : fits = true -> asgO row ((vs.zip t).take j) = some x
 no : fits = false -> asgO row (vs.zip t) = none
theorem AsS.zero {row vs t : List Int} : AsS row vs t 0 row true := ⟨by omega, rfl, fun _ => by simp [asgO], fun h => by cases h⟩
theorem zip_take {vs t : List Int} {j : Nat} (h1 : j < vs.length) (h2 : j < t.length) : (vs.zip t).take (j + 1) = (vs.zip t).take j ++ [(vs[j], t[j])] := by
 rw [List.take_succ_eq_append_getElem (by simp; omega)]
 simp
theorem AsS.step {row vs t x : List Int} {j : Nat} (h : AsS row vs t j x true) (h1 : j < vs.length) (h2 : j < t.length) :
  AsS row vs t (j + 1) (x.set vs[j].toNat t[j]) (decide (x.getD vs[j].toNat 0 = -1 \/ x.getD vs[j].toNat 0 = t[j])) := by
 have hy := h.yes rfl
 have hz : asgO row ((vs.zip t).take (j + 1)) = if x.getD vs[j].toNat 0 = -1 ∨ x.getD vs[j].toNat 0 = t[j] then some (x.set vs[j].toNat t[j]) else none := by
  rw [zip_take h1 h2, asgO_app, hy]; rfl
 refine ⟨by omega, by rw [List.length_set]; exact h.len, fun hd => ?_, fun hd => ?_⟩
 ·rw [hz, if_pos (of_decide_eq_true hd)]
 ·rw [if_neg (of_decide_eq_false hd)] at hz
  have := asgO_none _ ((vs.zip t).drop (j + 1)) _ hz
  rwa [List.take_append_drop] at this
theorem AsS.done {row vs t x : List Int} {j : Nat} {fits : Bool} (h : AsS row vs t j x fits) (hj : fits = true -> vs.length <= j) : asgO row (vs.zip t) = if fits then some x else none := by
 cases fits with
 | false => simpa using h.no rfl
 | true =>
   have h2 := hj rfl
   have h3 := h.yes rfl
   rw [List.take_of_length_le (by simp; omega)] at h3
   simpa using h3
theorem rpL_d : ∀ l : List D, rpL (fun _ => none) (l.map V.d) = some ((erL l).map V.d)
 | [] => rfl
 | x :: r => by simp only [List.map_cons, rpL, rp, rpL_d r, erL]
theorem rp_agg_d (l : List D) : rp (fun _ => none) (.agg (l.map V.d)) = some (.agg ((erL l).map V.d)) := by simp only [rp, rpL_d, Option.map_some]
def sW : List (List Int × Int) → List Int → Int
 | [], _ => 0
 | p :: P, r => (if p.1 = r then p.2 else 0) + sW P r
theorem sW_app (P Q : List (List Int × Int)) (r : List Int) : sW (P ++ Q) r = sW P r + sW Q r := by
 induction P with
 | nil => simp [sW]
 | cons p P ih => simp only [List.cons_append, sW, ih]; omega
def sumL {α : Type} (f : α → Int) : List α → Int
 | [] => 0
 | a :: l => f a + sumL f l
theorem sumL_congr {α : Type} {f g : α -> Int} {l : List α} (h : ∀ a ∈ l, f a = g a) : sumL f l = sumL g l := by
 induction l with
 | nil => rfl
 | cons a l ih => rw [sumL, sumL, h a (by simp), ih fun b hb => h b (List.mem_cons_of_mem _ hb)]
theorem sumL_mul {α : Type} (f : α -> Int) (k : Int) (l : List α) : sumL (fun a => f a * k) l = sumL f l * k := by
 induction l with
 | nil => simp [sumL]
 | cons a l ih => simp only [sumL, ih, Int.add_mul]
theorem sW_flat {α : Type} (f : α -> List (List Int × Int)) (r : List Int) (l : List α) : sW (l.flatMap f) r = sumL (fun a => sW (f a) r) l := by
 induction l with
 | nil => rfl
 | cons a l ih => simp only [List.flatMap_cons, sW_app, sumL, ih]
theorem sW_sumL (P : List (List Int × Int)) (r : List Int) : sW P r = sumL (fun p => if p.1 = r then p.2 else 0) P := by
 induction P with
 | nil => rfl
 | cons p P ih => rw [sW, sumL, ih]
def joinW (u a : List Int) (P : List (List Int × Int)) (b : List Int) (L : List (List Int × Int)) : List (List Int × Int) :=
 P.flatMap fun r => L.filterMap fun s => (glO u a r.1 b s.1).map fun x => (x, r.2 * s.2)
theorem joinW_fst (u a : List Int) (P : List (List Int × Int)) (b : List Int) (L : List (List Int × Int)) : (joinW u a P b L).map Prod.fst = joinL u a (P.map Prod.fst) b (L.map Prod.fst) := by
 rw [joinW, joinL, List.map_flatMap, List.flatMap_map]
 refine congrArg (fun f => List.flatMap f P) (funext fun r => ?_)
 rw [List.map_filterMap, List.filterMap_map]
 refine congrArg (fun f => List.filterMap f L) (funext fun s => ?_)
 simp only [Function.comp_apply, Option.map_map]
 cases glO u a r.1 b s.1 <;> rfl
theorem gl_iff {u a b : List Int} (ha : a.Nodup) (hb : b.Nodup) (hu : ∀ x, x ∈ u ↔ x ∈ a \/ x ∈ b) {r s : List Int} (hr : r.length = a.length) (hs : s.length = b.length) (β : Int -> Int) :
  glO u a r b s = some (u.map β) ↔ r = a.map β /\ s = b.map β := by
 have h := join_mem (rows := [r]) (list := [s]) ha hb hu (fun x hx => by rw [List.mem_singleton.1 hx]; exact hr) (fun x hx => by rw [List.mem_singleton.1 hx]; exact hs) β
 simp only [joinL, List.flatMap_cons, List.flatMap_nil, List.append_nil, List.mem_filterMap, List.mem_singleton, exists_eq_left] at h
 rw [h]
 constructor
 ·rintro ⟨h1, h2⟩; exact ⟨h1.symm, h2.symm⟩
 ·rintro ⟨h1, h2⟩; exact ⟨h1.symm, h2.symm⟩
theorem sW_fm {u a b : List Int} (ha : a.Nodup) (hb : b.Nodup) (hu : ∀ x, x ∈ u ↔ x ∈ a \/ x ∈ b) {r : List Int} (c : Int) (hr : r.length = a.length) (β : Int -> Int) :
  ∀ (L : List (List Int × Int)), (∀ s ∈ L, s.1.length = b.length) -> sW (L.filterMap fun s => (glO u a r b s.1).map fun x => (x, c * s.2)) (u.map β) = (if r = a.map β then c else 0) * sW L (b.map β)
 | [], _ => by simp [sW]
 | s :: L, hs => by
   have ih := sW_fm ha hb hu c hr β L fun t ht => hs t (List.mem_cons_of_mem _ ht)
   have hg := gl_iff ha hb hu hr (hs s (by simp)) β
   rw [sW, Int.mul_add, <- ih]
   cases hO : glO u a r b s.1 with
   | none =>
     rw [List.filterMap_cons_none (by rw [hO]; rfl)]
     have : ¬ (r = a.map β /\ s.1 = b.map β) := fun h => by rw [hg.2 h] at hO; cases hO
     by_cases h1 : r = a.map β
     ·rw [if_neg (fun e => this ⟨h1, e⟩)]; simp
     ·simp [h1]
   | some x =>
     rw [List.filterMap_cons_some (by rw [hO]; rfl), sW]
     rw [hO] at hg
     by_cases hx : x = u.map β
     ·obtain ⟨h1, h2⟩ := hg.1 (by rw [hx])
      simp only [hx, h1, h2, if_true]
     ·have : ¬ (r = a.map β ∧ s.1 = b.map β) := fun h => hx (by have := hg.2 h; simpa using this)
      simp only [if_neg hx]
      by_cases h1 : r = a.map β
      ·rw [if_neg (fun e => this ⟨h1, e⟩)]; simp
      ·simp [h1]
theorem sW_join {u a b : List Int} (ha : a.Nodup) (hb : b.Nodup) (hu : ∀ x, x ∈ u ↔ x ∈ a \/ x ∈ b) {P L : List (List Int × Int)} (hr : ∀ r ∈ P, r.1.length = a.length) (hs : ∀ s ∈ L, s.1.length = b.length) (β : Int -> Int) :
  sW (joinW u a P b L) (u.map β) = sW P (a.map β) * sW L (b.map β) := by
 rw [joinW, sW_flat, sW_sumL P, <- sumL_mul]
 exact sumL_congr fun r hm => sW_fm ha hb hu r.2 (hr r hm) β L hs
structure JnW (as : List (List Int × List (List Int × Int))) (u : List Int) (P : List (List Int × Int)) : Prop where
 pw : u.Pairwise (· < ·)
 mem : ∀ x, x ∈ u ↔ x ∈ as.flatMap Prod.fst
 len : ∀ r ∈ P, r.1.length = u.length
 sum : ∀ β : Int -> Int, sW P (u.map β) = as.foldr (fun a n => sW a.2 (a.1.map β) * n) 1
 sup : ∀ β : Int -> Int, u.map β ∈ P.map Prod.fst ↔ ∀ a ∈ as, a.1.map β ∈ a.2.map Prod.fst
theorem JnW.zero : JnW [] [] [([], 1)] := ⟨.nil, by simp, by simp, fun β => by simp [sW], fun β => by simp⟩
theorem prod_snoc (β : Int -> Int) : ∀ (as : List (List Int × List (List Int × Int))) (a : List Int × List (List Int × Int)),
  (as ++ [a]).foldr (fun a n => sW a.2 (a.1.map β) * n) 1 = as.foldr (fun a n => sW a.2 (a.1.map β) * n) 1 * sW a.2 (a.1.map β)
 | [], a => by simp
 | b :: as, a => by simp only [List.cons_append, List.foldr_cons, prod_snoc β as a, Int.mul_assoc]
theorem joinW_len {u a : List Int} {P : List (List Int × Int)} {b : List Int} {L : List (List Int × Int)} : ∀ r ∈ joinW u a P b L, r.1.length = u.length := fun r hr =>
 join_len r.1 (by rw [<- joinW_fst]; exact List.mem_map_of_mem hr)
theorem JnW.step {as : List (List Int × List (List Int × Int))} {u : List Int} {P : List (List Int × Int)} (h : JnW as u P) {vs : List Int} (hv : ∀ v ∈ vs, 0 <= v /\ v < 5) {T L : List (List Int × Int)}
  (hl : ∀ s ∈ L, s.1.length = (aVars vs).length) (hw : ∀ β : Int -> Int, sW L ((aVars vs).map β) = sW T (vs.map β)) (hm : ∀ β : Int -> Int, (aVars vs).map β ∈ L.map Prod.fst ↔ vs.map β ∈ T.map Prod.fst) :
  JnW (as ++ [(vs, T)]) (uniL u (aVars vs)) (joinW (uniL u (aVars vs)) u P (aVars vs) L) := by
 have hu := uniL_pw (aVars vs) h.pw
 refine ⟨hu.1, fun x => ?_, joinW_len, fun β => ?_, fun β => ?_⟩
 ·rw [hu.2, h.mem, List.flatMap_append, List.mem_append, aVars_mem]
  simp only [List.flatMap_cons, List.flatMap_nil, List.append_nil]
  constructor
  ·rintro (h | h)
   ·exact .inl h
   ·exact .inr h.1
  ·rintro (h | h)
   ·exact .inl h
   ·exact .inr ⟨h, hv x h⟩
 ·rw [sW_join (pw_nodup h.pw) (pw_nodup (aVars_pw vs)) hu.2 h.len hl, h.sum, hw, prod_snoc]
 ·rw [joinW_fst, join_mem (pw_nodup h.pw) (pw_nodup (aVars_pw vs)) hu.2 (fun r hr => by
   obtain ⟨p, hp, rfl⟩ := List.mem_map.1 hr
   exact h.len p hp) (fun s hs => by
   obtain ⟨p, hp, rfl⟩ := List.mem_map.1 hs
   exact hl p hp), h.sup, hm]
  simp only [List.mem_append, List.mem_singleton]
  constructor
  ·rintro ⟨h1, h2⟩ b (hb | rfl)
   ·exact h1 b hb
   ·exact h2
  ·exact fun h => ⟨fun b hb => h b (.inl hb), h (vs, T) (.inr rfl)⟩
end Go.Vs
namespace Go.Vs
section
variable {S : Nat -> Prop} {w : World}
end
theorem lead_dr {σ : St} (s : Nat) {x y : D} (hs : σ.t s = .d x) (hxy : ∀ (S : Nat -> Prop) (w : World) (v : Value), DR S w x v -> DR S w y v) :
  Lead (fun σ' => σ' = { σ with t := upd σ.t s (.d y) }) σ := by
 intro A0 N w0 ρ a w h
 refine ⟨{ σ with t := upd σ.t s (.d y) }, ρ, ⟨h.below, h.hN, h.key, h.norow, h.hG, h.hB, h.hs, h.hs0, h.defers, h.size, fun i => ?_, h.mem, h.inj⟩, rfl⟩
 simp only [upd]
 split
 ·rename_i hi
  subst hi
  have hv := h.tmps i
  rw [hs] at hv
  simp only [VR] at hv ⊢
  exact hxy _ _ _ hv
 ·exact h.tmps i
theorem lead_er {σ : St} (s : Nat) {x : D} (hs : σ.t s = .d x) : Lead (fun σ' => σ' = { σ with t := upd σ.t s (.d x.er) }) σ := lead_dr s hs fun _ _ _ h => h.er
end Go.Vs
namespace Go.Vs
theorem lead_rowE {σ : St} (k : Nat) {T sz : Nat} {es : List (List D)} (hm : σ.m k = some (.row T sz es)) : Lead (fun σ' => σ' = { σ with m := upd σ.m k (some (.row T sz (erLL es))) }) σ := by
 intro A0 N w0 ρ a w h
 refine ⟨_, ρ, h.setBlk (b' := .row T sz (erLL es)) hm rfl h.below (Nat.le_refl _) (fun _ _ => rfl) (fun j => ?_) (fun hS _ => ?_), rfl⟩
 ·unfold KC
  by_cases hj : j = k
  ·subst hj
   simp only [upd, if_true]
   exact ⟨trivial, T, es, hm, by rw [erLL_len]; exact Nat.le_refl _⟩
  ·simp only [upd, if_neg hj]
   cases hb : σ.m j with
   | none => trivial
   | some b => cases b with
     | box cs => exact ⟨trivial, cs, rfl⟩
     | row T' sz' es' => exact ⟨trivial, T', es', rfl, Nat.le_refl _⟩
 ·have hb := h.mem k _ hm
  simp only [BlkR] at hb ⊢
  refine ⟨hb.1, ?_⟩
  cases hr : ρ k with
  | none =>
    rw [hr] at hb
    have := hb.2
    simp only at this
    subst this
    simp [erLL]
  | some p =>
    obtain ⟨g, cap⟩ := p
    rw [hr] at hb
    obtain ⟨_, h1, h2, h3, cur, h4, h5, h6⟩ := hb
    refine ⟨h1, h2, by rw [erLL_len]; exact h3, cur, h4, h5, fun i e he => ?_⟩
    obtain ⟨e0, he0, rfl⟩ := erLL_get es i e he
    obtain ⟨h7, h8⟩ := h6 i e0 he0
    refine ⟨by rw [erL_len]; exact h7, fun j u hu => ?_⟩
    obtain ⟨u0, hu0, rfl⟩ := erL_get e0 j u hu
    obtain ⟨v, hv, hd⟩ := h8 j u0 hu0
    exact ⟨v, hv, (hd.mono (fun g hg => hS g hg) (fun _ _ => rfl)).er⟩
def mtx (n : Nat) (f : Int -> Int -> Bool) : List Bool := (List.range (n * n)).map fun k => f ((k / n : Nat) : Int) ((k % n : Nat) : Int)
@[simp] theorem mtx_len (n : Nat) (f : Int -> Int -> Bool) : (mtx n f).length = n * n := by simp [mtx]
theorem mx_ix {n a b : Nat} (hn : n <= 5) (ha : a < n) (hb : b < n) : a * n + b < n * n /\ a * n <= 20 := by
 have h1 : a * n <= (n - 1) * n := Nat.mul_le_mul_right n (by omega)
 have h2 : (n - 1) * n + n = n * n := by
  have : (n - 1 + 1) * n = n * n := by rw [show n - 1 + 1 = n by omega]
  rw [<- this, Nat.add_mul]; omega
 have h3 : n * n <= 5 * n := Nat.mul_le_mul_right n hn
 refine ⟨by omega, ?_⟩
 have h4 : (n - 1) * n <= 4 * n := Nat.mul_le_mul_right n (by omega)
 omega
theorem mx_sq {n : Nat} (hn : n <= 5) : n * n <= 25 := by
 have h3 : n * n <= 5 * n := Nat.mul_le_mul_right n hn
 omega
theorem mx_div {n a b : Nat} (hb : b < n) : (a * n + b) / n = a /\ (a * n + b) % n = b := by
 constructor
 ·rw [Nat.add_comm, Nat.add_mul_div_right _ _ (by omega), Nat.div_eq_of_lt hb]; omega
 ·rw [Nat.add_comm, Nat.add_mul_mod_self_right, Nat.mod_eq_of_lt hb]
theorem mtx_get {n a b : Nat} {f : Int -> Int -> Bool} (hb : b < n) (h : a * n + b < (mtx n f).length) : (mtx n f)[a * n + b] = f a b := by
 simp only [mtx, List.getElem_map, List.getElem_range, (mx_div hb).1, (mx_div hb).2]
theorem mtx_congr {n : Nat} {f g : Int -> Int -> Bool} (h : ∀ a b : Nat, a < n -> b < n -> f a b = g a b) : mtx n f = mtx n g := by
 refine List.map_congr_left fun k hk => ?_
 rw [List.mem_range] at hk
 have hn : 0 < n := by
  rcases Nat.eq_zero_or_pos n with h0 | h0
  ·subst h0; simp at hk
  ·exact h0
 exact h _ _ (Nat.div_lt_of_lt_mul hk) (Nat.mod_lt _ hn)
theorem mtx_set {n a b : Nat} {f g : Int -> Int -> Bool} {c : Bool} (hb : b < n) (hc : g a b = c) (h : ∀ x y : Nat, x < n -> y < n -> ¬ (x = a /\ y = b) -> g x y = f x y) :
  (mtx n f).set (a * n + b) c = mtx n g := by
 refine List.ext_getElem (by simp) fun k h1 h2 => ?_
 rw [List.getElem_set]
 simp only [List.length_set, mtx_len] at h1
 by_cases e : a * n + b = k
 ·subst e
  rw [if_pos rfl, mtx_get hb, hc]
 ·rw [if_neg e]
  simp only [mtx, List.getElem_map, List.getElem_range]
  have hn : 0 < n := by omega
  refine (h _ _ (Nat.div_lt_of_lt_mul h1) (Nat.mod_lt _ hn) fun he => e ?_).symm
  rw [<- he.1, <- he.2, Nat.mul_comm]; exact Nat.div_add_mod k n
def jnA (q : PQuery) (i : Nat) (x y : Int) : Bool := decide (x < i) && nbrB q x y
def jnB (q : PQuery) (i : Nat) (l : List Int) (j : Nat) (x y : Int) : Bool := jnA q i x y || (decide (x = i) && (l.take j).contains y)
theorem jnA_zero (q : PQuery) (n : Nat) : mtx n (jnA q 0) = mtx n fun _ _ => false := mtx_congr fun a b _ _ => by
 have : ¬ ((a : Int) < (0 : Nat)) := by omega
 simp only [jnA, decide_eq_false this, Bool.false_and]
theorem jnB_zero (q : PQuery) (i n : Nat) (l : List Int) : mtx n (jnB q i l 0) = mtx n (jnA q i) := mtx_congr fun a b _ _ => by simp [jnB]
theorem jnA_all (q : PQuery) (o : List Int) (n : Nat) : mtx n (jnA q n) = mtx n (dcM q o 0) := mtx_congr fun a b ha _ => by
 have : (a : Int) < (n : Nat) := by omega
 simp only [jnA, decide_eq_true this, Bool.true_and, dcM]
theorem jnB_step {q : PQuery} {i n j b : Nat} {l : List Int} (hj : j < l.length) (hb : l[j] = (b : Int)) (hbn : b < n) : (mtx n (jnB q i l j)).set (i * n + b) true = mtx n (jnB q i l (j + 1)) := by
 refine mtx_set hbn ?_ fun x y _ _ h => ?_
 ·simp only [jnB, List.take_succ_eq_append_getElem hj, hb]
  simp
 ·simp only [jnB, List.take_succ_eq_append_getElem hj, hb]
  by_cases e : (x : Int) = i
  ·have : ¬ (y : Int) = b := fun e2 => h ⟨by omega, by omega⟩
   congr 2
   rw [Bool.eq_iff_iff]
   simp [show ¬ y = b by omega]
  ·simp [show ¬ x = i by omega]
theorem jnB_all {q : PQuery} {i n : Nat} (hq : queryOk q = true) (hn : q.n = n) (hi : i < n) : mtx n (jnB q i (nbrL q i) (nbrL q i).length) = mtx n (jnA q (i + 1)) := by
 refine mtx_congr fun x y hx hy => ?_
 rw [jnB, List.take_length, nbrL, if_pos hq, jnA, jnA]
 by_cases e : (x : Int) = i
 ·have hx' : x = i := by omega
  subst hx'
  rw [decide_eq_false (show ¬ (x : Int) < (x : Nat) by omega), decide_eq_true (show (x : Int) < ((x + 1 : Nat) : Int) by omega)]
  simp only [Bool.false_and, Bool.false_or, decide_true, Bool.true_and]
  rw [Bool.eq_iff_iff, List.contains_iff_mem, List.mem_filter, rangeI_mem]
  constructor
  ·rintro ⟨_, h⟩; exact h
  ·intro h; exact ⟨by rw [hn]; omega, h⟩
 ·rw [decide_eq_false e, Bool.false_and, Bool.or_false]
  congr 2
  apply propext; omega
def ffA (bag : List Int) (f : Int -> Int -> Bool) (a : Nat) (x y : Int) : Bool := f x y || ((bag.take a).contains x && bag.contains y && !(decide (x = y)))
def ffB (bag : List Int) (f : Int -> Int -> Bool) (a b : Nat) (x y : Int) : Bool := ffA bag f a x y || (decide (x = bag.getD a 0) && (bag.take b).contains y && !(decide (x = y)))
theorem ffA_zero (bag : List Int) (f : Int -> Int -> Bool) (n : Nat) : mtx n (ffA bag f 0) = mtx n f := mtx_congr fun a b _ _ => by simp [ffA]
theorem ffB_zero (bag : List Int) (f : Int -> Int -> Bool) (n a : Nat) : mtx n (ffB bag f a 0) = mtx n (ffA bag f a) := mtx_congr fun x y _ _ => by simp [ffB]
theorem ffB_all {bag : List Int} (f : Int -> Int -> Bool) (n : Nat) {a : Nat} (ha : a < bag.length) : mtx n (ffB bag f a bag.length) = mtx n (ffA bag f (a + 1)) := mtx_congr fun x y _ _ => by
 simp only [ffB, ffA, List.take_length, getD_el _ ha, List.take_succ_eq_append_getElem ha]
 rw [Bool.eq_iff_iff]
 simp only [Bool.or_eq_true, Bool.and_eq_true, List.contains_iff_mem, List.mem_append, List.mem_singleton, decide_eq_true_eq]
 constructor
 ·rintro ((h | ⟨⟨h1, h2⟩, h3⟩) | ⟨⟨h1, h2⟩, h3⟩)
  ·exact .inl h
  ·exact .inr ⟨⟨.inl h1, h2⟩, h3⟩
  ·exact .inr ⟨⟨.inr h1, h2⟩, h3⟩
 ·rintro (h | ⟨⟨h1 | h1, h2⟩, h3⟩)
  ·exact .inl (.inl h)
  ·exact .inl (.inr ⟨⟨h1, h2⟩, h3⟩)
  ·exact .inr ⟨⟨h1, h2⟩, h3⟩
theorem nodup_inj {l : List Int} (h : l.Nodup) {i j : Nat} (hi : i < l.length) (hj : j < l.length) (e : l[i] = l[j]) : i = j := by
 rw [List.Nodup, List.pairwise_iff_getElem] at h
 rcases Nat.lt_trichotomy i j with h1 | h1 | h1
 ·exact absurd e (h i j hi hj h1)
 ·exact h1
 ·exact absurd e.symm (h j i hj hi h1)
theorem ffB_step {bag : List Int} (hnd : bag.Nodup) (f : Int -> Int -> Bool) {n a b u v : Nat} (ha : a < bag.length) (hb : b < bag.length) (hu : bag[a] = (u : Int)) (hv : bag[b] = (v : Int)) (hvn : v < n) {c : Bool}
  (hc : c = (ffB bag f a b u v || !(decide (a = b)))) : (mtx n (ffB bag f a b)).set (u * n + v) c = mtx n (ffB bag f a (b + 1)) := by
 have hab : decide (a = b) = decide ((u : Int) = v) := by
  congr 1; apply propext
  rw [<- hu, <- hv]
  exact ⟨fun e => by subst e; rfl, fun e => nodup_inj hnd ha hb e⟩
 refine mtx_set hvn ?_ fun x y _ _ h => ?_
 ·rw [hc, hab]
  simp only [ffB, getD_el _ ha, hu, List.take_succ_eq_append_getElem hb, hv]
  rw [Bool.eq_iff_iff]
  simp only [Bool.or_eq_true, Bool.and_eq_true, List.contains_iff_mem, List.mem_append, List.mem_singleton, decide_eq_true_eq]
  constructor
  ·rintro (h | ⟨⟨h1, _⟩, h3⟩)
   ·exact .inl (.inl h)
   ·exact .inr h3
  ·rintro ((h | ⟨⟨h1, h2⟩, h3⟩) | h)
   ·exact .inl h
   ·exact .inr ⟨⟨by trivial, .inr (by trivial)⟩, h3⟩
   ·exact .inr ⟨⟨by trivial, .inr (by trivial)⟩, h⟩
 ·simp only [ffB, getD_el _ ha, hu, List.take_succ_eq_append_getElem hb, hv]
  rw [Bool.eq_iff_iff]
  simp only [Bool.or_eq_true, Bool.and_eq_true, List.contains_iff_mem, List.mem_append, List.mem_singleton, decide_eq_true_eq]
  constructor
  ·rintro (h1 | ⟨⟨h1, h2 | h2⟩, h3⟩)
   ·exact .inl h1
   ·exact .inr ⟨⟨h1, h2⟩, h3⟩
   ·exact absurd ⟨by omega, by omega⟩ h
  ·rintro (h1 | ⟨⟨h1, h2⟩, h3⟩)
   ·exact .inl h1
   ·exact .inr ⟨⟨h1, .inl h2⟩, h3⟩
theorem ffA_all {q : PQuery} {o : List Int} {n i : Nat} (hn : q.n = n) : mtx n (ffA (dcBag q o i) (dcM q o i) (dcBag q o i).length) = mtx n (dcM q o (i + 1)) := mtx_congr fun x y hx hy => by
 have hm : ∀ z : Nat, z < n → (dcBag q o i).contains (z : Int) = dcI q o i z := fun z hz => by
  rw [Bool.eq_iff_iff, List.contains_iff_mem, dcBag, List.mem_filter, rangeI_mem]
  constructor
  ·exact fun h => h.2
  ·exact fun h => ⟨by rw [hn]; omega, h⟩
 rw [ffA, List.take_length, dcM_succ, hm x hx, hm y hy]
 cases dcM q o i x y <;> cases dcI q o i x <;> cases dcI q o i y <;> simp
def upV (o bag : List Int) (i : Nat) : Nat := match fstIn o bag (o.length - (i + 1)) (i + 1) with
 | some k => k
 | none => i + 1
theorem dcUp_eq (q : PQuery) (o : List Int) (i : Nat) : dcUp q o i = if i + 1 = o.length then -1 else ((upV o (dcBag q o i) i : Nat) : Int) := by
 rw [dcUp, upV]
 split
 ·rfl
 ·cases fstIn o (dcBag q o i) (o.length - (i + 1)) (i + 1) <;> rfl
structure UpI (o bag : List Int) (i : Nat) (p : Nat × Bool × Nat) : Prop where
 le : i + 1 <= p.2.2 /\ p.2.2 <= o.length
 go : p.2.1 = true -> p.1 = i + 1 /\ fstIn o bag (o.length - (i + 1)) (i + 1) = fstIn o bag (o.length - p.2.2) p.2.2
 fd : p.2.1 = false -> p.1 = upV o bag i
theorem UpI.zero {o bag : List Int} {i : Nat} (h : i < o.length) : UpI o bag i (i + 1, true, i + 1) := ⟨⟨Nat.le_refl _, h⟩, fun _ => ⟨rfl, rfl⟩, nofun⟩
theorem fst_at {o bag : List Int} {k : Nat} (h : k < o.length) : fstIn o bag (o.length - k) k = if bag.contains o[k] then some k else fstIn o bag (o.length - (k + 1)) (k + 1) := by
 rw [show o.length - k = (o.length - (k + 1)) + 1 by omega, fstIn, getD_el _ h]
theorem UpI.hit {o bag : List Int} {i u k : Nat} (h : UpI o bag i (u, true, k)) (hk : k < o.length) (hb : bag.contains o[k] = true) : UpI o bag i (k, false, k + 1) := by
 have h1 := h.le
 have h2 := (h.go rfl).2
 simp only at h1 h2
 refine ⟨⟨by simp only; omega, hk⟩, nofun, fun _ => ?_⟩
 rw [fst_at hk, if_pos hb] at h2
 rw [upV, h2]
theorem UpI.miss {o bag : List Int} {i u k : Nat} (h : UpI o bag i (u, true, k)) (hk : k < o.length) (hb : bag.contains o[k] = false) : UpI o bag i (u, true, k + 1) := by
 have h1 := h.le
 have h2 := h.go rfl
 simp only at h1 h2
 refine ⟨⟨by simp only; omega, hk⟩, fun _ => ⟨h2.1, ?_⟩, nofun⟩
 have h3 := h2.2
 rw [fst_at hk, if_neg (by simp only [hb]; simp)] at h3
 exact h3
theorem UpI.done {o bag : List Int} {i u k : Nat} {s : Bool} (h : UpI o bag i (u, s, k)) (hk : ¬ (k < o.length /\ s = true)) : u = upV o bag i := by
 cases s with
 | false => exact h.fd rfl
 | true =>
   have h1 := h.le
   have h2 := h.go rfl
   simp only at h1 h2
   have hk' : k = o.length := by
    by_cases e : k < o.length
    ·exact absurd ⟨e, rfl⟩ hk
    ·omega
   rw [upV, h2.2, hk', Nat.sub_self, fstIn]; exact h2.1
theorem jn_rep (q : PQuery) {n S : Nat} (h : S = n * n) : List.replicate S [D.bool false] = (mtx n (jnA q 0)).map cB := by
 rw [jnA_zero, h]
 refine List.ext_getElem (by simp) fun k h1 h2 => ?_
 simp [mtx, cB]
theorem dcM0 (q : PQuery) (o : List Int) : dcM q o 0 = nbrB q := rfl
theorem ids_B : ∀ l : List Bool, idsLL (l.map cB) = []
 | [] => rfl
 | b :: l => by simp [idsLL, idsL, D.ids, cB, ids_B l]
def nbI (q : PQuery) (N i : Nat) : List (List Int) := (List.range N).map fun v => if v < i then nbrL q (v : Nat) else []
def nrI (q : PQuery) (o : List Int) (N i : Nat) : List (List Int) := (List.range N).map fun v => dcNear q o i (v : Nat)
def nrJ (q : PQuery) (o : List Int) (N i j : Nat) : List (List Int) := (List.range N).map fun v => if ((dcLat q o i).take j).contains ((v : Nat) : Int) then dcNear q o (i + 1) (v : Nat) else dcNear q o i (v : Nat)
@[simp] theorem nbI_len (q : PQuery) (N i : Nat) : (nbI q N i).length = N := by simp [nbI]
@[simp] theorem nrI_len (q : PQuery) (o : List Int) (N i : Nat) : (nrI q o N i).length = N := by simp [nrI]
@[simp] theorem nrJ_len (q : PQuery) (o : List Int) (N i j : Nat) : (nrJ q o N i j).length = N := by simp [nrJ]
theorem nbI_zero (q : PQuery) (N : Nat) : nbI q N 0 = List.replicate N [] := by
 refine List.ext_getElem (by simp) fun k h1 h2 => ?_
 simp [nbI]
theorem nbI_set (q : PQuery) {N i : Nat} (_h : i < N) : (nbI q N i).set i (nbrL q i) = nbI q N (i + 1) := by
 refine List.ext_getElem (by simp) fun k h1 h2 => ?_
 rw [List.getElem_set]
 simp only [nbI, List.getElem_map, List.getElem_range]
 by_cases e : i = k
 ·subst e; rw [if_pos rfl, if_pos (by omega)]
 ·rw [if_neg e]
  by_cases e2 : k < i
  ·rw [if_pos e2, if_pos (by omega)]
  ·rw [if_neg e2, if_neg (by omega)]
theorem nbI_all {q : PQuery} (hq : queryOk q = true) (o : List Int) (N : Nat) : nbI q N N = nrI q o N 0 := by
 refine List.map_congr_left fun v hv => ?_
 rw [List.mem_range] at hv
 rw [if_pos hv, nbrL, if_pos hq]; rfl
theorem nrI_get {q : PQuery} {o : List Int} {N i c : Nat} (h : c < (nrI q o N i).length) : (nrI q o N i)[c] = dcNear q o i (c : Nat) := by simp [nrI]
theorem nrJ_zero (q : PQuery) (o : List Int) (N i : Nat) : nrJ q o N i 0 = nrI q o N i := List.map_congr_left fun v _ => by simp
theorem lat_nodup (q : PQuery) (o : List Int) (i : Nat) : (dcLat q o i).Nodup := pw_nodup filter_pw
theorem take_fresh {l : List Int} (h : l.Nodup) {j : Nat} (hj : j < l.length) : l[j] ∉ l.take j := by
 have h2 := h
 rw [<- List.take_append_drop j l, List.drop_eq_getElem_cons hj] at h2
 obtain ⟨_, _, h3⟩ := List.nodup_append.1 h2
 exact fun hm => h3 _ hm l[j] (by simp only [List.mem_cons, true_or]) rfl
theorem nrJ_get {q : PQuery} {o : List Int} {N i j c : Nat} (hj : j < (dcLat q o i).length) (hc : (dcLat q o i)[j] = (c : Int)) (h : c < (nrJ q o N i j).length) : (nrJ q o N i j)[c] = dcNear q o i (c : Nat) := by
 simp only [nrJ, List.getElem_map, List.getElem_range]
 rw [if_neg]
 have := take_fresh (lat_nodup q o i) hj
 rw [hc] at this
 simpa using this
theorem nrJ_set {q : PQuery} {o : List Int} {N i j c : Nat} (hj : j < (dcLat q o i).length) (hc : (dcLat q o i)[j] = (c : Int)) : (nrJ q o N i j).set c (dcNear q o (i + 1) (c : Nat)) = nrJ q o N i (j + 1) := by
 refine List.ext_getElem (by simp) fun k h1 h2 => ?_
 rw [List.getElem_set]
 simp only [nrJ, List.getElem_map, List.getElem_range, List.take_succ_eq_append_getElem hj, hc]
 by_cases e : c = k
 ·subst e; rw [if_pos rfl, if_pos (by simp)]
 ·rw [if_neg e]
  congr 1
  rw [List.contains_iff_mem, List.contains_iff_mem, List.mem_append, List.mem_singleton]
  apply propext
  exact ⟨.inl, fun h => h.resolve_right fun e2 => e (by omega)⟩
theorem nrJ_all {q : PQuery} {o : List Int} (h : Od q o) {N i : Nat} (hN : q.n = N) (hi : i < o.length) : nrJ q o N i (dcLat q o i).length = nrI q o N (i + 1) := by
 refine List.map_congr_left fun v hv => ?_
 rw [List.mem_range] at hv
 rw [List.take_length]
 split
 ·rfl
 ·rename_i hc
  refine (df_same h hi (by omega) (by omega) fun hm => hc ?_).symm
  simpa using hm
def upR (o l : List Int) (i k : Nat) : Int := match fstIn o l (o.length - (k + 1)) (k + 1) with
 | some j => ((j : Nat) : Int)
 | none => if i + 1 = o.length then -1 else ((i + 1 : Nat) : Int)
theorem upR_top {o l : List Int} {i : Nat} (h : i < o.length) : upR o l i (o.length - 1) = if i + 1 = o.length then -1 else ((i + 1 : Nat) : Int) := by
 rw [upR, show o.length - (o.length - 1 + 1) = 0 by omega, fstIn]
theorem upR_step {o l : List Int} {i k : Nat} (hk : k < o.length) (h0 : 0 < k) : upR o l i (k - 1) = if l.contains o[k] then ((k : Nat) : Int) else upR o l i k := by
 rw [upR, show k - 1 + 1 = k by omega, fst_at hk]
 cases l.contains o[k] <;> rfl
theorem fst_congr {o l l' : List Int} : ∀ (m k : Nat), k + m <= o.length -> (∀ j (hj : j < o.length), k <= j -> l.contains o[j] = l'.contains o[j]) -> fstIn o l m k = fstIn o l' m k
 | 0, k, _, _ => rfl
 | m + 1, k, h, hc => by
   rw [fstIn, fstIn, getD_el _ (show k < o.length by omega), hc k (by omega) (Nat.le_refl _), fst_congr m (k + 1) (by omega) fun j hj h1 => hc j hj (by omega)]
theorem upR_end {q : PQuery} {o : List Int} (h : Od q o) {i : Nat} (hi : i < o.length) : upR o (dcLat q o i) i i = dcUp q o i := by
 have e : fstIn o (dcLat q o i) (o.length - (i + 1)) (i + 1) = fstIn o (dcBag q o i) (o.length - (i + 1)) (i + 1) := by
  refine fst_congr _ _ (by omega) fun j hj hij => ?_
  rw [Bool.eq_iff_iff, List.contains_iff_mem, List.contains_iff_mem, bag_mem h hi]
  constructor
  ·exact .inr
  ·rintro (e | e)
   ·have := nodup_inj h.nd hj hi e; omega
   ·exact e
 rw [upR, dcUp_eq, upV, e]
 by_cases e2 : i + 1 = o.length
 ·rw [if_pos e2, show o.length - (i + 1) = 0 by omega, fstIn]; simp only; rw [if_pos e2]
 ·simp only [if_neg e2]
  cases fstIn o (dcBag q o i) (o.length - (i + 1)) (i + 1)
  ·rfl
  ·rfl
def dotF : Nat → (Nat → _root_.Rat) → (Nat → _root_.Rat) → _root_.Rat
 | 0, _, _ => 0
 | n + 1, a, x => dotF n a x + a n * x n
theorem dotF_congr {a a' x x' : Nat -> _root_.Rat} : ∀ {n : Nat}, (∀ k, k < n -> a k = a' k) -> (∀ k, k < n -> x k = x' k) -> dotF n a x = dotF n a' x'
 | 0, _, _ => rfl
 | n + 1, h, h' => by
   rw [dotF, dotF, dotF_congr (n := n) (fun k hk => h k (by omega)) (fun k hk => h' k (by omega)), h n (by omega), h' n (by omega)]
theorem dotF_add (a x y : Nat -> _root_.Rat) : ∀ n : Nat, dotF n a (fun k => x k + y k) = dotF n a x + dotF n a y
 | 0 => by simp only [dotF]; grind
 | n + 1 => by
   simp only [dotF, dotF_add a x y n]
   grind
theorem dotF_smul (a x : Nat -> _root_.Rat) (t : _root_.Rat) : ∀ n : Nat, dotF n a (fun k => t * x k) = t * dotF n a x
 | 0 => by simp [dotF]
 | n + 1 => by
   simp only [dotF, dotF_smul a x t n]
   grind
theorem dotF_comm (a x : Nat -> _root_.Rat) : ∀ n : Nat, dotF n a x = dotF n x a
 | 0 => rfl
 | n + 1 => by rw [dotF, dotF, dotF_comm a x n, Rat.mul_comm]
theorem dotF_zero {a x : Nat -> _root_.Rat} : ∀ {n : Nat}, (∀ k, k < n -> a k * x k = 0) -> dotF n a x = 0
 | 0, _ => rfl
 | n + 1, h => by
   rw [dotF, dotF_zero (n := n) (fun k hk => h k (by omega)), h n (by omega)]
   grind
theorem dotF_nonneg {a x : Nat -> _root_.Rat} : ∀ {n : Nat}, (∀ k, k < n -> 0 <= a k * x k) -> 0 <= dotF n a x
 | 0, _ => by simp [dotF]
 | n + 1, h => by
   have h1 := dotF_nonneg (n := n) (fun k hk => h k (by omega))
   have h2 := h n (by omega)
   rw [dotF]
   grind
theorem dotF_one {a x : Nat -> _root_.Rat} {j : Nat} : ∀ {n : Nat}, j < n -> (∀ k, k < n -> k ≠ j -> a k * x k = 0) -> dotF n a x = a j * x j
 | 0, h, _ => by omega
 | n + 1, h, hz => by
   rw [dotF]
   by_cases e : j = n
   ·subst e
    rw [dotF_zero fun k hk => hz k (by omega) (by omega)]
    grind
   ·rw [dotF_one (n := n) (by omega) fun k hk => hz k (by omega), hz n (by omega) (by omega)]
    grind
theorem dotF_swap (c : Nat -> _root_.Rat) (B : Nat -> Nat -> _root_.Rat) (y : Nat -> _root_.Rat) (n : Nat) : ∀ m : Nat, dotF m c (fun i => dotF n (B i) y) = dotF n (fun k => dotF m c (fun i => B i k)) y
 | 0 => by rw [dotF_zero (n := n)]; · rfl
           intro k _; simp [dotF]
 | m + 1 => by
   rw [dotF, dotF_swap c B y n m]
   simp only [dotF]
   rw [dotF_comm (fun k => dotF m c (fun i => B i k) + c m * B m k), dotF_add, dotF_smul, dotF_comm y, dotF_comm y]
theorem homog : ∀ (n : Nat) (A : List (Nat -> _root_.Rat)), A.length < n -> ∃ y : Nat -> _root_.Rat, (∃ k, k < n /\ y k ≠ 0) /\ ∀ a ∈ A, dotF n a y = 0
 | 0, _, h => by omega
 | n + 1, A, h => by
   by_cases hA : ∀ a ∈ A, a n = 0
   ·refine ⟨fun k => if k = n then 1 else 0, ⟨n, by omega, by simp⟩, fun a ha => ?_⟩
    refine dotF_zero fun k hk => ?_
    by_cases e : k = n
    ·rw [e, hA a ha]; grind
    ·simp only [if_neg e]; grind
   ·have : ∃ a0, a0 ∈ A ∧ a0 n ≠ 0 := by
     refine Classical.byContradiction fun hn => hA fun a ha => Classical.byContradiction fun h' => hn ⟨a, ha, h'⟩
    obtain ⟨a0, h0, hne⟩ := this
    obtain ⟨s, t, rfl⟩ := List.append_of_mem h0
    obtain ⟨y, ⟨k, hk, hy⟩, hz⟩ := homog n ((s ++ t).map fun a k => a k - a n / a0 n * a0 k) (by simp at h ⊢; omega)
    have hd : ∀ a : Nat → _root_.Rat, dotF (n + 1) a (fun k => if k = n then - dotF n a0 y / a0 n else y k) = dotF n a y + a n * (- dotF n a0 y / a0 n) := fun a => by
     rw [dotF]
     simp only [if_true]
     rw [dotF_congr (a := a) (a' := a) (x' := y) (fun _ _ => rfl) (fun k hk => if_neg (by omega))]
    refine ⟨fun k => if k = n then - dotF n a0 y / a0 n else y k, ⟨k, by omega, by simp only [if_neg (show ¬ k = n by omega)]; exact hy⟩, fun a ha => ?_⟩
    rw [hd]
    have hsub : ∀ a ∈ s ++ t, dotF n a y = a n / a0 n * dotF n a0 y := fun a ha => by
     have h1 := hz _ (List.mem_map_of_mem ha)
     have h2 : dotF n (fun k => a k - a n / a0 n * a0 k) y = dotF n a y - a n / a0 n * dotF n a0 y := by
      rw [dotF_comm, dotF_comm a, dotF_comm a0, show (fun k => a k - a n / a0 n * a0 k) = fun k => a k + (-(a n / a0 n)) * a0 k from funext fun k => by grind, dotF_add, dotF_smul]
      grind
     rw [h2] at h1
     grind
    rcases List.mem_append.1 ha with ha | ha
    ·rw [hsub a (List.mem_append_left _ ha)]; grind
    ·rcases List.mem_cons.1 ha with rfl | ha
     ·grind
     ·rw [hsub a (List.mem_append_right _ ha)]; grind
theorem gd {α : Type} {l : List α} {i : Nat} {d : α} (h : i < l.length) : l.getD i d = l[i] := by simp [List.getD, h]
def Ker (n : Nat) (A : List (Nat -> _root_.Rat)) : Prop := ∀ y : Nat -> _root_.Rat, (∀ a ∈ A, dotF n a y = 0) -> ∀ k, k < n -> y k = 0
theorem ker_sub {n : Nat} : ∀ (m : Nat) (A : List (Nat -> _root_.Rat)), A.length <= m -> Ker n A -> ∃ B : List (Nat -> _root_.Rat), B.Sublist A /\ B.length = n /\ Ker n B
 | m, A, hm, hA => by
   by_cases h1 : A.length < n
   ·obtain ⟨y, ⟨k, hk, hy⟩, hz⟩ := homog n A h1
    exact absurd (hA y hz k hk) hy
   by_cases h2 : A.length = n
   ·exact ⟨A, .refl _, h2, hA⟩
   cases m with
   | zero => omega
   | succ m =>
     obtain ⟨c, ⟨j, hj, hc⟩, hz⟩ := homog A.length ((List.range n).map fun k i => A.getD i (fun _ => 0) k) (by simp; omega)
     have hz' : ∀ k, k < n → dotF A.length c (fun i => A.getD i (fun _ => 0) k) = 0 := fun k hk => by
      rw [dotF_comm]
      exact hz _ (List.mem_map.2 ⟨k, List.mem_range.2 hk, rfl⟩)
     have hK : Ker n (A.eraseIdx j) := fun y hy => hA y fun a ha => by
      obtain ⟨i, hi, rfl⟩ := List.mem_iff_getElem.1 ha
      by_cases e : i = j
      ·subst e
       have h3 : dotF A.length c (fun i => dotF n (A.getD i (fun _ => 0)) y) = 0 := by
        rw [dotF_swap]
        exact dotF_zero fun k hk => by rw [hz' k hk]; grind
       have h4 : dotF A.length c (fun i => dotF n (A.getD i (fun _ => 0)) y) = c i * dotF n (A.getD i (fun _ => 0)) y := by
        refine dotF_one hi fun k hk hki => ?_
        have h5 : A.getD k (fun _ => 0) ∈ A.eraseIdx i := by
         rw [gd hk, List.mem_eraseIdx_iff_getElem]
         exact ⟨k, hk, hki, rfl⟩
        rw [hy _ h5]; grind
       rw [h4, gd hi] at h3
       grind
      ·exact hy _ (List.mem_eraseIdx_iff_getElem.2 ⟨i, hi, e, rfl⟩)
     obtain ⟨B, hB, hl, hk⟩ := ker_sub m (A.eraseIdx j) (by rw [List.length_eraseIdx]; split <;> omega) hK
     exact ⟨B, hB.trans (List.eraseIdx_sublist _ _), hl, hk⟩
theorem filter_lt {α : Type} {q r : α -> Bool} : ∀ {l : List α}, (∀ p ∈ l, q p = true -> r p = true) -> (∃ p, p ∈ l /\ r p = true /\ q p = false) -> (l.filter q).length < (l.filter r).length
 | [], _, ⟨_, h, _⟩ => by simp at h
 | a :: l, h, ⟨p, hp, h1, h2⟩ => by
   have hle : ∀ l : List α, (∀ p ∈ l, q p = true → r p = true) → (l.filter q).length ≤ (l.filter r).length := fun l hl => by
    rw [<- List.countP_eq_length_filter, <- List.countP_eq_length_filter]
    exact List.countP_mono_left hl
   have hl := hle l fun p hp => h p (by simp [hp])
   have ha := h a (by simp)
   rcases List.mem_cons.1 hp with rfl | hp
   ·simp only [List.filter_cons, h1, h2, if_true, Bool.false_eq_true, if_false, List.length_cons]; omega
   ·have ih := filter_lt (l := l) (fun p hp => h p (by simp [hp])) ⟨p, hp, h1, h2⟩
    simp only [List.filter_cons]
    by_cases e : q a = true
    ·rw [if_pos e, if_pos (ha e)]; simp; exact ih
    ·rw [if_neg e]
     split
     ·simp; omega
     ·exact ih
theorem min_ex {α : Type} (f : α -> _root_.Rat) : ∀ {l : List α}, l ≠ [] -> ∃ p, p ∈ l /\ ∀ p' ∈ l, f p <= f p'
 | [], h => absurd rfl h
 | [a], _ => ⟨a, by simp, fun p' hp => by rw [List.mem_singleton.1 hp]; exact Rat.le_refl⟩
 | a :: b :: l, _ => by
   obtain ⟨p, hp, hm⟩ := min_ex f (l := b :: l) (by simp)
   by_cases e : f a <= f p
   ·refine ⟨a, by simp, fun p' hp' => ?_⟩
    rcases List.mem_cons.1 hp' with rfl | hp'
    ·exact Rat.le_refl
    ·have := hm p' hp'; grind
   ·refine ⟨p, by simp only [List.mem_cons] at hp ⊢; exact .inr hp, fun p' hp' => ?_⟩
    rcases List.mem_cons.1 hp' with rfl | hp'
    ·grind
    ·exact hm p' hp'
abbrev Cst := (Nat -> _root_.Rat) × _root_.Rat
def feasF (n : Nat) (C : List Cst) (x : Nat -> _root_.Rat) : Prop := ∀ p ∈ C, p.2 <= dotF n p.1 x
def tgt (n : Nat) (x : Nat -> _root_.Rat) (p : Cst) : Bool := decide (dotF n p.1 x = p.2)
theorem dir_ex {n : Nat} {C : List Cst} {c x : Nat -> _root_.Rat} (hc : ∀ k, k < n -> 0 <= c k) (h : ¬ Ker n ((C.filter (tgt n x)).map Prod.fst)) :
  ∃ y : Nat -> _root_.Rat, (∀ p ∈ C, tgt n x p = true -> dotF n p.1 y = 0) /\ dotF n c y <= 0 /\ ∃ k, k < n /\ y k < 0 := by
 have : ∃ y : Nat → _root_.Rat, (∀ a ∈ (C.filter (tgt n x)).map Prod.fst, dotF n a y = 0) ∧ ∃ k, k < n ∧ y k ≠ 0 :=
  Classical.byContradiction fun hn => h fun y hy k hk => Classical.byContradiction fun h' => hn ⟨y, hy, k, hk, h'⟩
 obtain ⟨y, hy, k, hk, hne⟩ := this
 have hy' : ∀ p ∈ C, tgt n x p = true -> dotF n p.1 y = 0 := fun p hp ht => hy _ (List.mem_map_of_mem (List.mem_filter.2 ⟨hp, ht⟩))
 have hm : ∀ a : Nat -> _root_.Rat, dotF n a (fun k => -1 * y k) = - dotF n a y := fun a => by rw [dotF_smul]; grind
 have hneg : ∀ y : Nat → _root_.Rat, dotF n c y < 0 → ∃ k, k < n ∧ y k < 0 := fun y h0 =>
  Classical.byContradiction fun hn => by
   have : 0 ≤ dotF n c y := dotF_nonneg fun k hk => Rat.mul_nonneg (hc k hk) (by
    by_cases e : y k < 0
    ·exact absurd ⟨k, hk, e⟩ hn
    ·grind)
   grind
 by_cases h1 : dotF n c y < 0
 ·exact ⟨y, hy', by grind, hneg y h1⟩
 by_cases h2 : 0 < dotF n c y
 ·refine ⟨fun k => -1 * y k, fun p hp ht => by rw [hm, hy' p hp ht]; grind, by rw [hm]; grind, hneg _ (by rw [hm]; grind)⟩
 by_cases h3 : y k < 0
 ·exact ⟨y, hy', by grind, k, hk, h3⟩
 ·exact ⟨fun k => -1 * y k, fun p hp ht => by rw [hm, hy' p hp ht]; grind, by rw [hm]; grind, k, hk, by grind⟩
theorem vert_ex {n : Nat} {C : List Cst} {c : Nat -> _root_.Rat} (hc : ∀ k, k < n -> 0 <= c k) (hu : ∀ k, k < n -> ∃ p ∈ C, p.2 = 0 /\ ∀ x, dotF n p.1 x = x k) :
  ∀ (m : Nat) (x : Nat -> _root_.Rat), feasF n C x -> (C.filter fun p => !tgt n x p).length <= m -> ∃ v, feasF n C v /\ dotF n c v <= dotF n c x /\ Ker n ((C.filter (tgt n v)).map Prod.fst)
 | m, x, hx, hm => by
   by_cases hK : Ker n ((C.filter (tgt n x)).map Prod.fst)
   ·exact ⟨x, hx, Rat.le_refl, hK⟩
   obtain ⟨y, hy, hcy, k, hk, hyk⟩ := dir_ex hc hK
   obtain ⟨pk, hpk, _, hek⟩ := hu k hk
   have hne : (C.filter fun p => decide (dotF n p.1 y < 0)) ≠ [] := fun e => by
    have : pk ∈ (C.filter fun p => decide (dotF n p.1 y < 0)) := List.mem_filter.2 ⟨hpk, by rw [hek]; simpa using hyk⟩
    rw [e] at this; simp at this
   obtain ⟨p0, hp0, hmin⟩ := min_ex (fun p : Cst => (dotF n p.1 x - p.2) / (- dotF n p.1 y)) hne
   obtain ⟨hp0C, hp0n⟩ := List.mem_filter.1 hp0
   have hp0n : dotF n p0.1 y < 0 := by simpa using hp0n
   obtain ⟨t, ht⟩ : ∃ t, t = (dotF n p0.1 x - p0.2) / (- dotF n p0.1 y) := ⟨_, rfl⟩
   simp only [<- ht] at hmin
   have hd : ∀ a : Nat -> _root_.Rat, dotF n a (fun k => x k + t * y k) = dotF n a x + t * dotF n a y := fun a => by rw [dotF_add, dotF_smul]
   have hdiv : ∀ a b : _root_.Rat, 0 < b → 0 ≤ a → 0 ≤ a / b := fun a b hb ha => by
    rw [Rat.div_def]; exact Rat.mul_nonneg ha (Rat.le_of_lt (Rat.inv_pos.2 hb))
   have ht0 : 0 ≤ t := by
    rw [ht]
    exact hdiv _ _ (by grind) (by have := hx p0 hp0C; grind)
   have htp : t * (- dotF n p0.1 y) = dotF n p0.1 x - p0.2 := by
    rw [ht]
    have : (- dotF n p0.1 y) ≠ 0 := by grind
    grind
   have hx' : feasF n C (fun k => x k + t * y k) := fun p hp => by
    rw [hd]
    have h1 := hx p hp
    by_cases e : dotF n p.1 y < 0
    ·have h2 := hmin p (List.mem_filter.2 ⟨hp, by simpa using e⟩)
     have h3 := Rat.mul_le_mul_of_nonneg_right h2 (c := - dotF n p.1 y) (by grind)
     have h4 : (dotF n p.1 x - p.2) / (- dotF n p.1 y) * (- dotF n p.1 y) = dotF n p.1 x - p.2 := by
      have : (- dotF n p.1 y) ≠ 0 := by grind
      grind
     rw [h4] at h3
     grind
    ·have := Rat.mul_nonneg ht0 (show 0 ≤ dotF n p.1 y by grind)
     grind
   have hlt : (C.filter fun p => !tgt n (fun k => x k + t * y k) p).length < (C.filter fun p => !tgt n x p).length := by
    refine filter_lt (fun p hp hq => ?_) ⟨p0, hp0C, ?_, ?_⟩
    ·cases e : tgt n x p with
     | false => rfl
     | true =>
       have h1 := hy p hp e
       simp only [tgt, hd, h1, Bool.not_eq_true', decide_eq_false_iff_not, decide_eq_true_eq] at hq e
       grind
    ·cases e : tgt n x p0 with
     | false => rfl
     | true => have := hy p0 hp0C e; grind
    ·simp only [tgt, hd, Bool.not_eq_false', decide_eq_true_eq]
     grind
   cases m with
   | zero => omega
   | succ m =>
     obtain ⟨v, h1, h2, h3⟩ := vert_ex hc hu m _ hx' (by omega)
     refine ⟨v, h1, ?_, h3⟩
     rw [hd] at h2
     have h4 := Rat.mul_nonneg ht0 (show 0 <= - dotF n c y by grind)
     grind
def fnL (r : List _root_.Rat) : Nat -> _root_.Rat := fun k => r.getD k 0
def rowQ (m : List (List _root_.Rat)) (i : Nat) : Nat -> _root_.Rat := fnL (m.getD i [])
def elimR (p : Nat) (piv row : List _root_.Rat) : List _root_.Rat := row.mapIdx fun k x => if k < p then x else x - fnL row p / fnL piv p * fnL piv k
def pivAt (m : List (List _root_.Rat)) (p : Nat) : Nat := p + (m.drop p).findIdx fun r => decide (fnL r p ≠ 0)
def swapM (m : List (List _root_.Rat)) (p k : Nat) : List (List _root_.Rat) := (m.set p (m.getD k [])).set k (m.getD p [])
def stepM (p : Nat) (m : List (List _root_.Rat)) : List (List _root_.Rat) := m.mapIdx fun i r => if i = p then r else elimR p (m.getD p []) r
def gjStep (p : Nat) (m : List (List _root_.Rat)) : Option (List (List _root_.Rat)) := if pivAt m p < m.length then some (stepM p (swapM m p (pivAt m p))) else none
def gj (m0 : List (List _root_.Rat)) : Nat → Option (List (List _root_.Rat))
 | 0 => some m0
 | p + 1 => (gj m0 p).bind (gjStep p)
def outM (n : Nat) (m : List (List _root_.Rat)) : List _root_.Rat := (List.range n).map fun p => rowQ m p n / rowQ m p p
def solQ (n : Nat) (m0 : List (List _root_.Rat)) : Option (List _root_.Rat) := (gj m0 n).map (outM n)
structure GJ (n p : Nat) (m0 m : List (List _root_.Rat)) : Prop where
 len : m.length = n
 row : ∀ r ∈ m, r.length = n + 1
 dia : ∀ i j, i < n -> j < p -> i ≠ j -> rowQ m i j = 0
 piv : ∀ i, i < p -> rowQ m i i ≠ 0
 sol : ∀ y, (∀ r ∈ m, dotF (n + 1) (fnL r) y = 0) ↔ (∀ r ∈ m0, dotF (n + 1) (fnL r) y = 0)
def bbQ : Nat → Nat
 | 0 => 1
 | p + 1 => 2 * (bbQ p * bbQ p)
def cbQ : Nat → Nat
 | 0 => 1
 | p + 1 => cbQ p * bbQ p
theorem bbQ_pos : ∀ p, 1 <= bbQ p
 | 0 => Nat.le_refl _
 | p + 1 => by
   have := bbQ_pos p
   have := Nat.mul_le_mul this this
   simp only [bbQ]; omega
theorem bbQ_mono (p : Nat) : bbQ p <= bbQ (p + 1) := by
 have := bbQ_pos p
 have := Nat.mul_le_mul_left (bbQ p) this
 simp only [bbQ]; omega
theorem cbQ_mono (p : Nat) : cbQ p <= cbQ (p + 1) := by
 have := bbQ_pos p
 have := Nat.mul_le_mul_left (cbQ p) this
 simp only [cbQ]; omega
structure RowB (n : Nat) (c b : Nat) (r : Nat → _root_.Rat) (s : Int) (M : Nat → Int) : Prop where
 ne : s ≠ 0
 sc : s.natAbs <= c
 eq : ∀ k, k <= n -> r k * (s : _root_.Rat) = (M k : _root_.Rat)
 bd : ∀ k, k <= n -> (M k).natAbs <= b
def Bd (n p : Nat) (m : List (List _root_.Rat)) : Prop :=
 ∃ D : Int, D ≠ 0 /\ D.natAbs <= cbQ p /\ ∀ i, i < n -> ∃ (s : Int) (M : Nat -> Int), RowB n (cbQ p) (bbQ p) (rowQ m i) s M /\ (i < p -> ∃ e : Int, D = M i * e)
theorem el_num {x a d q s sp X A P Y : _root_.Rat} (hd : d ≠ 0) (h1 : x * s = X) (h2 : a * s = A) (h3 : d * sp = P) (h4 : q * sp = Y) : (x - a / d * q) * (s * P) = P * X - A * Y := by grind
theorem el_f {a d s sp A P : _root_.Rat} (hd : d ≠ 0) (h2 : a * s = A) (h3 : d * sp = P) : a / d * (s * P) = A * sp := by grind
theorem el_q {a d q s sp A P Y : _root_.Rat} (hd : d ≠ 0) (h2 : a * s = A) (h3 : d * sp = P) (h4 : q * sp = Y) : a / d * q * (s * P) = A * Y := by grind
theorem getD_mem' {α : Type} {l : List α} {i : Nat} {d : α} (h : i < l.length) : l.getD i d ∈ l := by rw [gd h]; exact List.getElem_mem h
theorem getD_set' {α : Type} {l : List α} {i j : Nat} {a d : α} (h : i < l.length) : (l.set i a).getD j d = if i = j then a else l.getD j d := by
 simp only [List.getD, List.getElem?_set]
 split
 ·rfl
 ·rfl
theorem swap_get {m : List (List _root_.Rat)} {p k : Nat} (hp : p < m.length) (hk : k < m.length) (i : Nat) : (swapM m p k).getD i [] = m.getD (if i = k then p else if i = p then k else i) [] := by
 rw [swapM, getD_set' (by simpa using hk)]
 by_cases e : k = i
 ·subst e; simp
 ·rw [if_neg e, getD_set' hp]
  have e' : ¬ i = k := fun h => e h.symm
  by_cases e2 : p = i
  ·subst e2; simp [e']
  ·have e2' : ¬ i = p := fun h => e2 h.symm
   simp [e2, e', e2']
theorem swap_mem {m : List (List _root_.Rat)} {p k : Nat} (hp : p < m.length) (hk : k < m.length) (r : List _root_.Rat) : r ∈ swapM m p k ↔ r ∈ m := by
 have hl : (swapM m p k).length = m.length := by simp [swapM]
 constructor
 ·intro h
  obtain ⟨i, hi, rfl⟩ := List.mem_iff_getElem.1 h
  rw [<- gd hi (d := []), swap_get hp hk]
  exact getD_mem' (by split; · exact hp
                      split; · exact hk
                      omega)
 ·intro h
  obtain ⟨i, hi, rfl⟩ := List.mem_iff_getElem.1 h
  have e : m[i] = (swapM m p k).getD (if i = k then p else if i = p then k else i) [] := by
   rw [swap_get hp hk, <- gd hi (d := [])]
   congr 1
   by_cases h1 : i = k
   ·subst h1
    simp only [if_true]
    split <;> simp_all
   ·by_cases h2 : i = p
    ·subst h2; simp [h1]
    ·simp [h1, h2]
  rw [e]
  exact getD_mem' (by rw [hl]; split; · exact hp
                      split; · exact hk
                      exact hi)
theorem step_get {m : List (List _root_.Rat)} {p i : Nat} (hi : i < m.length) : (stepM p m).getD i [] = if i = p then m.getD p [] else elimR p (m.getD p []) (m.getD i []) := by
 rw [stepM, gd (by simpa using hi), List.getElem_mapIdx]
 split
 ·rename_i h; subst h; exact (gd hi).symm
 ·rw [gd hi]
theorem elim_fn {p n : Nat} {piv row : List _root_.Rat} (hr : row.length = n + 1) (hz : ∀ j, j < p -> fnL piv j = 0) {k : Nat} (hk : k <= n) : fnL (elimR p piv row) k = fnL row k - fnL row p / fnL piv p * fnL piv k := by
 rw [fnL, elimR, gd (by simp; omega), List.getElem_mapIdx]
 have : fnL row k = row[k]'(by omega) := by rw [fnL, gd (by omega)]
 rw [this]
 split
 ·rename_i h; rw [hz k h]; grind
 ·rfl
theorem elim_len {p : Nat} {piv row : List _root_.Rat} : (elimR p piv row).length = row.length := by simp [elimR]
theorem piv_lt {m : List (List _root_.Rat)} {p : Nat} (h : pivAt m p < m.length) : p <= pivAt m p /\ rowQ m (pivAt m p) p ≠ 0 := by
 have h1 : (m.drop p).findIdx (fun r => decide (fnL r p ≠ 0)) < (m.drop p).length := by
  rw [List.length_drop]; unfold pivAt at h; omega
 have h2 := List.findIdx_getElem (w := h1)
 refine ⟨by unfold pivAt; omega, ?_⟩
 simp only [List.getElem_drop, decide_eq_true_eq] at h2
 rw [rowQ, gd h]
 exact h2
theorem piv_none {m : List (List _root_.Rat)} {p : Nat} (h : ¬ pivAt m p < m.length) : ∀ k, p <= k -> k < m.length -> rowQ m k p = 0 := fun k h1 h2 => by
 have h3 : ¬ (m.drop p).findIdx (fun r => decide (fnL r p ≠ 0)) < (m.drop p).length := by
  rw [List.length_drop]; unfold pivAt at h; omega
 rw [List.findIdx_lt_length] at h3
 refine Classical.byContradiction fun hn => h3 ⟨m[k], ?_, ?_⟩
 ·rw [List.mem_iff_getElem]
  exact ⟨k - p, by rw [List.length_drop]; omega, by simp only [List.getElem_drop]; congr 1; omega⟩
 ·rw [rowQ, gd h2] at hn
  simpa using hn
theorem GJ.swap {n p k : Nat} {m0 m : List (List _root_.Rat)} (h : GJ n p m0 m) (hp : p <= k) (hk : k < n) : GJ n p m0 (swapM m p k) := by
 have hl := h.len
 have hg := swap_get (m := m) (p := p) (k := k) (by omega) (by omega)
 have hm := swap_mem (m := m) (p := p) (k := k) (by omega) (by omega)
 refine ⟨by simp [swapM, hl], fun r hr => h.row r ((hm r).1 hr), fun i j hi hj hij => ?_, fun i hi => ?_, fun y => ?_⟩
 ·rw [rowQ, hg]
  split
  ·exact h.dia p j (by omega) hj (by omega)
  ·split
   ·exact h.dia k j hk hj (by omega)
   ·exact h.dia i j hi hj hij
 ·rw [rowQ, hg, if_neg (by omega), if_neg (by omega)]
  exact h.piv i hi
 ·rw [← h.sol y]
  exact ⟨fun hy r hr => hy r ((hm r).2 hr), fun hy r hr => hy r ((hm r).1 hr)⟩
theorem Bd.swap {n p k : Nat} {m0 m : List (List _root_.Rat)} (h : GJ n p m0 m) (hp : p <= k) (hk : k < n) (hb : Bd n p m) : Bd n p (swapM m p k) := by
 have hl := h.len
 have hg := swap_get (m := m) (p := p) (k := k) (by omega) (by omega)
 obtain ⟨D, h1, h2, h3⟩ := hb
 refine ⟨D, h1, h2, fun i hi => ?_⟩
 obtain ⟨s, M, hs, hD⟩ := h3 (if i = k then p else if i = p then k else i) (by split; · omega
                                                                               split; · omega
                                                                               exact hi)
 refine ⟨s, M, ?_, fun hip => ?_⟩
 ·have : rowQ (swapM m p k) i = rowQ m (if i = k then p else if i = p then k else i) := by rw [rowQ, hg]; rfl
  rw [this]; exact hs
 ·rw [if_neg (by omega), if_neg (by omega)] at hD
  exact hD hip
theorem GJ.step {n p : Nat} {m0 m : List (List _root_.Rat)} (h : GJ n p m0 m) (hp : p < n) (hne : rowQ m p p ≠ 0) : GJ n (p + 1) m0 (stepM p m) := by
 have hl := h.len
 have hz : ∀ j, j < p -> fnL (m.getD p []) j = 0 := fun j hj => h.dia p j hp hj (by omega)
 have hr : ∀ i, i < n -> (m.getD i []).length = n + 1 := fun i hi => h.row _ (getD_mem' (by omega))
 have hrow : ∀ i, i < n → i ≠ p → ∀ k, k ≤ n → rowQ (stepM p m) i k = rowQ m i k - rowQ m i p / rowQ m p p * rowQ m p k := fun i hi hip k hk => by
  rw [rowQ, step_get (by omega), if_neg hip]
  exact elim_fn (hr i hi) hz hk
 have hrp : rowQ (stepM p m) p = rowQ m p := by rw [rowQ, step_get (by omega), if_pos rfl]; rfl
 have hdot : ∀ i, i < n → i ≠ p → ∀ y, dotF (n + 1) (rowQ (stepM p m) i) y = dotF (n + 1) (rowQ m i) y - rowQ m i p / rowQ m p p * dotF (n + 1) (rowQ m p) y := fun i hi hip y => by
  rw [dotF_comm, dotF_comm (rowQ m i), dotF_comm (rowQ m p), dotF_congr (a := y) (a' := y) (x' := fun k => rowQ m i k + (-(rowQ m i p / rowQ m p p)) * rowQ m p k) (fun _ _ => rfl) (fun k hk => by rw [hrow i hi hip k (by omega)]; grind), dotF_add, dotF_smul]
  grind
 have hsl : (stepM p m).length = n := by simp [stepM, hl]
 refine ⟨hsl, fun r hr' => ?_, fun i j hi hj hij => ?_, fun i hi => ?_, fun y => ?_⟩
 ·obtain ⟨i, hi, rfl⟩ := List.mem_iff_getElem.1 hr'
  rw [<- gd hi (d := []), step_get (by omega)]
  split
  ·exact hr p hp
  ·rw [elim_len]; exact hr i (by omega)
 ·by_cases e : i = p
  ·subst e; rw [hrp]; exact h.dia i j hi (by omega) hij
  ·rw [hrow i hi e j (by omega)]
   by_cases e2 : j = p
   ·subst e2; grind
   ·have := h.dia i j hi (by omega) hij
    have := h.dia p j hp (by omega) (by omega)
    grind
 ·by_cases e : i = p
  ·subst e; rw [hrp]; exact hne
  ·rw [hrow i (by omega) e i (by omega)]
   have := h.piv i (by omega)
   have := h.dia p i hp (by omega) (by omega)
   grind
 ·rw [← h.sol y]
  have hm : ∀ i, i < n -> rowQ m i = fnL (m.getD i []) := fun _ _ => rfl
  constructor
  ·intro hy r hr'
   obtain ⟨i, hi, rfl⟩ := List.mem_iff_getElem.1 hr'
   rw [<- gd hi (d := [])]
   have hpz : dotF (n + 1) (rowQ m p) y = 0 := by
    rw [<- hrp]; exact hy _ (getD_mem' (by omega))
   by_cases e : i = p
   ·subst e; exact hpz
   ·have h1 := hy _ (getD_mem' (l := stepM p m) (i := i) (d := []) (by omega))
    have h2 := hdot i (by omega) e y
    rw [hpz] at h2
    show dotF (n + 1) (rowQ m i) y = 0
    have h3 : dotF (n + 1) (rowQ (stepM p m) i) y = 0 := h1
    grind
  ·intro hy r hr'
   obtain ⟨i, hi, rfl⟩ := List.mem_iff_getElem.1 hr'
   rw [<- gd hi (d := [])]
   show dotF (n + 1) (rowQ (stepM p m) i) y = 0
   have hpz : dotF (n + 1) (rowQ m p) y = 0 := hy _ (getD_mem' (by omega))
   by_cases e : i = p
   ·subst e; rw [hrp]; exact hpz
   ·rw [hdot i (by omega) e y, hpz]
    have : dotF (n + 1) (rowQ m i) y = 0 := hy _ (getD_mem' (by omega))
    grind
theorem natAbs_mul_le {a b : Int} {x y : Nat} (h1 : a.natAbs <= x) (h2 : b.natAbs <= y) : (a * b).natAbs <= x * y := by rw [Int.natAbs_mul]; exact Nat.mul_le_mul h1 h2
theorem natAbs_sub_le' (a b : Int) : (a - b).natAbs <= a.natAbs + b.natAbs := by omega
theorem Bd.step {n p : Nat} {m0 m : List (List _root_.Rat)} (h : GJ n p m0 m) (hp : p < n) (hne : rowQ m p p ≠ 0) (hb : Bd n p m) : Bd n (p + 1) (stepM p m) := by
 have hl := h.len
 have hz : ∀ j, j < p -> fnL (m.getD p []) j = 0 := fun j hj => h.dia p j hp hj (by omega)
 have hr : ∀ i, i < n -> (m.getD i []).length = n + 1 := fun i hi => h.row _ (getD_mem' (by omega))
 have hrow : ∀ i, i < n → i ≠ p → ∀ k, k ≤ n → rowQ (stepM p m) i k = rowQ m i k - rowQ m i p / rowQ m p p * rowQ m p k := fun i hi hip k hk => by
  rw [rowQ, step_get (by omega), if_neg hip]
  exact elim_fn (hr i hi) hz hk
 have hrp : rowQ (stepM p m) p = rowQ m p := by rw [rowQ, step_get (by omega), if_pos rfl]; rfl
 obtain ⟨D, h1, h2, h3⟩ := hb
 obtain ⟨sp, P, rp, _⟩ := h3 p hp
 have hP : P p ≠ 0 := fun e => by
  have := rp.eq p (by omega)
  rw [e] at this
  have hs : (sp : _root_.Rat) ≠ 0 := fun e => rp.ne (Rat.intCast_inj.1 (by simpa using e))
  have : rowQ m p p * (sp : _root_.Rat) = 0 := by simpa using this
  grind
 refine ⟨D * P p, Int.mul_ne_zero h1 hP, natAbs_mul_le h2 (rp.bd p (by omega)), fun i hi => ?_⟩
 by_cases e : i = p
 ·subst e
  refine ⟨sp, P, ⟨rp.ne, Nat.le_trans rp.sc (cbQ_mono _), fun k hk => by rw [hrp]; exact rp.eq k hk, fun k hk => Nat.le_trans (rp.bd k hk) (bbQ_mono _)⟩, fun _ => ⟨D, Int.mul_comm _ _⟩⟩
 ·obtain ⟨s, M, ri, hD⟩ := h3 i hi
  refine ⟨s * P p, fun k => P p * M k - M p * P k, ⟨Int.mul_ne_zero ri.ne hP, natAbs_mul_le ri.sc (rp.bd p (by omega)), fun k hk => ?_, fun k hk => ?_⟩, fun hip => ?_⟩
  ·rw [hrow i hi e k hk]
   have := el_num hne (ri.eq k hk) (ri.eq p (by omega)) (rp.eq p (by omega)) (rp.eq k hk)
   rw [Rat.intCast_mul, Rat.intCast_sub, Rat.intCast_mul, Rat.intCast_mul]
   exact this
  ·have a1 := natAbs_mul_le (rp.bd p (by omega)) (ri.bd k hk)
   have a2 := natAbs_mul_le (ri.bd p (by omega)) (rp.bd k hk)
   have a3 := natAbs_sub_le' (P p * M k) (M p * P k)
   simp only [bbQ]; omega
  ·obtain ⟨x, hx⟩ := hD (by omega)
   have : P i = 0 := by
    have h4 := rp.eq i (by omega)
    have h5 : rowQ m p i = 0 := hz i (by omega)
    rw [h5] at h4
    have : ((P i : Int) : _root_.Rat) = ((0 : Int) : _root_.Rat) := by rw [<- h4]; simp
    exact Rat.intCast_inj.1 this
   refine ⟨x, ?_⟩
   simp only [this, hx, Int.mul_zero, Int.sub_zero]
   rw [Int.mul_comm (P p), Int.mul_assoc, Int.mul_assoc, Int.mul_comm x]
theorem dotF_two {a x : Nat -> _root_.Rat} {i j : Nat} : ∀ {n : Nat}, i < n -> j < n -> i ≠ j -> (∀ k, k < n -> k ≠ i -> k ≠ j -> a k * x k = 0) -> dotF n a x = a i * x i + a j * x j
 | 0, h, _, _, _ => by omega
 | n + 1, hi, hj, hij, hz => by
   rw [dotF]
   by_cases e : i = n
   ·subst e
    rw [dotF_one (j := j) (by omega) fun k hk hkj => hz k (by omega) (by omega) hkj]
    grind
   ·by_cases e2 : j = n
    ·subst e2
     rw [dotF_one (j := i) (by omega) fun k hk hki => hz k (by omega) hki (by omega)]
    ·rw [dotF_two (n := n) (i := i) (j := j) (by omega) (by omega) hij fun k hk => hz k (by omega), hz n (by omega) (by omega) (by omega)]
     grind
theorem gj_inv {n : Nat} {m0 : List (List _root_.Rat)} (hl : m0.length = n) (hr : ∀ r ∈ m0, r.length = n + 1) (hb : Bd n 0 m0) : ∀ p, p <= n -> ∀ m, gj m0 p = some m -> GJ n p m0 m /\ Bd n p m
 | 0, _, m, h => by
   simp only [gj, Option.some.injEq] at h
   subst h
   exact ⟨⟨hl, hr, fun i j _ h => by omega, fun i h => by omega, fun y => Iff.rfl⟩, hb⟩
 | p + 1, hp, m, h => by
   rw [gj] at h
   cases e : gj m0 p with
   | none => rw [e] at h; cases h
   | some m1 =>
     obtain ⟨g1, b1⟩ := gj_inv hl hr hb p (by omega) m1 e
     rw [e, Option.bind_some, gjStep] at h
     split at h
     ·rename_i hlt
      simp only [Option.some.injEq] at h
      subst h
      obtain ⟨h1, h2⟩ := piv_lt hlt
      have g2 := g1.swap h1 (by rw [<- g1.len]; exact hlt)
      have b2 := Bd.swap g1 h1 (by rw [<- g1.len]; exact hlt) b1
      have hne : rowQ (swapM m1 p (pivAt m1 p)) p p ≠ 0 := by
       have hp' : p < m1.length := by rw [g1.len]; omega
       rw [rowQ, swap_get hp' hlt]
       split
       ·rename_i e; rw [<- e] at h2; exact h2
       ·rw [if_pos rfl]; exact h2
      exact ⟨g2.step (by omega) hne, Bd.step g2 (by omega) hne b2⟩
     ·cases h
theorem gj_ex {n : Nat} {m0 : List (List _root_.Rat)} (hl : m0.length = n) (hr : ∀ r ∈ m0, r.length = n + 1) (hb : Bd n 0 m0) (hK : Ker n (m0.map fnL)) : ∀ p, p <= n -> ∃ m, gj m0 p = some m
 | 0, _ => ⟨m0, rfl⟩
 | p + 1, hp => by
   obtain ⟨m, hm⟩ := gj_ex hl hr hb hK p (by omega)
   obtain ⟨g, _⟩ := gj_inv hl hr hb p (by omega) m hm
   rw [gj, hm, Option.bind_some, gjStep]
   split
   ·exact ⟨_, rfl⟩
   ·rename_i hno
    exfalso
    have hpz := piv_none hno
    obtain ⟨y, hy⟩ : ∃ y : Nat -> _root_.Rat, y = fun k => if k < p then - rowQ m k p / rowQ m k k else if k = p then 1 else 0 := ⟨_, rfl⟩
    have y1 : ∀ k, k < p -> y k = - rowQ m k p / rowQ m k k := fun k hk => by rw [hy]; simp only [if_pos hk]
    have y2 : y p = 1 := by rw [hy]; simp
    have y3 : ∀ k, p < k -> y k = 0 := fun k hk => by rw [hy]; simp only [if_neg (show ¬ k < p by omega), if_neg (show ¬ k = p by omega)]
    have hz : ∀ r ∈ m, dotF (n + 1) (fnL r) y = 0 := fun r hr' => by
     obtain ⟨i, hi, rfl⟩ := List.mem_iff_getElem.1 hr'
     rw [<- gd hi (d := [])]
     show dotF (n + 1) (rowQ m i) y = 0
     have hin : i < n := by rw [<- g.len]; exact hi
     by_cases hip : i < p
     ·rw [dotF_two (i := i) (j := p) (by omega) (by omega) (by omega) fun k hk hki hkp => by
       by_cases hkl : k < p
       ·rw [g.dia i k hin hkl (by omega)]; grind
       ·rw [y3 k (by omega)]; grind]
      rw [y1 i hip, y2]
      have := g.piv i hip
      grind
     ·refine dotF_zero fun k hk => ?_
      by_cases hkl : k < p
      ·rw [g.dia i k hin hkl (by omega)]; grind
      ·by_cases hkp : k = p
       ·subst hkp; rw [hpz i (by omega) hi]; grind
       ·rw [y3 k (by omega)]; grind
    have h0 := (g.sol y).1 hz
    have h1 := hK y (fun a ha => by
     obtain ⟨r, hr', rfl⟩ := List.mem_map.1 ha
     have := h0 r hr'
     rw [dotF, y3 n (by omega)] at this
     grind) p (by omega)
    rw [y2] at h1
    grind
theorem sol_some {n : Nat} {m0 : List (List _root_.Rat)} {v : Nat -> _root_.Rat} (hl : m0.length = n) (hr : ∀ r ∈ m0, r.length = n + 1) (hb : Bd n 0 m0) (hK : Ker n (m0.map fnL)) (hv : ∀ r ∈ m0, dotF n (fnL r) v = fnL r n) :
  solQ n m0 = some ((List.range n).map v) := by
 obtain ⟨m, hm⟩ := gj_ex hl hr hb hK n (Nat.le_refl _)
 obtain ⟨g, _⟩ := gj_inv hl hr hb n (Nat.le_refl _) m hm
 rw [solQ, hm, Option.map_some, outM]
 congr 1
 refine List.map_congr_left fun p hp => ?_
 have hp := List.mem_range.1 hp
 obtain ⟨y, hy⟩ : ∃ y : Nat -> _root_.Rat, y = fun k => if k < n then v k else -1 := ⟨_, rfl⟩
 have y1 : ∀ k, k < n -> y k = v k := fun k hk => by rw [hy]; simp only [if_pos hk]
 have y2 : y n = -1 := by rw [hy]; simp
 have h0 : ∀ r ∈ m0, dotF (n + 1) (fnL r) y = 0 := fun r hr' => by
  rw [dotF, y2, dotF_congr (a' := fnL r) (x' := v) (fun _ _ => rfl) y1, hv r hr']
  grind
 have h1 := (g.sol y).2 h0 _ (getD_mem' (i := p) (d := []) (by rw [g.len]; exact hp))
 have h2 : dotF (n + 1) (rowQ m p) y = 0 := h1
 rw [dotF_two (i := p) (j := n) (by omega) (by omega) (by omega) fun k hk hkp hkn => by rw [g.dia p k hp (by omega) (by omega)]; grind] at h2
 rw [y1 p hp, y2] at h2
 have := g.piv p hp
 grind
def rbQ (N D : Nat) (q : _root_.Rat) : Prop := ∃ s M : Int, s ≠ 0 /\ q * (s : _root_.Rat) = (M : _root_.Rat) /\ M.natAbs <= N /\ s.natAbs <= D
theorem rb_num {N D : Nat} {q : _root_.Rat} (h : rbQ N D q) : q.num.natAbs <= N /\ q.den <= D := by
 obtain ⟨s, M, hs, hq, hM, hD⟩ := h
 have hs' : (s : _root_.Rat) ≠ 0 := fun e => hs (Rat.intCast_inj.1 (by simpa using e))
 have e : q = Rat.divInt M s := by
  rw [Rat.divInt_eq_div]
  grind
 constructor
 ·rw [e, Rat.num_divInt]
  refine Nat.le_trans ?_ hM
  rw [Int.natAbs_ediv_of_dvd (Int.dvd_trans (Int.gcd_dvd_right _ _) (Int.dvd_mul_left _ _)), Int.natAbs_mul]
  refine Nat.le_trans (Nat.div_le_self _ _) ?_
  have : s.sign.natAbs ≤ 1 := by
   rcases Int.lt_trichotomy s 0 with h | h | h
   ·rw [Int.sign_eq_neg_one_of_neg h]; decide
   ·exact absurd h hs
   ·rw [Int.sign_eq_one_of_pos h]; decide
  have := Nat.mul_le_mul_right M.natAbs this
  omega
 ·rw [e, Rat.den_divInt, if_neg hs]
  exact Nat.le_trans (Nat.div_le_self _ _) hD
def smQ (q : _root_.Rat) : Prop := q.num.natAbs <= 1000000000 /\ q.den <= 1000000000
theorem rb_sm {N D : Nat} {q : _root_.Rat} (h : rbQ N D q) (h1 : N <= 1000000000) (h2 : D <= 1000000000) : smQ q := by
 have := rb_num h
 exact ⟨by omega, by omega⟩
theorem bb4 {p : Nat} (h : p <= 4) : bbQ p <= 32768 /\ cbQ p <= 2048 := by
 have : p = 0 \/ p = 1 \/ p = 2 \/ p = 3 \/ p = 4 := by omega
 rcases this with rfl | rfl | rfl | rfl | rfl <;> simp [bbQ, cbQ]
theorem bb3 {p : Nat} (h : p <= 3) : bbQ p <= 128 /\ cbQ p <= 16 := by
 have : p = 0 \/ p = 1 \/ p = 2 \/ p = 3 := by omega
 rcases this with rfl | rfl | rfl | rfl <;> simp [bbQ, cbQ]
structure SafeS (n p : Nat) (m : List (List _root_.Rat)) : Prop where
 at_ : ∀ i k, i < n -> k <= n -> smQ (rowQ m i k)
 f : ∀ i, i < n -> smQ (rowQ m i p / rowQ m p p)
 q : ∀ i k, i < n -> k <= n -> smQ (rowQ m i p / rowQ m p p * rowQ m p k)
 d : ∀ i k, i < n -> k <= n -> smQ (rowQ m i k - rowQ m i p / rowQ m p p * rowQ m p k)
theorem bd_at {n p : Nat} {m : List (List _root_.Rat)} (h : Bd n p m) (hp : p <= 4) {i k : Nat} (hi : i < n) (hk : k <= n) : smQ (rowQ m i k) := by
 obtain ⟨D, _, _, h3⟩ := h
 obtain ⟨s, M, r, _⟩ := h3 i hi
 have := bb4 hp
 have := r.sc
 have := r.bd k hk
 exact rb_sm (N := 32768) (D := 2048) ⟨s, M k, r.ne, r.eq k hk, by omega, by omega⟩ (by omega) (by omega)
theorem bd_safe {n p : Nat} {m : List (List _root_.Rat)} (h : Bd n p m) (hp : p <= 3) (hpn : p < n) (hne : rowQ m p p ≠ 0) : SafeS n p m := by
 have h0 := h
 obtain ⟨D, _, _, h3⟩ := h
 obtain ⟨sp, P, rp, _⟩ := h3 p hpn
 have hb := bb3 hp
 have hP : P p ≠ 0 := fun e => by
  have := rp.eq p (by omega)
  rw [e] at this
  have hs : (sp : _root_.Rat) ≠ 0 := fun e => rp.ne (Rat.intCast_inj.1 (by simpa using e))
  have : rowQ m p p * (sp : _root_.Rat) = 0 := by simpa using this
  grind
 have cut : ∀ {a b : Int} {x y X Y : Nat}, a.natAbs <= x -> b.natAbs <= y -> x <= X -> y <= Y -> (a * b).natAbs <= X * Y := fun h1 h2 h3 h4 => Nat.le_trans (natAbs_mul_le h1 h2) (Nat.mul_le_mul h3 h4)
 refine ⟨fun i k hi hk => bd_at h0 (by omega) hi hk, fun i hi => ?_, fun i k hi hk => ?_, fun i k hi hk => ?_⟩
 all_goals obtain ⟨s, M, ri, _⟩ := h3 i hi
 all_goals have hs := Int.mul_ne_zero ri.ne hP
 all_goals have hsb : (s * P p).natAbs <= 16 * 128 := cut ri.sc (rp.bd p (by omega)) hb.2 hb.1
 ·exact rb_sm (N := 128 * 16) (D := 16 * 128) ⟨s * P p, M p * sp, hs, by rw [Rat.intCast_mul, Rat.intCast_mul]; exact el_f hne (ri.eq p (by omega)) (rp.eq p (by omega)), cut (ri.bd p (by omega)) rp.sc hb.1 hb.2, hsb⟩ (by omega) (by omega)
 ·exact rb_sm (N := 128 * 128) (D := 16 * 128) ⟨s * P p, M p * P k, hs, by rw [Rat.intCast_mul, Rat.intCast_mul]; exact el_q hne (ri.eq p (by omega)) (rp.eq p (by omega)) (rp.eq k hk), cut (ri.bd p (by omega)) (rp.bd k hk) hb.1 hb.1, hsb⟩ (by omega) (by omega)
 ·refine rb_sm (N := 2 * (128 * 128)) (D := 16 * 128) ⟨s * P p, P p * M k - M p * P k, hs, by rw [Rat.intCast_mul, Rat.intCast_sub, Rat.intCast_mul, Rat.intCast_mul]; exact el_num hne (ri.eq k hk) (ri.eq p (by omega)) (rp.eq p (by omega)) (rp.eq k hk), ?_, hsb⟩ (by omega) (by omega)
  have a1 : (P p * M k).natAbs <= 128 * 128 := cut (rp.bd p (by omega)) (ri.bd k hk) hb.1 hb.1
  have a2 : (M p * P k).natAbs <= 128 * 128 := cut (ri.bd p (by omega)) (rp.bd k hk) hb.1 hb.1
  have a3 := natAbs_sub_le' (P p * M k) (M p * P k)
  omega
structure SolB (n : Nat) (x : List _root_.Rat) : Prop where
 len : x.length = n
 ex : ∃ D : Int, D ≠ 0 /\ D.natAbs <= 2048 /\ ∀ k, k < n -> ∃ X : Int, fnL x k * (D : _root_.Rat) = (X : _root_.Rat) /\ X.natAbs <= 67108864
theorem sol_bd {n : Nat} {m0 : List (List _root_.Rat)} {x : List _root_.Rat} (hn : n <= 4) (hl : m0.length = n) (hr : ∀ r ∈ m0, r.length = n + 1) (hb : Bd n 0 m0) (h : solQ n m0 = some x) : SolB n x := by
 rw [solQ] at h
 cases e : gj m0 n with
 | none => rw [e] at h; cases h
 | some m =>
   obtain ⟨g, b⟩ := gj_inv hl hr hb n (Nat.le_refl _) m e
   rw [e, Option.map_some, Option.some.injEq] at h
   subst h
   obtain ⟨D, h1, h2, h3⟩ := b
   have hb := bb4 hn
   refine ⟨by simp [outM], D, h1, by omega, fun k hk => ?_⟩
   obtain ⟨s, M, r, he⟩ := h3 k hk
   obtain ⟨x, hx⟩ := he hk
   have hxn : x ≠ 0 := fun e => h1 (by rw [hx, e, Int.mul_zero])
   have hMn : M k ≠ 0 := fun e => h1 (by rw [hx, e, Int.zero_mul])
   have hxb : x.natAbs ≤ 2048 := by
    have h4 : (M k * x).natAbs <= 2048 := by rw [<- hx]; omega
    rw [Int.natAbs_mul] at h4
    have h5 := Nat.mul_le_mul_right x.natAbs (show 1 <= (M k).natAbs by omega)
    omega
   refine ⟨M n * x, ?_, ?_⟩
   ·rw [fnL, gd (by simpa [outM] using hk)]
    simp only [outM, List.getElem_map, List.getElem_range]
    have e1 := r.eq k (by omega)
    have e2 := r.eq n (by omega)
    have e3 := g.piv k hk
    rw [hx, Rat.intCast_mul, Rat.intCast_mul]
    grind
   ·exact Nat.le_trans (natAbs_mul_le (Nat.le_trans (r.bd n (by omega)) hb.1) hxb) (by omega)
def combs {α : Type} : Nat → List α → List (List α)
 | 0, _ => [[]]
 | _ + 1, [] => []
 | n + 1, a :: l => (combs n l).map (a :: ·) ++ combs (n + 1) l
theorem combs_mem {α : Type} : ∀ {n : Nat} {l M : List α}, M ∈ combs n l ↔ M.Sublist l /\ M.length = n
 | 0, l, M => by
   simp only [combs, List.mem_singleton]
   constructor
   ·rintro rfl; exact ⟨List.nil_sublist _, rfl⟩
   ·rintro ⟨_, h⟩; exact List.eq_nil_of_length_eq_zero h
 | n + 1, [], M => by
   simp only [combs, List.not_mem_nil, false_iff, not_and, List.sublist_nil]
   rintro rfl; simp
 | n + 1, a :: l, M => by
   simp only [combs, List.mem_append, List.mem_map, combs_mem, List.sublist_cons_iff]
   constructor
   ·rintro (⟨x, ⟨h1, h2⟩, rfl⟩ | ⟨h1, h2⟩)
    ·exact ⟨.inr ⟨x, rfl, h1⟩, by simp [h2]⟩
    ·exact ⟨.inl h1, h2⟩
   ·rintro ⟨h | ⟨x, rfl, h⟩, h2⟩
    ·exact .inr ⟨h, h2⟩
    ·exact .inl ⟨x, ⟨h, by simpa using h2⟩, rfl⟩
def unitR (n j : Nat) : List _root_.Rat := (List.range n).map fun k => if k = j then 1 else 0
def augR (A : List (List _root_.Rat)) (n : Nat) : List (List _root_.Rat) := A.map (· ++ [1]) ++ (List.range n).map fun j => unitR n j ++ [0]
def sumQ (x : List _root_.Rat) : _root_.Rat := dotF x.length (fun _ => 1) (fnL x)
def feasQ (A : List (List _root_.Rat)) (x : List _root_.Rat) : Bool := x.all (fun q => decide (0 <= q)) && A.all fun r => decide (1 <= dotF x.length (fnL r) (fnL x))
def addPt (out : List (List _root_.Rat)) (x : List _root_.Rat) : List (List _root_.Rat) := if x ∈ out then out else out ++ [x]
def ptStep (A : List (List _root_.Rat)) (n : Nat) (out : List (List _root_.Rat)) (M : List (List _root_.Rat)) : List (List _root_.Rat) := match solQ n M with
 | some x => if feasQ A x then addPt out x else out
 | none => out
def ptsQ (A : List (List _root_.Rat)) (n : Nat) : List (List _root_.Rat) := (combs n (augR A n)).foldl (ptStep A n) []
def bestS (b : Option (List _root_.Rat × _root_.Rat)) (x : List _root_.Rat) : Option (List _root_.Rat × _root_.Rat) := match b with
 | none => some (x, sumQ x)
 | some p => if sumQ x < p.2 then some (x, sumQ x) else some p
def bestQ (l : List (List _root_.Rat)) : Option (List _root_.Rat × _root_.Rat) := l.foldl bestS none
def minQ (A : List (List _root_.Rat)) (n : Nat) : Option (List _root_.Rat × _root_.Rat) := bestQ (ptsQ A n)
theorem addPt_mem {out : List (List _root_.Rat)} {x y : List _root_.Rat} : y ∈ addPt out x ↔ y ∈ out \/ y = x := by
 rw [addPt]
 split
 ·rename_i h
  constructor
  ·exact .inl
  ·rintro (h1 | rfl)
   ·exact h1
   ·exact h
 ·simp
theorem ptStep_mem {A : List (List _root_.Rat)} {n : Nat} {out M : List (List _root_.Rat)} {y : List _root_.Rat} : y ∈ ptStep A n out M ↔ y ∈ out \/ (solQ n M = some y /\ feasQ A y = true) := by
 rw [ptStep]
 cases h : solQ n M with
 | none => simp
 | some x =>
   simp only [Option.some.injEq]
   split
   ·rename_i hf
    rw [addPt_mem]
    constructor
    ·rintro (h | rfl)
     ·exact .inl h
     ·exact .inr ⟨rfl, hf⟩
    ·rintro (h | ⟨rfl, _⟩)
     ·exact .inl h
     ·exact .inr rfl
   ·rename_i hf
    constructor
    ·exact .inl
    ·rintro (h | ⟨rfl, h⟩)
     ·exact h
     ·exact absurd h hf
theorem pts_fold {A : List (List _root_.Rat)} {n : Nat} {y : List _root_.Rat} : ∀ (l : List (List (List _root_.Rat))) (out : List (List _root_.Rat)), y ∈ l.foldl (ptStep A n) out ↔ y ∈ out \/ ∃ M ∈ l, solQ n M = some y /\ feasQ A y = true
 | [], out => by simp
 | M :: l, out => by
   rw [List.foldl_cons, pts_fold l, ptStep_mem]
   simp only [List.mem_cons]
   constructor
   ·rintro ((h | h) | ⟨M', hM, h⟩)
    ·exact .inl h
    ·exact .inr ⟨M, .inl rfl, h⟩
    ·exact .inr ⟨M', .inr hM, h⟩
   ·rintro (h | ⟨M', rfl | hM, h⟩)
    ·exact .inl (.inl h)
    ·exact .inl (.inr h)
    ·exact .inr ⟨M', hM, h⟩
theorem pts_mem {A : List (List _root_.Rat)} {n : Nat} {y : List _root_.Rat} : y ∈ ptsQ A n ↔ ∃ M, M.Sublist (augR A n) /\ M.length = n /\ solQ n M = some y /\ feasQ A y = true := by
 rw [ptsQ, pts_fold]
 simp only [List.not_mem_nil, false_or, combs_mem]
 constructor
 ·rintro ⟨M, ⟨h1, h2⟩, h⟩; exact ⟨M, h1, h2, h⟩
 ·rintro ⟨M, h1, h2, h⟩; exact ⟨M, ⟨h1, h2⟩, h⟩
theorem best_fold : ∀ (l : List (List _root_.Rat)) (b : Option (List _root_.Rat × _root_.Rat)), (∀ p, b = some p -> p.2 = sumQ p.1) ->
  (∀ p, l.foldl bestS b = some p -> p.2 = sumQ p.1 /\ (p.1 ∈ l \/ b = some p) /\ (∀ x ∈ l, p.2 <= sumQ x) /\ ∀ p', b = some p' -> p.2 <= p'.2) /\ (l.foldl bestS b = none -> b = none /\ l = [])
 | [], b, hb => by
   refine ⟨fun p hp => ⟨hb p hp, .inr hp, by simp, fun p' hp' => ?_⟩, fun h => ⟨h, rfl⟩⟩
   rw [List.foldl_nil] at hp
   rw [hp, Option.some.injEq] at hp'
   subst hp'; exact Rat.le_refl
 | x :: l, b, hb => by
   have hs : ∃ p, bestS b x = some p ∧ p.2 = sumQ p.1 ∧ (p.1 = x ∨ b = some p) ∧ p.2 ≤ sumQ x ∧ ∀ p', b = some p' → p.2 ≤ p'.2 := by
    cases b with
    | none => exact ⟨(x, sumQ x), rfl, rfl, .inl rfl, Rat.le_refl, fun p' h => by cases h⟩
    | some q =>
      simp only [bestS]
      by_cases h : sumQ x < q.2
      ·rw [if_pos h]
       exact ⟨(x, sumQ x), rfl, rfl, .inl rfl, Rat.le_refl, fun p' h' => by simp only [Option.some.injEq] at h'; subst h'; exact Rat.le_of_lt h⟩
      ·rw [if_neg h]
       exact ⟨q, rfl, hb q rfl, .inr rfl, by grind, fun p' h' => by simp only [Option.some.injEq] at h'; subst h'; exact Rat.le_refl⟩
   obtain ⟨q, h1, h2, h3, h4, h5⟩ := hs
   rw [List.foldl_cons, h1]
   obtain ⟨i1, i2⟩ := best_fold l (some q) fun p hp => by simp only [Option.some.injEq] at hp; subst hp; exact h2
   refine ⟨fun p hp => ?_, fun h => absurd (i2 h).1 (by simp)⟩
   obtain ⟨j1, j2, j3, j4⟩ := i1 p hp
   have j5 := j4 q rfl
   refine ⟨j1, ?_, fun y hy => ?_, fun p' hp' => by have := h5 p' hp'; grind⟩
   ·rcases j2 with h | h
    ·exact .inl (List.mem_cons_of_mem _ h)
    ·simp only [Option.some.injEq] at h
     subst h
     rcases h3 with h | h
     ·exact .inl (by rw [h]; simp)
     ·exact .inr h
   ·rcases List.mem_cons.1 hy with rfl | hy
    ·grind
    ·exact j3 y hy
theorem best_some {l : List (List _root_.Rat)} (h : l ≠ []) : ∃ p, bestQ l = some p /\ p.2 = sumQ p.1 /\ p.1 ∈ l /\ ∀ x ∈ l, p.2 <= sumQ x := by
 obtain ⟨h1, h2⟩ := best_fold l none (fun p h => by cases h)
 cases e : l.foldl bestS none with
 | none => exact absurd (h2 e).2 h
 | some p =>
   obtain ⟨a, b, c, _⟩ := h1 p e
   refine ⟨p, e, a, ?_, c⟩
   rcases b with b | b
   ·exact b
   ·cases b
structure Mat01 (A : List (List _root_.Rat)) (n : Nat) : Prop where
 len : ∀ r ∈ A, r.length = n
 z : ∀ r ∈ A, ∀ q ∈ r, q = 0 \/ q = 1
 one : ∀ r ∈ A, ∃ q ∈ r, q = 1
def feasC (A : List (List _root_.Rat)) (n : Nat) (y : Nat -> _root_.Rat) : Prop := (∀ k, k < n -> 0 <= y k) /\ ∀ r ∈ A, 1 <= dotF n (fnL r) y
theorem unit_get {n j k : Nat} (hk : k < n) : fnL (unitR n j) k = if k = j then 1 else 0 := by
 rw [fnL, gd (by simpa [unitR] using hk)]; simp [unitR]
theorem app_get {r : List _root_.Rat} {n : Nat} {b : _root_.Rat} (hr : r.length = n) : (∀ k, k < n -> fnL (r ++ [b]) k = fnL r k) /\ fnL (r ++ [b]) n = b := by
 constructor
 ·intro k hk
  rw [fnL, fnL, gd (by simp; omega), gd (by omega), List.getElem_append_left]
 ·rw [fnL, gd (by simp; omega)]
  simp [<- hr]
theorem aug_mem {A : List (List _root_.Rat)} {n : Nat} {r : List _root_.Rat} : r ∈ augR A n ↔ (∃ a ∈ A, r = a ++ [1]) \/ ∃ j, j < n /\ r = unitR n j ++ [0] := by
 simp only [augR, List.mem_append, List.mem_map, List.mem_range]
 constructor
 ·rintro (⟨a, h, rfl⟩ | ⟨j, h, rfl⟩)
  ·exact .inl ⟨a, h, rfl⟩
  ·exact .inr ⟨j, h, rfl⟩
 ·rintro (⟨a, h, rfl⟩ | ⟨j, h, rfl⟩)
  ·exact .inl ⟨a, h, rfl⟩
  ·exact .inr ⟨j, h, rfl⟩
theorem aug_len {A : List (List _root_.Rat)} {n : Nat} (h : Mat01 A n) : ∀ r ∈ augR A n, r.length = n + 1 := fun r hr => by
 rcases aug_mem.1 hr with ⟨a, ha, rfl⟩ | ⟨j, _, rfl⟩
 ·simp [h.len a ha]
 ·simp [unitR]
theorem aug_01 {A : List (List _root_.Rat)} {n : Nat} (h : Mat01 A n) : ∀ r ∈ augR A n, ∀ q ∈ r, q = 0 \/ q = 1 := fun r hr q hq => by
 rcases aug_mem.1 hr with ⟨a, ha, rfl⟩ | ⟨j, _, rfl⟩
 ·rcases List.mem_append.1 hq with hq | hq
  ·exact h.z a ha q hq
  ·exact .inr (List.mem_singleton.1 hq)
 ·rcases List.mem_append.1 hq with hq | hq
  ·obtain ⟨k, _, rfl⟩ := List.mem_map.1 hq
   split
   ·exact .inr rfl
   ·exact .inl rfl
  ·exact .inl (List.mem_singleton.1 hq)
theorem bd_01 {n : Nat} {M : List (List _root_.Rat)} (hl : M.length = n) (h : ∀ r ∈ M, ∀ q ∈ r, q = 0 \/ q = 1) : Bd n 0 M := by
 refine ⟨1, by omega, by simp [cbQ], fun i hi => ⟨1, fun k => if rowQ M i k = 1 then 1 else 0, ⟨by omega, by simp [cbQ], fun k _ => ?_, fun k _ => ?_⟩, fun h => by omega⟩⟩
 ·have hr := h _ (getD_mem' (i := i) (d := []) (by omega))
  have : rowQ M i k = 0 ∨ rowQ M i k = 1 := by
   by_cases hk : k < (M.getD i []).length
   ·rw [rowQ, fnL, gd hk]
    exact hr _ (List.getElem_mem hk)
   ·left
    rw [rowQ, fnL, List.getD, List.getElem?_eq_none (by omega)]; rfl
  rcases this with e | e
  ·rw [e, if_neg (by grind)]; simp
  ·rw [e, if_pos rfl]; simp
 ·simp only [bbQ]
  split <;> decide
theorem range_fn {n : Nat} {v : Nat -> _root_.Rat} {k : Nat} (hk : k < n) : fnL ((List.range n).map v) k = v k := by
 rw [fnL, gd (by simpa using hk)]; simp
theorem min_cov {A : List (List _root_.Rat)} {n : Nat} (h : Mat01 A n) : ∃ p, minQ A n = some p /\ p.1.length = n /\ p.2 = dotF n (fun _ => 1) (fnL p.1) /\ feasC A n (fnL p.1) /\ ∀ y, feasC A n y -> p.2 <= dotF n (fun _ => 1) y := by
 have hrow : ∀ r ∈ augR A n, r.length = n + 1 := aug_len h
 have key : ∀ y, feasC A n y → ∃ x ∈ ptsQ A n, x.length = n ∧ sumQ x ≤ dotF n (fun _ => 1) y := fun y hy => by
  obtain ⟨C, hC⟩ : ∃ C : List Cst, C = (augR A n).map fun r => (fnL r, fnL r n) := ⟨_, rfl⟩
  have hfe : ∀ y, feasF n C y ↔ feasC A n y := fun y => by
   constructor
   ·intro hf
    refine ⟨fun k hk => ?_, fun r hr => ?_⟩
    ·have h1 := hf (fnL (unitR n k ++ [0]), fnL (unitR n k ++ [0]) n) (by rw [hC]; exact List.mem_map.2 ⟨_, aug_mem.2 (.inr ⟨k, hk, rfl⟩), rfl⟩)
     have h2 := app_get (r := unitR n k) (n := n) (b := 0) (by simp [unitR])
     simp only [h2.2] at h1
     rw [dotF_congr (a' := fnL (unitR n k)) (x' := y) h2.1 (fun _ _ => rfl), dotF_one (j := k) hk fun i hi hik => by rw [unit_get hi, if_neg hik]; grind, unit_get hk, if_pos rfl] at h1
     grind
    ·have h1 := hf (fnL (r ++ [1]), fnL (r ++ [1]) n) (by rw [hC]; exact List.mem_map.2 ⟨_, aug_mem.2 (.inl ⟨r, hr, rfl⟩), rfl⟩)
     have h2 := app_get (r := r) (n := n) (b := 1) (h.len r hr)
     simp only [h2.2] at h1
     rwa [dotF_congr (a' := fnL r) (x' := y) h2.1 (fun _ _ => rfl)] at h1
   ·rintro ⟨h1, h2⟩ p hp
    rw [hC] at hp
    obtain ⟨r, hr, rfl⟩ := List.mem_map.1 hp
    rcases aug_mem.1 hr with ⟨a, ha, rfl⟩ | ⟨j, hj, rfl⟩
    ·have h3 := app_get (r := a) (n := n) (b := 1) (h.len a ha)
     simp only [h3.2]
     rw [dotF_congr (a' := fnL a) (x' := y) h3.1 (fun _ _ => rfl)]
     exact h2 a ha
    ·have h3 := app_get (r := unitR n j) (n := n) (b := 0) (by simp [unitR])
     simp only [h3.2]
     rw [dotF_congr (a' := fnL (unitR n j)) (x' := y) h3.1 (fun _ _ => rfl), dotF_one (j := j) hj fun i hi hik => by rw [unit_get hi, if_neg hik]; grind, unit_get hj, if_pos rfl]
     have := h1 j hj
     grind
  obtain ⟨v, v1, v2, v3⟩ := vert_ex (n := n) (C := C) (c := fun _ => 1) (fun _ _ => by show (0 : _root_.Rat) ≤ 1; decide) (fun k hk => by
   refine ⟨(fnL (unitR n k ++ [0]), fnL (unitR n k ++ [0]) n), by rw [hC]; exact List.mem_map.2 ⟨_, aug_mem.2 (.inr ⟨k, hk, rfl⟩), rfl⟩, ?_, fun x => ?_⟩
   ·exact (app_get (by simp [unitR])).2
   ·have h2 := app_get (r := unitR n k) (n := n) (b := 0) (by simp [unitR])
    simp only
    rw [dotF_congr (a' := fnL (unitR n k)) (x' := x) h2.1 (fun _ _ => rfl), dotF_one (j := k) hk fun i hi hik => by rw [unit_get hi, if_neg hik]; grind, unit_get hk, if_pos rfl]
    grind) _ y ((hfe y).2 hy) (Nat.le_refl _)
  obtain ⟨B, hB, hBl, hBk⟩ := ker_sub _ _ (Nat.le_refl _) v3
  have he : (C.filter (tgt n v)).map Prod.fst = ((augR A n).filter fun r => tgt n v (fnL r, fnL r n)).map fnL := by
   rw [hC, List.filter_map, List.map_map]
   rfl
  rw [he] at hB
  obtain ⟨M, hM, rfl⟩ := List.sublist_map_iff.1 hB
  have hMs : M.Sublist (augR A n) := hM.trans List.filter_sublist
  have hMt : ∀ r ∈ M, dotF n (fnL r) v = fnL r n := fun r hr => by
   have := (List.mem_filter.1 (hM.subset hr)).2
   simpa [tgt] using this
  have hMl : M.length = n := by simpa using hBl
  have hMr : ∀ r ∈ M, r.length = n + 1 := fun r hr => hrow r (hMs.subset hr)
  have hMb : Bd n 0 M := bd_01 hMl fun r hr => aug_01 h r (hMs.subset hr)
  have hs := sol_some hMl hMr hMb hBk hMt
  have hvf := (hfe v).1 v1
  have hsum : sumQ ((List.range n).map v) = dotF n (fun _ => 1) v := by
   rw [sumQ, List.length_map, List.length_range]
   exact dotF_congr (fun _ _ => rfl) fun k hk => range_fn hk
  refine ⟨(List.range n).map v, pts_mem.2 ⟨M, hMs, hMl, hs, ?_⟩, by simp, ?_⟩
  ·simp only [feasQ, Bool.and_eq_true, List.all_eq_true, decide_eq_true_eq, List.length_map, List.length_range]
   refine ⟨fun q hq => ?_, fun r hr => ?_⟩
   ·obtain ⟨k, hk, rfl⟩ := List.mem_map.1 hq
    exact hvf.1 k (List.mem_range.1 hk)
   ·rw [dotF_congr (a' := fnL r) (x' := v) (fun _ _ => rfl) fun k hk => range_fn hk]
    exact hvf.2 r hr
  ·rw [hsum]; exact v2
 have h1 : feasC A n (fun _ => 1) := by
  refine ⟨fun _ _ => by show (0 : _root_.Rat) <= 1; decide, fun r hr => ?_⟩
  obtain ⟨q, hq, rfl⟩ := h.one r hr
  obtain ⟨i, hi, hqi⟩ := List.mem_iff_getElem.1 hq
  have hl := h.len r hr
  have hz : ∀ k, k < n → 0 ≤ fnL r k := fun k hk => by
   rw [fnL, gd (by omega)]
   rcases h.z r hr _ (List.getElem_mem (show k < r.length by omega)) with e | e <;> rw [e] <;> decide
  have hd : dotF n (fnL r) (fun _ => 1) = dotF n (fun k => fnL r k - if k = i then 1 else 0) (fun _ => 1) + dotF n (fun k => if k = i then 1 else 0) (fun _ => 1) := by
   rw [dotF_comm (fun k => fnL r k - if k = i then 1 else 0), dotF_comm (fun k => if k = i then (1 : _root_.Rat) else 0), <- dotF_add, dotF_comm]
   exact dotF_congr (fun _ _ => rfl) fun k _ => by grind
  have h2 : 0 ≤ dotF n (fun k => fnL r k - if k = i then 1 else 0) (fun _ => 1) := dotF_nonneg fun k hk => by
   by_cases e : k = i
   ·subst e
    have : fnL r k = 1 := by rw [fnL, gd hi, hqi]
    rw [this, if_pos rfl]; grind
   ·have := hz k hk
    rw [if_neg e]; grind
  have h3 : dotF n (fun k => if k = i then (1 : _root_.Rat) else 0) (fun _ => 1) = 1 := by
   rw [dotF_one (j := i) (by omega) fun k _ hk => by rw [if_neg hk]; grind, if_pos rfl]
   grind
  rw [hd, h3]
  grind
 obtain ⟨x0, hx0, _⟩ := key _ h1
 obtain ⟨p, p1, p2, p3, p4⟩ := best_some (List.ne_nil_of_mem hx0)
 obtain ⟨M, hM, hMl, hMs, hMf⟩ := pts_mem.1 p3
 have hpl : p.1.length = n := by
  rw [solQ] at hMs
  cases e : gj M n with
  | none => rw [e] at hMs; cases hMs
  | some m => rw [e, Option.map_some, Option.some.injEq] at hMs; rw [<- hMs]; simp [outM]
 refine ⟨p, p1, hpl, by rw [p2, sumQ, hpl], ?_, fun y hy => ?_⟩
 ·simp only [feasQ, Bool.and_eq_true, List.all_eq_true, decide_eq_true_eq, hpl] at hMf
  exact ⟨fun k hk => by rw [fnL, gd (by omega)]; exact hMf.1 _ (List.getElem_mem _), hMf.2⟩
 ·obtain ⟨x, hx, _, hs⟩ := key y hy
  have := p4 x hx
  grind
theorem tdiv_dvd {a b : Int} (h : b ∣ a) : a.tdiv b = a / b := Int.tdiv_eq_ediv_of_dvd h
theorem q_norm (n d : Int) (hd : 0 < d) : (_root_.Rat.divInt n d).num = n.tdiv (Nat.gcd n.natAbs d.natAbs : Nat) /\ (((_root_.Rat.divInt n d).den : Nat) : Int) = d.tdiv (Nat.gcd n.natAbs d.natAbs : Nat) := by
 have e : _root_.Rat.divInt n d = _root_.Rat.normalize n d.natAbs (by omega) := by
  have : d = (d.natAbs : Int) := by omega
  conv => lhs; rw [this]
  show _root_.mkRat n d.natAbs = _
  rw [_root_.Rat.normalize_eq_mkRat]
 rw [e, _root_.Rat.normalize_eq]
 simp only
 have h1 : ((Nat.gcd n.natAbs d.natAbs : Nat) : Int) ∣ n := Int.ofNat_dvd_left.2 (Nat.gcd_dvd_left _ _)
 have h2 : ((Nat.gcd n.natAbs d.natAbs : Nat) : Int) ∣ d := Int.ofNat_dvd_left.2 (Nat.gcd_dvd_right _ _)
 rw [tdiv_dvd h1, tdiv_dvd h2]
 refine ⟨rfl, ?_⟩
 rw [Int.natCast_ediv]
 congr 1
 omega
theorem q_add (a b : _root_.Rat) : a + b = _root_.Rat.divInt (a.num * b.den + b.num * a.den) ((a.den : Int) * b.den) := by
 rw [_root_.Rat.add_def, _root_.Rat.normalize_eq_mkRat]
 rfl
theorem q_mul (a b : _root_.Rat) : a * b = _root_.Rat.divInt (a.num * b.num) ((a.den : Int) * b.den) := by
 rw [_root_.Rat.mul_def, _root_.Rat.normalize_eq_mkRat]
 rfl
theorem q_self (a : _root_.Rat) : _root_.Rat.divInt a.num a.den = a := _root_.Rat.num_divInt_den a
theorem q_div (a b : _root_.Rat) : a / b = _root_.Rat.divInt (a.num * b.den) ((a.den : Int) * b.num) := by
 rw [_root_.Rat.div_def, _root_.Rat.inv_def]
 conv => lhs; rw [<- q_self a]
 rw [_root_.Rat.divInt_mul_divInt]
theorem q_flip (n d : Int) : _root_.Rat.divInt (-n) (-d) = _root_.Rat.divInt n d := _root_.Rat.neg_divInt_neg n d
theorem q_neg (a : _root_.Rat) : (-a).num = - a.num /\ (-a).den = a.den := ⟨rfl, rfl⟩
theorem q_sub (a b : _root_.Rat) : a - b = a + -b := by grind
def r01 (b : Bool) : _root_.Rat := if b then 1 else 0
def covM (atoms : List PAtom) (bag : List Int) : List (List _root_.Rat) := bag.map fun v => atoms.map fun a => r01 (a.vars.contains v)
def widQ (atoms : List PAtom) (bag : List Int) : _root_.Rat := ((minQ (covM atoms bag) atoms.length).map (·.2)).getD 0
def covered (atoms : List PAtom) (bag : List Int) : Prop := ∀ v ∈ bag, ∃ a ∈ atoms, v ∈ a.vars
theorem covM_01 {atoms : List PAtom} {bag : List Int} (h : covered atoms bag) : Mat01 (covM atoms bag) atoms.length := by
 refine ⟨fun r hr => ?_, fun r hr q hq => ?_, fun r hr => ?_⟩
 ·obtain ⟨v, _, rfl⟩ := List.mem_map.1 hr; simp
 ·obtain ⟨v, _, rfl⟩ := List.mem_map.1 hr
  obtain ⟨a, _, rfl⟩ := List.mem_map.1 hq
  simp only [r01]; split <;> simp
 ·obtain ⟨v, hv, rfl⟩ := List.mem_map.1 hr
  obtain ⟨a, ha, hva⟩ := h v hv
  exact ⟨1, List.mem_map.2 ⟨a, ha, by simp [r01, hva]⟩, rfl⟩
theorem wid_min {atoms : List PAtom} {bag : List Int} (h : covered atoms bag) : ∃ p, minQ (covM atoms bag) atoms.length = some p /\ p.2 = widQ atoms bag /\ p.1.length = atoms.length /\
  p.2 = dotF atoms.length (fun _ => 1) (fnL p.1) /\ feasC (covM atoms bag) atoms.length (fnL p.1) /\ ∀ y, feasC (covM atoms bag) atoms.length y -> p.2 <= dotF atoms.length (fun _ => 1) y := by
 obtain ⟨p, h1, h2, h3, h4, h5⟩ := min_cov (covM_01 h)
 exact ⟨p, h1, by simp [widQ, h1], h2, h3, h4, h5⟩
theorem wid_mono {atoms : List PAtom} {bag bag' : List Int} (h : covered atoms bag) (hs : ∀ v ∈ bag', v ∈ bag) : widQ atoms bag' <= widQ atoms bag := by
 obtain ⟨p, _, p2, _, p4, p5, _⟩ := wid_min h
 obtain ⟨p', _, q2, _, _, _, q6⟩ := wid_min (bag := bag') fun v hv => h v (hs v hv)
 rw [<- p2, <- q2, p4]
 refine q6 _ ⟨p5.1, fun r hr => p5.2 r ?_⟩
 obtain ⟨v, hv, rfl⟩ := List.mem_map.1 hr
 exact List.mem_map.2 ⟨v, hs v hv, rfl⟩
theorem dotF_le {a b x : Nat -> _root_.Rat} : ∀ {n : Nat}, (∀ k, k < n -> a k * x k <= b k * x k) -> dotF n a x <= dotF n b x
 | 0, _ => by simp [dotF]
 | n + 1, h => by
   have h1 := dotF_le (n := n) fun k hk => h k (by omega)
   have h2 := h n (by omega)
   simp only [dotF]
   grind
theorem wid_one {atoms : List PAtom} {bag : List Int} (h : covered atoms bag) (hne : bag ≠ []) : 1 <= widQ atoms bag := by
 obtain ⟨p, _, p2, _, p4, p5, _⟩ := wid_min h
 rw [<- p2, p4]
 obtain ⟨v, hv⟩ := List.exists_mem_of_ne_nil _ hne
 have h1 := p5.2 _ (List.mem_map.2 ⟨v, hv, rfl⟩)
 have h2 : dotF atoms.length (fnL (atoms.map fun a => r01 (a.vars.contains v))) (fnL p.1) ≤ dotF atoms.length (fun _ => 1) (fnL p.1) := by
  refine dotF_le fun k hk => ?_
  have h0 := p5.1 k hk
  have h3 : fnL (atoms.map fun a => r01 (a.vars.contains v)) k ≤ 1 := by
   simp only [fnL, List.getD_eq_getElem?_getD, List.getElem?_map, List.getElem?_eq_getElem hk, Option.map_some, Option.getD_some, r01]
   split <;> decide
  have := _root_.Rat.mul_le_mul_of_nonneg_right h3 h0
  exact this
 grind
def qR (q : _root_.Rat) : PRat := ⟨q.num, q.den⟩
theorem qR_inj {a b : _root_.Rat} : qR a = qR b ↔ a = b := by
 constructor
 ·intro h
  have h1 : a.num = b.num := congrArg PRat.num h
  have h2 : (a.den : Int) = b.den := congrArg PRat.den h
  exact _root_.Rat.ext h1 (by omega)
 ·rintro rfl; rfl
def cmpQ (a b : _root_.Rat) : Int := if a < b then -1 else if b < a then 1 else 0
theorem cmpQ_lt {a b : _root_.Rat} : cmpQ a b < 0 ↔ a < b := by
 unfold cmpQ
 split
 ·simp [*]
 ·split <;> simp [*]
theorem cmpQ_gt {a b : _root_.Rat} : 0 < cmpQ a b ↔ b < a := by
 unfold cmpQ
 split
 ·rename_i h
  have : ¬ b < a := by grind
  simp [this]
 ·split <;> simp [*]
theorem cmpQ_eq {a b : _root_.Rat} : cmpQ a b = (if a.num * b.den < b.num * a.den then -1 else if b.num * a.den < a.num * b.den then 1 else 0) := by
 unfold cmpQ
 simp only [_root_.Rat.lt_iff]
theorem mulB {a b : Int} {x y : Nat} (ha : a.natAbs <= x) (hb : b.natAbs <= y) : (a * b).natAbs <= x * y := natAbs_mul_le ha hb
theorem num_ne {q : _root_.Rat} (h : q ≠ 0) : q.num ≠ 0 := fun e => h (_root_.Rat.num_eq_zero.1 e)
theorem sm_pos {q : _root_.Rat} : 0 < (q.den : Int) := by have := q.den_pos; omega
theorem sm_gcd (q : _root_.Rat) : Nat.gcd q.num.natAbs q.den = 1 := q.reduced
theorem sm_neg {q : _root_.Rat} (h : smQ q) : smQ (-q) := ⟨by have := h.1; simp [(q_neg q).1]; exact this, by have := h.2; simp [(q_neg q).2]; exact this⟩
theorem sm_zero : smQ 0 := by constructor <;> decide
theorem sm_one : smQ 1 := by constructor <;> decide
theorem sm_mul {a b : _root_.Rat} (ha : smQ a) (hb : smQ b) : (a.num * b.den).natAbs <= 1000000000000000000 /\ (b.num * a.den).natAbs <= 1000000000000000000 /\ (a.num * b.num).natAbs <= 1000000000000000000 /\ ((a.den : Int) * b.den).natAbs <= 1000000000000000000 /\ ((a.den : Int) * b.num).natAbs <= 1000000000000000000 := by
 have h1 := ha.1
 have h2 := ha.2
 have h3 := hb.1
 have h4 := hb.2
 exact ⟨mulB h1 (y := 1000000000) (by omega), mulB h3 (y := 1000000000) (by omega), mulB h1 h3, mulB (x := 1000000000) (y := 1000000000) (by omega) (by omega), mulB (x := 1000000000) (by omega) h3⟩
theorem den_mul {a b : _root_.Rat} : (0 : Int) < (a.den : Int) * b.den := Int.mul_pos sm_pos sm_pos
theorem norm_num {n d : Int} {q : _root_.Rat} (hq : q = _root_.Rat.divInt n d) (hd : 0 < d) : n.tdiv (Nat.gcd n.natAbs d.natAbs : Nat) = q.num /\ d.tdiv (Nat.gcd n.natAbs d.natAbs : Nat) = q.den := by
 subst hq
 have := q_norm n d hd
 exact ⟨this.1.symm, this.2.symm⟩
theorem gcd_le {n d : Int} (hd : 0 < d) : 1 <= Nat.gcd n.natAbs d.natAbs /\ ((Nat.gcd n.natAbs d.natAbs : Nat) : Int) <= d := by
 have h1 : 0 < d.natAbs := by omega
 have h2 := Nat.gcd_pos_of_pos_right n.natAbs h1
 have h3 := Nat.gcd_le_right n.natAbs h1
 omega
theorem tmod_nat (a b : Nat) : ((a : Int).tmod (b : Int)) = ((a % b : Nat) : Int) := by
 rw [Int.tmod_eq_emod_of_nonneg (by omega)]; simp
theorem sm_i {q : _root_.Rat} (h : smQ q) : -1000000000 <= q.num /\ q.num <= 1000000000 /\ (1 : Int) <= q.den /\ (q.den : Int) <= 1000000000 := by
 have h1 := h.1
 have h2 := h.2
 have h3 := q.den_pos
 omega
def eQ (q : _root_.Rat) : List D := eRat (qR q)
def cR (T : TypeId × Nat) (r : Nat × List _root_.Rat) : List D := [.sl (some r.1) (some T) (r.2.map eQ)]
theorem eQ_def (q : _root_.Rat) : eQ q = [.int .i64 q.num, .int .i64 (q.den : Int)] := rfl
@[simp] theorem eQ_len (q : _root_.Rat) : (eQ q).length = 2 := rfl
@[simp] theorem ids_eQ (q : _root_.Rat) : idsL (eQ q) = [] := rfl
@[simp] theorem ids_eQs (l : List _root_.Rat) : idsLL (l.map eQ) = [] := by
  induction l with
  | nil => rfl
  | cons a r ih => simp [idsLL, ih]
@[simp] theorem hp_eQs (l : List _root_.Rat) : hpLL (l.map eQ) = false := by
  induction l with
  | nil => rfl
  | cons a r ih => simp [hpLL, hpL, eQ, eRat, cI, D.hp] at ih ⊢
@[simp] theorem tk_eQs (l : List _root_.Rat) : tkLL (l.map eQ) = true := by
  induction l with
  | nil => rfl
  | cons a r ih => simp [tkLL, ih, eQ, eRat, cI, tkL, D.tk]
@[simp] theorem re_eQs (φ : Nat → Option D) (l : List _root_.Rat) : reLL φ (l.map eQ) = some (l.map eQ) := by
  induction l with
  | nil => rfl
  | cons a r ih => simp [reLL, ih, eQ, eRat, cI, reL, reD]
@[simp] theorem ids_cR (T : TypeId × Nat) (r : Nat × List _root_.Rat) : idsL (cR T r) = [r.1] := by simp [cR, idsL, D.ids]
@[simp] theorem ids_cRs (T : TypeId × Nat) (l : List (Nat × List _root_.Rat)) : idsLL (l.map (cR T)) = l.map (·.1) := by
  induction l with
  | nil => rfl
  | cons a r ih => simp [idsLL, ih]
@[simp] theorem cR_len (T : TypeId × Nat) (r : Nat × List _root_.Rat) : (cR T r).length = 1 := rfl
@[simp] theorem hp_cRs (T : TypeId × Nat) (l : List (Nat × List _root_.Rat)) : hpLL (l.map (cR T)) = false := by
  induction l with
  | nil => rfl
  | cons a r ih => simp [hpLL, hpL, cR, D.hp] at ih ⊢
@[simp] theorem tk_cRs (T : TypeId × Nat) (l : List (Nat × List _root_.Rat)) : tkLL (l.map (cR T)) = true := by
  induction l with
  | nil => rfl
  | cons a r ih => simp [tkLL, ih, cR, tkL, D.tk]
theorem len_eQs {l l' : List _root_.Rat} (h : l'.length = l.length) : (l'.map eQ).map List.length = (l.map eQ).map List.length := by
 simp only [List.map_map, Function.comp_def, eQ_len, List.map_const', h]
theorem nd_idx {α : Type} {l : List α} (h : l.Nodup) {i j : Nat} {a : α} (hi : l[i]? = some a) (hj : l[j]? = some a) : i = j := by
 obtain ⟨hi', ei⟩ := List.getElem?_eq_some_iff.1 hi
 obtain ⟨hj', ej⟩ := List.getElem?_eq_some_iff.1 hj
 have h1 := List.pairwise_iff_getElem.1 h
 refine Classical.byContradiction fun hne => ?_
 rcases Nat.lt_or_gt_of_ne hne with hlt | hlt
 ·exact h1 i j hi' hj' hlt (ei.trans ej.symm)
 ·exact h1 j i hj' hi' hlt (ej.trans ei.symm)
theorem re_rowQ {φ : Nat -> Option D} {gm : Nat} {TM : Option (TypeId × Nat)} {T : TypeId × Nat} {rows : List (Nat × List _root_.Rat)} {i : Nat} {g : Nat} {r r' : List _root_.Rat} (hi : rows[i]? = some (g, r)) (hl : r'.length = r.length)
  (hnd : (rows.map (·.1)).Nodup) (hgm : φ gm = none) (hg : φ g = some (.sl (some g) (some T) (r'.map eQ))) (ho : ∀ q ∈ rows.map (·.1), q ≠ g -> φ q = none) :
  reV φ (.d (.sl (some gm) TM (rows.map (cR T)))) = .d (.sl (some gm) TM ((rows.set i (g, r')).map (cR T))) := by
 obtain ⟨hlt, he⟩ := List.getElem?_eq_some_iff.1 hi
 have h1 : rows.map (cR T) = (rows.map (cR T)).set i (cR T (g, r)) := by
  rw [<- he, set_same (by simp [hlt])]
 rw [h1, <- set_map]
 refine re_elemD hgm ?_ (fun j e hji hj q hq => ?_) (by simp)
 ·simp only [cR, reL, reD, hg]
  rw [if_pos ⟨trivial, rfl, trivial, len_eQs hl⟩]
 ·rw [List.getElem?_map] at hj
  cases hr : rows[j]? with
  | none => simp [hr] at hj
  | some p =>
    simp only [hr, Option.map_some, Option.some.injEq] at hj
    subst hj
    simp only [ids_cR, List.mem_singleton] at hq
    subst hq
    have hpm : p ∈ rows := List.mem_of_getElem? hr
    refine ho _ (List.mem_map.2 ⟨p, hpm, rfl⟩) fun e => hji ?_
    obtain ⟨hj', hjp⟩ := List.getElem?_eq_some_iff.1 hr
    have a1 : (rows.map (·.1))[j]? = some g := by simp [hr, e]
    have a2 : (rows.map (·.1))[i]? = some g := by simp [hi]
    exact nd_idx hnd a1 a2
theorem re_mat {W : List Nat} {gm : Nat} {TM TM' : Option (TypeId × Nat)} {T : TypeId × Nat} {rows rows' : List (Nat × List _root_.Rat)} (hf : rows'.map (·.1) = rows.map (·.1)) (hl : rows'.map (·.2.length) = rows.map (·.2.length))
  (hnd : (rows.map (·.1)).Nodup) (hgm : gm ∉ W) (hgr : gm ∉ rows.map (·.1)) (hW : ∀ q ∈ rows.map (·.1), q ∈ W) :
  reV (phi W [.sl (some gm) TM' (rows'.map (cR T))]) (.d (.sl (some gm) TM (rows.map (cR T)))) = .d (.sl (some gm) TM (rows'.map (cR T))) := by
 refine reV_d ?_
 simp only [reD, phi_out hgm]
 have hlen : rows'.length = rows.length := by have := congrArg List.length hf; simpa using this
 rw [reLL_of (l' := rows'.map (cR T)) (by simpa using hlen) ?_]
 ·rfl
 intro i e e' he he'
 rw [List.getElem?_map] at he he'
 cases hr : rows[i]? with
 | none => simp [hr] at he
 | some p =>
   cases hr' : rows'[i]? with
   | none => simp [hr'] at he'
   | some p' =>
     simp only [hr, hr', Option.map_some, Option.some.injEq] at he he'
     subst he he'
     obtain ⟨g, r⟩ := p
     obtain ⟨g', r'⟩ := p'
     have a1 : (rows.map (·.1))[i]? = some g := by simp [hr]
     have a2 : (rows'.map (·.1))[i]? = some g' := by simp [hr']
     rw [hf, a1] at a2
     cases a2
     have b1 : (rows.map (·.2.length))[i]? = some r.length := by simp [hr]
     have b2 : (rows'.map (·.2.length))[i]? = some r'.length := by simp [hr']
     rw [hl, b1] at b2
     have hlr : r'.length = r.length := by simpa using b2.symm
     have hgm' : g ≠ gm := fun e => hgr (by rw [<- e]; exact List.mem_of_getElem? a1)
     have hnd' : (rows'.map (·.1)).Nodup := by rw [hf]; exact hnd
     have hlook : ∀ (l : List (Nat × List _root_.Rat)), (l.map (·.1)).Nodup → (g, r') ∈ l → lookLL g (l.map (cR T)) = some (.sl (some g) (some T) (r'.map eQ)) := by
      intro l
      induction l with
      | nil => intro _ h; cases h
      | cons x s ih =>
        intro hn hm
        simp only [List.map_cons, List.nodup_cons] at hn
        simp only [List.map_cons, lookLL, cR, lookL, lookD]
        rcases List.mem_cons.1 hm with rfl | hm
        ·simp
        ·have hxg : x.1 ≠ g := fun e => hn.1 (by rw [e]; exact List.mem_map.2 ⟨_, hm, rfl⟩)
         rw [if_neg hxg]
         have hno : lookLL g (x.2.map eQ) = none := by
          have : ∀ l : List _root_.Rat, lookLL g (l.map eQ) = none := by
           intro l
           induction l with
           | nil => rfl
           | cons a b ih => simp [lookLL, lookL, eQ, eRat, cI, lookD, ih]
          exact this _
         rw [hno]
         exact ih hn.2 hm
     have hin := hW g (List.mem_of_getElem? a1)
     simp only [cR, reL, reD, phi, hin, if_true, lookL, lookD]
     rw [if_neg (Ne.symm hgm'), hlook rows' hnd' (List.mem_of_getElem? hr')]
     simp only [Option.getD_some]
     rw [if_pos ⟨trivial, rfl, trivial, len_eQs hlr⟩]
theorem VC.erase {P : Program} {f : FuncId} {args : List V} {post : Nat -> V -> Prop} {v : V} (h : VC P f args post) (hv : ∀ n r, post n r -> rp (fun _ => none) r = some v) : VC P f args (fun _ r => r = v) := by
 refine ⟨h.1, fun w vals A hg hLR => (h.2 w vals A hg hLR).mono fun e w' he => ?_⟩
 obtain ⟨val, r, rfl, hb, hvr, _, hp⟩ := he
 have hr := hv _ _ hp
 exact ⟨val, v, rfl, hb, VR.er _ _ _ hvr hr, rp_rd _ _ hr, rfl⟩
end Go.Vs
