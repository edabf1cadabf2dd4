/-
  O1A4: a part of a proof of this seat: the value-level semantics of Go code without maps, its walk rules, the frame of a row, facts of types, schedules, walks, plain lemmas (Pl30 Pl31 Pl32 Pl33 Pl34 Pl35 Pl36 Pl37 Pl38 Pl39 Pl40 Pl41 Pl42 Pl43 Pl44 Pl57 Pl59 Pl45 Pl46 Pl47 Pl48 Pl49 Pl50 Pl51 Pl52 Pl53 Pl54 Pl55 Pl56 Pl58 Pl60 Pl61 Pl62 Pl63). It holds of every program and state that its hypotheses name.
-/
import Derived.Test.YtgijjgjlgmfakaaO1A3
set_option linter.unusedSimpArgs false
set_option linter.unusedVariables false
set_option linter.unnecessarySimpa false
namespace Go.Vs
/-! ### relations' texts read -/
def inTx (x : List UInt8) : List UInt8 := (x.drop 1).take (x.length - 2)
def rowTx (x : List UInt8) : List Int := if 2 < x.length then (cutB 44 (inTx x)).map prsN else []
def preRel (s : List UInt8) : PReln :=
  ⟨prsN ((cutB 58 s).getD 0 []), if (cutB 58 s).length = 2 ∧ (cutB 58 s).getD 1 [] ≠ [] then (cutB 32 ((cutB 58 s).getD 1 [])).map rowTx else []⟩
def prsB (s : List UInt8) : Bool := decide (fmtRel (preRel s) = s) && decide (s ≠ [])
def prsR (s : List UInt8) : PReln := if prsB s then preRel s else ⟨0, []⟩
end Go.Vs


namespace Go.Vs
/-! ### disks -/
def rdF (k : List PFile) (nm : List UInt8) : Option (List UInt8) := (k.find? fun f => decide (f.name = nm)).map (·.data)
def rdD (k : List PFile) (nm : List UInt8) : List UInt8 := (rdF k nm).getD []
def rdB (k : List PFile) (nm : List UInt8) : Bool := (rdF k nm).isSome
structure RdI (k : List PFile) (nm : List UInt8) (i : Nat) : Prop where
  le : i ≤ k.length
  eq : rdF (k.drop i) nm = rdF k nm
theorem RdI.zero {k : List PFile} {nm : List UInt8} : RdI k nm 0 := ⟨by omega, rfl⟩
theorem RdI.miss {k : List PFile} {nm : List UInt8} {i : Nat} (h : RdI k nm i) (hi : i < k.length) (e : k[i].name ≠ nm) : RdI k nm (i + 1) := by
  refine ⟨hi, ?_⟩
  rw [← h.eq, List.drop_eq_getElem_cons hi, rdF, rdF, List.find?_cons_of_neg (by simpa using e)]
theorem RdI.hit {k : List PFile} {nm : List UInt8} {i : Nat} (h : RdI k nm i) (hi : i < k.length) (e : k[i].name = nm) : rdF k nm = some k[i].data := by
  rw [← h.eq, List.drop_eq_getElem_cons hi, rdF, List.find?_cons_of_pos (by simpa using e)]; rfl
theorem RdI.done {k : List PFile} {nm : List UInt8} {i : Nat} (h : RdI k nm i) (hi : k.length ≤ i) : rdF k nm = none := by
  rw [← h.eq, List.drop_of_length_le hi]; rfl
/-- the disk's names ascend -/
def dskAt (l : List PFile) (j : Nat) : Bool := decide (j = 0) || Op.bytesLess (l.getD (j - 1) default).name (l.getD j default).name
def dskOk (l : List PFile) : Bool := (List.range l.length).all (dskAt l)
structure DskI (l : List PFile) (i : Nat) : Prop where
  lo : 1 ≤ i
  ok : ∀ j, j < i → j < l.length → dskAt l j = true
theorem DskI.one {l : List PFile} : DskI l 1 := ⟨by omega, fun j h1 _ => by simp [dskAt, show j = 0 by omega]⟩
theorem DskI.step {l : List PFile} {i : Nat} (h : DskI l i) (e : dskAt l i = true) : DskI l (i + 1) :=
  ⟨by omega, fun j h1 h2 => by
    by_cases hj : j < i
    · exact h.ok j hj h2
    · rw [show j = i by omega]; exact e⟩
theorem DskI.done {l : List PFile} {i : Nat} (h : DskI l i) (hi : l.length ≤ i) : dskOk l = true := by
  simp only [dskOk, List.all_eq_true, List.mem_range]
  exact fun j hj => h.ok j (by omega) hj
/-! ### loading a version -/
def hdNm (v : Int) : List UInt8 := [109] ++ decZ v
def lnNm (ln : List UInt8) : List UInt8 := (cutB 61 ln).getD 0 []
def tabO (k : List PFile) (v : Int) (ln : List UInt8) : Option PTab := if rdB k (runNm v (lnNm ln)) && prsB (rdD k (runNm v (lnNm ln))) then some ⟨lnNm ln, prsR (rdD k (runNm v (lnNm ln)))⟩ else none
def lnCk (ln s : List UInt8) : Bool := decide ((cutB 61 ln).length = 2) && decide (decZ (ckS s) = (cutB 61 ln).getD 1 [])
def tabS (k : List PFile) (v : Int) (ln : List UInt8) : Option PTab := if lnCk ln (rdD k (runNm v (lnNm ln))) then tabO k v ln else none
def tabsM (f : List UInt8 → Option PTab) : List (List UInt8) → Option (List PTab)
  | [] => some []
  | x :: r => match f x with
    | none => none
    | some t => (tabsM f r).map (t :: ·)
structure TbI (f : List UInt8 → Option PTab) (ls : List (List UInt8)) (i : Nat) (acc : List PTab) : Prop where
  le : i ≤ ls.length
  eq : tabsM f ls = (tabsM f (ls.drop i)).map (acc ++ ·)
  len : acc.length = i
theorem TbI.zero {f : List UInt8 → Option PTab} {ls : List (List UInt8)} : TbI f ls 0 [] := ⟨by omega, by simp, rfl⟩
theorem TbI.step {f : List UInt8 → Option PTab} {ls : List (List UInt8)} {i : Nat} {acc : List PTab} (h : TbI f ls i acc) (hi : i < ls.length) {t : PTab} (e : f ls[i] = some t) : TbI f ls (i + 1) (acc ++ [t]) := by
  refine ⟨hi, ?_, by simp [h.len]⟩
  rw [h.eq, List.drop_eq_getElem_cons hi, tabsM, e]
  simp only [Option.map_map, Function.comp_def, List.append_assoc, List.singleton_append]
theorem TbI.bad {f : List UInt8 → Option PTab} {ls : List (List UInt8)} {i : Nat} {acc : List PTab} (h : TbI f ls i acc) (hi : i < ls.length) (e : f ls[i] = none) : tabsM f ls = none := by
  rw [h.eq, List.drop_eq_getElem_cons hi, tabsM, e]; rfl
theorem TbI.done {f : List UInt8 → Option PTab} {ls : List (List UInt8)} {i : Nat} {acc : List PTab} (h : TbI f ls i acc) (hi : ls.length ≤ i) : tabsM f ls = some acc := by
  rw [h.eq, List.drop_of_length_le hi, tabsM]; simp
/-- the manifest's lines but for the last -/
def lns (h : List UInt8) : List (List UInt8) := (cutB 10 h).dropLast
def headEq (ts : List PTab) (h : List UInt8) : Bool := decide (headTx ts ++ decZ (ckS (headTx ts)) = h)
def loadS (k : List PFile) (v : Int) : Option PDb :=
  if rdB k (hdNm v) then match tabsM (tabS k v) (lns (rdD k (hdNm v))) with
    | none => none
    | some ts => if verB ⟨ts⟩ v && headEq ts (rdD k (hdNm v)) then some ⟨ts⟩ else none
  else none
/-! ### the newest version -/
def newF (k : List PFile) : Nat → Nat
  | 0 => 0
  | n + 1 => if (loadS k ((n + 1 : Nat) : Int)).isSome then n + 1 else newF k n
def newV (k : List PFile) : Nat := newF k 99
def recP (k : List PFile) : PDb := if newV k = 0 then ⟨[]⟩ else (loadS k (newV k)).getD ⟨[]⟩
def recB (k : List PFile) : Bool := decide (newV k ≠ 0)
structure NewI (k : List PFile) (v : Nat) : Prop where
  le : v ≤ 99
  eq : newF k v = newV k
theorem NewI.hit {k : List PFile} {v : Nat} (h : NewI k (v + 1)) {d : PDb} (e : loadS k ((v + 1 : Nat) : Int) = some d) : newV k = v + 1 ∧ recP k = d ∧ recB k = true := by
  have h1 : newV k = v + 1 := by rw [← h.eq, newF, e]; rfl
  exact ⟨h1, by rw [recP, if_neg (by omega), h1, e]; rfl, by simp [recB, h1]⟩
theorem NewI.zero {k : List PFile} (h : NewI k 0) : newV k = 0 ∧ recP k = ⟨[]⟩ ∧ recB k = false := by
  have h1 : newV k = 0 := by rw [← h.eq]; rfl
  exact ⟨h1, by rw [recP, if_pos h1], by simp [recB, h1]⟩
/-! ### writing -/
def wrA (n : PFile) : Bool → List PFile → List PFile
  | done, [] => if done then [] else [n]
  | done, f :: r => (if !done && !Op.bytesLess f.name n.name then [n] else []) ++ (if f.name = n.name then [] else [f]) ++ wrA n (done || !Op.bytesLess f.name n.name) r
def wrF (k : List PFile) (n : PFile) : List PFile := wrA n false k
structure WrI (k : List PFile) (n : PFile) (p : Nat × Bool × List PFile) : Prop where
  le : p.1 ≤ k.length
  eq : wrF k n = p.2.2 ++ wrA n p.2.1 (k.drop p.1)
  len : p.2.2.length ≤ p.1 + (if p.2.1 then 1 else 0)
theorem WrI.zero {k : List PFile} {n : PFile} : WrI k n (0, false, []) := ⟨by simp, by simp [wrF], by simp⟩
theorem WrI.step {k : List PFile} {n : PFile} {i : Nat} {b : Bool} {out : List PFile} (h : WrI k n (i, b, out)) (hi : i < k.length) :
    WrI k n (i + 1, b || !Op.bytesLess k[i].name n.name, out ++ ((if !b && !Op.bytesLess k[i].name n.name then [n] else []) ++ (if k[i].name = n.name then [] else [k[i]]))) := by
  refine ⟨hi, ?_, ?_⟩
  · have := h.eq
    simp only at this ⊢
    rw [this, List.drop_eq_getElem_cons hi, wrA]
    simp only [List.append_assoc]
  · have := h.len
    simp only [List.length_append] at this ⊢
    have h2 : (if k[i].name = n.name then ([] : List PFile) else [k[i]]).length ≤ 1 := by split <;> simp
    cases b <;> cases Op.bytesLess k[i].name n.name <;> simp at this ⊢ <;> omega
theorem WrI.done {k : List PFile} {n : PFile} {i : Nat} {b : Bool} {out : List PFile} (h : WrI k n (i, b, out)) (hi : k.length ≤ i) : wrF k n = out ++ (if b then [] else [n]) := by
  have := h.eq
  simp only at this
  rw [this, List.drop_of_length_le hi, wrA]
/-! ### what is kept -/
end Go.Vs


namespace Go.Vs
end Go.Vs


namespace Go.Vs
/-! ### tracked disks -/
end Go.Vs


namespace Go.Vs
end Go.Vs


namespace Go.Vs
end Go.Vs


namespace Go.Vs
/-! ### the laws of counted relations -/
end Go.Vs


namespace Go.Vs
/-! ### the law of projections of counted relations -/
end Go.Vs


namespace Go.Vs
/-! ### the laws of deltas and batches -/
/-- a table that is found stands between smaller and greater names -/
structure SplT (l A B : List PTab) (nm : List UInt8) (r : PReln) : Prop where
  eq : l = A ++ ⟨nm, r⟩ :: B
  lo : ∀ t ∈ A, Op.bytesLess t.name nm = true
  hi : ∀ t ∈ B, Op.bytesLess nm t.name = true
theorem tw_app {α : Type} {p : α → Bool} {A B : List α} {t : α} (hA : ∀ a ∈ A, p a = true) (ht : p t = false) : (A ++ t :: B).takeWhile p = A := by
  induction A with
  | nil => simp [ht]
  | cons a r ih => rw [List.cons_append, List.takeWhile_cons, hA a (by simp), if_pos rfl, ih fun b hb => hA b (List.mem_cons_of_mem _ hb)]
theorem SplT.set {l A B : List PTab} {nm : List UInt8} {r : PReln} (h : SplT l A B nm r) (u : PReln) : setL l nm u = A ++ ⟨nm, u⟩ :: B := by
  have hk : setK l nm = A.length := by rw [setK, h.eq, tw_app h.lo (bl_irr nm)]
  have hh : hitK l nm = true := by
    rw [hitK, hk, h.eq]
    simp [List.getD]
  rw [setL, hk, hh, h.eq]
  simp
theorem SplT.put {l A B : List PTab} {nm : List UInt8} {r : PReln} (h : SplT l A B nm r) (u : PReln) : SplT (setL l nm u) A B nm u := ⟨h.set u, h.lo, h.hi⟩
theorem dbOk_of {l : List PTab} (h1 : l.length ≤ 6) (h2 : SrtT l) (h3 : ∀ t ∈ l, tabOk t = true) : dbOk ⟨l⟩ = true := by
  simp only [dbOk, Bool.and_eq_true, decide_eq_true_eq, List.all_eq_true, List.mem_range]
  refine ⟨h1, fun i hi => ?_⟩
  rw [dbAt_eq hi, h3 _ (List.getElem_mem hi), Bool.and_true]
  by_cases h0 : i = 0
  · simp [h0]
  · have := List.pairwise_iff_getElem.1 h2 (i - 1) i (by omega) hi (by omega)
    simp [this]
theorem SplT.ok {l A B : List PTab} {nm : List UInt8} {r u : PReln} (h : SplT l A B nm r) (hd : dbOk ⟨l⟩ = true) (hu : tabOk ⟨nm, u⟩ = true) : dbOk ⟨setL l nm u⟩ = true := by
  have hlen := dbOk_len hd
  have hs := dbOk_srt hd
  have hm : ∀ t ∈ l, tabOk t = true := fun t ht => dbOk_tab hd ht
  have e := h.eq
  rw [h.set u]
  rw [e] at hs hm hlen
  simp only at hlen
  refine dbOk_of (by simpa using hlen) ?_ fun t ht => ?_
  · have hp := List.pairwise_append.1 hs
    refine List.pairwise_append.2 ⟨hp.1, List.pairwise_cons.2 ⟨fun t ht => h.hi t ht, (List.pairwise_cons.1 hp.2.1).2⟩, fun a ha b hb => ?_⟩
    rcases List.mem_cons.1 hb with hb | hb
    · subst hb; exact h.lo a ha
    · exact hp.2.2 a ha b (List.mem_cons_of_mem _ hb)
  · rcases List.mem_append.1 ht with ht | ht
    · exact hm t (by simp [ht])
    · rcases List.mem_cons.1 ht with ht | ht
      · subst ht; exact hu
      · exact hm t (by simp [ht])
end Go.Vs


namespace Go.Vs
/-! ### bindings: a join by glue, and a walk over atoms -/
/-- the value that a row over the variables 'a' gives to v -/
def lookV (a r : List Int) (v : Int) : Int := r.getD (idxL a v).toNat 0
def aVars (vs : List Int) : List Int := (rangeI 5).filter fun v => vs.contains v
def fitR (vs row : List Int) : Bool := decide (vs.map (lookV vs row) = row)
def valL (vs row : List Int) : List Int := (vs.zip row).foldl (fun val p => val.set p.1.toNat p.2) (List.replicate 5 0)
def abL (vs : List Int) (rows : List (List Int)) : List (List Int) := (rows.filter (fitR vs)).map fun row => pickR (aVars vs) (valL vs row)
def abR (d : PDb) (a : PAtom) : List (List Int) := srtU (abL a.vars (lkR d a.rel).rows)
def insI (l : List Int) (n : Int) : List Int :=
  if (l.getD (l.takeWhile fun x => decide (x < n)).length (n + 1)) = n then l else l.take (l.takeWhile fun x => decide (x < n)).length ++ n :: l.drop (l.takeWhile fun x => decide (x < n)).length
def uniL (a b : List Int) : List Int := b.foldl insI a
def glV (a r b s : List Int) (v : Int) : Bool := !(a.contains v && b.contains v && !decide (lookV a r v = lookV b s v))
def glB (u a r b s : List Int) : Bool := u.all (glV a r b s)
def glR (u a r b s : List Int) : List Int := u.map fun v => if a.contains v then lookV a r v else lookV b s v
def glO (u a r b s : List Int) : Option (List Int) := if glB u a r b s then some (glR u a r b s) else none
def joinL (u a : List Int) (rows : List (List Int)) (b : List Int) (list : List (List Int)) : List (List Int) := rows.flatMap fun r => list.filterMap fun s => glO u a r b s
def joinS (d : PDb) (p : List Int × List (List Int)) (a : PAtom) : List Int × List (List Int) := (uniL p.1 (aVars a.vars), joinL (uniL p.1 (aVars a.vars)) p.1 p.2 (aVars a.vars) (abR d a))
def binds (d : PDb) (l : List PAtom) : List Int × List (List Int) := l.foldl (joinS d) ([], [[]])
/-- a tuple is laid into a row -/
def asgO : List Int → List (Int × Int) → Option (List Int)
  | x, [] => some x
  | x, (v, y) :: r => if x.getD v.toNat 0 = -1 ∨ x.getD v.toNat 0 = y then asgO (x.set v.toNat y) r else none
/-! rows as maps -/
theorem idxL_mem {l : List Int} {v : Int} (h : v ∈ l) : (idxL l v).toNat < l.length ∧ l.getD (idxL l v).toNat 0 = v := by
  rw [idxL, if_pos h]
  simp only [Int.toNat_natCast]
  induction l with
  | nil => cases h
  | cons x r ih =>
    by_cases hx : x = v
    · subst hx; simp
    · have hr : v ∈ r := (List.mem_cons.1 h).resolve_left fun e => hx e.symm
      have := ih hr
      have hb : (!(x == v)) = true := by simp [hx]
      have e : (x :: r).takeWhile (fun x => !(x == v)) = x :: r.takeWhile (fun x => !(x == v)) := by rw [List.takeWhile_cons, if_pos hb]
      rw [e]
      simp only [List.length_cons, List.getD_cons_succ]
      exact ⟨by omega, this.2⟩
theorem lookV_map {a : List Int} (β : Int → Int) {v : Int} (h : v ∈ a) : lookV a (a.map β) v = β v := by
  obtain ⟨h1, h2⟩ := idxL_mem h
  rw [lookV]
  have : (a.map β).getD (idxL a v).toNat 0 = β (a.getD (idxL a v).toNat 0) := by
    simp [List.getD, h1]
  rw [this, h2]
theorem idxL_self : ∀ {a : List Int}, a.Nodup → ∀ i (h : i < a.length), (idxL a a[i]).toNat = i := by
  intro a ha i h
  obtain ⟨h1, h2⟩ := idxL_mem (List.getElem_mem h)
  have h3 : a[(idxL a a[i]).toNat] = a[i] := by
    have := h2
    rwa [getD_el _ h1] at this
  exact (List.getElem_inj ha).1 h3
theorem map_lookV {a r : List Int} (ha : a.Nodup) (hl : r.length = a.length) : a.map (lookV a r) = r := by
  refine List.ext_getElem (by simp [hl]) fun i h1 h2 => ?_
  rw [List.getElem_map, lookV, idxL_self ha i (by simpa using h1), getD_el _ h2]
theorem map_congr_mem {a : List Int} {f g : Int → Int} : a.map f = a.map g ↔ ∀ v ∈ a, f v = g v := List.map_inj_left
/-! the rows of an atom -/
theorem aVars_mem {vs : List Int} {v : Int} : v ∈ aVars vs ↔ v ∈ vs ∧ 0 ≤ v ∧ v < 5 := by
  rw [aVars, List.mem_filter]
  simp only [rangeI, List.mem_map, List.mem_range, List.contains_iff_mem]
  constructor
  · rintro ⟨⟨k, hk, rfl⟩, h⟩; exact ⟨h, by omega, by omega⟩
  · rintro ⟨h, h0, h1⟩; exact ⟨⟨v.toNat, by omega, by omega⟩, h⟩
theorem rangeI_pw (n : Nat) : (rangeI n).Pairwise (· < ·) := by
  rw [rangeI, List.pairwise_map]
  exact List.pairwise_lt_range.imp fun h => by omega
theorem aVars_pw (vs : List Int) : (aVars vs).Pairwise (· < ·) := List.Pairwise.filter _ (rangeI_pw 5)
theorem pw_nodup {l : List Int} (h : l.Pairwise (· < ·)) : l.Nodup := h.imp fun h => by omega
theorem val_step {vs row : List Int} (val : List Int) (β : Int → Int) (hr : row = vs.map β) (hv : ∀ v ∈ vs, 0 ≤ v ∧ v < 5) (hl : val.length = 5) :
    ((vs.zip row).foldl (fun val p => val.set p.1.toNat p.2) val).length = 5 ∧ ∀ u : Int, 0 ≤ u → u < 5 → ((vs.zip row).foldl (fun val p => val.set p.1.toNat p.2) val).getD u.toNat 0 = if u ∈ vs then β u else val.getD u.toNat 0 := by
  subst hr
  induction vs generalizing val with
  | nil => simp [hl]
  | cons w r ih =>
    simp only [List.map_cons, List.zip_cons_cons, List.foldl_cons]
    have hw := hv w (by simp)
    have := ih (val.set w.toNat (β w)) (fun v hm => hv v (List.mem_cons_of_mem _ hm)) (by simp [hl])
    refine ⟨this.1, fun u h0 h5 => ?_⟩
    rw [this.2 u h0 h5]
    by_cases h1 : u ∈ r
    · simp [h1]
    · by_cases h2 : u = w
      · subst h2
        simp only [h1, if_false, List.mem_cons, true_or, if_true]
        simp [List.getD, List.getElem?_set, hl, show u.toNat < 5 by omega]
      · have h3 : u ∉ w :: r := by simp [h1, h2]
        rw [if_neg h1, if_neg h3]
        have : w.toNat ≠ u.toNat := by omega
        simp [List.getD, List.getElem?_set, this]
theorem val_pick {vs row : List Int} (β : Int → Int) (hr : row = vs.map β) (hv : ∀ v ∈ vs, 0 ≤ v ∧ v < 5) : pickR (aVars vs) (valL vs row) = (aVars vs).map β := by
  rw [pickR]
  refine map_congr_mem.2 fun u hu => ?_
  obtain ⟨h1, h2, h3⟩ := aVars_mem.1 hu
  rw [valL, (val_step (List.replicate 5 0) β hr hv (by simp)).2 u h2 h3, if_pos h1]
/-- the rows of an atom are the bindings of its variables -/
theorem ab_mem {vs : List Int} {rows : List (List Int)} (hv : ∀ v ∈ vs, 0 ≤ v ∧ v < 5) (β : Int → Int) : (aVars vs).map β ∈ srtU (abL vs rows) ↔ vs.map β ∈ rows := by
  rw [srtU_mem, abL, List.mem_map]
  constructor
  · rintro ⟨row, hrow, e⟩
    obtain ⟨h1, h2⟩ := List.mem_filter.1 hrow
    have hf : row = vs.map (lookV vs row) := (of_decide_eq_true h2).symm
    rw [val_pick (lookV vs row) hf hv] at e
    have he := map_congr_mem.1 e
    have : vs.map β = row := by
      rw [hf]
      refine map_congr_mem.2 fun v hm => ?_
      exact (he v (aVars_mem.2 ⟨hm, hv v hm⟩)).symm
    rw [this]; exact h1
  · intro h
    refine ⟨vs.map β, List.mem_filter.2 ⟨h, decide_eq_true ?_⟩, val_pick β rfl hv⟩
    exact map_congr_mem.2 fun v hm => lookV_map β hm
theorem ab_len {vs : List Int} {rows : List (List Int)} : ∀ s ∈ srtU (abL vs rows), s.length = (aVars vs).length := fun s hs => by
  rw [srtU_mem, abL, List.mem_map] at hs
  obtain ⟨row, _, rfl⟩ := hs
  exact pickR_len _ _
/-! sets of variables -/
theorem insI_pw {l : List Int} (h : l.Pairwise (· < ·)) (n : Int) : (insI l n).Pairwise (· < ·) ∧ ∀ x, x ∈ insI l n ↔ x ∈ l ∨ x = n := by
  induction l with
  | nil =>
    have e : insI [] n = [n] := by
      have : ([] : List Int).getD 0 (n + 1) ≠ n := by simp [List.getD]; omega
      simp only [insI, List.takeWhile_nil, List.length_nil, if_neg this, List.take_nil, List.drop_nil, List.nil_append]
    rw [e]; simp
  | cons a r ih =>
    have hp := List.pairwise_cons.1 h
    have ih := ih hp.2
    by_cases h1 : a < n
    · have e : insI (a :: r) n = a :: insI r n := by
        simp only [insI, List.takeWhile_cons, decide_eq_true h1, if_true, List.length_cons, List.getD_cons_succ, List.take_succ_cons, List.drop_succ_cons]
        split <;> simp
      rw [e]
      refine ⟨List.pairwise_cons.2 ⟨fun x hx => ?_, ih.1⟩, fun x => ?_⟩
      · rcases (ih.2 x).1 hx with hx | hx
        · exact hp.1 x hx
        · omega
      · rw [List.mem_cons, ih.2, List.mem_cons, or_assoc]
    · have e0 : (List.takeWhile (fun x => decide (x < n)) (a :: r)).length = 0 := by simp [List.takeWhile_cons, h1]
      by_cases h2 : a = n
      · subst h2
        have e : insI (a :: r) a = a :: r := by simp [insI, e0]
        rw [e]
        exact ⟨h, fun x => by simp; intro hx; exact .inl hx⟩
      · have e : insI (a :: r) n = n :: a :: r := by simp [insI, e0, h2]
        rw [e]
        refine ⟨List.pairwise_cons.2 ⟨fun x hx => ?_, h⟩, fun x => by simp [or_comm]⟩
        rcases List.mem_cons.1 hx with hx | hx
        · omega
        · have := hp.1 x hx; omega
theorem uniL_pw : ∀ (b : List Int) {a : List Int}, a.Pairwise (· < ·) → (uniL a b).Pairwise (· < ·) ∧ ∀ x, x ∈ uniL a b ↔ x ∈ a ∨ x ∈ b
  | [], a, h => ⟨h, by simp [uniL]⟩
  | n :: b, a, h => by
    have h1 := insI_pw h n
    have h2 := uniL_pw b h1.1
    refine ⟨h2.1, fun x => ?_⟩
    have : uniL a (n :: b) = uniL (insI a n) b := rfl
    rw [this, h2.2, h1.2, List.mem_cons, or_assoc]
theorem pw_ext : ∀ {l l' : List Int}, l.Pairwise (· < ·) → l'.Pairwise (· < ·) → (∀ x, x ∈ l ↔ x ∈ l') → l = l'
  | [], [], _, _, _ => rfl
  | [], b :: s, _, _, h => by have := (h b).2 (by simp); simp at this
  | a :: r, [], _, _, h => by have := (h a).1 (by simp); simp at this
  | a :: r, b :: s, h1, h2, h => by
    have p1 := List.pairwise_cons.1 h1
    have p2 := List.pairwise_cons.1 h2
    have hab : a = b := by
      rcases List.mem_cons.1 ((h a).1 (by simp)) with e | e
      · exact e
      · rcases List.mem_cons.1 ((h b).2 (by simp)) with e' | e'
        · exact e'.symm
        · have := p2.1 a e; have := p1.1 b e'; omega
    subst hab
    congr 1
    refine pw_ext p1.2 p2.2 fun x => ?_
    have hx := h x
    simp only [List.mem_cons] at hx
    constructor
    · intro hm
      rcases hx.1 (.inr hm) with e | e
      · have := p1.1 x hm; omega
      · exact e
    · intro hm
      rcases hx.2 (.inr hm) with e | e
      · have := p2.1 x hm; omega
      · exact e
/-! the join -/
theorem join_mem {u a b : List Int} {rows list : List (List Int)} (ha : a.Nodup) (hb : b.Nodup) (hu : ∀ x, x ∈ u ↔ x ∈ a ∨ x ∈ b) (hr : ∀ r ∈ rows, r.length = a.length) (hs : ∀ s ∈ list, s.length = b.length) (β : Int → Int) :
    u.map β ∈ joinL u a rows b list ↔ a.map β ∈ rows ∧ b.map β ∈ list := by
  simp only [joinL, List.mem_flatMap, List.mem_filterMap, glO]
  constructor
  · rintro ⟨r, hrm, s, hsm, h⟩
    split at h
    · rename_i hg
      simp only [Option.some.injEq, glR] at h
      have he := map_congr_mem.1 h
      have hgv : ∀ v ∈ u, v ∈ a → v ∈ b → lookV a r v = lookV b s v := fun v h1 h2 h3 => by
        have := (List.all_eq_true.1 hg) v h1
        simpa [glV, List.contains_iff_mem, h2, h3] using this
      have e1 : ∀ v ∈ a, lookV a r v = β v := fun v hv => by
        have := he v ((hu v).2 (.inl hv))
        simpa [List.contains_iff_mem, hv] using this
      have e2 : ∀ v ∈ b, lookV b s v = β v := fun v hv => by
        by_cases hva : v ∈ a
        · rw [← hgv v ((hu v).2 (.inr hv)) hva hv]; exact e1 v hva
        · have := he v ((hu v).2 (.inr hv))
          simpa [List.contains_iff_mem, hva] using this
      have f1 : a.map β = r := by rw [← map_lookV ha (hr r hrm)]; exact map_congr_mem.2 fun v hv => (e1 v hv).symm
      have f2 : b.map β = s := by rw [← map_lookV hb (hs s hsm)]; exact map_congr_mem.2 fun v hv => (e2 v hv).symm
      rw [f1, f2]; exact ⟨hrm, hsm⟩
    · cases h
  · rintro ⟨h1, h2⟩
    refine ⟨a.map β, h1, b.map β, h2, ?_⟩
    rw [if_pos]
    · simp only [Option.some.injEq, glR]
      refine map_congr_mem.2 fun v hv => ?_
      by_cases hva : v ∈ a
      · simp only [List.contains_iff_mem, hva, if_true]; exact lookV_map β hva
      · have hvb := ((hu v).1 hv).resolve_left hva
        simp only [List.contains_iff_mem, hva, if_false]; exact lookV_map β hvb
    · refine List.all_eq_true.2 fun v hv => ?_
      by_cases hva : v ∈ a
      · by_cases hvb : v ∈ b
        · simp [glV, lookV_map β hva, lookV_map β hvb]
        · simp [glV, List.contains_iff_mem, hvb]
      · simp [glV, List.contains_iff_mem, hva]
theorem join_len {u a b : List Int} {rows list : List (List Int)} : ∀ x ∈ joinL u a rows b list, x.length = u.length := fun x hx => by
  simp only [joinL, List.mem_flatMap, List.mem_filterMap, glO] at hx
  obtain ⟨r, _, s, _, h⟩ := hx
  split at h
  · simp only [Option.some.injEq] at h
    rw [← h, glR, List.length_map]
  · cases h
/-- what a partial join holds -/
structure Jn (d : PDb) (as : List PAtom) (p : List Int × List (List Int)) : Prop where
  pw : p.1.Pairwise (· < ·)
  mem : ∀ x, x ∈ p.1 ↔ x ∈ varsIn as
  len : ∀ r ∈ p.2, r.length = p.1.length
  iff : ∀ β : Int → Int, p.1.map β ∈ p.2 ↔ ∀ a ∈ as, a.vars.map β ∈ (lkR d a.rel).rows
theorem Jn.zero (d : PDb) : Jn d [] ([], [[]]) := ⟨.nil, by simp [varsIn], by simp, by simp⟩
theorem Jn.step {d : PDb} {as : List PAtom} {p : List Int × List (List Int)} (h : Jn d as p) {a : PAtom} (hv : ∀ v ∈ a.vars, 0 ≤ v ∧ v < 5) : Jn d (as ++ [a]) (joinS d p a) := by
  have hu := uniL_pw (aVars a.vars) h.pw
  have hab : ∀ x, x ∈ uniL p.1 (aVars a.vars) ↔ x ∈ p.1 ∨ x ∈ aVars a.vars := hu.2
  refine ⟨hu.1, fun x => ?_, join_len, fun β => ?_⟩
  · show x ∈ uniL p.1 (aVars a.vars) ↔ _
    rw [hab, h.mem, varsIn, varsIn, List.flatMap_append, List.mem_append, aVars_mem]
    simp only [List.flatMap_cons, List.flatMap_nil, List.append_nil]
    constructor
    · rintro (h | h)
      · exact .inl h
      · exact .inr h.1
    · rintro (h | h)
      · exact .inl h
      · exact .inr ⟨h, hv x h⟩
  · show (uniL p.1 (aVars a.vars)).map β ∈ joinL (uniL p.1 (aVars a.vars)) p.1 p.2 (aVars a.vars) (abR d a) ↔ _
    have hl : ∀ s ∈ abR d a, s.length = (aVars a.vars).length := ab_len
    rw [join_mem (pw_nodup h.pw) (pw_nodup (aVars_pw a.vars)) hab h.len hl, h.iff, abR, ab_mem hv]
    simp only [List.mem_append, List.mem_singleton]
    constructor
    · rintro ⟨h1, h2⟩ b (hb | rfl)
      · exact h1 b hb
      · exact h2
    · exact fun h => ⟨fun b hb => h b (.inl hb), h a (.inr rfl)⟩
theorem Jn.all {d : PDb} : ∀ (l as : List PAtom) (p : List Int × List (List Int)), Jn d as p → (∀ a ∈ l, ∀ v ∈ a.vars, 0 ≤ v ∧ v < 5) → Jn d (as ++ l) (l.foldl (joinS d) p)
  | [], as, p, h, _ => by simpa using h
  | a :: l, as, p, h, hv => by
    have := Jn.all l (as ++ [a]) (joinS d p a) (h.step (hv a (by simp))) fun b hb => hv b (List.mem_cons_of_mem _ hb)
    simpa using this
/-! the walk -/
theorem getD_set_ne {x : List Int} {i j : Nat} {y : Int} (h : i ≠ j) : (x.set i y).getD j 0 = x.getD j 0 := by simp [List.getD, List.getElem?_set, h]
end Go.Vs


namespace Go.Vs
/-! ### the bindings of a query, and views -/
theorem rangeI_mem {n : Nat} {x : Int} : x ∈ rangeI n ↔ 0 ≤ x ∧ x < n := by
  simp only [rangeI, List.mem_map, List.mem_range]
  constructor
  · rintro ⟨k, hk, rfl⟩; omega
  · rintro ⟨h0, h1⟩; exact ⟨x.toNat, by omega, by omega⟩
theorem rangeI_len (n : Nat) : (rangeI n).length = n := by simp [rangeI]
/-! sizes -/
/-! views -/
end Go.Vs


namespace Go.Vs
end Go.Vs


namespace Go.Vs
/-- a contract on blocks, as one on what is known by elements -/
theorem VC.plain {P : Program} {f : FuncId} {As : List V} {post : Nat → V → Prop} {v : V} (h : VC P f As post) (hq : ∀ n r, post n r → rp (fun _ => none) r = some v) (hv : rd (fun _ => none) (fun _ => none) v = some v) :
    VC P f As (fun _ r => r = v) := by
  refine ⟨h.1, fun w vals A hLR => ?_⟩
  refine (h.2 w vals A hLR).mono fun e w' he => ?_
  obtain ⟨v', r, rfl, hb, hvr, _, hp⟩ := he
  exact ⟨v', v, rfl, hb, VR.er _ _ _ hvr (hq _ _ hp), hv, rfl⟩
end Go.Vs


namespace Go.Vs
/-- a contract on all blocks that read as the given elements, as one on the elements -/
theorem VC.untrack {P : Program} {f : FuncId} {Ps As0 : List V} {post post0 : Nat → V → Prop} (h0 : VC P f As0 post0) (hv : pnVL Ps = true)
    (h : ∀ As, rpL (fun _ => none) As = some Ps → tkVL As = true → lnVL As → VC P f As post) : VC P f Ps post := by
  refine ⟨h0.1, fun w vals A hLR => ?_⟩
  obtain ⟨ys, h3, h4, h5, _⟩ := LR.track Ps vals hv hLR
  exact (h ys h4 h5 (LR.ln _ _ h3)).2 w vals A h3
theorem rp_args1 {As : List V} {a : V} (h : rpL (fun _ => none) As = some [a]) (ht : tkVL As = true) (hl : lnVL As) : ∃ x, As = [x] ∧ rp (fun _ => none) x = some a ∧ x.tk = true ∧ x.ln := by
  match As, h, ht, hl with
  | [], h, _, _ => simp [rpL] at h
  | x :: r, h, ht, hl =>
    simp only [rpL] at h
    cases hx : rp (fun _ => none) x with
    | none => simp [hx] at h
    | some y =>
      cases hs : rpL (fun _ => none) r with
      | none => simp [hx, hs] at h
      | some ys =>
        simp only [hx, hs, Option.some.injEq, List.cons.injEq] at h
        obtain ⟨rfl, rfl⟩ := h
        simp only [tkVL, Bool.and_eq_true] at ht
        cases r with
        | nil => exact ⟨x, rfl, hx, ht.1, hl.1⟩
        | cons z s =>
          simp only [rpL] at hs
          cases h1 : rp (fun _ => none) z <;> cases h2 : rpL (fun _ => none) s <;> simp [h1, h2] at hs
theorem rp_args2 {As : List V} {a b : V} (h : rpL (fun _ => none) As = some [a, b]) (ht : tkVL As = true) (hl : lnVL As) :
    ∃ x y, As = [x, y] ∧ (rp (fun _ => none) x = some a ∧ x.tk = true ∧ x.ln) ∧ rp (fun _ => none) y = some b ∧ y.tk = true ∧ y.ln := by
  match As, h, ht, hl with
  | [], h, _, _ => simp [rpL] at h
  | x :: r, h, ht, hl =>
    simp only [rpL] at h
    cases hx : rp (fun _ => none) x with
    | none => simp [hx] at h
    | some y =>
      cases hs : rpL (fun _ => none) r with
      | none => simp [hx, hs] at h
      | some ys =>
        simp only [hx, hs, Option.some.injEq, List.cons.injEq] at h
        obtain ⟨rfl, rfl⟩ := h
        simp only [tkVL, Bool.and_eq_true] at ht
        obtain ⟨z, rfl, h1, h2, h3⟩ := rp_args1 hs ht.2 hl.2
        exact ⟨x, z, rfl, ⟨hx, ht.1, hl.1⟩, h1, h2, h3⟩
theorem queryOk_a4 {q : PQuery} (h : queryOk q = true) : q.atoms.length ≤ 4 := by
  simp only [queryOk, Bool.and_eq_true, inR, decide_eq_true_eq] at h
  omega
end Go.Vs


namespace Go.Vs
theorem aVars_len5 (vs : List Int) : (aVars vs).length ≤ 5 := by
  have := List.length_filter_le (fun v => vs.contains v) (rangeI 5)
  rw [rangeI_len] at this
  exact this
end Go.Vs


namespace Go.Vs
/-! ### the decomposition of an order -/
def nbrB (q : PQuery) (v w : Int) : Bool := !(decide (w = v)) && q.atoms.any fun a => a.vars.contains v && a.vars.contains w
def nbrL (q : PQuery) (v : Int) : List Int := if queryOk q then (rangeI q.n.toNat).filter (nbrB q v) else []
def comL (a b : List Int) : List Int := a.filter fun x => b.contains x
def ordOk (q : PQuery) (o : List Int) : Bool := queryOk q && decide ((o.length : Int) = q.n) && setOf o q.n
/-- which variables stand near each other when the first i of the order are out -/
def dcM (q : PQuery) (o : List Int) : Nat → Int → Int → Bool
  | 0, a, b => nbrB q a b
  | i + 1, a, b => dcM q o i a b || (!(decide (a = b)) && (decide (a = o.getD i 0) || (dcM q o i (o.getD i 0) a && !(o.take i).contains a)) && (decide (b = o.getD i 0) || (dcM q o i (o.getD i 0) b && !(o.take i).contains b)))
def dcI (q : PQuery) (o : List Int) (i : Nat) (v : Int) : Bool := decide (v = o.getD i 0) || (dcM q o i (o.getD i 0) v && !(o.take i).contains v)
def dcBag (q : PQuery) (o : List Int) (i : Nat) : List Int := (rangeI q.n.toNat).filter (dcI q o i)
def dcLat (q : PQuery) (o : List Int) (i : Nat) : List Int := (rangeI q.n.toNat).filter fun v => dcM q o i (o.getD i 0) v && (o.drop (i + 1)).contains v
def dcNear (q : PQuery) (o : List Int) (i : Nat) (v : Int) : List Int := (rangeI q.n.toNat).filter (dcM q o i v)
/-- the place of the first of the order, from k on, that is in a list -/
def fstIn (o l : List Int) : Nat → Nat → Option Nat
  | 0, _ => none
  | m + 1, k => if l.contains (o.getD k 0) then some k else fstIn o l m (k + 1)
def dcUp (q : PQuery) (o : List Int) (i : Nat) : Int :=
  if i + 1 = o.length then -1 else match fstIn o (dcBag q o i) (o.length - (i + 1)) (i + 1) with
  | some k => k
  | none => i + 1
def dcP (q : PQuery) (o : List Int) : PDec := if ordOk q o then ⟨(List.range o.length).map (dcBag q o), (List.range o.length).map (dcUp q o)⟩ else ⟨[], []⟩
theorem dcM_succ (q : PQuery) (o : List Int) (i : Nat) (a b : Int) : dcM q o (i + 1) a b = (dcM q o i a b || (!(decide (a = b)) && dcI q o i a && dcI q o i b)) := rfl
theorem dcM_sym (q : PQuery) (o : List Int) : ∀ i a b, dcM q o i a b = dcM q o i b a
  | 0, a, b => by
    simp only [dcM, nbrB]
    rw [show decide (b = a) = decide (a = b) from Bool.eq_iff_iff.2 (by simp [eq_comm])]
    congr 2
    funext c
    exact Bool.and_comm _ _
  | i + 1, a, b => by
    rw [dcM_succ, dcM_succ, dcM_sym q o i a b, show decide (b = a) = decide (a = b) from Bool.eq_iff_iff.2 (by simp [eq_comm])]
    rw [Bool.and_assoc, Bool.and_assoc, Bool.and_comm (dcI q o i a)]
theorem dcM_irr (q : PQuery) (o : List Int) : ∀ i a, dcM q o i a a = false
  | 0, a => by simp [dcM, nbrB]
  | i + 1, a => by rw [dcM_succ, dcM_irr q o i a]; simp
theorem filter_pw {n : Nat} {p : Int → Bool} : ((rangeI n).filter p).Pairwise (· < ·) := List.Pairwise.filter _ (rangeI_pw n)
/-- the neighbors, as the program finds them -/
theorem nbr_impl {q : PQuery} (hq : queryOk q = true) (v : Int) (l : List PAtom) (hl : ∀ a ∈ l, ∀ w ∈ a.vars, 0 ≤ w ∧ w < q.n) (hn : q.n ≤ 5) :
    ((l.foldl (fun out a => if a.vars.contains v then uniL out (aVars a.vars) else out) []).filter fun x => !(decide (x = v))) = (rangeI q.n.toNat).filter fun w => !(decide (w = v)) && l.any fun a => a.vars.contains v && a.vars.contains w := by
  have key : ∀ (l : List PAtom) (out : List Int), out.Pairwise (· < ·) → (l.foldl (fun out a => if a.vars.contains v then uniL out (aVars a.vars) else out) out).Pairwise (· < ·) ∧
      ∀ x, x ∈ l.foldl (fun out a => if a.vars.contains v then uniL out (aVars a.vars) else out) out ↔ x ∈ out ∨ ∃ a ∈ l, a.vars.contains v = true ∧ x ∈ aVars a.vars := by
    intro l
    induction l with
    | nil => intro out h; exact ⟨h, by simp⟩
    | cons a l ih =>
      intro out h
      rw [List.foldl_cons]
      by_cases hc : a.vars.contains v = true
      · rw [if_pos hc]
        have hu := uniL_pw (aVars a.vars) h
        obtain ⟨h1, h2⟩ := ih _ hu.1
        refine ⟨h1, fun x => ?_⟩
        rw [h2, hu.2]
        constructor
        · rintro ((h | h) | ⟨b, hb, h3⟩)
          · exact .inl h
          · exact .inr ⟨a, by simp, hc, h⟩
          · exact .inr ⟨b, List.mem_cons_of_mem _ hb, h3⟩
        · rintro (h | ⟨b, hb, h3, h4⟩)
          · exact .inl (.inl h)
          · rcases List.mem_cons.1 hb with rfl | hb
            · exact .inl (.inr h4)
            · exact .inr ⟨b, hb, h3, h4⟩
      · rw [if_neg hc]
        obtain ⟨h1, h2⟩ := ih _ h
        refine ⟨h1, fun x => ?_⟩
        rw [h2]
        constructor
        · rintro (h | ⟨b, hb, h3⟩)
          · exact .inl h
          · exact .inr ⟨b, List.mem_cons_of_mem _ hb, h3⟩
        · rintro (h | ⟨b, hb, h3, h4⟩)
          · exact .inl h
          · rcases List.mem_cons.1 hb with rfl | hb
            · exact absurd h3 hc
            · exact .inr ⟨b, hb, h3, h4⟩
  obtain ⟨k1, k2⟩ := key l [] .nil
  refine pw_ext (List.Pairwise.filter _ k1) filter_pw fun x => ?_
  rw [List.mem_filter, List.mem_filter, k2, rangeI_mem]
  simp only [List.not_mem_nil, false_or, Bool.and_eq_true, List.any_eq_true, List.contains_iff_mem, aVars_mem]
  constructor
  · rintro ⟨⟨a, ha, h1, h2, h3⟩, h4⟩
    have := hl a ha x h2
    exact ⟨by omega, h4, a, ha, h1, h2⟩
  · rintro ⟨h0, h4, a, ha, h1, h2⟩
    exact ⟨⟨a, ha, h1, h2, by omega⟩, h4⟩
/-- what is known of an order -/
structure Od (q : PQuery) (o : List Int) : Prop where
  qok : queryOk q = true
  len : (o.length : Int) = q.n
  nd : o.Nodup
  rng : ∀ v ∈ o, 0 ≤ v ∧ v < q.n
  n5 : 1 ≤ q.n ∧ q.n ≤ 5
theorem od_of {q : PQuery} {o : List Int} (h : ordOk q o = true) : Od q o := by
  simp only [ordOk, Bool.and_eq_true, decide_eq_true_eq] at h
  obtain ⟨⟨h1, h2⟩, h3⟩ := h
  have hn : 1 ≤ q.n ∧ q.n ≤ 5 := by
    simp only [queryOk, inR, Bool.and_eq_true, decide_eq_true_eq] at h1
    omega
  simp only [setOf, Bool.and_eq_true, List.all_eq_true, decide_eq_true_eq] at h3
  refine ⟨h1, h2, h3.2, fun v hv => ?_, hn⟩
  have := h3.1 v hv
  rw [wrap64_of (by omega) (by omega)] at this
  simp only [inR, Bool.and_eq_true, decide_eq_true_eq] at this
  omega
theorem Od.all {q : PQuery} {o : List Int} (h : Od q o) {v : Int} (h0 : 0 ≤ v) (h1 : v < q.n) : v ∈ o := by
  refine Classical.byContradiction fun hn => ?_
  have := nodup_len (o.length) (v :: o) (List.nodup_cons.2 ⟨hn, h.nd⟩) fun x hx => by
    rcases List.mem_cons.1 hx with rfl | hx
    · have := h.len; omega
    · have := h.rng x hx; have := h.len; omega
  simp at this; omega
theorem Od.at {q : PQuery} {o : List Int} {i : Nat} (hi : i < o.length) : o.getD i 0 = o[i] := by simp [List.getD_eq_getElem?_getD, List.getElem?_eq_getElem hi]
theorem Od.split {q : PQuery} {o : List Int} (h : Od q o) {i : Nat} (hi : i < o.length) {v : Int} (h0 : 0 ≤ v) (h1 : v < q.n) : v ∈ o.drop (i + 1) ↔ v ∉ o.take i ∧ v ≠ o[i] := by
  have e : o = o.take i ++ o[i] :: o.drop (i + 1) := by rw [← List.drop_eq_getElem_cons hi, List.take_append_drop]
  have hnd := h.nd
  rw [e] at hnd
  obtain ⟨n1, n2, n3⟩ := List.nodup_append.1 hnd
  obtain ⟨n4, n5⟩ := List.nodup_cons.1 n2
  have hm := h.all h0 h1
  rw [e, List.mem_append, List.mem_cons] at hm
  constructor
  · intro hv
    exact ⟨fun ht => n3 v ht v (List.mem_cons_of_mem _ hv) rfl, fun he => n4 (he ▸ hv)⟩
  · rintro ⟨h3, h4⟩
    rcases hm with hm | hm | hm
    · exact absurd hm h3
    · exact absurd hm h4
    · exact hm
/-- what is later and near, as the program finds it -/
theorem df_lat {q : PQuery} {o : List Int} {i : Nat} (hi : i < o.length) : comL (dcNear q o i (o[i])) (o.drop (i + 1)) = dcLat q o i := by
  rw [comL, dcNear, dcLat, List.filter_filter, Od.at (q := q) hi]
  exact List.filter_congr fun x _ => Bool.and_comm _ _
theorem lat_mem {q : PQuery} {o : List Int} (h : Od q o) {i : Nat} (hi : i < o.length) (v : Int) : v ∈ dcLat q o i ↔ 0 ≤ v ∧ v < q.n ∧ dcM q o i o[i] v = true ∧ v ∉ o.take i := by
  rw [dcLat, List.mem_filter, rangeI_mem, Od.at (q := q) hi, Bool.and_eq_true, List.contains_iff_mem]
  constructor
  · rintro ⟨h0, h1, h2⟩
    exact ⟨h0.1, by omega, h1, ((h.split hi h0.1 (by omega)).1 h2).1⟩
  · rintro ⟨h0, h1, h2, h3⟩
    refine ⟨⟨h0, by omega⟩, h2, (h.split hi h0 h1).2 ⟨h3, fun e => ?_⟩⟩
    rw [e, dcM_irr] at h2; cases h2
theorem bag_mem {q : PQuery} {o : List Int} (h : Od q o) {i : Nat} (hi : i < o.length) (v : Int) : v ∈ dcBag q o i ↔ v = o[i] ∨ v ∈ dcLat q o i := by
  rw [lat_mem h hi, dcBag, List.mem_filter, rangeI_mem, dcI, Od.at (q := q) hi]
  simp only [Bool.or_eq_true, decide_eq_true_eq, Bool.and_eq_true, Bool.not_eq_true', ← Bool.not_eq_true, List.contains_iff_mem]
  have := h.rng o[i] (List.getElem_mem hi)
  constructor
  · rintro ⟨h0, h1 | h1⟩
    · exact .inl h1
    · exact .inr ⟨h0.1, by omega, h1.1, h1.2⟩
  · rintro (h1 | h1)
    · exact ⟨by omega, .inl h1⟩
    · exact ⟨by omega, .inr h1.2.2⟩
theorem df_bag {q : PQuery} {o : List Int} (h : Od q o) {i : Nat} (hi : i < o.length) : uniL [o[i]] (dcLat q o i) = dcBag q o i := by
  have hu := uniL_pw (dcLat q o i) (show [o[i]].Pairwise (· < ·) by simp)
  exact pw_ext hu.1 filter_pw fun x => by rw [hu.2, bag_mem h hi, List.mem_singleton]
theorem dcI_iff {q : PQuery} {o : List Int} (h : Od q o) {i : Nat} (hi : i < o.length) {v : Int} (h0 : 0 ≤ v) (h1 : v < q.n) : dcI q o i v = true ↔ v = o[i] ∨ v ∈ dcLat q o i := by
  rw [← bag_mem h hi, dcBag, List.mem_filter, rangeI_mem]
  exact ⟨fun e => ⟨by omega, e⟩, fun e => e.2⟩
/-- a neighbor's list behind a step -/
theorem df_near {q : PQuery} {o : List Int} (h : Od q o) {i : Nat} (hi : i < o.length) {x : Int} (hx : x ∈ dcLat q o i) : ((uniL (dcNear q o i x) (dcLat q o i)).filter fun y => !(decide (y = x))) = dcNear q o (i + 1) x := by
  have hu := uniL_pw (dcLat q o i) (show (dcNear q o i x).Pairwise (· < ·) from filter_pw)
  have hxm := (lat_mem h hi x).1 hx
  refine pw_ext (List.Pairwise.filter _ hu.1) filter_pw fun y => ?_
  rw [List.mem_filter, hu.2, dcNear, dcNear, List.mem_filter, List.mem_filter, rangeI_mem]
  simp only [Bool.not_eq_true', decide_eq_false_iff_not]
  constructor
  · rintro ⟨⟨h0, h1⟩ | h1, h2⟩
    · exact ⟨h0, by rw [dcM_succ, h1]; rfl⟩
    · have hym := (lat_mem h hi y).1 h1
      refine ⟨by omega, ?_⟩
      rw [dcM_succ, Bool.or_eq_true, Bool.and_eq_true, Bool.and_eq_true, dcI_iff h hi hxm.1 hxm.2.1, dcI_iff h hi hym.1 hym.2.1]
      exact .inr ⟨⟨by simpa using fun e => h2 e.symm, .inr hx⟩, .inr h1⟩
  · rintro ⟨h0, h1⟩
    rw [dcM_succ, Bool.or_eq_true, Bool.and_eq_true, Bool.and_eq_true, dcI_iff h hi hxm.1 hxm.2.1, dcI_iff h hi h0.1 (by omega)] at h1
    rcases h1 with h1 | ⟨⟨h1, _⟩, h2⟩
    · exact ⟨.inl ⟨h0, h1⟩, fun e => by rw [e, dcM_irr] at h1; cases h1⟩
    · refine ⟨?_, fun e => by simp [e] at h1⟩
      rcases h2 with h2 | h2
      · refine .inl ⟨h0, ?_⟩
        rw [h2, dcM_sym]; exact hxm.2.2.1
      · exact .inr h2
theorem df_same {q : PQuery} {o : List Int} (h : Od q o) {i : Nat} (hi : i < o.length) {x : Int} (h0 : 0 ≤ x) (h1 : x < q.n) (hx : x ∉ dcLat q o i) : dcNear q o (i + 1) x = dcNear q o i x := by
  refine List.filter_congr fun y hy => ?_
  rw [rangeI_mem] at hy
  rw [dcM_succ]
  cases hm : dcM q o i x y
  · rw [Bool.false_or]
    refine Bool.eq_false_iff.2 fun hc => ?_
    rw [Bool.and_eq_true, Bool.and_eq_true, dcI_iff h hi h0 h1, dcI_iff h hi hy.1 (by omega)] at hc
    obtain ⟨⟨h2, h3⟩, h4⟩ := hc
    rcases h3 with rfl | h3
    · rcases h4 with rfl | h4
      · simp at h2
      · have := ((lat_mem h hi y).1 h4).2.2.1
        rw [this] at hm; cases hm
    · exact hx h3
  · rfl
end Go.Vs


namespace Go.Vs
def nbF (v : Int) (l : List PAtom) : List Int := l.foldl (fun out a => if a.vars.contains v then uniL out (aVars a.vars) else out) []
theorem nbF_pw (v : Int) : ∀ (l : List PAtom) (out : List Int), out.Pairwise (· < ·) → (∀ x ∈ out, 0 ≤ x ∧ x < 5) → (l.foldl (fun out a => if a.vars.contains v then uniL out (aVars a.vars) else out) out).Pairwise (· < ·) ∧ ∀ x ∈ l.foldl (fun out a => if a.vars.contains v then uniL out (aVars a.vars) else out) out, 0 ≤ x ∧ x < 5
  | [], out, h, h2 => ⟨h, h2⟩
  | a :: l, out, h, h2 => by
    rw [List.foldl_cons]
    cases hc : a.vars.contains v
    · simpa using nbF_pw v l out h h2
    · have hu := uniL_pw (aVars a.vars) h
      simp only [if_true]
      refine nbF_pw v l _ hu.1 fun x hx => ?_
      rcases (hu.2 x).1 hx with h3 | h3
      · exact h2 x h3
      · exact (aVars_mem.1 h3).2
theorem pw_nodupZ {l : List Int} (h : l.Pairwise (· < ·)) : l.Nodup := by
  rw [List.nodup_iff_pairwise_ne]
  exact h.imp fun h => by omega
theorem nbF_len (v : Int) (l : List PAtom) : (nbF v l).length ≤ 5 := by
  have h := nbF_pw v l [] .nil (by simp)
  exact nodup_len 5 _ (pw_nodupZ h.1) fun x hx => h.2 x hx
theorem nbF_snoc (v : Int) {l : List PAtom} {i : Nat} (h : i < l.length) : nbF v (l.take (i + 1)) = if l[i].vars.contains v then uniL (nbF v (l.take i)) (aVars l[i].vars) else nbF v (l.take i) := by
  rw [List.take_succ_eq_append_getElem h, nbF, List.foldl_append]; rfl
theorem atom_in {q : PQuery} (h : queryOk q = true) : ∀ a ∈ q.atoms, ∀ w ∈ a.vars, 0 ≤ w ∧ w < q.n := by
  have hn := queryOk_n5 h
  intro a ha w hw
  simp only [queryOk, Bool.and_eq_true, List.all_eq_true] at h
  have := h.1.2 a ha
  simp only [atomOk, Bool.and_eq_true, List.all_eq_true] at this
  have := this.2 w hw
  rw [wrap64_of (by omega) (by omega)] at this
  simp only [inR, Bool.and_eq_true, decide_eq_true_eq] at this
  omega
theorem nbr_ok {q : PQuery} (h : queryOk q = true) (v : Int) : ((nbF v q.atoms).filter fun x => !(decide (x = v))) = nbrL q v := by
  rw [nbrL, if_pos h]
  exact nbr_impl h v q.atoms (atom_in h) (queryOk_n5 h).2
end Go.Vs


namespace Go.Vs
theorem asgO_app : ∀ (l : List (Int × Int)) (x : List Int) (v y : Int), asgO x (l ++ [(v, y)]) = (asgO x l).bind fun z => if z.getD v.toNat 0 = -1 ∨ z.getD v.toNat 0 = y then some (z.set v.toNat y) else none
  | [], x, v, y => by simp [asgO]
  | (u, w) :: r, x, v, y => by
    rw [List.cons_append, asgO, asgO]
    split
    · exact asgO_app r _ v y
    · rfl
theorem asgO_none : ∀ (l r : List (Int × Int)) (x : List Int), asgO x l = none → asgO x (l ++ r) = none
  | [], _, _, h => by simp [asgO] at h
  | (u, w) :: l, r, x, h => by
    rw [List.cons_append, asgO]
    rw [asgO] at h
    split at h
    · rename_i hc
      rw [if_pos hc]
      exact asgO_none l r _ h
    · rename_i hc
      rw [if_neg hc]
/-- the state of the inner loop -/
structure AsS (row vs t : List Int) (j : Nat) (x : List Int) (fits : Bool) : Prop where
  le : j ≤ vs.length
  len : x.length = row.length
  yes : fits = true → asgO row ((vs.zip t).take j) = some x
  no : fits = false → asgO row (vs.zip t) = none
theorem AsS.zero {row vs t : List Int} : AsS row vs t 0 row true := ⟨by omega, rfl, fun _ => by simp [asgO], fun h => by cases h⟩
theorem zip_take {vs t : List Int} {j : Nat} (h1 : j < vs.length) (h2 : j < t.length) : (vs.zip t).take (j + 1) = (vs.zip t).take j ++ [(vs[j], t[j])] := by
  rw [List.take_succ_eq_append_getElem (by simp; omega)]
  simp
theorem AsS.step {row vs t x : List Int} {j : Nat} (h : AsS row vs t j x true) (h1 : j < vs.length) (h2 : j < t.length) :
    AsS row vs t (j + 1) (x.set vs[j].toNat t[j]) (decide (x.getD vs[j].toNat 0 = -1 ∨ x.getD vs[j].toNat 0 = t[j])) := by
  have hy := h.yes rfl
  have hz : asgO row ((vs.zip t).take (j + 1)) = if x.getD vs[j].toNat 0 = -1 ∨ x.getD vs[j].toNat 0 = t[j] then some (x.set vs[j].toNat t[j]) else none := by
    rw [zip_take h1 h2, asgO_app, hy]; rfl
  refine ⟨by omega, by rw [List.length_set]; exact h.len, fun hd => ?_, fun hd => ?_⟩
  · rw [hz, if_pos (of_decide_eq_true hd)]
  · rw [if_neg (of_decide_eq_false hd)] at hz
    have := asgO_none _ ((vs.zip t).drop (j + 1)) _ hz
    rwa [List.take_append_drop] at this
theorem AsS.done {row vs t x : List Int} {j : Nat} {fits : Bool} (h : AsS row vs t j x fits) (hj : fits = true → vs.length ≤ j) : asgO row (vs.zip t) = if fits then some x else none := by
  cases fits with
  | false => simpa using h.no rfl
  | true =>
    have h2 := hj rfl
    have h3 := h.yes rfl
    rw [List.take_of_length_le (by simp; omega)] at h3
    simpa using h3
end Go.Vs


namespace Go.Vs
theorem rpL_d : ∀ l : List D, rpL (fun _ => none) (l.map V.d) = some ((erL l).map V.d)
  | [] => rfl
  | x :: r => by simp only [List.map_cons, rpL, rp, rpL_d r, erL]
theorem rp_agg_d (l : List D) : rp (fun _ => none) (.agg (l.map V.d)) = some (.agg ((erL l).map V.d)) := by simp only [rp, rpL_d, Option.map_some]
end Go.Vs


namespace Go.Vs
end Go.Vs


namespace Go.Vs
end Go.Vs


namespace Go.Vs
/-! ### signed joins: sums of counts by row -/
/-- the sum of the counts of a row in a list of pairs -/
def sW : List (List Int × Int) → List Int → Int
  | [], _ => 0
  | p :: P, r => (if p.1 = r then p.2 else 0) + sW P r
theorem sW_app (P Q : List (List Int × Int)) (r : List Int) : sW (P ++ Q) r = sW P r + sW Q r := by
  induction P with
  | nil => simp [sW]
  | cons p P ih => simp only [List.cons_append, sW, ih]; omega
/-- a sum over the pairs of a list -/
def sumL {α : Type} (f : α → Int) : List α → Int
  | [] => 0
  | a :: l => f a + sumL f l
theorem sumL_congr {α : Type} {f g : α → Int} {l : List α} (h : ∀ a ∈ l, f a = g a) : sumL f l = sumL g l := by
  induction l with
  | nil => rfl
  | cons a l ih => rw [sumL, sumL, h a (by simp), ih fun b hb => h b (List.mem_cons_of_mem _ hb)]
theorem sumL_mul {α : Type} (f : α → Int) (k : Int) (l : List α) : sumL (fun a => f a * k) l = sumL f l * k := by
  induction l with
  | nil => simp [sumL]
  | cons a l ih => simp only [sumL, ih, Int.add_mul]
theorem sW_flat {α : Type} (f : α → List (List Int × Int)) (r : List Int) (l : List α) : sW (l.flatMap f) r = sumL (fun a => sW (f a) r) l := by
  induction l with
  | nil => rfl
  | cons a l ih => simp only [List.flatMap_cons, sW_app, sumL, ih]
theorem sW_sumL (P : List (List Int × Int)) (r : List Int) : sW P r = sumL (fun p => if p.1 = r then p.2 else 0) P := by
  induction P with
  | nil => rfl
  | cons p P ih => rw [sW, sumL, ih]
/-- the join with signs -/
def joinW (u a : List Int) (P : List (List Int × Int)) (b : List Int) (L : List (List Int × Int)) : List (List Int × Int) :=
  P.flatMap fun r => L.filterMap fun s => (glO u a r.1 b s.1).map fun x => (x, r.2 * s.2)
theorem joinW_fst (u a : List Int) (P : List (List Int × Int)) (b : List Int) (L : List (List Int × Int)) : (joinW u a P b L).map Prod.fst = joinL u a (P.map Prod.fst) b (L.map Prod.fst) := by
  rw [joinW, joinL, List.map_flatMap, List.flatMap_map]
  refine congrArg (fun f => List.flatMap f P) (funext fun r => ?_)
  rw [List.map_filterMap, List.filterMap_map]
  refine congrArg (fun f => List.filterMap f L) (funext fun s => ?_)
  simp only [Function.comp_apply, Option.map_map]
  cases glO u a r.1 b s.1 <;> rfl
theorem gl_iff {u a b : List Int} (ha : a.Nodup) (hb : b.Nodup) (hu : ∀ x, x ∈ u ↔ x ∈ a ∨ x ∈ b) {r s : List Int} (hr : r.length = a.length) (hs : s.length = b.length) (β : Int → Int) :
    glO u a r b s = some (u.map β) ↔ r = a.map β ∧ s = b.map β := by
  have h := join_mem (rows := [r]) (list := [s]) ha hb hu (fun x hx => by rw [List.mem_singleton.1 hx]; exact hr) (fun x hx => by rw [List.mem_singleton.1 hx]; exact hs) β
  simp only [joinL, List.flatMap_cons, List.flatMap_nil, List.append_nil, List.mem_filterMap, List.mem_singleton, exists_eq_left] at h
  rw [h]
  constructor
  · rintro ⟨h1, h2⟩; exact ⟨h1.symm, h2.symm⟩
  · rintro ⟨h1, h2⟩; exact ⟨h1.symm, h2.symm⟩
theorem sW_fm {u a b : List Int} (ha : a.Nodup) (hb : b.Nodup) (hu : ∀ x, x ∈ u ↔ x ∈ a ∨ x ∈ b) {r : List Int} (c : Int) (hr : r.length = a.length) (β : Int → Int) :
    ∀ (L : List (List Int × Int)), (∀ s ∈ L, s.1.length = b.length) → sW (L.filterMap fun s => (glO u a r b s.1).map fun x => (x, c * s.2)) (u.map β) = (if r = a.map β then c else 0) * sW L (b.map β)
  | [], _ => by simp [sW]
  | s :: L, hs => by
    have ih := sW_fm ha hb hu c hr β L fun t ht => hs t (List.mem_cons_of_mem _ ht)
    have hg := gl_iff ha hb hu hr (hs s (by simp)) β
    rw [sW, Int.mul_add, ← ih]
    cases hO : glO u a r b s.1 with
    | none =>
      rw [List.filterMap_cons_none (by rw [hO]; rfl)]
      have : ¬ (r = a.map β ∧ s.1 = b.map β) := fun h => by rw [hg.2 h] at hO; cases hO
      by_cases h1 : r = a.map β
      · rw [if_neg (fun e => this ⟨h1, e⟩)]; simp
      · simp [h1]
    | some x =>
      rw [List.filterMap_cons_some (by rw [hO]; rfl), sW]
      rw [hO] at hg
      by_cases hx : x = u.map β
      · obtain ⟨h1, h2⟩ := hg.1 (by rw [hx])
        simp only [hx, h1, h2, if_true]
      · have : ¬ (r = a.map β ∧ s.1 = b.map β) := fun h => hx (by have := hg.2 h; simpa using this)
        simp only [if_neg hx]
        by_cases h1 : r = a.map β
        · rw [if_neg (fun e => this ⟨h1, e⟩)]; simp
        · simp [h1]
theorem sW_join {u a b : List Int} (ha : a.Nodup) (hb : b.Nodup) (hu : ∀ x, x ∈ u ↔ x ∈ a ∨ x ∈ b) {P L : List (List Int × Int)} (hr : ∀ r ∈ P, r.1.length = a.length) (hs : ∀ s ∈ L, s.1.length = b.length) (β : Int → Int) :
    sW (joinW u a P b L) (u.map β) = sW P (a.map β) * sW L (b.map β) := by
  rw [joinW, sW_flat, sW_sumL P, ← sumL_mul]
  exact sumL_congr fun r hm => sW_fm ha hb hu r.2 (hr r hm) β L hs
/-- what a signed join holds -/
structure JnW (as : List (List Int × List (List Int × Int))) (u : List Int) (P : List (List Int × Int)) : Prop where
  pw : u.Pairwise (· < ·)
  mem : ∀ x, x ∈ u ↔ x ∈ as.flatMap Prod.fst
  len : ∀ r ∈ P, r.1.length = u.length
  sum : ∀ β : Int → Int, sW P (u.map β) = as.foldr (fun a n => sW a.2 (a.1.map β) * n) 1
  sup : ∀ β : Int → Int, u.map β ∈ P.map Prod.fst ↔ ∀ a ∈ as, a.1.map β ∈ a.2.map Prod.fst
theorem JnW.zero : JnW [] [] [([], 1)] := ⟨.nil, by simp, by simp, fun β => by simp [sW], fun β => by simp⟩
theorem prod_snoc (β : Int → Int) : ∀ (as : List (List Int × List (List Int × Int))) (a : List Int × List (List Int × Int)),
    (as ++ [a]).foldr (fun a n => sW a.2 (a.1.map β) * n) 1 = as.foldr (fun a n => sW a.2 (a.1.map β) * n) 1 * sW a.2 (a.1.map β)
  | [], a => by simp
  | b :: as, a => by simp only [List.cons_append, List.foldr_cons, prod_snoc β as a, Int.mul_assoc]
theorem joinW_len {u a : List Int} {P : List (List Int × Int)} {b : List Int} {L : List (List Int × Int)} : ∀ r ∈ joinW u a P b L, r.1.length = u.length := fun r hr =>
  join_len r.1 (by rw [← joinW_fst]; exact List.mem_map_of_mem hr)
theorem JnW.step {as : List (List Int × List (List Int × Int))} {u : List Int} {P : List (List Int × Int)} (h : JnW as u P) {vs : List Int} (hv : ∀ v ∈ vs, 0 ≤ v ∧ v < 5) {T L : List (List Int × Int)}
    (hl : ∀ s ∈ L, s.1.length = (aVars vs).length) (hw : ∀ β : Int → Int, sW L ((aVars vs).map β) = sW T (vs.map β)) (hm : ∀ β : Int → Int, (aVars vs).map β ∈ L.map Prod.fst ↔ vs.map β ∈ T.map Prod.fst) :
    JnW (as ++ [(vs, T)]) (uniL u (aVars vs)) (joinW (uniL u (aVars vs)) u P (aVars vs) L) := by
  have hu := uniL_pw (aVars vs) h.pw
  refine ⟨hu.1, fun x => ?_, joinW_len, fun β => ?_, fun β => ?_⟩
  · rw [hu.2, h.mem, List.flatMap_append, List.mem_append, aVars_mem]
    simp only [List.flatMap_cons, List.flatMap_nil, List.append_nil]
    constructor
    · rintro (h | h)
      · exact .inl h
      · exact .inr h.1
    · rintro (h | h)
      · exact .inl h
      · exact .inr ⟨h, hv x h⟩
  · rw [sW_join (pw_nodup h.pw) (pw_nodup (aVars_pw vs)) hu.2 h.len hl, h.sum, hw, prod_snoc]
  · rw [joinW_fst, join_mem (pw_nodup h.pw) (pw_nodup (aVars_pw vs)) hu.2 (fun r hr => by
      obtain ⟨p, hp, rfl⟩ := List.mem_map.1 hr
      exact h.len p hp) (fun s hs => by
      obtain ⟨p, hp, rfl⟩ := List.mem_map.1 hs
      exact hl p hp), h.sup, hm]
    simp only [List.mem_append, List.mem_singleton]
    constructor
    · rintro ⟨h1, h2⟩ b (hb | rfl)
      · exact h1 b hb
      · exact h2
    · exact fun h => ⟨fun b hb => h b (.inl hb), h (vs, T) (.inr rfl)⟩
/-! the walk with counts -/
end Go.Vs


namespace Go.Vs
/-! ### the delta of an atom -/
/-! the lists of the program and of its reference -/
end Go.Vs


namespace Go.Vs
/-! ### lookups behind a delta, and the delta of an atom in both ways -/
end Go.Vs


namespace Go.Vs
/-! ### the delta of an atom: both ways agree -/
end Go.Vs


namespace Go.Vs
/-! ### the delta of an atom: sizes and the answer -/
end Go.Vs


namespace Go.Vs
/-! ### data read deeper by elements only -/
section
variable {S : Nat → Prop} {w : World}
end
theorem lead_dr {σ : St} (s : Nat) {x y : D} (hs : σ.t s = .d x) (hxy : ∀ (S : Nat → Prop) (w : World) (v : Value), DR S w x v → DR S w y v) :
    Lead (fun σ' => σ' = { σ with t := upd σ.t s (.d y) }) σ := by
  intro A0 N w0 ρ a w h
  refine ⟨{ σ with t := upd σ.t s (.d y) }, ρ, ⟨h.below, h.hN, h.key, h.norow, h.hG, h.hB, h.hs, h.hs0, h.defers, h.size, fun i => ?_, h.mem, h.inj⟩, rfl⟩
  simp only [upd]
  split
  · rename_i hi
    subst hi
    have hv := h.tmps i
    rw [hs] at hv
    simp only [VR] at hv ⊢
    exact hxy _ _ _ hv
  · exact h.tmps i
theorem lead_er {σ : St} (s : Nat) {x : D} (hs : σ.t s = .d x) : Lead (fun σ' => σ' = { σ with t := upd σ.t s (.d x.er) }) σ := lead_dr s hs fun _ _ _ h => h.er
/-! ### the loops of the delta of an atom -/
/-! ### the loops of the reference -/
end Go.Vs


namespace Go.Vs
/-! ### the lists that the reference walks -/
end Go.Vs


namespace Go.Vs
/-- the rows of a row of ours are read by their elements -/
theorem lead_rowE {σ : St} (k : Nat) {T sz : Nat} {es : List (List D)} (hm : σ.m k = some (.row T sz es)) : Lead (fun σ' => σ' = { σ with m := upd σ.m k (some (.row T sz (erLL es))) }) σ := by
  intro A0 N w0 ρ a w h
  refine ⟨_, ρ, h.setBlk (b' := .row T sz (erLL es)) hm rfl h.below (Nat.le_refl _) (fun _ _ => rfl) (fun j => ?_) (fun hS _ => ?_), rfl⟩
  · unfold KC
    by_cases hj : j = k
    · subst hj
      simp only [upd, if_true]
      exact ⟨trivial, T, es, hm, by rw [erLL_len]; exact Nat.le_refl _⟩
    · simp only [upd, if_neg hj]
      cases hb : σ.m j with
      | none => trivial
      | some b => cases b with
        | box cs => exact ⟨trivial, cs, rfl⟩
        | row T' sz' es' => exact ⟨trivial, T', es', rfl, Nat.le_refl _⟩
  · have hb := h.mem k _ hm
    simp only [BlkR] at hb ⊢
    refine ⟨hb.1, ?_⟩
    cases hr : ρ k with
    | none =>
      rw [hr] at hb
      have := hb.2
      simp only at this
      subst this
      simp [erLL]
    | some p =>
      obtain ⟨g, cap⟩ := p
      rw [hr] at hb
      obtain ⟨_, h1, h2, h3, cur, h4, h5, h6⟩ := hb
      refine ⟨h1, h2, by rw [erLL_len]; exact h3, cur, h4, h5, fun i e he => ?_⟩
      obtain ⟨e0, he0, rfl⟩ := erLL_get es i e he
      obtain ⟨h7, h8⟩ := h6 i e0 he0
      refine ⟨by rw [erL_len]; exact h7, fun j u hu => ?_⟩
      obtain ⟨u0, hu0, rfl⟩ := erL_get e0 j u hu
      obtain ⟨v, hv, hd⟩ := h8 j u0 hu0
      exact ⟨v, hv, (hd.mono (fun g hg => hS g hg) (fun _ _ => rfl)).er⟩
end Go.Vs


namespace Go.Vs
end Go.Vs


namespace Go.Vs
/-! ### a matrix of truth values, laid flat -/
def mtx (n : Nat) (f : Int → Int → Bool) : List Bool := (List.range (n * n)).map fun k => f ((k / n : Nat) : Int) ((k % n : Nat) : Int)
@[simp] theorem mtx_len (n : Nat) (f : Int → Int → Bool) : (mtx n f).length = n * n := by simp [mtx]
theorem mx_ix {n a b : Nat} (hn : n ≤ 5) (ha : a < n) (hb : b < n) : a * n + b < n * n ∧ a * n ≤ 20 := by
  have h1 : a * n ≤ (n - 1) * n := Nat.mul_le_mul_right n (by omega)
  have h2 : (n - 1) * n + n = n * n := by
    have : (n - 1 + 1) * n = n * n := by rw [show n - 1 + 1 = n by omega]
    rw [← this, Nat.add_mul]; omega
  have h3 : n * n ≤ 5 * n := Nat.mul_le_mul_right n hn
  refine ⟨by omega, ?_⟩
  have h4 : (n - 1) * n ≤ 4 * n := Nat.mul_le_mul_right n (by omega)
  omega
theorem mx_sq {n : Nat} (hn : n ≤ 5) : n * n ≤ 25 := by
  have h3 : n * n ≤ 5 * n := Nat.mul_le_mul_right n hn
  omega
theorem mx_div {n a b : Nat} (hb : b < n) : (a * n + b) / n = a ∧ (a * n + b) % n = b := by
  constructor
  · rw [Nat.add_comm, Nat.add_mul_div_right _ _ (by omega), Nat.div_eq_of_lt hb]; omega
  · rw [Nat.add_comm, Nat.add_mul_mod_self_right, Nat.mod_eq_of_lt hb]
theorem mtx_get {n a b : Nat} {f : Int → Int → Bool} (hb : b < n) (h : a * n + b < (mtx n f).length) : (mtx n f)[a * n + b] = f a b := by
  simp only [mtx, List.getElem_map, List.getElem_range, (mx_div hb).1, (mx_div hb).2]
theorem mtx_congr {n : Nat} {f g : Int → Int → Bool} (h : ∀ a b : Nat, a < n → b < n → f a b = g a b) : mtx n f = mtx n g := by
  refine List.map_congr_left fun k hk => ?_
  rw [List.mem_range] at hk
  have hn : 0 < n := by
    rcases Nat.eq_zero_or_pos n with h0 | h0
    · subst h0; simp at hk
    · exact h0
  exact h _ _ (Nat.div_lt_of_lt_mul hk) (Nat.mod_lt _ hn)
theorem mtx_set {n a b : Nat} {f g : Int → Int → Bool} {c : Bool} (hb : b < n) (hc : g a b = c) (h : ∀ x y : Nat, x < n → y < n → ¬ (x = a ∧ y = b) → g x y = f x y) :
    (mtx n f).set (a * n + b) c = mtx n g := by
  refine List.ext_getElem (by simp) fun k h1 h2 => ?_
  rw [List.getElem_set]
  simp only [List.length_set, mtx_len] at h1
  by_cases e : a * n + b = k
  · subst e
    rw [if_pos rfl, mtx_get hb, hc]
  · rw [if_neg e]
    simp only [mtx, List.getElem_map, List.getElem_range]
    have hn : 0 < n := by omega
    refine (h _ _ (Nat.div_lt_of_lt_mul h1) (Nat.mod_lt _ hn) fun he => e ?_).symm
    rw [← he.1, ← he.2, Nat.mul_comm]; exact Nat.div_add_mod k n
/-! what the reference fills in first -/
def jnA (q : PQuery) (i : Nat) (x y : Int) : Bool := decide (x < i) && nbrB q x y
def jnB (q : PQuery) (i : Nat) (l : List Int) (j : Nat) (x y : Int) : Bool := jnA q i x y || (decide (x = i) && (l.take j).contains y)
theorem jnA_zero (q : PQuery) (n : Nat) : mtx n (jnA q 0) = mtx n fun _ _ => false := mtx_congr fun a b _ _ => by
  have : ¬ ((a : Int) < (0 : Nat)) := by omega
  simp only [jnA, decide_eq_false this, Bool.false_and]
theorem jnB_zero (q : PQuery) (i n : Nat) (l : List Int) : mtx n (jnB q i l 0) = mtx n (jnA q i) := mtx_congr fun a b _ _ => by simp [jnB]
theorem jnA_all (q : PQuery) (o : List Int) (n : Nat) : mtx n (jnA q n) = mtx n (dcM q o 0) := mtx_congr fun a b ha _ => by
  have : (a : Int) < (n : Nat) := by omega
  simp only [jnA, decide_eq_true this, Bool.true_and, dcM]
theorem jnB_step {q : PQuery} {i n j b : Nat} {l : List Int} (hj : j < l.length) (hb : l[j] = (b : Int)) (hbn : b < n) : (mtx n (jnB q i l j)).set (i * n + b) true = mtx n (jnB q i l (j + 1)) := by
  refine mtx_set hbn ?_ fun x y _ _ h => ?_
  · simp only [jnB, List.take_succ_eq_append_getElem hj, hb]
    simp
  · simp only [jnB, List.take_succ_eq_append_getElem hj, hb]
    by_cases e : (x : Int) = i
    · have : ¬ (y : Int) = b := fun e2 => h ⟨by omega, by omega⟩
      congr 2
      rw [Bool.eq_iff_iff]
      simp [show ¬ y = b by omega]
    · simp [show ¬ x = i by omega]
theorem jnB_all {q : PQuery} {i n : Nat} (hq : queryOk q = true) (hn : q.n = n) (hi : i < n) : mtx n (jnB q i (nbrL q i) (nbrL q i).length) = mtx n (jnA q (i + 1)) := by
  refine mtx_congr fun x y hx hy => ?_
  rw [jnB, List.take_length, nbrL, if_pos hq, jnA, jnA]
  by_cases e : (x : Int) = i
  · have hx' : x = i := by omega
    subst hx'
    rw [decide_eq_false (show ¬ (x : Int) < (x : Nat) by omega), decide_eq_true (show (x : Int) < ((x + 1 : Nat) : Int) by omega)]
    simp only [Bool.false_and, Bool.false_or, decide_true, Bool.true_and]
    rw [Bool.eq_iff_iff, List.contains_iff_mem, List.mem_filter, rangeI_mem]
    constructor
    · rintro ⟨_, h⟩; exact h
    · intro h; exact ⟨by rw [hn]; omega, h⟩
  · rw [decide_eq_false e, Bool.false_and, Bool.or_false]
    congr 2
    apply propext; omega
/-! what the reference fills in for a bag -/
def ffA (bag : List Int) (f : Int → Int → Bool) (a : Nat) (x y : Int) : Bool := f x y || ((bag.take a).contains x && bag.contains y && !(decide (x = y)))
def ffB (bag : List Int) (f : Int → Int → Bool) (a b : Nat) (x y : Int) : Bool := ffA bag f a x y || (decide (x = bag.getD a 0) && (bag.take b).contains y && !(decide (x = y)))
theorem ffA_zero (bag : List Int) (f : Int → Int → Bool) (n : Nat) : mtx n (ffA bag f 0) = mtx n f := mtx_congr fun a b _ _ => by simp [ffA]
theorem ffB_zero (bag : List Int) (f : Int → Int → Bool) (n a : Nat) : mtx n (ffB bag f a 0) = mtx n (ffA bag f a) := mtx_congr fun x y _ _ => by simp [ffB]
theorem ffB_all {bag : List Int} (f : Int → Int → Bool) (n : Nat) {a : Nat} (ha : a < bag.length) : mtx n (ffB bag f a bag.length) = mtx n (ffA bag f (a + 1)) := mtx_congr fun x y _ _ => by
  simp only [ffB, ffA, List.take_length, getD_el _ ha, List.take_succ_eq_append_getElem ha]
  rw [Bool.eq_iff_iff]
  simp only [Bool.or_eq_true, Bool.and_eq_true, List.contains_iff_mem, List.mem_append, List.mem_singleton, decide_eq_true_eq]
  constructor
  · rintro ((h | ⟨⟨h1, h2⟩, h3⟩) | ⟨⟨h1, h2⟩, h3⟩)
    · exact .inl h
    · exact .inr ⟨⟨.inl h1, h2⟩, h3⟩
    · exact .inr ⟨⟨.inr h1, h2⟩, h3⟩
  · rintro (h | ⟨⟨h1 | h1, h2⟩, h3⟩)
    · exact .inl (.inl h)
    · exact .inl (.inr ⟨⟨h1, h2⟩, h3⟩)
    · exact .inr ⟨⟨h1, h2⟩, h3⟩
theorem nodup_inj {l : List Int} (h : l.Nodup) {i j : Nat} (hi : i < l.length) (hj : j < l.length) (e : l[i] = l[j]) : i = j := by
  rw [List.Nodup, List.pairwise_iff_getElem] at h
  rcases Nat.lt_trichotomy i j with h1 | h1 | h1
  · exact absurd e (h i j hi hj h1)
  · exact h1
  · exact absurd e.symm (h j i hj hi h1)
theorem ffB_step {bag : List Int} (hnd : bag.Nodup) (f : Int → Int → Bool) {n a b u v : Nat} (ha : a < bag.length) (hb : b < bag.length) (hu : bag[a] = (u : Int)) (hv : bag[b] = (v : Int)) (hvn : v < n) {c : Bool}
    (hc : c = (ffB bag f a b u v || !(decide (a = b)))) : (mtx n (ffB bag f a b)).set (u * n + v) c = mtx n (ffB bag f a (b + 1)) := by
  have hab : decide (a = b) = decide ((u : Int) = v) := by
    congr 1; apply propext
    rw [← hu, ← hv]
    exact ⟨fun e => by subst e; rfl, fun e => nodup_inj hnd ha hb e⟩
  refine mtx_set hvn ?_ fun x y _ _ h => ?_
  · rw [hc, hab]
    simp only [ffB, getD_el _ ha, hu, List.take_succ_eq_append_getElem hb, hv]
    rw [Bool.eq_iff_iff]
    simp only [Bool.or_eq_true, Bool.and_eq_true, List.contains_iff_mem, List.mem_append, List.mem_singleton, decide_eq_true_eq]
    constructor
    · rintro (h | ⟨⟨h1, _⟩, h3⟩)
      · exact .inl (.inl h)
      · exact .inr h3
    · rintro ((h | ⟨⟨h1, h2⟩, h3⟩) | h)
      · exact .inl h
      · exact .inr ⟨⟨by trivial, .inr (by trivial)⟩, h3⟩
      · exact .inr ⟨⟨by trivial, .inr (by trivial)⟩, h⟩
  · simp only [ffB, getD_el _ ha, hu, List.take_succ_eq_append_getElem hb, hv]
    rw [Bool.eq_iff_iff]
    simp only [Bool.or_eq_true, Bool.and_eq_true, List.contains_iff_mem, List.mem_append, List.mem_singleton, decide_eq_true_eq]
    constructor
    · rintro (h1 | ⟨⟨h1, h2 | h2⟩, h3⟩)
      · exact .inl h1
      · exact .inr ⟨⟨h1, h2⟩, h3⟩
      · exact absurd ⟨by omega, by omega⟩ h
    · rintro (h1 | ⟨⟨h1, h2⟩, h3⟩)
      · exact .inl h1
      · exact .inr ⟨⟨h1, .inl h2⟩, h3⟩
theorem ffA_all {q : PQuery} {o : List Int} {n i : Nat} (hn : q.n = n) : mtx n (ffA (dcBag q o i) (dcM q o i) (dcBag q o i).length) = mtx n (dcM q o (i + 1)) := mtx_congr fun x y hx hy => by
  have hm : ∀ z : Nat, z < n → (dcBag q o i).contains (z : Int) = dcI q o i z := fun z hz => by
    rw [Bool.eq_iff_iff, List.contains_iff_mem, dcBag, List.mem_filter, rangeI_mem]
    constructor
    · exact fun h => h.2
    · exact fun h => ⟨by rw [hn]; omega, h⟩
  rw [ffA, List.take_length, dcM_succ, hm x hx, hm y hy]
  cases dcM q o i x y <;> cases dcI q o i x <;> cases dcI q o i y <;> simp
/-! the search for the parent -/
def upV (o bag : List Int) (i : Nat) : Nat := match fstIn o bag (o.length - (i + 1)) (i + 1) with
  | some k => k
  | none => i + 1
theorem dcUp_eq (q : PQuery) (o : List Int) (i : Nat) : dcUp q o i = if i + 1 = o.length then -1 else ((upV o (dcBag q o i) i : Nat) : Int) := by
  rw [dcUp, upV]
  split
  · rfl
  · cases fstIn o (dcBag q o i) (o.length - (i + 1)) (i + 1) <;> rfl
/-- the search from the left -/
structure UpI (o bag : List Int) (i : Nat) (p : Nat × Bool × Nat) : Prop where
  le : i + 1 ≤ p.2.2 ∧ p.2.2 ≤ o.length
  go : p.2.1 = true → p.1 = i + 1 ∧ fstIn o bag (o.length - (i + 1)) (i + 1) = fstIn o bag (o.length - p.2.2) p.2.2
  fd : p.2.1 = false → p.1 = upV o bag i
theorem UpI.zero {o bag : List Int} {i : Nat} (h : i < o.length) : UpI o bag i (i + 1, true, i + 1) := ⟨⟨Nat.le_refl _, h⟩, fun _ => ⟨rfl, rfl⟩, nofun⟩
theorem fst_at {o bag : List Int} {k : Nat} (h : k < o.length) : fstIn o bag (o.length - k) k = if bag.contains o[k] then some k else fstIn o bag (o.length - (k + 1)) (k + 1) := by
  rw [show o.length - k = (o.length - (k + 1)) + 1 by omega, fstIn, getD_el _ h]
theorem UpI.hit {o bag : List Int} {i u k : Nat} (h : UpI o bag i (u, true, k)) (hk : k < o.length) (hb : bag.contains o[k] = true) : UpI o bag i (k, false, k + 1) := by
  have h1 := h.le
  have h2 := (h.go rfl).2
  simp only at h1 h2
  refine ⟨⟨by simp only; omega, hk⟩, nofun, fun _ => ?_⟩
  rw [fst_at hk, if_pos hb] at h2
  rw [upV, h2]
theorem UpI.miss {o bag : List Int} {i u k : Nat} (h : UpI o bag i (u, true, k)) (hk : k < o.length) (hb : bag.contains o[k] = false) : UpI o bag i (u, true, k + 1) := by
  have h1 := h.le
  have h2 := h.go rfl
  simp only at h1 h2
  refine ⟨⟨by simp only; omega, hk⟩, fun _ => ⟨h2.1, ?_⟩, nofun⟩
  have h3 := h2.2
  rw [fst_at hk, if_neg (by simp only [hb]; simp)] at h3
  exact h3
theorem UpI.done {o bag : List Int} {i u k : Nat} {s : Bool} (h : UpI o bag i (u, s, k)) (hk : ¬ (k < o.length ∧ s = true)) : u = upV o bag i := by
  cases s with
  | false => exact h.fd rfl
  | true =>
    have h1 := h.le
    have h2 := h.go rfl
    simp only at h1 h2
    have hk' : k = o.length := by
      by_cases e : k < o.length
      · exact absurd ⟨e, rfl⟩ hk
      · omega
    rw [upV, h2.2, hk', Nat.sub_self, fstIn]; exact h2.1
theorem jn_rep (q : PQuery) {n S : Nat} (h : S = n * n) : List.replicate S [D.bool false] = (mtx n (jnA q 0)).map cB := by
  rw [jnA_zero, h]
  refine List.ext_getElem (by simp) fun k h1 h2 => ?_
  simp [mtx, cB]
end Go.Vs


namespace Go.Vs
theorem dcM0 (q : PQuery) (o : List Int) : dcM q o 0 = nbrB q := rfl
theorem ids_B : ∀ l : List Bool, idsLL (l.map cB) = []
  | [] => rfl
  | b :: l => by simp [idsLL, idsL, D.ids, cB, ids_B l]
end Go.Vs


namespace Go.Vs
/-! ### what the program keeps: who stands near whom -/
def nbI (q : PQuery) (N i : Nat) : List (List Int) := (List.range N).map fun v => if v < i then nbrL q (v : Nat) else []
def nrI (q : PQuery) (o : List Int) (N i : Nat) : List (List Int) := (List.range N).map fun v => dcNear q o i (v : Nat)
def nrJ (q : PQuery) (o : List Int) (N i j : Nat) : List (List Int) := (List.range N).map fun v => if ((dcLat q o i).take j).contains ((v : Nat) : Int) then dcNear q o (i + 1) (v : Nat) else dcNear q o i (v : Nat)
@[simp] theorem nbI_len (q : PQuery) (N i : Nat) : (nbI q N i).length = N := by simp [nbI]
@[simp] theorem nrI_len (q : PQuery) (o : List Int) (N i : Nat) : (nrI q o N i).length = N := by simp [nrI]
@[simp] theorem nrJ_len (q : PQuery) (o : List Int) (N i j : Nat) : (nrJ q o N i j).length = N := by simp [nrJ]
theorem nbI_zero (q : PQuery) (N : Nat) : nbI q N 0 = List.replicate N [] := by
  refine List.ext_getElem (by simp) fun k h1 h2 => ?_
  simp [nbI]
theorem nbI_set (q : PQuery) {N i : Nat} (_h : i < N) : (nbI q N i).set i (nbrL q i) = nbI q N (i + 1) := by
  refine List.ext_getElem (by simp) fun k h1 h2 => ?_
  rw [List.getElem_set]
  simp only [nbI, List.getElem_map, List.getElem_range]
  by_cases e : i = k
  · subst e; rw [if_pos rfl, if_pos (by omega)]
  · rw [if_neg e]
    by_cases e2 : k < i
    · rw [if_pos e2, if_pos (by omega)]
    · rw [if_neg e2, if_neg (by omega)]
theorem nbI_all {q : PQuery} (hq : queryOk q = true) (o : List Int) (N : Nat) : nbI q N N = nrI q o N 0 := by
  refine List.map_congr_left fun v hv => ?_
  rw [List.mem_range] at hv
  rw [if_pos hv, nbrL, if_pos hq]; rfl
theorem nrI_get {q : PQuery} {o : List Int} {N i c : Nat} (h : c < (nrI q o N i).length) : (nrI q o N i)[c] = dcNear q o i (c : Nat) := by simp [nrI]
theorem nrJ_zero (q : PQuery) (o : List Int) (N i : Nat) : nrJ q o N i 0 = nrI q o N i := List.map_congr_left fun v _ => by simp
theorem lat_nodup (q : PQuery) (o : List Int) (i : Nat) : (dcLat q o i).Nodup := pw_nodup filter_pw
theorem take_fresh {l : List Int} (h : l.Nodup) {j : Nat} (hj : j < l.length) : l[j] ∉ l.take j := by
  have h2 := h
  rw [← List.take_append_drop j l, List.drop_eq_getElem_cons hj] at h2
  obtain ⟨_, _, h3⟩ := List.nodup_append.1 h2
  exact fun hm => h3 _ hm l[j] (by simp only [List.mem_cons, true_or]) rfl
theorem nrJ_get {q : PQuery} {o : List Int} {N i j c : Nat} (hj : j < (dcLat q o i).length) (hc : (dcLat q o i)[j] = (c : Int)) (h : c < (nrJ q o N i j).length) : (nrJ q o N i j)[c] = dcNear q o i (c : Nat) := by
  simp only [nrJ, List.getElem_map, List.getElem_range]
  rw [if_neg]
  have := take_fresh (lat_nodup q o i) hj
  rw [hc] at this
  simpa using this
theorem nrJ_set {q : PQuery} {o : List Int} {N i j c : Nat} (hj : j < (dcLat q o i).length) (hc : (dcLat q o i)[j] = (c : Int)) : (nrJ q o N i j).set c (dcNear q o (i + 1) (c : Nat)) = nrJ q o N i (j + 1) := by
  refine List.ext_getElem (by simp) fun k h1 h2 => ?_
  rw [List.getElem_set]
  simp only [nrJ, List.getElem_map, List.getElem_range, List.take_succ_eq_append_getElem hj, hc]
  by_cases e : c = k
  · subst e; rw [if_pos rfl, if_pos (by simp)]
  · rw [if_neg e]
    congr 1
    rw [List.contains_iff_mem, List.contains_iff_mem, List.mem_append, List.mem_singleton]
    apply propext
    exact ⟨.inl, fun h => h.resolve_right fun e2 => e (by omega)⟩
theorem nrJ_all {q : PQuery} {o : List Int} (h : Od q o) {N i : Nat} (hN : q.n = N) (hi : i < o.length) : nrJ q o N i (dcLat q o i).length = nrI q o N (i + 1) := by
  refine List.map_congr_left fun v hv => ?_
  rw [List.mem_range] at hv
  rw [List.take_length]
  split
  · rfl
  · rename_i hc
    refine (df_same h hi (by omega) (by omega) fun hm => hc ?_).symm
    simpa using hm
/-! the parent, looked for from the right -/
def upR (o l : List Int) (i k : Nat) : Int := match fstIn o l (o.length - (k + 1)) (k + 1) with
  | some j => ((j : Nat) : Int)
  | none => if i + 1 = o.length then -1 else ((i + 1 : Nat) : Int)
theorem upR_top {o l : List Int} {i : Nat} (h : i < o.length) : upR o l i (o.length - 1) = if i + 1 = o.length then -1 else ((i + 1 : Nat) : Int) := by
  rw [upR, show o.length - (o.length - 1 + 1) = 0 by omega, fstIn]
theorem upR_step {o l : List Int} {i k : Nat} (hk : k < o.length) (h0 : 0 < k) : upR o l i (k - 1) = if l.contains o[k] then ((k : Nat) : Int) else upR o l i k := by
  rw [upR, show k - 1 + 1 = k by omega, fst_at hk]
  cases l.contains o[k] <;> rfl
theorem fst_congr {o l l' : List Int} : ∀ (m k : Nat), k + m ≤ o.length → (∀ j (hj : j < o.length), k ≤ j → l.contains o[j] = l'.contains o[j]) → fstIn o l m k = fstIn o l' m k
  | 0, k, _, _ => rfl
  | m + 1, k, h, hc => by
    rw [fstIn, fstIn, getD_el _ (show k < o.length by omega), hc k (by omega) (Nat.le_refl _), fst_congr m (k + 1) (by omega) fun j hj h1 => hc j hj (by omega)]
theorem upR_end {q : PQuery} {o : List Int} (h : Od q o) {i : Nat} (hi : i < o.length) : upR o (dcLat q o i) i i = dcUp q o i := by
  have e : fstIn o (dcLat q o i) (o.length - (i + 1)) (i + 1) = fstIn o (dcBag q o i) (o.length - (i + 1)) (i + 1) := by
    refine fst_congr _ _ (by omega) fun j hj hij => ?_
    rw [Bool.eq_iff_iff, List.contains_iff_mem, List.contains_iff_mem, bag_mem h hi]
    constructor
    · exact .inr
    · rintro (e | e)
      · have := nodup_inj h.nd hj hi e; omega
      · exact e
  rw [upR, dcUp_eq, upV, e]
  by_cases e2 : i + 1 = o.length
  · rw [if_pos e2, show o.length - (i + 1) = 0 by omega, fstIn]; simp only; rw [if_pos e2]
  · simp only [if_neg e2]
    cases fstIn o (dcBag q o i) (o.length - (i + 1)) (i + 1)
    · rfl
    · rfl
end Go.Vs


namespace Go.Vs
theorem wp_dcP (q : PQuery) (o : List Int) : wpTDec (dcP q o) ≤ 100 := by
  cases hok : ordOk q o
  · rw [dcP, if_neg (by rw [hok]; simp)]; simp [wpTDec, wpS]
  have od := od_of hok
  have hol := od.len
  have h5 := od.n5
  rw [dcP, if_pos hok]
  have h1 := wpS_le (w := wpS wpI) (k := 5) (l := (List.range o.length).map (dcBag q o)) fun a ha => by
    obtain ⟨i, _, rfl⟩ := List.mem_map.1 ha
    have := List.length_filter_le (dcI q o i) (rangeI q.n.toNat)
    rw [rangeI_len] at this
    rw [wpS_I]; simp only [dcBag]; omega
  simp only [List.length_map, List.length_range] at h1
  have hm : o.length * 5 ≤ 25 := by omega
  simp only [wpTDec, wpS_I, List.length_map, List.length_range]; omega
end Go.Vs

