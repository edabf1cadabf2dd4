/-
  Q1A4: a part of a proof of this seat: the value-level semantics of Go code without maps, its walk rules, the frame of a row, facts of types, schedules, walks, plain lemmas (Pl31 Pl32 Pl33 Pl34 Pl35 Pl36 Pl37 Pl38 Pl64 Pl65 Pl66). It holds of every program and state that its hypotheses name.
-/
import Derived.Test.YtepiehnhajnebaaQ1A3
set_option linter.unusedSimpArgs false
set_option linter.unusedVariables false
set_option linter.unnecessarySimpa false
namespace Go.Vs
/-! ### disks -/
def rdF (k : List PFile) (nm : List UInt8) : Option (List UInt8) := (k.find? fun f => decide (f.name = nm)).map (·.data)
def rdD (k : List PFile) (nm : List UInt8) : List UInt8 := (rdF k nm).getD []
def rdB (k : List PFile) (nm : List UInt8) : Bool := (rdF k nm).isSome
structure RdI (k : List PFile) (nm : List UInt8) (i : Nat) : Prop where
  le : i ≤ k.length
  eq : rdF (k.drop i) nm = rdF k nm
theorem RdI.zero {k : List PFile} {nm : List UInt8} : RdI k nm 0 := ⟨by omega, rfl⟩
theorem RdI.miss {k : List PFile} {nm : List UInt8} {i : Nat} (h : RdI k nm i) (hi : i < k.length) (e : k[i].name ≠ nm) : RdI k nm (i + 1) := by
  refine ⟨hi, ?_⟩
  rw [← h.eq, List.drop_eq_getElem_cons hi, rdF, rdF, List.find?_cons_of_neg (by simpa using e)]
theorem RdI.hit {k : List PFile} {nm : List UInt8} {i : Nat} (h : RdI k nm i) (hi : i < k.length) (e : k[i].name = nm) : rdF k nm = some k[i].data := by
  rw [← h.eq, List.drop_eq_getElem_cons hi, rdF, List.find?_cons_of_pos (by simpa using e)]; rfl
theorem RdI.done {k : List PFile} {nm : List UInt8} {i : Nat} (h : RdI k nm i) (hi : k.length ≤ i) : rdF k nm = none := by
  rw [← h.eq, List.drop_of_length_le hi]; rfl
theorem rdF_mem {k : List PFile} {nm s : List UInt8} (h : rdF k nm = some s) : ∃ f ∈ k, f.name = nm ∧ f.data = s := by
  unfold rdF at h
  cases hf : k.find? fun f => decide (f.name = nm) with
  | none => simp [hf] at h
  | some f =>
    simp only [hf, Option.map_some, Option.some.injEq] at h
    exact ⟨f, List.mem_of_find?_eq_some hf, by simpa using List.find?_some hf, h⟩
theorem rdD_len {k : List PFile} {nm : List UInt8} {n : Nat} (h : ∀ f ∈ k, f.data.length ≤ n) : (rdD k nm).length ≤ n := by
  unfold rdD
  cases hf : rdF k nm with
  | none => simp
  | some s =>
    obtain ⟨f, hm, _, rfl⟩ := rdF_mem hf
    exact h f hm
/-- the disk's names ascend -/
def dskAt (l : List PFile) (j : Nat) : Bool := decide (j = 0) || Op.bytesLess (l.getD (j - 1) default).name (l.getD j default).name
def dskOk (l : List PFile) : Bool := (List.range l.length).all (dskAt l)
structure DskI (l : List PFile) (i : Nat) : Prop where
  lo : 1 ≤ i
  ok : ∀ j, j < i → j < l.length → dskAt l j = true
theorem DskI.one {l : List PFile} : DskI l 1 := ⟨by omega, fun j h1 _ => by simp [dskAt, show j = 0 by omega]⟩
theorem DskI.step {l : List PFile} {i : Nat} (h : DskI l i) (e : dskAt l i = true) : DskI l (i + 1) :=
  ⟨by omega, fun j h1 h2 => by
    by_cases hj : j < i
    · exact h.ok j hj h2
    · rw [show j = i by omega]; exact e⟩
theorem DskI.done {l : List PFile} {i : Nat} (h : DskI l i) (hi : l.length ≤ i) : dskOk l = true := by
  simp only [dskOk, List.all_eq_true, List.mem_range]
  exact fun j hj => h.ok j (by omega) hj
theorem dskOk_bad {l : List PFile} {i : Nat} (hi : i < l.length) (e : dskAt l i = false) : dskOk l = false := by
  cases h : dskOk l
  · rfl
  · simp only [dskOk, List.all_eq_true, List.mem_range] at h
    rw [h i hi] at e; cases e
theorem dskAt_eq {l : List PFile} {i : Nat} (h1 : 1 ≤ i) (hi : i < l.length) : dskAt l i = Op.bytesLess (l[i - 1]'(by omega)).name l[i].name := by
  rw [dskAt, getD_el _ hi, getD_el _ (show i - 1 < l.length by omega)]
  simp [show i ≠ 0 by omega]
/-! ### loading a version -/
def hdNm (v : Int) : List UInt8 := [109] ++ decZ v
def lnNm (ln : List UInt8) : List UInt8 := (cutB 61 ln).getD 0 []
def tabO (k : List PFile) (v : Int) (ln : List UInt8) : Option PTab := if rdB k (runNm v (lnNm ln)) && prsB (rdD k (runNm v (lnNm ln))) then some ⟨lnNm ln, prsR (rdD k (runNm v (lnNm ln)))⟩ else none
def lnCk (ln s : List UInt8) : Bool := decide ((cutB 61 ln).length = 2) && decide (decZ (ckS s) = (cutB 61 ln).getD 1 [])
def tabS (k : List PFile) (v : Int) (ln : List UInt8) : Option PTab := if lnCk ln (rdD k (runNm v (lnNm ln))) then tabO k v ln else none
def tabsM (f : List UInt8 → Option PTab) : List (List UInt8) → Option (List PTab)
  | [] => some []
  | x :: r => match f x with
    | none => none
    | some t => (tabsM f r).map (t :: ·)
structure TbI (f : List UInt8 → Option PTab) (ls : List (List UInt8)) (i : Nat) (acc : List PTab) : Prop where
  le : i ≤ ls.length
  eq : tabsM f ls = (tabsM f (ls.drop i)).map (acc ++ ·)
  len : acc.length = i
theorem TbI.zero {f : List UInt8 → Option PTab} {ls : List (List UInt8)} : TbI f ls 0 [] := ⟨by omega, by simp, rfl⟩
theorem TbI.step {f : List UInt8 → Option PTab} {ls : List (List UInt8)} {i : Nat} {acc : List PTab} (h : TbI f ls i acc) (hi : i < ls.length) {t : PTab} (e : f ls[i] = some t) : TbI f ls (i + 1) (acc ++ [t]) := by
  refine ⟨hi, ?_, by simp [h.len]⟩
  rw [h.eq, List.drop_eq_getElem_cons hi, tabsM, e]
  simp only [Option.map_map, Function.comp_def, List.append_assoc, List.singleton_append]
theorem TbI.bad {f : List UInt8 → Option PTab} {ls : List (List UInt8)} {i : Nat} {acc : List PTab} (h : TbI f ls i acc) (hi : i < ls.length) (e : f ls[i] = none) : tabsM f ls = none := by
  rw [h.eq, List.drop_eq_getElem_cons hi, tabsM, e]; rfl
theorem TbI.done {f : List UInt8 → Option PTab} {ls : List (List UInt8)} {i : Nat} {acc : List PTab} (h : TbI f ls i acc) (hi : ls.length ≤ i) : tabsM f ls = some acc := by
  rw [h.eq, List.drop_of_length_le hi, tabsM]; simp
/-- the manifest's lines but for the last -/
def lns (h : List UInt8) : List (List UInt8) := (cutB 10 h).dropLast
theorem lns_len (h : List UInt8) : (lns h).length + 1 = (cutB 10 h).length := by
  have := cutB_pos 10 h
  rw [lns, List.length_dropLast]; omega
def headEq (ts : List PTab) (h : List UInt8) : Bool := decide (headTx ts ++ decZ (ckS (headTx ts)) = h)
def loadS (k : List PFile) (v : Int) : Option PDb :=
  if rdB k (hdNm v) then match tabsM (tabS k v) (lns (rdD k (hdNm v))) with
    | none => none
    | some ts => if verB ⟨ts⟩ v && headEq ts (rdD k (hdNm v)) then some ⟨ts⟩ else none
  else none
def fileOk (k : List PFile) (f : PFile) : Bool := rdB k f.name && decide (rdD k f.name = f.data)
def loadI (k : List PFile) (v : Int) : Option PDb :=
  if rdB k (hdNm v) then match tabsM (tabO k v) (lns (rdD k (hdNm v))) with
    | none => none
    | some ts => if verB ⟨ts⟩ v && (verFs ⟨ts⟩ v).all (fileOk k) then some ⟨ts⟩ else none
  else none
def headL (t : PTab) : List UInt8 := t.name ++ 61 :: decZ (ckS (fmtRel t.rel))
theorem name_no {t : PTab} (h : tabOk t = true) {c : UInt8} (hc : c.toNat < 97) : c ∉ t.name := by
  intro hm
  simp only [tabOk, nameOk, Bool.and_eq_true, List.all_eq_true] at h
  have := h.1.1.1.2 c hm
  simp only [lowB, decide_eq_true_eq] at this
  omega
theorem cut_headL {t : PTab} (h : tabOk t = true) : cutB 61 (headL t) = [t.name, decZ (ckS (fmtRel t.rel))] ∧ (10 : UInt8) ∉ headL t := by
  refine ⟨?_, ?_⟩
  · rw [headL, cutB_mid (name_no h (by decide)), cutB_no (decZ_no _ (by decide) (by decide))]
  · simp only [headL, List.mem_append, List.mem_cons, not_or]
    exact ⟨name_no h (by decide), by decide, decZ_no _ (by decide) (by decide)⟩
theorem cut_head : ∀ (ts : List PTab), (∀ t ∈ ts, tabOk t = true) → ∀ n : Int, cutB 10 (headTx ts ++ decZ n) = ts.map headL ++ [decZ n]
  | [], _, n => by
    simp only [headTx, List.flatMap_nil, List.nil_append, List.map_nil]
    exact cutB_no (decZ_no _ (by decide) (by decide))
  | t :: r, h, n => by
    have e : headTx (t :: r) ++ decZ n = headL t ++ 10 :: (headTx r ++ decZ n) := by simp [headTx, headLn, headL]
    rw [e, cutB_mid (cut_headL (h t (by simp))).2, cut_head r (fun x hx => h x (by simp [hx])) n]; rfl
theorem tabO_some {k : List PFile} {v : Int} {ln : List UInt8} {t : PTab} (h : tabO k v ln = some t) : t.name = lnNm ln ∧ rdF k (runNm v t.name) = some (fmtRel t.rel) ∧ rdD k (runNm v (lnNm ln)) = fmtRel t.rel := by
  unfold tabO at h
  split at h
  case isFalse => simp at h
  rename_i hc
  simp only [Bool.and_eq_true] at hc
  simp only [Option.some.injEq] at h
  subst h
  have h2 := (prsB_ok hc.2).2
  refine ⟨rfl, ?_, h2.symm⟩
  simp only
  rw [h2]
  have h1 := hc.1
  simp only [rdB, rdD] at h1 ⊢
  cases hf : rdF k (runNm v (lnNm ln)) with
  | none => rw [hf] at h1; cases h1
  | some s => rfl
theorem tabsM_mono {f g : List UInt8 → Option PTab} (h : ∀ x t, f x = some t → g x = some t) : ∀ (l : List (List UInt8)) (ts : List PTab), tabsM f l = some ts → tabsM g l = some ts
  | [], ts, e => e
  | x :: r, ts, e => by
    simp only [tabsM] at e ⊢
    cases hx : f x with
    | none => simp [hx] at e
    | some t =>
      simp only [hx, Option.map_eq_some_iff] at e
      obtain ⟨rs, hr, rfl⟩ := e
      simp only [h x t hx, tabsM_mono h r rs hr, Option.map_some]
theorem tabsM_mem {k : List PFile} {v : Int} : ∀ (l : List (List UInt8)) (ts : List PTab), tabsM (tabO k v) l = some ts → ∀ t ∈ ts, rdF k (runNm v t.name) = some (fmtRel t.rel)
  | [], ts, e, t, ht => by simp only [tabsM, Option.some.injEq] at e; subst e; simp at ht
  | x :: r, ts, e, t, ht => by
    simp only [tabsM] at e
    cases hx : tabO k v x with
    | none => simp [hx] at e
    | some u =>
      simp only [hx, Option.map_eq_some_iff] at e
      obtain ⟨rs, hr, rfl⟩ := e
      rcases List.mem_cons.1 ht with rfl | ht
      · exact (tabO_some hx).2.1
      · exact tabsM_mem r rs hr t ht
theorem tabsM_up {k : List PFile} {v : Int} : ∀ (ts : List PTab), (∀ t ∈ ts, tabOk t = true) → tabsM (tabO k v) (ts.map headL) = some ts → tabsM (tabS k v) (ts.map headL) = some ts
  | [], _, e => e
  | t :: r, h, e => by
    simp only [List.map_cons, tabsM] at e ⊢
    cases hx : tabO k v (headL t) with
    | none => simp [hx] at e
    | some u =>
      simp only [hx, Option.map_eq_some_iff] at e
      obtain ⟨rs, hr, e2⟩ := e
      simp only [List.cons.injEq] at e2
      obtain ⟨rfl, rfl⟩ := e2
      obtain ⟨_, _, h3⟩ := tabO_some hx
      have hc := (cut_headL (h u (by simp))).1
      have hk : lnCk (headL u) (rdD k (runNm v (lnNm (headL u)))) = true := by
        rw [h3, lnCk, hc]; simp
      simp only [tabS, hk, if_true, hx, tabsM_up rs (fun x hx => h x (by simp [hx])) hr, Option.map_some]
theorem fileOk_iff {k : List PFile} {f : PFile} : fileOk k f = true ↔ rdF k f.name = some f.data := by
  have : ∀ o : Option (List UInt8), (o.isSome && decide (o.getD [] = f.data)) = true ↔ o = some f.data := fun o => by cases o <;> simp
  exact this (rdF k f.name)
theorem verFs_eq {d : PDb} {v : Int} (h : verB d v = true) : verFs d v = runs v d.tabs ++ [⟨hdNm v, headTx d.tabs ++ decZ (ckS (headTx d.tabs))⟩] := by rw [verFs, if_pos h]; rfl
theorem load_eq (k : List PFile) (v : Int) : loadI k v = loadS k v := by
  unfold loadI loadS
  split
  case isFalse => rfl
  rename_i hb
  obtain ⟨h, hh⟩ : ∃ h, h = rdD k (hdNm v) := ⟨_, rfl⟩
  have hF : rdF k (hdNm v) = some h := by
    simp only [rdB] at hb
    simp only [rdD] at hh
    cases hf : rdF k (hdNm v) with
    | none => rw [hf] at hb; cases hb
    | some s => rw [hf] at hh; rw [hh]; rfl
  rw [← hh]
  have mono : ∀ x t, tabS k v x = some t → tabO k v x = some t := fun x t e => by
    unfold tabS at e; split at e
    · exact e
    · simp at e
  cases hO : tabsM (tabO k v) (lns h) with
  | none =>
    cases hS : tabsM (tabS k v) (lns h) with
    | none => rfl
    | some ts => rw [tabsM_mono mono _ _ hS] at hO; cases hO
  | some ts =>
    simp only
    cases hV : verB ⟨ts⟩ v
    · cases hS : tabsM (tabS k v) (lns h) with
      | none => rfl
      | some ts' =>
        have := tabsM_mono mono _ _ hS
        rw [hO] at this
        simp only [Option.some.injEq] at this
        subst this
        simp [hV]
    have hall : (verFs ⟨ts⟩ v).all (fileOk k) = headEq ts h := by
      rw [verFs_eq hV, List.all_append]
      have h1 : (runs v ts).all (fileOk k) = true := by
        simp only [List.all_eq_true, runs, List.mem_map]
        rintro _ ⟨t, ht, rfl⟩
        exact fileOk_iff.2 (tabsM_mem _ _ hO t ht)
      rw [h1, Bool.true_and]
      simp only [List.all_cons, List.all_nil, Bool.and_true]
      cases he : headEq ts h
      · cases hf : fileOk k ⟨hdNm v, headTx ts ++ decZ (ckS (headTx ts))⟩
        · rfl
        · have := fileOk_iff.1 hf
          rw [hF] at this
          simp only [Option.some.injEq] at this
          simp [headEq, ← this] at he
      · simp only [headEq, decide_eq_true_eq] at he
        exact fileOk_iff.2 (by rw [hF, he])
    rw [hall]
    cases he : headEq ts h
    · simp only [Bool.and_false]
      cases hS : tabsM (tabS k v) (lns h) with
      | none => rfl
      | some ts' =>
        have := tabsM_mono mono _ _ hS
        rw [hO] at this
        simp only [Option.some.injEq] at this
        subst this
        simp [he]
    · have he' := he
      simp only [headEq, decide_eq_true_eq] at he
      have hd : dbOk ⟨ts⟩ = true := by simp only [verB, Bool.and_eq_true] at hV; exact hV.1
      have hok : ∀ t ∈ ts, tabOk t = true := fun t ht => dbOk_tab hd ht
      have hl : lns h = ts.map headL := by rw [lns, ← he, cut_head ts hok]; simp
      rw [hl] at hO ⊢
      rw [tabsM_up ts hok hO]
      simp [hV, he']
/-! ### the newest version -/
def newF (k : List PFile) : Nat → Nat
  | 0 => 0
  | n + 1 => if (loadS k ((n + 1 : Nat) : Int)).isSome then n + 1 else newF k n
def newV (k : List PFile) : Nat := newF k 99
def recP (k : List PFile) : PDb := if newV k = 0 then ⟨[]⟩ else (loadS k (newV k)).getD ⟨[]⟩
def recB (k : List PFile) : Bool := decide (newV k ≠ 0)
theorem newF_le (k : List PFile) : ∀ n, newF k n ≤ n
  | 0 => by simp [newF]
  | n + 1 => by
    unfold newF; split
    · omega
    · have := newF_le k n; omega
structure NewI (k : List PFile) (v : Nat) : Prop where
  le : v ≤ 99
  eq : newF k v = newV k
theorem NewI.top {k : List PFile} : NewI k 99 := ⟨by omega, rfl⟩
theorem NewI.down {k : List PFile} {v : Nat} (h : NewI k (v + 1)) (e : loadS k ((v + 1 : Nat) : Int) = none) : NewI k v :=
  ⟨by have := h.le; omega, by rw [← h.eq, newF, e]; rfl⟩
theorem NewI.hit {k : List PFile} {v : Nat} (h : NewI k (v + 1)) {d : PDb} (e : loadS k ((v + 1 : Nat) : Int) = some d) : newV k = v + 1 ∧ recP k = d ∧ recB k = true := by
  have h1 : newV k = v + 1 := by rw [← h.eq, newF, e]; rfl
  exact ⟨h1, by rw [recP, if_neg (by omega), h1, e]; rfl, by simp [recB, h1]⟩
theorem NewI.zero {k : List PFile} (h : NewI k 0) : newV k = 0 ∧ recP k = ⟨[]⟩ ∧ recB k = false := by
  have h1 : newV k = 0 := by rw [← h.eq]; rfl
  exact ⟨h1, by rw [recP, if_pos h1], by simp [recB, h1]⟩
theorem loadS_no {k : List PFile} {v : Int} (h : rdB k (hdNm v) = false) : loadS k v = none := by simp [loadS, h]
theorem loadS_db {k : List PFile} {v : Int} {d : PDb} (h : loadS k v = some d) : verB d v = true := by
  unfold loadS at h
  split at h
  case isFalse => simp at h
  split at h
  · simp at h
  · split at h
    · rename_i hc
      simp only [Option.some.injEq] at h
      subst h
      simp only [Bool.and_eq_true] at hc
      exact hc.1
    · simp at h
theorem load_new {k : List PFile} : (recB k = true → loadS k (newV k) = some (recP k)) ∧ (recB k = false → loadS k (newV k) = none) := by
  have key : ∀ n, newF k n ≠ 0 → (loadS k (newF k n)).isSome = true := fun n => by
    induction n with
    | zero => intro h; simp [newF] at h
    | succ n ih =>
      intro h
      unfold newF at h ⊢
      split
      · assumption
      · rename_i hc
        rw [if_neg hc] at h
        exact ih h
  constructor
  · intro h
    simp only [recB, decide_eq_true_eq] at h
    have := key 99 h
    cases hl : loadS k (newV k) with
    | none => rw [newV] at hl; rw [hl] at this; cases this
    | some d => rw [recP, if_neg h, hl]; rfl
  · intro h
    have h0 : newV k = 0 := by simpa [recB] using h
    rw [h0]
    cases hl : loadS k ((0 : Nat) : Int) with
    | none => rfl
    | some d =>
      have := loadS_db hl
      simp only [verB, inR, Bool.and_eq_true, decide_eq_true_eq] at this
      omega
/-! ### writing -/
def wrA (n : PFile) : Bool → List PFile → List PFile
  | done, [] => if done then [] else [n]
  | done, f :: r => (if !done && !Op.bytesLess f.name n.name then [n] else []) ++ (if f.name = n.name then [] else [f]) ++ wrA n (done || !Op.bytesLess f.name n.name) r
def wrF (k : List PFile) (n : PFile) : List PFile := wrA n false k
structure WrI (k : List PFile) (n : PFile) (p : Nat × Bool × List PFile) : Prop where
  le : p.1 ≤ k.length
  eq : wrF k n = p.2.2 ++ wrA n p.2.1 (k.drop p.1)
  len : p.2.2.length ≤ p.1 + (if p.2.1 then 1 else 0)
theorem WrI.zero {k : List PFile} {n : PFile} : WrI k n (0, false, []) := ⟨by simp, by simp [wrF], by simp⟩
theorem WrI.step {k : List PFile} {n : PFile} {i : Nat} {b : Bool} {out : List PFile} (h : WrI k n (i, b, out)) (hi : i < k.length) :
    WrI k n (i + 1, b || !Op.bytesLess k[i].name n.name, out ++ ((if !b && !Op.bytesLess k[i].name n.name then [n] else []) ++ (if k[i].name = n.name then [] else [k[i]]))) := by
  refine ⟨hi, ?_, ?_⟩
  · have := h.eq
    simp only at this ⊢
    rw [this, List.drop_eq_getElem_cons hi, wrA]
    simp only [List.append_assoc]
  · have := h.len
    simp only [List.length_append] at this ⊢
    have h2 : (if k[i].name = n.name then ([] : List PFile) else [k[i]]).length ≤ 1 := by split <;> simp
    cases b <;> cases Op.bytesLess k[i].name n.name <;> simp at this ⊢ <;> omega
theorem WrI.done {k : List PFile} {n : PFile} {i : Nat} {b : Bool} {out : List PFile} (h : WrI k n (i, b, out)) (hi : k.length ≤ i) : wrF k n = out ++ (if b then [] else [n]) := by
  have := h.eq
  simp only at this
  rw [this, List.drop_of_length_le hi, wrA]
theorem wrF_len (k : List PFile) (n : PFile) : (wrF k n).length ≤ k.length + 1 := by
  have : ∀ (k : List PFile) (b : Bool), (wrA n b k).length ≤ k.length + (if b then 0 else 1) := fun k => by
    induction k with
    | nil => intro b; cases b <;> simp [wrA]
    | cons f r ih =>
      intro b
      have := ih (b || !Op.bytesLess f.name n.name)
      have h2 : (if f.name = n.name then ([] : List PFile) else [f]).length ≤ 1 := by split <;> simp
      simp only [wrA, List.length_append, List.length_cons]
      generalize (if f.name = n.name then ([] : List PFile) else [f]) = L at h2 ⊢
      generalize Op.bytesLess f.name n.name = q at this ⊢
      cases b <;> cases q <;> simp at this ⊢ <;> omega
  exact this k false
def wout (k : List PFile) (nm : List UInt8) : List PFile := k.filter fun f => decide (f.name ≠ nm)
theorem wout_step {k : List PFile} {nm : List UInt8} {i : Nat} (hi : i < k.length) : wout (k.take (i + 1)) nm = wout (k.take i) nm ++ (if k[i].name = nm then [] else [k[i]]) := by
  unfold wout
  rw [List.take_succ_eq_append_getElem hi, List.filter_append]
  congr 1
  by_cases e : k[i].name = nm <;> simp [e]
theorem wout_len (k : List PFile) (nm : List UInt8) : (wout k nm).length ≤ k.length := List.length_filter_le _ _
def wrAll (k : List PFile) (fs : List PFile) : List PFile := fs.foldl wrF k
theorem wrAll_step {k fs : List PFile} {i : Nat} (hi : i < fs.length) : wrAll k (fs.take (i + 1)) = wrF (wrAll k (fs.take i)) fs[i] := by
  rw [List.take_succ_eq_append_getElem hi, wrAll, List.foldl_append]; rfl
theorem wrAll_len (fs : List PFile) : ∀ (k : List PFile), (wrAll k fs).length ≤ k.length + fs.length := by
  induction fs with
  | nil => intro k; simp [wrAll]
  | cons f r ih =>
    intro k
    have h1 := ih (wrF k f)
    have h2 := wrF_len k f
    simp only [wrAll, List.foldl_cons, List.length_cons] at h1 ⊢; omega
def comF (k : List PFile) (d : PDb) : List PFile := verFs d ((newV k + 1 : Nat) : Int)
def comG (k : List PFile) (d : PDb) : Bool := decide (comF k d ≠ []) && dskOk k
def comP (k : List PFile) (d : PDb) (n : Int) : List PFile := if comG k d then wrAll (wout k (hdNm ((newV k + 1 : Nat) : Int))) ((comF k d).take n.toNat) else k
def comB (k : List PFile) (d : PDb) (n : Int) : Bool := comG k d && decide ((comF k d).length ≤ n)
/-! ### what is kept -/
def keep1 (f : PFile) (fs : List PFile) : List PFile := (fs.filter fun g => decide (g.name = f.name)).map fun _ => f
def keepP (k fs : List PFile) : List PFile := k.flatMap fun f => keep1 f fs
def delP (k : List PFile) : List PFile := if recB k then keepP k (verFs (recP k) (newV k)) else []
theorem keepP_step {k fs : List PFile} {i : Nat} (hi : i < k.length) : keepP (k.take (i + 1)) fs = keepP (k.take i) fs ++ keep1 k[i] fs := by
  unfold keepP
  rw [List.take_succ_eq_append_getElem hi, List.flatMap_append]
  simp
theorem keep1_step {f : PFile} {fs : List PFile} {j : Nat} (hj : j < fs.length) : keep1 f (fs.take (j + 1)) = keep1 f (fs.take j) ++ (if fs[j].name = f.name then [f] else []) := by
  unfold keep1
  rw [List.take_succ_eq_append_getElem hj, List.filter_append, List.map_append]
  congr 1
  by_cases e : fs[j].name = f.name <;> simp [e]
theorem keep1_len (f : PFile) (fs : List PFile) : (keep1 f fs).length ≤ fs.length := by
  unfold keep1; rw [List.length_map]; exact List.length_filter_le _ _
theorem keepP_len (fs : List PFile) : ∀ (k : List PFile), (keepP k fs).length ≤ k.length * fs.length
  | [] => by simp [keepP]
  | f :: r => by
    have h1 := keepP_len fs r
    have h2 := keep1_len f fs
    have e : keepP (f :: r) fs = keep1 f fs ++ keepP r fs := by simp [keepP]
    rw [e, List.length_append, List.length_cons, Nat.add_mul]; omega
theorem verFs_len (d : PDb) (v : Int) : (verFs d v).length ≤ 7 := by
  unfold verFs
  split
  · rename_i h
    simp only [verB, Bool.and_eq_true] at h
    have := dbOk_len h.1
    simp; omega
  · simp
end Go.Vs


namespace Go.Vs
def plsB (s : List UInt8) : Bool := decide (s = []) || (cutB 44 s).all fun v => (prsZ v).isSome
def plsL (s : List UInt8) : List Int := if s = [] then [] else (cutB 44 s).map prsN
theorem plsB_of {s : List UInt8} (h : s ≠ [] → ∀ v ∈ cutB 44 s, (prsZ v).isSome = true) : plsB s = true := by
  by_cases e : s = []
  · simp [plsB, e]
  · simp only [plsB, e, decide_false, Bool.false_or, List.all_eq_true]; exact h e
theorem plsL_row {x : List UInt8} (h : 2 ≤ x.length) : plsL (inTx x) = rowTx x := by
  have := inTx_ne h
  unfold plsL rowTx
  by_cases e : inTx x = []
  · rw [if_pos e, if_neg fun h2 => this.2 h2 e]
  · rw [if_neg e, if_pos (this.1 e)]
end Go.Vs


namespace Go.Vs
/-! ### tracked disks -/
def fOk (f : PFile) : Prop := f.name.length ≤ 1000000000 ∧ f.data.length ≤ 1000000000
theorem wrF_ok {k : List PFile} {n : PFile} (hk : ∀ f ∈ k, fOk f) (hn : fOk n) : ∀ f ∈ wrF k n, fOk f := by
  have : ∀ (k : List PFile) (b : Bool), (∀ f ∈ k, fOk f) → ∀ f ∈ wrA n b k, fOk f := fun k => by
    induction k with
    | nil => intro b _ f hf; cases b <;> simp [wrA] at hf; rw [hf]; exact hn
    | cons x r ih =>
      intro b hk f hf
      simp only [wrA, List.mem_append] at hf
      rcases hf with (hf | hf) | hf
      · split at hf
        · rw [List.mem_singleton.1 hf]; exact hn
        · simp at hf
      · split at hf
        · simp at hf
        · rw [List.mem_singleton.1 hf]; exact hk x (by simp)
      · exact ih _ (fun y hy => hk y (by simp [hy])) f hf
  exact this k false hk
theorem wout_ok {k : List PFile} {nm : List UInt8} (hk : ∀ f ∈ k, fOk f) : ∀ f ∈ wout k nm, fOk f := fun f hf => hk f (List.mem_filter.1 hf).1
theorem wrAll_ok {fs : List PFile} : ∀ {k : List PFile}, (∀ f ∈ k, fOk f) → (∀ f ∈ fs, fOk f) → ∀ f ∈ wrAll k fs, fOk f := by
  induction fs with
  | nil => intro k hk _; exact hk
  | cons x r ih => intro k hk hf; exact ih (wrF_ok hk (hf x (by simp))) fun y hy => hf y (by simp [hy])
theorem keepP_ok {k fs : List PFile} (hk : ∀ f ∈ k, fOk f) : ∀ f ∈ keepP k fs, fOk f := fun f hf => by
  simp only [keepP, List.mem_flatMap] at hf
  obtain ⟨g, hg, hf⟩ := hf
  simp only [keep1, List.mem_map] at hf
  obtain ⟨_, _, rfl⟩ := hf
  exact hk g hg
theorem verFs_ok {d : PDb} {v : Int} (hv : inZ v) : ∀ f ∈ verFs d v, fOk f := fun f hf => by
  unfold verFs at hf
  split at hf
  case isFalse => simp at hf
  rename_i h
  simp only [verB, Bool.and_eq_true] at h
  have hdl := decZ_len hv
  have hl6 := dbOk_len h.1
  have hnm : ∀ t ∈ d.tabs, t.name.length ≤ 4 := fun t ht => tabOk_name (dbOk_tab h.1 ht)
  rcases List.mem_append.1 hf with hf | hf
  · simp only [runs, List.mem_map] at hf
    obtain ⟨t, ht, rfl⟩ := hf
    have h4 := hnm t ht
    have h5 := fmtRel_len t.rel
    refine ⟨?_, ?_⟩
    · show (runNm v t.name).length ≤ _
      simp only [runNm, List.length_append, List.length_singleton]; omega
    · show (fmtRel t.rel).length ≤ _; omega
  · rw [List.mem_singleton.1 hf]
    have h1 := headTx_len hnm
    have hck := ckS_in (headTx d.tabs)
    have hckl := decZ_len (n := ckS (headTx d.tabs)) (by omega)
    refine ⟨?_, ?_⟩
    · show ([109] ++ decZ v).length ≤ _
      simp only [List.length_append, List.length_singleton]; omega
    · show (headTx d.tabs ++ decZ (ckS (headTx d.tabs))).length ≤ _
      simp only [List.length_append]; omega
/-- a new disk: its files lie in a row of their own -/
def dskT (g : Option Nat) (T : TypeId) (out : List PFile) : Disk := ⟨⟨g, some (T, 2), out.map toF⟩⟩
theorem cDsk (g : Option Nat) (T : TypeId) (out : List PFile) : (out.map toF).map cFile = out.map eFile := by
  rw [List.map_map]; rfl
theorem pl_dskT (g : Option Nat) (T : TypeId) (out : List PFile) : plDisk (dskT g T out) = ⟨out⟩ := by
  simp only [dskT, plDisk, plS, List.map_map]
  have : (plFile ∘ toF) = id := by funext p; rfl
  rw [this, List.map_id]
theorem ids_files (out : List PFile) : idsLL (out.map eFile) = [] := by
  induction out with
  | nil => simp [idsLL]
  | cons a r ih => simp only [List.map_cons, idsLL, ih]; simp [eFile, cStr, idsL, D.ids]
theorem hp_files (out : List PFile) : hpLL (out.map eFile) = false := hpLL_map (fun a => by simp [eFile, cStr]) _
theorem ok_dskT {g : Option Nat} {T : TypeId} {out : List PFile} (h : ∀ f ∈ out, fOk f) (hl : out.length ≤ 100000000000) : okDisk (dskT g T out) := by
  refine ⟨by simp only [dskT, maxLen, List.length_map]; omega, fun f hf => ?_⟩
  simp only [dskT, List.mem_map] at hf
  obtain ⟨p, hp, rfl⟩ := hf
  have := h p hp
  exact ⟨by simp only [toF, okStr, maxLen]; have := this.1; omega, by simp only [toF, okStr, maxLen]; have := this.2; omega⟩
theorem dskT_cells (g : Option Nat) (T : TypeId) (out : List PFile) : cDisk (dskT g T out) = [.sl g (some (T, 2)) (out.map eFile)] := by
  simp only [cDisk, dskT, cS, dSl, cDsk g T]
theorem good_dskT {g : Option Nat} {T : TypeId} {out : List PFile} {B : Nat} (h1 : ∀ x, g = some x → B ≤ x) (h2 : out.map eFile ≠ [] → g ≠ none) : Good (cDisk (dskT g T out)) (whDisk (dskT g T out)) B :=
  good_row h1 (by simpa using h2) (fun x _ => by rw [cDsk g T, ids_files]; simp) ⟨by rw [cDsk g T, ids_files]; simp, by rw [cDsk g T, ids_files]; simp⟩ (fun a _ => by simp [whFile, whStr])
def dskN : Disk := ⟨nilS⟩
theorem pl_dskN : plDisk dskN = ⟨[]⟩ := by simp [plDisk, dskN, nilS, plS]
theorem ok_dskN : okDisk dskN := ok_nilS
theorem good_dskN (B : Nat) : Good (cDisk dskN) (whDisk dskN) B := good_nilF B
end Go.Vs


namespace Go.Vs
theorem er_dsk {Y : Disk} {X : List PFile} (h : plDisk Y = ⟨X⟩) : erLL (Y.files.xs.map cFile) = X.map eFile := by
  rw [erLL_map er_cFile]
  have := congrArg PDisk.files h
  simp only [plDisk, plS] at this
  rw [this]
theorem rp_dsk {Y : Disk} {X : List PFile} (h : plDisk Y = ⟨X⟩) : rp (fun _ => none) (.agg ((cDisk Y).map V.d)) = some (.agg ((eDisk ⟨X⟩).map V.d)) := by
  simp [cDisk, cS, dSl, eDisk, cP, pS, er_dsk h]
theorem take2_step {fs : List PFile} {n : Int} {i : Nat} (hi : i < fs.length) (h : (i : Int) < n) : (fs.take n.toNat).take (i + 1) = (fs.take n.toNat).take i ++ [fs[i]] := by
  rw [List.take_take, List.take_take, show min (i + 1) n.toNat = i + 1 by omega, show min i n.toNat = i by omega, List.take_succ_eq_append_getElem hi]
theorem take2_stop {fs : List PFile} {n : Int} {i : Nat} (h : ¬ (i : Int) < n) : (fs.take n.toNat).take (i + 1) = (fs.take n.toNat).take i := by
  rw [List.take_take, List.take_take, show min (i + 1) n.toNat = n.toNat by omega, show min i n.toNat = n.toNat by omega]
theorem wrAll_snoc {k fs : List PFile} {f : PFile} : wrAll k (fs ++ [f]) = wrF (wrAll k fs) f := by rw [wrAll, List.foldl_append]; rfl
end Go.Vs


namespace Go.Vs
def szDk (K : PDisk) : Prop := K.files.length ≤ 1000000000 ∧ ∀ f ∈ K.files, fOk f
theorem comP_len (k : List PFile) (d : PDb) (n : Int) : (comP k d n).length ≤ k.length + 7 := by
  unfold comP
  split
  · have h1 := wrAll_len ((comF k d).take n.toNat) (wout k (hdNm ((newV k + 1 : Nat) : Int)))
    have h2 := wout_len k (hdNm ((newV k + 1 : Nat) : Int))
    have h3 := verFs_len d ((newV k + 1 : Nat) : Int)
    have h4 : ((comF k d).take n.toNat).length ≤ 7 := by rw [List.length_take]; simp only [comF]; omega
    omega
  · omega
end Go.Vs


namespace Go.Vs
/-! ### the laws of counted relations -/
end Go.Vs


namespace Go.Vs
/-! ### the law of projections of counted relations -/
end Go.Vs


namespace Go.Vs
/-! ### the laws of deltas and batches -/
/-- a table that is found stands between smaller and greater names -/
structure SplT (l A B : List PTab) (nm : List UInt8) (r : PReln) : Prop where
  eq : l = A ++ ⟨nm, r⟩ :: B
  lo : ∀ t ∈ A, Op.bytesLess t.name nm = true
  hi : ∀ t ∈ B, Op.bytesLess nm t.name = true
theorem tw_app {α : Type} {p : α → Bool} {A B : List α} {t : α} (hA : ∀ a ∈ A, p a = true) (ht : p t = false) : (A ++ t :: B).takeWhile p = A := by
  induction A with
  | nil => simp [ht]
  | cons a r ih => rw [List.cons_append, List.takeWhile_cons, hA a (by simp), if_pos rfl, ih fun b hb => hA b (List.mem_cons_of_mem _ hb)]
theorem SplT.set {l A B : List PTab} {nm : List UInt8} {r : PReln} (h : SplT l A B nm r) (u : PReln) : setL l nm u = A ++ ⟨nm, u⟩ :: B := by
  have hk : setK l nm = A.length := by rw [setK, h.eq, tw_app h.lo (bl_irr nm)]
  have hh : hitK l nm = true := by
    rw [hitK, hk, h.eq]
    simp [List.getD]
  rw [setL, hk, hh, h.eq]
  simp
theorem SplT.put {l A B : List PTab} {nm : List UInt8} {r : PReln} (h : SplT l A B nm r) (u : PReln) : SplT (setL l nm u) A B nm u := ⟨h.set u, h.lo, h.hi⟩
theorem dbOk_of {l : List PTab} (h1 : l.length ≤ 6) (h2 : SrtT l) (h3 : ∀ t ∈ l, tabOk t = true) : dbOk ⟨l⟩ = true := by
  simp only [dbOk, Bool.and_eq_true, decide_eq_true_eq, List.all_eq_true, List.mem_range]
  refine ⟨h1, fun i hi => ?_⟩
  rw [dbAt_eq hi, h3 _ (List.getElem_mem hi), Bool.and_true]
  by_cases h0 : i = 0
  · simp [h0]
  · have := List.pairwise_iff_getElem.1 h2 (i - 1) i (by omega) hi (by omega)
    simp [this]
theorem SplT.ok {l A B : List PTab} {nm : List UInt8} {r u : PReln} (h : SplT l A B nm r) (hd : dbOk ⟨l⟩ = true) (hu : tabOk ⟨nm, u⟩ = true) : dbOk ⟨setL l nm u⟩ = true := by
  have hlen := dbOk_len hd
  have hs := dbOk_srt hd
  have hm : ∀ t ∈ l, tabOk t = true := fun t ht => dbOk_tab hd ht
  have e := h.eq
  rw [h.set u]
  rw [e] at hs hm hlen
  simp only at hlen
  refine dbOk_of (by simpa using hlen) ?_ fun t ht => ?_
  · have hp := List.pairwise_append.1 hs
    refine List.pairwise_append.2 ⟨hp.1, List.pairwise_cons.2 ⟨fun t ht => h.hi t ht, (List.pairwise_cons.1 hp.2.1).2⟩, fun a ha b hb => ?_⟩
    rcases List.mem_cons.1 hb with hb | hb
    · subst hb; exact h.lo a ha
    · exact hp.2.2 a ha b (List.mem_cons_of_mem _ hb)
  · rcases List.mem_append.1 ht with ht | ht
    · exact hm t (by simp [ht])
    · rcases List.mem_cons.1 ht with ht | ht
      · subst ht; exact hu
      · exact hm t (by simp [ht])
theorem app_no {d : PDb} {x : PDelta} (h : appB d x = false) : appP d x = d := by
  rw [appP]
  split
  · rename_i h1
    rw [appB, h1, Bool.true_and] at h
    rw [setP, h]; rfl
  · rfl
end Go.Vs


namespace Go.Vs
/-! ### disks: what is read after a change -/
theorem rdF_nil (nm : List UInt8) : rdF [] nm = none := rfl
theorem rdF_cons (f : PFile) (r : List PFile) (nm : List UInt8) : rdF (f :: r) nm = if f.name = nm then some f.data else rdF r nm := by
  by_cases e : f.name = nm
  · simp [rdF, List.find?, e]
  · simp [rdF, List.find?, e]
theorem rd_wrA_ne {n : PFile} {nm : List UInt8} (h : nm ≠ n.name) : ∀ (l : List PFile) (b : Bool), rdF (wrA n b l) nm = rdF l nm
  | [], b => by cases b <;> simp [wrA, rdF_cons, rdF_nil, Ne.symm h]
  | f :: r, b => by
    rw [wrA, rdF_cons]
    have hn : ¬ n.name = nm := Ne.symm h
    have ih := fun b => rd_wrA_ne h r b
    by_cases e : f.name = n.name
    · have e2 : ¬ f.name = nm := fun e3 => hn (e ▸ e3)
      rw [if_pos e, if_neg e2]
      split <;> simp [rdF_cons, hn, ih]
    · rw [if_neg e]
      split <;> simp [rdF_cons, hn, ih]
theorem rd_wrA_eq {n : PFile} : ∀ (l : List PFile), rdF (wrA n false l) n.name = some n.data
  | [] => by simp [wrA, rdF_cons]
  | f :: r => by
    rw [wrA]
    cases hb : Op.bytesLess f.name n.name
    · simp [rdF_cons]
    · have e : ¬ f.name = n.name := fun e => by rw [e, bl_irr] at hb; cases hb
      simp [rdF_cons, e, rd_wrA_eq r]
theorem rd_wrF (k : List PFile) (n : PFile) (nm : List UInt8) : rdF (wrF k n) nm = if nm = n.name then some n.data else rdF k nm := by
  split
  · rename_i h; rw [h]; exact rd_wrA_eq k
  · rename_i h; exact rd_wrA_ne h k false
theorem rd_wout (k : List PFile) (a nm : List UInt8) : rdF (wout k a) nm = if nm = a then none else rdF k nm := by
  induction k with
  | nil => simp [wout, rdF_nil]
  | cons f r ih =>
    have hw : wout (f :: r) a = if f.name = a then wout r a else f :: wout r a := by
      by_cases e : f.name = a <;> simp [wout, List.filter_cons, e]
    rw [hw]
    by_cases e : f.name = a
    · rw [if_pos e, ih, rdF_cons]
      by_cases e2 : nm = a
      · rw [if_pos e2, if_pos e2]
      · rw [if_neg e2, if_neg e2, if_neg (by rw [e]; exact fun h => e2 h.symm)]
    · rw [if_neg e, rdF_cons, rdF_cons, ih]
      by_cases e2 : nm = a
      · rw [if_pos e2, if_pos e2, if_neg (by rw [e2]; exact e)]
      · rw [if_neg e2, if_neg e2]
theorem rd_wrAll_ne {nm : List UInt8} : ∀ (fs k : List PFile), (∀ f ∈ fs, f.name ≠ nm) → rdF (wrAll k fs) nm = rdF k nm
  | [], k, _ => rfl
  | f :: fs, k, h => by
    have : wrAll k (f :: fs) = wrAll (wrF k f) fs := rfl
    rw [this, rd_wrAll_ne fs _ fun g hg => h g (List.mem_cons_of_mem _ hg), rd_wrF, if_neg (Ne.symm (h f (by simp)))]
theorem rd_wrAll_eq : ∀ (fs k : List PFile), (fs.map (·.name)).Nodup → ∀ f ∈ fs, rdF (wrAll k fs) f.name = some f.data
  | [], k, _, f, hf => by cases hf
  | g :: fs, k, hn, f, hf => by
    have e : wrAll k (g :: fs) = wrAll (wrF k g) fs := rfl
    rw [List.map_cons, List.nodup_cons] at hn
    rw [e]
    rcases List.mem_cons.1 hf with rfl | hf
    · rw [rd_wrAll_ne fs _ fun g hg h => hn.1 (List.mem_map.2 ⟨g, hg, h⟩), rd_wrF, if_pos rfl]
    · exact rd_wrAll_eq fs _ hn.2 f hf
/-! ### the order of a disk -/
def PWf (l : List PFile) : Prop := l.Pairwise fun a b => Op.bytesLess a.name b.name = true
theorem dsk_pw {l : List PFile} : dskOk l = true ↔ PWf l := by
  rw [dskOk, List.all_eq_true, PWf, List.pairwise_iff_getElem]
  constructor
  · intro h
    have adj : ∀ i (hi : i + 1 < l.length), Op.bytesLess (l[i]'(by omega)).name l[i + 1].name = true := fun i hi => by
      have := h (i + 1) (List.mem_range.2 hi)
      rw [dskAt_eq (by omega) hi] at this
      simpa using this
    intro i j hi hj hij
    induction j with
    | zero => omega
    | succ j ih =>
      by_cases e : i = j
      · subst e; exact adj i hj
      · exact bl_trans (ih (by omega) (by omega)) (adj j hj)
  · intro h j hj
    rw [List.mem_range] at hj
    by_cases e : j = 0
    · subst e; simp [dskAt]
    · rw [dskAt_eq (by omega) hj]
      exact h (j - 1) j (by omega) hj (by omega)
theorem wrA_mem {n g : PFile} : ∀ {l : List PFile} {b : Bool}, g ∈ wrA n b l → g ∈ l ∨ (g = n ∧ b = false)
  | [], b, h => by cases b <;> simp [wrA] at h ⊢; exact h
  | f :: r, b, h => by
    rw [wrA, List.mem_append, List.mem_append] at h
    rcases h with (h | h) | h
    · cases b <;> simp at h ⊢
      exact .inr h.2
    · split at h
      · cases h
      · rw [List.mem_singleton] at h; exact .inl (h ▸ by simp)
    · rcases wrA_mem h with h | ⟨h, h2⟩
      · exact .inl (List.mem_cons_of_mem _ h)
      · exact .inr ⟨h, by cases b <;> simp at h2 ⊢⟩
theorem pw_wrA {n : PFile} : ∀ {l : List PFile} {b : Bool}, PWf l → (b = true → ∀ f ∈ l, Op.bytesLess n.name f.name = true) → PWf (wrA n b l) ∧ (∀ g ∈ wrA n b l, g ∈ l ∨ (g = n ∧ b = false))
  | [], b, _, _ => ⟨by cases b <;> simp [wrA, PWf], fun g hg => wrA_mem hg⟩
  | f :: r, b, h, hb => by
    refine ⟨?_, fun g hg => wrA_mem hg⟩
    rw [PWf, List.pairwise_cons] at h
    rw [wrA]
    cases b with
    | true =>
      have h1 := hb rfl
      have e : ¬ f.name = n.name := fun e => by have := h1 f (by simp); rw [e, bl_irr] at this; cases this
      have ih := pw_wrA (b := true) h.2 fun _ g hg => h1 g (List.mem_cons_of_mem _ hg)
      simp only [Bool.not_true, Bool.false_and, Bool.false_eq_true, if_false, List.nil_append, if_neg e, Bool.true_or]
      refine List.pairwise_append.2 ⟨List.pairwise_singleton _ _, ih.1, fun a ha c hc => ?_⟩
      rw [List.mem_singleton] at ha
      rcases ih.2 c hc with hc | ⟨_, hc⟩
      · exact ha ▸ h.1 c hc
      · cases hc
    | false =>
      cases hl : Op.bytesLess f.name n.name
      · -- put here
        have hnf : f.name = n.name ∨ Op.bytesLess n.name f.name = true := by
          rcases bl_tri f.name n.name with h | h | h
          · rw [hl] at h; cases h
          · exact .inl h
          · exact .inr h
        have hr : ∀ g ∈ r, Op.bytesLess n.name g.name = true := fun g hg => by
          rcases hnf with e | e
          · rw [← e]; exact h.1 g hg
          · exact bl_trans e (h.1 g hg)
        have ih := pw_wrA (n := n) (b := true) h.2 fun _ => hr
        simp only [Bool.not_false, Bool.and_true, if_true, Bool.or_true, List.singleton_append]
        by_cases e : f.name = n.name
        · rw [if_pos e, List.singleton_append]
          refine List.pairwise_cons.2 ⟨fun c hc => ?_, ih.1⟩
          rcases ih.2 c hc with hc | ⟨_, hc⟩
          · exact hr c hc
          · cases hc
        · rw [if_neg e]
          have hnf' := hnf.resolve_left e
          refine List.pairwise_append.2 ⟨List.pairwise_cons.2 ⟨fun c hc => ?_, List.pairwise_singleton _ _⟩, ih.1, fun a ha c hc => ?_⟩
          · rw [List.mem_singleton] at hc; rw [hc]; exact hnf'
          · rcases ih.2 c hc with hc' | ⟨_, hc'⟩
            · rcases List.mem_cons.1 ha with ha | ha
              · rw [ha]; exact hr c hc'
              · rw [List.mem_singleton] at ha; rw [ha]; exact h.1 c hc'
            · cases hc'
      · have e : ¬ f.name = n.name := fun e => by rw [e, bl_irr] at hl; cases hl
        have ih := pw_wrA (n := n) (b := false) h.2 nofun
        simp only [Bool.not_true, Bool.and_false, Bool.false_eq_true, if_false, List.nil_append, if_neg e, Bool.or_false]
        refine List.pairwise_append.2 ⟨List.pairwise_singleton _ _, ih.1, fun a ha c hc => ?_⟩
        rw [List.mem_singleton] at ha
        rcases ih.2 c hc with hc | ⟨hc, _⟩
        · exact ha ▸ h.1 c hc
        · rw [ha, hc]; exact hl
theorem dsk_wrF {k : List PFile} {n : PFile} (h : dskOk k = true) : dskOk (wrF k n) = true := dsk_pw.2 (pw_wrA (b := false) (dsk_pw.1 h) (fun h => by cases h)).1
end Go.Vs


namespace Go.Vs
/-! ### versions on a disk -/
theorem decZ_inj {a b : Int} (ha : a.natAbs ≤ 999999999) (hb : b.natAbs ≤ 999999999) (h : decZ a = decZ b) : a = b := by
  have h1 := prs_dec ha
  rw [h, prs_dec hb] at h1
  exact (Option.some.inj h1).symm
theorem cut_pre {c : UInt8} : ∀ {a b x y : List UInt8}, c ∉ a → c ∉ b → a ++ c :: x = b ++ c :: y → a = b ∧ x = y
  | [], [], x, y, _, _, h => by simpa using h
  | [], b :: bs, x, y, _, hb, h => by
    simp only [List.nil_append, List.cons_append, List.cons.injEq] at h
    exact absurd (h.1 ▸ List.mem_cons_self ..) hb
  | a :: as, [], x, y, ha, _, h => by
    simp only [List.nil_append, List.cons_append, List.cons.injEq] at h
    exact absurd (h.1 ▸ List.mem_cons_self ..) ha
  | a :: as, b :: bs, x, y, ha, hb, h => by
    simp only [List.cons_append, List.cons.injEq] at h
    have := cut_pre (fun h => ha (List.mem_cons_of_mem _ h)) (fun h => hb (List.mem_cons_of_mem _ h)) h.2
    exact ⟨by rw [h.1, this.1], this.2⟩
theorem run_inj {v w : Int} {a b : List UInt8} (hv : v.natAbs ≤ 999999999) (hw : w.natAbs ≤ 999999999) (h : runNm v a = runNm w b) : v = w ∧ a = b := by
  simp only [runNm, List.singleton_append, List.cons_append, List.nil_append, List.append_assoc, List.cons.injEq, true_and] at h
  have := cut_pre (decZ_no v (by decide) (by decide)) (decZ_no w (by decide) (by decide)) h
  exact ⟨decZ_inj hv hw this.1, this.2⟩
theorem head_inj {v w : Int} (hv : v.natAbs ≤ 999999999) (hw : w.natAbs ≤ 999999999) (h : hdNm v = hdNm w) : v = w := by
  simp only [hdNm, List.singleton_append, List.cons.injEq, true_and] at h
  exact decZ_inj hv hw h
theorem head_run {v w : Int} {a : List UInt8} : hdNm v ≠ runNm w a := by
  intro h
  simp only [hdNm, runNm, List.singleton_append, List.cons_append, List.nil_append, List.append_assoc, List.cons.injEq] at h
  exact absurd h.1 (by decide)
/-- the names of a version -/
def ofV (v : Int) (nm : List UInt8) : Prop := nm = hdNm v ∨ ∃ t, nm = runNm v t
theorem load_congr {k k' : List PFile} {v : Int} (h : ∀ nm, ofV v nm → rdF k nm = rdF k' nm) : loadS k v = loadS k' v := by
  have hh := h _ (.inl rfl)
  have hr : ∀ t, rdF k (runNm v t) = rdF k' (runNm v t) := fun t => h _ (.inr ⟨t, rfl⟩)
  have hT : tabS k v = tabS k' v := by
    funext ln
    simp only [tabS, tabO, rdB, rdD, hr]
    rfl
  simp only [loadS, rdB, rdD, hh, hT]
  rfl
theorem ver_names {d : PDb} {v : Int} {f : PFile} (hf : f ∈ verFs d v) : ofV v f.name := by
  rw [verFs] at hf
  split at hf
  · rcases List.mem_append.1 hf with h | h
    · simp only [runs, List.mem_map] at h
      obtain ⟨t, _, rfl⟩ := h
      exact .inr ⟨t.name, rfl⟩
    · rw [List.mem_singleton] at h; subst h; exact .inl rfl
  · cases hf
theorem ofV_ne {v w : Int} (hv : v.natAbs ≤ 999999999) (hw : w.natAbs ≤ 999999999) (hne : v ≠ w) {a b : List UInt8} (ha : ofV v a) (hb : ofV w b) : a ≠ b := by
  rcases ha with rfl | ⟨t, rfl⟩ <;> rcases hb with rfl | ⟨u, rfl⟩
  · exact fun h => hne (head_inj hv hw h)
  · exact head_run
  · exact head_run.symm
  · exact fun h => hne (run_inj hv hw h).1
theorem db_pw {d : PDb} (h : dbOk d = true) : d.tabs.Pairwise fun a b => Op.bytesLess a.name b.name = true := by
  simp only [dbOk, Bool.and_eq_true, List.all_eq_true] at h
  have h2 := h.2
  have adj : ∀ i (hi : i + 1 < d.tabs.length), Op.bytesLess (d.tabs[i]'(by omega)).name d.tabs[i + 1].name = true := fun i hi => by
    have := h2 (i + 1) (List.mem_range.2 hi)
    rw [dbAt_eq hi] at this
    simp only [Bool.and_eq_true, Bool.or_eq_true, decide_eq_true_eq] at this
    rcases this.1 with h | h
    · omega
    · simpa using h
  rw [List.pairwise_iff_getElem]
  intro i j hi hj hij
  induction j with
  | zero => omega
  | succ j ih =>
    by_cases e : i = j
    · subst e; exact adj i hj
    · exact bl_trans (ih (by omega) (by omega)) (adj j hj)
theorem run_nodup {d : PDb} {v : Int} (h : dbOk d = true) : ((runs v d.tabs).map (·.name)).Nodup := by
  rw [runs, List.map_map, List.Nodup, List.pairwise_map]
  refine (db_pw h).imp fun {a b} hab e => ?_
  simp only [Function.comp, runNm] at e
  have := List.append_cancel_left e
  rw [this, bl_irr] at hab; cases hab
theorem ver_nodup (d : PDb) (v : Int) : ((verFs d v).map (·.name)).Nodup := by
  rw [verFs]
  split
  · rename_i h
    have hd : dbOk d = true := by simp only [verB, Bool.and_eq_true] at h; exact h.1
    rw [List.map_append, List.nodup_append]
    refine ⟨run_nodup hd, by simp, ?_⟩
    intro a ha b hb e
    simp only [List.map_cons, List.map_nil, List.mem_singleton] at hb
    obtain ⟨f, hf, rfl⟩ := List.mem_map.1 ha
    simp only [runs, List.mem_map] at hf
    obtain ⟨t, _, rfl⟩ := hf
    rw [hb] at e
    exact head_run e.symm
  · simp
/-- a version that stands whole is loaded -/
theorem load_ver {k : List PFile} {d : PDb} {v : Int} (h : verB d v = true) (hk : ∀ f ∈ verFs d v, rdF k f.name = some f.data) : loadS k v = some d := by
  have hd : dbOk d = true := by simp only [verB, Bool.and_eq_true] at h; exact h.1
  have hF := verFs_eq h
  have hhd := hk ⟨hdNm v, headTx d.tabs ++ decZ (ckS (headTx d.tabs))⟩ (by rw [hF]; simp)
  simp only at hhd
  have hok : ∀ t ∈ d.tabs, tabOk t = true := fun t ht => dbOk_tab hd ht
  have hl : lns (headTx d.tabs ++ decZ (ckS (headTx d.tabs))) = d.tabs.map headL := by rw [lns, cut_head d.tabs hok]; simp
  have hO : ∀ ts : List PTab, (∀ t ∈ ts, t ∈ d.tabs) → tabsM (tabO k v) (ts.map headL) = some ts := by
    intro ts
    induction ts with
    | nil => intro _; rfl
    | cons t ts ih =>
      intro hm
      have ht := hm t (by simp)
      have hto := hok t ht
      have hr : rdF k (runNm v t.name) = some (fmtRel t.rel) := hk ⟨runNm v t.name, fmtRel t.rel⟩ (by
        rw [hF, runs]; exact List.mem_append_left _ (List.mem_map.2 ⟨t, ht, rfl⟩))
      have hnm : lnNm (headL t) = t.name := by rw [lnNm, (cut_headL hto).1]; rfl
      have hrow : rowsOk t.rel.ar t.rel.rows = true := by simp only [tabOk, Bool.and_eq_true] at hto; exact hto.1.1.2
      have hp := prs_fmt hrow
      have hT : tabO k v (headL t) = some t := by
        simp only [tabO, hnm, rdB, rdD, hr, Option.isSome, Option.getD, hp.1, hp.2, Bool.and_self, if_true]
      rw [List.map_cons, tabsM, hT]
      simp only [ih fun x hx => hm x (List.mem_cons_of_mem _ hx), Option.map_some]
  rw [← load_eq, loadI]
  simp only [rdB, rdD, hhd, Option.isSome, Option.getD, if_true, hl, hO d.tabs fun _ h => h]
  have hall : (verFs d v).all (fileOk k) = true := List.all_eq_true.2 fun f hf => fileOk_iff.2 (hk f hf)
  rw [h, hall]; rfl
/-! the newest version -/
theorem newF_eq {k k' : List PFile} : ∀ (n : Nat), (∀ w : Nat, 1 ≤ w → w ≤ n → loadS k w = loadS k' w) → newF k n = newF k' n
  | 0, _ => rfl
  | n + 1, h => by rw [newF, newF, h (n + 1) (by omega) (Nat.le_refl _), newF_eq n fun w h1 h2 => h w h1 (by omega)]
theorem newF_at {k : List PFile} {v : Nat} (hv : 1 ≤ v) (hs : (loadS k v).isSome = true) : ∀ (n : Nat), v ≤ n → (∀ w : Nat, v < w → w ≤ n → loadS k w = none) → newF k n = v
  | 0, h, _ => by omega
  | n + 1, h, hn => by
    rw [newF]
    by_cases e : v = n + 1
    · subst e; rw [if_pos hs]
    · rw [hn (n + 1) (by omega) (Nat.le_refl _), if_neg (by simp)]
      exact newF_at hv hs n (by omega) fun w h1 h2 => hn w h1 (by omega)
theorem newF_above {k : List PFile} : ∀ (n w : Nat), newF k n < w → w ≤ n → loadS k w = none
  | 0, w, h1, h2 => by omega
  | n + 1, w, h1, h2 => by
    rw [newF] at h1
    split at h1
    · omega
    · rename_i h
      by_cases e : w = n + 1
      · subst e; simpa using h
      · exact newF_above n w h1 (by omega)
end Go.Vs


namespace Go.Vs
theorem ver_some {d : PDb} {v : Int} (h : verFs d v ≠ []) : verB d v = true := by
  rw [verFs] at h
  split at h
  · assumption
  · exact absurd rfl h
theorem ver_le {d : PDb} {u : Nat} (h : verB d u = true) : 1 ≤ u ∧ u ≤ 99 := by
  simp only [verB, inR, Bool.and_eq_true, decide_eq_true_eq] at h
  omega
theorem newV_le (k : List PFile) : newV k ≤ 99 := newF_le k 99
theorem newV_above {k : List PFile} {w : Nat} (h : newV k < w) (h2 : w ≤ 99) : loadS k w = none := newF_above 99 w h h2
theorem com_other {k : List PFile} {d : PDb} {u : Nat} (hu : u ≤ 99) {m w : Nat} (hw : w ≤ 99) (hne : w ≠ u) : loadS (wrAll (wout k (hdNm (u : Int))) ((verFs d (u : Int)).take m)) w = loadS k w := by
  refine load_congr fun nm hnm => ?_
  rw [rd_wrAll_ne _ _ fun f hf => ofV_ne (v := (u : Int)) (w := (w : Int)) (by omega) (by omega) (by omega) (ver_names (List.mem_of_mem_take hf)) hnm, rd_wout, if_neg]
  exact fun e => ofV_ne (v := (u : Int)) (w := (w : Int)) (by omega) (by omega) (by omega) (.inl rfl) hnm e.symm
/-- after a whole commit the new version is there -/
theorem com_done {k : List PFile} {d : PDb} {n : Int} (h : comB k d n = true) : newV (comP k d n) = newV k + 1 ∧ recP (comP k d n) = d := by
  simp only [comB, Bool.and_eq_true, decide_eq_true_eq] at h
  obtain ⟨hG, hn⟩ := h
  have hG' := hG
  simp only [comG, Bool.and_eq_true, decide_eq_true_eq] at hG'
  obtain ⟨u, hu⟩ : ∃ u, u = newV k + 1 := ⟨_, rfl⟩
  have hv : verB d (u : Int) = true := by rw [hu]; exact ver_some hG'.1
  have hul := ver_le hv
  rw [comP, if_pos hG, List.take_of_length_le (by omega), comF, ← hu]
  obtain ⟨x, hx⟩ : ∃ x, x = wrAll (wout k (hdNm (u : Int))) (verFs d (u : Int)) := ⟨_, rfl⟩
  rw [← hx]
  have hload : loadS x u = some d := load_ver hv fun f hf => by rw [hx]; exact rd_wrAll_eq _ _ (ver_nodup d u) f hf
  have hoth : ∀ w : Nat, w ≤ 99 → w ≠ u → loadS x w = loadS k w := fun w hw hne => by
    have := com_other (k := k) (d := d) hul.2 (m := (verFs d (u : Int)).length) hw hne
    rw [List.take_length, ← hx] at this; exact this
  have hnv : newV x = u := newF_at hul.1 (by rw [hload]; rfl) 99 hul.2 fun w h1 h2 => by
    rw [hoth w h2 (by omega)]; exact newV_above (by omega) h2
  refine ⟨hnv, ?_⟩
  rw [recP, hnv, if_neg (by omega), hload]; rfl
/-- else the old one is -/
theorem com_not {k : List PFile} {d : PDb} {n : Int} (h : comB k d n = false) : newV (comP k d n) = newV k ∧ recP (comP k d n) = recP k := by
  cases hG : comG k d
  · rw [comP, if_neg (by rw [hG]; simp)]; exact ⟨rfl, rfl⟩
  have hn : ¬ ((comF k d).length : Int) ≤ n := by simpa [comB, hG] using h
  have hG' := hG
  simp only [comG, Bool.and_eq_true, decide_eq_true_eq] at hG'
  obtain ⟨u, hu⟩ : ∃ u, u = newV k + 1 := ⟨_, rfl⟩
  have hv : verB d (u : Int) = true := by rw [hu]; exact ver_some hG'.1
  have hul := ver_le hv
  rw [comF, ← hu] at hn
  rw [comP, if_pos hG, comF, ← hu]
  obtain ⟨x, hx⟩ : ∃ x, x = wrAll (wout k (hdNm (u : Int))) ((verFs d (u : Int)).take n.toNat) := ⟨_, rfl⟩
  rw [← hx]
  have hhead : rdF x (hdNm u) = none := by
    rw [hx, rd_wrAll_ne, rd_wout, if_pos rfl]
    intro f hf
    rw [verFs_eq hv] at hf hn
    rw [List.length_append, List.length_singleton] at hn
    rw [List.take_append_of_le_length (by omega)] at hf
    have hf := List.mem_of_mem_take hf
    simp only [runs, List.mem_map] at hf
    obtain ⟨t, _, rfl⟩ := hf
    exact head_run.symm
  have hnone : loadS x u = none := loadS_no (by simp only [rdB, hhead]; rfl)
  have hoth : ∀ w : Nat, w ≤ 99 → w ≠ u → loadS x w = loadS k w := fun w hw hne => by
    rw [hx]; exact com_other hul.2 hw hne
  have hnv : newV x = newV k := newF_eq 99 fun w h1 h2 => by
    by_cases e : w = u
    · subst e; rw [hnone, newV_above (by omega) h2]
    · exact hoth w h2 e
  refine ⟨hnv, ?_⟩
  rw [recP, recP, hnv]
  split
  · rfl
  · rw [hoth (newV k) (newV_le k) (by omega)]
/-! ### what may go -/
theorem keep1_eq {fs : List PFile} (hn : (fs.map (·.name)).Nodup) (f : PFile) : keep1 f fs = if (fs.map (·.name)).contains f.name then [f] else [] := by
  induction fs with
  | nil => rfl
  | cons g r ih =>
    rw [List.map_cons, List.nodup_cons] at hn
    have ih := ih hn.2
    have e0 : keep1 f (g :: r) = (if g.name = f.name then [f] else []) ++ keep1 f r := by
      by_cases e : g.name = f.name <;> simp [keep1, List.filter_cons, e]
    rw [e0, ih]
    by_cases e : g.name = f.name
    · have h1 : (r.map (·.name)).contains f.name = false := by
        rw [← e, ← Bool.not_eq_true, List.contains_iff_mem]; exact hn.1
      rw [if_pos e, if_neg (by rw [h1]; simp), if_pos (by simp [e])]; rfl
    · rw [if_neg e]
      have h1 : ((g :: r).map (·.name)).contains f.name = (r.map (·.name)).contains f.name := by
        rw [Bool.eq_iff_iff]; simp only [List.contains_iff_mem, List.map_cons, List.mem_cons]
        exact ⟨fun h => h.resolve_left fun h => e h.symm, .inr⟩
      rw [h1]; rfl
theorem keepP_eq {fs : List PFile} (hn : (fs.map (·.name)).Nodup) (k : List PFile) : keepP k fs = k.filter fun f => (fs.map (·.name)).contains f.name := by
  induction k with
  | nil => rfl
  | cons f r ih =>
    have e : keepP (f :: r) fs = keep1 f fs ++ keepP r fs := rfl
    rw [e, ih, keep1_eq hn, List.filter_cons]
    split <;> rfl
theorem rd_flt {p : List UInt8 → Bool} : ∀ (k : List PFile) (nm : List UInt8), rdF (k.filter fun f => p f.name) nm = if p nm then rdF k nm else none
  | [], nm => by simp [rdF_nil]
  | f :: r, nm => by
    rw [List.filter_cons]
    cases hp : p f.name
    · simp only [Bool.false_eq_true, if_false, rd_flt r nm, rdF_cons]
      by_cases e : f.name = nm
      · rw [← e, hp]; simp
      · rw [if_neg e]
    · simp only [if_true, rdF_cons, rd_flt r nm]
      by_cases e : f.name = nm
      · rw [if_pos e, if_pos e, ← e, hp]; simp
      · rw [if_neg e, if_neg e]
theorem load_files {k : List PFile} {v : Int} {d : PDb} (h : loadS k v = some d) : ∀ f ∈ verFs d v, rdF k f.name = some f.data := by
  rw [← load_eq, loadI] at h
  split at h
  · split at h
    · cases h
    · split at h
      · rename_i h2
        simp only [Bool.and_eq_true, List.all_eq_true] at h2
        rw [← Option.some.inj h]
        exact fun f hf => fileOk_iff.1 (h2.2 f hf)
      · cases h
  · cases h
theorem newV_nil : newV [] = 0 := by
  have h : ∀ n, newF [] n = 0 := by
    intro n
    induction n with
    | zero => rfl
    | succ n ih => rw [newF, loadS_no (by rfl), if_neg (by simp), ih]
  exact h 99
theorem del_law (k : List PFile) : newV (delP k) = newV k ∧ recP (delP k) = recP k ∧ delP (delP k) = delP k ∧ (delP k).length ≤ k.length := by
  cases hb : recB k
  · have h0 : newV k = 0 := by simpa [recB] using hb
    have e : delP k = [] := by rw [delP, if_neg (by rw [hb]; simp)]
    have e2 : delP [] = [] := by rw [delP, if_neg (by simp [recB, newV_nil])]
    rw [e, newV_nil, h0, recP, recP, newV_nil, h0]
    exact ⟨rfl, rfl, e2, by simp⟩
  have hl := (load_new (k := k)).1 hb
  have hv0 : newV k ≠ 0 := by simpa [recB] using hb
  have hdb := loadS_db hl
  have hul := ver_le hdb
  have hnd := ver_nodup (recP k) (newV k)
  have e : delP k = k.filter fun f => ((verFs (recP k) (newV k)).map (·.name)).contains f.name := by rw [delP, if_pos hb, keepP_eq hnd]
  obtain ⟨x, hx⟩ : ∃ x, x = delP k := ⟨_, rfl⟩
  rw [← hx] at e ⊢
  have hrd : ∀ nm, rdF x nm = if ((verFs (recP k) (newV k)).map (·.name)).contains nm then rdF k nm else none := fun nm => by
    rw [e]; exact rd_flt (p := fun nm => ((verFs (recP k) (newV k)).map (·.name)).contains nm) k nm
  have hload : loadS x (newV k) = some (recP k) := load_ver hdb fun f hf => by
    rw [hrd, if_pos (by rw [List.contains_iff_mem]; exact List.mem_map_of_mem hf)]
    exact load_files hl f hf
  have hoth : ∀ w : Nat, w ≤ 99 → w ≠ newV k → loadS x w = none := fun w hw hne => loadS_no (by
    rw [rdB, hrd, if_neg]; rfl
    rw [List.contains_iff_mem, List.mem_map]
    rintro ⟨f, hf, hf2⟩
    exact ofV_ne (v := (newV k : Int)) (w := (w : Int)) (by omega) (by omega) (by omega) (ver_names hf) (.inl rfl) hf2)
  have hnv : newV x = newV k := newF_at hul.1 (by rw [hload]; rfl) 99 hul.2 fun w h1 h2 => hoth w h2 (by omega)
  have hrp : recP x = recP k := by rw [recP, hnv, if_neg hv0, hload]; rfl
  have hbx : recB x = true := by rw [recB, hnv]; simpa using hv0
  refine ⟨hnv, hrp, ?_, by rw [e]; exact List.length_filter_le _ _⟩
  rw [delP, if_pos hbx, hrp, hnv, keepP_eq hnd]
  rw [e, List.filter_filter]
  exact List.filter_congr fun f _ => Bool.and_self _
end Go.Vs

