/-
  VsRe: a part of a proof of this seat: the value-level semantics of Go code without maps (Vs), its walk rules (Vt), the frame of a row (Vr), facts of types, schedules, walks. It holds of every program and state that its hypotheses name.
-/
import Derived.Test.YtfebikihnljjoaaVs16
set_option linter.unusedSimpArgs false
set_option linter.unusedVariables false
namespace Go.Vs
open Go.RowKit

theorem reL_get {φ : Nat → Option D} : ∀ {l l' : List D}, reL φ l = some l' → l'.length = l.length ∧ ∀ (i : Nat) (y : D), l'[i]? = some y → ∃ x, l[i]? = some x ∧ reD φ x = some y
  | [], l', h => by simp only [reL, Option.some.injEq] at h; subst h; simp
  | x :: r, l', h => by
    simp only [reL] at h
    cases hx : reD φ x with
    | none => simp [hx] at h
    | some y =>
      cases hr : reL φ r with
      | none => simp [hx, hr] at h
      | some l =>
        simp only [hx, hr, Option.some.injEq] at h
        subst h
        obtain ⟨h1, h2⟩ := reL_get hr
        refine ⟨by simp [h1], fun i z hi => ?_⟩
        cases i with
        | zero => simp only [List.getElem?_cons_zero, Option.some.injEq] at hi; subst hi; exact ⟨x, rfl, hx⟩
        | succ i => simpa using h2 i z (by simpa using hi)
theorem reLL_get {φ : Nat → Option D} : ∀ {l l' : List (List D)}, reLL φ l = some l' → l'.length = l.length ∧ ∀ (i : Nat) (y : List D), l'[i]? = some y → ∃ x, l[i]? = some x ∧ reL φ x = some y
  | [], l', h => by simp only [reLL, Option.some.injEq] at h; subst h; simp
  | x :: r, l', h => by
    simp only [reLL] at h
    cases hx : reL φ x with
    | none => simp [hx] at h
    | some y =>
      cases hr : reLL φ r with
      | none => simp [hx, hr] at h
      | some l =>
        simp only [hx, hr, Option.some.injEq] at h
        subst h
        obtain ⟨h1, h2⟩ := reLL_get hr
        refine ⟨by simp [h1], fun i z hi => ?_⟩
        cases i with
        | zero => simp only [List.getElem?_cons_zero, Option.some.injEq] at hi; subst hi; exact ⟨x, rfl, hx⟩
        | succ i => simpa using h2 i z (by simpa using hi)

/-- no block turns its shape -/
def Shp (w w' : World) : Prop := ∀ (g : Nat) cur T f, w.heap[g]? = some (.cells cur T f) → ∃ cur', w'.heap[g]? = some (.cells cur' T f) ∧ cur'.size = cur.size

section
variable {φ : Nat → Option D} {S S' : Nat → Prop} {w w' : World}

theorem reD_DR (hS : ∀ g, S g → φ g = none → S' g) (hw : ∀ g, S g → φ g = none → w'.heap[g]? = w.heap[g]?) (hsh : Shp w w')
    (hgood : ∀ g T es, φ g = some (.sl (some g) (some T) es) → ∃ v', DR S' w' (.sl (some g) (some T) es) v') : ∀ {x : D} {v : Value}, DR S w x v → ∀ y, reD φ x = some y → DR S' w' y v := by
  intro x v h
  induction h with
  | bool b => intro y hy; simp only [reD, Option.some.injEq] at hy; subst hy; exact .bool _
  | int k n => intro y hy; simp only [reD, Option.some.injEq] at hy; subst hy; exact .int _ _
  | str s => intro y hy; simp only [reD, Option.some.injEq] at hy; subst hy; exact .str _
  | nil T => intro y hy; simp only [reD, reLL, Option.map_some, Option.some.injEq] at hy; subst hy; exact .nil _
  | sl g T es a cap sz vs hSg hab hcap hm hsz hc hd hwh ih =>
    intro y hy
    simp only [reD] at hy
    cases hφ : φ g with
    | none =>
      simp only [hφ] at hy
      cases hr : reLL φ es with
      | none => simp [hr] at hy
      | some ys =>
        simp only [hr, Option.map_some, Option.some.injEq] at hy
        subst hy
        obtain ⟨hl, hg⟩ := reLL_get hr
        have hblk := hw g hSg hφ
        have := DR.sl (S := S') (w := w') g T ys a cap sz vs (hS g hSg hφ) hab (by omega) hm
          (fun i e he => by obtain ⟨e0, h0, h1⟩ := hg i e he; rw [(reL_get h1).1]; exact hsz i e0 h0)
          (fun i e he j u hu => by
            obtain ⟨e0, h0, h1⟩ := hg i e he
            obtain ⟨u0, h2, h3⟩ := (reL_get h1).2 j u hu
            have hpos : 0 < cap := by have := (List.getElem?_eq_some_iff.1 h0).1; omega
            rw [World.cell?_of_block (w := w) (by rw [add_block, hab hpos]; exact hblk)]
            exact hc i e0 h0 j u0 h2)
          (fun i e he j u hu => by
            obtain ⟨e0, h0, h1⟩ := hg i e he
            obtain ⟨u0, h2, h3⟩ := (reL_get h1).2 j u hu
            exact ih i e0 h0 j u0 h2 u h3)
          (fun t ht => by obtain ⟨h1, h2, cur, h3, h4⟩ := hwh t ht; exact ⟨h1, h2, cur, hblk.trans h3, h4⟩)
        rw [hl] at this
        exact this
    | some d =>
      simp only [hφ] at hy
      cases d with
      | sl id' T' es' =>
        cases id' with
        | none => simp at hy
        | some g' =>
          simp only at hy
          split at hy
          · rename_i hcond
            obtain ⟨rfl, hT, rfl, hlen⟩ := hcond
            cases hy
            obtain ⟨t, ht⟩ := Option.isSome_iff_exists.1 hT
            subst ht
            obtain ⟨h1, h2, cur, h3, h4⟩ := hwh t rfl
            subst h1
            obtain ⟨v', hv'⟩ := hgood g' t es' hφ
            have hl : es'.length = es.length := by have := congrArg List.length hlen; simpa using this
            obtain ⟨cur', h5, h6⟩ := hsh _ _ _ _ h3
            cases hv' with
            | sl _ _ _ a' cap' sz' vs' hS2 hab2 hcap2 hm2 hsz2 hc2 hd2 hw2 =>
              obtain ⟨k1, k2, cur2, k3, k4⟩ := hw2 t rfl
              subst k1
              rw [h5] at k3
              cases k3
              by_cases he : es = []
              · have he' : es' = [] := by subst he; simpa using hl
                subst he he'
                exact DR.sl g' (some t) [] ⟨g', 0, none⟩ cap sz vs hS2 (fun _ => rfl) (by simp) hm (by simp) (by simp) (by simp) (fun t' ht' => by cases ht'; exact ⟨rfl, h2, cur', h5, by rw [h6]; exact h4⟩)
              · have hsz3 : sz = sz' := by
                  cases hes : es with
                  | nil => exact absurd hes he
                  | cons e r =>
                    cases hes' : es' with
                    | nil => rw [hes, hes'] at hl; simp at hl
                    | cons e' r' =>
                      have := hlen
                      rw [hes, hes'] at this
                      simp only [List.map_cons, List.cons.injEq] at this
                      rw [← hsz 0 e (by rw [hes]; rfl), ← hsz2 0 e' (by rw [hes']; rfl)]
                      exact this.1.symm
                subst hsz3
                have hcc : cap = cap' := by
                  have : cap * sz = cap' * sz := by rw [← h4, ← h6, k4]
                  exact Nat.eq_of_mul_eq_mul_right h2.1 this
                subst hcc
                have := DR.sl (S := S') (w := w') g' (some t) es' ⟨g', 0, none⟩ cap sz vs' hS2 hab2 hcap2 hm2 hsz2 hc2 hd2 hw2
                rw [hl] at this
                exact this
          · cases hy
      | _ => simp at hy

variable {ρ : Nat → Option (Nat × Nat)} {m m' : Nat → Option Blk}

theorem reD_lst {x y : D} (h : reD φ x = some y) : (lstD y).map List.length = (lstD x).map List.length := by
  cases x with
  | sl id T es =>
    have key : ∀ ys, reLL φ es = some ys → ys.map List.length = es.map List.length := by
      intro ys hr
      obtain ⟨h1, h2⟩ := reLL_get hr
      apply List.ext_getElem?
      intro i
      simp only [List.getElem?_map]
      cases hi : ys[i]? with
      | none =>
        have : ys.length ≤ i := List.getElem?_eq_none_iff.1 hi
        rw [List.getElem?_eq_none (by omega)]
      | some e =>
        obtain ⟨e0, h3, h4⟩ := h2 i e hi
        rw [h3]
        simp [(reL_get h4).1]
    cases id with
    | none =>
      simp only [reD] at h
      cases hr : reLL φ es with
      | none => simp [hr] at h
      | some ys => simp only [hr, Option.map_some, Option.some.injEq] at h; subst h; exact key ys hr
    | some g =>
      simp only [reD] at h
      split at h
      · split at h
        · rename_i hc; cases h; exact hc.2.2.2
        · cases h
      · cases h
      · cases hr : reLL φ es with
        | none => simp [hr] at h
        | some ys => simp only [hr, Option.map_some, Option.some.injEq] at h; subst h; exact key ys hr
  | _ => simp only [reD, Option.some.injEq] at h; subst h; rfl

/-- what of key k was told is told again, or nothing is -/
def KR (ρ : Nat → Option (Nat × Nat)) (m : Nat → Option Blk) (ρ' : Nat → Option (Nat × Nat)) (m' : Nat → Option Blk) : Prop := ∀ k, KC ρ m ρ' m' k

mutual
theorem reV_VR (hS : ∀ g, S g → φ g = none → S' g) (hw : ∀ g, S g → φ g = none → w'.heap[g]? = w.heap[g]?) (hsh : Shp w w')
    (hgood : ∀ g T es, φ g = some (.sl (some g) (some T) es) → ∃ v', DR S' w' (.sl (some g) (some T) es) v') (hk : ∀ k, KC ρ m ρ m' k) : ∀ (v : V) (val : Value), VR ρ m S w v val → VR ρ m' S' w' (reV φ v) val
  | .d x, val, h => by
    simp only [VR, reV] at h ⊢
    cases hx : reD φ x with
    | none => simp only [VR]
    | some y => simp only [VR]; exact reD_DR hS hw hsh hgood h y hx
  | .own j lo n, val, h => VR_own (hk j) h
  | .ptr j i off, val, h => VR_ptr (hk j) h
  | .fptr x i off, val, h => by
    simp only [VR, reV] at h ⊢
    obtain ⟨a, n, c, sz, h1, h2, h3, h4⟩ := h
    cases hx : reD φ x with
    | none => simp only [VR]
    | some y =>
      simp only [VR]
      have hl := reD_lst hx
      refine ⟨a, n, c, sz, reD_DR hS hw hsh hgood h1 y hx, fun e he => ?_, by have := congrArg List.length hl; simp at this; omega, h4⟩
      have : e.length ∈ (lstD y).map List.length := List.mem_map_of_mem he
      rw [hl, List.mem_map] at this
      obtain ⟨e0, h5, h6⟩ := this
      rw [← h6]; exact h2 e0 h5
  | .bad, val, h => by simp [VR, reV]
  | .agg cs, val, h => by
    simp only [VR, reV] at h ⊢
    obtain ⟨l, h1, h2⟩ := h
    exact ⟨l, h1, reVL_LR hS hw hsh hgood hk cs l h2⟩
  | .tup vs, val, h => by
    simp only [VR, reV] at h ⊢
    obtain ⟨l, h1, h2⟩ := h
    exact ⟨l, h1, reVL_LR hS hw hsh hgood hk vs l h2⟩
theorem reVL_LR (hS : ∀ g, S g → φ g = none → S' g) (hw : ∀ g, S g → φ g = none → w'.heap[g]? = w.heap[g]?) (hsh : Shp w w')
    (hgood : ∀ g T es, φ g = some (.sl (some g) (some T) es) → ∃ v', DR S' w' (.sl (some g) (some T) es) v') (hk : ∀ k, KC ρ m ρ m' k) : ∀ (l : List V) (vals : List Value), LR ρ m S w l vals → LR ρ m' S' w' (reVL φ l) vals
  | [], [], _ => by simp [LR, reVL]
  | [], _ :: _, h => by simp [LR] at h
  | _ :: _, [], h => by simp [LR] at h
  | c :: cs, v :: l, h => by
    simp only [LR, reVL] at h ⊢
    exact ⟨reV_VR hS hw hsh hgood hk c v h.1, reVL_LR hS hw hsh hgood hk cs l h.2⟩
end
end

section
variable {P : Program} {E : FuncId → Bool} {A0 : Env} {N : Nat} {w0 : World} {ρ : Nat → Option (Nat × Nat)} {σ : St} {a : Act} {w : World}

theorem KC_re (φ : Nat → Option D) (k : Nat) : KC ρ σ.m ρ (σ.re φ).m k := by
  unfold KC
  simp only [St.re, reM]
  cases hm : σ.m k with
  | none => trivial
  | some b0 =>
    cases b0 with
    | box cs => exact ⟨trivial, cs, rfl⟩
    | row T sz es =>
      simp only [Option.bind_some, Blk.re]
      cases hr : reLL φ es with
      | none => trivial
      | some ys => simp only [Option.map_some]; exact ⟨trivial, T, es, rfl, Nat.le_of_eq (reLL_get hr).1.symm⟩

theorem re_m_back {φ : Nat → Option D} {k : Nat} {b : Blk} (h : (σ.re φ).m k = some b) : ∃ b0, σ.m k = some b0 ∧ Blk.re φ b0 = some b := by
  simp only [St.re, reM] at h
  cases hm : σ.m k with
  | none => simp [hm] at h
  | some b0 => rw [hm] at h; exact ⟨b0, rfl, h⟩

/-- blocks of data are written, and the variable of key kx; what the state says of them is said anew -/
theorem Rel.reX (h : Rel A0 N w0 ρ σ a w) (φ : Nat → Option D) (kx : Option Nat) (m' : Nat → Option Blk) {w' : World} {hs' : Nat} (hbel : Bel A0.G w0.heap.size w0 w') (hsz : w.heap.size ≤ w'.heap.size) (hh1 : hs' ≤ w'.heap.size) (hh2 : σ.hs ≤ hs')
    (hm' : ∀ j, kx ≠ some j → m' j = (σ.re φ).m j)
    (hkx : ∀ k, kx = some k → ∃ cs0 cs', σ.m k = some (.box cs0) ∧ m' k = some (.box cs') ∧ BlkR A0.G ρ m' (Sof A0 σ.B ρ m' w') σ.B w' (ρ k) (.box cs'))
    (hsame : ∀ g, g < w.heap.size → φ g = none → (∀ k p, kx = some k → ρ k = some p → p.1 ≠ g) → w'.heap[g]? = w.heap[g]?) (hsh : Shp w w')
    (hown : ∀ g, φ g ≠ none → ∀ k b, σ.m k = some b → ∀ p, ρ k = some p → p.1 ≠ g)
    (hgood : ∀ g T es, φ g = some (.sl (some g) (some T) es) → ∃ v', DR (Sof A0 σ.B ρ m' w') w' (.sl (some g) (some T) es) v') : Rel A0 N w0 ρ { σ.re φ with hs := hs', m := m' } a w' := by
  have back : ∀ k b, m' k = some b → ∃ b0, σ.m k = some b0 ∧ (kx ≠ some k → Blk.re φ b0 = some b) := by
    intro k b hk
    by_cases hkk : kx = some k
    · obtain ⟨cs0, cs', h1, h2, _⟩ := hkx k hkk
      exact ⟨_, h1, fun hne => absurd hkk hne⟩
    · rw [hm' k hkk] at hk
      obtain ⟨b0, h1, h2⟩ := re_m_back hk
      exact ⟨b0, h1, fun _ => h2⟩
  have hS : ∀ g, Sof A0 σ.B ρ σ.m w g → Sof A0 σ.B ρ m' w' g := fun g hg => ⟨hg.1, by have := hg.2.1; omega, fun k b hk p hp => by
    obtain ⟨b0, hb0, _⟩ := back k b hk
    exact hg.2.2 k b0 hb0 p hp⟩
  have hS' : ∀ g, Sof A0 σ.B ρ σ.m w g → φ g = none → Sof A0 σ.B ρ m' w' g := fun g hg _ => hS g hg
  have hw : ∀ g, Sof A0 σ.B ρ σ.m w g → φ g = none → w'.heap[g]? = w.heap[g]? := fun g hg hn => hsame g hg.2.1 hn fun k p hk hp => by
    obtain ⟨cs0, cs', h1, _⟩ := hkx k hk
    exact hg.2.2 k _ h1 p hp
  have hk : ∀ k, KC ρ σ.m ρ m' k := fun k => by
    by_cases hkk : kx = some k
    · obtain ⟨cs0, cs', h1, h2, _⟩ := hkx k hkk
      unfold KC
      rw [h2]
      exact ⟨rfl, cs0, h1⟩
    · have := KC_re (ρ := ρ) (σ := σ) φ k
      unfold KC at this ⊢
      rw [hm' k hkk]
      exact this
  have hold : ∀ k b p, kx ≠ some k → σ.m k = some b → ρ k = some p → w'.heap[p.1]? = w.heap[p.1]? := by
    intro k b p hkk hm hp
    refine hsame p.1 ((h.mem k b hm).lt p hp).2 ?_ fun k' p' hk' hp' heq => ?_
    · cases hφ : φ p.1 with
      | none => rfl
      | some y => exact absurd rfl (hown p.1 (by rw [hφ]; simp) k b hm p hp)
    · obtain ⟨cs0, cs', h1, _⟩ := hkx k' hk'
      have := h.inj k' k _ b p' p h1 hm hp' hp heq
      exact hkk (this ▸ hk')
  refine ⟨hbel, h.hN, h.key, ?_, h.hG, h.hB, hh1, by have := h.hs0; show σ.B ≤ hs'; omega, h.defers, h.size, fun i => reV_VR hS' hw hsh hgood hk _ _ (h.tmps i), fun k b hb => ?_, fun k k' b b' p p' hb hb' hp hp' heq => ?_⟩
  · show isRow (m' 1000) = false
    by_cases hkk : kx = some 1000
    · obtain ⟨cs0, cs', h1, h2, _⟩ := hkx 1000 hkk
      rw [h2]; rfl
    · rw [hm' _ hkk]
      have := h.norow
      simp only [St.re, reM]
      cases hm : σ.m 1000 with
      | none => rfl
      | some b0 =>
        rw [hm] at this
        cases b0 with
        | box cs => rfl
        | row _ _ _ => cases this
  · by_cases hkk : kx = some k
    · obtain ⟨cs0, cs', h1, h2, h3⟩ := hkx k hkk
      have hb' : m' k = some b := hb
      rw [h2] at hb'
      cases hb'
      exact h3
    obtain ⟨b0, hb0, hre⟩ := back k b hb
    have hre := hre hkk
    have hmem := h.mem k b0 hb0
    cases b0 with
    | box cs =>
      simp only [Blk.re, Option.some.injEq] at hre
      subst hre
      obtain ⟨g, cap, hr', hB, cur, T', hc, hl⟩ := hmem
      exact ⟨g, cap, hr', hB, cur, T', (hold k _ _ hkk hb0 hr').trans hc, reVL_LR hS' hw hsh hgood hk _ _ hl⟩
    | row T sz es =>
      simp only [Blk.re] at hre
      cases hr : reLL φ es with
      | none => simp [hr] at hre
      | some ys =>
        simp only [hr, Option.map_some, Option.some.injEq] at hre
        subst hre
        obtain ⟨hl, hg⟩ := reLL_get hr
        refine ⟨hmem.1, ?_⟩
        have h3 := hmem.2
        cases hr' : ρ k with
        | none => rw [hr'] at h3; subst h3; simpa using hl
        | some p =>
          obtain ⟨g, cap⟩ := p
          rw [hr'] at h3
          obtain ⟨hB, hc1, hc2, cur, hc, hcs, hall⟩ := h3
          refine ⟨hB, hc1, by omega, cur, (hold k _ _ hkk hb0 hr').trans hc, hcs, fun i e he => ?_⟩
          obtain ⟨e0, he0, hre0⟩ := hg i e he
          refine ⟨by rw [(reL_get hre0).1]; exact (hall i e0 he0).1, fun j u hu => ?_⟩
          obtain ⟨u0, hu0, hru⟩ := (reL_get hre0).2 j u hu
          obtain ⟨v, hv, hd⟩ := (hall i e0 he0).2 j u0 hu0
          exact ⟨v, hv, reD_DR hS' hw hsh hgood hd u hru⟩
  · obtain ⟨b0, hb0, _⟩ := back k b hb
    obtain ⟨b0', hb0', _⟩ := back k' b' hb'
    exact h.inj k k' b0 b0' p p' hb0 hb0' hp hp' heq

/-- blocks of data are written; what the state says of them is said anew -/
theorem Rel.re (h : Rel A0 N w0 ρ σ a w) (φ : Nat → Option D) {w' : World} {hs' : Nat} (hbel : Bel A0.G w0.heap.size w0 w') (hsz : w.heap.size ≤ w'.heap.size) (hh1 : hs' ≤ w'.heap.size) (hh2 : σ.hs ≤ hs')
    (hsame : ∀ g, g < w.heap.size → φ g = none → w'.heap[g]? = w.heap[g]?) (hsh : Shp w w')
    (hown : ∀ g, φ g ≠ none → ∀ k b, σ.m k = some b → ∀ p, ρ k = some p → p.1 ≠ g)
    (hgood : ∀ g T es, φ g = some (.sl (some g) (some T) es) → ∃ v', DR (Sof A0 σ.B ρ (σ.re φ).m w') w' (.sl (some g) (some T) es) v') : Rel A0 N w0 ρ { σ.re φ with hs := hs' } a w' :=
  h.reX φ none (σ.re φ).m hbel hsz hh1 hh2 (fun _ _ => rfl) (fun _ hk => by cases hk) (fun g hg hn _ => hsame g hg hn) hsh hown hgood
end
end Go.Vs
