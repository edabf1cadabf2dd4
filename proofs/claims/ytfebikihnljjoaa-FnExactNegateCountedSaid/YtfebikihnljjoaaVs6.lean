/-
  Vs6: a part of a proof of this seat: the value-level semantics of Go code without maps (Vs), its walk rules (Vt), the frame of a row (Vr), facts of types, schedules, walks. It holds of every program and state that its hypotheses name.
-/
import Derived.Test.YtfebikihnljjoaaVs5
set_option linter.unusedSimpArgs false
set_option linter.unusedVariables false
namespace Go.Vs
open Go.RowKit

section
variable {ρ : Nat → Option (Nat × Nat)} {m : Nat → Option Blk} {S : Nat → Prop} {w : World}
mutual
theorem VR.ids_ : ∀ (v : V) (val : Value), VR ρ m S w v val → ∀ i ∈ v.ids, S i
  | .d x, val, h => by simp only [VR, V.ids] at h ⊢; exact h.ids
  | .own k lo n, val, h => by simp [V.ids]
  | .ptr k i off, val, h => by simp [V.ids]
  | .fptr x i off, val, h => by
    simp only [VR, V.ids] at h ⊢
    obtain ⟨a, n, c, sz, h1, h2⟩ := h
    exact h1.ids
  | .bad, val, h => by simp [V.ids]
  | .agg cs, val, h => by
    simp only [VR, V.ids] at h ⊢
    obtain ⟨l, _, h2⟩ := h
    exact LR.ids_ cs l h2
  | .tup cs, val, h => by
    simp only [VR, V.ids] at h ⊢
    obtain ⟨l, _, h2⟩ := h
    exact LR.ids_ cs l h2
theorem LR.ids_ : ∀ (l : List V) (vals : List Value), LR ρ m S w l vals → ∀ i ∈ idsVL l, S i
  | [], [], _ => by simp [idsVL]
  | [], _ :: _, h => by simp [LR] at h
  | _ :: _, [], h => by simp [LR] at h
  | c :: cs, v :: l, h => by
    simp only [LR, idsVL, List.mem_append] at h ⊢
    intro i hi
    rcases hi with hi | hi
    · exact VR.ids_ c v h.1 i hi
    · exact LR.ids_ cs l h.2 i hi
end
end

section
variable {A0 : Env} {N : Nat} {w0 : World} {ρ : Nat → Option (Nat × Nat)} {σ : St} {a : Act} {w : World}

theorem eval_put (a : Act) (d : Option Tmp) (v : Value) (hd : ∀ t, d = some t → t < a.tmps.size) (i : Nat) :
    (a.put d v).eval (.tmp i) = if d = some i then v else a.eval (.tmp i) := by
  cases d with
  | none => simp [Act.put]
  | some d =>
    have := hd d rfl
    by_cases h : d = i
    · subst h; simp [Act.put, Act.eval, this]
    · have h' : ¬ (some d = some i) := by simpa using h
      rw [if_neg h']
      simp [Act.put, Act.eval, Array.getD_eq_getD_getElem?, Array.getElem?_setIfInBounds_ne h]

theorem put_t (σ : St) (d : Option Tmp) (v : V) (i : Nat) : (σ.put d v).t i = if d = some i then v else σ.t i := by
  cases d with
  | none => simp [St.put]
  | some d => simp [St.put, upd, eq_comm]
@[simp] theorem put_m (σ : St) (d : Option Tmp) (v : V) : (σ.put d v).m = σ.m := by cases d <;> rfl
@[simp] theorem put_B (σ : St) (d : Option Tmp) (v : V) : (σ.put d v).B = σ.B := by cases d <;> rfl
@[simp] theorem put_W (σ : St) (d : Option Tmp) (v : V) : (σ.put d v).W = σ.W := by cases d <;> rfl
@[simp] theorem put_hs (σ : St) (d : Option Tmp) (v : V) : (σ.put d v).hs = σ.hs := by cases d <;> rfl
@[simp] theorem aput_defers (a : Act) (d : Option Tmp) (v : Value) : (a.put d v).defers = a.defers := by cases d <;> rfl
@[simp] theorem aput_size (a : Act) (d : Option Tmp) (v : Value) : (a.put d v).tmps.size = a.tmps.size := by cases d <;> simp [Act.put]

theorem Rel.put (h : Rel A0 N w0 ρ σ a w) (d : Option Tmp) (hd : ∀ t, d = some t → t < N) {v : V} {val : Value}
    (hv : VR ρ σ.m (Sof A0 σ.B ρ σ.m w) w v val) : Rel A0 N w0 ρ (σ.put d v) (a.put d val) w := by
  refine ⟨h.below, h.hN, h.key, by simpa using h.norow, by simpa using h.hG, by simpa using h.hB, by simpa using h.hs, by simpa using h.hs0, by simpa using h.defers, by simpa using h.size, fun i => ?_, by simpa using h.mem, by simpa using h.inj⟩
  rw [put_m, put_B, put_t, eval_put _ _ _ (by rw [h.size]; exact hd)]
  split
  · exact hv
  · exact h.tmps i

/-- the same memory in a later world -/
theorem Rel.world (h : Rel A0 N w0 ρ σ a w) {w' : World} (hb : Bel A0.G w0.heap.size w0 w') (hsame : ∀ g, g < w.heap.size → w'.heap[g]? = w.heap[g]?) (hsz : w.heap.size ≤ w'.heap.size)
    {hs' : Nat} (h1 : hs' ≤ w'.heap.size) (h2 : σ.hs ≤ hs') : Rel A0 N w0 ρ { σ with hs := hs' } a w' := by
  have hS : ∀ g, Sof A0 σ.B ρ σ.m w g → Sof A0 σ.B ρ σ.m w' g := fun g hg => ⟨hg.1, by have := hg.2.1; omega, hg.2.2⟩
  have hw : ∀ g, Sof A0 σ.B ρ σ.m w g → w'.heap[g]? = w.heap[g]? := fun g hg => hsame g hg.2.1
  have lt_of : ∀ (g : Nat) (o : Obj), w.heap[g]? = some o → g < w.heap.size := fun g o hg => (Array.getElem?_eq_some_iff.1 hg).1
  refine ⟨hb, h.hN, h.key, h.norow, h.hG, h.hB, h1, by have := h.hs0; show σ.B ≤ hs'; omega, h.defers, h.size, fun i => VR.mono hS hw (fun k => KC.refl k) _ _ (h.tmps i), fun k b hk => ?_, h.inj⟩
  have := h.mem k b hk
  cases b with
  | box cs =>
    obtain ⟨g, cap, hr, hB, cur, T, hc, hl⟩ := this
    exact ⟨g, cap, hr, hB, cur, T, (hsame g (lt_of g _ hc)).trans hc, LR.mono hS hw (fun k => KC.refl k) _ _ hl⟩
  | row T sz es =>
    refine ⟨this.1, ?_⟩
    have h3 := this.2
    cases hr : ρ k with
    | none => rw [hr] at h3; exact h3
    | some p =>
      obtain ⟨g, cap⟩ := p
      rw [hr] at h3
      obtain ⟨hB, hc1, hc2, cur, hc, hcs, hall⟩ := h3
      refine ⟨hB, hc1, hc2, cur, (hsame g (lt_of g _ hc)).trans hc, hcs, fun i e he => ⟨(hall i e he).1, fun j u hu => ?_⟩⟩
      obtain ⟨v, hv, hd⟩ := (hall i e he).2 j u hu
      exact ⟨v, hv, hd.mono hS hw⟩

theorem BlkR.lt {B : Nat} {S : Nat → Prop} {m : Nat → Option Blk} {r : Option (Nat × Nat)} {b : Blk} (h : BlkR A0.G ρ m S B w r b) : ∀ p, r = some p → (B ≤ p.1 ∨ A0.G p.1) ∧ p.1 < w.heap.size := by
  rintro ⟨g, cap⟩ rfl
  cases b with
  | box cs =>
    obtain ⟨g', cap', hr, hB, cur, T, hc, hl⟩ := h
    cases hr
    exact ⟨hB, (Array.getElem?_eq_some_iff.1 hc).1⟩
  | row T sz es =>
    obtain ⟨_, hB, hc1, hc2, cur, hc, _⟩ := h
    exact ⟨.inl hB, (Array.getElem?_eq_some_iff.1 hc).1⟩
theorem BlkR.lo {B : Nat} {S : Nat → Prop} {m : Nat → Option Blk} {r : Option (Nat × Nat)} {T sz : Nat} {es : List (List D)} (h : BlkR A0.G ρ m S B w r (.row T sz es)) : ∀ p, r = some p → B ≤ p.1 := by
  rintro ⟨g, cap⟩ rfl
  exact h.2.1

@[simp] theorem lay_B (k : Nat) (b : Blk) : (σ.lay k b).B = σ.B := rfl
@[simp] theorem lay_hs (k : Nat) (b : Blk) : (σ.lay k b).hs = σ.hs := rfl

theorem lay_m_ne (σ : St) (k j : Nat) (b : Blk) (h : j ≠ k) : (σ.lay k b).m j = (σ.m j).map (Blk.map (wipe k)) := by simp [St.lay, upd, h, mapM]
theorem lay_m_same (σ : St) (k : Nat) (b : Blk) : (σ.lay k b).m k = some (b.map (wipe k)) := by simp [St.lay, upd]

theorem KC_lay (r : Option (Nat × Nat)) (k j : Nat) (b : Blk) (h : j ≠ k) : KC ρ σ.m (upd ρ k r) (σ.lay k b).m j := by
  unfold KC
  rw [lay_m_ne _ _ _ _ h]
  have hr : upd ρ k r j = ρ j := by simp [upd, h]
  cases hm : σ.m j with
  | none => trivial
  | some b0 =>
    cases b0 with
    | box cs => exact ⟨hr, cs, rfl⟩
    | row T sz es => exact ⟨hr, T, es, rfl, Nat.le_refl _⟩

/-- a block laid at key k: a new one, or the old one of that key written anew -/
theorem Rel.lay (h : Rel A0 N w0 ρ σ a w) (k : Nat) (hk0 : k ≠ 1000) (b : Blk) (r : Option (Nat × Nat)) {w' : World} (hbel : Bel A0.G w0.heap.size w0 w') (hsz : w.heap.size ≤ w'.heap.size)
    (hsame : ∀ g, g < w.heap.size → (∀ b0 p, σ.m k = some b0 → ρ k = some p → p.1 ≠ g) → w'.heap[g]? = w.heap[g]?)
    (hr : ∀ p, r = some p → w.heap.size ≤ p.1 ∨ ∃ b0 p0, σ.m k = some b0 ∧ ρ k = some p0 ∧ p0.1 = p.1)
    (hb : (∀ g, Sof A0 σ.B ρ σ.m w g → Sof A0 σ.B (upd ρ k r) (σ.lay k b).m w' g) → (∀ g, Sof A0 σ.B ρ σ.m w g → w'.heap[g]? = w.heap[g]?) →
      BlkR A0.G (upd ρ k r) (σ.lay k b).m (Sof A0 σ.B (upd ρ k r) (σ.lay k b).m w') σ.B w' r (b.map (wipe k))) :
    Rel A0 N w0 (upd ρ k r) (σ.lay k b) a w' := by
  have hS : ∀ g, Sof A0 σ.B ρ σ.m w g → Sof A0 σ.B (upd ρ k r) (σ.lay k b).m w' g := by
    intro g hg
    refine ⟨hg.1, by have := hg.2.1; omega, fun j b1 hj p hp => ?_⟩
    by_cases hjk : j = k
    · subst hjk
      have hp' : r = some p := by simpa [upd] using hp
      rcases hr p hp' with hr | ⟨b0, p0, h1, h2, h3⟩
      · have := hg.2.1; omega
      · rw [← h3]; exact hg.2.2 j b0 h1 p0 h2
    · rw [lay_m_ne _ _ _ _ hjk] at hj
      have hp' : ρ j = some p := by simpa [upd, hjk] using hp
      cases hm : σ.m j with
      | none => simp [hm] at hj
      | some b0 => exact hg.2.2 j b0 hm p hp'
  have hw : ∀ g, Sof A0 σ.B ρ σ.m w g → w'.heap[g]? = w.heap[g]? := fun g hg => hsame g hg.2.1 (fun b0 p h1 h2 => hg.2.2 k b0 h1 p h2)
  have hold : ∀ j b0 p, j ≠ k → σ.m j = some b0 → ρ j = some p → w'.heap[p.1]? = w.heap[p.1]? := by
    intro j b0 p hjk hj hp
    refine hsame p.1 ((h.mem j b0 hj).lt p hp).2 (fun b1 p1 h1 h2 heq => hjk ?_)
    exact h.inj j k b0 b1 p p1 hj h1 hp h2 heq.symm
  refine ⟨hbel, h.hN, by simpa [upd, Ne.symm hk0] using h.key, by rw [lay_m_ne _ _ _ _ (Ne.symm hk0)]; have := h.norow; cases hm : σ.m 1000 with | none => rfl | some b => cases b <;> simp_all [isRow, Blk.map], h.hG, h.hB, Nat.le_trans h.hs hsz, h.hs0, h.defers, h.size, fun i => VR.wipe k hS hw (fun j hj => KC_lay r k j b hj) _ _ (h.tmps i), fun j b1 hj => ?_, ?_⟩
  · by_cases hjk : j = k
    · subst hjk
      rw [lay_m_same] at hj
      cases hj
      have : upd ρ j r j = r := by simp [upd]
      rw [this]
      exact hb hS hw
    · rw [lay_m_ne _ _ _ _ hjk] at hj
      have hρ : upd ρ k r j = ρ j := by simp [upd, hjk]
      rw [hρ]
      cases hm : σ.m j with
      | none => simp [hm] at hj
      | some b0 =>
        simp only [hm, Option.map_some, Option.some.injEq] at hj
        subst hj
        have := h.mem j b0 hm
        cases b0 with
        | box cs =>
          obtain ⟨g, cap, hr', hB, cur, T, hc, hl⟩ := this
          refine ⟨g, cap, hr', hB, cur, T, (hold j _ (g, cap) hjk hm hr').trans hc, ?_⟩
          rw [← wipeL_map]
          exact LR.wipe k hS hw (fun j hj => KC_lay r k j b hj) _ _ hl
        | row T sz es =>
          refine ⟨this.1, ?_⟩
          have h3 := this.2
          cases hr' : ρ j with
          | none => rw [hr'] at h3; exact h3
          | some p =>
            obtain ⟨g, cap⟩ := p
            rw [hr'] at h3
            obtain ⟨hB, hc1, hc2, cur, hc, hcs, hall⟩ := h3
            refine ⟨hB, hc1, hc2, cur, (hold j _ (g, cap) hjk hm hr').trans hc, hcs, fun i e he => ⟨(hall i e he).1, fun j u hu => ?_⟩⟩
            obtain ⟨v, hv, hd⟩ := (hall i e he).2 j u hu
            exact ⟨v, hv, hd.mono hS hw⟩
  · intro j j' b1 b1' p p' hj hj' hp hp' heq
    have key : ∀ j b1 p, (σ.lay k b).m j = some b1 → upd ρ k r j = some p → j ≠ k → ∃ b0, σ.m j = some b0 ∧ ρ j = some p := by
      intro j b1 p hj hp hjk
      rw [lay_m_ne _ _ _ _ hjk] at hj
      cases hm : σ.m j with
      | none => simp [hm] at hj
      | some b0 => exact ⟨b0, rfl, by simpa [upd, hjk] using hp⟩
    have cross : ∀ j b1 p pk, (σ.lay k b).m j = some b1 → upd ρ k r j = some p → j ≠ k → r = some pk → p.1 = pk.1 → False := by
      intro j b1 p pk hj hp hjk hrk heq
      obtain ⟨b0, hm, hρ⟩ := key j b1 p hj hp hjk
      have hlt := ((h.mem j b0 hm).lt p hρ).2
      rcases hr pk hrk with hr | ⟨b2, p2, h1, h2, h3⟩
      · omega
      · exact hjk (h.inj j k b0 b2 p p2 hm h1 hρ h2 (heq.trans h3.symm))
    by_cases hjk : j = k
    · by_cases hjk' : j' = k
      · rw [hjk, hjk']
      · subst hjk
        have : r = some p := by simpa [upd] using hp
        exact (cross j' b1' p' p hj' hp' hjk' this heq.symm).elim
    · by_cases hjk' : j' = k
      · subst hjk'
        have : r = some p' := by simpa [upd] using hp'
        exact (cross j b1 p p' hj hp hjk this heq).elim
      · obtain ⟨b0, hm, hρ⟩ := key j b1 p hj hp hjk
        obtain ⟨b0', hm', hρ'⟩ := key j' b1' p' hj' hp' hjk'
        exact h.inj j j' b0 b0' p p' hm hm' hρ hρ' heq
end
end Go.Vs
