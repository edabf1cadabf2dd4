/-
  Vs7: a part of a proof of this seat: the value-level semantics of Go code without maps (Vs), its walk rules (Vt), the frame of a row (Vr), facts of types, schedules, walks. It holds of every program and state that its hypotheses name.
-/
import Derived.Test.YtfebikihnljjoaaVs6
set_option linter.unusedSimpArgs false
set_option linter.unusedVariables false
namespace Go.Vs
open Go.RowKit

section
variable {A0 : Env} {N : Nat} {w0 : World} {ρ : Nat → Option (Nat × Nat)} {σ : St} {a : Act} {w : World}

theorem add_lit (g o n : Nat) : (⟨g, o, none⟩ : Addr).add n = ⟨g, o + n, none⟩ := by
  unfold Addr.add
  split
  · rename_i h; subst h; rfl
  · rfl

theorem add_add' (p : Addr) (i j : Nat) : (p.add i).add j = p.add (i + j) := by
  unfold Addr.add
  by_cases hi : i = 0 <;> by_cases hj : j = 0 <;> simp [hi, hj, Nat.add_assoc]

theorem cell_of {g : Nat} {cur : Array Value} {T : TypeId} {f : Nat × Nat} (h : w.heap[g]? = some (.cells cur T f)) (o : Nat) : w.cell? ⟨g, o, none⟩ = cur[o]? := by
  simp [World.cell?, h]

/-- a slice over an own row, as data -/
theorem own_DR {S S' : Nat → Prop} {T sz : Nat} {es : List (List D)} {B : Nat} {k lo n : Nat} {m : Nat → Option Blk} {val : Value}
    (hb : BlkR A0.G ρ m S B w (ρ k) (.row T sz es)) (hl : lo + n ≤ es.length) (hv : OwnV (ρ k) sz lo n val) (hS : ∀ g, S g → S' g) (hg : ∀ p, ρ k = some p → S' p.1) :
    DR S' w (.sl ((ρ k).map (·.1)) (if lo = 0 ∧ n = es.length then some (T, sz) else none) ((es.drop lo).take n)) val := by
  obtain ⟨hsz, hrow⟩ := hb
  have hlen : ((es.drop lo).take n).length = n := by simp; omega
  cases hr : ρ k with
  | none =>
    rw [hr] at hrow hv
    subst hrow
    obtain ⟨h1, h2, h3⟩ := hv
    subst h1 h2 h3
    simpa using DR.nil _
  | some p =>
    obtain ⟨g, cap⟩ := p
    rw [hr] at hrow hv
    obtain ⟨ad, c, rfl, hab, hnc, hcm, hz, hp⟩ := hv
    obtain ⟨hB, hc1, hc2, cur, hc, hcs, hall⟩ := hrow
    have hat : ∀ (i : Nat) (e : List D), ((es.drop lo).take n)[i]? = some e → i < n ∧ es[lo + i]? = some e := by
      intro i e he
      rw [List.getElem?_take] at he
      split at he
      · rename_i hi; exact ⟨hi, by rwa [List.getElem?_drop] at he⟩
      · cases he
    have := DR.sl (S := S') (w := w) g (if lo = 0 ∧ n = es.length then some (T, sz) else none) ((es.drop lo).take n) ad c sz (fun x => cur.getD (lo * sz + x) undef) (hg _ hr) (fun _ => hab) (by omega) hcm
      (fun i e he => (hall _ e (hat i e he).2).1)
      (fun i e he j u hu => by
        obtain ⟨hi, he⟩ := hat i e he
        obtain ⟨h1, h2⟩ := hall _ e he
        obtain ⟨v, hv, hd⟩ := h2 j u hu
        rw [hp (by omega), add_lit, cell_of hc]
        have : (lo + i) * sz + j = lo * sz + (i * sz + j) := by rw [Nat.add_mul]; omega
        rw [this] at hv
        rw [hv]; simp [hv])
      (fun i e he j u hu => by
        obtain ⟨hi, he⟩ := hat i e he
        obtain ⟨h1, h2⟩ := hall _ e he
        obtain ⟨v, hv, hd⟩ := h2 j u hu
        have : (lo + i) * sz + j = lo * sz + (i * sz + j) := by rw [Nat.add_mul]; omega
        rw [this] at hv
        simp only [Array.getD_eq_getD_getElem?, hv, Option.getD_some]
        exact hd.mono hS (fun _ _ => rfl))
      (fun t ht => by
        split at ht
        · rename_i hcond
          cases ht
          obtain ⟨ha, hcc⟩ := hz hcond.1
          exact ⟨ha, ⟨hsz, rfl⟩, cur, hc, by rw [hcc]; exact hcs⟩
        · cases ht)
    rw [hlen] at this
    exact this

theorem KC_frz (k j : Nat) (g : Option Nat) (T : TypeId × Nat) (es : List (List D)) (h : j ≠ k) : KC ρ σ.m ρ (σ.frz k g T es).m j := by
  unfold KC
  have : (σ.frz k g T es).m j = (σ.m j).map (Blk.map (frz k g T es)) := by simp [St.frz, upd, h, mapM]
  rw [this]
  cases hm : σ.m j with
  | none => trivial
  | some b0 =>
    cases b0 with
    | box cs => exact ⟨rfl, cs, rfl⟩
    | row T sz es => exact ⟨rfl, T, es, rfl, Nat.le_refl _⟩

mutual
theorem VR.frz {m m' : Nat → Option Blk} {S S' : Nat → Prop} {B : Nat} {k T sz : Nat} {es : List (List D)} (hm : m k = some (.row T sz es)) (hb : BlkR A0.G ρ m S B w (ρ k) (.row T sz es))
    (hS : ∀ g, S g → S' g) (hg : ∀ p, ρ k = some p → S' p.1) (hk : ∀ j, j ≠ k → KC ρ m ρ m' j) :
    ∀ (v : V) (val : Value), VR ρ m S w v val → VR ρ m' S' w (frz k ((ρ k).map (·.1)) (T, sz) es v) val
  | .d x, val, h => by simp only [VR, Vs.frz] at h ⊢; exact h.mono hS (fun _ _ => rfl)
  | .own j lo n, val, h => by
    simp only [Vs.frz]
    split
    · rename_i hj
      subst hj
      simp only [VR, hm] at h ⊢
      exact own_DR hb h.1 h.2 hS hg
    · rename_i hj; exact VR_own (hk j hj) h
  | .ptr j i off, val, h => by
    simp only [Vs.frz]
    split
    · simp [VR]
    · rename_i hj; exact VR_ptr (hk j hj) h
  | .fptr x i off, val, h => by
    simp only [VR, Vs.frz] at h ⊢
    obtain ⟨a, n, c, sz, h1, h2⟩ := h
    exact ⟨a, n, c, sz, h1.mono hS (fun _ _ => rfl), h2⟩
  | .bad, val, h => by simp [VR, Vs.frz]
  | .agg cs, val, h => by
    simp only [VR, Vs.frz] at h ⊢
    obtain ⟨l, h1, h2⟩ := h
    exact ⟨l, h1, LR.frz hm hb hS hg hk cs l h2⟩
  | .tup vs, val, h => by
    simp only [VR, Vs.frz] at h ⊢
    obtain ⟨l, h1, h2⟩ := h
    exact ⟨l, h1, LR.frz hm hb hS hg hk vs l h2⟩
theorem LR.frz {m m' : Nat → Option Blk} {S S' : Nat → Prop} {B : Nat} {k T sz : Nat} {es : List (List D)} (hm : m k = some (.row T sz es)) (hb : BlkR A0.G ρ m S B w (ρ k) (.row T sz es))
    (hS : ∀ g, S g → S' g) (hg : ∀ p, ρ k = some p → S' p.1) (hk : ∀ j, j ≠ k → KC ρ m ρ m' j) :
    ∀ (l : List V) (vals : List Value), LR ρ m S w l vals → LR ρ m' S' w (frzL k ((ρ k).map (·.1)) (T, sz) es l) vals
  | [], [], _ => by simp [LR, Vs.frzL]
  | [], _ :: _, h => by simp [LR] at h
  | _ :: _, [], h => by simp [LR] at h
  | c :: cs, v :: l, h => by
    simp only [LR, Vs.frzL] at h ⊢
    exact ⟨VR.frz hm hb hS hg hk c v h.1, LR.frz hm hb hS hg hk cs l h.2⟩
end

/-- an own row becomes data -/
theorem Rel.frz (h : Rel A0 N w0 ρ σ a w) {k T sz : Nat} {es : List (List D)} (hm : σ.m k = some (.row T sz es)) : Rel A0 N w0 ρ (σ.frz k ((ρ k).map (·.1)) (T, sz) es) a w := by
  have hmk : (σ.frz k ((ρ k).map (·.1)) (T, sz) es).m k = none := by simp [St.frz, upd]
  have hmne : ∀ j, j ≠ k → (σ.frz k ((ρ k).map (·.1)) (T, sz) es).m j = (σ.m j).map (Blk.map (Vs.frz k ((ρ k).map (·.1)) (T, sz) es)) := fun j hj => by simp [St.frz, upd, hj, mapM]
  have hback : ∀ j b, (σ.frz k ((ρ k).map (·.1)) (T, sz) es).m j = some b → j ≠ k ∧ ∃ b0, σ.m j = some b0 ∧ b = b0.map (Vs.frz k ((ρ k).map (·.1)) (T, sz) es) := by
    intro j b hj
    by_cases hjk : j = k
    · subst hjk; rw [hmk] at hj; cases hj
    · rw [hmne j hjk] at hj
      cases hm : σ.m j with
      | none => simp [hm] at hj
      | some b0 => simp [hm] at hj; exact ⟨hjk, b0, rfl, hj.symm⟩
  have hS : ∀ g, Sof A0 σ.B ρ σ.m w g → Sof A0 σ.B ρ (σ.frz k ((ρ k).map (·.1)) (T, sz) es).m w g := by
    intro g hg
    refine ⟨hg.1, hg.2.1, fun j b hj p hp => ?_⟩
    obtain ⟨_, b0, hb0, _⟩ := hback j b hj
    exact hg.2.2 j b0 hb0 p hp
  have hb := h.mem k _ hm
  have hg : ∀ p, ρ k = some p → Sof A0 σ.B ρ (σ.frz k ((ρ k).map (·.1)) (T, sz) es).m w p.1 := by
    intro p hp
    refine ⟨.inr (hb.lo p hp), (hb.lt p hp).2, fun j b hj q hq heq => ?_⟩
    obtain ⟨hjk, b0, hb0, _⟩ := hback j b hj
    exact hjk (h.inj j k b0 _ q p hb0 hm hq hp heq)
  have hk : ∀ j, j ≠ k → KC ρ σ.m ρ (σ.frz k ((ρ k).map (·.1)) (T, sz) es).m j := fun j hj => KC_frz k j _ (T, sz) es hj
  have hk0 : k ≠ 1000 := fun hk => by subst hk; have := h.norow; rw [hm] at this; cases this
  refine ⟨h.below, h.hN, h.key, by rw [hmne _ (Ne.symm hk0)]; have := h.norow; cases hm : σ.m 1000 with | none => rfl | some b => cases b <;> simp_all [isRow, Blk.map], h.hG, h.hB, h.hs, h.hs0, h.defers, h.size, fun i => VR.frz hm hb hS hg hk _ _ (h.tmps i), fun j b hj => ?_, fun j j' b b' p p' hj hj' hp hp' heq => ?_⟩
  · obtain ⟨hjk, b0, hb0, rfl⟩ := hback j b hj
    have := h.mem j b0 hb0
    cases b0 with
    | box cs =>
      obtain ⟨g, cap, hr', hB, cur, T', hc, hl⟩ := this
      refine ⟨g, cap, hr', hB, cur, T', hc, ?_⟩
      rw [← frzL_map]
      exact LR.frz hm hb hS hg hk _ _ hl
    | row T' sz' es' =>
      refine ⟨this.1, ?_⟩
      have h3 := this.2
      cases hr' : ρ j with
      | none => rw [hr'] at h3; exact h3
      | some p =>
        obtain ⟨g, cap⟩ := p
        rw [hr'] at h3
        obtain ⟨hB, hc1, hc2, cur, hc, hcs, hall⟩ := h3
        refine ⟨hB, hc1, hc2, cur, hc, hcs, fun i e he => ⟨(hall i e he).1, fun j u hu => ?_⟩⟩
        obtain ⟨v, hv, hd⟩ := (hall i e he).2 j u hu
        exact ⟨v, hv, hd.mono hS (fun _ _ => rfl)⟩
  · obtain ⟨_, b0, hb0, _⟩ := hback j b hj
    obtain ⟨_, b0', hb0', _⟩ := hback j' b' hj'
    exact h.inj j j' b0 b0' p p' hb0 hb0' hp hp' heq

theorem Rel.gam (h : Rel A0 N w0 ρ σ a w) : Gam σ (fun k => (ρ k).map (·.1)) w.heap.size := by
  have own : ∀ k b g, σ.m k = some b → (ρ k).map (·.1) = some g → ¬ Sof A0 σ.B ρ σ.m w g := by
    intro k b g hk hg hS
    cases hr : ρ k with
    | none => simp [hr] at hg
    | some p => simp [hr] at hg; exact hS.2.2 k b hk p hr hg
  refine ⟨fun k T sz es hk hne => ?_, fun k T sz es g hk hg => ⟨⟨?_, fun k' T' sz' es' hk' hin => ?_, fun k' cs hk' hin => ?_, fun i hin => ?_⟩, ?_⟩, fun k k' b b' g hk hk' hg hg' => ?_⟩
  · have := h.mem k _ hk
    cases hr : ρ k with
    | none => rw [hr] at this; exact absurd this.2 hne
    | some p => exact ⟨p.1, rfl⟩
  · cases hr : ρ k with
    | none => simp [hr] at hg
    | some p => simp [hr] at hg; subst hg; exact (h.mem k _ hk).lo p hr
  · refine own k _ g hk hg ?_
    have := h.mem k' _ hk'
    obtain ⟨e, he, hin⟩ := of_idsLL hin
    obtain ⟨u, hu, hin⟩ := of_idsL hin
    obtain ⟨i, hi⟩ := List.mem_iff_getElem?.1 he
    obtain ⟨j, hj⟩ := List.mem_iff_getElem?.1 hu
    have h3 := this.2
    cases hr : ρ k' with
    | none => rw [hr] at h3; subst h3; simp at hi
    | some p =>
      obtain ⟨g', cap⟩ := p
      rw [hr] at h3
      obtain ⟨_, _, _, cur, _, _, hall⟩ := h3
      obtain ⟨v, _, hd⟩ := (hall i e hi).2 j u hj
      exact hd.ids g hin
  · refine own k _ g hk hg ?_
    obtain ⟨g', cap, hr', hB, cur, T', hc, hl⟩ := h.mem k' _ hk'
    exact LR.ids_ _ _ hl g hin
  · exact own k _ g hk hg (VR.ids_ _ _ (h.tmps i) g hin)
  · cases hr : ρ k with
    | none => simp [hr] at hg
    | some p => simp [hr] at hg; subst hg; exact ((h.mem k _ hk).lt p hr).2
  · cases hr : ρ k with
    | none => simp [hr] at hg
    | some p =>
      cases hr' : ρ k' with
      | none => simp [hr'] at hg'
      | some p' => simp [hr, hr'] at hg hg'; exact h.inj k k' b b' p p' hk hk' hr hr' (hg.trans hg'.symm)

theorem Rel.frzs (h : Rel A0 N w0 ρ σ a w) (ks : List Nat) : Rel A0 N w0 ρ (σ.frzs (fun k => (ρ k).map (·.1)) ks) a w := by
  induction ks generalizing σ with
  | nil => exact h
  | cons k r ih =>
    simp only [St.frzs]
    cases hm : σ.m k with
    | none => exact ih h
    | some b =>
      cases b with
      | box cs => exact ih h
      | row T sz es => exact ih (h.frz hm)

theorem Rel.hs_ (h : Rel A0 N w0 ρ σ a w) : Rel A0 N w0 ρ { σ with hs := w.heap.size } a w :=
  h.world h.below (fun _ _ => rfl) (Nat.le_refl _) (Nat.le_refl _) h.hs
end
end Go.Vs
