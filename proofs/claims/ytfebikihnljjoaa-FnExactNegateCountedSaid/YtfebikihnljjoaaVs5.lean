/-
  Vs5: a part of a proof of this seat: the value-level semantics of Go code without maps (Vs), its walk rules (Vt), the frame of a row (Vr), facts of types, schedules, walks. It holds of every program and state that its hypotheses name.
-/
import Derived.Test.YtfebikihnljjoaaVs4
set_option linter.unusedSimpArgs false
set_option linter.unusedVariables false
namespace Go.Vs
open Go.RowKit

theorem mem_idsL {x : D} {l : List D} (h : x ∈ l) {i : Nat} (hi : i ∈ x.ids) : i ∈ idsL l := by
  induction l with
  | nil => cases h
  | cons y r ih =>
    simp only [idsL, List.mem_append]
    rcases List.mem_cons.1 h with rfl | h
    · exact .inl hi
    · exact .inr (ih h)

theorem mem_idsLL {e : List D} {l : List (List D)} (h : e ∈ l) {i : Nat} (hi : i ∈ idsL e) : i ∈ idsLL l := by
  induction l with
  | nil => cases h
  | cons y r ih =>
    simp only [idsLL, List.mem_append]
    rcases List.mem_cons.1 h with rfl | h
    · exact .inl hi
    · exact .inr (ih h)

theorem of_idsL {l : List D} {i : Nat} (hi : i ∈ idsL l) : ∃ x, x ∈ l ∧ i ∈ x.ids := by
  induction l with
  | nil => simp [idsL] at hi
  | cons y r ih =>
    simp only [idsL, List.mem_append] at hi
    rcases hi with h | h
    · exact ⟨y, by simp, h⟩
    · obtain ⟨x, hx, h⟩ := ih h; exact ⟨x, by simp [hx], h⟩

theorem of_idsLL {l : List (List D)} {i : Nat} (hi : i ∈ idsLL l) : ∃ e, e ∈ l ∧ i ∈ idsL e := by
  induction l with
  | nil => simp [idsLL] at hi
  | cons y r ih =>
    simp only [idsLL, List.mem_append] at hi
    rcases hi with h | h
    · exact ⟨y, by simp, h⟩
    · obtain ⟨x, hx, h⟩ := ih h; exact ⟨x, by simp [hx], h⟩

section
variable {S S' : Nat → Prop} {w w' : World}

theorem DR.mono (hS : ∀ g, S g → S' g) (hw : ∀ g, S g → w'.heap[g]? = w.heap[g]?) {x : D} {v : Value} (h : DR S w x v) : DR S' w' x v := by
  induction h with
  | bool b => exact .bool b
  | int k n => exact .int k n
  | str s => exact .str s
  | nil T => exact .nil T
  | sl g T es a cap sz vs hg ha hcap hm hsz hc hd hwh ih =>
    refine .sl g T es a cap sz vs (hS g hg) ha hcap hm hsz (fun i e he j u hu => ?_) ih (fun t ht => ?_)
    · rw [World.cell?_of_block (w := w)]
      · exact hc i e he j u hu
      · have hpos : 0 < cap := Nat.lt_of_lt_of_le (by have := (List.getElem?_eq_some_iff.1 he).1; omega) hcap
        have : (a.add (i * sz + j)).block = g := by unfold Addr.add; split <;> exact ha hpos
        rw [this]; exact hw g hg
    · obtain ⟨h1, h2, cur, h3, h4⟩ := hwh t ht
      exact ⟨h1, h2, cur, (hw g hg).trans h3, h4⟩

theorem DR.ids {x : D} {v : Value} (h : DR S w x v) : ∀ i ∈ x.ids, S i := by
  induction h with
  | bool b => intro i hi; simp [D.ids] at hi
  | int k n => intro i hi; simp [D.ids] at hi
  | str s => intro i hi; simp [D.ids] at hi
  | nil T => intro i hi; simp [D.ids, idsLL] at hi
  | sl g T es a cap sz vs hg ha hcap hm hsz hc hd hwh ih =>
    intro i hi
    simp only [D.ids, List.mem_append] at hi
    rcases hi with hi | hi
    · simp at hi; subst hi; exact hg
    · obtain ⟨e, he, hi⟩ := of_idsLL hi
      obtain ⟨u, hu, hi⟩ := of_idsL hi
      obtain ⟨m, hm⟩ := List.mem_iff_getElem?.1 he
      obtain ⟨n, hn⟩ := List.mem_iff_getElem?.1 hu
      exact ih m e hm n u hn i hi

theorem DR.strong {x : D} {v : Value} (h : DR S w x v) : DR (fun g => S g ∧ g ∈ x.ids) w x v := by
  induction h with
  | bool b => exact .bool b
  | int k n => exact .int k n
  | str s => exact .str s
  | nil T => exact .nil T
  | sl g T es a cap sz vs hg ha hcap hm hsz hc hd hwh ih =>
    refine .sl g T es a cap sz vs ⟨hg, by simp [D.ids]⟩ ha hcap hm hsz hc (fun i e he j u hu => ?_) hwh
    refine (ih i e he j u hu).mono (fun g' hg' => ⟨hg'.1, ?_⟩) (fun _ _ => rfl)
    simp only [D.ids, List.mem_append]
    exact .inr (mem_idsLL (List.mem_of_getElem? he) (mem_idsL (List.mem_of_getElem? hu) hg'.2))

theorem DR.oneCell {x : D} {v : Value} (h : DR S w x v) : v.oneCell' = true := by
  cases h <;> rfl
theorem DR.cells {x : D} {v : Value} (h : DR S w x v) : v.cells = #[v] := by
  cases h <;> rfl
end

theorem add_block (a : Addr) (n : Nat) : (a.add n).block = a.block := by unfold Addr.add; split <;> rfl

/-- what of key k was told is told again -/
def KC (ρ : Nat → Option (Nat × Nat)) (m : Nat → Option Blk) (ρ' : Nat → Option (Nat × Nat)) (m' : Nat → Option Blk) (k : Nat) : Prop :=
  match m' k with
  | none => True
  | some (.row _ sz' es') => ρ' k = ρ k ∧ ∃ T es, m k = some (.row T sz' es) ∧ es.length ≤ es'.length
  | some (.box _) => ρ' k = ρ k ∧ ∃ cs, m k = some (.box cs)

section
variable {ρ ρ' : Nat → Option (Nat × Nat)} {m m' : Nat → Option Blk} {S S' : Nat → Prop} {w w' : World}

theorem KC.refl (k : Nat) : KC ρ m ρ m k := by
  unfold KC
  cases h : m k with
  | none => trivial
  | some b => cases b with
    | box cs => exact ⟨rfl, cs, rfl⟩
    | row T sz es => exact ⟨rfl, T, es, rfl, Nat.le_refl _⟩

theorem VR_own {k lo n : Nat} {val : Value} (hk : KC ρ m ρ' m' k) (h : VR ρ m S w (.own k lo n) val) : VR ρ' m' S' w' (.own k lo n) val := by
  simp only [VR] at h ⊢
  unfold KC at hk
  cases h' : m' k with
  | none => trivial
  | some b =>
    cases b with
    | box cs =>
      simp only [h'] at hk
      obtain ⟨_, cs, hm⟩ := hk
      simp [hm] at h
    | row T sz es =>
      simp only [h'] at hk
      obtain ⟨hr, T0, es0, hm, hl⟩ := hk
      simp only [hm] at h
      exact ⟨by omega, by rw [hr]; exact h.2⟩

theorem VR_ptr {k i off : Nat} {val : Value} (hk : KC ρ m ρ' m' k) (h : VR ρ m S w (.ptr k i off) val) : VR ρ' m' S' w' (.ptr k i off) val := by
  simp only [VR] at h ⊢
  unfold KC at hk
  cases h' : m' k with
  | none => trivial
  | some b =>
    cases b with
    | box cs =>
      simp only [h'] at hk
      obtain ⟨hr, cs, hm⟩ := hk
      simp only [hm] at h
      exact ⟨h.1, by rw [hr]; exact h.2⟩
    | row T sz es =>
      simp only [h'] at hk
      obtain ⟨hr, T0, es0, hm, hl⟩ := hk
      simp only [hm] at h
      show ∃ g cap, ρ' k = some (g, cap) ∧ _
      rw [hr]; exact h

mutual
theorem VR.mono (hS : ∀ g, S g → S' g) (hw : ∀ g, S g → w'.heap[g]? = w.heap[g]?) (hk : ∀ k, KC ρ m ρ' m' k) : ∀ (v : V) (val : Value), VR ρ m S w v val → VR ρ' m' S' w' v val
  | .d x, val, h => by simp only [VR] at h ⊢; exact h.mono hS hw
  | .own k lo n, val, h => VR_own (hk k) h
  | .ptr k i off, val, h => VR_ptr (hk k) h
  | .fptr x i off, val, h => by
    simp only [VR] at h ⊢
    obtain ⟨a, n, c, sz, h1, h2⟩ := h
    exact ⟨a, n, c, sz, h1.mono hS hw, h2⟩
  | .bad, val, h => by simp [VR]
  | .agg cs, val, h => by
    simp only [VR] at h ⊢
    obtain ⟨l, h1, h2⟩ := h
    exact ⟨l, h1, LR.mono hS hw hk cs l h2⟩
  | .tup vs, val, h => by
    simp only [VR] at h ⊢
    obtain ⟨l, h1, h2⟩ := h
    exact ⟨l, h1, LR.mono hS hw hk vs l h2⟩
theorem LR.mono (hS : ∀ g, S g → S' g) (hw : ∀ g, S g → w'.heap[g]? = w.heap[g]?) (hk : ∀ k, KC ρ m ρ' m' k) : ∀ (l : List V) (vals : List Value), LR ρ m S w l vals → LR ρ' m' S' w' l vals
  | [], [], _ => by simp [LR]
  | [], _ :: _, h => by simp [LR] at h
  | _ :: _, [], h => by simp [LR] at h
  | c :: cs, v :: l, h => by
    simp only [LR] at h ⊢
    exact ⟨VR.mono hS hw hk c v h.1, LR.mono hS hw hk cs l h.2⟩
end

mutual
theorem VR.wipe (k : Nat) (hS : ∀ g, S g → S' g) (hw : ∀ g, S g → w'.heap[g]? = w.heap[g]?) (hk : ∀ j, j ≠ k → KC ρ m ρ' m' j) : ∀ (v : V) (val : Value), VR ρ m S w v val → VR ρ' m' S' w' (wipe k v) val
  | .d x, val, h => by simp only [VR, Vs.wipe] at h ⊢; exact h.mono hS hw
  | .own j lo n, val, h => by
    simp only [Vs.wipe]
    split
    · simp [VR]
    · rename_i hj; exact VR_own (hk j hj) h
  | .ptr j i off, val, h => by
    simp only [Vs.wipe]
    split
    · simp [VR]
    · rename_i hj; exact VR_ptr (hk j hj) h
  | .fptr x i off, val, h => by
    simp only [VR, Vs.wipe] at h ⊢
    obtain ⟨a, n, c, sz, h1, h2⟩ := h
    exact ⟨a, n, c, sz, h1.mono hS hw, h2⟩
  | .bad, val, h => by simp [VR, Vs.wipe]
  | .agg cs, val, h => by
    simp only [VR, Vs.wipe] at h ⊢
    obtain ⟨l, h1, h2⟩ := h
    exact ⟨l, h1, LR.wipe k hS hw hk cs l h2⟩
  | .tup vs, val, h => by
    simp only [VR, Vs.wipe] at h ⊢
    obtain ⟨l, h1, h2⟩ := h
    exact ⟨l, h1, LR.wipe k hS hw hk vs l h2⟩
theorem LR.wipe (k : Nat) (hS : ∀ g, S g → S' g) (hw : ∀ g, S g → w'.heap[g]? = w.heap[g]?) (hk : ∀ j, j ≠ k → KC ρ m ρ' m' j) : ∀ (l : List V) (vals : List Value), LR ρ m S w l vals → LR ρ' m' S' w' (wipeL k l) vals
  | [], [], _ => by simp [LR, Vs.wipeL]
  | [], _ :: _, h => by simp [LR] at h
  | _ :: _, [], h => by simp [LR] at h
  | c :: cs, v :: l, h => by
    simp only [LR, Vs.wipeL] at h ⊢
    exact ⟨VR.wipe k hS hw hk c v h.1, LR.wipe k hS hw hk cs l h.2⟩
end

theorem wipeL_map (k : Nat) : ∀ l : List V, wipeL k l = l.map (wipe k)
  | [] => rfl
  | v :: r => by simp [wipeL, wipeL_map k r]
theorem frzL_map (k : Nat) (g : Option Nat) (T : TypeId × Nat) (es : List (List D)) : ∀ l : List V, frzL k g T es l = l.map (frz k g T es)
  | [] => rfl
  | v :: r => by simp [frzL, frzL_map k g T es r]

theorem LR.length : ∀ {l : List V} {vals : List Value}, LR ρ m S w l vals → l.length = vals.length
  | [], [], _ => rfl
  | [], _ :: _, h => by simp [LR] at h
  | _ :: _, [], h => by simp [LR] at h
  | c :: cs, v :: l, h => by simp only [LR] at h; simp [LR.length h.2]

theorem LR.get : ∀ {l : List V} {vals : List Value}, LR ρ m S w l vals → ∀ (i : Nat) (c : V), l[i]? = some c → ∃ v, vals[i]? = some v ∧ VR ρ m S w c v
  | [], [], _, i, c, h => by simp at h
  | [], _ :: _, h, _, _, _ => by simp [LR] at h
  | _ :: _, [], h, _, _, _ => by simp [LR] at h
  | c :: cs, v :: l, h, i, c', hc => by
    simp only [LR] at h
    cases i with
    | zero => simp at hc; subst hc; exact ⟨v, rfl, h.1⟩
    | succ i => simp at hc; simpa using LR.get h.2 i c' hc

theorem LR.of_get : ∀ {l : List V} {vals : List Value}, l.length = vals.length → (∀ (i : Nat) (c : V) (v : Value), l[i]? = some c → vals[i]? = some v → VR ρ m S w c v) → LR ρ m S w l vals
  | [], [], _, _ => by simp [LR]
  | [], _ :: _, h, _ => by simp at h
  | _ :: _, [], h, _ => by simp at h
  | c :: cs, v :: l, h, hg => by
    simp only [LR]
    exact ⟨hg 0 c v rfl rfl, LR.of_get (by simpa using h) fun i c' v' h1 h2 => hg (i + 1) c' v' (by simpa using h1) (by simpa using h2)⟩

theorem LR.append : ∀ {l l' : List V} {vals vals' : List Value}, LR ρ m S w l vals → LR ρ m S w l' vals' → LR ρ m S w (l ++ l') (vals ++ vals')
  | [], _, [], _, _, h' => h'
  | [], _, _ :: _, _, h, _ => by simp [LR] at h
  | _ :: _, _, [], _, h, _ => by simp [LR] at h
  | c :: cs, l', v :: l, vals', h, h' => by
    simp only [LR, List.cons_append] at h ⊢
    exact ⟨h.1, LR.append h.2 h'⟩
theorem LR.take {l : List V} {vals : List Value} (h : LR ρ m S w l vals) (n : Nat) : LR ρ m S w (l.take n) (vals.take n) := by
  refine LR.of_get (by simp [h.length]) fun i c v hc hv => ?_
  rw [List.getElem?_take] at hc hv
  split at hc
  · rename_i hi
    rw [if_pos hi] at hv
    obtain ⟨v', h1, h2⟩ := h.get i c hc
    rw [hv] at h1; cases h1; exact h2
  · cases hc
theorem LR.drop {l : List V} {vals : List Value} (h : LR ρ m S w l vals) (n : Nat) : LR ρ m S w (l.drop n) (vals.drop n) := by
  refine LR.of_get (by simp [h.length]) fun i c v hc hv => ?_
  rw [List.getElem?_drop] at hc hv
  obtain ⟨v', h1, h2⟩ := h.get _ c hc
  rw [hv] at h1; cases h1; exact h2
end

end Go.Vs
