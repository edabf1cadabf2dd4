/-
  Vs13: a part of a proof of this seat: the value-level semantics of Go code without maps (Vs), its walk rules (Vt), the frame of a row (Vr), facts of types, schedules, walks. It holds of every program and state that its hypotheses name.
-/
import Derived.Test.YtfebikihnljjoaaVs12
import Derived.Laws.Tables
set_option linter.unusedSimpArgs false
set_option linter.unusedVariables false
namespace Go.Vs
open Go.RowKit

theorem foldl_splice (off : Nat) : ∀ (news : List Value) (i : Nat) (cs : Array Value), off + i + news.length ≤ cs.size →
    ((news.zipIdx i).foldl (fun (cs : Array Value) (x : Value × Nat) => cs.setIfInBounds (off + x.2) x.1) cs).toList = splice cs.toList (off + i) news := by
  intro news
  induction news with
  | nil => intro i cs h; simp [splice, List.take_append_drop]
  | cons v r ih =>
    intro i cs h
    simp only [List.zipIdx_cons, List.foldl_cons]
    rw [ih (i + 1) _ (by simp only [Array.size_setIfInBounds, List.length_cons] at *; omega)]
    simp only [List.length_cons] at h
    have hlt : off + i < cs.toList.length := by simp; omega
    simp only [Array.toList_setIfInBounds, splice, List.length_cons]
    apply List.ext_getElem?
    intro j
    simp only [List.getElem?_append, List.length_append, List.length_take, List.length_set, List.length_cons, List.getElem?_take, List.getElem?_set, List.getElem?_drop, List.getElem?_cons]
    grind

section
variable {ρ : Nat → Option (Nat × Nat)} {m : Nat → Option Blk} {S : Nat → Prop} {w : World}

theorem LR.splice {l l' : List V} {vs vs' : List Value} (h : LR ρ m S w l vs) (h' : LR ρ m S w l' vs') (off : Nat) : LR ρ m S w (splice l off l') (splice vs off vs') := by
  unfold Vs.splice
  rw [h'.length]
  exact ((h.take off).append h').append (h.drop _)

theorem live_cells {v : V} {val : Value} (h : VR ρ m S w v val) (hl : live m v = true) : val.cells = #[val] ∧ v.cells = [v] ∧ val.oneCell' = true := by
  cases v with
  | d x => simp only [VR] at h; exact ⟨h.cells, rfl, h.oneCell⟩
  | own k lo n =>
    simp only [live] at hl
    simp only [VR] at h
    cases hm : m k with
    | none => simp [hm, isRow] at hl
    | some b =>
      cases b with
      | box cs => simp [hm, isRow] at hl
      | row T sz es =>
        simp only [hm] at h
        have h2 := h.2
        unfold OwnV at h2
        split at h2
        · rw [h2.1]; exact ⟨rfl, rfl, rfl⟩
        · obtain ⟨a, c, rfl, _⟩ := h2; exact ⟨rfl, rfl, rfl⟩
  | ptr k i off =>
    simp only [live] at hl
    simp only [VR] at h
    cases hm : m k with
    | none => simp [hm] at hl
    | some b =>
      cases b with
      | box cs => simp only [hm] at h; obtain ⟨_, g, cap, _, rfl⟩ := h; exact ⟨rfl, rfl, rfl⟩
      | row T sz es => simp only [hm] at h; obtain ⟨g, cap, _, rfl⟩ := h; exact ⟨rfl, rfl, rfl⟩
  | fptr x i off =>
    simp only [VR] at h
    obtain ⟨a, n, c, sz, _, _, _, rfl⟩ := h
    exact ⟨rfl, rfl, rfl⟩
  | _ => simp [live] at hl

theorem cells_LR {v : V} {val : Value} (h : VR ρ m S w v val) (hl : cellsOk m v) : LR ρ m S w v.cells val.cells.toList := by
  unfold cellsOk at hl
  split at hl
  · simp only [VR] at h
    obtain ⟨l, rfl, hl⟩ := h
    simpa [V.cells, Value.cells] using hl
  · rw [(live_cells h rfl).1]
    simp only [V.cells, LR]
    exact ⟨h, trivial⟩
  · obtain ⟨h1, h2, _⟩ := live_cells h hl
    rw [h1, h2]
    simp only [LR]
    exact ⟨h, trivial⟩
end
end Go.Vs
