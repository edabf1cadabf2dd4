/-
  Pl1: a part of a proof of this seat: the value-level semantics of Go code without maps (Vs), its walk rules (Vt), the frame of a row (Vr), facts of types, schedules, walks. It holds of every program and state that its hypotheses name.
-/
import Derived.Test.YtfebikihnljjoaaVt5
set_option linter.unusedSimpArgs false
set_option linter.unusedVariables false
namespace Go.Vs

/-! ### files: plain -/
def wfStep (nm d : List UInt8) (s : Bool × List File) (f : File) : Bool × List File :=
  let s1 := if !s.1 && !(Op.bytesLess f.name nm) then (true, s.2 ++ [⟨nm, d⟩]) else s
  if !(f.name == nm) then (s1.1, s1.2 ++ [f]) else s1
def wfL (nm d : List UInt8) (l : List File) : Bool × List File := l.foldl (wfStep nm d) (false, [])
def writeFile (l : List File) (nm d : List UInt8) : List File := if (wfL nm d l).1 then (wfL nm d l).2 else (wfL nm d l).2 ++ [⟨nm, d⟩]
theorem wf_step {nm d : List UInt8} {l : List File} {i : Nat} (h : i < l.length) : wfL nm d (l.take (i + 1)) = wfStep nm d (wfL nm d (l.take i)) l[i] := by
  rw [List.take_succ_eq_append_getElem h, wfL, List.foldl_append]; rfl
theorem wf_len (nm d : List UInt8) : ∀ l : List File, (wfL nm d l).2.length ≤ l.length + (wfL nm d l).1.toNat := by
  have key : ∀ (l : List File) (s : Bool × List File) (n : Nat), s.2.length ≤ n + s.1.toNat → (l.foldl (wfStep nm d) s).2.length ≤ n + l.length + (l.foldl (wfStep nm d) s).1.toNat := by
    intro l
    induction l with
    | nil => intro s n h; simpa using h
    | cons f r ih =>
      intro s n h
      have := ih (wfStep nm d s f) (n + 1) (by
        obtain ⟨b, o⟩ := s
        simp only [wfStep]
        cases b <;> cases Op.bytesLess f.name nm <;> cases (f.name == nm) <;> simp at h ⊢ <;> omega)
      simp only [List.foldl_cons, List.length_cons]
      rw [show n + (r.length + 1) = n + 1 + r.length by omega]
      exact this
  intro l
  have := key l (false, []) 0 (by simp)
  simpa [wfL] using this
theorem wf_length (nm d : List UInt8) (l : List File) : (writeFile l nm d).length ≤ l.length + 1 := by
  have := wf_len nm d l
  simp only [writeFile]
  split
  · rename_i h; simp only [h, Bool.toNat_true] at this; exact this
  · rename_i h
    have h' : (wfL nm d l).1 = false := by simpa using h
    simp only [h', Bool.toNat_false] at this
    simp only [List.length_append, List.length_singleton]; omega
theorem ok_wf {nm d : List UInt8} (h1 : okStr nm) (h2 : okStr d) : ∀ (l : List File) (s : Bool × List File), (∀ f ∈ l, okFile f) → (∀ f ∈ s.2, okFile f) → ∀ f ∈ (l.foldl (wfStep nm d) s).2, okFile f
  | [], s, _, hs => hs
  | a :: r, s, hl, hs => by
    refine ok_wf h1 h2 r _ (fun f hf => hl f (by simp [hf])) fun f hf => ?_
    have ha := hl a (by simp)
    simp only [wfStep] at hf
    have hs1 : ∀ f ∈ (if (!s.1 && !(Op.bytesLess a.name nm)) = true then (true, s.2 ++ [⟨nm, d⟩]) else s).2, okFile f := by
      split
      · intro f hf
        rcases List.mem_append.1 hf with hf | hf
        · exact hs f hf
        · rw [List.mem_singleton.1 hf]; exact ⟨h1, h2⟩
      · exact hs
    split at hf
    · rcases List.mem_append.1 hf with hf | hf
      · exact hs1 f hf
      · rw [List.mem_singleton.1 hf]; exact ha
    · exact hs1 f hf
theorem ok_writeFile {nm d : List UInt8} (h1 : okStr nm) (h2 : okStr d) {l : List File} (hl : ∀ f ∈ l, okFile f) : ∀ f ∈ writeFile l nm d, okFile f := by
  have := ok_wf h1 h2 l (false, []) hl (by simp)
  intro f hf
  simp only [writeFile] at hf
  split at hf
  · exact this f hf
  · rcases List.mem_append.1 hf with hf | hf
    · exact this f hf
    · rw [List.mem_singleton.1 hf]; exact ⟨h1, h2⟩
@[simp] theorem ids_cFile (l : List File) : idsLL (l.map cFile) = [] := by
  induction l with
  | nil => rfl
  | cons a r ih => simp [idsLL, cFile, cStr, idsL, ih]
end Go.Vs
