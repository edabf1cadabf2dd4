/-
  Vs18: a part of a proof of this seat: the value-level semantics of Go code without maps (Vs), its walk rules (Vt), the frame of a row (Vr), facts of types, schedules, walks. It holds of every program and state that its hypotheses name.
-/
import Derived.Test.YtfebikihnljjoaaVs17
set_option linter.unusedSimpArgs false
set_option linter.unusedVariables false
namespace Go.Vs
open Go.RowKit

section
variable {P : Program} {E : FuncId → Bool} {A0 : Env} {N : Nat} {w0 : World} {ρ : Nat → Option (Nat × Nat)} {σ : St} {a : Act} {w : World}
variable {S : Nat → Prop} {dst : Option Tmp} {ty : TypeId} {pos : String} {af : Array Edge} {gd : Option (Nat × Bool)}

theorem fillS {sz : Nat} (hsz : 0 < sz) : ∀ (parts : List (Nat × Operand)) (i : Nat) (pre : List V) (arr : Array Value),
    (∀ x : Operand, VR ρ σ.m S w (σ.ev x) (a.eval x)) → partsOk σ sz i parts → (∀ p ∈ parts, cellsOk σ.m (σ.ev p.2)) → arr.size = (i + parts.length) * sz → LR ρ σ.m S w pre (arr.toList.take (i * sz)) →
    ∃ cells, Instr.fill (fun i => some (i * sz, sz)) arr (parts.map fun p => (p.1, a.eval p.2)) = some cells ∧ cells.size = arr.size ∧ LR ρ σ.m S w (pre ++ allC (parts.map fun p => σ.ev p.2)) cells.toList
  | [], i, pre, arr, _, _, _, hs, hl => by
    refine ⟨arr, rfl, rfl, ?_⟩
    have : arr.toList.take (i * sz) = arr.toList := List.take_of_length_le (by simp [hs])
    rw [this] at hl
    simpa [allC] using hl
  | (i', x) :: r, i, pre, arr, hev, hp, hc, hs, hl => by
    obtain ⟨rfl, hlen, hp⟩ := hp
    have hcx := cells_LR (hev x) (hc (i', x) (by simp))
    have hvs : (a.eval x).cells.size = sz := by have := hcx.length; simp at this; omega
    have hle : i' * sz + sz ≤ arr.size := by
      rw [hs]
      have : (i' + 1) * sz ≤ (i' + ((i', x) :: r).length) * sz := Nat.mul_le_mul_right _ (by simp)
      rw [Nat.add_mul] at this
      omega
    have hsp := foldl_splice (i' * sz) (a.eval x).cells.toList 0 arr (by simp; omega)
    have hpl : pre.length = i' * sz := by have := hl.length; simp at this; omega
    have hnew : ((a.eval x).cells.zipIdx.foldl (fun (cs : Array Value) (y : Value × Nat) => cs.setIfInBounds (i' * sz + y.2) y.1) arr).toList = splice arr.toList (i' * sz) (a.eval x).cells.toList := by
      rw [← Array.foldl_toList, Array.toList_zipIdx, hsp]
      simp
    obtain ⟨cells, hf, hcs, hL⟩ := fillS hsz r (i' + 1) (pre ++ (σ.ev x).cells) ((a.eval x).cells.zipIdx.foldl (fun (cs : Array Value) (y : Value × Nat) => cs.setIfInBounds (i' * sz + y.2) y.1) arr) hev hp
      (fun p hp' => hc p (by simp [hp'])) (by
        have h1 := congrArg List.length hnew
        rw [length_splice _ _ _ (by simp; omega)] at h1
        simp only [Array.length_toList] at h1
        rw [h1, hs]
        simp only [List.length_cons]
        congr 1; omega) (by
        rw [hnew]
        have h2 : (splice arr.toList (i' * sz) (a.eval x).cells.toList).take ((i' + 1) * sz) = arr.toList.take (i' * sz) ++ (a.eval x).cells.toList := by
          simp only [splice]
          have h3 : (i' + 1) * sz = (arr.toList.take (i' * sz) ++ (a.eval x).cells.toList).length := by
            simp only [List.length_append, List.length_take, Array.length_toList, hvs, Nat.add_mul]
            omega
          rw [h3]
          exact List.take_left
        rw [h2]
        exact hl.append hcx)
    refine ⟨cells, ?_, ?_, by simpa [allC, List.append_assoc] using hL⟩
    · simp only [List.map_cons, Instr.fill]
      rw [if_neg (by simp; omega)]
      exact hf
    · rw [hcs]
      have h1 := congrArg List.length hnew
      rw [length_splice _ _ _ (by simp; omega)] at h1
      simpa using h1

theorem length_allC {sz : Nat} : ∀ (parts : List (Nat × Operand)) (i : Nat), partsOk σ sz i parts → (allC (parts.map fun p => σ.ev p.2)).length = parts.length * sz
  | [], _, _ => by simp [allC]
  | (i', x) :: r, i, h => by
    obtain ⟨_, h1, h2⟩ := h
    simp only [List.map_cons, allC, List.length_append, h1, length_allC r (i + 1) h2, List.length_cons, Nat.add_mul]
    omega

theorem length_chunk (sz : Nat) : ∀ (n : Nat) (l : List D), (chunk sz n l).length = n
  | 0, _ => rfl
  | n + 1, l => by simp [chunk, length_chunk sz n]
theorem get_chunk (sz : Nat) : ∀ (n : Nat) (l : List D) (i : Nat), i < n → (chunk sz n l)[i]? = some ((l.drop (i * sz)).take sz)
  | 0, _, i, h => by omega
  | n + 1, l, 0, _ => by simp [chunk]
  | n + 1, l, i + 1, h => by
    simp only [chunk, List.getElem?_cons_succ]
    rw [get_chunk sz n _ i (by omega), List.drop_drop, Nat.add_mul, Nat.one_mul, Nat.add_comm sz]

theorem allC_mem {l : List V} {v : V} (hv : v ∈ l) (h : (allC l).all isD = true) : v.cells.all isD = true := by
  induction l with
  | nil => cases hv
  | cons x r ih =>
    simp only [allC, List.all_append, Bool.and_eq_true] at h
    rcases List.mem_cons.1 hv with rfl | hv
    · exact h.1
    · exact ih hv h.2

theorem e_buildSlice (h : Rel A0 N w0 ρ σ a w) (T n : Nat) (parts : Array (Nat × Operand)) (k : Nat) (hk : k < N) (h1 : (tslice P T).isSome = true) (h2 : n * (slT P T).2.1 ≤ 16777216) (h3 : parts.size = n)
    (h4 : partsOk σ (slT P T).2.1 0 parts.toList) (h5 : (allC (parts.toList.map fun p => σ.ev p.2)).all isD = true) :
    Efs P E A0 N w0 a w ⟨some k, .buildSlice T n parts, ty, pos, af, gd⟩
      ((σ.lay k (.row (slT P T).1 (slT P T).2.1 (chunk (slT P T).2.1 n ((allC (parts.toList.map fun p => σ.ev p.2)).map dD)))).put (some k) (.own k 0 n)) := by
  obtain ⟨e, inf, z, hu, hi, hz, hzs, hpos, hsl⟩ := slT_spec h1
  simp only [hsl] at h2 h4 ⊢
  let z0 : Array Value := if n * inf.size = 0 then #[] else z.cells
  obtain ⟨cells, hf, hcs, hL⟩ := fillS (σ := σ) (a := a) (ρ := ρ) (S := Sof A0 σ.B ρ σ.m w) (w := w) hpos parts.toList 0 [] ((Array.range (n * inf.size)).map (z0[· % z0.size]!)) (fun x => h.ev x) h4
    (fun p hp => allD_cellsOk (allC_mem (List.mem_map.2 ⟨p, hp, rfl⟩) h5)) (by simp [h3]) (by simp [LR])
  have hcsz : cells.size = n * inf.size := by rw [hcs]; simp
  simp only [List.nil_append] at hL
  have hlen := length_allC (σ := σ) parts.toList 0 h4
  simp only [Array.length_toList, h3] at hlen
  refine ⟨_, _, _, .inl ?_, fun _ => Ext.alloc _ _, row_new h k hk hpos (length_chunk _ _ _) ?_ hcsz ⟨by simp [hcsz, length_chunk], fun i e' he => ?_⟩⟩
  · have hn : ¬ (n * inf.size > 2 ^ 24) := by omega
    have hf' : Instr.fill (fun i => some (i * inf.size, inf.size)) ((Array.range (n * inf.size)).map (z0[· % z0.size]!)) (parts.map fun p => (p.1, a.eval p.2)).toList = some cells := by simpa using hf
    have hrun : (Instr.buildSlice T n (parts.map fun p => (p.1, a.eval p.2))).run P w = .ok (.slice (some ⟨w.heap.size, 0, none⟩) n n) (w.alloc (.cells cells e)) := by
      have hn' : ¬ (16777216 < n * inf.size) := by omega
      by_cases h0 : n * inf.size = 0
      · have hn0 : n = 0 := (Nat.mul_eq_zero.1 h0).resolve_right (by omega)
        have hpl : parts.toList = [] := List.eq_nil_of_length_eq_zero (by simp [h3, hn0])
        have hpa : parts = #[] := by simpa using hpl
        have hce : cells = #[] := by apply Array.eq_empty_of_size_eq_zero; rw [hcsz, h0]
        subst hpa hce hn0
        simp [Instr.buildSlice, run_underlying hu, sizeOf, typeInfo, hi, newRow, Instr.fill, Sem.run_bind, Sem.run_pure, Result.andThen]
        have e0 : ∀ f : Nat → Value, Array.map f (Array.range 0) = #[] := fun f => by apply Array.eq_empty_of_size_eq_zero; simp
        rw [e0]
      · have hz0 : z0 = z.cells := by simp only [z0, h0, if_false]
        rw [hz0] at hf'
        have hf2 : Instr.fill (fun i => some (i * inf.size, inf.size)) ((Array.range (n * inf.size)).map (z.cells[· % z.cells.size]!)) (List.map (fun p => (p.fst, a.eval p.snd)) parts.toList) = some cells := by simpa using hf'
        simp [Instr.buildSlice, run_underlying hu, sizeOf, typeInfo, zeroValue, hi, hz, newRow, hn', h0, hf2, Sem.run_bind, Sem.run_pure, Result.andThen]
    simp only [execOp]
    rw [Sem.run_bind, hrun]
    rfl
  · have : n ≤ n * inf.size := Nat.le_mul_of_pos_right n hpos
    simp [maxLen]; omega
  · have hin : i < n := by have := (List.getElem?_eq_some_iff.1 he).1; rwa [length_chunk] at this
    rw [get_chunk _ _ _ _ hin] at he
    cases he
    have hle : i * inf.size + inf.size ≤ n * inf.size := by
      have : (i + 1) * inf.size ≤ n * inf.size := Nat.mul_le_mul_right _ hin
      rw [Nat.add_mul] at this; omega
    refine ⟨by simp [hlen]; omega, fun j u hu' => ?_⟩
    rw [List.getElem?_take] at hu'
    split at hu'
    · rename_i hj
      rw [List.getElem?_drop, List.getElem?_map] at hu'
      cases hc : (allC (parts.toList.map fun p => σ.ev p.2))[i * inf.size + j]? with
      | none => simp [hc] at hu'
      | some c =>
        simp only [hc, Option.map_some, Option.some.injEq] at hu'
        obtain ⟨v, hv, hd⟩ := hL.get _ c hc
        rw [allD_get h5 _ _ hc] at hd
        simp only [VR] at hd
        rw [hu'] at hd
        exact ⟨v, hv, hd⟩
    · cases hu'
end
end Go.Vs
