/-
  Vs15: a part of a proof of this seat: the value-level semantics of Go code without maps (Vs), its walk rules (Vt), the frame of a row (Vr), facts of types, schedules, walks. It holds of every program and state that its hypotheses name.
-/
import Derived.Test.YtfebikihnljjoaaVs14
set_option linter.unusedSimpArgs false
set_option linter.unusedVariables false
namespace Go.Vs
open Go.RowKit

section
variable {P : Program} {E : FuncId → Bool} {A0 : Env} {N : Nat} {w0 : World} {ρ : Nat → Option (Nat × Nat)} {σ : St} {a : Act} {w : World}
variable {S : Nat → Prop} {dst : Option Tmp} {ty : TypeId} {pos : String} {af : Array Edge} {gd : Option (Nat × Bool)}

/-- an operation that writes a block that was there -/
def effOp (E : FuncId → Bool) (o : Oper) : Bool :=
  match o.op with
  | .call ⟨.value (.func f), _, _⟩ => E f
  | .store .. | .call ⟨.builtin .append, _, _⟩ => true
  | _ => false

/-- what an operation that makes or writes memory comes to -/
def Efs (P : Program) (E : FuncId → Bool) (A0 : Env) (N : Nat) (w0 : World) (a : Act) (w : World) (o : Oper) (σ' : St) : Prop :=
  ∃ val w' ρ', ((execOp a.eval o).run P w = .ok (.value val) w' ∨ ((execOp a.eval o).run P w = .ok .skip w' ∧ val = undef)) ∧ (effOp E o = false → Ext w w') ∧ Rel A0 N w0 ρ' σ' (a.put o.dst val) w'

theorem Ext.alloc (w : World) (o : Obj) : Ext w (w.alloc o) := ⟨by simp, fun g hg => Below.heap_alloc w o g hg⟩

/-- a new block -/
theorem Rel.new (h : Rel A0 N w0 ρ σ a w) (k : Nat) (hk : k < N) (b : Blk) (cap : Nat) {w' : World} (hbel : Below w.heap.size w w') (v : V) (val : Value)
    (hb : (∀ g, Sof A0 σ.B ρ σ.m w g → Sof A0 σ.B (upd ρ k (some (w.heap.size, cap))) (σ.lay k b).m w' g) → (∀ g, Sof A0 σ.B ρ σ.m w g → w'.heap[g]? = w.heap[g]?) →
      BlkR A0.G (upd ρ k (some (w.heap.size, cap))) (σ.lay k b).m (Sof A0 σ.B (upd ρ k (some (w.heap.size, cap))) (σ.lay k b).m w') σ.B w' (some (w.heap.size, cap)) (b.map (wipe k)))
    (hv : ∀ S, VR (upd ρ k (some (w.heap.size, cap))) (σ.lay k b).m S w' v val) :
    Rel A0 N w0 (upd ρ k (some (w.heap.size, cap))) ((σ.lay k b).put (some k) v) (a.put (some k) val) w' := by
  have h1 : Rel A0 N w0 (upd ρ k (some (w.heap.size, cap))) (σ.lay k b) a w' := by
    refine h.lay k (by have := h.hN; omega) b _ (h.below.trans (.of (hbel.mono h.below.size))) hbel.size (fun g hg _ => hbel.block g hg) (fun p hp => ?_) hb
    cases hp
    exact .inl (Nat.le_refl _)
  exact h1.put (some k) (fun t ht => by cases ht; exact hk) (hv _)

theorem d_wipe (k : Nat) (l : List D) : (l.map V.d).map (wipe k) = l.map V.d := by
  simp [List.map_map, Function.comp_def, wipe]

theorem e_alloc (h : Rel A0 N w0 ρ σ a w) (T : TypeId) (k : Nat) (hk : k < N) (h1 : (tzero P T).isSome = true) :
    Efs P E A0 N w0 a w ⟨some k, .alloc T, ty, pos, af, gd⟩ ((σ.lay k (.box ((zrT P T).map .d))).put (some k) (.ptr k 0 0)) := by
  obtain ⟨inf, z, hi, hz, hzc⟩ := zrT_spec h1
  refine ⟨.pointer (some ⟨w.heap.size, 0, none⟩), w.alloc (.cells z.cells T), _, .inl ?_, fun _ => Ext.alloc _ _, h.new k hk _ 0 ((Below.refl _ _).alloc (Nat.le_refl _) _) _ _ (fun hS hw => ?_) (fun S => ?_)⟩
  · simp [execOp, Instr.alloc, zeroValue, typeInfo, hi, hz, newVar, newRow, Sem.run_bind, Sem.run_pure, Result.andThen]
  · refine ⟨w.heap.size, 0, rfl, .inl (by rw [h.hB]; exact h.below.size), z.cells, T, heap_alloc_new w _, ?_⟩
    rw [d_wipe]
    exact zcells_LR _ _ hzc
  · simp [VR, lay_m_same, Blk.map, upd]

theorem e_box (h : Rel A0 N w0 ρ σ a w) (T : TypeId) (x : Operand) (k : Nat) (hk : k < N) (h1 : cellsOk σ.m (σ.ev x)) :
    Efs P E A0 N w0 a w ⟨some k, .box T x, ty, pos, af, gd⟩ ((σ.lay k (.box (σ.ev x).cells)).put (some k) (.ptr k 0 0)) := by
  refine ⟨.pointer (some ⟨w.heap.size, 0, none⟩), w.alloc (.cells (a.eval x).cells T), _, .inl ?_, fun _ => Ext.alloc _ _, h.new k hk _ 0 ((Below.refl _ _).alloc (Nat.le_refl _) _) _ _ (fun hS hw => ?_) (fun S => ?_)⟩
  · simp [execOp, Instr.box, newVar, newRow, Sem.run_bind, Sem.run_pure, Result.andThen]
  · refine ⟨w.heap.size, 0, rfl, .inl (by rw [h.hB]; exact h.below.size), _, T, heap_alloc_new w _, ?_⟩
    rw [← wipeL_map]
    exact LR.wipe k hS hw (fun j hj => KC_lay _ k j _ hj) _ _ (cells_LR (h.ev x) h1)
  · simp [VR, lay_m_same, Blk.map, upd]

/-- the flat cells of a row -/
def Flat (S : Nat → Prop) (w : World) (sz : Nat) (es : List (List D)) (xs : List Value) : Prop :=
  xs.length = es.length * sz ∧ ∀ (i : Nat) (e : List D), es[i]? = some e → e.length = sz ∧ ∀ (j : Nat) (u : D), e[j]? = some u → ∃ v, xs[i * sz + j]? = some v ∧ DR S w u v

theorem Flat.mono {S S' : Nat → Prop} {w w' : World} {sz : Nat} {es : List (List D)} {xs : List Value} (h : Flat S w sz es xs) (hS : ∀ g, S g → S' g) (hw : ∀ g, S g → w'.heap[g]? = w.heap[g]?) : Flat S' w' sz es xs :=
  ⟨h.1, fun i e he => ⟨(h.2 i e he).1, fun j u hu => let ⟨v, h1, h2⟩ := (h.2 i e he).2 j u hu; ⟨v, h1, h2.mono hS hw⟩⟩⟩

theorem idx_lt {i j n sz : Nat} (hi : i < n) (hj : j < sz) : i * sz + j < n * sz := by
  have : (i + 1) * sz ≤ n * sz := Nat.mul_le_mul_right _ hi
  rw [Nat.add_mul] at this
  omega

theorem Flat.append {S : Nat → Prop} {w : World} {sz : Nat} {es es' : List (List D)} {xs xs' : List Value} (h : Flat S w sz es xs) (h' : Flat S w sz es' xs') : Flat S w sz (es ++ es') (xs ++ xs') := by
  refine ⟨by simp [h.1, h'.1, Nat.add_mul], fun i e he => ?_⟩
  by_cases hi : i < es.length
  · rw [List.getElem?_append_left hi] at he
    refine ⟨(h.2 i e he).1, fun j u hu => ?_⟩
    obtain ⟨v, h1, h2⟩ := (h.2 i e he).2 j u hu
    exact ⟨v, by rw [List.getElem?_append_left (List.getElem?_eq_some_iff.1 h1).1]; exact h1, h2⟩
  · rw [List.getElem?_append_right (by omega)] at he
    refine ⟨(h'.2 _ e he).1, fun j u hu => ?_⟩
    obtain ⟨v, h1, h2⟩ := (h'.2 _ e he).2 j u hu
    refine ⟨v, ?_, h2⟩
    have hle : es.length * sz ≤ i * sz := Nat.mul_le_mul_right _ (by omega)
    rw [List.getElem?_append_right (by rw [h.1]; omega), h.1]
    rw [Nat.sub_mul] at h1
    have : i * sz + j - es.length * sz = i * sz - es.length * sz + j := by omega
    rw [this]; exact h1

theorem Flat.oneCell {S : Nat → Prop} {w : World} {sz : Nat} {es : List (List D)} {xs : List Value} (h : Flat S w sz es xs) (hsz : 0 < sz) : ∀ v ∈ xs, v.oneCell' = true := by
  intro v hv
  obtain ⟨n, hn⟩ := List.mem_iff_getElem?.1 hv
  have hlt := (List.getElem?_eq_some_iff.1 hn).1
  rw [h.1] at hlt
  have hd : n / sz < es.length := by rw [Nat.div_lt_iff_lt_mul hsz]; exact hlt
  have he : es[n / sz]? = some es[n / sz] := List.getElem?_eq_getElem hd
  obtain ⟨h1, h2⟩ := h.2 _ _ he
  have hm : n % sz < es[n / sz].length := by rw [h1]; exact Nat.mod_lt _ hsz
  obtain ⟨v', h3, h4⟩ := h2 _ _ (List.getElem?_eq_getElem hm)
  have : n / sz * sz + n % sz = n := Nat.div_add_mod' n sz
  rw [this, hn] at h3
  cases h3
  exact h4.oneCell

theorem Flat.blk {ρ : Nat → Option (Nat × Nat)} {m : Nat → Option Blk} {S : Nat → Prop} {B : Nat} {w : World} {T sz : Nat} {es : List (List D)} {g cap : Nat} {cur : Array Value}
    (hsz : 0 < sz) (hB : B ≤ g) (hc : cap ≤ maxLen) (hl : es.length ≤ cap) (hg : w.heap[g]? = some (.cells cur T (0, 0))) (hcs : cur.size = cap * sz)
    (hf : Flat S w sz es (cur.toList.take (es.length * sz))) : BlkR A0.G ρ m S B w (some (g, cap)) (.row T sz es) := by
  refine ⟨hsz, hB, hc, hl, cur, hg, hcs, fun i e he => ⟨(hf.2 i e he).1, fun j u hu => ?_⟩⟩
  obtain ⟨v, h1, h2⟩ := (hf.2 i e he).2 j u hu
  rw [List.getElem?_take] at h1
  split at h1
  · exact ⟨v, by simpa using h1, h2⟩
  · cases h1

theorem Flat.of_blk {ρ : Nat → Option (Nat × Nat)} {m : Nat → Option Blk} {S : Nat → Prop} {B : Nat} {w : World} {T sz : Nat} {es : List (List D)} {g cap : Nat}
    (h : BlkR A0.G ρ m S B w (some (g, cap)) (.row T sz es)) : ∃ cur, w.heap[g]? = some (.cells cur T (0, 0)) ∧ cur.size = cap * sz ∧ Flat S w sz es (cur.toList.take (es.length * sz)) := by
  obtain ⟨hsz, hB, hc, hl, cur, hg, hcs, hall⟩ := h
  refine ⟨cur, hg, hcs, ?_, fun i e he => ⟨(hall i e he).1, fun j u hu => ?_⟩⟩
  · have : es.length * sz ≤ cap * sz := Nat.mul_le_mul_right _ hl
    simp; omega
  · obtain ⟨v, h1, h2⟩ := (hall i e he).2 j u hu
    refine ⟨v, ?_, h2⟩
    have hi := (List.getElem?_eq_some_iff.1 he).1
    have hj := (List.getElem?_eq_some_iff.1 hu).1
    rw [(hall i e he).1] at hj
    rw [List.getElem?_take, if_pos (idx_lt hi hj)]
    simpa using h1
end
end Go.Vs
