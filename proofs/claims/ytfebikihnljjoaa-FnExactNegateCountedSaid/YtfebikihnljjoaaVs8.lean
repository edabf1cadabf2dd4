/-
  Vs8: a part of a proof of this seat: the value-level semantics of Go code without maps (Vs), its walk rules (Vt), the frame of a row (Vr), facts of types, schedules, walks. It holds of every program and state that its hypotheses name.
-/
import Derived.Test.YtfebikihnljjoaaVs7
set_option linter.unusedSimpArgs false
set_option linter.unusedVariables false
namespace Go.Vs
open Go.RowKit

/-- a later world in which nothing that was there has turned -/
def Ext (w w' : World) : Prop := w.heap.size ≤ w'.heap.size ∧ ∀ g, g < w.heap.size → w'.heap[g]? = w.heap[g]?

section
variable {P : Program} {E : FuncId → Bool} {A0 : Env} {N : Nat} {w0 : World} {ρ : Nat → Option (Nat × Nat)} {σ : St} {a : Act} {w w' : World}

theorem Ext.refl : Ext w w := ⟨Nat.le_refl _, fun _ _ => rfl⟩
theorem Ext.cell (h : Ext w w') {p : Addr} (hp : p.block < w.heap.size) : w'.cell? p = w.cell? p := World.cell?_of_block (h.2 _ hp)

theorem constV_VR {m : Nat → Option Blk} {S : Nat → Prop} (v : Value) : VR ρ m S w (constV v) v := by
  unfold constV
  split
  · exact DR.bool _
  · exact DR.int _ _
  · rename_i s
    have : s = ⟨s.data.toList.toArray⟩ := by cases s; simp
    simp only [VR]
    rw (occs := .pos [2]) [this]
    exact DR.str _
  · exact DR.nil _
  · simp [VR]

theorem Rel.ev (h : Rel A0 N w0 ρ σ a w) (x : Operand) : VR ρ σ.m (Sof A0 σ.B ρ σ.m w) w (σ.ev x) (a.eval x) := by
  cases x with
  | tmp t => exact h.tmps t
  | const v => exact constV_VR v
  | global g => simp [St.ev, VR]
  | func f => simp [St.ev, VR]

theorem VR_bool {m : Nat → Option Blk} {S : Nat → Prop} {x : V} {v : Value} (h : VR ρ m S w x v) (hb : isBool x = true) : v = .bool (getB x) := by
  unfold isBool at hb
  split at hb
  · simp only [VR] at h; cases h; rfl
  · cases hb
theorem VR_int {m : Nat → Option Blk} {S : Nat → Prop} {x : V} {v : Value} (h : VR ρ m S w x v) (hb : isInt x = true) : ∃ k, kOf x = some k ∧ v = .int k (getZ x) := by
  unfold isInt at hb
  split at hb
  · simp only [VR] at h; cases h; exact ⟨_, rfl, rfl⟩
  · cases hb
theorem VR_str {m : Nat → Option Blk} {S : Nat → Prop} {x : V} {v : Value} (h : VR ρ m S w x v) (hb : isStr x = true) : v = .string ⟨(strOf x).toArray⟩ := by
  unfold isStr at hb
  split at hb
  · simp only [VR] at h; cases h; rfl
  · cases hb

theorem Sof.lt {B : Nat} {m : Nat → Option Blk} {g : Nat} (h : Sof A0 B ρ m w g) : g < w.heap.size := h.2.1

/-- what a pointer points to -/
theorem ptr_at (h : Rel A0 N w0 ρ σ a w) {x : V} {v : Value} (hv : VR ρ σ.m (Sof A0 σ.B ρ σ.m w) w x v) (hp : ptrOk σ.m x) :
    ∃ ad, v = .pointer (some ad) ∧ ad.block < w.heap.size ∧ ∀ (j : Nat) (c : V), (atP σ.m x)[j]? = some c → ∃ u, w.cell? (ad.add j) = some u ∧ VR ρ σ.m (Sof A0 σ.B ρ σ.m w) w c u := by
  cases x with
  | ptr k i off =>
    simp only [ptrOk] at hp
    simp only [VR] at hv
    cases hm : σ.m k with
    | none => simp [hm] at hp
    | some b =>
      have hb := h.mem k b hm
      cases b with
      | box cs =>
        simp only [hm] at hp hv
        obtain ⟨_, g, cap, hr, rfl⟩ := hv
        obtain ⟨g', cap', hr', hB, cur, T, hc, hl⟩ := hb
        rw [hr] at hr'; cases hr'
        refine ⟨_, rfl, (Array.getElem?_eq_some_iff.1 hc).1, fun j c hj => ?_⟩
        simp only [atP, hm, List.getElem?_drop] at hj
        obtain ⟨u, hu, hd⟩ := hl.get _ _ hj
        refine ⟨u, ?_, hd⟩
        rw [add_lit, cell_of hc]
        simpa using hu
      | row T sz es =>
        simp only [hm] at hp
        simp only [hm] at hv
        obtain ⟨g, cap, hr, rfl⟩ := hv
        obtain ⟨hsz, hrow⟩ := hb
        rw [hr] at hrow
        obtain ⟨hB, hc1, hc2, cur, hc, hcs, hall⟩ := hrow
        refine ⟨_, rfl, (Array.getElem?_eq_some_iff.1 hc).1, fun j c hj => ?_⟩
        have he : es[i]? = some (es.getD i []) := by simp [List.getD, List.getElem?_eq_getElem hp]
        simp only [atP, hm] at hj
        rw [List.getElem?_map, List.getElem?_drop] at hj
        cases hu : (es.getD i [])[off + j]? with
        | none => rw [hu] at hj; cases hj
        | some u =>
          rw [hu] at hj
          simp only [Option.map_some, Option.some.injEq] at hj
          subst hj
          obtain ⟨v, hv, hd⟩ := (hall i _ he).2 _ u hu
          refine ⟨v, ?_, by simpa only [VR] using hd⟩
          rw [add_lit, cell_of hc, ← hv, Nat.add_assoc]
  | fptr x i off =>
    simp only [VR] at hv
    simp only [ptrOk] at hp
    obtain ⟨ad, n, c, sz, hD, hsz, hi, rfl⟩ := hv
    cases x with
    | sl id T es =>
      simp only [lstD] at hsz hi hp
      cases hD with
      | sl g _ _ _ _ sz' vs hS ha hcap hm hsz' hc hd hw =>
        have hle : i < c := by omega
        have he : es[i]? = some (es.getD i []) := by simp [List.getD, List.getElem?_eq_getElem hi]
        have hblk := ha (by omega)
        have hez : sz = sz' := by rw [← hsz _ (List.mem_of_getElem? he), hsz' _ _ he]
        refine ⟨_, rfl, by rw [add_block, hblk]; exact hS.lt, fun j u hj => ?_⟩
        simp only [atP, lstD, List.getElem?_map, List.getElem?_drop] at hj
        cases hu : (es.getD i [])[off + j]? with
        | none => rw [hu] at hj; cases hj
        | some y =>
          rw [hu] at hj
          simp only [Option.map_some, Option.some.injEq] at hj
          subst hj
          refine ⟨_, ?_, by simpa only [VR] using hd i _ he _ y hu⟩
          rw [add_add', hez, Nat.add_assoc]
          exact hc i _ he _ y hu
    | _ => simp [lstD] at hi
  | _ => simp [ptrOk] at hp

theorem tagg_run {T : TypeId} {b : Bool} (h : tagg P T = some b) (w : World) : (isAgg T).run P w = .ok b w := by
  unfold tagg at h
  unfold isAgg
  cases hu : P.underlying T with
  | none => simp [hu] at h
  | some d =>
    simp only [hu, Option.map_some, Option.some.injEq] at h
    simp only [Sem.run_bind, run_underlying hu, Result.andThen]
    subst h
    cases d <;> rfl

theorem tsz_run {T n : Nat} (h : tsz P T = some n) (w : World) : (sizeOf T).run P w = .ok n w := by
  unfold tsz at h
  cases hi : P.info? T with
  | none => simp [hi] at h
  | some i =>
    simp only [hi, Option.map_some, Option.some.injEq] at h
    subst h
    simp [sizeOf, typeInfo, hi, Sem.run_bind]

theorem run_load_cell (p : Addr) (v : Value) (h : w.cell? p = some v) : (load p).run P w = .ok v w := by simp [load, Sem.run, h]

/-- a load -/
theorem load_run (h : Rel A0 N w0 ρ σ a w) (hx : Ext w w') (T : TypeId) {x : V} {v : Value} (hv : VR ρ σ.m (Sof A0 σ.B ρ σ.m w) w x v)
    (h1 : (tsz P T).isSome = true) (h2 : (tagg P T).isSome = true) (hp : ptrOk σ.m x) (hl : (if agB P T then szT P T else 1) ≤ (atP σ.m x).length) :
    ∃ val, (∀ w', Ext w w' → ∃ ad, v = .pointer (some ad) ∧ (loadVar T ad).run P w' = .ok val w') ∧
      VR ρ σ.m (Sof A0 σ.B ρ σ.m w) w (if agB P T then .agg ((atP σ.m x).take (szT P T)) else hd (atP σ.m x)) val := by
  obtain ⟨ad, rfl, hlt, hall⟩ := ptr_at h hv hp
  obtain ⟨n, hn⟩ := Option.isSome_iff_exists.1 h1
  obtain ⟨b, hb⟩ := Option.isSome_iff_exists.1 h2
  have hszT : szT P T = n := by simp [szT, hn]
  have hagB : agB P T = b := by simp [agB, hb]
  rw [hszT, hagB] at hl ⊢
  cases b with
  | true =>
    simp only [if_true] at hl ⊢
    have hex : ∀ j, ∃ u, j < n → w.cell? (ad.add j) = some u ∧ ∃ c, (atP σ.m x)[j]? = some c ∧ VR ρ σ.m (Sof A0 σ.B ρ σ.m w) w c u := by
      intro j
      by_cases hj : j < n
      · have hc : (atP σ.m x)[j]? = some (atP σ.m x)[j] := List.getElem?_eq_getElem (by omega)
        obtain ⟨u, hu, hd⟩ := hall j _ hc
        exact ⟨u, fun _ => ⟨hu, _, hc, hd⟩⟩
      · exact ⟨undef, fun h => absurd h hj⟩
    obtain ⟨f, hf⟩ := Classical.axiomOfChoice hex
    refine ⟨.agg ((List.range n).map f).toArray, fun w'' hx' => ⟨ad, rfl, ?_⟩, ?_⟩
    · simp only [loadVar, Sem.run_bind, tagg_run hb, tsz_run hn, Result.andThen, if_true]
      rw [run_loadCells w'' ad n f (fun j hj => by rw [hx'.cell (by rw [add_block]; exact hlt)]; exact (hf j hj).1)]
      rfl
    · simp only [VR]
      refine ⟨_, rfl, LR.of_get (by simp; omega) fun i c u hc hu => ?_⟩
      rw [List.getElem?_take] at hc
      split at hc
      · rename_i hi
        simp only [List.getElem?_map, List.getElem?_range hi, Option.map_some, Option.some.injEq] at hu
        subst hu
        obtain ⟨_, c', hc', hd⟩ := hf i hi
        rw [hc] at hc'; cases hc'; exact hd
      · cases hc
  | false =>
    simp only [Bool.false_eq_true, if_false] at hl ⊢
    have hc : (atP σ.m x)[0]? = some (hd (atP σ.m x)) := by
      cases hat : atP σ.m x with
      | nil => rw [hat] at hl; simp at hl
      | cons c r => rfl
    obtain ⟨u, hu, hd⟩ := hall 0 _ hc
    refine ⟨u, fun w'' hx' => ⟨ad, rfl, ?_⟩, hd⟩
    simp only [loadVar, Sem.run_bind, tagg_run hb, Result.andThen, Bool.false_eq_true, if_false]
    have : ad.add 0 = ad := by simp [Addr.add]
    rw [this] at hu
    exact run_load_cell _ _ (by rw [hx'.cell hlt]; exact hu)
end
end Go.Vs
