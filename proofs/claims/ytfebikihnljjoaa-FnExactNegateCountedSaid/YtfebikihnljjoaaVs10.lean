/-
  Vs10: a part of a proof of this seat: the value-level semantics of Go code without maps (Vs), its walk rules (Vt), the frame of a row (Vr), facts of types, schedules, walks. It holds of every program and state that its hypotheses name.
-/
import Derived.Test.YtfebikihnljjoaaVs9
set_option linter.unusedSimpArgs false
set_option linter.unusedVariables false
namespace Go.Vs
open Go.RowKit

section
variable {P : Program} {E : FuncId → Bool} {A0 : Env} {N : Nat} {w0 : World} {ρ : Nat → Option (Nat × Nat)} {σ : St} {a : Act} {w : World}

/-- what a reading operation comes to -/
def Yld (P : Program) (ρ : Nat → Option (Nat × Nat)) (σ : St) (S : Nat → Prop) (a : Act) (w : World) (o : Oper) (v : V) : Prop :=
  ∃ val, (∀ w', Ext w w' → (execOp a.eval o).run P w' = .ok (.value val) w') ∧ VR ρ σ.m S w v val

variable {S : Nat → Prop} {dst : Option Tmp} {ty : TypeId} {pos : String} {af : Array Edge} {gd : Option (Nat × Bool)}

theorem y_fieldAddr (h : Rel A0 N w0 ρ σ a w) (s f : Nat) (x : Operand) (h1 : (foff P s f).isSome = true) (h2 : ptrOk σ.m (σ.ev x)) :
    Yld P ρ σ (Sof A0 σ.B ρ σ.m w) a w ⟨dst, .fieldAddr s x f, ty, pos, af, gd⟩ (addP (foT P s f) (σ.ev x)) := by
  obtain ⟨⟨o', sz⟩, ho⟩ := Option.isSome_iff_exists.1 h1
  have hfo : foT P s f = o' := by simp [foT, ho]
  have hv := h.ev x
  obtain ⟨ad, hval, hlt, _⟩ := ptr_at h hv h2
  unfold foff at ho
  split at ho
  · rename_i fs hs
    split at ho
    · rename_i fd hfd
      split at ho
      · rename_i i hi
        split at ho
        · cases ho
        · rename_i hz
          cases ho
          refine ⟨.pointer (some (ad.add fd.offset)), fun w' hx => ?_, ?_⟩
          · simp [execOp, Instr.fieldAt, run_underlying hs, hfd, Instr.sureAddr, hval, fieldPlace, sizeOf, typeInfo, hi, hz, Sem.run_bind, Sem.run_pure, Result.andThen]
          · rw [hfo]
            rw [hval] at hv
            cases hx : σ.ev x with
            | ptr k i off =>
              rw [hx] at hv h2
              simp only [addP, VR, ptrOk] at hv h2 ⊢
              cases hm : σ.m k with
              | none => trivial
              | some b =>
                cases b with
                | box cs =>
                  simp only [hm] at hv ⊢
                  obtain ⟨hi, g, cap, hr, he⟩ := hv
                  simp only [Value.pointer.injEq, Option.some.injEq] at he
                  subst he
                  exact ⟨hi, g, cap, hr, by rw [add_lit]⟩
                | row T sz es =>
                  simp only [hm] at hv ⊢
                  obtain ⟨g, cap, hr, he⟩ := hv
                  simp only [Value.pointer.injEq, Option.some.injEq] at he
                  subst he
                  exact ⟨g, cap, hr, by rw [add_lit]; simp [Nat.add_assoc]⟩
            | fptr y i off =>
              rw [hx] at hv
              simp only [addP, VR] at hv ⊢
              obtain ⟨ad', n, c, sz, hD, h3, h4, he⟩ := hv
              simp only [Value.pointer.injEq, Option.some.injEq] at he
              subst he
              exact ⟨ad', n, c, sz, hD, h3, h4, by rw [add_add', Nat.add_assoc]⟩
            | _ => rw [hx] at h2; simp [ptrOk] at h2
      · cases ho
    · cases ho
  · cases ho

theorem slT_spec {T : TypeId} (h : (tslice P T).isSome = true) : ∃ e i z, P.underlying T = some (.slice e) ∧ P.info? e = some i ∧ i.zero = some z ∧ z.cells.size = i.size ∧ 0 < i.size ∧ slT P T = (e, i.size, i.bytes) := by
  obtain ⟨p, hp⟩ := Option.isSome_iff_exists.1 h
  have hs : slT P T = p := by simp [slT, hp]
  unfold tslice at hp
  cases he : telem P T with
  | none => simp [he] at hp
  | some e =>
    simp only [he, Option.bind_some] at hp
    have hu : P.underlying T = some (.slice e) := by
      unfold telem at he
      split at he
      · rename_i e' hu; cases he; exact hu
      · cases he
    cases hi : P.info? e with
    | none => simp [hi] at hp
    | some i =>
      simp only [hi, Option.bind_some] at hp
      cases hz : i.zero with
      | none => simp [hz] at hp
      | some z =>
        simp only [hz, Option.bind_some] at hp
        split at hp
        · rename_i hc
          cases hp
          exact ⟨e, i, z, hu, hi, hz, hc.1, hc.2, hs⟩
        · cases hp

theorem y_indexAddr (h : Rel A0 N w0 ρ σ a w) (T : Nat) (x i : Operand) (h1 : (tslice P T).isSome = true) (h2 : isInt (σ.ev i) = true) (h3 : idxOk σ.m (slT P T).2.1 (σ.ev x) (getZ (σ.ev i))) :
    Yld P ρ σ (Sof A0 σ.B ρ σ.m w) a w ⟨dst, .indexAddr T x i, ty, pos, af, gd⟩ (idxV (σ.ev x) (getZ (σ.ev i))) := by
  obtain ⟨e, inf, z, hu, hi, hz, hzs, hpos, hsl⟩ := slT_spec h1
  rw [hsl] at h3
  obtain ⟨k, hk, hiv⟩ := VR_int (h.ev i) h2
  have hv := h.ev x
  generalize hzz : getZ (σ.ev i) = zz at *
  have hrun : ∀ (p : Addr) (n c : Nat) (w' : World), a.eval x = .slice (some p) n c → 0 ≤ zz → zz.toNat < n →
      (execOp a.eval ⟨dst, .indexAddr T x i, ty, pos, af, gd⟩).run P w' = .ok (.value (.pointer (some (p.add (zz.toNat * inf.size))))) w' := by
    intro p n c w' hx h0 hn
    have hlt : zz < (n : Int) := by omega
    simp [execOp, Instr.indexAt, hx, hiv, asIntOf, run_underlying hu, h0, hlt, sizeOf, typeInfo, hi, Sem.run_bind, Sem.run_pure, Result.andThen]
  cases hx : σ.ev x with
  | d y =>
    rw [hx] at h3 hv
    cases y with
    | sl id Tw es =>
      simp only [idxOk] at h3
      obtain ⟨h0, hlt, hsz⟩ := h3
      simp only [VR] at hv
      have hes : es[zz.toNat]? = some (es.getD zz.toNat []) := by simp [List.getD, List.getElem?_eq_getElem hlt]
      generalize ha : a.eval x = vx at hv
      cases hv with
      | nil T => simp at hlt
      | sl g T' es ad cap sz vs hS hab hcap hm hsz' hc hd hw =>
        have hsz2 : sz = inf.size := (hsz' _ _ hes).symm.trans hsz
        subst hsz2
        refine ⟨_, fun w' _ => hrun ad _ _ w' ha h0 hlt, ?_⟩
        simp only [idxV, VR]
        refine ⟨ad, _, cap, inf.size, DR.sl g _ es ad cap inf.size vs hS hab hcap hm hsz' hc hd hw, fun e he => ?_, hlt, by rw [Nat.add_zero]⟩
        obtain ⟨i, hi⟩ := List.mem_iff_getElem?.1 he
        exact hsz' i e hi
    | _ => simp [idxOk] at h3
  | own k' lo n =>
    rw [hx] at h3 hv
    simp only [idxOk] at h3
    obtain ⟨h0, hlt, hrow, hsz, hl⟩ := h3
    cases hm : σ.m k' with
    | none => simp [hm, isRow] at hrow
    | some b =>
      cases b with
      | box cs => simp [hm, isRow] at hrow
      | row Te sz es =>
        simp only [hm, szOf, getL] at hsz hl
        subst hsz
        simp only [VR, hm] at hv
        obtain ⟨_, hv⟩ := hv
        have hb := h.mem k' _ hm
        obtain ⟨hsz, hrow⟩ := hb
        cases hr : ρ k' with
        | none => rw [hr] at hv; obtain ⟨_, rfl, _⟩ := hv; omega
        | some p =>
          obtain ⟨g, cap⟩ := p
          rw [hr] at hv
          obtain ⟨ad, c, hax, hab, hnc, hcm, hz', hp⟩ := hv
          refine ⟨_, fun w' _ => hrun ad _ _ w' hax h0 (by omega), ?_⟩
          simp only [idxV, VR, hm]
          refine ⟨g, cap, hr, ?_⟩
          rw [hp (by omega), add_lit, Nat.add_zero, Nat.add_mul]
  | _ => rw [hx] at h3; simp [idxOk] at h3

theorem y_load (h : Rel A0 N w0 ρ σ a w) (T : Nat) (x : Operand) (h1 : (tsz P T).isSome = true) (h2 : (tagg P T).isSome = true) (hp : ptrOk σ.m (σ.ev x)) (hl : (if agB P T then szT P T else 1) ≤ (atP σ.m (σ.ev x)).length) :
    Yld P ρ σ (Sof A0 σ.B ρ σ.m w) a w ⟨dst, .load T x, ty, pos, af, gd⟩ (if agB P T then .agg ((atP σ.m (σ.ev x)).take (szT P T)) else hd (atP σ.m (σ.ev x))) := by
  obtain ⟨val, hrun, hv⟩ := load_run (w' := w) h Ext.refl T (h.ev x) h1 h2 hp hl
  refine ⟨val, fun w' hx => ?_, hv⟩
  obtain ⟨ad, ha, hr⟩ := hrun w' hx
  simp [execOp, Instr.loadAt, Instr.sureAddr, ha, hr, Sem.run_bind, Sem.run_pure, Result.andThen]

theorem y_index (h : Rel A0 N w0 ρ σ a w) (T : Nat) (x i : Operand) (h1 : tstr P T = some true) (h2 : isStr (σ.ev x) = true) (h3 : isInt (σ.ev i) = true) (h4 : 0 ≤ getZ (σ.ev i)) (h5 : (getZ (σ.ev i)).toNat < (strOf (σ.ev x)).length) :
    Yld P ρ σ S a w ⟨dst, .index T x i, ty, pos, af, gd⟩ (.d (.int .u8 ((strOf (σ.ev x)).getD (getZ (σ.ev i)).toNat 0).toNat)) := by
  have hu : P.underlying T = some .string := by
    unfold tstr at h1
    split at h1 <;> simp_all
  have hx := VR_str (h.ev x) h2
  obtain ⟨k, _, hi⟩ := VR_int (h.ev i) h3
  refine ⟨.int .u8 ((strOf (σ.ev x)).getD (getZ (σ.ev i)).toNat 0).toNat, fun w' _ => ?_, by simpa only [VR] using DR.int _ _⟩
  have hget : (⟨(strOf (σ.ev x)).toArray⟩ : ByteArray)[(getZ (σ.ev i)).toNat]? = some ((strOf (σ.ev x)).getD (getZ (σ.ev i)).toNat 0) := by
    have hsz : (getZ (σ.ev i)).toNat < (⟨(strOf (σ.ev x)).toArray⟩ : ByteArray).size := by simpa [ByteArray.size] using h5
    rw [getElem?_pos (⟨(strOf (σ.ev x)).toArray⟩ : ByteArray) (getZ (σ.ev i)).toNat hsz]
    simp [ByteArray.getElem_eq_getElem_data, List.getD, List.getElem?_eq_getElem h5]
  simp [execOp, Instr.index, hx, hi, asIntOf, run_underlying hu, h4, hget, Sem.run_bind, Sem.run_pure, Result.andThen]
end
end Go.Vs
