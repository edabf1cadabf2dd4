/-
  Vs9: a part of a proof of this seat: the value-level semantics of Go code without maps (Vs), its walk rules (Vt), the frame of a row (Vr), facts of types, schedules, walks. It holds of every program and state that its hypotheses name.
-/
import Derived.Test.YtfebikihnljjoaaVs8
import Derived.Laws.Strings
import Derived.Laws.BytesString
import Derived.Laws.Concat
set_option linter.unusedSimpArgs false
set_option linter.unusedVariables false
namespace Go.Vs
open Go.RowKit

section
variable {P : Program} {E : FuncId → Bool} {A0 : Env} {N : Nat} {w0 : World} {ρ : Nat → Option (Nat × Nat)} {σ : St} {a : Act} {w : World}

theorem execOp_v {o : Oper} {ρe : Operand → Value} {s : Sem Value} {val : Value} {w : World}
    (hex : execOp ρe o = (do Pure.pure (Next.value (← s)))) (hs : s.run P w = .ok val w) : (execOp ρe o).run P w = .ok (.value val) w := by
  rw [hex]
  simp [Sem.run_bind, hs, Result.andThen]

/-- the elements of a slice value lie where it says -/
theorem slice_at (h : Rel A0 N w0 ρ σ a w) {x : V} {v : Value} (hv : VR ρ σ.m (Sof A0 σ.B ρ σ.m w) w x v) (he : elOk σ.m x) :
    ∃ (ad : Option Addr) (cap sz : Nat), v = .slice ad (elV σ.m x).length cap ∧ (elV σ.m x).length ≤ cap ∧ (∀ p, ad = some p → 0 < cap → p.block < w.heap.size) ∧ (0 < (elV σ.m x).length → ad ≠ none) ∧
      (∀ (i : Nat) (e : List D), (elV σ.m x)[i]? = some e → e.length = sz ∧ ∀ (j : Nat) (u : D), e[j]? = some u → ∃ p val, ad = some p ∧ w.cell? (p.add (i * sz + j)) = some val ∧ DR (Sof A0 σ.B ρ σ.m w) w u val) := by
  cases x with
  | d x =>
    cases x with
    | sl id T es =>
      simp only [VR] at hv
      cases hv with
      | nil T => exact ⟨none, 0, 0, rfl, by simp [elV], by simp, by simp [elV], by simp [elV]⟩
      | sl g T es ad cap sz vs hS ha hcap hm hsz hc hd hw =>
        refine ⟨some ad, cap, sz, rfl, hcap, fun p hp h0 => by cases hp; rw [ha h0]; exact hS.lt, fun _ => by simp, fun i e he => ⟨hsz i e he, fun j u hu => ⟨ad, _, rfl, hc i e he j u hu, hd i e he j u hu⟩⟩⟩
    | _ => simp [elOk] at he
  | own k lo n =>
    simp only [elOk] at he
    obtain ⟨hrow, hl⟩ := he
    cases hm : σ.m k with
    | none => simp [hm, isRow] at hrow
    | some b =>
      cases b with
      | box cs => simp [hm, isRow] at hrow
      | row T sz es =>
        simp only [hm, getL] at hl
        simp only [VR, hm] at hv
        obtain ⟨_, hv⟩ := hv
        have helV : elV σ.m (.own k lo n) = (es.drop lo).take n := by simp [elV, hm, getL]
        have hlen : ((es.drop lo).take n).length = n := by simp; omega
        have hb := h.mem k _ hm
        rw [helV, hlen]
        obtain ⟨hsz, hrow⟩ := hb
        cases hr : ρ k with
        | none =>
          rw [hr] at hv hrow
          obtain ⟨rfl, rfl, rfl⟩ := hv
          exact ⟨none, 0, 0, rfl, by simp, by simp, by simp, by simp⟩
        | some p =>
          obtain ⟨g, cap⟩ := p
          rw [hr] at hv hrow
          obtain ⟨ad, c, rfl, hab, hnc, hcm, hz, hp⟩ := hv
          obtain ⟨hB, hc1, hc2, cur, hc, hcs, hall⟩ := hrow
          refine ⟨some ad, c, sz, rfl, hnc, fun p hp _ => by cases hp; rw [hab]; exact (Array.getElem?_eq_some_iff.1 hc).1, fun _ => by simp, fun i e he => ?_⟩
          rw [List.getElem?_take] at he
          split at he
          · rename_i hi
            rw [List.getElem?_drop] at he
            obtain ⟨h1, h2⟩ := hall _ e he
            refine ⟨h1, fun j u hu => ?_⟩
            obtain ⟨val, hval, hd⟩ := h2 j u hu
            refine ⟨ad, val, rfl, ?_, hd⟩
            rw [hp (by omega), add_lit, cell_of hc, ← hval, Nat.add_mul]
            congr 1; omega
          · cases he
  | _ => simp [elOk] at he

theorem VR_int64 {m : Nat → Option Blk} {S : Nat → Prop} {x : V} {v : Value} {k : IntKind} (h : VR ρ m S w x v) (hb : kOf x = some k) : v = .int k (getZ x) := by
  unfold kOf at hb
  split at hb
  · simp only [VR] at h; cases hb; cases h; rfl
  · cases hb

theorem toList_str (s : List UInt8) : (⟨s.toArray⟩ : ByteArray).toList = s := by
  rw [ByteArray.toList_eq]

/-- a plain datum as a value -/
def sv : D → Value
  | .int k n => .int k n
  | .bool b => .bool b
  | .str s => .string ⟨s.toArray⟩
  | _ => undef
def plainD : D → Bool
  | .sl .. => false
  | _ => true
theorem sv_DR {S : Nat → Prop} {x : D} (h : plainD x = true) : DR S w x (sv x) := by
  cases x with
  | int k n => exact .int k n
  | bool b => exact .bool b
  | str s => exact .str s
  | sl => cases h

theorem run_equalIn_bool (d : Nat) {T : TypeId} (hT : P.underlying T = some .bool) (x y : Bool) (w : World) :
    (Op.equalIn (d + 1) T (.bool x) (.bool y)).run P w = .ok (x == y) w := by
  simp [Op.equalIn, run_underlying hT, Sem.run_bind, Sem.run_pure, Result.andThen]
theorem run_equal_bool {T : TypeId} (hT : P.underlying T = some .bool) (x y : Bool) (w : World) :
    (Op.equal T (.bool x) (.bool y)).run P w = .ok (x == y) w := run_equalIn_bool 9999 hT x y w

theorem bin_run (op : BinOp) (T : TypeId) {x y : V} {vx vy : Value} {m : Nat → Option Blk} {S : Nat → Prop} {Tx : Operand} {Ty : Operand}
    (hx : VR ρ m S w x vx) (hy : VR ρ m S w y vy) (h : binOk op x y) (hb : boolOk P T x) :
    (∀ w', (do eqGuard op T Tx Ty vx vy; binOp op T vx vy : Sem Value).run P w' = .ok (sv (binD op x y)) w') ∧ plainD (binD op x y) = true := by
  unfold binOk at h
  split at h
  · obtain ⟨rfl, h⟩ := h
    simp only [VR] at hx hy
    cases hx; cases hy
    cases op <;> first
      | exact h.elim
      | (refine ⟨fun w' => ?_, rfl⟩
         simp [eqGuard, binOp, binD, sv, Op.intArith, Op.intCmp, Op.intBits, Sem.run_bind, Sem.run_pure, Result.andThen]; done)
      | (refine ⟨fun w' => ?_, rfl⟩
         have h' := h
         simp only [ne_eq] at h'
         simp [eqGuard, binOp, binD, sv, Op.intDiv, h', Sem.run_bind, Sem.run_pure, Result.andThen]; done)
  · simp only [VR] at hx hy
    cases hx; cases hy
    cases op <;> first
      | exact h.elim
      | (refine ⟨fun w' => ?_, rfl⟩
         simp [eqGuard, binOp, binD, sv, Op.stringOp, toList_str, Sem.run_bind, Sem.run_pure, Result.andThen]; done)
      | (rename_i s s'
         refine ⟨fun w' => ?_, rfl⟩
         have h1 := run_string_add_sum (P := P) w' ⟨s.toArray⟩ ⟨s'.toArray⟩ (by simpa [ByteArray.size] using h)
         rw [ByteArray.mk_append_mk] at h1
         simp [eqGuard, binOp, binD, sv, Sem.run_bind, Sem.run_pure, Result.andThen, h1])
  · simp only [VR] at hx hy
    simp only [boolOk] at hb
    cases hx; cases hy
    cases op <;> first
      | exact h.elim
      | (refine ⟨fun w' => ?_, rfl⟩
         simp [eqGuard, binOp, binD, sv, run_equal_bool hb, Sem.run_bind, Sem.run_pure, Result.andThen]; done)
  · exact h.elim
end
end Go.Vs
