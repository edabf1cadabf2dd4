/-
  Vt2: a part of a proof of this seat: the value-level semantics of Go code without maps (Vs), its walk rules (Vt), the frame of a row (Vr), facts of types, schedules, walks. It holds of every program and state that its hypotheses name.
-/
import Derived.Test.YtfebikihnljjoaaVt1
set_option linter.unusedSimpArgs false
set_option linter.unusedVariables false
namespace Go.Vs

/-- as 'Back', the invariant may speak of the heap's size -/
def Back2 {X : Type} (Inv : X → Nat → Prop) (S : X → List (Nat × V)) (M : X → List (Nat × Option Blk)) (μ : X → Nat) (B : Nat) (W : List Nat) (hs n : Nat) (σ : St) : Prop :=
  Lead (fun s => ∃ x, Inv x s.hs ∧ μ x < n ∧ s.B = B ∧ s.W = W ∧ hs ≤ s.hs ∧ (∀ p ∈ S x, s.t p.1 = p.2) ∧ (∀ p ∈ M x, s.m p.1 = p.2)) σ

theorem back2 {X : Type} {Inv : X → Nat → Prop} {S : X → List (Nat × V)} {M : X → List (Nat × Option Blk)} {μ : X → Nat} {B : Nat} {W : List Nat} {hs n : Nat} {σ : St} (x : X) (h1 : Inv x σ.hs) (h2 : μ x < n) (h3 : (σ.B, σ.W) = (B, W)) (h4 : hs ≤ σ.hs)
    (h5 : ∀ p ∈ S x, σ.t p.1 = p.2) (h6 : ∀ p ∈ M x, σ.m p.1 = p.2) : Back2 Inv S M μ B W hs n σ := Lead.of ⟨x, h1, h2, (Prod.mk.inj h3).1, (Prod.mk.inj h3).2, h4, h5, h6⟩

def backV2 {X : Type} (Inv : X → Nat → Prop) (S : X → List (Nat × V)) (M : X → List (Nat × Option Blk)) (μ : X → Nat) (B : Nat) (W : List Nat) (hs n : Nat) (Q : Exit → St → Prop) : Exit → St → Prop
  | .normal, σ => Back2 Inv S M μ B W hs n σ
  | e, σ => Q e σ

theorem loop_rule2 {P : Program} {E : FuncId → Bool} {sch : Nat → Tr} {c : Code} {Q : Exit → St → Prop} {B hs0 : Nat} {W : List Nat} {t0 : Nat → V} {m0 : Nat → Option Blk} {X : Type} (Inv : X → Nat → Prop) (S : X → List (Nat × V)) (M : X → List (Nat × Option Blk)) (μ : X → Nat) (x0 : X)
    (h0 : Inv x0 hs0) (hS : ∀ p ∈ S x0, t0 p.1 = p.2) (hM : ∀ p ∈ M x0, m0 p.1 = p.2)
    (hr : ∀ x hs t m, Inv x hs → hs0 ≤ hs → vwp P E sch c (backV2 Inv S M μ B W hs (μ x) Q) ⟨B, hs, W, updL t (S x), updL m (M x)⟩) : vloop P E sch c Q ⟨B, hs0, W, t0, m0⟩ := by
  refine ⟨fun n σ => ∃ x hs t m, Inv x hs ∧ μ x = n ∧ hs0 ≤ hs ∧ σ = ⟨B, hs, W, updL t (S x), updL m (M x)⟩, Lead.of ⟨_, x0, hs0, t0, m0, h0, rfl, Nat.le_refl _, by rw [updL_has hS, updL_has hM]⟩, ?_⟩
  rintro n σ ⟨x, hs, t, m, hx, rfl, hhs, rfl⟩
  refine vwp_mono _ _ _ _ ?_ (hr x hs t m hx hhs)
  intro e σ he
  cases e with
  | normal =>
    refine Lead.mono he ?_
    rintro s ⟨x', h1, h2, h3, h7, h4, h5, h6⟩
    obtain ⟨B', hs', W', t', m'⟩ := s
    simp only at h1 h3 h7 h4 h5 h6
    subst h3 h7
    exact ⟨_, h2, x', hs', t', m', h1, rfl, Nat.le_trans hhs h4, by rw [updL_has h5, updL_has h6]⟩
  | _ => exact he

@[simp] theorem backV2_n {X : Type} (Inv : X → Nat → Prop) (S : X → List (Nat × V)) (M : X → List (Nat × Option Blk)) (μ : X → Nat) (B : Nat) (W : List Nat) (hs n : Nat) (Q : Exit → St → Prop) (σ : St) : backV2 Inv S M μ B W hs n Q .normal σ = Back2 Inv S M μ B W hs n σ := rfl
@[simp] theorem backV2_e {X : Type} (Inv : X → Nat → Prop) (S : X → List (Nat × V)) (M : X → List (Nat × Option Blk)) (μ : X → Nat) (B : Nat) (W : List Nat) (hs n id : Nat) (Q : Exit → St → Prop) (σ : St) : backV2 Inv S M μ B W hs n Q (.exit id) σ = Q (.exit id) σ := rfl
@[simp] theorem backV2_r {X : Type} (Inv : X → Nat → Prop) (S : X → List (Nat × V)) (M : X → List (Nat × Option Blk)) (μ : X → Nat) (B : Nat) (W : List Nat) (hs n : Nat) (Q : Exit → St → Prop) (σ : St) : backV2 Inv S M μ B W hs n Q .ret σ = Q .ret σ := rfl
end Go.Vs
