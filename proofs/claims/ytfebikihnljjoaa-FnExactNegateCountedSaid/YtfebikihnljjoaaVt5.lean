/-
  Vt5: a part of a proof of this seat: the value-level semantics of Go code without maps (Vs), its walk rules (Vt), the frame of a row (Vr), facts of types, schedules, walks. It holds of every program and state that its hypotheses name.
-/
import Derived.Test.YtfebikihnljjoaaVt4
set_option linter.unusedSimpArgs false
set_option linter.unusedVariables false
namespace Go.Vs

theorem Lead.bind {K K' : St → Prop} {σ : St} (h : Lead K σ) (hk : ∀ σ', K σ' → Lead K' σ') : Lead K' σ := fun A0 N w0 ρ a w hR =>
  let ⟨σ', ρ', hR', hK⟩ := h A0 N w0 ρ a w hR; hk σ' hK A0 N w0 ρ' a w hR'

section
variable {A0 : Env} {N : Nat} {w0 : World} {ρ : Nat → Option (Nat × Nat)} {σ : St} {a : Act} {w : World}

theorem Rel.layNil (h : Rel A0 N w0 ρ σ a w) {K T sz : Nat} (hK : K ≠ 1000) (hsz : 0 < sz) : Rel A0 N w0 (upd ρ K none) (σ.lay K (.row T sz [])) a w :=
  h.lay K hK (.row T sz []) none h.below (Nat.le_refl _) (fun _ _ _ => rfl) (fun p hp => by cases hp) (fun _ _ => ⟨hsz, rfl⟩)

/-- a slot that holds nil: an empty row of ours -/
theorem lead_slot {σ : St} (s K T sz : Nat) (hK : K ≠ 1000) (hsz : 0 < sz) (hs : σ.t s = .d (.sl none none [])) :
    Lead (fun σ' => σ' = { σ.lay K (.row T sz []) with t := upd (σ.lay K (.row T sz [])).t s (.own K 0 0) }) σ := by
  intro A0 N w0 ρ a w h
  have h1 := h.layNil (T := T) hK hsz
  refine ⟨{ σ.lay K (.row T sz []) with t := upd (σ.lay K (.row T sz [])).t s (.own K 0 0) }, _, ⟨h1.below, h1.hN, h1.key, h1.norow, h1.hG, h1.hB, h1.hs, h1.hs0, h1.defers, h1.size, fun i => ?_, h1.mem, h1.inj⟩, rfl⟩
  simp only [upd]
  split
  · rename_i hi
    subst hi
    have hv := h.tmps i
    rw [hs] at hv
    simp only [VR] at hv
    generalize a.eval (.tmp i) = v at hv
    cases hv
    simp only [VR, lay_m_same, Blk.map]
    refine ⟨by simp, ?_⟩
    simp [OwnV]
  · exact h1.tmps i

theorem LR_set {ρ : Nat → Option (Nat × Nat)} {m : Nat → Option Blk} {S : Nat → Prop} {w : World} {l : List V} {vs : List Value} (h : LR ρ m S w l vs) (j : Nat) (x : V) (hx : ∀ v, vs[j]? = some v → VR ρ m S w x v) : LR ρ m S w (l.set j x) vs := by
  refine LR.of_get (by simpa using h.length) fun i c v hc hv => ?_
  rw [List.getElem?_set] at hc
  split at hc
  · rename_i hij
    subst hij
    split at hc
    · cases hc; exact hx v hv
    · cases hc
  · obtain ⟨u, hu, hd⟩ := h.get i c hc
    rw [hv] at hu; cases hu; exact hd

/-- a variable of ours with a cell that holds nil: that cell holds an empty row of ours -/
theorem lead_box {σ : St} (b j K T sz : Nat) (cs : List V) (hK : K ≠ 1000) (hbK : b ≠ K) (hsz : 0 < sz) (hb : σ.m b = some (.box cs)) (hj : cs[j]? = some (.d (.sl none none []))) :
    Lead (fun σ' => σ' = { σ.lay K (.row T sz []) with m := upd (σ.lay K (.row T sz [])).m b (some (.box ((cs.map (wipe K)).set j (.own K 0 0)))) }) σ := by
  intro A0 N w0 ρ a w h
  have h1 := h.layNil (T := T) hK hsz
  have hb1 : (σ.lay K (.row T sz [])).m b = some (.box (cs.map (wipe K))) := by rw [lay_m_ne _ _ _ _ hbK, hb]; rfl
  have hkc : ∀ k, KC (upd ρ K none) (σ.lay K (.row T sz [])).m (upd ρ K none) (upd (σ.lay K (.row T sz [])).m b (some (.box ((cs.map (wipe K)).set j (.own K 0 0))))) k := by
    intro k
    by_cases hk : k = b
    · subst hk; simp only [KC, upd, if_true]; exact ⟨trivial, _, hb1⟩
    · have := KC.refl (ρ := upd ρ K none) (m := (σ.lay K (.row T sz [])).m) k
      unfold KC at this ⊢
      simpa [upd, hk] using this
  refine ⟨_, _, h1.setBlk (b' := .box ((cs.map (wipe K)).set j (.own K 0 0))) hb1 rfl h1.below (Nat.le_refl _) (fun _ _ => rfl) hkc (fun hS hw => ?_), rfl⟩
  obtain ⟨g, cap, hr, hB, cur, T', hc, hl⟩ := h1.mem b _ hb1
  refine ⟨g, cap, hr, hB, cur, T', hc, LR_set (LR.mono hS hw hkc _ _ hl) j _ fun v hv => ?_⟩
  obtain ⟨g0, cap0, hr0, hB0, cur0, T0, hc0, hl0⟩ := h.mem b _ hb
  have hr' : ρ b = some (g, cap) := by simpa [upd, hbK] using hr
  rw [hr'] at hr0
  cases hr0
  rw [hc] at hc0
  cases hc0
  obtain ⟨u, hu, hd⟩ := hl0.get j _ hj
  rw [hv] at hu
  cases hu
  simp only [VR] at hd
  cases hd
  simp only [VR, upd, Ne.symm hbK, if_false]
  rw [lay_m_same]
  simp [Blk.map, OwnV]
end

/-- the loop rule: entry by a state that is as good; the invariant may speak of the heap's size -/
theorem loop_ruleL {P : Program} {E : FuncId → Bool} {sch : Nat → Tr} {c : Code} {Q : Exit → St → Prop} {B hs0 : Nat} {W : List Nat} {t0 : Nat → V} {m0 : Nat → Option Blk} {X : Type} (Inv : X → Nat → Prop) (S : X → List (Nat × V)) (M : X → List (Nat × Option Blk)) (μ : X → Nat)
    (h0 : Lead (fun s => ∃ x, Inv x s.hs ∧ s.B = B ∧ s.W = W ∧ hs0 ≤ s.hs ∧ (∀ p ∈ S x, s.t p.1 = p.2) ∧ (∀ p ∈ M x, s.m p.1 = p.2)) ⟨B, hs0, W, t0, m0⟩)
    (hr : ∀ x hs t m, Inv x hs → hs0 ≤ hs → vwp P E sch c (backV2 Inv S M μ B W hs (μ x) Q) ⟨B, hs, W, updL t (S x), updL m (M x)⟩) : vloop P E sch c Q ⟨B, hs0, W, t0, m0⟩ := by
  refine ⟨fun n σ => ∃ x hs t m, Inv x hs ∧ μ x = n ∧ hs0 ≤ hs ∧ σ = ⟨B, hs, W, updL t (S x), updL m (M x)⟩, Lead.mono h0 ?_, ?_⟩
  · rintro s ⟨x, h1, h3, h7, h4, h5, h6⟩
    obtain ⟨B', hs', W', t', m'⟩ := s
    simp only at h1 h3 h7 h4 h5 h6
    subst h3 h7
    exact ⟨_, x, hs', t', m', h1, rfl, h4, by rw [updL_has h5, updL_has h6]⟩
  rintro n σ ⟨x, hs, t, m, hx, rfl, hhs, rfl⟩
  refine vwp_mono _ _ _ _ ?_ (hr x hs t m hx hhs)
  intro e σ he
  cases e with
  | normal =>
    refine Lead.mono he ?_
    rintro s ⟨x', h1, h2, h3, h7, h4, h5, h6⟩
    obtain ⟨B', hs', W', t', m'⟩ := s
    simp only at h1 h3 h7 h4 h5 h6
    subst h3 h7
    exact ⟨_, h2, x', hs', t', m', h1, rfl, Nat.le_trans hhs h4, by rw [updL_has h5, updL_has h6]⟩
  | _ => exact he
/-- a slice literal of rows of ours: these become data -/
theorem bs1 {P : Program} {E : FuncId → Bool} {ops : Array Oper} {K : St → Prop} {r : List Oper} {σ : St} {k : Tmp} {ty : TypeId} {pos : String} {af : Array Edge} {T n k' : Nat} {ks : List Nat} {parts : Array (Nat × Operand)} (hk : keysVL (allC (parts.toList.map fun p : Nat × Operand => σ.ev p.2)) = k' :: ks)
    (h : ∀ γ hs', σ.hs ≤ hs' → Gam σ γ hs' → ((tslice P T).isSome = true ∧ n * (slT P T).2.1 ≤ 16777216 ∧ parts.size = n ∧ partsOk ({ σ with hs := hs' }.frzs γ (k' :: ks)) (slT P T).2.1 0 parts.toList ∧ (allC (parts.toList.map fun p : Nat × Operand => ({ σ with hs := hs' }.frzs γ (k' :: ks)).ev p.2)).all isD = true) ∧
        vops P E ops K r ((({ σ with hs := hs' }.frzs γ (k' :: ks)).lay k (.row (slT P T).1 (slT P T).2.1 (chunk (slT P T).2.1 n ((allC (parts.toList.map fun p : Nat × Operand => ({ σ with hs := hs' }.frzs γ (k' :: ks)).ev p.2)).map dD)))).put (some k) (.own k 0 n))) :
    vops P E ops K (⟨some k, .buildSlice T n parts, ty, pos, af, none⟩ :: r) σ := by
  rw [w_bs1 T n k' ks parts hk]
  intro γ hs' h1 h2
  obtain ⟨h3, h4⟩ := h γ hs' h1 h2
  exact ⟨h3, h4⟩
attribute [simp] St.frzs St.frz Vs.frz Vs.frzL
theorem gam_row2 {σ : St} {γ : Nat → Option Nat} {hs' k T sz k2 T2 sz2 : Nat} {es es2 : List (List D)} (hg : Gam σ γ hs') (hm : σ.m k = some (.row T sz es)) (hm2 : σ.m k2 = some (.row T2 sz2 es2)) : ∀ g, γ k = some g → g ∉ idsLL es2 :=
  fun g h => (hg.fr k T sz es g hm h).1.row k2 T2 sz2 es2 hm2
theorem GoodL.snoc2 {α : Type} {c : α → List D} {wh : α → Prop} {n h h' : Nat} {l : List α} {a : α} (hl : GoodL c wh n h l) (h1 : h ≤ h') (ha : Good (c a) (wh a) n) (hd : ∀ g ∈ idsL (c a), g ∉ idsLL (l.map c)) (hb : ∀ g ∈ idsL (c a), g < h') : GoodL c wh n h' (l ++ [a]) := by
  have e : idsLL ((l ++ [a]).map c) = idsLL (l.map c) ++ idsL (c a) := by simp [idsLL_append, idsLL]
  refine ⟨?_, fun g hg => ?_, fun g hg => ?_, fun b hb => ?_⟩
  · rw [e]
    exact List.nodup_append.2 ⟨hl.nd, ha.nd, fun x hx y hy hxy => hd y hy (hxy ▸ hx)⟩
  · rw [e] at hg
    rcases List.mem_append.1 hg with hg | hg
    · exact hl.lo g hg
    · exact ha.lo g hg
  · rw [e] at hg
    rcases List.mem_append.1 hg with hg | hg
    · have := hl.hi g hg; omega
    · exact hb g hg
  · rcases List.mem_append.1 hb with hb | hb
    · exact hl.wh b hb
    · rw [List.mem_singleton.1 hb]; exact ha.wh
/-- a row of ints of ours that became data -/
theorem good_ints {γ17 : Option Nat} {T : TypeId × Nat} {xs : List Int} {B : Nat} (q1 : ∀ g, γ17 = some g → B ≤ g) (q2 : xs ≠ [] → γ17 ≠ none) : Good (cS cI ⟨γ17, some T, xs⟩) (whS whI ⟨γ17, some T, xs⟩) B :=
  good_row q1 q2 (fun g _ => by simp) ⟨by simp, by simp⟩ (by simp [whI])
theorem ids_ints {γ17 : Option Nat} {T : Option (TypeId × Nat)} {xs : List Int} {g : Nat} (h : g ∈ idsL (cS cI ⟨γ17, T, xs⟩)) : γ17 = some g := by
  rw [idsL_cS] at h
  rcases mem_sl_ids.1 h with h | h
  · exact h
  · simp at h
end Go.Vs
