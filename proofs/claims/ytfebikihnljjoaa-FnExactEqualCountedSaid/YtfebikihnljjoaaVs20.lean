/-
  Vs20: a part of a proof of this seat: the value-level semantics of Go code without maps (Vs), its walk rules (Vt), the frame of a row (Vr), facts of types, schedules, walks. It holds of every program and state that its hypotheses name.
-/
import Derived.Test.YtfebikihnljjoaaVs19
set_option linter.unusedSimpArgs false
set_option linter.unusedVariables false
namespace Go.Vs
open Go.RowKit

section
variable {P : Program} {A0 : Nat → Prop} {N : Nat} {w0 : World} {ρ : Nat → Option (Nat × Nat)} {σ : St} {a : Act} {w : World}

mutual
theorem rd_keys (γ γ' : Nat → Option Nat) (m : Nat → Option Blk) : ∀ v : V, v.keys = [] → rd γ m v = rd γ' m v
  | .d _, _ => rfl
  | .own k _ _, h => by simp [V.keys] at h
  | .ptr _ _ _, _ => rfl
  | .rptr _, _ => rfl
  | .bad, _ => rfl
  | .agg cs, h => by simp only [rd]; rw [rdL_keys γ γ' m cs (by simpa [V.keys] using h)]
  | .tup cs, h => by simp only [rd]; rw [rdL_keys γ γ' m cs (by simpa [V.keys] using h)]
theorem rdL_keys (γ γ' : Nat → Option Nat) (m : Nat → Option Blk) : ∀ l : List V, keysVL l = [] → rdL γ m l = rdL γ' m l
  | [], _ => rfl
  | c :: cs, h => by
    simp only [keysVL, List.append_eq_nil_iff] at h
    simp only [rdL]
    rw [rd_keys γ γ' m c h.1, rdL_keys γ γ' m cs h.2]
end

theorem LR_map (h : Rel A0 N w0 ρ σ a w) : ∀ (args : List Operand), LR ρ σ.m (Sof A0 σ.B ρ σ.m w) w (args.map σ.ev) (args.map a.eval)
  | [] => by simp [LR]
  | x :: r => by simp only [List.map_cons, LR]; exact ⟨h.ev x, LR_map h r⟩

theorem idsVL_ids : ∀ (l : List V) (i : Nat), i ∈ idsVL l → ∃ v ∈ l, i ∈ v.ids
  | [], i, h => by simp [idsVL] at h
  | v :: r, i, h => by
    simp only [idsVL, List.mem_append] at h
    rcases h with h | h
    · exact ⟨v, by simp, h⟩
    · obtain ⟨x, hx, h⟩ := idsVL_ids r i h; exact ⟨x, by simp [hx], h⟩

/-- behind a call -/
theorem call_done (h : Rel A0 N w0 ρ σ a w) {dst : Option Tmp} (hd : ∀ t, dst = some t → t < N) {w' : World} {v : Value} {r : V} {As : List V} (hb : Below w.heap.size w w')
    (hv : VR (fun _ => none) (fun _ => none) (fun g => (g ∈ idsVL As ∨ w.heap.size ≤ g) ∧ g < w'.heap.size) w' r v) (hf : rd (fun _ => none) (fun _ => none) r = some r)
    (hA : ∀ g ∈ idsVL As, g ∈ r.ids → Sof A0 σ.B ρ σ.m w g ∨ w.heap.size ≤ g) :
    Rel A0 N w0 ρ ({ σ with hs := w'.heap.size }.put dst r) (a.put dst v) w' := by
  have hBsz : σ.B ≤ w.heap.size := by rw [h.hB]; exact h.below.size
  have h1 : Rel A0 N w0 ρ { σ with hs := w'.heap.size } a w' :=
    h.world (h.below.trans (hb.mono h.below.size)) (fun g hg => hb.block g hg) hb.size (Nat.le_refl _) (Nat.le_trans h.hs hb.size)
  refine h1.put dst hd (VR.fz _ _ hf hv fun g hg hi => ?_)
  have fresh : w.heap.size ≤ g → Sof A0 σ.B ρ σ.m w' g := fun hge => ⟨.inr (by omega), hg.2, fun k b hk p hp => by have := ((h.mem k b hk).lt p hp).2; omega⟩
  rcases hg.1 with hin | hge
  · rcases hA g hin hi with hS | hge
    · exact ⟨hS.1, hg.2, hS.2.2⟩
    · exact fresh hge
  · exact fresh hge

theorem call_sound (h : Rel A0 N w0 ρ σ a w) {dst : Option Tmp} (hd : ∀ t, dst = some t → t < N) (f : FuncId) (args : Array Operand) {tys : Array TypeId} {ty : TypeId} {pos : String} {af : Array Edge} {gd : Option (Nat × Bool)}
    {K : St → Prop} (hv : vcall P f (args.toList.map σ.ev) dst K σ) {next : Act → World → Prop} {Q : Exit → Act → World → Prop}
    (hn : ∀ σ' ρ' a' w', Rel A0 N w0 ρ' σ' a' w' → Ext w w' → K σ' → next a' w') :
    (⟨dst, .call ⟨.value (.func f), args, tys⟩, ty, pos, af, gd⟩ : Oper).wp P a w next Q := by
  have main : ∀ (As : List V) (post : Nat → V → Prop), rdL (fun k => (ρ k).map (·.1)) σ.m (args.toList.map σ.ev) = some As → VC P f As post →
      (∀ (r : V) (hs' : Nat), w.heap.size ≤ hs' → post w.heap.size r → (∀ i ∈ r.ids, i < hs') → (∀ g ∈ idsVL As, g ∈ r.ids → Sof A0 σ.B ρ σ.m w g ∨ w.heap.size ≤ g) ∧ K ({ σ with hs := hs' }.put dst r)) →
      (⟨dst, .call ⟨.value (.func f), args, tys⟩, ty, pos, af, gd⟩ : Oper).wp P a w next Q := by
    intro As post hrd hVC hK
    obtain ⟨⟨fn, hfn, hbody, hname⟩, hVC⟩ := hVC
    have hrun : (execOp a.eval ⟨dst, .call ⟨.value (.func f), args, tys⟩, ty, pos, af, gd⟩).run P w = .ok (.enter f (args.map a.eval)) w := by
      have hbn : ¬ (fn.body = none) := fun hb => by rw [hb] at hbody; cases hbody
      have hname' : (fn.name == "runtime.NumGoroutine") = false := hname
      simp only [beq_eq_false_iff_ne, ne_eq] at hname'
      simp [execOp, resolve, Deferred.ofValue, Act.eval, invoke, callFunc, hfn, hname', hbn, Sem.run_bind, Sem.run_pure, Result.andThen]
    unfold Oper.wp
    rw [hrun]
    simp only [Oper.upon]
    have hLR := rdL_LR h _ _ _ (LR_map h args.toList) hrd
    have hc := hVC w (args.toList.map a.eval) (LR.mono (fun g hg => hg.2) (fun _ _ => rfl) (fun k => KC.refl k) _ _ hLR)
    have harr : (args.toList.map a.eval).toArray = args.map a.eval := by rw [← Array.toList_map]
    rw [harr] at hc
    refine hc.mono fun e w' he => ?_
    obtain ⟨v, r, rfl, hb, hvr, hfz, hpost⟩ := he
    have hids : ∀ i ∈ r.ids, i < w'.heap.size := fun i hi => (VR.ids_ _ _ hvr i hi).2
    obtain ⟨hA, hKK⟩ := hK r w'.heap.size hb.size hpost hids
    exact hn _ ρ _ w' (call_done h hd hb hvr hfz hA) ⟨hb.size, hb.block⟩ hKK
  unfold vcall at hv
  split at hv
  · rename_i hk
    obtain ⟨hrd, post, hVC, hK⟩ := hv
    rw [rdL_keys _ (fun k => (ρ k).map (·.1)) _ _ hk] at hrd
    refine main _ post hrd hVC fun r hs' hle hpost hlt => ⟨fun g hg hi => ?_, hK r w.heap.size hs' h.hs hle hpost hlt⟩
    exact .inl (LR.ids_ _ _ (LR_map h args.toList) g hg)
  · obtain ⟨As, post, hrd, hVC, hK⟩ := hv _ _ h.hs h.gam
    exact main As post hrd hVC fun r hs' hle hpost hlt => ⟨fun g _ hi => .inr ((hK r hs' hle hpost hlt).1 g hi), (hK r hs' hle hpost hlt).2⟩

/-- what is asked of an operation by its text alone -/
def okOper (N : Nat) (o : Oper) : Bool :=
  (match o.dst with | some d => decide (d < N) | none => true) && (!mkOp o || o.dst.isSome)

theorem okOper_spec {o : Oper} (h : okOper N o = true) : (∀ t, o.dst = some t → t < N) ∧ (mkOp o = true → o.dst.isSome = true) := by
  unfold okOper at h
  simp only [Bool.and_eq_true, Bool.or_eq_true, Bool.not_eq_true'] at h
  refine ⟨fun t ht => by simpa [ht] using h.1, fun hm => ?_⟩
  rcases h.2 with h2 | h2
  · rw [hm] at h2; cases h2
  · exact h2

theorem vop_sound (h : Rel A0 N w0 ρ σ a w) (o : Oper) (hok : okOper N o = true) {K : St → Prop} (hv : vop P o K σ) {next : Act → World → Prop} {Q : Exit → Act → World → Prop}
    (hn : ∀ σ' ρ' a' w', Rel A0 N w0 ρ' σ' a' w' → (effOp o = false → Ext w w') → K σ' → next a' w') : o.wp P a w next Q := by
  obtain ⟨hd, hmk⟩ := okOper_spec hok
  unfold vop at hv
  split at hv
  · rename_i f args tys heq
    obtain ⟨dst, op, ty, pos, af, gd⟩ := o
    simp only at heq
    subst heq
    exact call_sound h hd f args hv fun σ' ρ' a' w' hR hE hK => hn σ' ρ' a' w' hR (fun _ => hE) hK
  · rename_i T n parts heq
    split at hv
    · exact efs_wp (step_sound h o hd hmk hv.1) hv.2 hn
    · have h' := (h.hs_).frzs (keysVL (allC (parts.toList.map fun p => σ.ev p.2)))
      rename_i k ks hks
      rw [hks] at h'
      obtain ⟨h1, h2⟩ := hv _ _ h.hs h.gam
      exact efs_wp (step_sound h' o hd hmk h1) h2 hn
  · exact efs_wp (step_sound h o hd hmk hv.1) hv.2 hn

theorem VR_tup0 {m : Nat → Option Blk} {S : Nat → Prop} : VR ρ m S w (.tup []) undef := by
  simp only [VR]; exact ⟨[], rfl, by simp [LR]⟩

/-- operations in their order -/
theorem vops_sound {ops : Array Oper} {K : St → Prop} {Q : Exit → Act → World → Prop} (hQ : ∀ σ' ρ' a' w', Rel A0 N w0 ρ' σ' a' w' → K σ' → Q .normal a' w') :
    ∀ (l : List Oper) (ρ : Nat → Option (Nat × Nat)) (σ : St) (a : Act) (w : World), (∀ o ∈ l, okOper N o = true) → Rel A0 N w0 ρ σ a w → vops P ops K l σ → wpList P ops Q l a w
  | [], ρ, σ, a, w, _, h, hv => hQ σ ρ a w h hv
  | o :: r, ρ, σ, a, w, hok, h, hv => by
    have hok0 := hok o (by simp)
    have hokr : ∀ o ∈ r, okOper N o = true := fun o ho => hok o (by simp [ho])
    simp only [wpList]
    simp only [vops] at hv
    cases hg : o.guard with
    | none =>
      rw [hg] at hv
      have hw : Region.wanted o (yielded ops a.tmps) = true := by simp [Region.wanted, hg]
      rw [if_pos hw]
      exact .inl (vop_sound h o hok0 hv fun σ' ρ' a' w' hR _ hK => vops_sound hQ r ρ' σ' a' w' hokr hR hK)
    | some jw =>
      obtain ⟨j, want⟩ := jw
      rw [hg] at hv
      simp only at hv
      cases hj : (ops[j]?).bind (·.dst) with
      | none => simp [hj] at hv
      | some d =>
        simp only [hj] at hv
        have hvd := h.tmps d
        cases ht : σ.t d with
        | d x =>
          rw [ht] at hv hvd
          cases x with
          | bool b =>
            simp only at hv
            simp only [VR] at hvd
            have hval : a.tmps[d]? = some (.bool b) := by
              generalize hva : a.eval (.tmp d) = va at hvd
              cases hvd
              simp only [Act.eval, Array.getD_eq_getD_getElem?] at hva
              cases hx : a.tmps[d]? with
              | none => rw [hx] at hva; simp [undef] at hva
              | some y => rw [hx] at hva; simp at hva; rw [hva]
            have hy : yielded ops a.tmps j = some b := by simp [yielded, hj, hval]
            by_cases hb : b = want
            · have hw : Region.wanted o (yielded ops a.tmps) = true := by simp [Region.wanted, hg, hy, hb]
              rw [if_pos hw]
              exact .inl (vop_sound h o hok0 (hv.1 hb) fun σ' ρ' a' w' hR _ hK => vops_sound hQ r ρ' σ' a' w' hokr hR hK)
            · have hw : Region.wanted o (yielded ops a.tmps) = false := by simp [Region.wanted, hg, hy, hb]
              rw [hw]
              simp only [Bool.false_eq_true, if_false]
              exact vops_sound hQ r ρ _ _ w hokr (h.put o.dst (okOper_spec hok0).1 VR_tup0) (hv.2 (by simpa using hb))
          | _ => simp at hv
        | tup vs =>
          rw [ht] at hv hvd
          cases vs with
          | nil =>
            simp only at hv
            simp only [VR] at hvd
            obtain ⟨l, hva, hl⟩ := hvd
            have hl0 : l = [] := by cases l with
              | nil => rfl
              | cons _ _ => simp [LR] at hl
            subst hl0
            have hy : yielded ops a.tmps j = none := by
              simp only [yielded, hj, Option.bind_some]
              simp only [Act.eval, Array.getD_eq_getD_getElem?] at hva
              cases hx : a.tmps[d]? with
              | none => rfl
              | some y => rw [hx] at hva; simp at hva; rw [hva]
            have hw : Region.wanted o (yielded ops a.tmps) = false := by simp [Region.wanted, hg, hy]
            rw [hw]
            simp only [Bool.false_eq_true, if_false]
            exact vops_sound hQ r ρ _ _ w hokr (h.put o.dst (okOper_spec hok0).1 VR_tup0) hv
          | cons _ _ => simp at hv
        | _ => rw [ht] at hv; simp at hv
end
end Go.Vs
