/-
  Vs22: a part of a proof of this seat: the value-level semantics of Go code without maps (Vs), its walk rules (Vt), the frame of a row (Vr), facts of types, schedules, walks. It holds of every program and state that its hypotheses name.
-/
import Derived.Test.YtfebikihnljjoaaVs21
set_option linter.unusedSimpArgs false
set_option linter.unusedVariables false
namespace Go.Vs
open Go.RowKit

section
variable {P : Program} {A0 : Nat → Prop} {N : Nat} {w0 : World} {ρ : Nat → Option (Nat × Nat)} {σ : St} {a : Act} {w : World}

theorem res_run (h : Rel A0 N w0 ρ σ a w) (rv : ResultVar) (hr : resOk P σ rv) :
    ∃ val, ((match rv with | .tmp t => Pure.pure (a.tmps.getD t undef) | .cell c t => do loadVar t (← asAddr (a.tmps.getD c undef)) : Sem Value)).run P w = .ok val w ∧ VR ρ σ.m (Sof A0 σ.B ρ σ.m w) w (resV P σ rv) val := by
  cases rv with
  | tmp t => exact ⟨_, by simp [Sem.run_pure, Act.eval], h.tmps t⟩
  | cell c T =>
    simp only [resOk] at hr
    obtain ⟨val, hrun, hv⟩ := load_run (w' := w) h Ext.refl T (h.tmps c) hr.1 hr.2.1 hr.2.2.1 hr.2.2.2
    obtain ⟨ad, ha, hl⟩ := hrun w Ext.refl
    refine ⟨val, ?_, hv⟩
    simp only [Act.eval] at ha
    simp only
    rw [Sem.run_bind, ha]
    simp [asAddr, Sem.run_pure, Result.andThen, hl]

theorem res_list (h : Rel A0 N w0 ρ σ a w) : ∀ (rs : List ResultVar), (∀ r ∈ rs, resOk P σ r) →
    ∃ vals, (rs.mapM fun rv => (match rv with | .tmp t => Pure.pure (a.tmps.getD t undef) | .cell c t => do loadVar t (← asAddr (a.tmps.getD c undef)) : Sem Value)).run P w = .ok vals w ∧ LR ρ σ.m (Sof A0 σ.B ρ σ.m w) w (rs.map (resV P σ)) vals
  | [], _ => ⟨[], by simp [Sem.run_pure], by simp [LR]⟩
  | r :: rs, hr => by
    obtain ⟨v, h1, h2⟩ := res_run h r (hr r (by simp))
    obtain ⟨vs, h3, h4⟩ := res_list h rs fun r hr' => hr r (by simp [hr'])
    refine ⟨v :: vs, ?_, by simp only [List.map_cons, LR]; exact ⟨h2, h4⟩⟩
    rw [List.mapM_cons, Sem.run_bind, h1]
    simp only [Result.andThen]
    rw [Sem.run_bind, h3]
    simp [Sem.run_pure, Result.andThen]

theorem results_run (h : Rel A0 N w0 ρ σ a w) (fn : Func) (hr : ∀ r ∈ fn.results.toList, resOk P σ r) :
    ∃ val, (results fn a.tmps).run P w = .ok val w ∧ VR ρ σ.m (Sof A0 σ.B ρ σ.m w) w (oneV (fn.results.toList.map (resV P σ))) val := by
  obtain ⟨vals, h1, h2⟩ := res_list h fn.results.toList hr
  have hrun : (results fn a.tmps).run P w = .ok (if h : vals.toArray.size = 1 then vals.toArray[0] else .tuple vals.toArray) w := by
    unfold results
    rw [Array.mapM_eq_mapM_toList]
    simp only [Sem.run_bind, map_eq_pure_bind, bind_assoc, pure_bind]
    erw [h1]
    simp [Sem.run_pure, Result.andThen]
  refine ⟨_, hrun, ?_⟩
  match hl : fn.results.toList.map (resV P σ), vals, h2 with
  | [], [], _ => simp only [oneV, VR]; exact ⟨[], by simp, by simp [LR]⟩
  | [v], [u], h2 => simp only [LR] at h2; simpa [oneV] using h2.1
  | v1 :: v2 :: r, u1 :: u2 :: s, h2 => simp only [oneV, VR]; exact ⟨u1 :: u2 :: s, by simp, h2⟩
  | [], _ :: _, h2 => simp [LR] at h2
  | [_], [], h2 => simp [LR] at h2
  | _ :: _ :: _, [], h2 => simp [LR] at h2
  | [_], _ :: _ :: _, h2 => simp [LR] at h2
  | _ :: _ :: _, [_], h2 => simp [LR] at h2

theorem vend_sound (h : Rel A0 N w0 ρ σ a w) (fn : Func) {post : Nat → V → Prop} (hv : vend P fn.results.toList post σ) :
    a.defers = [] ∧ ∃ v, (results fn a.tmps).run P w = .ok v w ∧ ∃ r, Below w0.heap.size w0 w ∧ VR (fun _ => none) (fun _ => none) (fun g => (A0 g ∨ w0.heap.size ≤ g) ∧ g < w.heap.size) w r v ∧
      rd (fun _ => none) (fun _ => none) r = some r ∧ post w0.heap.size r := by
  obtain ⟨hok, hv⟩ := hv
  obtain ⟨val, hrun, hV⟩ := results_run h fn hok
  refine ⟨h.defers, val, hrun, ?_⟩
  have main : ∃ r, rd (fun k => (ρ k).map (·.1)) σ.m (oneV (fn.results.toList.map (resV P σ))) = some r ∧ post σ.B r := by
    split at hv
    · rename_i hk
      obtain ⟨h1, h2⟩ := hv
      rw [rd_keys _ (fun k => (ρ k).map (·.1)) _ _ hk] at h1
      exact ⟨_, h1, h2⟩
    · exact hv _ _ h.hs h.gam
  obtain ⟨r, hr, hpost⟩ := main
  rw [h.hB] at hpost
  refine ⟨r, h.below, VR.mono (fun g hg => ?_) (fun _ _ => rfl) (fun k => KC.refl k) _ _ (rd_VR h _ _ _ hV hr), rd_fz _ _ hr, hpost⟩
  rw [h.hB] at hg
  exact ⟨hg.1, hg.2.1⟩

/-- a function's contract out of its body -/
theorem VC.of {f : FuncId} {fn : Func} {c : Code} {args : List V} {post : Nat → V → Prop} (sch : Nat → Tr) (hm : P.follows .mixedOrders = true) (hf : P.funcs[f]? = some fn) (hb : fn.body = some c)
    (hname : (fn.name == "runtime.NumGoroutine") = false) (hn : args.length ≤ fn.ntmps) (hok : okCode fn.ntmps sch c = true) (h : ∀ B, vwp P sch c (vret P fn.results.toList post) (St.start args B)) : VC P f args post := by
  refine ⟨⟨fn, hf, by simp [hb], hname⟩, fun w vals hLR => ?_⟩
  have hlen := hLR.length
  refine calls_of_wp hf hb ?_
  have h0 : Rel (fun g => g ∈ idsVL args) fn.ntmps w (fun _ => none) (St.start args w.heap.size) { tmps := vals.toArray ++ Array.replicate (fn.ntmps - vals.toArray.size) undef, defers := [] } w := by
    refine ⟨Below.refl _ _, rfl, Nat.le_refl _, Nat.le_refl _, rfl, by simp; omega, fun i => ?_, by simp [St.start], by simp [St.start]⟩
    simp only [St.start]
    by_cases hi : i < args.length
    · obtain ⟨v, hv, hd⟩ := hLR.get i args[i] (List.getElem?_eq_getElem hi)
      have he : ({ tmps := vals.toArray ++ Array.replicate (fn.ntmps - vals.toArray.size) undef, defers := [] } : Act).eval (.tmp i) = v := by
        have hi' : i < vals.length := by omega
        simp only [Act.eval, Array.getD_eq_getD_getElem?]
        rw [Array.getElem?_append_left (by simpa using hi')]
        simpa using by rw [hv]; rfl
      rw [he]
      have hg : args.getD i (.tup []) = args[i] := by simp [List.getD, List.getElem?_eq_getElem hi]
      rw [hg]
      exact VR.mono (fun g hg => ⟨.inl hg.2, hg.1, by simp⟩) (fun _ _ => rfl) (fun k => KC.refl k) _ _ hd
    · have hg : args.getD i (.tup []) = .tup [] := by simp [List.getD, List.getElem?_eq_none (Nat.le_of_not_lt hi)]
      rw [hg]
      have he : ({ tmps := vals.toArray ++ Array.replicate (fn.ntmps - vals.toArray.size) undef, defers := [] } : Act).eval (.tmp i) = undef := by
        have hi' : vals.length ≤ i := by omega
        simp only [Act.eval, Array.getD_eq_getD_getElem?]
        rw [Array.getElem?_append_right (by simpa using hi')]
        cases hx : (Array.replicate (fn.ntmps - vals.toArray.size) undef)[i - vals.toArray.size]? with
        | none => rfl
        | some y =>
          rw [Array.getElem?_replicate] at hx
          split at hx
          · cases hx; rfl
          · cases hx
      rw [he]
      exact VR_tup0
  refine wp_mono (vwp_sound hm sch c _ _ _ _ _ hok h0 (h w.heap.size)) fun e a' w' he => ?_
  obtain ⟨σ', ρ', hR, hK⟩ := he
  cases e with
  | normal =>
    obtain ⟨hd, v, hrun, r, hbel, hV, hfz, hpost⟩ := vend_sound hR fn hK
    exact ⟨hd, v, hrun, v, r, rfl, hbel, hV, hfz, hpost⟩
  | ret =>
    obtain ⟨hd, v, hrun, r, hbel, hV, hfz, hpost⟩ := vend_sound hR fn hK
    exact ⟨hd, v, hrun, v, r, rfl, hbel, hV, hfz, hpost⟩
  | _ => exact hK.elim
end
end Go.Vs
