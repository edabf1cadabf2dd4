/-
  Vs22: a part of a proof of this seat: the value-level semantics of Go code without maps (Vs), its walk rules (Vt), the frame of a row (Vr), facts of types, schedules, walks. It holds of every program and state that its hypotheses name.
-/
import Derived.Test.YtfebikihnljjoaaVs21
set_option linter.unusedSimpArgs false
set_option linter.unusedVariables false
namespace Go.Vs
open Go.RowKit

section
variable {P : Program} {E : FuncId → Bool} {A0 : Env} {N : Nat} {w0 : World} {ρ : Nat → Option (Nat × Nat)} {σ : St} {a : Act} {w : World}

theorem res_run (h : Rel A0 N w0 ρ σ a w) (rv : ResultVar) (hr : resOk P σ rv) :
    ∃ val, ((match rv with | .tmp t => Pure.pure (a.tmps.getD t undef) | .cell c t => do loadVar t (← asAddr (a.tmps.getD c undef)) : Sem Value)).run P w = .ok val w ∧ VR ρ σ.m (Sof A0 σ.B ρ σ.m w) w (resV P σ rv) val := by
  cases rv with
  | tmp t => exact ⟨_, by simp [Sem.run_pure, Act.eval], h.tmps t⟩
  | cell c T =>
    simp only [resOk] at hr
    obtain ⟨val, hrun, hv⟩ := load_run (w' := w) h Ext.refl T (h.tmps c) hr.1 hr.2.1 hr.2.2.1 hr.2.2.2
    obtain ⟨ad, ha, hl⟩ := hrun w Ext.refl
    refine ⟨val, ?_, hv⟩
    simp only [Act.eval] at ha
    simp only
    rw [Sem.run_bind, ha]
    simp [asAddr, Sem.run_pure, Result.andThen, hl]

theorem res_list (h : Rel A0 N w0 ρ σ a w) : ∀ (rs : List ResultVar), (∀ r ∈ rs, resOk P σ r) →
    ∃ vals, (rs.mapM fun rv => (match rv with | .tmp t => Pure.pure (a.tmps.getD t undef) | .cell c t => do loadVar t (← asAddr (a.tmps.getD c undef)) : Sem Value)).run P w = .ok vals w ∧ LR ρ σ.m (Sof A0 σ.B ρ σ.m w) w (rs.map (resV P σ)) vals
  | [], _ => ⟨[], by simp [Sem.run_pure], by simp [LR]⟩
  | r :: rs, hr => by
    obtain ⟨v, h1, h2⟩ := res_run h r (hr r (by simp))
    obtain ⟨vs, h3, h4⟩ := res_list h rs fun r hr' => hr r (by simp [hr'])
    refine ⟨v :: vs, ?_, by simp only [List.map_cons, LR]; exact ⟨h2, h4⟩⟩
    rw [List.mapM_cons, Sem.run_bind, h1]
    simp only [Result.andThen]
    rw [Sem.run_bind, h3]
    simp [Sem.run_pure, Result.andThen]

theorem results_run (h : Rel A0 N w0 ρ σ a w) (fn : Func) (hr : ∀ r ∈ fn.results.toList, resOk P σ r) :
    ∃ val, (results fn a.tmps).run P w = .ok val w ∧ VR ρ σ.m (Sof A0 σ.B ρ σ.m w) w (oneV (fn.results.toList.map (resV P σ))) val := by
  obtain ⟨vals, h1, h2⟩ := res_list h fn.results.toList hr
  have hrun : (results fn a.tmps).run P w = .ok (if h : vals.toArray.size = 1 then vals.toArray[0] else .tuple vals.toArray) w := by
    unfold results
    rw [Array.mapM_eq_mapM_toList]
    simp only [Sem.run_bind, map_eq_pure_bind, bind_assoc, pure_bind]
    erw [h1]
    simp [Sem.run_pure, Result.andThen]
  refine ⟨_, hrun, ?_⟩
  match hl : fn.results.toList.map (resV P σ), vals, h2 with
  | [], [], _ => simp only [oneV, VR]; exact ⟨[], by simp, by simp [LR]⟩
  | [v], [u], h2 => simp only [LR] at h2; simpa [oneV] using h2.1
  | v1 :: v2 :: r, u1 :: u2 :: s, h2 => simp only [oneV, VR]; exact ⟨u1 :: u2 :: s, by simp, h2⟩
  | [], _ :: _, h2 => simp [LR] at h2
  | [_], [], h2 => simp [LR] at h2
  | _ :: _ :: _, [], h2 => simp [LR] at h2
  | [_], _ :: _ :: _, h2 => simp [LR] at h2
  | _ :: _ :: _, [_], h2 => simp [LR] at h2

theorem vend_sound (h : Rel A0 N w0 ρ σ a w) (fn : Func) {post : Nat → V → Prop} (hv : vend P fn.results.toList post σ) :
    a.defers = [] ∧ ∃ v, (results fn a.tmps).run P w = .ok v w ∧ ∃ r, Bel A0.G w0.heap.size w0 w ∧ VR (fun _ => none) (fun _ => none) (fun g => (A0.A g ∨ w0.heap.size ≤ g) ∧ g < w.heap.size) w r v ∧
      rd (fun _ => none) (fun _ => none) r = some r ∧ post w0.heap.size r := by
  obtain ⟨hok, hv⟩ := hv
  obtain ⟨val, hrun, hV⟩ := results_run h fn hok
  refine ⟨h.defers, val, hrun, ?_⟩
  have main : ∃ r, rd (fun k => (ρ k).map (·.1)) σ.m (oneV (fn.results.toList.map (resV P σ))) = some r ∧ post σ.B r := by
    split at hv
    · rename_i hk
      obtain ⟨h1, h2⟩ := hv
      rw [rd_keys _ (fun k => (ρ k).map (·.1)) _ _ hk] at h1
      exact ⟨_, h1, h2⟩
    · exact hv _ _ h.hs h.gam
  obtain ⟨r, hr, hpost⟩ := main
  rw [h.hB] at hpost
  refine ⟨r, h.below, VR.mono (fun g hg => ?_) (fun _ _ => rfl) (fun k => KC.refl k) _ _ (rd_VR h _ _ _ hV hr), rd_fz _ _ hr, hpost⟩
  rw [h.hB] at hg
  exact ⟨hg.1, hg.2.1⟩

theorem dsV_DR (h : Rel A0 N w0 ρ σ a w) (i : Nat) : ∀ d ∈ dsV (σ.t i), ∃ v', DR (Sof A0 σ.B ρ σ.m w) w d v' := by
  intro d hd
  have hv := h.tmps i
  generalize σ.t i = x at *
  cases x with
  | d y =>
    simp only [dsV, List.mem_singleton] at hd
    subst hd
    simp only [VR] at hv
    exact ⟨_, hv⟩
  | agg cs =>
    simp only [dsV, List.mem_map, List.mem_filter] at hd
    obtain ⟨c, ⟨hc, hdc⟩, rfl⟩ := hd
    simp only [VR] at hv
    obtain ⟨l, _, hl⟩ := hv
    obtain ⟨n, hn⟩ := List.mem_iff_getElem?.1 hc
    obtain ⟨v, _, hcv⟩ := hl.get n c hn
    cases c with
    | d y => simp only [VR] at hcv; exact ⟨_, hcv⟩
    | _ => simp [isD] at hdc
  | _ => simp [dsV] at hd

theorem vendX_sound (h : Rel A0 N w0 ρ σ a w) (fn : Func) {post : Nat → V → List V → List D → Prop} {W : List Nat} {bx : Bool} {gb : Nat} (hkey : bx = true → ρ 1000 = some (gb, 0)) (hv : vendX P fn.results.toList post W bx σ) :
    a.defers = [] ∧ ∃ v, (results fn a.tmps).run P w = .ok v w ∧ ∃ r cs' ws, Bel A0.G w0.heap.size w0 w ∧ VR (fun _ => none) (fun _ => none) (fun g => (A0.A g ∨ w0.heap.size ≤ g) ∧ g < w.heap.size ∧ ¬ (bx = true ∧ g = gb)) w r v ∧
      rd (fun _ => none) (fun _ => none) r = some r ∧
      (bx = true → ∃ cur T, w.heap[gb]? = some (.cells cur T (0, 0)) ∧ LR (fun _ => none) (fun _ => none) (fun g => (A0.A g ∨ w0.heap.size ≤ g) ∧ g < w.heap.size ∧ ¬ (bx = true ∧ g = gb)) w cs' cur.toList ∧ rdL (fun _ => none) (fun _ => none) cs' = some cs') ∧
      (∀ d ∈ ws, ∃ v', DR (fun g => (A0.A g ∨ w0.heap.size ≤ g) ∧ g < w.heap.size ∧ ¬ (bx = true ∧ g = gb)) w d v') ∧ post w0.heap.size r cs' ws := by
  obtain ⟨hok, hbx, is, hv⟩ := hv
  obtain ⟨val, hrun, hV⟩ := results_run h fn hok
  refine ⟨h.defers, val, hrun, ?_⟩
  obtain ⟨r, cs', hr, hcs, hpost⟩ := hv _ _ h.hs h.gam
  have hbox : bx = true → ∃ cs0, σ.m 1000 = some (.box cs0) := fun hb => by
    have := hbx hb
    cases hm : σ.m 1000 with
    | none => rw [hm] at this; cases this
    | some b =>
      cases b with
      | box cs0 => exact ⟨cs0, rfl⟩
      | row _ _ _ => rw [hm] at this; cases this
  rw [← h.hB]
  have conv : ∀ g, NoBox ρ σ.m g → ¬ (bx = true ∧ g = gb) := fun g hg hh => by
    obtain ⟨cs0, hcs0⟩ := hbox hh.1
    exact hg 1000 cs0 _ hcs0 (hkey hh.1) hh.2.symm
  refine ⟨r, cs', _, by rw [h.hB]; exact h.below, VR.mono (fun g hg => ⟨hg.1, hg.2.1, conv g hg.2.2.2⟩) (fun _ _ => rfl) (fun k => KC.refl k) _ _ (rd_VR h _ _ _ hV hr), rd_fz _ _ hr, fun hb => ?_, fun d hd => ?_, hpost⟩
  · obtain ⟨cs0, hcs0⟩ := hbox hb
    have hmem := h.mem 1000 _ hcs0
    obtain ⟨g, cap, hρ, _, cur, T, hcur, hl⟩ := hmem
    rw [hkey hb] at hρ
    cases hρ
    simp only [hb, if_true, hcs0, getC] at hcs
    exact ⟨cur, T, hcur, LR.mono (fun g hg => ⟨hg.1, hg.2.1, conv g hg.2.2.2⟩) (fun _ _ => rfl) (fun k => KC.refl k) _ _ (rdL_LR h _ _ _ hl hcs), rdL_fz _ _ hcs⟩
  · simp only [List.mem_flatMap] at hd
    obtain ⟨i, _, hd⟩ := hd
    obtain ⟨v', hv'⟩ := dsV_DR h i d hd
    exact ⟨v', hv'.mono (fun g hg => ⟨hg.1, hg.2.1, conv g fun k cs p hk hp => hg.2.2 k _ hk p hp⟩) (fun _ _ => rfl)⟩

/-- a function's contract out of its body -/
theorem VC.of (E : FuncId → Bool) {f : FuncId} {fn : Func} {c : Code} {args : List V} {post : Nat → V → Prop} (sch : Nat → Tr) (hm : P.follows .mixedOrders = true) (hf : P.funcs[f]? = some fn) (hb : fn.body = some c)
    (hname : (fn.name == "runtime.NumGoroutine") = false) (hn : args.length ≤ fn.ntmps) (hN : fn.ntmps ≤ 1000) (hok : okCode E fn.ntmps sch c = true) (h : ∀ B, vwp P E sch c (vret P fn.results.toList post) (St.start args B)) : VC P f args post := by
  refine ⟨⟨fn, hf, by simp [hb], hname⟩, fun w vals hLR => ?_⟩
  have hlen := hLR.length
  refine calls_of_wp hf hb ?_
  have h0 : Rel ⟨fun g => g ∈ idsVL args, fun _ => False, none⟩ fn.ntmps w (fun _ => none) (St.start args w.heap.size) { tmps := vals.toArray ++ Array.replicate (fn.ntmps - vals.toArray.size) undef, defers := [] } w := by
    refine ⟨Bel.refl _ _ _, hN, rfl, rfl, by simp [St.start], rfl, Nat.le_refl _, Nat.le_refl _, rfl, by simp; omega, fun i => ?_, by simp [St.start], by simp [St.start]⟩
    simp only [St.start]
    by_cases hi : i < args.length
    · obtain ⟨v, hv, hd⟩ := hLR.get i args[i] (List.getElem?_eq_getElem hi)
      have he : ({ tmps := vals.toArray ++ Array.replicate (fn.ntmps - vals.toArray.size) undef, defers := [] } : Act).eval (.tmp i) = v := by
        have hi' : i < vals.length := by omega
        simp only [Act.eval, Array.getD_eq_getD_getElem?]
        rw [Array.getElem?_append_left (by simpa using hi')]
        simpa using by rw [hv]; rfl
      rw [he]
      have hg : args.getD i (.tup []) = args[i] := by simp [List.getD, List.getElem?_eq_getElem hi]
      rw [hg]
      exact VR.mono (fun g hg => ⟨.inl hg.2, hg.1, by simp⟩) (fun _ _ => rfl) (fun k => KC.refl k) _ _ hd
    · have hg : args.getD i (.tup []) = .tup [] := by simp [List.getD, List.getElem?_eq_none (Nat.le_of_not_lt hi)]
      rw [hg]
      have he : ({ tmps := vals.toArray ++ Array.replicate (fn.ntmps - vals.toArray.size) undef, defers := [] } : Act).eval (.tmp i) = undef := by
        have hi' : vals.length ≤ i := by omega
        simp only [Act.eval, Array.getD_eq_getD_getElem?]
        rw [Array.getElem?_append_right (by simpa using hi')]
        cases hx : (Array.replicate (fn.ntmps - vals.toArray.size) undef)[i - vals.toArray.size]? with
        | none => rfl
        | some y =>
          rw [Array.getElem?_replicate] at hx
          split at hx
          · cases hx; rfl
          · cases hx
      rw [he]
      exact VR_tup0
  refine wp_mono (vwp_sound hm sch c _ _ _ _ _ hok h0 (h w.heap.size)) fun e a' w' he => ?_
  obtain ⟨σ', ρ', hR, hK⟩ := he
  cases e with
  | normal =>
    obtain ⟨hd, v, hrun, r, hbel, hV, hfz, hpost⟩ := vend_sound hR fn hK
    exact ⟨hd, v, hrun, v, r, rfl, hbel.below, hV, hfz, hpost⟩
  | ret =>
    obtain ⟨hd, v, hrun, r, hbel, hV, hfz, hpost⟩ := vend_sound hR fn hK
    exact ⟨hd, v, hrun, v, r, rfl, hbel.below, hV, hfz, hpost⟩
  | _ => exact hK.elim

/-- as 'VC.of': the blocks of the arguments are old -/
theorem VC.ofB (E : FuncId → Bool) {f : FuncId} {fn : Func} {c : Code} {args : List V} {post : Nat → V → Prop} (sch : Nat → Tr) (hm : P.follows .mixedOrders = true) (hf : P.funcs[f]? = some fn) (hb : fn.body = some c)
    (hname : (fn.name == "runtime.NumGoroutine") = false) (hn : args.length ≤ fn.ntmps) (hN : fn.ntmps ≤ 1000) (hok : okCode E fn.ntmps sch c = true) (h : ∀ B, (∀ g ∈ idsVL args, g < B) → vwp P E sch c (vret P fn.results.toList post) (St.start args B)) : VC P f args post := by
  refine ⟨⟨fn, hf, by simp [hb], hname⟩, fun w vals hLR => ?_⟩
  have hlen := hLR.length
  refine calls_of_wp hf hb ?_
  have h0 : Rel ⟨fun g => g ∈ idsVL args, fun _ => False, none⟩ fn.ntmps w (fun _ => none) (St.start args w.heap.size) { tmps := vals.toArray ++ Array.replicate (fn.ntmps - vals.toArray.size) undef, defers := [] } w := by
    refine ⟨Bel.refl _ _ _, hN, rfl, rfl, by simp [St.start], rfl, Nat.le_refl _, Nat.le_refl _, rfl, by simp; omega, fun i => ?_, by simp [St.start], by simp [St.start]⟩
    simp only [St.start]
    by_cases hi : i < args.length
    · obtain ⟨v, hv, hd⟩ := hLR.get i args[i] (List.getElem?_eq_getElem hi)
      have he : ({ tmps := vals.toArray ++ Array.replicate (fn.ntmps - vals.toArray.size) undef, defers := [] } : Act).eval (.tmp i) = v := by
        have hi' : i < vals.length := by omega
        simp only [Act.eval, Array.getD_eq_getD_getElem?]
        rw [Array.getElem?_append_left (by simpa using hi')]
        simpa using by rw [hv]; rfl
      rw [he]
      have hg : args.getD i (.tup []) = args[i] := by simp [List.getD, List.getElem?_eq_getElem hi]
      rw [hg]
      exact VR.mono (fun g hg => ⟨.inl hg.2, hg.1, by simp⟩) (fun _ _ => rfl) (fun k => KC.refl k) _ _ hd
    · have hg : args.getD i (.tup []) = .tup [] := by simp [List.getD, List.getElem?_eq_none (Nat.le_of_not_lt hi)]
      rw [hg]
      have he : ({ tmps := vals.toArray ++ Array.replicate (fn.ntmps - vals.toArray.size) undef, defers := [] } : Act).eval (.tmp i) = undef := by
        have hi' : vals.length ≤ i := by omega
        simp only [Act.eval, Array.getD_eq_getD_getElem?]
        rw [Array.getElem?_append_right (by simpa using hi')]
        cases hx : (Array.replicate (fn.ntmps - vals.toArray.size) undef)[i - vals.toArray.size]? with
        | none => rfl
        | some y =>
          rw [Array.getElem?_replicate] at hx
          split at hx
          · cases hx; rfl
          · cases hx
      rw [he]
      exact VR_tup0
  refine wp_mono (vwp_sound hm sch c _ _ _ _ _ hok h0 (h w.heap.size fun g hg => (LR.ids_ _ _ hLR g hg).1)) fun e a' w' he => ?_
  obtain ⟨σ', ρ', hR, hK⟩ := he
  cases e with
  | normal =>
    obtain ⟨hd, v, hrun, r, hbel, hV, hfz, hpost⟩ := vend_sound hR fn hK
    exact ⟨hd, v, hrun, v, r, rfl, hbel.below, hV, hfz, hpost⟩
  | ret =>
    obtain ⟨hd, v, hrun, r, hbel, hV, hfz, hpost⟩ := vend_sound hR fn hK
    exact ⟨hd, v, hrun, v, r, rfl, hbel.below, hV, hfz, hpost⟩
  | _ => exact hK.elim

/-- the contract of a function that writes what it is handed, out of its body -/
theorem VX.of (E : FuncId → Bool) {f : FuncId} {fn : Func} {c : Code} {W : List Nat} {args : List V} {bx : Option (List V)} {post : Nat → V → List V → List D → Prop} (sch : Nat → Tr) (hm : P.follows .mixedOrders = true) (hf : P.funcs[f]? = some fn) (hb : fn.body = some c)
    (hname : (fn.name == "runtime.NumGoroutine") = false) (hn : args.length ≤ fn.ntmps) (hN : fn.ntmps ≤ 1000) (hok : okCode E fn.ntmps sch c = true) (hW : ∀ g ∈ W, g ∈ idsVL args ∨ g ∈ idsVL (bx.getD []))
    (hbd : ∀ cs, bx = some cs → rdL (fun _ => none) (fun _ => none) cs = some cs)
    (h : ∀ B, (∀ g, g ∈ idsVL args ∨ g ∈ idsVL (bx.getD []) → g < B) → vwp P E sch c (vretX P fn.results.toList post W bx.isSome) (St.startX args W bx B)) : VX P f W args bx post := by
  refine ⟨⟨fn, hf, by simp [hb], hname⟩, hW, fun w vals gb hLR hbx => ?_⟩
  have hlen := hLR.length
  refine calls_of_wp hf hb ?_
  let A : Nat → Prop := fun g => (g ∈ idsVL args ∨ g ∈ idsVL (bx.getD [])) ∧ ¬ (bx.isSome = true ∧ g = gb)
  let G : Nat → Prop := fun g => g ∈ W ∨ (bx.isSome = true ∧ g = gb)
  have hSof : ∀ g, (g < w.heap.size ∧ (g ∈ idsVL args ∨ g ∈ idsVL (bx.getD [])) ∧ ¬ (bx.isSome = true ∧ g = gb)) →
      Sof ⟨A, G, some (gb, 0)⟩ w.heap.size (fun k => if k = 1000 then some (gb, 0) else none) (fun k => if k = 1000 then bx.map .box else none) w g := by
    intro g hg
    refine ⟨.inl hg.2, hg.1, fun k b hk p hp heq => ?_⟩
    by_cases h1 : k = 1000
    · simp only [h1, if_true, Option.some.injEq] at hk hp
      subst hp
      cases hbx1 : bx with
      | none => rw [hbx1] at hk; cases hk
      | some cs => exact hg.2.2 ⟨by rw [hbx1]; rfl, heq.symm⟩
    · simp [h1] at hk
  have h0 : Rel ⟨A, G, some (gb, 0)⟩ fn.ntmps w (fun k => if k = 1000 then some (gb, 0) else none) (St.startX args W bx w.heap.size) { tmps := vals.toArray ++ Array.replicate (fn.ntmps - vals.toArray.size) undef, defers := [] } w := by
    refine ⟨Bel.refl _ _ _, hN, by simp, ?_, fun g hg => .inl hg, rfl, Nat.le_refl _, Nat.le_refl _, rfl, by simp; omega, fun i => ?_, fun k b hk => ?_, fun k k' b b' p p' hk hk' _ _ _ => ?_⟩
    · simp only [St.startX, if_true]
      cases bx <;> rfl
    · simp only [St.startX]
      by_cases hi : i < args.length
      · obtain ⟨v, hv, hd⟩ := hLR.get i args[i] (List.getElem?_eq_getElem hi)
        have he : ({ tmps := vals.toArray ++ Array.replicate (fn.ntmps - vals.toArray.size) undef, defers := [] } : Act).eval (.tmp i) = v := by
          have hi' : i < vals.length := by omega
          simp only [Act.eval, Array.getD_eq_getD_getElem?]
          rw [Array.getElem?_append_left (by simpa using hi')]
          simpa using by rw [hv]; rfl
        rw [he]
        have hg : args.getD i (.tup []) = args[i] := by simp [List.getD, List.getElem?_eq_getElem hi]
        rw [hg]
        exact VR.mono hSof (fun _ _ => rfl) (fun k => KC.refl k) _ _ hd
      · have hg : args.getD i (.tup []) = .tup [] := by simp [List.getD, List.getElem?_eq_none (Nat.le_of_not_lt hi)]
        rw [hg]
        have he : ({ tmps := vals.toArray ++ Array.replicate (fn.ntmps - vals.toArray.size) undef, defers := [] } : Act).eval (.tmp i) = undef := by
          have hi' : vals.length ≤ i := by omega
          simp only [Act.eval, Array.getD_eq_getD_getElem?]
          rw [Array.getElem?_append_right (by simpa using hi')]
          cases hx : (Array.replicate (fn.ntmps - vals.toArray.size) undef)[i - vals.toArray.size]? with
          | none => rfl
          | some y =>
            rw [Array.getElem?_replicate] at hx
            split at hx
            · cases hx; rfl
            · cases hx
        rw [he]
        exact VR_tup0
    · by_cases h1 : k = 1000
      · subst h1
        simp only [St.startX, if_true] at hk
        cases hbx1 : bx with
        | none => rw [hbx1] at hk; cases hk
        | some cs =>
          rw [hbx1] at hk
          cases hk
          obtain ⟨cur, T, hcur, hl⟩ := hbx cs hbx1
          refine ⟨gb, 0, by simp, .inr (.inr ⟨by rw [hbx1]; rfl, rfl⟩), cur, T, hcur, ?_⟩
          exact LR.fz _ _ (hbd cs hbx1) hl fun g hg _ => by
            have := hSof g hg
            simp only [St.startX, hbx1] at this ⊢
            exact this
      · simp [St.startX, h1] at hk
    · have h1 : k = 1000 := Classical.byContradiction fun hne => by simp [St.startX, hne] at hk
      have h2 : k' = 1000 := Classical.byContradiction fun hne => by simp [St.startX, hne] at hk'
      rw [h1, h2]
  have hlt : ∀ g, g ∈ idsVL args ∨ g ∈ idsVL (bx.getD []) → g < w.heap.size := by
    rintro g (hg | hg)
    · exact (LR.ids_ _ _ hLR g hg).1
    · cases hbx1 : bx with
      | none => rw [hbx1] at hg; simp [idsVL] at hg
      | some cs =>
        obtain ⟨cur, T, hcur, hl⟩ := hbx cs hbx1
        rw [hbx1] at hg
        exact (LR.ids_ _ _ hl g hg).1
  refine wp_mono (vwp_sound hm sch c _ _ _ _ _ hok h0 (h w.heap.size hlt)) fun e a' w' he => ?_
  obtain ⟨σ', ρ', hR, hK⟩ := he
  cases e with
  | normal =>
    obtain ⟨hd, v, hrun, r, cs', ws, hbel, hV, hfz, hbb, hws, hpost⟩ := vendX_sound (W := W) (gb := gb) hR fn (fun _ => hR.key) hK
    have cv : ∀ g, ((A g ∨ w.heap.size ≤ g) ∧ g < w'.heap.size ∧ ¬ (bx.isSome = true ∧ g = gb)) → ((g ∈ idsVL args ∨ g ∈ idsVL (bx.getD []) ∨ w.heap.size ≤ g) ∧ g < w'.heap.size ∧ ¬ (bx.isSome = true ∧ g = gb)) := fun g hg => ⟨by
      rcases hg.1 with ⟨h1 | h1, _⟩ | h1
      · exact .inl h1
      · exact .inr (.inl h1)
      · exact .inr (.inr h1), hg.2⟩
    exact ⟨hd, v, hrun, v, r, cs', ws, rfl, hbel, VR.mono cv (fun _ _ => rfl) (fun k => KC.refl k) _ _ hV, hfz, fun hb => by
      obtain ⟨cur, T, h1, h2, h3⟩ := hbb hb
      exact ⟨cur, T, h1, LR.mono cv (fun _ _ => rfl) (fun k => KC.refl k) _ _ h2, h3⟩, fun d hd => by obtain ⟨v', hv'⟩ := hws d hd; exact ⟨v', hv'.mono cv (fun _ _ => rfl)⟩, hpost⟩
  | ret =>
    obtain ⟨hd, v, hrun, r, cs', ws, hbel, hV, hfz, hbb, hws, hpost⟩ := vendX_sound (W := W) (gb := gb) hR fn (fun _ => hR.key) hK
    have cv : ∀ g, ((A g ∨ w.heap.size ≤ g) ∧ g < w'.heap.size ∧ ¬ (bx.isSome = true ∧ g = gb)) → ((g ∈ idsVL args ∨ g ∈ idsVL (bx.getD []) ∨ w.heap.size ≤ g) ∧ g < w'.heap.size ∧ ¬ (bx.isSome = true ∧ g = gb)) := fun g hg => ⟨by
      rcases hg.1 with ⟨h1 | h1, _⟩ | h1
      · exact .inl h1
      · exact .inr (.inl h1)
      · exact .inr (.inr h1), hg.2⟩
    exact ⟨hd, v, hrun, v, r, cs', ws, rfl, hbel, VR.mono cv (fun _ _ => rfl) (fun k => KC.refl k) _ _ hV, hfz, fun hb => by
      obtain ⟨cur, T, h1, h2, h3⟩ := hbb hb
      exact ⟨cur, T, h1, LR.mono cv (fun _ _ => rfl) (fun k => KC.refl k) _ _ h2, h3⟩, fun d hd => by obtain ⟨v', hv'⟩ := hws d hd; exact ⟨v', hv'.mono cv (fun _ _ => rfl)⟩, hpost⟩
  | _ => exact hK.elim
end
end Go.Vs
