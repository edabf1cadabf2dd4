/-
  Vs19: a part of a proof of this seat: the value-level semantics of Go code without maps (Vs), its walk rules (Vt), the frame of a row (Vr), facts of types, schedules, walks. It holds of every program and state that its hypotheses name.
-/
import Derived.Test.YtfebikihnljjoaaVs18
set_option linter.unusedSimpArgs false
set_option linter.unusedVariables false
namespace Go.Vs
open Go.RowKit

section
variable {P : Program} {E : FuncId → Bool} {A0 : Env} {N : Nat} {w0 : World} {ρ : Nat → Option (Nat × Nat)} {σ : St} {a : Act} {w : World}
variable {S : Nat → Prop}

theorem pure_sound (h : Rel A0 N w0 ρ σ a w) (o : Oper) (hp : isPure o = true) (hv : vpre P o σ) : Yld P ρ σ (Sof A0 σ.B ρ σ.m w) a w o (vval P o σ) := by
  obtain ⟨dst, op, ty, pos, af, gd⟩ := o
  cases op with
  | move x => exact y_move h x
  | assign x => exact y_assign h x
  | pick c x y => exact y_pick h c x y hv
  | nilCheck x => exact y_nilCheck h x hv
  | binOp op T x y T' => exact y_binOp h op T T' x y hv.1 hv.2
  | unOp op T x => exact y_unOp h op T x hv
  | fieldAddr s x f => exact y_fieldAddr h s f x hv.1 hv.2
  | indexAddr T x i => exact y_indexAddr h T x i hv.1 hv.2.1 hv.2.2
  | load T x => exact y_load h T x hv.1 hv.2.1 hv.2.2.1 hv.2.2.2
  | index T x i => exact y_index h T x i hv.1 hv.2.1 hv.2.2.1 hv.2.2.2.1 hv.2.2.2.2
  | build T parts => exact y_build h T parts hv.1 hv.2.1 hv.2.2
  | extract x i =>
    simp only [vpre, tupOk] at hv
    simp only [vval, tupAt]
    cases hx : σ.ev x with
    | tup vs => simp only [hx] at hv ⊢; exact y_extract h x i hx hv
    | _ => simp [hx] at hv
  | convert s t x =>
    simp only [vpre, convOk] at hv
    simp only [vval, convV]
    cases hu : P.underlying t with
    | none => simp [hu] at hv
    | some d =>
      cases d with
      | int k => simp only [hu] at hv; exact y_convertInt h s t x k hu hv.1 hv.2
      | string => simp only [hu] at hv; exact y_convertBytes h s t x hu hv.1 hv.2.1 hv.2.2.1 hv.2.2.2
      | _ => simp [hu] at hv
  | slice T x lo hi mx =>
    simp only [vpre] at hv
    obtain ⟨h1, h2, h3, h4, h5, h6, h7, h8⟩ := hv
    have hm : mx = none := by simpa using h1
    subst hm
    simp only [vval]
    refine y_slice h T x lo hi _ _ h2 h3 ?_ ?_ h6 h7 h8
    · cases lo with
      | none => rfl
      | some y => exact ⟨h4.1, by have := h4.2; simp only [loB]; omega⟩
    · cases hi with
      | none => rfl
      | some y => exact ⟨h5.1, by have := h5.2; simp only [hiB]; omega⟩
  | call c =>
    obtain ⟨cal, args, tys⟩ := c
    cases cal with
    | builtin b =>
      cases b with
      | len =>
        simp only [vpre] at hv
        obtain ⟨h1, h2, h3, h4, h5⟩ := hv
        obtain ⟨args⟩ := args
        obtain ⟨tys⟩ := tys
        match args, h1 with
        | [x], _ => match tys, h2 with
          | [t], _ => exact y_len h x t h3 h5 h4
      | max =>
        simp only [vpre] at hv
        obtain ⟨h1, h2, h3⟩ := hv
        obtain ⟨args⟩ := args
        match args, h1 with
        | [x, y], _ => exact y_max h x y tys h2 h3
      | min =>
        simp only [vpre] at hv
        obtain ⟨h1, h2, h3⟩ := hv
        obtain ⟨args⟩ := args
        match args, h1 with
        | [x, y], _ => exact y_min h x y tys h2 h3
      | _ => simp [isPure] at hp
    | value f => cases f <;> simp [isPure] at hp
    | invoke r m => simp [isPure] at hp
  | _ => simp [isPure] at hp

/-- an operation that is no call of a Go function -/
def isCall (o : Oper) : Bool :=
  match o.op with
  | .call ⟨.value _, _, _⟩ | .call ⟨.invoke _ _, _, _⟩ => true
  | _ => false

/-- an operation whose value must go somewhere -/
def mkOp (o : Oper) : Bool :=
  match o.op with
  | .alloc _ | .box .. | .buildSlice .. | .makeSlice .. | .call ⟨.builtin .append, _, _⟩ => true
  | _ => false

theorem eff_sound (h : Rel A0 N w0 ρ σ a w) (o : Oper) (hd : ∀ t, o.dst = some t → t < N) (hmk : mkOp o = true → o.dst.isSome = true) (hp : isPure o = false) (hv : vpre P o σ) : Efs P E A0 N w0 a w o (veff P o σ) := by
  obtain ⟨dst, op, ty, pos, af, gd⟩ := o
  cases op with
  | alloc T =>
    cases dst with
    | none => simp [mkOp] at hmk
    | some k => exact e_alloc h T k (hd k rfl) hv
  | box T x =>
    cases dst with
    | none => simp [mkOp] at hmk
    | some k => exact e_box h T x k (hd k rfl) hv
  | buildSlice T n parts =>
    cases dst with
    | none => simp [mkOp] at hmk
    | some k => exact e_buildSlice h T n parts k (hd k rfl) hv.1 hv.2.1 hv.2.2.1 hv.2.2.2.1 hv.2.2.2.2
  | makeSlice T l c =>
    cases dst with
    | none => simp [mkOp] at hmk
    | some k => exact e_makeSlice h T l c k (hd k rfl) hv.1 hv.2.1 hv.2.2.1 hv.2.2.2.1 hv.2.2.2.2.1 hv.2.2.2.2.2.1 hv.2.2.2.2.2.2
  | store T x y => exact e_store h T x y hd hv
  | call c =>
    obtain ⟨cal, args, tys⟩ := c
    cases cal with
    | builtin b =>
      cases b with
      | append =>
        simp only [vpre] at hv
        obtain ⟨h1, h2, h3, h4, h5, h6, h7⟩ := hv
        obtain ⟨args⟩ := args
        obtain ⟨tys⟩ := tys
        match args, h1 with
        | [s, x], _ => match tys, h2 with
          | [t, t'], _ =>
            have ht : t' = t := h3
            subst ht
            cases dst with
            | none => simp [mkOp] at hmk
            | some dk =>
              have e0 : σ.ev (#[s, x].getD 0 default) = σ.ev s := rfl
              have e1 : σ.ev (#[s, x].getD 1 default) = σ.ev x := rfl
              have e2 : #[t', t'].getD 0 0 = t' := rfl
              change _ at h4
              simp only [e0, e1, e2] at h4 h5 h6 h7
              simp only [veff, appSt, e0, e1, e2]
              cases hs : σ.ev s with
              | d y =>
                rw [hs] at h7
                cases y with
                | sl id Tw es =>
                  cases id with
                  | some g =>
                    simp only at h7
                    obtain ⟨rfl, hB, hgx, hgn, hges, _, hroom⟩ := h7
                    have := e_append_d (P := P) (E := E) (pos := pos) (af := af) (gd := gd) (ty := ty) h s x t' dk (hd dk rfl) h4 h5 h6 hs hB hgx hgn hges hroom
                    simpa using this
                  | none =>
                    cases es with
                    | cons _ _ => simp at h7
                    | nil =>
                      simp only at h7
                      have := e_append (E := E) (pos := pos) (af := af) (gd := gd) (ty := ty) h s x t' dk (hd dk rfl) h4 h5 h6 (key := dk) (es := []) (.inl ⟨rfl, rfl, Tw, hs⟩) (by simpa using h7)
                      simpa using this
                | _ => simp at h7
              | own k lo n =>
                rw [hs] at h7
                simp only at h7
                obtain ⟨rfl, hr, hn, hT, hsz, hroom⟩ := h7
                cases hm : σ.m k with
                | none => simp [hm, isRow] at hr
                | some b =>
                  cases b with
                  | box cs => simp [hm, isRow] at hr
                  | row T sz es =>
                    simp only [hm, getL, tyOf, szOf] at hn hT hsz
                    subst hn
                    have := e_append (E := E) (pos := pos) (af := af) (gd := gd) (ty := ty) h s x t' dk (hd dk rfl) h4 h5 h6 (key := k) (es := es) (.inr ⟨hs, by rw [hm, hT, hsz]⟩) hroom
                    have hg : getL (σ.m k) = es := by rw [hm]; rfl
                    simp only [hg]
                    simpa using this
              | _ => rw [hs] at h7; simp at h7
      | _ => first | (simp [isPure] at hp; done) | (simp [vpre] at hv; done)
    | value f => simp [vpre] at hv
    | invoke r m => simp [vpre] at hv
  | _ => first | (simp [isPure] at hp; done) | simp [vpre] at hv

theorem isPure_mk {o : Oper} (h : isPure o = true) : mkOp o = false := by
  unfold isPure at h
  split at h <;> simp_all [mkOp]

/-- every operation but a call of a Go function -/
theorem step_sound (h : Rel A0 N w0 ρ σ a w) (o : Oper) (hd : ∀ t, o.dst = some t → t < N) (hmk : mkOp o = true → o.dst.isSome = true) (hv : vpre P o σ) : Efs P E A0 N w0 a w o (vnext P o σ) := by
  unfold vnext
  cases hp : isPure o with
  | true =>
    obtain ⟨val, hr, hV⟩ := pure_sound h o hp hv
    exact ⟨val, w, ρ, .inl (hr w Ext.refl), fun _ => Ext.refl, h.put _ hd hV⟩
  | false => exact eff_sound h o hd hmk hp hv

theorem efs_wp {o : Oper} {σ' : St} {K : St → Prop} {Q : Exit → Act → World → Prop} (h : Efs P E A0 N w0 a w o σ') (hK : K σ') {next : Act → World → Prop}
    (hn : ∀ σ' ρ' a' w', Rel A0 N w0 ρ' σ' a' w' → (effOp E o = false → Ext w w') → K σ' → next a' w') : o.wp P a w next Q := by
  obtain ⟨val, w', ρ', hr | ⟨hr, rfl⟩, hE, hR⟩ := h
  · unfold Oper.wp
    rw [hr]
    exact hn _ _ _ _ hR hE hK
  · unfold Oper.wp
    rw [hr]
    exact hn _ _ _ _ hR hE hK

/-- no block of a variable -/
def NoBox (ρ : Nat → Option (Nat × Nat)) (m : Nat → Option Blk) (g : Nat) : Prop := ∀ k cs p, m k = some (.box cs) → ρ k = some p → p.1 ≠ g

mutual
/-- a value that is read as data -/
theorem rd_VR (h : Rel A0 N w0 ρ σ a w) : ∀ (v : V) (val : Value) (r : V), VR ρ σ.m (Sof A0 σ.B ρ σ.m w) w v val → rd (fun k => (ρ k).map (·.1)) σ.m v = some r →
    VR (fun _ => none) (fun _ => none) (fun g => (A0.A g ∨ σ.B ≤ g) ∧ g < w.heap.size ∧ g ∈ r.ids ∧ NoBox ρ σ.m g) w r val
  | .d x, val, r, hv, hr => by
    simp only [rd, Option.some.injEq] at hr
    subst hr
    simp only [VR, V.ids] at hv ⊢
    exact hv.strong.mono (fun g hg => ⟨hg.1.1, hg.1.lt, hg.2, fun k cs p hk hp => hg.1.2.2 k _ hk p hp⟩) (fun _ _ => rfl)
  | .own k lo n, val, r, hv, hr => by
    simp only [rd] at hr
    cases hm : σ.m k with
    | none => simp [hm] at hr
    | some b =>
      cases b with
      | box cs => simp [hm] at hr
      | row T sz es =>
        simp only [hm] at hr
        split at hr
        · rename_i hl
          cases hr
          simp only [VR, hm] at hv
          have hb := h.mem k _ hm
          simp only [VR, V.ids]
          have := own_DR (S' := fun g => (A0.A g ∨ σ.B ≤ g) ∧ g < w.heap.size ∧ NoBox ρ σ.m g) hb hl hv.2 (fun g hg => ⟨hg.1, hg.lt, fun k cs p hk hp => hg.2.2 k _ hk p hp⟩) (fun p hp => ⟨.inr (hb.lo p hp), (hb.lt p hp).2, fun k' cs p' hk' hp' heq => by
            have := h.inj k' k _ _ p' p hk' hm hp' hp heq
            subst this
            rw [hm] at hk'
            cases hk'⟩)
          exact this.strong.mono (fun g hg => ⟨hg.1.1, hg.1.2.1, hg.2, hg.1.2.2⟩) (fun _ _ => rfl)
        · cases hr
  | .ptr _ _ _, _, _, _, hr => by simp [rd] at hr
  | .fptr _ _ _, _, _, _, hr => by simp [rd] at hr
  | .bad, _, _, _, hr => by simp [rd] at hr
  | .agg cs, val, r, hv, hr => by
    simp only [rd] at hr
    cases hl : rdL (fun k => (ρ k).map (·.1)) σ.m cs with
    | none => simp [hl] at hr
    | some rs =>
      simp only [hl, Option.map_some, Option.some.injEq] at hr
      subst hr
      simp only [VR] at hv ⊢
      obtain ⟨l, h1, h2⟩ := hv
      exact ⟨l, h1, rdL_LR h cs l rs h2 hl⟩
  | .tup cs, val, r, hv, hr => by
    simp only [rd] at hr
    cases hl : rdL (fun k => (ρ k).map (·.1)) σ.m cs with
    | none => simp [hl] at hr
    | some rs =>
      simp only [hl, Option.map_some, Option.some.injEq] at hr
      subst hr
      simp only [VR] at hv ⊢
      obtain ⟨l, h1, h2⟩ := hv
      exact ⟨l, h1, rdL_LR h cs l rs h2 hl⟩
theorem rdL_LR (h : Rel A0 N w0 ρ σ a w) : ∀ (l : List V) (vals : List Value) (rs : List V), LR ρ σ.m (Sof A0 σ.B ρ σ.m w) w l vals → rdL (fun k => (ρ k).map (·.1)) σ.m l = some rs →
    LR (fun _ => none) (fun _ => none) (fun g => (A0.A g ∨ σ.B ≤ g) ∧ g < w.heap.size ∧ g ∈ idsVL rs ∧ NoBox ρ σ.m g) w rs vals
  | [], [], rs, _, hr => by simp [rdL] at hr; subst hr; simp [LR]
  | [], _ :: _, _, hl, _ => by simp [LR] at hl
  | _ :: _, [], _, hl, _ => by simp [LR] at hl
  | c :: cs, v :: l, rs, hl, hr => by
    simp only [LR] at hl
    simp only [rdL] at hr
    cases h1 : rd (fun k => (ρ k).map (·.1)) σ.m c with
    | none => simp [h1] at hr
    | some x =>
      cases h2 : rdL (fun k => (ρ k).map (·.1)) σ.m cs with
      | none => simp [h1, h2] at hr
      | some r =>
        simp only [h1, h2, Option.some.injEq] at hr
        subst hr
        simp only [LR, idsVL]
        refine ⟨VR.mono (fun g hg => ⟨hg.1, hg.2.1, by simp [hg.2.2]⟩) (fun _ _ => rfl) (fun k => KC.refl k) _ _ (rd_VR h c v x hl.1 h1), LR.mono (fun g hg => ⟨hg.1, hg.2.1, by simp [hg.2.2]⟩) (fun _ _ => rfl) (fun k => KC.refl k) _ _ (rdL_LR h cs l r hl.2 h2)⟩
end

mutual
theorem rd_fz {γ : Nat → Option Nat} {m : Nat → Option Blk} : ∀ (v r : V), rd γ m v = some r → rd (fun _ => none) (fun _ => none) r = some r
  | .d x, r, h => by simp only [rd, Option.some.injEq] at h; subst h; rfl
  | .own k lo n, r, h => by
    simp only [rd] at h
    split at h
    · split at h
      · cases h; rfl
      · cases h
    · cases h
  | .ptr _ _ _, r, h => by simp [rd] at h
  | .fptr _ _ _, r, h => by simp [rd] at h
  | .bad, r, h => by simp [rd] at h
  | .agg cs, r, h => by
    simp only [rd] at h
    cases hl : rdL γ m cs with
    | none => simp [hl] at h
    | some rs =>
      simp only [hl, Option.map_some, Option.some.injEq] at h
      subst h
      simp [rd, rdL_fz cs rs hl]
  | .tup cs, r, h => by
    simp only [rd] at h
    cases hl : rdL γ m cs with
    | none => simp [hl] at h
    | some rs =>
      simp only [hl, Option.map_some, Option.some.injEq] at h
      subst h
      simp [rd, rdL_fz cs rs hl]
theorem rdL_fz {γ : Nat → Option Nat} {m : Nat → Option Blk} : ∀ (l rs : List V), rdL γ m l = some rs → rdL (fun _ => none) (fun _ => none) rs = some rs
  | [], rs, h => by simp [rdL] at h; subst h; rfl
  | c :: cs, rs, h => by
    simp only [rdL] at h
    cases h1 : rd γ m c with
    | none => simp [h1] at h
    | some x =>
      cases h2 : rdL γ m cs with
      | none => simp [h1, h2] at h
      | some r =>
        simp only [h1, h2, Option.some.injEq] at h
        subst h
        simp [rdL, rd_fz c x h1, rdL_fz cs r h2]
end

mutual
/-- what is data already says the same under every memory -/
theorem VR.fz {m : Nat → Option Blk} {S S' : Nat → Prop} {w : World} : ∀ (v : V) (val : Value), rd (fun _ => none) (fun _ => none) v = some v → VR (fun _ => none) (fun _ => none) S w v val → (∀ g, S g → g ∈ v.ids → S' g) → VR ρ m S' w v val
  | .d x, val, _, hv, hS => by
    simp only [VR, V.ids] at hv hS ⊢
    exact hv.strong.mono (fun g hg => hS g hg.1 hg.2) (fun _ _ => rfl)
  | .own _ _ _, _, hr, _, _ => by simp [rd] at hr
  | .ptr _ _ _, _, hr, _, _ => by simp [rd] at hr
  | .fptr _ _ _, _, hr, _, _ => by simp [rd] at hr
  | .bad, _, hr, _, _ => by simp [rd] at hr
  | .agg cs, val, hr, hv, hS => by
    simp only [rd] at hr
    cases hl : rdL (fun _ => none) (fun _ => none) cs with
    | none => simp [hl] at hr
    | some rs =>
      simp only [hl, Option.map_some, Option.some.injEq, V.agg.injEq] at hr
      subst hr
      simp only [VR, V.ids] at hv hS ⊢
      obtain ⟨l, h1, h2⟩ := hv
      exact ⟨l, h1, LR.fz _ l hl h2 hS⟩
  | .tup cs, val, hr, hv, hS => by
    simp only [rd] at hr
    cases hl : rdL (fun _ => none) (fun _ => none) cs with
    | none => simp [hl] at hr
    | some rs =>
      simp only [hl, Option.map_some, Option.some.injEq, V.tup.injEq] at hr
      subst hr
      simp only [VR, V.ids] at hv hS ⊢
      obtain ⟨l, h1, h2⟩ := hv
      exact ⟨l, h1, LR.fz _ l hl h2 hS⟩
theorem LR.fz {m : Nat → Option Blk} {S S' : Nat → Prop} {w : World} : ∀ (l : List V) (vals : List Value), rdL (fun _ => none) (fun _ => none) l = some l → LR (fun _ => none) (fun _ => none) S w l vals → (∀ g, S g → g ∈ idsVL l → S' g) → LR ρ m S' w l vals
  | [], [], _, _, _ => by simp [LR]
  | [], _ :: _, _, h, _ => by simp [LR] at h
  | _ :: _, [], _, h, _ => by simp [LR] at h
  | c :: cs, v :: l, hr, h, hS => by
    simp only [LR] at h ⊢
    simp only [rdL] at hr
    cases h1 : rd (fun _ => none) (fun _ => none) c with
    | none => simp [h1] at hr
    | some x =>
      cases h2 : rdL (fun _ => none) (fun _ => none) cs with
      | none => simp [h1, h2] at hr
      | some r =>
        simp only [h1, h2, Option.some.injEq, List.cons.injEq] at hr
        obtain ⟨rfl, rfl⟩ := hr
        exact ⟨VR.fz _ _ h1 h.1 (fun g hg hi => hS g hg (by simp [idsVL, hi])), LR.fz _ _ h2 h.2 (fun g hg hi => hS g hg (by simp [idsVL, hi]))⟩
end
end
end Go.Vs
