/-
  VsTh: a part of a proof of this seat: the value-level semantics of Go code without maps (Vs), its walk rules (Vt), the frame of a row (Vr), facts of types, schedules, walks. It holds of every program and state that its hypotheses name.
-/
import Derived.Test.YtfebikihnljjoaaVsRe
set_option linter.unusedSimpArgs false
set_option linter.unusedVariables false
namespace Go.Vs
open Go.RowKit

/-! ### what is put away is spoken of no more -/
mutual
theorem reD_kill {g : Nat} : ∀ (x y : D), reD (kphi (some g)) x = some y → g ∉ y.ids
  | .bool b, y, h => by simp only [reD, Option.some.injEq] at h; subst h; simp [D.ids]
  | .int k n, y, h => by simp only [reD, Option.some.injEq] at h; subst h; simp [D.ids]
  | .str s, y, h => by simp only [reD, Option.some.injEq] at h; subst h; simp [D.ids]
  | .sl none T es, y, h => by
    simp only [reD] at h
    cases hr : reLL (kphi (some g)) es with
    | none => simp [hr] at h
    | some ys =>
      simp only [hr, Option.map_some, Option.some.injEq] at h
      subst h
      simpa [D.ids] using reLL_kill es ys hr
  | .sl (some g') T es, y, h => by
    simp only [reD] at h
    by_cases hg : g = g'
    · subst hg
      simp [kphi, badD] at h
    · have hk : kphi (some g) g' = none := by simp [kphi, hg]
      rw [hk] at h
      cases hr : reLL (kphi (some g)) es with
      | none => simp [hr] at h
      | some ys =>
        simp only [hr, Option.map_some, Option.some.injEq] at h
        subst h
        simpa [D.ids, hg] using reLL_kill es ys hr
theorem reL_kill {g : Nat} : ∀ (x y : List D), reL (kphi (some g)) x = some y → g ∉ idsL y
  | [], y, h => by simp only [reL, Option.some.injEq] at h; subst h; simp [idsL]
  | x :: r, y, h => by
    simp only [reL] at h
    cases hx : reD (kphi (some g)) x with
    | none => simp [hx] at h
    | some z =>
      cases hr : reL (kphi (some g)) r with
      | none => simp [hx, hr] at h
      | some l =>
        simp only [hx, hr, Option.some.injEq] at h
        subst h
        simp only [idsL, List.mem_append, not_or]
        exact ⟨reD_kill x z hx, reL_kill r l hr⟩
theorem reLL_kill {g : Nat} : ∀ (x y : List (List D)), reLL (kphi (some g)) x = some y → g ∉ idsLL y
  | [], y, h => by simp only [reLL, Option.some.injEq] at h; subst h; simp [idsLL]
  | x :: r, y, h => by
    simp only [reLL] at h
    cases hx : reL (kphi (some g)) x with
    | none => simp [hx] at h
    | some z =>
      cases hr : reLL (kphi (some g)) r with
      | none => simp [hx, hr] at h
      | some l =>
        simp only [hx, hr, Option.some.injEq] at h
        subst h
        simp only [idsLL, List.mem_append, not_or]
        exact ⟨reL_kill x z hx, reLL_kill r l hr⟩
end
mutual
theorem reV_kill {g : Nat} : ∀ (v : V), g ∉ (reV (kphi (some g)) v).ids
  | .d x => by
    simp only [reV]
    cases hx : reD (kphi (some g)) x with
    | none => simp [V.ids]
    | some y => simpa [V.ids] using reD_kill x y hx
  | .fptr x i o => by
    simp only [reV]
    cases hx : reD (kphi (some g)) x with
    | none => simp [V.ids]
    | some y => simpa [V.ids] using reD_kill x y hx
  | .own _ _ _ => by simp [reV, V.ids]
  | .ptr _ _ _ => by simp [reV, V.ids]
  | .bad => by simp [reV, V.ids]
  | .agg cs => by simpa [reV, V.ids] using reVL_kill cs
  | .tup cs => by simpa [reV, V.ids] using reVL_kill cs
theorem reVL_kill {g : Nat} : ∀ (l : List V), g ∉ idsVL (reVL (kphi (some g)) l)
  | [] => by simp [reVL, idsVL]
  | v :: r => by simp only [reVL, idsVL, List.mem_append, not_or]; exact ⟨reV_kill v, reVL_kill r⟩
end

section
variable {ρ ρ' : Nat → Option (Nat × Nat)} {m m' : Nat → Option Blk} {S S' : Nat → Prop} {w w' : World}
theorem DR.weak {x : D} {v : Value} (h : DR S w x v) (hS : ∀ g ∈ x.ids, S g → S' g) : DR S' w x v :=
  h.strong.mono (fun g hg => hS g hg.2 hg.1) (fun _ _ => rfl)
mutual
theorem VR.weak : ∀ (v : V) (val : Value), (∀ g ∈ v.ids, S g → S' g) → VR ρ m S w v val → VR ρ m S' w v val
  | .d x, val, hS, h => by simp only [VR, V.ids] at *; exact h.weak hS
  | .own k lo n, val, hS, h => VR_own (KC.refl k) h
  | .ptr k i off, val, hS, h => VR_ptr (KC.refl k) h
  | .fptr x i off, val, hS, h => by
    simp only [VR, V.ids] at *
    obtain ⟨a, n, c, sz, h1, h2⟩ := h
    exact ⟨a, n, c, sz, h1.weak hS, h2⟩
  | .bad, val, hS, h => by simp [VR]
  | .agg cs, val, hS, h => by
    simp only [VR, V.ids] at *
    obtain ⟨l, h1, h2⟩ := h
    exact ⟨l, h1, LR.weak cs l hS h2⟩
  | .tup cs, val, hS, h => by
    simp only [VR, V.ids] at *
    obtain ⟨l, h1, h2⟩ := h
    exact ⟨l, h1, LR.weak cs l hS h2⟩
theorem LR.weak : ∀ (l : List V) (vals : List Value), (∀ g ∈ idsVL l, S g → S' g) → LR ρ m S w l vals → LR ρ m S' w l vals
  | [], [], _, _ => by simp [LR]
  | [], _ :: _, _, h => by simp [LR] at h
  | _ :: _, [], _, h => by simp [LR] at h
  | c :: cs, v :: l, hS, h => by
    simp only [LR, idsVL, List.mem_append] at *
    exact ⟨VR.weak c v (fun g hg => hS g (.inl hg)) h.1, LR.weak cs l (fun g hg => hS g (.inr hg)) h.2⟩
end
mutual
theorem wipe_ids (k : Nat) : ∀ v : V, (wipe k v).ids = v.ids
  | .d x => rfl
  | .own j lo n => by simp only [wipe]; split <;> simp [V.ids]
  | .ptr j i o => by simp only [wipe]; split <;> simp [V.ids]
  | .fptr _ _ _ => rfl
  | .bad => rfl
  | .agg cs => by simp only [wipe, V.ids]; exact wipeL_ids k cs
  | .tup cs => by simp only [wipe, V.ids]; exact wipeL_ids k cs
theorem wipeL_ids (k : Nat) : ∀ l : List V, idsVL (wipeL k l) = idsVL l
  | [] => rfl
  | v :: r => by simp only [wipeL, idsVL]; rw [wipe_ids k v, wipeL_ids k r]
end
mutual
theorem wipe_wipe (k : Nat) : ∀ v : V, wipe k (wipe k v) = wipe k v
  | .d x => rfl
  | .own j lo n => by
    simp only [wipe]
    split
    · rfl
    · rename_i h; simp only [wipe, if_neg h]
  | .ptr j i o => by
    simp only [wipe]
    split
    · rfl
    · rename_i h; simp only [wipe, if_neg h]
  | .fptr _ _ _ => rfl
  | .bad => rfl
  | .agg cs => by simp only [wipe]; rw [wipeL_wipe k cs]
  | .tup cs => by simp only [wipe]; rw [wipeL_wipe k cs]
theorem wipeL_wipe (k : Nat) : ∀ l : List V, wipeL k (wipeL k l) = wipeL k l
  | [] => rfl
  | v :: r => by simp only [wipeL]; rw [wipe_wipe k v, wipeL_wipe k r]
end
theorem Blk_map_wipe (k : Nat) (b : Blk) : (b.map (wipe k)).map (wipe k) = b.map (wipe k) := by
  cases b with
  | box cs => simp [Blk.map, Function.comp_def, wipe_wipe]
  | row T sz es => rfl
theorem lay_lay (σ : St) (k : Nat) (b b' : Blk) : (σ.lay k b).lay k b' = σ.lay k b' := by
  simp only [St.lay, St.mk.injEq, true_and]
  refine ⟨?_, ?_⟩
  · funext i; simp [mapV, wipe_wipe]
  · funext i
    simp only [upd, mapM]
    split
    · rfl
    · simp [Option.map_map, Function.comp_def, Blk_map_wipe]
end

section
variable {P : Program} {E : FuncId → Bool} {A0 : Env} {N : Nat} {w0 : World} {ρ : Nat → Option (Nat × Nat)} {σ : St} {a : Act} {w : World}

theorem Rel.kill (h : Rel A0 N w0 ρ σ a w) {g : Nat} (hS : Sof A0 σ.B ρ σ.m w g) : Rel A0 N w0 ρ (σ.kill (some g)) a w := by
  have := h.re (kphi (some g)) (w' := w) (hs' := σ.hs) h.below (Nat.le_refl _) h.hs (Nat.le_refl _) (fun _ _ _ => rfl) (fun g cur T f hc => ⟨cur, hc, rfl⟩)
    (fun g' hg' k b hk p hp => ?_) (fun g' T es hg' => ?_)
  · exact this
  · have : g = g' := by
      simp only [kphi] at hg'
      split at hg'
      · rename_i he; cases he; rfl
      · simp at hg'
    subst this
    exact hS.2.2 k b hk p hp
  · simp only [kphi] at hg'
    split at hg' <;> simp [badD] at hg'

theorem kill_m {g k : Nat} {b : Blk} (h : (σ.kill (some g)).m k = some b) : ∃ b0, σ.m k = some b0 ∧ Blk.re (kphi (some g)) b0 = some b := re_m_back h

/-- frozen data that nothing else will speak of becomes a row of our own -/
theorem Rel.thaw (h : Rel A0 N w0 ρ σ a w) {k : Nat} (hk : k < N) {g T sz : Nat} {es : List (List D)} {val : Value} (hd : DR (Sof A0 σ.B ρ σ.m w) w (.sl (some g) (some (T, sz)) es) val) (hB : σ.B ≤ g) (hes : g ∉ idsLL es) :
    ∃ cap, val = .slice (some ⟨g, 0, none⟩) es.length cap ∧ Rel A0 N w0 (upd ρ k (some (g, cap))) ((σ.kill (some g)).lay k (.row T sz es)) a w := by
  have hk0 : k ≠ 1000 := by have := h.hN; omega
  cases hd with
  | sl _ _ _ ad cap sz' vs hSg hab hcap hm hsz hc hdd hw =>
    obtain ⟨rfl, ⟨hpos, hsz'⟩, cur, hcur, hcs⟩ := hw _ rfl
    simp only at hsz' hcur
    subst hsz'
    refine ⟨cap, rfl, ?_⟩
    have h1 := h.kill hSg
    -- nothing speaks of g
    let S1 : Nat → Prop := fun j => Sof A0 σ.B ρ (σ.kill (some g)).m w j ∧ j ≠ g
    have hS1 : ∀ j, S1 j → Sof A0 σ.B (upd ρ k (some (g, cap))) ((σ.kill (some g)).lay k (.row T sz' es)).m w j := by
      intro j hj
      refine ⟨hj.1.1, hj.1.2.1, fun i b hi p hp => ?_⟩
      by_cases hik : i = k
      · subst hik
        have : p = (g, cap) := by simpa [upd] using hp.symm
        subst this
        exact Ne.symm hj.2
      · rw [lay_m_ne _ _ _ _ hik] at hi
        have hp' : ρ i = some p := by simpa [upd, hik] using hp
        cases hmi : (σ.kill (some g)).m i with
        | none => simp [hmi] at hi
        | some b0 => exact hj.1.2.2 i b0 hmi p hp'
    have hkc : ∀ j, j ≠ k → KC ρ (σ.kill (some g)).m (upd ρ k (some (g, cap))) ((σ.kill (some g)).lay k (.row T sz' es)).m j := fun j hj => KC_lay _ k j _ hj
    have tm : ∀ i, g ∉ ((σ.kill (some g)).t i).ids := fun i => reV_kill (σ.t i)
    have hgown : ∀ i b p, σ.m i = some b → ρ i = some p → p.1 ≠ g := fun i b p hi hp => hSg.2.2 i b hi p hp
    have kp : kphi (some g) g = some badD := by simp [kphi]
    refine ⟨h.below, h.hN, by simpa [upd, Ne.symm hk0] using h.key, ?_, h.hG, h.hB, h.hs, h.hs0, h.defers, h.size, fun i => ?_, fun i b hi => ?_, fun i i' b b' p p' hi hi' hp hp' heq => ?_⟩
    · rw [lay_m_ne _ _ _ _ (Ne.symm hk0)]
      have := h1.norow
      cases hmm : (σ.kill (some g)).m 1000 with
      | none => rfl
      | some b =>
        rw [hmm] at this
        cases b with
        | box cs => rfl
        | row _ _ _ => cases this
    · exact VR.wipe k hS1 (fun _ _ => rfl) hkc _ _ (VR.weak (S' := S1) _ _ (fun j hj hS => ⟨hS, fun e => tm i (e ▸ hj)⟩) (h1.tmps i))
    · by_cases hik : i = k
      · subst hik
        rw [lay_m_same] at hi
        cases hi
        have : upd ρ i (some (g, cap)) i = some (g, cap) := by simp [upd]
        rw [this]
        refine ⟨hpos, hB, hm, hcap, cur, hcur, hcs, fun n e he => ⟨hsz n e he, fun j u hu => ?_⟩⟩
        have hcell := hc n e he j u hu
        rw [add_lit, cell_of hcur, Nat.zero_add] at hcell
        have hne : g ∉ u.ids := fun hin => hes (mem_idsLL (List.mem_of_getElem? he) (mem_idsL (List.mem_of_getElem? hu) hin))
        refine ⟨_, hcell, (hdd n e he j u hu).weak fun q hq hS => hS1 q ⟨⟨hS.1, hS.2.1, fun i' b' hi' p hp => ?_⟩, fun e => hne (e ▸ hq)⟩⟩
        obtain ⟨b0, hb0, _⟩ := kill_m hi'
        exact hS.2.2 i' b0 hb0 p hp
      · rw [lay_m_ne _ _ _ _ hik] at hi
        have hρ : upd ρ k (some (g, cap)) i = ρ i := by simp [upd, hik]
        rw [hρ]
        cases hmi : (σ.kill (some g)).m i with
        | none => simp [hmi] at hi
        | some b0 =>
          simp only [hmi, Option.map_some, Option.some.injEq] at hi
          subst hi
          have hmem := h1.mem i b0 hmi
          obtain ⟨b1, hb1, hre⟩ := kill_m hmi
          cases b1 with
          | box cs1 =>
            simp only [Blk.re, Option.some.injEq] at hre
            subst hre
            obtain ⟨g', cap', hr', hB', cur', T', hc', hl'⟩ := hmem
            refine ⟨g', cap', hr', hB', cur', T', hc', ?_⟩
            rw [← wipeL_map]
            exact LR.wipe k hS1 (fun _ _ => rfl) hkc _ _ (LR.weak (S' := S1) _ _ (fun j hj hS => ⟨hS, fun e => reVL_kill cs1 (e ▸ hj)⟩) hl')
          | row T1 sz1 es1 =>
            simp only [Blk.re] at hre
            cases hr1 : reLL (kphi (some g)) es1 with
            | none => simp [hr1] at hre
            | some ys =>
              simp only [hr1, Option.map_some, Option.some.injEq] at hre
              subst hre
              refine ⟨hmem.1, ?_⟩
              have h3 := hmem.2
              cases hr' : ρ i with
              | none => rw [hr'] at h3; exact h3
              | some p =>
                obtain ⟨g', cap'⟩ := p
                rw [hr'] at h3
                obtain ⟨hB', hc1, hc2, cur', hc', hcs', hall⟩ := h3
                refine ⟨hB', hc1, hc2, cur', hc', hcs', fun n e he => ⟨(hall n e he).1, fun j u hu => ?_⟩⟩
                obtain ⟨v, hv, hdv⟩ := (hall n e he).2 j u hu
                refine ⟨v, hv, hdv.weak fun q hq hS => hS1 q ⟨hS, fun e' => ?_⟩⟩
                exact reLL_kill es1 ys hr1 (mem_idsLL (List.mem_of_getElem? he) (mem_idsL (List.mem_of_getElem? hu) (e' ▸ hq)))
    · have key : ∀ i b p, ((σ.kill (some g)).lay k (.row T sz' es)).m i = some b → upd ρ k (some (g, cap)) i = some p → i ≠ k → ∃ b0, σ.m i = some b0 ∧ ρ i = some p := by
        intro i b p hi hp hik
        rw [lay_m_ne _ _ _ _ hik] at hi
        cases hmi : (σ.kill (some g)).m i with
        | none => simp [hmi] at hi
        | some b0 =>
          obtain ⟨b1, hb1, _⟩ := kill_m hmi
          exact ⟨b1, hb1, by simpa [upd, hik] using hp⟩
      by_cases hik : i = k
      · by_cases hik' : i' = k
        · rw [hik, hik']
        · subst hik
          have hpe : p = (g, cap) := by simpa [upd] using hp.symm
          obtain ⟨b0, hb0, hp0⟩ := key i' b' p' hi' hp' hik'
          exact absurd (heq.symm.trans (by rw [hpe])) (hgown i' b0 p' hb0 hp0)
      · by_cases hik' : i' = k
        · subst hik'
          have hpe : p' = (g, cap) := by simpa [upd] using hp'.symm
          obtain ⟨b0, hb0, hp0⟩ := key i b p hi hp hik
          exact absurd (heq.trans (by rw [hpe])) (hgown i b0 p hb0 hp0)
        · obtain ⟨b0, hb0, hp0⟩ := key i b p hi hp hik
          obtain ⟨b0', hb0', hp0'⟩ := key i' b' p' hi' hp' hik'
          exact h.inj i i' b0 b0' p p' hb0 hb0' hp0 hp0' heq

variable {dst : Option Tmp} {ty : TypeId} {pos : String} {af : Array Edge} {gd : Option (Nat × Bool)}

/-- an append to frozen data -/
theorem e_append_d (h : Rel A0 N w0 ρ σ a w) (s x : Operand) (t dk : Nat) (hdk : dk < N) (ht : (tslice P t).isSome = true) (he : elOk σ.m (σ.ev x)) (hl : ∀ l ∈ elV σ.m (σ.ev x), l.length = (slT P t).2.1)
    {g : Nat} {es : List (List D)} (hs : σ.ev s = .d (.sl (some g) (some ((slT P t).1, (slT P t).2.1)) es)) (hB : σ.B ≤ g) (hgx : g ∉ (σ.ev x).ids) (hgn : g ∉ idsLL (elV σ.m (σ.ev x))) (hges : g ∉ idsLL es)
    (hroom : LenOk (slT P t).2.2 (es.length + (elV σ.m (σ.ev x)).length)) :
    Efs P E A0 N w0 a w ⟨some dk, .call ⟨.builtin .append, #[s, x], #[t, t]⟩, ty, pos, af, gd⟩
      (((σ.kill (some g)).lay dk (.row (slT P t).1 (slT P t).2.1 (es ++ elV σ.m (σ.ev x)))).put (some dk) (.own dk 0 (es ++ elV σ.m (σ.ev x)).length)) := by
  obtain ⟨e, inf, z, hu, hi, hz, hzs, hpos, hsl⟩ := slT_spec ht
  simp only [hsl] at hl hs hroom ⊢
  obtain ⟨ad, cap, news, hxv, hflat, hne, hnews⟩ := src_flat h (h.ev x) he hpos hl
  generalize hxs : elV σ.m (σ.ev x) = xs at *
  obtain ⟨hby, hmax⟩ := hroom
  have hk1 : dk ≠ 1000 := by have := h.hN; omega
  have hvs := h.ev s
  rw [hs] at hvs
  simp only [VR] at hvs
  obtain ⟨cap0, hval, h2⟩ := h.thaw hdk hvs hB hges
  have hbk := h2.mem dk _ (lay_m_same _ _ _)
  have hr2 : upd ρ dk (some (g, cap0)) dk = some (g, cap0) := by simp [upd]
  rw [hr2] at hbk
  simp only [Blk.map] at hbk
  obtain ⟨cur, hg, hcs, hf⟩ := Flat.of_blk hbk
  have hflat2 : Flat (Sof A0 σ.B (upd ρ dk (some (g, cap0))) ((σ.kill (some g)).lay dk (.row e inf.size es)).m w) w inf.size xs news := by
    refine ⟨hflat.1, fun i e' he' => ⟨(hflat.2 i e' he').1, fun j u hu' => ?_⟩⟩
    obtain ⟨v, hv, hdv⟩ := (hflat.2 i e' he').2 j u hu'
    refine ⟨v, hv, hdv.weak fun q hq hS => ⟨hS.1, hS.2.1, fun i' b' hi' p hp => ?_⟩⟩
    have hqg : q ≠ g := fun e0 => hgn (mem_idsLL (List.mem_of_getElem? he') (mem_idsL (List.mem_of_getElem? hu') (e0 ▸ hq)))
    by_cases hik : i' = dk
    · subst hik
      rw [hr2] at hp
      cases hp
      exact Ne.symm hqg
    · rw [lay_m_ne _ _ _ _ hik] at hi'
      have hp' : ρ i' = some p := by simpa [upd, hik] using hp
      cases hmi : (σ.kill (some g)).m i' with
      | none => simp [hmi] at hi'
      | some b0 =>
        obtain ⟨b1, hb1, _⟩ := kill_m hmi
        exact hS.2.2 i' b1 hb1 p hp'
  have := append_core (P := P) (E := E) (ty := ty) (pos := pos) (af := af) (gd := gd) h2 s x t dk hdk hu hi hz hzs hpos hk1 hxv hflat2 hne hnews
    (.inr ⟨g, cap0, cur, lay_m_same _ _ _, hr2, hval, hbk.2.1, hbk.2.2.1, hbk.2.2.2.1, hg, hcs, hf⟩) hby hmax
  rw [lay_lay] at this
  exact this
end
end Go.Vs
