/-
  Vs20: a part of a proof of this seat: the value-level semantics of Go code without maps (Vs), its walk rules (Vt), the frame of a row (Vr), facts of types, schedules, walks. It holds of every program and state that its hypotheses name.
-/
import Derived.Test.YtfebikihnljjoaaVs19
set_option linter.unusedSimpArgs false
set_option linter.unusedVariables false
namespace Go.Vs
open Go.RowKit

section
variable {P : Program} {E : FuncId → Bool} {A0 : Env} {N : Nat} {w0 : World} {ρ : Nat → Option (Nat × Nat)} {σ : St} {a : Act} {w : World}

mutual
theorem rd_keys (γ γ' : Nat → Option Nat) (m : Nat → Option Blk) : ∀ v : V, v.keys = [] → rd γ m v = rd γ' m v
  | .d _, _ => rfl
  | .own k _ _, h => by simp [V.keys] at h
  | .ptr _ _ _, _ => rfl
  | .fptr _ _ _, _ => rfl
  | .bad, _ => rfl
  | .agg cs, h => by simp only [rd]; rw [rdL_keys γ γ' m cs (by simpa [V.keys] using h)]
  | .tup cs, h => by simp only [rd]; rw [rdL_keys γ γ' m cs (by simpa [V.keys] using h)]
theorem rdL_keys (γ γ' : Nat → Option Nat) (m : Nat → Option Blk) : ∀ l : List V, keysVL l = [] → rdL γ m l = rdL γ' m l
  | [], _ => rfl
  | c :: cs, h => by
    simp only [keysVL, List.append_eq_nil_iff] at h
    simp only [rdL]
    rw [rd_keys γ γ' m c h.1, rdL_keys γ γ' m cs h.2]
end

theorem LR_map (h : Rel A0 N w0 ρ σ a w) : ∀ (args : List Operand), LR ρ σ.m (Sof A0 σ.B ρ σ.m w) w (args.map σ.ev) (args.map a.eval)
  | [] => by simp [LR]
  | x :: r => by simp only [List.map_cons, LR]; exact ⟨h.ev x, LR_map h r⟩

theorem idsVL_ids : ∀ (l : List V) (i : Nat), i ∈ idsVL l → ∃ v ∈ l, i ∈ v.ids
  | [], i, h => by simp [idsVL] at h
  | v :: r, i, h => by
    simp only [idsVL, List.mem_append] at h
    rcases h with h | h
    · exact ⟨v, by simp, h⟩
    · obtain ⟨x, hx, h⟩ := idsVL_ids r i h; exact ⟨x, by simp [hx], h⟩

/-- behind a call -/
theorem call_done (h : Rel A0 N w0 ρ σ a w) {dst : Option Tmp} (hd : ∀ t, dst = some t → t < N) {w' : World} {v : Value} {r : V} {As : List V} (hb : Below w.heap.size w w')
    (hv : VR (fun _ => none) (fun _ => none) (fun g => (g ∈ idsVL As ∨ w.heap.size ≤ g) ∧ g < w'.heap.size) w' r v) (hf : rd (fun _ => none) (fun _ => none) r = some r)
    (hA : ∀ g ∈ idsVL As, g ∈ r.ids → Sof A0 σ.B ρ σ.m w g ∨ w.heap.size ≤ g) :
    Rel A0 N w0 ρ ({ σ with hs := w'.heap.size }.put dst r) (a.put dst v) w' := by
  have hBsz : σ.B ≤ w.heap.size := by rw [h.hB]; exact h.below.size
  have h1 : Rel A0 N w0 ρ { σ with hs := w'.heap.size } a w' :=
    h.world (h.below.trans (.of (hb.mono h.below.size))) (fun g hg => hb.block g hg) hb.size (Nat.le_refl _) (Nat.le_trans h.hs hb.size)
  refine h1.put dst hd (VR.fz _ _ hf hv fun g hg hi => ?_)
  have fresh : w.heap.size ≤ g → Sof A0 σ.B ρ σ.m w' g := fun hge => ⟨.inr (by omega), hg.2, fun k b hk p hp => by have := ((h.mem k b hk).lt p hp).2; omega⟩
  rcases hg.1 with hin | hge
  · rcases hA g hin hi with hS | hge
    · exact ⟨hS.1, hg.2, hS.2.2⟩
    · exact fresh hge
  · exact fresh hge

theorem call_sound (h : Rel A0 N w0 ρ σ a w) {dst : Option Tmp} (hd : ∀ t, dst = some t → t < N) (f : FuncId) (args : Array Operand) {tys : Array TypeId} {ty : TypeId} {pos : String} {af : Array Edge} {gd : Option (Nat × Bool)}
    {K : St → Prop} (hv : vcall P f (args.toList.map σ.ev) dst K σ) {next : Act → World → Prop} {Q : Exit → Act → World → Prop}
    (hn : ∀ σ' ρ' a' w', Rel A0 N w0 ρ' σ' a' w' → Ext w w' → K σ' → next a' w') :
    (⟨dst, .call ⟨.value (.func f), args, tys⟩, ty, pos, af, gd⟩ : Oper).wp P a w next Q := by
  have main : ∀ (As : List V) (post : Nat → V → Prop), rdL (fun k => (ρ k).map (·.1)) σ.m (args.toList.map σ.ev) = some As → VC P f As post →
      (∀ (r : V) (hs' : Nat), w.heap.size ≤ hs' → post w.heap.size r → (∀ i ∈ r.ids, i < hs') → (∀ g ∈ idsVL As, g ∈ r.ids → Sof A0 σ.B ρ σ.m w g ∨ w.heap.size ≤ g) ∧ K ({ σ with hs := hs' }.put dst r)) →
      (⟨dst, .call ⟨.value (.func f), args, tys⟩, ty, pos, af, gd⟩ : Oper).wp P a w next Q := by
    intro As post hrd hVC hK
    obtain ⟨⟨fn, hfn, hbody, hname⟩, hVC⟩ := hVC
    have hrun : (execOp a.eval ⟨dst, .call ⟨.value (.func f), args, tys⟩, ty, pos, af, gd⟩).run P w = .ok (.enter f (args.map a.eval)) w := by
      have hbn : ¬ (fn.body = none) := fun hb => by rw [hb] at hbody; cases hbody
      have hname' : (fn.name == "runtime.NumGoroutine") = false := hname
      simp only [beq_eq_false_iff_ne, ne_eq] at hname'
      simp [execOp, resolve, Deferred.ofValue, Act.eval, invoke, callFunc, hfn, hname', hbn, Sem.run_bind, Sem.run_pure, Result.andThen]
    unfold Oper.wp
    rw [hrun]
    simp only [Oper.upon]
    have hLR := rdL_LR h _ _ _ (LR_map h args.toList) hrd
    have hc := hVC w (args.toList.map a.eval) (LR.mono (fun g hg => ⟨hg.2.1, hg.2.2.1⟩) (fun _ _ => rfl) (fun k => KC.refl k) _ _ hLR)
    have harr : (args.toList.map a.eval).toArray = args.map a.eval := by rw [← Array.toList_map]
    rw [harr] at hc
    refine hc.mono fun e w' he => ?_
    obtain ⟨v, r, rfl, hb, hvr, hfz, hpost⟩ := he
    have hids : ∀ i ∈ r.ids, i < w'.heap.size := fun i hi => (VR.ids_ _ _ hvr i hi).2
    obtain ⟨hA, hKK⟩ := hK r w'.heap.size hb.size hpost hids
    exact hn _ ρ _ w' (call_done h hd hb hvr hfz hA) ⟨hb.size, hb.block⟩ hKK
  unfold vcall at hv
  split at hv
  · rename_i hk
    obtain ⟨hrd, post, hVC, hK⟩ := hv
    rw [rdL_keys _ (fun k => (ρ k).map (·.1)) _ _ hk] at hrd
    refine main _ post hrd hVC fun r hs' hle hpost hlt => ⟨fun g hg hi => ?_, hK r w.heap.size hs' h.hs hle hpost hlt⟩
    exact .inl (LR.ids_ _ _ (LR_map h args.toList) g hg)
  · obtain ⟨As, post, hrd, hVC, hK⟩ := hv _ _ h.hs h.gam
    exact main As post hrd hVC fun r hs' hle hpost hlt => ⟨fun g _ hi => .inr ((hK r hs' hle hpost hlt).1 g hi), (hK r hs' hle hpost hlt).2⟩

mutual
/-- the slice whose block is g lies in the data -/
theorem look_DR {S : Nat → Prop} {w : World} {g : Nat} {y : D} : ∀ (x : D) (v : Value), DR S w x v → lookD g x = some y → ∃ v', DR S w y v'
  | .bool _, _, _, h => by simp [lookD] at h
  | .int _ _, _, _, h => by simp [lookD] at h
  | .str _, _, _, h => by simp [lookD] at h
  | .sl none T es, v, hD, h => by
    simp only [lookD] at h
    cases hD with
    | nil => simp [lookLL] at h
  | .sl (some g') T es, v, hD, h => by
    simp only [lookD] at h
    split at h
    · cases h; exact ⟨v, hD⟩
    · cases hD with
      | sl _ _ _ a cap sz vs hS hab hcap hm hsz hc hd hw =>
        refine lookLL_DR es (fun e he u hu => ?_) h
        obtain ⟨i, hi⟩ := List.mem_iff_getElem?.1 he
        obtain ⟨j, hj⟩ := List.mem_iff_getElem?.1 hu
        exact ⟨_, hd i e hi j u hj⟩
theorem lookL_DR {S : Nat → Prop} {w : World} {g : Nat} {y : D} : ∀ (l : List D), (∀ u ∈ l, ∃ v, DR S w u v) → lookL g l = some y → ∃ v', DR S w y v'
  | [], _, h => by simp [lookL] at h
  | x :: r, hl, h => by
    simp only [lookL] at h
    cases hx : lookD g x with
    | some z =>
      simp only [hx, Option.some.injEq] at h
      subst h
      obtain ⟨v, hv⟩ := hl x (by simp)
      exact look_DR x v hv hx
    | none => simp only [hx] at h; exact lookL_DR r (fun u hu => hl u (by simp [hu])) h
theorem lookLL_DR {S : Nat → Prop} {w : World} {g : Nat} {y : D} : ∀ (l : List (List D)), (∀ e ∈ l, ∀ u ∈ e, ∃ v, DR S w u v) → lookLL g l = some y → ∃ v', DR S w y v'
  | [], _, h => by simp [lookLL] at h
  | x :: r, hl, h => by
    simp only [lookLL] at h
    cases hx : lookL g x with
    | some z =>
      simp only [hx, Option.some.injEq] at h
      subst h
      exact lookL_DR x (hl x (by simp)) hx
    | none => simp only [hx] at h; exact lookLL_DR r (fun u hu => hl u (by simp [hu])) h
end

theorem frzs_B (γ : Nat → Option Nat) : ∀ (ks : List Nat) (σ : St), (σ.frzs γ ks).B = σ.B ∧ (σ.frzs γ ks).W = σ.W ∧ (σ.frzs γ ks).hs = σ.hs
  | [], _ => ⟨rfl, rfl, rfl⟩
  | k :: r, σ => by
    simp only [St.frzs]
    split
    · exact frzs_B γ r _
    · exact frzs_B γ r σ

theorem enter_run {P : Program} (f : FuncId) {fn : Func} (hfn : P.funcs[f]? = some fn) (hbody : fn.body.isSome = true) (hname : (fn.name == "runtime.NumGoroutine") = false) (a : Act) (w : World) (dst : Option Tmp) (args : Array Operand) (tys : Array TypeId) (ty : TypeId) (pos : String) (af : Array Edge) (gd : Option (Nat × Bool)) :
    (execOp a.eval ⟨dst, .call ⟨.value (.func f), args, tys⟩, ty, pos, af, gd⟩).run P w = .ok (.enter f (args.map a.eval)) w := by
  have hbn : ¬ (fn.body = none) := fun hb => by rw [hb] at hbody; cases hbody
  simp only [beq_eq_false_iff_ne, ne_eq] at hname
  simp [execOp, resolve, Deferred.ofValue, Act.eval, invoke, callFunc, hfn, hname, hbn, Sem.run_bind, Sem.run_pure, Result.andThen]

/-- what a call that writes leaves: blocks W, the variable of key kx -/
theorem callX_done (h : Rel A0 N w0 ρ σ a w) {dst : Option Tmp} (hd : ∀ t, dst = some t → t < N) {W : List Nat} (hwr : ∀ g ∈ W, σ.wr g) {kx : Option Nat} {isb : Bool} {gb : Nat} {ids : Nat → Prop} {w' : World} {v : Value} {r : V} {cs' : List V} {ws : List D}
    (hids : ∀ g, ids g → Sof A0 σ.B ρ σ.m w g) (hW : ∀ g ∈ W, ids g)
    (hkb : ∀ k, kx = some k → isb = true ∧ ∃ cs0 cap, σ.m k = some (.box cs0) ∧ ρ k = some (gb, cap)) (hnb : kx = none → isb = false)
    (hbX : Bel (fun g => g ∈ W ∨ (isb = true ∧ g = gb)) w.heap.size w w')
    (hvr : VR (fun _ => none) (fun _ => none) (fun g => (ids g ∨ w.heap.size ≤ g) ∧ g < w'.heap.size ∧ ¬ (isb = true ∧ g = gb)) w' r v) (hf : rd (fun _ => none) (fun _ => none) r = some r)
    (hbx : isb = true → ∃ cur T, w'.heap[gb]? = some (.cells cur T (0, 0)) ∧ LR (fun _ => none) (fun _ => none) (fun g => (ids g ∨ w.heap.size ≤ g) ∧ g < w'.heap.size ∧ ¬ (isb = true ∧ g = gb)) w' cs' cur.toList ∧ rdL (fun _ => none) (fun _ => none) cs' = some cs')
    (hws : ∀ d ∈ ws, ∃ v', DR (fun g => (ids g ∨ w.heap.size ≤ g) ∧ g < w'.heap.size ∧ ¬ (isb = true ∧ g = gb)) w' d v')
    (m' : Nat → Option Blk) (hm' : ∀ j, kx ≠ some j → m' j = (σ.re (phi W ws)).m j) (hmk : ∀ k, kx = some k → m' k = some (.box cs')) :
    Rel A0 N w0 ρ ({ (σ.re (phi W ws)) with hs := w'.heap.size, m := m' }.put dst r) (a.put dst v) w' := by
  have hBsz : σ.B ≤ w.heap.size := by rw [h.hB]; exact h.below.size
  have wrG : ∀ g, σ.wr g → σ.B ≤ g ∨ A0.G g := fun g hg => by
    rcases hg with h1 | h1
    · exact .inl h1
    · exact .inr (h.hG g h1)
  have gbG : isb = true → σ.B ≤ gb ∨ A0.G gb := fun hi => by
    cases hkx : kx with
    | none => rw [hnb hkx] at hi; cases hi
    | some k =>
      obtain ⟨_, cs0, cap, h1, h2⟩ := hkb k hkx
      exact ((h.mem k _ h1).lt _ h2).1
  have hBel : Bel A0.G w0.heap.size w w' := by
    refine ⟨hbX.os, hbX.tape, hbX.output, hbX.size, fun k hk hG => hbX.block k (Nat.lt_of_lt_of_le hk h.below.size) ?_, fun k hk => hbX.shape k (Nat.lt_of_lt_of_le hk h.below.size)⟩
    rintro (hin | ⟨hi, rfl⟩)
    · rcases wrG k (hwr k hin) with h1 | h1
      · rw [h.hB] at h1; omega
      · exact hG h1
    · rcases gbG hi with h1 | h1
      · rw [h.hB] at h1; omega
      · exact hG h1
  have back : ∀ k b, m' k = some b → ∃ b0, σ.m k = some b0 := by
    intro k b hk
    by_cases hkk : kx = some k
    · obtain ⟨_, cs0, cap, h1, h2⟩ := hkb k hkk
      exact ⟨_, h1⟩
    · rw [hm' k hkk] at hk
      obtain ⟨b0, h1, _⟩ := re_m_back hk
      exact ⟨b0, h1⟩
  have hS' : ∀ g, ((ids g ∨ w.heap.size ≤ g) ∧ g < w'.heap.size ∧ ¬ (isb = true ∧ g = gb)) → Sof A0 σ.B ρ m' w' g := by
    rintro g ⟨h1, h2, h3⟩
    refine ⟨?_, h2, fun k b hk p hp => ?_⟩
    · rcases h1 with h1 | h1
      · exact (hids g h1).1
      · exact .inr (by omega)
    · obtain ⟨b0, hb0⟩ := back k b hk
      rcases h1 with h1 | h1
      · exact (hids g h1).2.2 k b0 hb0 p hp
      · have := ((h.mem k b0 hb0).lt p hp).2; omega
  have hrel := h.reX (phi W ws) kx m' (w' := w') (hs' := w'.heap.size) (h.below.trans hBel) hbX.size (Nat.le_refl _) (Nat.le_trans h.hs hbX.size) hm'
    (fun k hk => by
      obtain ⟨hi, cs0, cap, h1, h2⟩ := hkb k hk
      obtain ⟨cur, T, h3, h4, h5⟩ := hbx hi
      refine ⟨cs0, cs', h1, hmk k hk, gb, cap, h2, ((h.mem k _ h1).lt _ h2).1, cur, T, h3, ?_⟩
      exact LR.fz _ _ h5 h4 fun g hg _ => hS' g hg)
    (fun g hg hn hk => hbX.block g hg (by
      rintro (hin | ⟨hi, rfl⟩)
      · simp [phi, hin] at hn
      · cases hkx : kx with
        | none => rw [hnb hkx] at hi; cases hi
        | some k =>
          obtain ⟨_, cs0, cap, h1, h2⟩ := hkb k hkx
          exact hk k _ hkx h2 rfl))
    (fun g cur T f hc => hbX.shape g (Array.getElem?_eq_some_iff.1 hc).1 cur T f hc)
    (fun g hg k b hk p hp => by
      have hin : g ∈ W := by
        simp only [phi] at hg
        split at hg
        · assumption
        · simp at hg
      exact (hids g (hW g hin)).2.2 k b hk p hp)
    (fun g T es hg => by
      simp only [phi] at hg
      split at hg
      · simp only [Option.some.injEq] at hg
        cases hl : lookL g ws with
        | none => rw [hl] at hg; simp [badD] at hg
        | some y =>
          rw [hl] at hg
          simp only [Option.getD_some] at hg
          subst hg
          obtain ⟨v', hv'⟩ := lookL_DR ws hws hl
          exact ⟨v', hv'.mono hS' (fun _ _ => rfl)⟩
      · cases hg)
  exact hrel.put dst hd (VR.fz _ _ hf hvr fun g hg _ => hS' g hg)

theorem callX_core {σ1 : St} (h1 : Rel A0 N w0 ρ σ1 a w) {dst : Option Tmp} (hd : ∀ t, dst = some t → t < N) (f : FuncId) (args : Array Operand) {tys : Array TypeId} {ty : TypeId} {pos : String} {af : Array Edge} {gd : Option (Nat × Bool)}
    {K : St → Prop} {W : List Nat} {post : Nat → V → List V → List D → Prop} (hwr : ∀ g ∈ W, σ1.wr g) (hc : coreX P f W post w.heap.size (args.toList.map σ1.ev) dst K σ1) {next : Act → World → Prop} {Q : Exit → Act → World → Prop}
    (hn : ∀ σ' ρ' a' w', Rel A0 N w0 ρ' σ' a' w' → K σ' → next a' w') :
    (⟨dst, .call ⟨.value (.func f), args, tys⟩, ty, pos, af, gd⟩ : Oper).wp P a w next Q := by
  have hLR := LR_map h1 args.toList
  have harr : (args.toList.map a.eval).toArray = args.map a.eval := by rw [← Array.toList_map]
  have fin : ∀ (As : List V) (bx : Option (List V)) (kx : Option Nat) (gb : Nat),
      VX P f W As bx post →
      LR (fun k => if k = 1000 then some (gb, 0) else none) (fun k => if k = 1000 then bx.map .box else none) (fun g => g < w.heap.size ∧ (g ∈ idsVL As ∨ g ∈ idsVL (bx.getD [])) ∧ ¬ (bx.isSome = true ∧ g = gb)) w As (args.toList.map a.eval) →
      (∀ cs, bx = some cs → ∃ cur T, w.heap[gb]? = some (.cells cur T (0, 0)) ∧ LR (fun _ => none) (fun _ => none) (fun g => g < w.heap.size ∧ (g ∈ idsVL As ∨ g ∈ idsVL (bx.getD [])) ∧ ¬ (bx.isSome = true ∧ g = gb)) w cs cur.toList) →
      (∀ g, (g ∈ idsVL As ∨ g ∈ idsVL (bx.getD [])) → Sof A0 σ1.B ρ σ1.m w g) → (∀ k, kx = some k → bx.isSome = true ∧ ∃ cs0 cap, σ1.m k = some (.box cs0) ∧ ρ k = some (gb, cap)) → (kx = none → bx.isSome = false) →
      (∀ r cs' ws hs', w.heap.size ≤ hs' → post w.heap.size r cs' ws → (∀ i ∈ r.ids, i < hs') → (bx.isSome = true → ∀ i ∈ idsVL cs', i < hs') → (∀ d ∈ ws, ∀ i ∈ d.ids, i < hs') →
        ∃ m', (∀ j, kx ≠ some j → m' j = (σ1.re (phi W ws)).m j) ∧ (∀ k, kx = some k → m' k = some (.box cs')) ∧ K ({ (σ1.re (phi W ws)) with hs := hs', m := m' }.put dst r)) →
      (⟨dst, .call ⟨.value (.func f), args, tys⟩, ty, pos, af, gd⟩ : Oper).wp P a w next Q := by
    intro As bx kx gb hVX hL hbx hids hkb hnb hK
    obtain ⟨⟨fn, hfn, hbody, hname⟩, hWin, hVX⟩ := hVX
    unfold Oper.wp
    rw [enter_run f hfn hbody hname]
    simp only [Oper.upon]
    have hcall := hVX w _ gb hL hbx
    rw [harr] at hcall
    refine hcall.mono fun e w' he => ?_
    obtain ⟨v, r, cs', ws, rfl, hbel, hvr, hfz, hbx', hws, hpost⟩ := he
    obtain ⟨m', hm1, hm2, hKK⟩ := hK r cs' ws w'.heap.size hbel.size hpost (fun i hi => (VR.ids_ _ _ hvr i hi).2.1) (fun hi i hin => by
      obtain ⟨cur, T, _, h4, _⟩ := hbx' hi
      exact (LR.ids_ _ _ h4 i hin).2.1) (fun d hd i hi => by obtain ⟨v', hv'⟩ := hws d hd; exact (hv'.ids i hi).2.1)
    refine hn _ ρ _ w' (callX_done h1 hd hwr (ids := fun g => g ∈ idsVL As ∨ g ∈ idsVL (bx.getD [])) hids hWin hkb hnb hbel ?_ hfz ?_ ?_ m' hm1 hm2) hKK
    · exact VR.mono (fun g hg => ⟨by rcases hg.1 with h | h | h; exact .inl (.inl h); exact .inl (.inr h); exact .inr h, hg.2⟩) (fun _ _ => rfl) (fun k => KC.refl k) _ _ hvr
    · intro hi
      obtain ⟨cur, T, h3, h4, h5⟩ := hbx' hi
      exact ⟨cur, T, h3, LR.mono (fun g hg => ⟨by rcases hg.1 with h | h | h; exact .inl (.inl h); exact .inl (.inr h); exact .inr h, hg.2⟩) (fun _ _ => rfl) (fun k => KC.refl k) _ _ h4, h5⟩
    · intro d hd
      obtain ⟨v', hv'⟩ := hws d hd
      exact ⟨v', hv'.mono (fun g hg => ⟨by rcases hg.1 with h | h | h; exact .inl (.inl h); exact .inl (.inr h); exact .inr h, hg.2⟩) (fun _ _ => rfl)⟩
  -- values that are data
  have dat : ∀ (l : List V) (vals : List Value), keysVL l = [] → rdL (fun _ => none) σ1.m l = some l → LR ρ σ1.m (Sof A0 σ1.B ρ σ1.m w) w l vals →
      LR (fun _ => none) (fun _ => none) (fun g => Sof A0 σ1.B ρ σ1.m w g ∧ g ∈ idsVL l) w l vals := by
    intro l vals hk hr hl
    rw [rdL_keys _ (fun k => (ρ k).map (·.1)) _ _ hk] at hr
    have h3 := rdL_LR h1 _ _ _ hl hr
    have h4 := LR.ids_ _ _ hl
    exact LR.mono (fun g hg => ⟨h4 g hg.2.2.1, hg.2.2.1⟩) (fun _ _ => rfl) (fun k => KC.refl k) _ _ h3
  unfold coreX at hc
  split at hc
  · rename_i k rest heq
    obtain ⟨hk1, hr1, hbox, hk2, hr2, hVX, hK⟩ := hc
    rw [heq] at hLR
    cases hm : σ1.m k with
    | none => rw [hm] at hbox; cases hbox
    | some b =>
      cases b with
      | row _ _ _ => rw [hm] at hbox; cases hbox
      | box cs0 =>
        rw [hm] at hVX hk2 hr2
        simp only [getC] at hVX hk2 hr2
        have hmem := h1.mem k _ hm
        obtain ⟨gb, cap, hρ, hB, cur, T, hcur, hlcs⟩ := hmem
        generalize hvals : args.toList.map a.eval = vals at hLR fin
        cases vals with
        | nil => simp [LR] at hLR
        | cons v0 vs =>
          simp only [LR] at hLR
          obtain ⟨hv0, hvs⟩ := hLR
          have d1 := dat rest vs hk1 hr1 hvs
          have d2 := dat cs0 _ hk2 hr2 hlcs
          have ngb : ∀ g, Sof A0 σ1.B ρ σ1.m w g → g ≠ gb := fun g hg e => hg.2.2 k _ hm _ hρ e.symm
          refine fin (.ptr 1000 0 0 :: rest) (some cs0) (some k) gb hVX ?_ ?_ ?_ ?_ (fun h => by cases h) ?_
          · simp only [LR]
            refine ⟨?_, ?_⟩
            · simp only [VR, hm] at hv0
              obtain ⟨_, g', cap', hr', hv0⟩ := hv0
              rw [hρ] at hr'; cases hr'
              simp only [VR, if_true, Option.map_some]
              exact ⟨trivial, gb, 0, rfl, hv0⟩
            · refine LR.fz _ _ ?_ d1 fun g hg _ => ⟨hg.1.2.1, .inl (by simpa [idsVL, V.ids] using hg.2), fun hh => ngb g hg.1 hh.2⟩
              exact rdL_fz _ _ hr1
          · intro cs hcs
            cases hcs
            refine ⟨cur, T, hcur, LR.mono (fun g hg => ⟨hg.1.2.1, .inr (by simpa using hg.2), fun hh => ngb g hg.1 hh.2⟩) (fun _ _ => rfl) (fun k => KC.refl k) _ _ d2⟩
          · rintro g (hg | hg)
            · exact LR.ids_ _ _ hvs g (by simpa [idsVL, V.ids] using hg)
            · exact LR.ids_ _ _ hlcs g (by simpa using hg)
          · intro k' hk'
            cases hk'
            exact ⟨rfl, cs0, cap, hm, hρ⟩
          · intro r cs' ws hs' h3 h4 h5 h6 h7
            exact ⟨_, fun j hj => by simp [upd, Ne.symm (fun e => hj (by rw [e]) : ¬ k = j)], fun k' hk' => by cases hk'; simp [upd], hK r cs' ws hs' h3 h4 h5 (h6 rfl) h7⟩
  · obtain ⟨hk1, hr1, hVX, hK⟩ := hc
    have d1 := dat _ _ hk1 hr1 hLR
    refine fin _ none none w.heap.size hVX ?_ (fun cs hcs => by cases hcs) ?_ (fun k hk => by cases hk) (fun _ => rfl) ?_
    · refine LR.fz _ _ (rdL_fz _ _ hr1) d1 fun g hg _ => ⟨hg.1.2.1, .inl hg.2, fun hh => by cases hh.1⟩
    · rintro g (hg | hg)
      · exact LR.ids_ _ _ hLR g hg
      · simp [idsVL] at hg
    · intro r cs' ws hs' h3 h4 h5 h6 h7
      exact ⟨_, fun j _ => rfl, (fun k' hk' => nomatch hk'), hK r cs' ws hs' h3 h4 h5 h7⟩

theorem callX_sound (h : Rel A0 N w0 ρ σ a w) {dst : Option Tmp} (hd : ∀ t, dst = some t → t < N) (f : FuncId) (args : Array Operand) {tys : Array TypeId} {ty : TypeId} {pos : String} {af : Array Edge} {gd : Option (Nat × Bool)}
    {K : St → Prop} (hv : vcallX P E f args.toList dst K σ) {next : Act → World → Prop} {Q : Exit → Act → World → Prop}
    (hn : ∀ σ' ρ' a' w', Rel A0 N w0 ρ' σ' a' w' → K σ' → next a' w') :
    (⟨dst, .call ⟨.value (.func f), args, tys⟩, ty, pos, af, gd⟩ : Oper).wp P a w next Q := by
  obtain ⟨_, hv⟩ := hv
  obtain ⟨W, post, hwr0, hc⟩ := hv (fun k => (ρ k).map (·.1)) w.heap.size h.hs h.gam
  have h1 := (h.hs_).frzs (keysVL (args.toList.map σ.ev ++ boxOf σ.m (args.toList.map σ.ev)))
  refine callX_core h1 hd f args (fun g hg => ?_) hc hn
  have hBW := frzs_B (fun k => (ρ k).map (·.1)) (keysVL (args.toList.map σ.ev ++ boxOf σ.m (args.toList.map σ.ev))) { σ with hs := w.heap.size }
  have := hwr0 g hg
  unfold St.wr at this ⊢
  rw [hBW.1, hBW.2.1]
  exact this

/-- what is asked of an operation by its text alone -/
def okOper (N : Nat) (o : Oper) : Bool :=
  (match o.dst with | some d => decide (d < N) | none => true) && (!mkOp o || o.dst.isSome)

theorem okOper_spec {o : Oper} (h : okOper N o = true) : (∀ t, o.dst = some t → t < N) ∧ (mkOp o = true → o.dst.isSome = true) := by
  unfold okOper at h
  simp only [Bool.and_eq_true, Bool.or_eq_true, Bool.not_eq_true'] at h
  refine ⟨fun t ht => by simpa [ht] using h.1, fun hm => ?_⟩
  rcases h.2 with h2 | h2
  · rw [hm] at h2; cases h2
  · exact h2

theorem vop_sound (h : Rel A0 N w0 ρ σ a w) (o : Oper) (hok : okOper N o = true) {K : St → Prop} (hv : vop P E o K σ) {next : Act → World → Prop} {Q : Exit → Act → World → Prop}
    (hn : ∀ σ' ρ' a' w', Rel A0 N w0 ρ' σ' a' w' → (effOp E o = false → Ext w w') → K σ' → next a' w') : o.wp P a w next Q := by
  obtain ⟨hd, hmk⟩ := okOper_spec hok
  unfold vop at hv
  split at hv
  · rename_i f args tys heq
    obtain ⟨dst, op, ty, pos, af, gd⟩ := o
    simp only at heq
    subst heq
    rcases hv with hv | hv
    · exact call_sound h hd f args hv fun σ' ρ' a' w' hR hE hK => hn σ' ρ' a' w' hR (fun _ => hE) hK
    · refine callX_sound h hd f args hv fun σ' ρ' a' w' hR hK => hn σ' ρ' a' w' hR (fun he => ?_) hK
      have hEf := hv.1
      simp only [effOp] at he
      rw [hEf] at he
      cases he
  · rename_i T n parts heq
    split at hv
    · exact efs_wp (step_sound h o hd hmk hv.1) hv.2 hn
    · have h' := (h.hs_).frzs (keysVL (allC (parts.toList.map fun p => σ.ev p.2)))
      rename_i k ks hks
      rw [hks] at h'
      obtain ⟨h1, h2⟩ := hv _ _ h.hs h.gam
      exact efs_wp (step_sound h' o hd hmk h1) h2 hn
  · exact efs_wp (step_sound h o hd hmk hv.1) hv.2 hn

theorem VR_tup0 {m : Nat → Option Blk} {S : Nat → Prop} : VR ρ m S w (.tup []) undef := by
  simp only [VR]; exact ⟨[], rfl, by simp [LR]⟩

/-- operations in their order -/
theorem vops_sound {ops : Array Oper} {K : St → Prop} {Q : Exit → Act → World → Prop} (hQ : ∀ σ' ρ' a' w', Rel A0 N w0 ρ' σ' a' w' → K σ' → Q .normal a' w') :
    ∀ (l : List Oper) (ρ : Nat → Option (Nat × Nat)) (σ : St) (a : Act) (w : World), (∀ o ∈ l, okOper N o = true) → Rel A0 N w0 ρ σ a w → vops P E ops K l σ → wpList P ops Q l a w
  | [], ρ, σ, a, w, _, h, hv => hQ σ ρ a w h hv
  | o :: r, ρ, σ, a, w, hok, h, hv => by
    have hok0 := hok o (by simp)
    have hokr : ∀ o ∈ r, okOper N o = true := fun o ho => hok o (by simp [ho])
    simp only [wpList]
    simp only [vops] at hv
    cases hg : o.guard with
    | none =>
      rw [hg] at hv
      have hw : Region.wanted o (yielded ops a.tmps) = true := by simp [Region.wanted, hg]
      rw [if_pos hw]
      exact .inl (vop_sound h o hok0 hv fun σ' ρ' a' w' hR _ hK => vops_sound hQ r ρ' σ' a' w' hokr hR hK)
    | some jw =>
      obtain ⟨j, want⟩ := jw
      rw [hg] at hv
      simp only at hv
      cases hj : (ops[j]?).bind (·.dst) with
      | none => simp [hj] at hv
      | some d =>
        simp only [hj] at hv
        have hvd := h.tmps d
        cases ht : σ.t d with
        | d x =>
          rw [ht] at hv hvd
          cases x with
          | bool b =>
            simp only at hv
            simp only [VR] at hvd
            have hval : a.tmps[d]? = some (.bool b) := by
              generalize hva : a.eval (.tmp d) = va at hvd
              cases hvd
              simp only [Act.eval, Array.getD_eq_getD_getElem?] at hva
              cases hx : a.tmps[d]? with
              | none => rw [hx] at hva; simp [undef] at hva
              | some y => rw [hx] at hva; simp at hva; rw [hva]
            have hy : yielded ops a.tmps j = some b := by simp [yielded, hj, hval]
            by_cases hb : b = want
            · have hw : Region.wanted o (yielded ops a.tmps) = true := by simp [Region.wanted, hg, hy, hb]
              rw [if_pos hw]
              exact .inl (vop_sound h o hok0 (hv.1 hb) fun σ' ρ' a' w' hR _ hK => vops_sound hQ r ρ' σ' a' w' hokr hR hK)
            · have hw : Region.wanted o (yielded ops a.tmps) = false := by simp [Region.wanted, hg, hy, hb]
              rw [hw]
              simp only [Bool.false_eq_true, if_false]
              exact vops_sound hQ r ρ _ _ w hokr (h.put o.dst (okOper_spec hok0).1 VR_tup0) (hv.2 (by simpa using hb))
          | _ => simp at hv
        | tup vs =>
          rw [ht] at hv hvd
          cases vs with
          | nil =>
            simp only at hv
            simp only [VR] at hvd
            obtain ⟨l, hva, hl⟩ := hvd
            have hl0 : l = [] := by cases l with
              | nil => rfl
              | cons _ _ => simp [LR] at hl
            subst hl0
            have hy : yielded ops a.tmps j = none := by
              simp only [yielded, hj, Option.bind_some]
              simp only [Act.eval, Array.getD_eq_getD_getElem?] at hva
              cases hx : a.tmps[d]? with
              | none => rfl
              | some y => rw [hx] at hva; simp at hva; rw [hva]
            have hw : Region.wanted o (yielded ops a.tmps) = false := by simp [Region.wanted, hg, hy]
            rw [hw]
            simp only [Bool.false_eq_true, if_false]
            exact vops_sound hQ r ρ _ _ w hokr (h.put o.dst (okOper_spec hok0).1 VR_tup0) hv
          | cons _ _ => simp at hv
        | _ => rw [ht] at hv; simp at hv
end
end Go.Vs
