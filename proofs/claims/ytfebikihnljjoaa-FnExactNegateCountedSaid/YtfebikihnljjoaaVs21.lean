/-
  Vs21: a part of a proof of this seat: the value-level semantics of Go code without maps (Vs), its walk rules (Vt), the frame of a row (Vr), facts of types, schedules, walks. It holds of every program and state that its hypotheses name.
-/
import Derived.Test.YtfebikihnljjoaaVs20
import Derived.OrdersHeld
set_option linter.unusedSimpArgs false
set_option linter.unusedVariables false
namespace Go.Vs
open Go.RowKit

section
variable {P : Program} {E : FuncId → Bool} {A0 : Env} {N : Nat} {w0 : World} {ρ : Nat → Option (Nat × Nat)} {σ : St} {a : Act} {w : World}

/-- operation j comes after operation i, by the edges -/
def waits (ops : Array Oper) : Nat → Nat → Nat → Bool
  | 0, _, _ => false
  | n + 1, j, i => match ops[j]? with
    | some o => o.after.any fun e => Region.binds .any e && (e.on == i || waits ops n e.on i)
    | none => false

/-- operation i may be carried out first -/
def pullOk (E : FuncId → Bool) (ops : Array Oper) (listed : Array Bool) (i : Nat) : Bool :=
  (match ops[i]? with | some o => isPure o | none => false) && (Region.ready .any ops listed).contains i && Region.free .any ops listed i &&
    (List.range ops.size).all fun j => listed.getD j true || !(match ops[j]? with | some o => effOp E o | none => false) || waits ops ops.size j i

def stepOk (E : FuncId → Bool) (ops : Array Oper) (listed : Array Bool) (i : Nat) : Bool := pullOk E ops listed i || decide (Region.ready .any ops listed = [i])

def covL (E : FuncId → Bool) (ops : Array Oper) (k : Nat → Array Bool → Bool) : List Nat → Nat → Array Bool → Bool
  | [], n, listed => k n listed
  | i :: l, n + 1, listed => stepOk E ops listed i && covL E ops k l n (listed.setIfInBounds i true)
  | _ :: _, 0, _ => false

def Tr.sz : Tr → Nat
  | .nil => 0
  | .seq _ t => t.sz + 1
  | .both t u => t.sz + u.sz + 1

def Tr.heads : Tr → List Nat
  | .seq (i :: _) _ => [i]
  | .both t u => t.heads ++ u.heads
  | _ => []

mutual
def cov (E : FuncId → Bool) (ops : Array Oper) : Tr → Nat → Array Bool → Bool
  | .nil, _, listed => (Region.ready .any ops listed).isEmpty
  | .seq l t, n, listed => covL E ops (cov E ops t) l n listed
  | .both t u, n, listed => (Region.ready .any ops listed).all (fun i => (t.heads ++ u.heads).contains i) && !(Region.ready .any ops listed).isEmpty && covH E ops t n listed && covH E ops u n listed
def covH (E : FuncId → Bool) (ops : Array Oper) : Tr → Nat → Array Bool → Bool
  | .seq (i :: l) t, n + 1, listed => covL E ops (cov E ops t) l n (listed.setIfInBounds i true)
  | .both t u, n, listed => covH E ops t n listed && covH E ops u n listed
  | _, _, _ => false
end

/-- that these orders are all that matter, whatever order is drawn -/
def coverOk (E : FuncId → Bool) (ops : Array Oper) (t : Tr) : Bool := Region.noSelect ops && cov E ops t ops.size (Array.replicate ops.size false)

/-- whatever order is picked from here on; an operation that writes no old block leaves what was there -/
def wpAnyE (P : Program) (E : FuncId → Bool) (ops : Array Oper) (Q : Exit → Act → World → Prop) : Nat → Array Bool → Act → World → Prop
  | 0, listed, a, w => Region.ready .any ops listed = [] ∧ Q .normal a w
  | n + 1, listed, a, w =>
    (Region.ready .any ops listed = [] → Q .normal a w) ∧
    ∀ i ∈ Region.ready .any ops listed, wpOp P ops Q i (fun a' w' => ((match ops[i]? with | some o => effOp E o | none => false) = false → Ext w w') ∧ wpAnyE P E ops Q n (listed.setIfInBounds i true) a' w') a w

theorem wpAny_of_E {ops : Array Oper} {Q : Exit → Act → World → Prop} : ∀ (n : Nat) (listed : Array Bool) (a : Act) (w : World), wpAnyE P E ops Q n listed a w → wpAny P .any ops Q n listed a w
  | 0, _, _, _, h => h
  | n + 1, _, _, _, h => ⟨h.1, fun i hi => wpOp_mono (fun a' w' h' => wpAny_of_E n _ a' w' h'.2) (h.2 i hi)⟩

theorem wpAnyE_done {ops : Array Oper} {Q : Exit → Act → World → Prop} {listed : Array Bool} {a : Act} {w : World} (hr : Region.ready .any ops listed = []) (h : Q .normal a w) : ∀ n, wpAnyE P E ops Q n listed a w
  | 0 => ⟨hr, h⟩
  | _ + 1 => ⟨fun _ => h, by rw [hr]; simp⟩

/-- what has come up has come up behind what it waits for -/
def Closed (ops : Array Oper) (listed : Array Bool) : Prop :=
  ∀ k o, listed.getD k false = true → ops[k]? = some o → ∀ e ∈ o.after, Region.binds .any e = true → listed.getD e.on false = true

theorem Closed.set {ops : Array Oper} {listed : Array Bool} (hc : Closed ops listed) {i : Nat} (hi : i ∈ Region.ready .any ops listed) : Closed ops (listed.setIfInBounds i true) := by
  intro k o hk ho e he hb
  by_cases hki : i = k
  · subst hki
    obtain ⟨_, o', ho', hall⟩ := mem_ready.1 hi
    rw [ho] at ho'
    cases ho'
    exact getD_set_true (hall e he hb)
  · rw [getD_set_ne false hki] at hk
    exact getD_set_true (hc k o hk ho e he hb)

theorem waits_listed {ops : Array Oper} {listed : Array Bool} (hc : Closed ops listed) {i : Nat} : ∀ (n j : Nat), (∀ o, ops[j]? = some o → ∀ e ∈ o.after, Region.binds .any e = true → listed.getD e.on false = true) → waits ops n j i = true → listed.getD i false = true
  | 0, _, _, h => by simp [waits] at h
  | n + 1, j, hj, h => by
    simp only [waits] at h
    cases ho : ops[j]? with
    | none => simp [ho] at h
    | some o =>
      simp only [ho] at h
      obtain ⟨e, he, hb⟩ := Array.any_eq_true'.1 h
      simp only [Bool.and_eq_true, Bool.or_eq_true, beq_iff_eq] at hb
      have hl := hj o ho e he hb.1
      rcases hb.2 with h1 | h1
      · rw [← h1]; exact hl
      · exact waits_listed hc n e.on (fun o' ho' e' he' hb' => hc e.on o' hl ho' e' he' hb') h1

theorem getD_set_t {listed : Array Bool} {i j : Nat} (h : listed.getD j true = true) : (listed.setIfInBounds i true).getD j true = true := by
  by_cases hij : i = j
  · subst hij
    simp [Array.getD_eq_getD_getElem?, Array.getElem?_setIfInBounds]
    split <;> rfl
  · rw [getD_set_ne true hij]; exact h

theorem pull_first {ops : Array Oper} {Q : Exit → Act → World → Prop} {i : Nat} {oi : Oper} {v : Value} {w : World} (hi : ops[i]? = some oi) (hsel : ∀ (j : Nat) (o : Oper) cs b, ops[j]? = some o → o.op ≠ .select cs b)
    (hQ : ∀ c a w, ¬ Q (.panic c) a w) {L0 : Array Bool} (heff : ∀ (j : Nat) (oj : Oper) (listed : Array Bool), ops[j]? = some oj → effOp E oj = true → Closed ops listed → (∀ k, L0.getD k true = true → listed.getD k true = true) → j ∈ Region.ready .any ops listed → i ∈ Region.ready .any ops listed → False) :
    ∀ (n : Nat) (listed : Array Bool) (a : Act) (w' : World), Closed ops listed → (∀ k, L0.getD k true = true → listed.getD k true = true) →
      (∀ j oj, ops[j]? = some oj → j ≠ i → listed.getD j true = false → (∀ e ∈ oj.after, Region.binds .any e = true → e.on ≠ i) → oi.apart ops oj = true) →
      i ∈ Region.ready .any ops listed → YieldsIf P ops (Ext w) oi v a → Ext w w' → effOp E oi = false →
      wpAnyE P E ops Q n (listed.setIfInBounds i true) (a.put oi.dst v) w' → wpAnyE P E ops Q (n + 1) listed a w' := by
  intro n
  induction n with
  | zero =>
    intro listed a w' hc _ _ hr hy hS he H
    refine ⟨fun h => (by rw [h] at hr; cases hr), fun j hj => ?_⟩
    by_cases hji : j = i
    · subst hji; exact hy.wpOp hi hS ⟨fun _ => Ext.refl, H⟩
    · have := ready_mono hj hji
      rw [H.1] at this
      cases this
  | succ n ih =>
    intro listed a w' hc hL hfree hr hy hS he H
    refine ⟨fun h => (by rw [h] at hr; cases hr), fun j hj => ?_⟩
    by_cases hji : j = i
    · subst hji; exact hy.wpOp hi hS ⟨fun _ => Ext.refl, H⟩
    · have h1 := H.2 j (ready_mono hj hji)
      obtain ⟨hjun, oj, hoj, hall⟩ := mem_ready.1 hj
      have hnot : ∀ e ∈ oj.after, Region.binds .any e = true → e.on ≠ i := fun e he hb heq => by
        have h1 := hall e he hb
        have h0 := (mem_ready.1 hr).1
        rw [heq] at h1
        rcases Nat.lt_or_ge i listed.size with h' | h'
        · simp [h'] at h0 h1; rw [h0] at h1; cases h1
        · simp [Array.getElem?_eq_none h'] at h1
      have hej : effOp E oj = false := by
        cases h : effOp E oj with
        | false => rfl
        | true => exact (heff j oj listed hoj h hc hL hj hr).elim
      have h2 := wpOp_putIf hoj (hfree j oj hoj hji hjun hnot) (fun cs b => hsel i oi cs b hi) (fun cs b => hsel j oj cs b hoj) (fun c a w h => absurd h (hQ c _ _)) hy h1
      have hfree' : ∀ k ok, ops[k]? = some ok → k ≠ i → (listed.setIfInBounds j true).getD k true = false →
          (∀ e ∈ ok.after, Region.binds .any e = true → e.on ≠ i) → oi.apart ops ok = true := fun k ok hk hki hun hno => by
        refine hfree k ok hk hki ?_ hno
        by_cases hjk : j = k
        · subst hjk; exact hjun
        · rw [getD_set_ne true hjk] at hun; exact hun
      refine wpOp_mono (fun a' w'' h3 => ?_) h2
      have hext : Ext w' w'' := h3.2.1 (by simp [hoj, hej])
      refine ⟨fun _ => hext, ih (listed.setIfInBounds j true) a' w'' (hc.set hj) (fun k hk => getD_set_t (hL k hk)) hfree' (ready_mono hr (Ne.symm hji)) h3.1 ⟨Nat.le_trans hS.1 hext.1, fun g hg => (hext.2 g (Nat.lt_of_lt_of_le hg hS.1)).trans (hS.2 g hg)⟩ he ?_⟩
      rw [Array.setIfInBounds_comm _ _ hji]
      exact h3.2.2

/-- one operation, its guard looked at -/
theorem one_sound {ops : Array Oper} {o : Oper} {r : List Oper} {K : St → Prop} (h : Rel A0 N w0 ρ σ a w) (hok : okOper N o = true) (hv : vops P E ops K (o :: r) σ) {next : Act → World → Prop} {Q : Exit → Act → World → Prop}
    (hn : ∀ σ' ρ' a' w', Rel A0 N w0 ρ' σ' a' w' → (effOp E o = false → Ext w w') → vops P E ops K r σ' → next a' w') :
    if Region.wanted o (yielded ops a.tmps) then o.wp P a w next Q ∨ (o.asks P a w ∧ LetsOut Q) else next (a.put o.dst undef) w := by
  simp only [vops] at hv
  cases hg : o.guard with
  | none =>
    rw [hg] at hv
    have hw : Region.wanted o (yielded ops a.tmps) = true := by simp [Region.wanted, hg]
    rw [if_pos hw]
    exact .inl (vop_sound h o hok hv hn)
  | some jw =>
    obtain ⟨j, want⟩ := jw
    rw [hg] at hv
    simp only at hv
    cases hj : (ops[j]?).bind (·.dst) with
    | none => simp [hj] at hv
    | some d =>
      simp only [hj] at hv
      have hvd := h.tmps d
      cases ht : σ.t d with
      | d x =>
        rw [ht] at hv hvd
        cases x with
        | bool b =>
          simp only at hv
          simp only [VR] at hvd
          have hval : a.tmps[d]? = some (.bool b) := by
            generalize hva : a.eval (.tmp d) = va at hvd
            cases hvd
            simp only [Act.eval, Array.getD_eq_getD_getElem?] at hva
            cases hx : a.tmps[d]? with
            | none => rw [hx] at hva; simp [undef] at hva
            | some y => rw [hx] at hva; simp at hva; rw [hva]
          have hy : yielded ops a.tmps j = some b := by simp [yielded, hj, hval]
          by_cases hb : b = want
          · have hw : Region.wanted o (yielded ops a.tmps) = true := by simp [Region.wanted, hg, hy, hb]
            rw [if_pos hw]
            exact .inl (vop_sound h o hok (hv.1 hb) hn)
          · have hw : Region.wanted o (yielded ops a.tmps) = false := by simp [Region.wanted, hg, hy, hb]
            rw [hw]
            simp only [Bool.false_eq_true, if_false]
            exact hn _ ρ _ w (h.put o.dst (okOper_spec hok).1 VR_tup0) (fun _ => Ext.refl) (hv.2 (by simpa using hb))
        | _ => simp at hv
      | tup vs =>
        rw [ht] at hv hvd
        cases vs with
        | nil =>
          simp only at hv
          simp only [VR] at hvd
          obtain ⟨l, hva, hl⟩ := hvd
          have hl0 : l = [] := by cases l with
            | nil => rfl
            | cons _ _ => simp [LR] at hl
          subst hl0
          have hy : yielded ops a.tmps j = none := by
            simp only [yielded, hj, Option.bind_some]
            simp only [Act.eval, Array.getD_eq_getD_getElem?] at hva
            cases hx : a.tmps[d]? with
            | none => rfl
            | some y => rw [hx] at hva; simp at hva; rw [hva]
          have hw : Region.wanted o (yielded ops a.tmps) = false := by simp [Region.wanted, hg, hy]
          rw [hw]
          simp only [Bool.false_eq_true, if_false]
          exact hn _ ρ _ w (h.put o.dst (okOper_spec hok).1 VR_tup0) (fun _ => Ext.refl) hv
        | cons _ _ => simp at hv
      | _ => rw [ht] at hv; simp at hv

/-- a reading operation: what it yields, and the state behind it -/
theorem pure_one {ops : Array Oper} {o : Oper} {r : List Oper} {K : St → Prop} (h : Rel A0 N w0 ρ σ a w) (hok : okOper N o = true) (hp : isPure o = true) (hv : vops P E ops K (o :: r) σ) :
    ∃ v σ', YieldsIf P ops (Ext w) o v a ∧ Rel A0 N w0 ρ σ' (a.put o.dst v) w ∧ vops P E ops K r σ' := by
  have hpre : ∀ {K' : St → Prop}, vop P E o K' σ → vpre P o σ ∧ K' (σ.put o.dst (vval P o σ)) := by
    intro K' h'
    unfold vop at h'
    split at h'
    · rename_i heq; simp [isPure, heq] at hp
    · rename_i heq; simp [isPure, heq] at hp
    · simpa [vnext, hp] using h'
  have yes : Region.wanted o (yielded ops a.tmps) = true → vop P E o (vops P E ops K r) σ → ∃ v σ', YieldsIf P ops (Ext w) o v a ∧ Rel A0 N w0 ρ σ' (a.put o.dst v) w ∧ vops P E ops K r σ' := by
    intro hw h'
    obtain ⟨h1, h2⟩ := hpre h'
    obtain ⟨val, hr, hV⟩ := pure_sound h o hp h1
    exact ⟨val, _, .inl ⟨hw, hr⟩, h.put _ (okOper_spec hok).1 hV, h2⟩
  have no : Region.wanted o (yielded ops a.tmps) = false → vops P E ops K r (σ.put o.dst (.tup [])) → ∃ v σ', YieldsIf P ops (Ext w) o v a ∧ Rel A0 N w0 ρ σ' (a.put o.dst v) w ∧ vops P E ops K r σ' :=
    fun hw h' => ⟨undef, _, .inr ⟨hw, rfl⟩, h.put _ (okOper_spec hok).1 VR_tup0, h'⟩
  simp only [vops] at hv
  cases hg : o.guard with
  | none =>
    rw [hg] at hv
    exact yes (by simp [Region.wanted, hg]) hv
  | some jw =>
    obtain ⟨j, want⟩ := jw
    rw [hg] at hv
    simp only at hv
    cases hj : (ops[j]?).bind (·.dst) with
    | none => simp [hj] at hv
    | some d =>
      simp only [hj] at hv
      have hvd := h.tmps d
      cases ht : σ.t d with
      | d x =>
        rw [ht] at hv hvd
        cases x with
        | bool b =>
          simp only at hv
          simp only [VR] at hvd
          have hval : a.tmps[d]? = some (.bool b) := by
            generalize hva : a.eval (.tmp d) = va at hvd
            cases hvd
            simp only [Act.eval, Array.getD_eq_getD_getElem?] at hva
            cases hx : a.tmps[d]? with
            | none => rw [hx] at hva; simp [undef] at hva
            | some y => rw [hx] at hva; simp at hva; rw [hva]
          have hy : yielded ops a.tmps j = some b := by simp [yielded, hj, hval]
          by_cases hb : b = want
          · exact yes (by simp [Region.wanted, hg, hy, hb]) (hv.1 hb)
          · exact no (by simp [Region.wanted, hg, hy, hb]) (hv.2 (by simpa using hb))
        | _ => simp at hv
      | tup vs =>
        rw [ht] at hv hvd
        cases vs with
        | nil =>
          simp only at hv
          simp only [VR] at hvd
          obtain ⟨l, hva, hl⟩ := hvd
          have hl0 : l = [] := by cases l with
            | nil => rfl
            | cons _ _ => simp [LR] at hl
          subst hl0
          have hy : yielded ops a.tmps j = none := by
            simp only [yielded, hj, Option.bind_some]
            simp only [Act.eval, Array.getD_eq_getD_getElem?] at hva
            cases hx : a.tmps[d]? with
            | none => rfl
            | some y => rw [hx] at hva; simp at hva; rw [hva]
          exact no (by simp [Region.wanted, hg, hy]) hv
        | cons _ _ => simp at hv
      | _ => rw [ht] at hv; simp at hv

theorem isPure_eff {o : Oper} (h : isPure o = true) : effOp E o = false := by
  unfold isPure at h
  split at h <;> simp_all [effOp]

section
variable {ops : Array Oper} {K : St → Prop} {Q : Exit → Act → World → Prop} (hsel : Region.noSelect ops = true) (hok : ∀ o ∈ ops, okOper N o = true) (hP : ∀ c a w, ¬ Q (.panic c) a w)

theorem ready_op {listed : Array Bool} {i : Nat} (hi : i ∈ Region.ready .any ops listed) : ∃ o, ops[i]? = some o := by
  obtain ⟨_, o, ho, _⟩ := mem_ready.1 hi
  exact ⟨o, ho⟩

include hok in
/-- one operation that comes up -/
theorem wpOp_one {i : Nat} {o : Oper} (ho : ops[i]? = some o) {r : List Oper} (h : Rel A0 N w0 ρ σ a w) (hv : vops P E ops K (o :: r) σ) {next : Act → World → Prop}
    (hn : ∀ σ' ρ' a' w', Rel A0 N w0 ρ' σ' a' w' → (effOp E o = false → Ext w w') → vops P E ops K r σ' → next a' w') : wpOp P ops Q i next a w := by
  unfold wpOp
  simp only [ho]
  exact one_sound h (hok o (Array.mem_of_getElem? ho)) hv hn

include hsel hok hP in
theorem covL_sound {k : Nat → Array Bool → Bool} {K' : St → Prop} (hk : ∀ n listed ρ σ a w, k n listed = true → Closed ops listed → Rel A0 N w0 ρ σ a w → K' σ → wpAnyE P E ops Q n listed a w) :
    ∀ (l : List Nat) (n : Nat) (listed : Array Bool) (ρ : Nat → Option (Nat × Nat)) (σ : St) (a : Act) (w : World), covL E ops k l n listed = true → Closed ops listed → Rel A0 N w0 ρ σ a w → vops P E ops K' (pick ops l) σ → wpAnyE P E ops Q n listed a w
  | [], n, listed, ρ, σ, a, w, hc, hcl, h, hv => hk n listed ρ σ a w hc hcl h hv
  | _ :: _, 0, _, _, _, _, _, hc, _, _, _ => by simp [covL] at hc
  | i :: l, n + 1, listed, ρ, σ, a, w, hc, hcl, h, hv => by
    simp only [covL, Bool.and_eq_true] at hc
    obtain ⟨hs, hc⟩ := hc
    simp only [stepOk, Bool.or_eq_true, decide_eq_true_eq] at hs
    simp only [pick] at hv
    rcases hs with hs | hs
    · simp only [pullOk, Bool.and_eq_true] at hs
      obtain ⟨⟨⟨h1, h2⟩, h3⟩, h4⟩ := hs
      have hr : i ∈ Region.ready .any ops listed := by simpa using h2
      obtain ⟨o, ho⟩ := ready_op hr
      have hg : ops.getD i default = o := by simp [Array.getD_eq_getD_getElem?, ho]
      rw [hg] at hv
      simp only [ho] at h1
      obtain ⟨v, σ', hy, hR, hv'⟩ := pure_one h (hok o (Array.mem_of_getElem? ho)) h1 hv
      refine pull_first (L0 := listed) ho (Region.noSelect_spec hsel) hP ?_ n listed a w hcl (fun k hk => hk) (Region.free_spec ho h3) hr hy Ext.refl (isPure_eff h1) (covL_sound hk l n _ ρ σ' _ w hc (hcl.set hr) hR hv')
      intro j oj listed' hj hej hcl' hL hrj hri
      have hjn : j < ops.size := (Array.getElem?_eq_some_iff.1 hj).1
      have h5 := List.all_eq_true.1 h4 j (List.mem_range.2 hjn)
      simp only [hj, hej, Bool.not_true, Bool.or_false, Bool.or_eq_true] at h5
      obtain ⟨hun, oj', hoj', hall⟩ := mem_ready.1 hrj
      rw [hj] at hoj'; cases hoj'
      rcases h5 with h5 | h5
      · rw [hL j h5] at hun; cases hun
      · have hli := waits_listed hcl' ops.size j (fun o' ho' => by rw [hj] at ho'; cases ho'; exact hall) h5
        have hni := (mem_ready.1 hri).1
        rcases Nat.lt_or_ge i listed'.size with h' | h'
        · simp [h'] at hni hli; rw [hni] at hli; cases hli
        · simp [Array.getElem?_eq_none h'] at hli
    · have hr : i ∈ Region.ready .any ops listed := by rw [hs]; simp
      obtain ⟨o, ho⟩ := ready_op hr
      have hg : ops.getD i default = o := by simp [Array.getD_eq_getD_getElem?, ho]
      rw [hg] at hv
      refine ⟨fun h0 => (by rw [h0] at hs; cases hs), fun j hj => ?_⟩
      rw [hs] at hj
      have hji : j = i := by simpa using hj
      subst hji
      exact wpOp_one hok ho h hv fun σ' ρ' a' w' hR hE hv' => ⟨fun he => hE (by simpa [ho] using he), covL_sound hk l n _ ρ' σ' a' w' hc (hcl.set hr) hR hv'⟩

include hsel hok hP in
theorem covH_sound {i : Nat} (hi : ∃ o, ops[i]? = some o) : ∀ (t : Tr) (n : Nat) (listed : Array Bool) (ρ : Nat → Option (Nat × Nat)) (σ : St) (a : Act) (w : World),
    (∀ u : Tr, u.sz < t.sz → ∀ n listed ρ σ a w, cov E ops u n listed = true → Closed ops listed → Rel A0 N w0 ρ σ a w → vtr P E ops K u σ → wpAnyE P E ops Q n listed a w) →
    covH E ops t n listed = true → i ∈ t.heads → Closed ops listed → i ∈ Region.ready .any ops listed → Rel A0 N w0 ρ σ a w → vtr P E ops K t σ →
    ∃ m, n = m + 1 ∧ wpOp P ops Q i (fun a' w' => ((match ops[i]? with | some o => effOp E o | none => false) = false → Ext w w') ∧ wpAnyE P E ops Q m (listed.setIfInBounds i true) a' w') a w
  | .nil, _, _, _, _, _, _, _, hc, _, _, _, _, _ => by simp [covH] at hc
  | .seq [] t, _, _, _, _, _, _, _, hc, _, _, _, _, _ => by simp [covH] at hc
  | .seq (i' :: l) t, 0, _, _, _, _, _, _, hc, _, _, _, _, _ => by simp [covH] at hc
  | .seq (i' :: l) t, n + 1, listed, ρ, σ, a, w, ih, hc, hh, hcl, hr, h, hv => by
    have : i = i' := by simpa [Tr.heads] using hh
    subst this
    simp only [covH] at hc
    simp only [vtr, pick] at hv
    obtain ⟨o, ho⟩ := hi
    have hg : ops.getD i default = o := by simp [Array.getD_eq_getD_getElem?, ho]
    rw [hg] at hv
    exact ⟨n, rfl, wpOp_one hok ho h hv fun σ' ρ' a' w' hR hE hv' => ⟨fun he => hE (by simpa [ho] using he), covL_sound hsel hok hP (ih t (by simp [Tr.sz])) l n _ ρ' σ' a' w' hc (hcl.set hr) hR hv'⟩⟩
  | .both t u, n, listed, ρ, σ, a, w, ih, hc, hh, hcl, hr, h, hv => by
    simp only [covH, Bool.and_eq_true] at hc
    simp only [Tr.heads, List.mem_append] at hh
    rcases hh with hh | hh
    · exact covH_sound hi t n listed ρ σ a w (fun v hv' => ih v (by simp only [Tr.sz]; omega)) hc.1 hh hcl hr h hv.1
    · exact covH_sound hi u n listed ρ σ a w (fun v hv' => ih v (by simp only [Tr.sz]; omega)) hc.2 hh hcl hr h hv.2

include hsel hok hP in
theorem cov_sound (hK : ∀ σ' ρ' a' w', Rel A0 N w0 ρ' σ' a' w' → K σ' → Q .normal a' w') : ∀ (t : Tr) (n : Nat) (listed : Array Bool) (ρ : Nat → Option (Nat × Nat)) (σ : St) (a : Act) (w : World),
    cov E ops t n listed = true → Closed ops listed → Rel A0 N w0 ρ σ a w → vtr P E ops K t σ → wpAnyE P E ops Q n listed a w
  | .nil, n, listed, ρ, σ, a, w, hc, _, h, hv => by
    simp only [cov, List.isEmpty_iff] at hc
    exact wpAnyE_done hc (hK _ _ _ _ h hv) n
  | .seq l t, n, listed, ρ, σ, a, w, hc, hcl, h, hv => by
    simp only [cov] at hc
    exact covL_sound hsel hok hP (cov_sound hK t) l n listed ρ σ a w hc hcl h hv
  | .both t u, n, listed, ρ, σ, a, w, hc, hcl, h, hv => by
    simp only [cov, Bool.and_eq_true] at hc
    obtain ⟨⟨⟨hall, hne⟩, ht⟩, hu⟩ := hc
    have key : ∀ i ∈ Region.ready .any ops listed, ∃ m, n = m + 1 ∧ wpOp P ops Q i (fun a' w' => ((match ops[i]? with | some o => effOp E o | none => false) = false → Ext w w') ∧ wpAnyE P E ops Q m (listed.setIfInBounds i true) a' w') a w := by
      intro i hi
      have hh := List.all_eq_true.1 hall i hi
      simp only [List.contains_eq_mem, List.mem_append, decide_eq_true_eq] at hh
      rcases hh with hh | hh
      · exact covH_sound hsel hok hP (ready_op hi) t n listed ρ σ a w (fun v hv' => cov_sound hK v) ht hh hcl hi h hv.1
      · exact covH_sound hsel hok hP (ready_op hi) u n listed ρ σ a w (fun v hv' => cov_sound hK v) hu hh hcl hi h hv.2
    cases n with
    | zero =>
      cases hr : Region.ready .any ops listed with
      | nil => simp [hr] at hne
      | cons i r => obtain ⟨m, hm, _⟩ := key i (by rw [hr]; simp); cases hm
    | succ n =>
      refine ⟨fun h0 => by simp [h0] at hne, fun i hi => ?_⟩
      obtain ⟨m, hm, hw⟩ := key i hi
      cases hm
      exact hw
  termination_by t => t.sz
  decreasing_by all_goals (simp only [Tr.sz] at *; omega)
end

theorem draw_sound {id : Nat} {ops : Array Oper} {t : Tr} {K : St → Prop} {Q : Exit → Act → World → Prop} (hm : P.follows .mixedOrders = true) (hc : coverOk E ops t = true) (hok : ∀ o ∈ ops, okOper N o = true)
    (hQ : ∀ σ' ρ' a' w', Rel A0 N w0 ρ' σ' a' w' → K σ' → Q .normal a' w') (h : Rel A0 N w0 ρ σ a w) (hv : vtr P E ops K t σ) : (Code.region id ops true).wp P Q a w := by
  simp only [coverOk, Bool.and_eq_true] at hc
  have h' : Rel A0 N w0 ρ σ a { w with drawn := w.drawn + 1 } := by
    have := h.world (w' := w.drew) (h.below.trans (.of (Below.refl _ _).drew)) (fun _ _ => rfl) (Nat.le_refl _) (hs' := σ.hs) h.hs (Nat.le_refl _)
    exact this
  refine wp_mono (Q := fun e a w => match e with | .normal => Q .normal a w | _ => False) (wp_region_any hm (wpAny_of_E (E := E) _ _ _ _ ?_)) (fun e a w he => by cases e <;> first | exact he | exact he.elim)
  refine cov_sound (E := E) (K := K) (Q := fun e a w => match e with | .normal => Q .normal a w | _ => False) hc.1 hok (fun c a w he => he) (fun σ' ρ' a' w' hR hK => hQ σ' ρ' a' w' hR hK) t _ _ ρ σ a _ hc.2 (fun k o hk => ?_) h' hv
  rw [Array.getD_eq_getD_getElem?, Array.getElem?_replicate] at hk
  split at hk <;> simp at hk

/-- what is asked of a function's text alone -/
def okCode (E : FuncId → Bool) (N : Nat) (sch : Nat → Tr) : Code → Bool
  | .region id ops dr => ops.all (okOper N) && (!dr || coverOk E ops (sch id))
  | .seq a b | .cond _ a b => okCode E N sch a && okCode E N sch b
  | .block _ c | .loop c => okCode E N sch c
  | .skip | .exit _ | .ret => true
  | _ => false

def exitOf (Q : Exit → St → Prop) (A0 : Env) (N : Nat) (w0 : World) : Exit → Act → World → Prop := fun e a w => ∃ σ ρ, Rel A0 N w0 ρ σ a w ∧ Q e σ

theorem vwp_sound (hm : P.follows .mixedOrders = true) (sch : Nat → Tr) : ∀ (c : Code) (Q : Exit → St → Prop) (ρ : Nat → Option (Nat × Nat)) (σ : St) (a : Act) (w : World), okCode E N sch c = true → Rel A0 N w0 ρ σ a w → vwp P E sch c Q σ →
    c.wp P (exitOf Q A0 N w0) a w
  | .skip, Q, ρ, σ, a, w, _, h, hv => wp_skip ⟨σ, ρ, h, hv⟩
  | .region id ops dr, Q, ρ, σ, a, w, hok, h, hv => by
    simp only [okCode, Bool.and_eq_true, Bool.or_eq_true, Bool.not_eq_true'] at hok
    have hall : ∀ o ∈ ops, okOper N o = true := fun o ho => Array.all_eq_true_iff_forall_mem.1 hok.1 o ho
    cases dr with
    | true =>
      exact draw_sound hm (hok.2.resolve_left (by simp)) hall (fun σ' ρ' a' w' hR hK => ⟨σ', ρ', hR, hK⟩) h hv
    | false =>
      refine wp_region_list ?_
      exact vops_sound (K := Q .normal) (fun σ' ρ' a' w' hR hK => ⟨σ', ρ', hR, hK⟩) ops.toList ρ σ a w (fun o ho => hall o (by simpa using ho)) h hv
  | .seq x y, Q, ρ, σ, a, w, hok, h, hv => by
    simp only [okCode, Bool.and_eq_true] at hok
    refine wp_seq (wp_mono (vwp_sound hm sch x _ ρ σ a w hok.1 h hv) fun e a' w' he => ?_)
    obtain ⟨σ', ρ', hR, hK⟩ := he
    cases e with
    | normal => exact vwp_sound hm sch y Q ρ' σ' a' w' hok.2 hR hK
    | _ => exact ⟨σ', ρ', hR, hK⟩
  | .cond c x y, Q, ρ, σ, a, w, hok, h, hv => by
    simp only [okCode, Bool.and_eq_true] at hok
    obtain ⟨hb, h1, h2⟩ := hv
    have hc := VR_bool (h.ev c) hb
    refine wp_cond_split hc (fun ht => vwp_sound hm sch x Q ρ σ a w hok.1 h (h1 ht)) (fun hf => vwp_sound hm sch y Q ρ σ a w hok.2 h (h2 hf))
  | .block id c, Q, ρ, σ, a, w, hok, h, hv => by
    refine wp_block (wp_mono (vwp_sound hm sch c _ ρ σ a w hok h hv) fun e a' w' he => ?_)
    obtain ⟨σ', ρ', hR, hK⟩ := he
    cases e with
    | exit id' =>
      simp only [inBlockV] at hK
      simp only [Exit.inBlock]
      split
      · rename_i hid; rw [if_pos hid] at hK; exact ⟨σ', ρ', hR, hK⟩
      · rename_i hid; rw [if_neg hid] at hK; exact ⟨σ', ρ', hR, hK⟩
    | _ => exact ⟨σ', ρ', hR, hK⟩
  | .loop c, Q, ρ, σ, a, w, hok, h, hv => by
    obtain ⟨I, h0, hround⟩ := hv
    -- the state is chosen anew at every round's head
    let Pn : Act → World → Nat → Prop := fun a w n => ∃ σ ρ, Rel A0 N w0 ρ σ a w ∧ I n σ
    have hmin : ∀ a w, ∃ m, (∃ n, Pn a w n) → Pn a w m ∧ ∀ k, Pn a w k → m ≤ k := by
      intro a w
      by_cases hex : ∃ n, Pn a w n
      · obtain ⟨n, hn⟩ := hex
        have : ∀ n, Pn a w n → ∃ m, Pn a w m ∧ ∀ k, Pn a w k → m ≤ k := by
          intro n
          induction n using Nat.strongRecOn with
          | _ n ih =>
            intro hn
            by_cases hlt : ∃ k, k < n ∧ Pn a w k
            · obtain ⟨k, hk, hp⟩ := hlt; exact ih k hk hp
            · exact ⟨n, hn, fun k hk => Classical.byContradiction fun hc => hlt ⟨k, by omega, hk⟩⟩
        obtain ⟨m, hm⟩ := this n hn
        exact ⟨m, fun _ => hm⟩
      · exact ⟨0, fun h => absurd h hex⟩
    let mu : Act → World → Nat := fun a w => Classical.choose (hmin a w)
    have hmu : ∀ a w, (∃ n, Pn a w n) → Pn a w (mu a w) ∧ ∀ k, Pn a w k → mu a w ≤ k := fun a w => Classical.choose_spec (hmin a w)
    obtain ⟨σ', ρ', hR, n0, hI⟩ := h0 _ _ _ _ _ _ h
    refine wp_loop (fun a w => ∃ n, Pn a w n) mu ⟨n0, σ', ρ', hR, hI⟩ fun a w hI => ?_
    obtain ⟨⟨σ1, ρ1, hR1, hI1⟩, _⟩ := hmu a w hI
    refine wp_mono (vwp_sound hm sch c _ ρ1 σ1 a w hok hR1 (hround _ σ1 hI1)) fun e a' w' he => ?_
    obtain ⟨σ2, ρ2, hR2, hK⟩ := he
    cases e with
    | normal =>
      obtain ⟨σ3, ρ3, hR3, k, hlt, hI3⟩ := hK _ _ _ _ _ _ hR2
      have hp : Pn a' w' k := ⟨σ3, ρ3, hR3, hI3⟩
      exact ⟨⟨_, hp⟩, Nat.lt_of_le_of_lt ((hmu a' w' ⟨_, hp⟩).2 _ hp) hlt⟩
    | _ => exact ⟨σ2, ρ2, hR2, hK⟩
  | .exit id, Q, ρ, σ, a, w, _, h, hv => wp_exit ⟨σ, ρ, h, hv⟩
  | .ret, Q, ρ, σ, a, w, _, h, hv => wp_ret ⟨σ, ρ, h, hv⟩
  | .rangeFunc .., _, _, _, _, _, hok, _, _ => by simp [okCode] at hok
  | .scope _, _, _, _, _, _, hok, _, _ => by simp [okCode] at hok
  | .label _, _, _, _, _, _, hok, _, _ => by simp [okCode] at hok
  | .goto _, _, _, _, _, _, hok, _, _ => by simp [okCode] at hok
  | .refuse _, _, _, _, _, _, hok, _, _ => by simp [okCode] at hok
end
end Go.Vs
