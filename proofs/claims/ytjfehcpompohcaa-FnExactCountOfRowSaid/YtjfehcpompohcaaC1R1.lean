/-
  C1R1: a part of a proof of this seat: the value-level semantics of Go code without maps, its walk rules, the frame of a row, facts of types, schedules, walks, plain lemmas (Vt7 Vr1 Vr2). It holds of every program and state that its hypotheses name.
-/
import Derived.Test.YtjfehcpompohcaaA3
import Derived.WalkKit
import Derived.ProofKit
import Derived.OpenShut
import Derived.JoinedCond
import Derived.Carry
import Derived.HandedShaped
set_option linter.unusedSimpArgs false
set_option linter.unusedVariables false
set_option linter.unnecessarySimpa false
namespace Go.Vs
open Go.RowKit
/-! ### what is known by its elements has blocks too -/
mutual
/-- all of it is known by elements only -/
def D.pn : D → Bool
  | .sl .. => false
  | .pl es => pnLL es
  | _ => true
def pnL : List D → Bool
  | [] => true
  | x :: r => x.pn && pnL r
def pnLL : List (List D) → Bool
  | [] => true
  | x :: r => pnL x && pnLL r
end
mutual
def V.pn : V → Bool
  | .d x => x.pn
  | .agg cs => pnVL cs
  | .tup cs => pnVL cs
  | _ => false
def pnVL : List V → Bool
  | [] => true
  | x :: r => x.pn && pnVL r
end
theorem pnL_at {l : List D} (h : pnL l = true) {i : Nat} {x : D} (hx : l[i]? = some x) : x.pn = true := by
  induction l generalizing i with
  | nil => simp at hx
  | cons y r ih =>
    simp only [pnL, Bool.and_eq_true] at h
    cases i with
    | zero => simp at hx; rw [← hx]; exact h.1
    | succ i => exact ih h.2 (by simpa using hx)
theorem pnLL_at {l : List (List D)} (h : pnLL l = true) {i : Nat} {x : List D} (hx : l[i]? = some x) : pnL x = true := by
  induction l generalizing i with
  | nil => simp at hx
  | cons y r ih =>
    simp only [pnLL, Bool.and_eq_true] at h
    cases i with
    | zero => simp at hx; rw [← hx]; exact h.1
    | succ i => exact ih h.2 (by simpa using hx)
theorem tk_hp {x : D} (h : x.tk = true) : x.hp = false := by
  cases x with
  | pl => cases h
  | _ => rfl
/-- a list of rows whose elements are chosen one by one -/
theorem pick_rows {Q : D → D → Nat → Nat → Prop} : ∀ (es : List (List D)) (k : Nat), (∀ (i : Nat) (e : List D), es[i]? = some e → ∀ (j : Nat) (u : D), e[j]? = some u → ∃ y, y.er = u ∧ y.tk = true ∧ Q u y (k + i) j) →
    ∃ es' : List (List D), erLL es' = es ∧ tkLL es' = true ∧ ∀ (i : Nat) (e : List D), es'[i]? = some e → ∃ e0, es[i]? = some e0 ∧ e.length = e0.length ∧ ∀ (j : Nat) (y : D), e[j]? = some y → ∃ u, e0[j]? = some u ∧ Q u y (k + i) j
  | [], k, _ => ⟨[], rfl, rfl, by simp⟩
  | e :: r, k, h => by
    have row : ∀ (e : List D) (q : Nat), (∀ (j : Nat) (u : D), e[j]? = some u → ∃ y, y.er = u ∧ y.tk = true ∧ Q u y k (q + j)) →
        ∃ e' : List D, erL e' = e ∧ tkL e' = true ∧ ∀ (j : Nat) (y : D), e'[j]? = some y → ∃ u, e[j]? = some u ∧ Q u y k (q + j) := by
      intro e
      induction e with
      | nil => intro q _; exact ⟨[], rfl, rfl, by simp⟩
      | cons x s ih =>
        intro q hx
        obtain ⟨y, h1, h2, h3⟩ := hx 0 x rfl
        obtain ⟨s', h4, h5, h6⟩ := ih (q + 1) fun j u hu => by
          have := hx (j + 1) u (by simpa using hu)
          rwa [show q + (j + 1) = q + 1 + j by omega] at this
        refine ⟨y :: s', by simp only [erL, h1, h4], by simp only [tkL, h2, h5, Bool.and_self], fun j z hz => ?_⟩
        cases j with
        | zero => simp at hz; subst hz; exact ⟨x, rfl, h3⟩
        | succ j =>
          obtain ⟨u, hu, hq⟩ := h6 j z (by simpa using hz)
          exact ⟨u, by simpa using hu, by rwa [show q + (j + 1) = q + 1 + j by omega]⟩
    obtain ⟨e', h1, h2, h3⟩ := row e 0 fun j u hu => by simpa using h 0 e rfl j u hu
    obtain ⟨r', h4, h5, h6⟩ := pick_rows (Q := Q) r (k + 1) fun i e he j u hu => by
      have := h (i + 1) e (by simpa using he) j u hu
      rwa [show k + (i + 1) = k + 1 + i by omega] at this
    refine ⟨e' :: r', by simp only [erLL, h1, h4], by simp only [tkLL, h2, h5, Bool.and_self], fun i f hf => ?_⟩
    cases i with
    | zero =>
      simp at hf; subst hf
      exact ⟨e, rfl, by rw [← h1, erL_len], fun j y hy => by simpa using h3 j y hy⟩
    | succ i =>
      obtain ⟨e0, h7, h8, h9⟩ := h6 i f (by simpa using hf)
      exact ⟨e0, by simpa using h7, h8, fun j y hy => by
        obtain ⟨u, hu, hq⟩ := h9 j y hy
        exact ⟨u, hu, by rwa [show k + (i + 1) = k + 1 + i by omega]⟩⟩

theorem DR.track {S : Nat → Prop} {w : World} {x : D} {v : Value} (h : DR S w x v) : x.pn = true → ∃ y, DR S w y v ∧ y.er = x ∧ y.tk = true := by
  induction h with
  | bool b => intro _; exact ⟨_, .bool b, rfl, rfl⟩
  | int k n => intro _; exact ⟨_, .int k n, rfl, rfl⟩
  | str s => intro _; exact ⟨_, .str s, rfl, rfl⟩
  | nil T => intro h; cases h
  | emp t a => intro h; cases h
  | sl => intro h; cases h
  | pl es a cap sz vs hg hn hcap hm hsz hc hd ih =>
    intro hp
    simp only [D.pn] at hp
    by_cases h0 : 0 < cap
    · obtain ⟨p, rfl⟩ := Option.ne_none_iff_exists'.1 (hn h0)
      obtain ⟨es', h1, h2, h3⟩ := pick_rows (Q := fun u y i j => DR S w y (vs (i * sz + j))) es 0 fun i e he j u hu => by
        obtain ⟨y, h4, h5, h6⟩ := ih i e he j u hu (pnL_at (pnLL_at hp he) hu)
        exact ⟨y, h5, h6, by simpa using h4⟩
      have hl : es'.length = es.length := by rw [← h1, erLL_len]
      refine ⟨.sl (some p.block) none es', ?_, by simp only [D.er, h1], by simp only [D.tk, h2]⟩
      rw [← hl]
      refine .sl p.block none es' p cap sz vs (hg p rfl h0) (fun _ => rfl) (by omega) hm (fun i e he => ?_) (fun i e he j u hu => ?_) (fun i e he j u hu => ?_) (by simp) ?_
      · obtain ⟨e0, h4, h5, _⟩ := h3 i e he
        rw [h5]; exact hsz i e0 h4
      · obtain ⟨e0, h4, h5, h6⟩ := h3 i e he
        obtain ⟨u0, h7, h8⟩ := h6 j u hu
        exact hc p rfl i e0 h4 j u0 h7
      · obtain ⟨e0, h4, h5, h6⟩ := h3 i e he
        obtain ⟨u0, h7, h8⟩ := h6 j u hu
        simpa using h8
      · simp only [hpLL, hpL, List.any_eq_false, List.mem_iff_getElem?, Bool.not_eq_true]
        rintro e ⟨i, hi⟩ u ⟨j, hj⟩
        have h4 := tkLL_at h2 hi
        have : ∀ (l : List D), tkL l = true → ∀ (j : Nat) (u : D), l[j]? = some u → u.tk = true := by
          intro l
          induction l with
          | nil => simp
          | cons a r ih =>
            intro ht j u hu
            simp only [tkL, Bool.and_eq_true] at ht
            cases j with
            | zero => simp at hu; rw [← hu]; exact ht.1
            | succ j => exact ih ht.2 j u (by simpa using hu)
        exact tk_hp (this e h4 j u hj)
    · have hc0 : cap = 0 := by omega
      subst hc0
      have he : es = [] := List.eq_nil_of_length_eq_zero (by omega)
      subst he
      exact ⟨.sl none (some (0, 0)) [], .emp _ a, rfl, rfl⟩

mutual
theorem VR.track {S : Nat → Prop} {w : World} : ∀ (x : V) (v : Value), x.pn = true → VR (fun _ => none) (fun _ => none) S w x v →
    ∃ y, VR (fun _ => none) (fun _ => none) S w y v ∧ rp (fun _ => none) y = some x ∧ y.tk = true ∧ rd (fun _ => none) (fun _ => none) y = some y
  | .d x, v, hp, h => by
    simp only [VR] at h
    obtain ⟨y, h1, h2, h3⟩ := h.track (by simpa [V.pn] using hp)
    exact ⟨.d y, by simpa only [VR] using h1, by simp only [rp, h2], by simpa only [V.tk] using h3, rfl⟩
  | .own _ _ _, _, hp, _ => by simp [V.pn] at hp
  | .ptr _ _ _, _, hp, _ => by simp [V.pn] at hp
  | .fptr _ _ _, _, hp, _ => by simp [V.pn] at hp
  | .bad, _, hp, _ => by simp [V.pn] at hp
  | .agg cs, v, hp, h => by
    simp only [VR] at h
    obtain ⟨l, h1, h2⟩ := h
    obtain ⟨ys, h3, h4, h5, h6⟩ := LR.track cs l (by simpa [V.pn] using hp) h2
    exact ⟨.agg ys, by simp only [VR]; exact ⟨l, h1, h3⟩, by simp only [rp, h4, Option.map_some], by simpa only [V.tk] using h5, by simp only [rd, h6, Option.map_some]⟩
  | .tup cs, v, hp, h => by
    simp only [VR] at h
    obtain ⟨l, h1, h2⟩ := h
    obtain ⟨ys, h3, h4, h5, h6⟩ := LR.track cs l (by simpa [V.pn] using hp) h2
    exact ⟨.tup ys, by simp only [VR]; exact ⟨l, h1, h3⟩, by simp only [rp, h4, Option.map_some], by simpa only [V.tk] using h5, by simp only [rd, h6, Option.map_some]⟩
theorem LR.track {S : Nat → Prop} {w : World} : ∀ (x : List V) (v : List Value), pnVL x = true → LR (fun _ => none) (fun _ => none) S w x v →
    ∃ y, LR (fun _ => none) (fun _ => none) S w y v ∧ rpL (fun _ => none) y = some x ∧ tkVL y = true ∧ rdL (fun _ => none) (fun _ => none) y = some y
  | [], [], _, _ => ⟨[], by simp [LR], rfl, rfl, rfl⟩
  | [], _ :: _, _, h => by simp [LR] at h
  | _ :: _, [], _, h => by simp [LR] at h
  | c :: cs, v :: l, hp, h => by
    simp only [LR] at h
    simp only [pnVL, Bool.and_eq_true] at hp
    obtain ⟨y, h1, h2, h3, h4⟩ := VR.track c v hp.1 h.1
    obtain ⟨ys, h5, h6, h7, h8⟩ := LR.track cs l hp.2 h.2
    exact ⟨y :: ys, by simp only [LR]; exact ⟨h1, h5⟩, by simp only [rpL, h2, h6], by simp only [tkVL, h3, h7, Bool.and_self], by simp only [rdL, h4, h8]⟩
end

mutual
theorem VR.er {S : Nat → Prop} {w : World} : ∀ (v : V) (val : Value) (r : V), VR (fun _ => none) (fun _ => none) S w v val → rp (fun _ => none) v = some r → VR (fun _ => none) (fun _ => none) S w r val
  | .d x, val, r, hv, hr => by
    simp only [rp, Option.some.injEq] at hr
    subst hr
    simp only [VR] at hv ⊢
    exact hv.er
  | .own k lo n, val, r, hv, hr => by simp [rp] at hr
  | .ptr _ _ _, _, _, _, hr => by simp [rp] at hr
  | .fptr _ _ _, _, _, _, hr => by simp [rp] at hr
  | .bad, _, _, _, hr => by simp [rp] at hr
  | .agg cs, val, r, hv, hr => by
    simp only [rp] at hr
    cases hl : rpL (fun _ => none) cs with
    | none => simp [hl] at hr
    | some rs =>
      simp only [hl, Option.map_some, Option.some.injEq] at hr
      subst hr
      simp only [VR] at hv ⊢
      obtain ⟨l, h1, h2⟩ := hv
      exact ⟨l, h1, LR.er cs l rs h2 hl⟩
  | .tup cs, val, r, hv, hr => by
    simp only [rp] at hr
    cases hl : rpL (fun _ => none) cs with
    | none => simp [hl] at hr
    | some rs =>
      simp only [hl, Option.map_some, Option.some.injEq] at hr
      subst hr
      simp only [VR] at hv ⊢
      obtain ⟨l, h1, h2⟩ := hv
      exact ⟨l, h1, LR.er cs l rs h2 hl⟩
theorem LR.er {S : Nat → Prop} {w : World} : ∀ (l : List V) (vals : List Value) (rs : List V), LR (fun _ => none) (fun _ => none) S w l vals → rpL (fun _ => none) l = some rs → LR (fun _ => none) (fun _ => none) S w rs vals
  | [], [], rs, _, hr => by simp [rpL] at hr; subst hr; simp [LR]
  | [], _ :: _, _, hl, _ => by simp [LR] at hl
  | _ :: _, [], _, hl, _ => by simp [LR] at hl
  | c :: cs, v :: l, rs, hl, hr => by
    simp only [LR] at hl
    simp only [rpL] at hr
    cases h1 : rp (fun _ => none) c with
    | none => simp [h1] at hr
    | some x =>
      cases h2 : rpL (fun _ => none) cs with
      | none => simp [h1, h2] at hr
      | some r =>
        simp only [h1, h2, Option.some.injEq] at hr
        subst hr
        simp only [LR]
        exact ⟨VR.er c v x hl.1 h1, LR.er cs l r hl.2 h2⟩
end


/-- a contract on what is known by elements, as one on what has blocks -/
theorem VC.track {P : Program} {f : FuncId} {As Ps : List V} {v : V} (h : VC P f Ps (fun _ r => r = v)) (hp : rpL (fun _ => none) As = some Ps) (hv : v.pn = true) :
    VC P f As (fun _ r => rp (fun _ => none) r = some v ∧ r.tk = true) := by
  refine ⟨h.1, fun w vals A hLR => ?_⟩
  refine (h.2 w vals A (LR.er _ _ _ hLR hp)).mono fun e w' he => ?_
  obtain ⟨v', r, rfl, hb, hvr, _, rfl⟩ := he
  obtain ⟨y, h1, h2, h3, h4⟩ := VR.track _ _ hv hvr
  exact ⟨v', y, rfl, hb, h1, h4, h2, h3⟩

/-! ### typed -/
/-- cells that read as the plain value p are the cells of a typed value -/
def Tk {α β : Type} (c : α → List D) (e : β → List D) (pl : α → β) : Prop := ∀ (l : List D) (p : β), tkL l = true → erL l = e p → ∃ a, l = c a ∧ pl a = p
theorem Tk.mapS {α β : Type} {c : α → List D} {e : β → List D} {pl : α → β} (h : Tk c e pl) : ∀ (es : List (List D)) (ps : List β), tkLL es = true → erLL es = ps.map e → ∃ xs : List α, es = xs.map c ∧ xs.map pl = ps
  | [], [], _, _ => ⟨[], rfl, rfl⟩
  | [], _ :: _, _, h => by simp [erLL] at h
  | _ :: _, [], _, h => by simp [erLL] at h
  | x :: r, p :: ps, ht, he => by
    simp only [tkLL, Bool.and_eq_true] at ht
    simp only [erLL, List.map_cons, List.cons.injEq] at he
    obtain ⟨a, h1, h2⟩ := h x p ht.1 he.1
    obtain ⟨xs, h3, h4⟩ := Tk.mapS h r ps ht.2 he.2
    exact ⟨a :: xs, by rw [h1, h3]; rfl, by rw [List.map_cons, h2, h4]⟩
theorem tk_S {α β : Type} {c : α → List D} {e : β → List D} {pl : α → β} (h : Tk c e pl) : Tk (cS c) (cP e) (plS pl) := by
  intro l ps ht he
  simp only [cP, pS] at he
  match l, ht, he with
  | [], _, he => simp [erL] at he
  | x :: y :: r, _, he => simp [erL] at he
  | [x], ht, he =>
    simp only [erL, List.cons.injEq, and_true] at he
    simp only [tkL, Bool.and_true] at ht
    cases x with
    | sl id T es =>
      simp only [D.er, D.pl.injEq] at he
      simp only [D.tk] at ht
      obtain ⟨xs, h1, h2⟩ := h.mapS es ps ht he
      exact ⟨⟨id, T, xs⟩, by simp only [cS, dSl, h1], h2⟩
    | pl es => cases ht
    | _ => simp [D.er] at he
theorem tk_I : Tk cI cI plI := by
  intro l p ht he
  match l, ht, he with
  | [], _, he => simp [erL] at he
  | x :: y :: r, _, he => simp [erL] at he
  | [x], ht, he =>
    simp only [erL, cI, List.cons.injEq, and_true] at he
    refine ⟨p, ?_, rfl⟩
    cases x <;> simp [D.er] at he
    simp [he]
theorem tk_Str : Tk cStr cStr plStr := by
  intro l p ht he
  match l, ht, he with
  | [], _, he => simp [erL] at he
  | x :: y :: r, _, he => simp [erL] at he
  | [x], ht, he =>
    simp only [erL, cStr, List.cons.injEq, and_true] at he
    refine ⟨p, ?_, rfl⟩
    cases x <;> simp [D.er] at he
    simp [he]
theorem erL_split : ∀ (l a b : List D), erL l = a ++ b → ∃ l1 l2, l = l1 ++ l2 ∧ erL l1 = a ∧ erL l2 = b
  | l, [], b, h => ⟨[], l, rfl, rfl, by simpa using h⟩
  | [], x :: a, b, h => by simp [erL] at h
  | y :: l, x :: a, b, h => by
    simp only [erL, List.cons_append, List.cons.injEq] at h
    obtain ⟨l1, l2, h1, h2, h3⟩ := erL_split l a b h.2
    exact ⟨y :: l1, l2, by rw [h1]; rfl, by simp only [erL, h.1, h2], h3⟩
theorem tk_app {α β γ δ : Type} {c1 : α → List D} {e1 : β → List D} {p1 : α → β} {c2 : γ → List D} {e2 : δ → List D} {p2 : γ → δ} (h1 : Tk c1 e1 p1) (h2 : Tk c2 e2 p2) :
    Tk (fun x : α × γ => c1 x.1 ++ c2 x.2) (fun x : β × δ => e1 x.1 ++ e2 x.2) (fun x => (p1 x.1, p2 x.2)) := by
  intro l p ht he
  obtain ⟨l1, l2, rfl, h3, h4⟩ := erL_split l _ _ he
  simp only [tkL_app, Bool.and_eq_true] at ht
  obtain ⟨a, rfl, h5⟩ := h1 l1 p.1 ht.1 h3
  obtain ⟨b, rfl, h6⟩ := h2 l2 p.2 ht.2 h4
  exact ⟨(a, b), rfl, Prod.ext h5 h6⟩
theorem Tk.map {α β α' β' : Type} {c : α → List D} {e : β → List D} {p : α → β} {c' : α' → List D} {e' : β' → List D} {p' : α' → β'} (h : Tk c e p) (f : α → α') (g : β' → β) (hc : ∀ a, c' (f a) = c a) (he : ∀ b, e' b = e (g b)) (hp : ∀ a b, p a = g b → p' (f a) = b) : Tk c' e' p' := by
  intro l b ht hl
  rw [he] at hl
  obtain ⟨a, h1, h2⟩ := h l (g b) ht hl
  exact ⟨f a, by rw [hc, h1], hp a b h2⟩
/-- a struct's value -/
theorem rp_agg {α β : Type} {c : α → List D} {e : β → List D} {pl : α → β} (h : Tk c e pl) {r : V} {p : β} (hr : rp (fun _ => none) r = some (.agg ((e p).map .d))) (ht : r.tk = true) : ∃ a, r = .agg ((c a).map .d) ∧ pl a = p := by
  have key : ∀ (cs : List V) (l : List D), rpL (fun _ => none) cs = some (l.map .d) → ∃ l', cs = l'.map .d ∧ erL l' = l := by
    intro cs
    induction cs with
    | nil => intro l h; simp only [rpL, Option.some.injEq] at h; cases l with | nil => exact ⟨[], rfl, rfl⟩ | cons => simp at h
    | cons x s ih =>
      intro l h
      simp only [rpL] at h
      cases hx : rp (fun _ => none) x with
      | none => simp [hx] at h
      | some y =>
        cases hs : rpL (fun _ => none) s with
        | none => simp [hx, hs] at h
        | some ys =>
          simp only [hx, hs, Option.some.injEq] at h
          cases l with
          | nil => simp at h
          | cons d l =>
            simp only [List.map_cons, List.cons.injEq] at h
            obtain ⟨rfl, rfl⟩ := h
            obtain ⟨l', h1, h2⟩ := ih l hs
            cases x with
            | d z =>
              simp only [rp, Option.some.injEq, V.d.injEq] at hx
              exact ⟨z :: l', by rw [h1]; rfl, by simp only [erL, hx, h2]⟩
            | own => simp [rp] at hx
            | ptr => simp [rp] at hx
            | fptr => simp [rp] at hx
            | bad => simp [rp] at hx
            | agg zs => simp only [rp] at hx; cases hz : rpL (fun _ => none) zs <;> simp [hz] at hx
            | tup zs => simp only [rp] at hx; cases hz : rpL (fun _ => none) zs <;> simp [hz] at hx
  cases r with
  | agg cs =>
    simp only [rp] at hr
    cases hc : rpL (fun _ => none) cs with
    | none => simp [hc] at hr
    | some l =>
      simp only [hc, Option.map_some, Option.some.injEq, V.agg.injEq] at hr
      subst hr
      obtain ⟨l', rfl, h2⟩ := key cs _ hc
      have : tkL l' = true := by
        simp only [V.tk] at ht
        have : ∀ l : List D, tkVL (l.map V.d) = tkL l := by
          intro l; induction l with
          | nil => rfl
          | cons x r ih => simp only [List.map_cons, tkVL, V.tk, tkL, ih]
        rw [← this]; exact ht
      obtain ⟨a, rfl, h3⟩ := h l' p this h2
      exact ⟨a, rfl, h3⟩
  | d x => simp [rp] at hr
  | own => simp [rp] at hr
  | ptr => simp [rp] at hr
  | fptr => simp [rp] at hr
  | bad => simp [rp] at hr
  | tup cs => simp only [rp] at hr; cases hc : rpL (fun _ => none) cs <;> simp [hc] at hr
theorem rp_sl {α β : Type} {c : α → List D} {e : β → List D} {pl : α → β} (h : Tk c e pl) {r : V} {ps : List β} (hr : rp (fun _ => none) r = some (.d (pS e ps))) (ht : r.tk = true) : ∃ s : Sl α, r = .d (dSl c s) ∧ plS pl s = ps := by
  cases r with
  | d x =>
    simp only [rp, Option.some.injEq, V.d.injEq] at hr
    obtain ⟨s, h1, h2⟩ := tk_S h [x] ps (by simpa only [tkL, Bool.and_true, V.tk] using ht) (by simp only [erL, hr, cP])
    simp only [cS, List.cons.injEq, and_true] at h1
    exact ⟨s, by rw [h1], h2⟩
  | own => simp [rp] at hr
  | ptr => simp [rp] at hr
  | fptr => simp [rp] at hr
  | bad => simp [rp] at hr
  | agg cs => simp only [rp] at hr; cases hc : rpL (fun _ => none) cs <;> simp [hc] at hr
  | tup cs => simp only [rp] at hr; cases hc : rpL (fun _ => none) cs <;> simp [hc] at hr
theorem rp_flat {r : V} {x : D} (hr : rp (fun _ => none) r = some (.d x)) (hx : x.hp = false) : r = .d x := by
  cases r with
  | d y =>
    simp only [rp, Option.some.injEq, V.d.injEq] at hr
    cases y <;> simp only [D.er] at hr <;> subst hr <;> first | rfl | cases hx
  | own => simp [rp] at hr
  | ptr => simp [rp] at hr
  | fptr => simp [rp] at hr
  | bad => simp [rp] at hr
  | agg cs => simp only [rp] at hr; cases hc : rpL (fun _ => none) cs <;> simp [hc] at hr
  | tup cs => simp only [rp] at hr; cases hc : rpL (fun _ => none) cs <;> simp [hc] at hr
theorem rp_tup2 {r a b : V} (hr : rp (fun _ => none) r = some (.tup [a, b])) (ht : r.tk = true) : ∃ x y, r = .tup [x, y] ∧ rp (fun _ => none) x = some a ∧ rp (fun _ => none) y = some b ∧ x.tk = true ∧ y.tk = true := by
  cases r with
  | tup cs =>
    simp only [rp] at hr
    match cs, hr, ht with
    | [], hr, _ => simp [rpL] at hr
    | [x], hr, _ => simp only [rpL] at hr; cases hx : rp (fun _ => none) x <;> simp [hx] at hr
    | [x, y], hr, ht =>
      simp only [rpL] at hr
      cases hx : rp (fun _ => none) x with
      | none => simp [hx] at hr
      | some u =>
        cases hy : rp (fun _ => none) y with
        | none => simp [hx, hy] at hr
        | some v =>
          simp [hx, hy] at hr
          simp only [V.tk, tkVL, Bool.and_true, Bool.and_eq_true] at ht
          exact ⟨x, y, rfl, by rw [hx, hr.1], by rw [hy, hr.2], ht.1, ht.2⟩
    | x :: y :: z :: r, hr, _ =>
      simp only [rpL] at hr
      cases hx : rp (fun _ => none) x <;> cases hy : rp (fun _ => none) y <;> cases hz : rp (fun _ => none) z <;> cases hq : rpL (fun _ => none) r <;> simp [hx, hy, hz, hq] at hr
  | d x => simp [rp] at hr
  | own => simp [rp] at hr
  | ptr => simp [rp] at hr
  | fptr => simp [rp] at hr
  | bad => simp [rp] at hr
  | agg cs => simp only [rp] at hr; cases hc : rpL (fun _ => none) cs <;> simp [hc] at hr
end Go.Vs

namespace Go.Vs
open Go.RowKit Go.ChangeShapes Go.WideShapes

theorem trodAll_below {H : Type} {enc : TypeId × Value → H} {P : Program} (hl : laidOutB P = true) {W W' : World} (hb : Below W.heap.size W W') :
    ∀ {ts : List TypeId} {vs : List Value} {ds : List (DataW H)} {ps : List MemPlace}, (∀ t ∈ ts, P.readableRec t = true ∧ t < P.types.size) →
      DataW.TrodAll enc P W 0 (fun _ => true) true ts vs ds ps → (∀ x ∈ ps, x.block < W.heap.size) → DataW.TrodAll enc P W' 0 (fun b => decide (b < W.heap.size)) true ts vs ds ps
  | [], _, _, _, _, h, _ => by
    obtain ⟨rfl, rfl, rfl⟩ := trodAll_nil h
    exact rfl
  | t :: ts, _, _, _, ht, h, hp => by
    obtain ⟨v, vs1, d, ds1, a, b, rfl, rfl, rfl, h1, h2⟩ := trodAll_cons h
    exact ⟨a, b, Below.trod hl (ht t (by simp)).1 (ht t (by simp)).2 h1 hb (fun x hx => hp x (by simp [hx])), trodAll_below hl hb (fun t h => ht t (by simp [h])) h2 (fun x hx => hp x (by simp [hx])), rfl⟩

theorem trodAll_length {H : Type} {enc : TypeId × Value → H} {P : Program} {W : World} {sp : Nat → Bool} {b : Nat} {hd : Bool} :
    ∀ {ts : List TypeId} {vs : List Value} {ds : List (DataW H)} {ps : List MemPlace}, DataW.TrodAll enc P W b sp hd ts vs ds ps → ds.length = ts.length
  | [], _, _, _, h => by
    obtain ⟨rfl, rfl, rfl⟩ := trodAll_nil h
    rfl
  | t :: ts, _, _, _, h => by
    obtain ⟨v, vs1, d, ds1, a, b, rfl, rfl, rfl, h1, h2⟩ := trodAll_cons h
    simp [trodAll_length h2]

/-- the row of a law: from a contract of the law's function, at what the arguments read as -/
theorem row_of {H : Type} {enc : TypeId × Value → H} {P : Program} {f : FuncId} {fn : Func} {s : ChangeSpec} {W : World} {args : Array Value} {ds gs : List (DataW H)} {before : List MemPlace} {b : TypeId}
    (hl : laidOutB P = true) (hr : ∀ t ∈ fn.params.toList, P.readableRec t = true ∧ t < P.types.size) (hv : s.vars = []) (hfn : ∀ ds : List (DataW H), ds.length = fn.params.toList.length → s.fn H ds = ⟨[.lit (.bool true)], ds, []⟩)
    (hrt : fn.resultTypes = #[b]) (hb : P.underlying b = some .bool)
    (hW : DataW.Whole enc P fn.params.toList s.vars false W args.toList ds gs before) (As : List V) (hLR : LR (fun _ => none) (fun _ => none) (fun g => g < W.heap.size) W As args.toList) (hfz : rdL (fun _ => none) (fun _ => none) As = some As)
    (hVC : VC P f As (fun _ r => r = .d (.bool true))) :
    Calls P f args W fun e W' => ∃ v, e = .returned v ∧ s.post enc P fn false true false false W args v W' := by
  have hW' := hW
  have hlt := hW.lt
  obtain ⟨p, q, hA, hV, rfl, hfr, hnd⟩ := hW
  rw [hv] at hV
  obtain ⟨rfl, rfl⟩ := trodVars_none hV
  have hc := hVC.2 W args.toList (fun _ => True) (LR.mono (fun g hg => ⟨hg, trivial⟩) (fun _ _ => rfl) (fun k => KC.refl k) _ _ hLR)
  rw [show args.toList.toArray = args by simp] at hc
  refine hc.mono ?_
  rintro e W' ⟨v, r, rfl, hbel, hvr, _, rfl⟩
  have : v = .bool true := by
    simp only [VR] at hvr
    cases hvr
    rfl
  subst this
  refine ⟨_, rfl, ds, [], p ++ [], [], p, [], hW', ?_, ?_, ?_, hbel.frame _, fun h => by cases h⟩
  · rw [hfn _ (by simpa using trodAll_length hA), hrt]
    exact trodAll_cons_mk (shut_bool hb _) trodAll_mk0
  · rw [hfn _ (by simpa using trodAll_length hA)]
    simp only [List.append_nil]
    exact trodAll_below hl hbel hr hA (fun x hx => hlt x (by simp [hx]))
  · rw [hfn _ (by simpa using trodAll_length hA), hv]
    exact rfl
/-- as 'row_of', the arguments known by elements only -/
theorem row_ofP {H : Type} {enc : TypeId × Value → H} {P : Program} {f : FuncId} {fn : Func} {s : ChangeSpec} {W : World} {args : Array Value} {ds gs : List (DataW H)} {before : List MemPlace} {b : TypeId}
    (hl : laidOutB P = true) (hr : ∀ t ∈ fn.params.toList, P.readableRec t = true ∧ t < P.types.size) (hv : s.vars = []) (hfn : ∀ ds : List (DataW H), ds.length = fn.params.toList.length → s.fn H ds = ⟨[.lit (.bool true)], ds, []⟩)
    (hrt : fn.resultTypes = #[b]) (hb : P.underlying b = some .bool)
    (hW : DataW.Whole enc P fn.params.toList s.vars false W args.toList ds gs before) (As Bs : List V) (hLR : LR (fun _ => none) (fun _ => none) (fun g => g < W.heap.size) W As args.toList) (hrp : rpL (fun _ => none) As = some Bs)
    (hVC : VC P f Bs (fun _ r => r = .d (.bool true))) :
    Calls P f args W fun e W' => ∃ v, e = .returned v ∧ s.post enc P fn false true false false W args v W' := by
  have hW' := hW
  have hlt := hW.lt
  obtain ⟨p, q, hA, hV, rfl, hfr, hnd⟩ := hW
  rw [hv] at hV
  obtain ⟨rfl, rfl⟩ := trodVars_none hV
  have hc := hVC.2 W args.toList (fun _ => True) (LR.mono (fun g hg => ⟨hg, trivial⟩) (fun _ _ => rfl) (fun k => KC.refl k) _ _ (LR.er _ _ _ hLR hrp))
  rw [show args.toList.toArray = args by simp] at hc
  refine hc.mono ?_
  rintro e W' ⟨v, r, rfl, hbel, hvr, _, rfl⟩
  have : v = .bool true := by
    simp only [VR] at hvr
    cases hvr
    rfl
  subst this
  refine ⟨_, rfl, ds, [], p ++ [], [], p, [], hW', ?_, ?_, ?_, hbel.frame _, fun h => by cases h⟩
  · rw [hfn _ (by simpa using trodAll_length hA), hrt]
    exact trodAll_cons_mk (shut_bool hb _) trodAll_mk0
  · rw [hfn _ (by simpa using trodAll_length hA)]
    simp only [List.append_nil]
    exact trodAll_below hl hbel hr hA (fun x hx => hlt x (by simp [hx]))
  · rw [hfn _ (by simpa using trodAll_length hA), hv]
    exact rfl
end Go.Vs

namespace Go.Vs
open Go.RowKit Go.ChangeShapes Go.WideShapes

/-- cells that hold these data -/
def CR (S : Nat → Prop) (w : World) (ds : List D) (cs : List Value) : Prop := ds.length = cs.length ∧ ∀ (j : Nat) (u : D), ds[j]? = some u → ∃ v, cs[j]? = some v ∧ DR S w u v

/-- what reads at type t reads as the data of some a -/
def Opens (P : Program) (t : TypeId) {α : Type} (c : α → List D) (ok : α → Prop) : Prop :=
  ∀ (H : Type) (enc : TypeId × Value → H) (W : World) (fuel : Nat) (cs : List Value) (x : DataW H × List MemPlace), DataW.trod enc P W 0 (fun _ => true) true fuel t cs = some x → 0 < W.heap.size →
    ∃ a, ok a ∧ CR (fun g => g < W.heap.size) W (c a) cs

theorem CR.one {S : Nat → Prop} {w : World} {u : D} {v : Value} (h : DR S w u v) : CR S w [u] [v] :=
  ⟨rfl, fun j x hx => by
    cases j with
    | zero => simp at hx; subst hx; exact ⟨v, rfl, h⟩
    | succ j => simp at hx⟩

theorem Opens.map {P : Program} {t : TypeId} {α β : Type} {c : α → List D} {ok : α → Prop} {c' : β → List D} {ok' : β → Prop} (h : Opens P t c ok) (g : α → β) (hc : ∀ a, c' (g a) = c a) (hk : ∀ a, ok a → ok' (g a)) : Opens P t c' ok' :=
  fun H enc W fuel cs x hx h0 => let ⟨a, h1, h2⟩ := h H enc W fuel cs x hx h0; ⟨g a, hk a h1, by rw [hc]; exact h2⟩

theorem opens_bool {P : Program} {t : TypeId} (ht : P.underlying t = some .bool) : Opens P t (fun b : Bool => [.bool b]) (fun _ => True) := by
  intro H enc W fuel cs x h h0
  obtain ⟨b, rfl, _⟩ := DataW.trod_bool ht h
  exact ⟨b, trivial, CR.one (DR.bool _)⟩
theorem opens_int {P : Program} {t : TypeId} {k : IntKind} (ht : P.underlying t = some (.int k)) : Opens P t (fun n : Int => [.int k n]) (fun n => (Lit.int k n).wf = true) := by
  intro H enc W fuel cs x h h0
  cases fuel with
  | zero => simp [DataW.trod] at h
  | succ n =>
    unfold DataW.trod at h
    split at h <;> simp_all
    obtain ⟨⟨rfl, hw⟩, rfl⟩ := h
    exact ⟨_, hw, CR.one (DR.int _ _)⟩
theorem opens_str {P : Program} {t : TypeId} (ht : P.underlying t = some .string) : Opens P t (fun s : List UInt8 => [.str s]) (fun s => s.length ≤ maxLen) := by
  intro H enc W fuel cs x h h0
  cases fuel with
  | zero => simp [DataW.trod] at h
  | succ n =>
    unfold DataW.trod at h
    split at h <;> simp_all
    rename_i s _
    refine ⟨s.data.toList, by simpa using h.1, CR.one ?_⟩
    have : s = ⟨s.data.toList.toArray⟩ := by cases s; simp
    rw [this]
    exact DR.str _

theorem cells_get {w : World} {a : Addr} {n : Nat} {cs : List Value} (h : w.cells? 0 a n = some cs) : cs.length = n ∧ ∀ j, j < n → ∃ v, cs[j]? = some v ∧ w.cell? (a.add j) = some v := by
  simp only [World.cells?, Nat.zero_le, if_true] at h
  suffices ∀ (l : List Nat) (cs : List Value), l.mapM (fun i => w.cell? (a.add i)) = some cs → cs.length = l.length ∧ ∀ (j i : Nat), l[j]? = some i → ∃ v, cs[j]? = some v ∧ w.cell? (a.add i) = some v by
    obtain ⟨h1, h2⟩ := this _ _ h
    refine ⟨by simpa using h1, fun j hj => h2 j j (by simp [hj])⟩
  intro l
  induction l with
  | nil => intro cs h; simp at h; subst h; simp
  | cons i l ih =>
    intro cs h
    rw [List.mapM_cons] at h
    cases hf : w.cell? (a.add i) with
    | none => simp [hf] at h
    | some y =>
      cases hm : l.mapM (fun i => w.cell? (a.add i)) with
      | none => simp [hf, hm] at h
      | some zs =>
        simp [hf, hm] at h
        subst h
        obtain ⟨h1, h2⟩ := ih _ hm
        refine ⟨by simp [h1], fun j k hk => ?_⟩
        cases j with
        | zero => simp at hk; subst hk; exact ⟨y, rfl, hf⟩
        | succ j => simp at hk; simpa using h2 j k hk

theorem cell_lt {w : World} {a : Addr} {v : Value} (h : w.cell? a = some v) : a.block < w.heap.size := by
  simp only [World.cell?] at h
  cases hg : w.heap[a.block]? with
  | none => simp [hg] at h
  | some o => exact (Array.getElem?_eq_some_iff.1 hg).1

theorem idx_div {sz i j : Nat} (hs : 0 < sz) (hj : j < sz) : (i * sz + j) / sz = i := by
  rw [Nat.add_comm, Nat.add_mul_div_right _ _ hs, Nat.div_eq_of_lt hj, Nat.zero_add]
theorem idx_mod {sz i j : Nat} (hj : j < sz) : (i * sz + j) % sz = j := by
  rw [Nat.add_comm, Nat.add_mul_mod_self_right, Nat.mod_eq_of_lt hj]
theorem opens_slice {P : Program} {t e : TypeId} {α : Type} [Inhabited α] {c : α → List D} {ok : α → Prop} {sz : Nat} (ht : P.underlying t = some (.slice e)) (hc : P.cellsOf e = sz) (hsz : 0 < sz) (hl : ∀ a, (c a).length = sz) (he : Opens P e c ok) (hnp : ∀ a, hpL (c a) = false := by intro a; first | rfl | simp) :
    Opens P t (fun s : Sl α => [dSl c s]) (fun s => s.T = none ∧ s.xs.length ≤ maxLen ∧ ∀ a ∈ s.xs, ok a) := by
  intro H enc W fuel cs x h h0
  rcases DataW.trod_slice ht h with ⟨rfl, rfl⟩ | ⟨a, len, cap, elems, rest, n, rfl, rfl, rfl, _, hlc, hcm, hel, hat, hre, _⟩
  · exact ⟨⟨none, none, []⟩, by simp, CR.one (DR.nil _)⟩
  · rw [hc] at hat hre
    have hblk : 0 < cap → a.block < W.heap.size := by
      intro hcap
      have key : ∀ (k : Nat) (y : DataW H × List MemPlace), (W.cells? 0 (a.add (k * sz)) sz).bind (DataW.trod enc P W 0 (fun _ => true) true n e) = some y → a.block < W.heap.size := by
        intro k y hy
        cases hcs : W.cells? 0 (a.add (k * sz)) sz with
        | none => simp [hcs] at hy
        | some cs =>
          obtain ⟨v, _, hv⟩ := (cells_get hcs).2 0 hsz
          have := cell_lt hv
          rwa [add_block, add_block] at this
      by_cases hl0 : 0 < len
      · have h1 := hat 0 hl0
        rw [List.getElem?_eq_getElem (by omega)] at h1
        exact key 0 _ h1
      · obtain ⟨hrl, hr⟩ := hre rfl
        have h1 := hr 0 (by omega)
        rw [List.getElem?_eq_getElem (by omega)] at h1
        exact key _ _ h1
    have hex : ∀ i, ∃ (y : α × (Nat → Value)), i < len → ok y.1 ∧ ∀ (j : Nat) (u : D), (c y.1)[j]? = some u → W.cell? (a.add (i * sz + j)) = some (y.2 j) ∧ DR (fun g => g < W.heap.size) W u (y.2 j) := by
      intro i
      by_cases hi : i < len
      · have h1 := hat i hi
        rw [List.getElem?_eq_getElem (by omega)] at h1
        cases hcs : W.cells? 0 (a.add (i * sz)) sz with
        | none => simp [hcs] at h1
        | some cs =>
          simp only [hcs, Option.bind_some] at h1
          obtain ⟨b, hb, hlen, hd⟩ := he H enc W n cs _ h1 h0
          obtain ⟨hcl, hcg⟩ := cells_get hcs
          refine ⟨⟨b, fun j => cs.getD j undef⟩, fun _ => ⟨hb, fun j u hu => ?_⟩⟩
          obtain ⟨v, hv, hdr⟩ := hd j u hu
          have hj : j < sz := by have := (List.getElem?_eq_some_iff.1 hv).1; omega
          obtain ⟨v', hv', hcell⟩ := hcg j hj
          rw [hv] at hv'
          cases hv'
          rw [add_add'] at hcell
          simp only [List.getD_eq_getElem?_getD, hv, Option.getD_some]
          exact ⟨hcell, hdr⟩
      · exact ⟨⟨default, fun _ => undef⟩, fun h => absurd h hi⟩
    obtain ⟨f, hf⟩ := Classical.axiomOfChoice hex
    let xs : List α := (List.range len).map fun i => (f i).1
    have hxl : xs.length = len := by simp [xs]
    have hxg : ∀ (i : Nat) (es : List D), (xs.map c)[i]? = some es → i < len ∧ es = c (f i).1 := by
      intro i es he
      simp only [xs, List.map_map, List.getElem?_map] at he
      cases hr : (List.range len)[i]? with
      | none => simp [hr] at he
      | some k =>
        have hi : i < len := by have := (List.getElem?_eq_some_iff.1 hr).1; simpa using this
        rw [List.getElem?_range hi] at hr
        cases hr
        simp [List.getElem?_range hi] at he
        exact ⟨hi, he.symm⟩
    refine ⟨⟨some (if 0 < cap then a.block else 0), none, xs⟩, ⟨rfl, by simp only [hxl]; omega, ?_⟩, CR.one ?_⟩
    · intro b hb
      simp only [xs, List.mem_map, List.mem_range] at hb
      obtain ⟨i, hi, rfl⟩ := hb
      exact (hf i hi).1
    · have hlen : (xs.map c).length = len := by simp [hxl]
      have hSg : (if 0 < cap then a.block else 0) < W.heap.size := by
        by_cases h1 : 0 < cap
        · rw [if_pos h1]; exact hblk h1
        · rw [if_neg h1]; exact h0
      have := DR.sl (S := fun g => g < W.heap.size) (w := W) (if 0 < cap then a.block else 0) none (xs.map c) a cap sz (fun n => (f (n / sz)).2 (n % sz)) hSg (fun h1 => by rw [if_pos h1]) (by rw [hlen]; exact hlc) hcm
        (fun i es he => by obtain ⟨_, rfl⟩ := hxg i es he; exact hl _)
        (fun i es he j u hu => by
          obtain ⟨hi, rfl⟩ := hxg i es he
          have hj : j < sz := by have := (List.getElem?_eq_some_iff.1 hu).1; rwa [hl] at this
          obtain ⟨h1, h2⟩ := (hf i hi).2 j u hu
          rw [idx_div hsz hj, idx_mod hj]; exact h1)
        (fun i es he j u hu => by
          obtain ⟨hi, rfl⟩ := hxg i es he
          have hj : j < sz := by have := (List.getElem?_eq_some_iff.1 hu).1; rwa [hl] at this
          obtain ⟨h1, h2⟩ := (hf i hi).2 j u hu
          rw [idx_div hsz hj, idx_mod hj]; exact h2)
        (fun t ht => by cases ht) (hpLL_map hnp _)
      rw [hlen] at this
      exact this
/-- the fields of a struct, from a place on -/
def OpensF (P : Program) (fs : List (Nat × TypeId)) (off : Nat) {α : Type} (c : α → List D) (ok : α → Prop) (n : Nat) : Prop :=
  (∀ a, (c a).length = n) ∧ ∀ (H : Type) (enc : TypeId × Value → H) (W : World) (fuel : Nat) (cs : List Value), cs.length = off + n → 0 < W.heap.size →
    (∀ f ∈ fs, ∃ x, DataW.trod enc P W 0 (fun _ => true) true fuel f.2 ((cs.drop f.1).take (P.cellsOf f.2)) = some x) → ∃ a, ok a ∧ CR (fun g => g < W.heap.size) W (c a) (cs.drop off)

theorem opensF_nil {P : Program} (off : Nat) : OpensF P [] off (fun _ : Unit => []) (fun _ => True) 0 :=
  ⟨fun _ => rfl, fun H enc W fuel cs hl h0 _ => ⟨(), trivial, by simp [hl], by simp⟩⟩

theorem CR.append {S : Nat → Prop} {w : World} {ds ds' : List D} {cs cs' : List Value} (h : CR S w ds cs) (h' : CR S w ds' cs') : CR S w (ds ++ ds') (cs ++ cs') := by
  refine ⟨by simp [h.1, h'.1], fun j u hu => ?_⟩
  rw [List.getElem?_append] at hu ⊢
  rw [← h.1]
  split at hu
  · rename_i hj; rw [if_pos hj]; exact h.2 j u hu
  · rename_i hj; rw [if_neg hj]; exact h'.2 _ u hu

theorem opensF_cons {P : Program} {t : TypeId} {fs : List (Nat × TypeId)} {off k n : Nat} {α β : Type} {c : α → List D} {ok : α → Prop} {c' : β → List D} {ok' : β → Prop} (hk : P.cellsOf t = k) (hl : ∀ a, (c a).length = k) (h : Opens P t c ok) (h' : OpensF P fs (off + k) c' ok' n) :
    OpensF P ((off, t) :: fs) off (fun x : α × β => c x.1 ++ c' x.2) (fun x => ok x.1 ∧ ok' x.2) (k + n) := by
  refine ⟨fun x => by simp [hl, h'.1], fun H enc W fuel cs hcl h0 hall => ?_⟩
  obtain ⟨x, hx⟩ := hall (off, t) (by simp)
  rw [hk] at hx
  obtain ⟨a, ha, hca⟩ := h H enc W fuel _ x hx h0
  obtain ⟨b, hb, hcb⟩ := h'.2 H enc W fuel cs (by omega) h0 (fun g hg => hall g (by simp [hg]))
  refine ⟨(a, b), ⟨ha, hb⟩, ?_⟩
  have := hca.append hcb
  rwa [← List.drop_drop, List.take_append_drop] at this

def fieldsAt (P : Program) (t : TypeId) : Option (List (Nat × TypeId)) :=
  match P.underlying t with
  | some (.struct fs) => some (fs.toList.map fun f => (f.offset, f.type))
  | _ => none

theorem opens_struct {P : Program} {t : TypeId} {l : List (Nat × TypeId)} {α : Type} {c : α → List D} {ok : α → Prop} {n : Nat} (ht : fieldsAt P t = some l) (hn : P.cellsOf t = n) (h : OpensF P l 0 c ok n) : Opens P t c ok := by
  intro H enc W fuel cs x hx h0
  obtain ⟨fs, hfs, rfl⟩ : ∃ fs, P.underlying t = some (.struct fs) ∧ l = fs.toList.map fun f => (f.offset, f.type) := by
    unfold fieldsAt at ht
    split at ht
    · rename_i fs hu; exact ⟨fs, hu, (Option.some.inj ht).symm⟩
    · cases ht
  obtain ⟨xs, m, rfl, rfl, hl, hlen, hall⟩ := DataW.trod_struct hfs hx
  have := h.2 H enc W m cs (by omega) h0 (fun q hq => by
    obtain ⟨f, hf, rfl⟩ := List.mem_map.1 hq
    obtain ⟨i, hi⟩ := List.mem_iff_getElem?.1 hf
    have hi' : i < fs.size := by have := (List.getElem?_eq_some_iff.1 hi).1; simpa using this
    have := hall i f (by simpa using hi)
    rw [List.getElem?_eq_getElem (by omega)] at this
    exact ⟨_, this⟩)
  simpa using this

/-- an argument that is a struct -/
theorem arg_agg {H : Type} {enc : TypeId × Value → H} {P : Program} {W : World} {r : Reach} {base : Nat} {t : TypeId} {l : List (Nat × TypeId)} {v : Value} {d : DataW H} {p : List MemPlace} {α : Type} {c : α → List D} {ok : α → Prop} (ho : Opens P t c ok) (ht : fieldsAt P t = some l)
    (hval : Value.okWide P W r base t v) (h : DataW.Trod enc P W 0 (fun _ => true) true t v d p) (h0 : 0 < W.heap.size) : ∃ a, ok a ∧ VR (fun _ => none) (fun _ => none) (fun g => g < W.heap.size) W (.agg ((c a).map .d)) v := by
  obtain ⟨fs, hfs⟩ : ∃ fs, P.underlying t = some (.struct fs) := by
    unfold fieldsAt at ht
    split at ht
    · rename_i fs hu; exact ⟨fs, hu⟩
    · cases ht
  simp only [Value.okWide, hfs] at hval
  obtain ⟨cs, rfl, _, _⟩ := hval
  obtain ⟨fuel, hf⟩ := h
  obtain ⟨a, ha, hl, hg⟩ := ho H enc W fuel _ _ hf h0
  refine ⟨a, ha, ?_⟩
  simp only [VR]
  refine ⟨cs.toList, by simp, LR.of_get (by simpa [Value.cells] using hl) (fun i u v hu hv => ?_)⟩
  rw [List.getElem?_map] at hu
  cases hd : (c a)[i]? with
  | none => simp [hd] at hu
  | some x =>
    simp only [hd, Option.map_some, Option.some.injEq] at hu
    subst hu
    obtain ⟨v', hv', hdr⟩ := hg i x hd
    simp only [Value.cells] at hv'
    rw [hv] at hv'
    cases hv'
    simpa only [VR] using hdr

/-- an argument that is one cell -/
theorem arg_one {H : Type} {enc : TypeId × Value → H} {P : Program} {W : World} {t : TypeId} {v : Value} {d : DataW H} {p : List MemPlace} {α : Type} {f : α → D} {ok : α → Prop} (ho : Opens P t (fun a => [f a]) ok)
    (hv : v.cells = #[v]) (h : DataW.Trod enc P W 0 (fun _ => true) true t v d p) (h0 : 0 < W.heap.size) : ∃ a, ok a ∧ VR (fun _ => none) (fun _ => none) (fun g => g < W.heap.size) W (.d (f a)) v := by
  obtain ⟨fuel, hf⟩ := h
  rw [hv] at hf
  obtain ⟨a, ha, hl, hg⟩ := ho H enc W fuel _ _ hf h0
  obtain ⟨v', hv', hdr⟩ := hg 0 _ rfl
  simp at hv'
  subst hv'
  exact ⟨a, ha, by simpa only [VR] using hdr⟩
theorem arg_str {H : Type} {enc : TypeId × Value → H} {P : Program} {W : World} {r : Reach} {base : Nat} {t : TypeId} {v : Value} {d : DataW H} {p : List MemPlace} (ht : P.underlying t = some .string)
    (hval : Value.okWide P W r base t v) (h : DataW.Trod enc P W 0 (fun _ => true) true t v d p) : ∃ s : List UInt8, s.length ≤ maxLen ∧ VR (fun _ => none) (fun _ => none) (fun g => g < W.heap.size) W (.d (.str s)) v := by
  obtain ⟨s, rfl, _, _, hs⟩ := Go.ChangeMaps.open_string ht hval h
  refine ⟨s.data.toList, by simpa using hs, ?_⟩
  have : s = ⟨s.data.toList.toArray⟩ := by cases s; simp
  simp only [VR]
  rw [this]
  exact DR.str _
theorem arg_int {H : Type} {enc : TypeId × Value → H} {P : Program} {W : World} {r : Reach} {base : Nat} {t : TypeId} {k : IntKind} {v : Value} {d : DataW H} {p : List MemPlace} (ht : P.underlying t = some (.int k))
    (hval : Value.okWide P W r base t v) (h : DataW.Trod enc P W 0 (fun _ => true) true t v d p) : ∃ n : Int, (Lit.int k n).wf = true ∧ VR (fun _ => none) (fun _ => none) (fun g => g < W.heap.size) W (.d (.int k n)) v := by
  obtain ⟨n, rfl, _, _, hs⟩ := open_int ht hval h
  exact ⟨n, hs, by simp only [VR]; exact DR.int _ _⟩
theorem arg_slice {H : Type} {enc : TypeId × Value → H} {P : Program} {W : World} {r : Reach} {base : Nat} {t e : TypeId} {v : Value} {d : DataW H} {p : List MemPlace} {α : Type} {f : α → D} {ok : α → Prop} (ho : Opens P t (fun a => [f a]) ok) (ht : P.underlying t = some (.slice e))
    (hval : Value.okWide P W r base t v) (h : DataW.Trod enc P W 0 (fun _ => true) true t v d p) (h0 : 0 < W.heap.size) : ∃ a, ok a ∧ VR (fun _ => none) (fun _ => none) (fun g => g < W.heap.size) W (.d (f a)) v := by
  refine arg_one ho ?_ h h0
  simp only [Value.okWide, ht, Cell.okWide, Cell.ok] at hval
  cases v <;> simp_all [Value.cells]
end Go.Vs
