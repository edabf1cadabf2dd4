/-
  Vs16: a part of a proof of this seat: the value-level semantics of Go code without maps (Vs), its walk rules (Vt), the frame of a row (Vr), facts of types, schedules, walks. It holds of every program and state that its hypotheses name.
-/
import Derived.Test.YtfebikihnljjoaaVs15
set_option linter.unusedSimpArgs false
set_option linter.unusedVariables false
namespace Go.Vs
open Go.RowKit

section
variable {P : Program} {E : FuncId → Bool} {A0 : Env} {N : Nat} {w0 : World} {ρ : Nat → Option (Nat × Nat)} {σ : St} {a : Act} {w : World}
variable {S : Nat → Prop} {dst : Option Tmp} {ty : TypeId} {pos : String} {af : Array Edge} {gd : Option (Nat × Bool)}

theorem src_flat (h : Rel A0 N w0 ρ σ a w) {x : V} {v : Value} (hv : VR ρ σ.m (Sof A0 σ.B ρ σ.m w) w x v) (he : elOk σ.m x) {sz : Nat} (hpos : 0 < sz) (hsz : ∀ l ∈ elV σ.m x, l.length = sz) :
    ∃ (ad : Option Addr) (cap : Nat) (news : List Value), v = .slice ad (elV σ.m x).length cap ∧ Flat (Sof A0 σ.B ρ σ.m w) w sz (elV σ.m x) news ∧ (0 < (elV σ.m x).length → ad ≠ none) ∧
      ∀ p, ad = some p → (0 < (elV σ.m x).length → p.block < w.heap.size) ∧ ∀ (j : Nat) (u : Value), news[j]? = some u → w.cell? (p.add j) = some u := by
  obtain ⟨ad, cap, sz', hval, hcap, hb, hne, hall⟩ := slice_at h hv he
  generalize elV σ.m x = es at *
  have hex : ∀ n, ∃ v, n < es.length * sz → ∃ p, ad = some p ∧ w.cell? (p.add n) = some v ∧ ∃ e u, es[n / sz]? = some e ∧ e[n % sz]? = some u ∧ DR (Sof A0 σ.B ρ σ.m w) w u v := by
    intro n
    by_cases hn : n < es.length * sz
    · have hd : n / sz < es.length := by rw [Nat.div_lt_iff_lt_mul hpos]; exact hn
      have he' : es[n / sz]? = some es[n / sz] := List.getElem?_eq_getElem hd
      have hl := hsz _ (List.mem_of_getElem? he')
      obtain ⟨h1, h2⟩ := hall _ _ he'
      have hm : n % sz < es[n / sz].length := by rw [hl]; exact Nat.mod_lt _ hpos
      obtain ⟨p, val, hp, hc, hd'⟩ := h2 _ _ (List.getElem?_eq_getElem hm)
      have hss : sz' = sz := h1.symm.trans hl
      subst hss
      rw [Nat.div_add_mod'] at hc
      exact ⟨val, fun _ => ⟨p, hp, hc, _, _, he', List.getElem?_eq_getElem hm, hd'⟩⟩
    · exact ⟨undef, fun h => absurd h hn⟩
  obtain ⟨f, hf⟩ := Classical.axiomOfChoice hex
  refine ⟨ad, cap, (List.range (es.length * sz)).map f, hval, ⟨by simp, fun i e he => ⟨hsz e (List.mem_of_getElem? he), fun j u hu => ?_⟩⟩, hne, fun p hp => ⟨fun h0 => hb p hp (Nat.lt_of_lt_of_le h0 hcap), fun j u hu => ?_⟩⟩
  · have hi := (List.getElem?_eq_some_iff.1 he).1
    have hj := (List.getElem?_eq_some_iff.1 hu).1
    rw [hsz e (List.mem_of_getElem? he)] at hj
    have hlt := idx_lt hi hj
    obtain ⟨p, hp, hc, e', u', he', hu', hd⟩ := hf _ hlt
    have e1 : (i * sz + j) / sz = i := by
      rw [Nat.add_comm, Nat.add_mul_div_right _ _ hpos, Nat.div_eq_of_lt hj, Nat.zero_add]
    have e2 : (i * sz + j) % sz = j := by
      rw [Nat.add_comm, Nat.add_mul_mod_self_right, Nat.mod_eq_of_lt hj]
    rw [e1, he] at he'
    cases he'
    rw [e2, hu] at hu'
    cases hu'
    exact ⟨_, by simp [hlt], hd⟩
  · simp only [List.getElem?_map] at hu
    cases hr : (List.range (es.length * sz))[j]? with
    | none => simp [hr] at hu
    | some n =>
      simp only [hr, Option.map_some, Option.some.injEq] at hu
      subst hu
      have hlt : j < es.length * sz := by have := (List.getElem?_eq_some_iff.1 hr).1; simpa using this
      have hn : n = j := by
        rw [List.getElem?_range hlt] at hr; exact (Option.some.inj hr).symm
      subst hn
      obtain ⟨p', hp', hc, _⟩ := hf _ hlt
      rw [hp] at hp'
      cases hp'
      exact hc

theorem run_append_zero {t e : TypeId} {i : TypeInfo} (ht : P.underlying t = some (.slice e)) (hi : P.info? e = some i) (b : Option Addr) (n c : Nat) (hnc : n ≤ c) (ad : Option Addr) (cap : Nat) (w : World) :
    (Builtin.append_ #[t, t] ty #[.slice b n c, .slice ad 0 cap]).run P w = .ok (.slice b n c) w := by
  cases ad <;> cases b <;> simp [Builtin.append_, run_underlying ht, sizeOf, typeInfo, hi, Builtin.lenOf, Builtin.firstCells, hnc, storeCells, loadCells, loadCellsFrom]

/-- an append's end -/
theorem append_fin {key T sz : Nat} {es' : List (List D)} {r : Option (Nat × Nat)} {w' : World} {dk : Nat} {v' : Value} (h : Rel A0 N w0 ρ σ a w) (hdk : dk < N)
    (hk1 : key ≠ 1000) (hbel : Bel A0.G w0.heap.size w0 w') (hsz : w.heap.size ≤ w'.heap.size)
    (hsame : ∀ g, g < w.heap.size → (∀ b0 p, σ.m key = some b0 → ρ key = some p → p.1 ≠ g) → w'.heap[g]? = w.heap[g]?)
    (hr : ∀ p, r = some p → w.heap.size ≤ p.1 ∨ ∃ b0 p0, σ.m key = some b0 ∧ ρ key = some p0 ∧ p0.1 = p.1)
    (hb : ∀ S', (∀ g, Sof A0 σ.B ρ σ.m w g → S' g) → (∀ g, Sof A0 σ.B ρ σ.m w g → w'.heap[g]? = w.heap[g]?) → BlkR A0.G (upd ρ key r) (σ.lay key (.row T sz es')).m S' σ.B w' r (.row T sz es'))
    (hv : OwnV r sz 0 es'.length v') :
    Rel A0 N w0 (upd ρ key r) ((σ.lay key (.row T sz es')).put (some dk) (.own key 0 es'.length)) (a.put (some dk) v') w' := by
  have h1 : Rel A0 N w0 (upd ρ key r) (σ.lay key (.row T sz es')) a w' := h.lay key hk1 _ r hbel hsz hsame hr (fun hS hw => hb _ hS hw)
  refine h1.put (some dk) (fun t ht => by cases ht; exact hdk) ?_
  simp only [VR, lay_m_same, Blk.map]
  refine ⟨by omega, ?_⟩
  simpa [upd] using hv

/-- what an append's base is: nil, or the row of key k -/
def BaseAt (A0 : Env) (ρ : Nat → Option (Nat × Nat)) (σ : St) (w : World) (key e sz : Nat) (es : List (List D)) (v : Value) : Prop :=
  (v = .slice none 0 0 ∧ es = []) ∨ ∃ g cap0 cur, σ.m key = some (.row e sz es) ∧ ρ key = some (g, cap0) ∧ v = .slice (some ⟨g, 0, none⟩) es.length cap0 ∧
      σ.B ≤ g ∧ cap0 ≤ maxLen ∧ es.length ≤ cap0 ∧ w.heap[g]? = some (.cells cur e (0, 0)) ∧ cur.size = cap0 * sz ∧ Flat (Sof A0 σ.B ρ σ.m w) w sz es (cur.toList.take (es.length * sz))

theorem append_core (h : Rel A0 N w0 ρ σ a w) (s x : Operand) (t dk : Nat) (hdk : dk < N) {e : TypeId} {inf : TypeInfo} {z : Value} (hu : P.underlying t = some (.slice e)) (hi : P.info? e = some inf) (hz : inf.zero = some z) (hzs : z.cells.size = inf.size) (hpos : 0 < inf.size)
    {key : Nat} (hk1 : key ≠ 1000) {es xs : List (List D)} {ad : Option Addr} {cap : Nat} {news : List Value} (hxv : a.eval x = .slice ad xs.length cap) (hflat : Flat (Sof A0 σ.B ρ σ.m w) w inf.size xs news)
    (hne : 0 < xs.length → ad ≠ none) (hnews : ∀ p, ad = some p → (0 < xs.length → p.block < w.heap.size) ∧ ∀ (j : Nat) (u : Value), news[j]? = some u → w.cell? (p.add j) = some u) (hb : BaseAt A0 ρ σ w key e inf.size es (a.eval s))
    (hby : (es.length + xs.length) * inf.bytes ≤ 140737488355328) (hmax : es.length + xs.length ≤ maxLen) :
    Efs P E A0 N w0 a w ⟨some dk, .call ⟨.builtin .append, #[s, x], #[t, t]⟩, ty, pos, af, gd⟩
      ((σ.lay key (.row e inf.size (es ++ xs))).put (some dk) (.own key 0 (es ++ xs).length)) := by
  have h63 : es.length + xs.length ≤ 9223372036854775807 := by simpa [maxLen] using hmax
  have run_of : ∀ {v' : Value} {w' : World}, (Builtin.append_ #[t, t] ty #[a.eval s, a.eval x]).run P w = .ok v' w' →
      (execOp a.eval ⟨some dk, .call ⟨.builtin .append, #[s, x], #[t, t]⟩, ty, pos, af, gd⟩).run P w = .ok (.value v') w' := by
    intro v' w' hr
    simp [execOp, resolve, invoke, builtin, hr, Sem.run_bind, Sem.run_pure, Result.andThen]
  have hlenX : news.length = xs.length * inf.size := hflat.1
  have hBsz : σ.B ≤ w.heap.size := by rw [h.hB]; exact h.below.size
  have hlt_of : ∀ (g : Nat) (o : Obj), w.heap[g]? = some o → g < w.heap.size := fun g o hg => (Array.getElem?_eq_some_iff.1 hg).1
  -- a new row
  have newrow : ∀ (olds : List Value) (old : Nat), old < es.length + xs.length → Flat (Sof A0 σ.B ρ σ.m w) w inf.size es olds →
      Rel A0 N w0 (upd ρ key (some (w.heap.size, grownCap w (es.length + xs.length) old e))) ((σ.lay key (.row e inf.size (es ++ xs))).put (some dk) (.own key 0 (es ++ xs).length))
        (a.put (some dk) (.slice (some ⟨w.heap.size, 0, none⟩) (es.length + xs.length) (grownCap w (es.length + xs.length) old e)))
        (w.drew.alloc (.cells (olds.toArray ++ news.toArray ++ Builtin.zeroCells z.cells (grownCap w (es.length + xs.length) old e - (es.length + xs.length))) e)) := by
    intro olds old hold hfo
    have hge := grownCap_ge w (es.length + xs.length) old e
    have hcm := grownCap_le_maxLen w (es.length + xs.length) old e hmax
    have hbel : Below w.heap.size w (w.drew.alloc (.cells (olds.toArray ++ news.toArray ++ Builtin.zeroCells z.cells (grownCap w (es.length + xs.length) old e - (es.length + xs.length))) e)) :=
      ((Below.refl _ _).drew).alloc (Nat.le_refl _) _
    have hlo : olds.length = es.length * inf.size := hfo.1
    refine append_fin h hdk hk1 (h.below.trans (.of (hbel.mono h.below.size))) hbel.size (fun g hg _ => hbel.block g hg) (fun p hp => by cases hp; exact .inl (Nat.le_refl _)) (fun S' hS hw => ?_) ?_
    · refine Flat.blk hpos hBsz hcm (by simpa using hge) (heap_alloc_new w.drew _) ?_ ?_
      · simp only [Array.size_append, List.size_toArray, size_zeroCells, hzs, hlo, hlenX, ← Nat.add_mul]
        congr 1; omega
      · have : (olds.toArray ++ news.toArray ++ Builtin.zeroCells z.cells (grownCap w (es.length + xs.length) old e - (es.length + xs.length))).toList.take ((es ++ xs).length * inf.size) = olds ++ news := by
          simp only [Array.toList_append, List.append_assoc]
          rw [← List.append_assoc]
          have hl2 : (es ++ xs).length * inf.size = (olds ++ news).length := by simp [hlo, hlenX, Nat.add_mul]
          rw [hl2]
          exact List.take_left
        rw [this]
        exact (hfo.append hflat).mono hS hw
    · refine ⟨_, _, ?_, rfl, by simpa using hge, hcm, fun _ => ⟨rfl, rfl⟩, fun _ => by simp⟩
      simp
  -- nothing is appended
  have same : ∀ (r : Option (Nat × Nat)) (v' : Value), xs = [] → (∀ p, r = some p → ∃ b0, σ.m key = some b0 ∧ ρ key = some p) →
      (∀ S', (∀ g, Sof A0 σ.B ρ σ.m w g → S' g) → BlkR A0.G (upd ρ key r) (σ.lay key (.row e inf.size (es ++ xs))).m S' σ.B w r (.row e inf.size (es ++ xs))) → OwnV r inf.size 0 (es ++ xs).length v' →
      Rel A0 N w0 (upd ρ key r) ((σ.lay key (.row e inf.size (es ++ xs))).put (some dk) (.own key 0 (es ++ xs).length)) (a.put (some dk) v') w := by
    intro r v' _ hr hbk hv
    refine append_fin h hdk hk1 h.below (Nat.le_refl _) (fun _ _ _ => rfl) (fun p hp => ?_) (fun S' hS _ => hbk S' hS) hv
    obtain ⟨b0, h1, h2⟩ := hr p hp
    exact .inr ⟨b0, p, h1, h2, rfl⟩
  rcases hb with ⟨hv, rfl⟩ | ⟨g, cap0, cur, hm, hρ, hv, hB, hcm, hnc, hg, hcs, hf⟩
  · by_cases hm0 : xs.length = 0
    · have hx0 : xs = [] := List.eq_nil_of_length_eq_zero hm0
      refine ⟨.slice none 0 0, w, _, .inl (run_of ?_), fun hE => (by simp [effOp] at hE), same none _ hx0 (by simp) (fun S' _ => ?_) ?_⟩
      · rw [hv, hxv, hm0]
        exact run_append_zero hu hi none 0 0 (Nat.le_refl _) ad cap w
      · subst hx0; exact ⟨hpos, rfl⟩
      · subst hx0; exact ⟨rfl, rfl, rfl⟩
    · have hadne := hne (by omega)
      cases ad with
      | none => exact absurd rfl hadne
      | some p =>
        obtain ⟨hp, hnw⟩ := hnews p rfl
        have hr := run_append_nil (P := P) w t ty e inf z hu hi hz p xs.length cap news hlenX hnw (by omega) (by omega) (by simp at hby; omega)
        have hn := newrow [] 0 (by simp; omega) ⟨by simp, by simp⟩
        simp only [List.nil_append, List.length_nil, Nat.zero_add, Array.empty_append] at hn ⊢
        exact ⟨_, _, _, .inl (run_of (by rw [hv, hxv]; exact hr)), fun hE => (by simp [effOp] at hE), hn⟩
  · by_cases hm0 : xs.length = 0
    · have hx0 : xs = [] := List.eq_nil_of_length_eq_zero hm0
      refine ⟨a.eval s, w, _, .inl (run_of ?_), fun hE => (by simp [effOp] at hE), same (some (g, cap0)) _ hx0 (fun p hp => by cases hp; exact ⟨_, hm, hρ⟩) (fun S' hS => ?_) ?_⟩
      · rw [hv, hxv, hm0]
        exact run_append_zero hu hi _ _ _ hnc ad cap w
      · subst hx0
        simp only [List.append_nil]
        exact Flat.blk hpos hB hcm hnc hg hcs (hf.mono hS (fun _ _ => rfl))
      · subst hx0
        rw [hv]
        exact ⟨_, _, by simp, rfl, by simpa using hnc, hcm, fun _ => ⟨rfl, rfl⟩, fun _ => by simp⟩
    · have hadne := hne (by omega)
      cases ad with
      | none => exact absurd rfl hadne
      | some p =>
        obtain ⟨hp, hnw⟩ := hnews p rfl
        by_cases hroom : es.length + xs.length ≤ cap0
        · have hfit : es.length * inf.size + news.length ≤ cur.size := by rw [hlenX, hcs, ← Nat.add_mul]; exact Nat.mul_le_mul_right _ hroom
          have hr := run_append_room (P := P) w t ty e inf hu hi g es.length cap0 cur hg p xs.length cap news hlenX hnw (hflat.oneCell hpos) hroom hfit
          have hbel : Below w0.heap.size w (w.setRow g (cur.toList.take (es.length * inf.size) ++ news ++ cur.toList.drop (es.length * inf.size + news.length)).toArray) :=
            ⟨rfl, rfl, rfl, by simp [World.setRow], fun k hk => setRow_other w g k _ (by rw [h.hB] at hB; omega)⟩
          refine ⟨_, _, upd ρ key (some (g, cap0)), .inl (run_of (by rw [hv, hxv]; exact hr)), fun hE => (by simp [effOp] at hE), append_fin h hdk hk1 (h.below.trans (.of hbel)) (by simp [World.setRow]) (fun g' hg' hno => setRow_other w g g' _ (fun heq => hno _ _ hm hρ heq.symm)) (fun q hq => by cases hq; exact .inr ⟨_, _, hm, hρ, rfl⟩) (fun S' hS hw => ?_) ?_⟩
          · refine Flat.blk hpos hB hcm (by simpa using hroom) (setRow_heap w g cur _ e _ hg) ?_ ?_
            · simp only [List.size_toArray, List.length_append, List.length_take, List.length_drop, Array.length_toList]
              omega
            · have hl2 : (es ++ xs).length * inf.size = (cur.toList.take (es.length * inf.size) ++ news).length := by
                simp only [List.length_append, List.length_take, Array.length_toList, hlenX, Nat.add_mul]
                omega
              rw [hl2]
              simp only
              rw [List.take_left]
              exact (hf.append hflat).mono hS hw
          · exact ⟨_, _, by simp, rfl, by simpa using hroom, hcm, fun _ => ⟨rfl, rfl⟩, fun _ => by simp⟩
        · have holds : ∀ (j : Nat) (u : Value), (cur.toList.take (es.length * inf.size))[j]? = some u → w.cell? ((⟨g, 0, none⟩ : Addr).add j) = some u := by
            intro j u hj
            rw [List.getElem?_take] at hj
            split at hj
            · rw [add_lit, cell_of hg]; simpa using hj
            · cases hj
          have hr := run_append_grow (P := P) w t ty e inf z hu hi hz ⟨g, 0, none⟩ es.length cap0 (cur.toList.take (es.length * inf.size)) hf.1 holds p xs.length cap news hlenX hnw (by omega) (by omega) (growslice_fits (by omega) hby)
          exact ⟨_, _, _, .inl (run_of (by rw [hv, hxv]; exact hr)), fun hE => (by simp [effOp] at hE), newrow _ cap0 (by omega) hf⟩

theorem e_append (h : Rel A0 N w0 ρ σ a w) (s x : Operand) (t dk : Nat) (hdk : dk < N) (ht : (tslice P t).isSome = true) (he : elOk σ.m (σ.ev x)) (hl : ∀ l ∈ elV σ.m (σ.ev x), l.length = (slT P t).2.1)
    {key : Nat} {es : List (List D)} (hbase : (key = dk ∧ es = [] ∧ ∃ Tw, σ.ev s = .d (.sl none Tw [])) ∨ (σ.ev s = .own key 0 es.length ∧ σ.m key = some (.row (slT P t).1 (slT P t).2.1 es)))
    (hroom : LenOk (slT P t).2.2 (es.length + (elV σ.m (σ.ev x)).length)) :
    Efs P E A0 N w0 a w ⟨some dk, .call ⟨.builtin .append, #[s, x], #[t, t]⟩, ty, pos, af, gd⟩
      ((σ.lay key (.row (slT P t).1 (slT P t).2.1 (es ++ elV σ.m (σ.ev x)))).put (some dk) (.own key 0 (es ++ elV σ.m (σ.ev x)).length)) := by
  obtain ⟨e, inf, z, hu, hi, hz, hzs, hpos, hsl⟩ := slT_spec ht
  simp only [hsl] at hl hbase hroom ⊢
  obtain ⟨ad, cap, news, hxv, hflat, hne, hnews⟩ := src_flat h (h.ev x) he hpos hl
  generalize hxs : elV σ.m (σ.ev x) = xs at *
  obtain ⟨hby, hmax⟩ := hroom
  have hk1 : key ≠ 1000 := by
    rcases hbase with ⟨hk, _⟩ | ⟨_, hm⟩
    · have := h.hN; omega
    · rintro rfl; have := h.norow; rw [hm] at this; cases this
  refine append_core h s x t dk hdk hu hi hz hzs hpos hk1 hxv hflat hne hnews ?_ hby hmax
  rcases hbase with ⟨hk, hes, Tw, hs⟩ | ⟨hs, hm⟩
  · have hv := h.ev s
    rw [hs] at hv
    simp only [VR] at hv
    generalize a.eval s = vs at hv
    cases hv
    exact .inl ⟨rfl, hes⟩
  · have hv := h.ev s
    rw [hs] at hv
    simp only [VR, hm] at hv
    obtain ⟨_, hv⟩ := hv
    have hbk := h.mem key _ hm
    cases hr : ρ key with
    | none =>
      rw [hr] at hv hbk
      exact .inl ⟨hv.1, hbk.2⟩
    | some p =>
      obtain ⟨g, cap0⟩ := p
      rw [hr] at hv hbk
      obtain ⟨ad', c, hval, hab, hnc, hcm, hz', hp⟩ := hv
      obtain ⟨rfl, rfl⟩ := hz' rfl
      obtain ⟨cur, hg, hcs, hf⟩ := Flat.of_blk hbk
      exact .inr ⟨g, c, cur, hm, hr, hval, hbk.2.1, hcm, hnc, hg, hcs, hf⟩
end
end Go.Vs
