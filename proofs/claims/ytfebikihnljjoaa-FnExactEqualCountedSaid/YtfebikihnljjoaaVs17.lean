/-
  Vs17: a part of a proof of this seat: the value-level semantics of Go code without maps (Vs), its walk rules (Vt), the frame of a row (Vr), facts of types, schedules, walks. It holds of every program and state that its hypotheses name.
-/
import Derived.Test.YtfebikihnljjoaaVs16
set_option linter.unusedSimpArgs false
set_option linter.unusedVariables false
namespace Go.Vs
open Go.RowKit

section
variable {P : Program} {A0 : Nat → Prop} {N : Nat} {w0 : World} {ρ : Nat → Option (Nat × Nat)} {σ : St} {a : Act} {w : World}
variable {S : Nat → Prop} {dst : Option Tmp} {ty : TypeId} {pos : String} {af : Array Edge} {gd : Option (Nat × Bool)}

/-- a row that is laid whole -/
theorem row_new (h : Rel A0 N w0 ρ σ a w) (k : Nat) (hk : k < N) {T sz n : Nat} {es : List (List D)} {cs : Array Value} (hpos : 0 < sz) (hlen : es.length = n) (hn : n ≤ maxLen) (hcs : cs.size = n * sz)
    (hf : Flat (Sof A0 σ.B ρ σ.m w) w sz es cs.toList) :
    Rel A0 N w0 (upd ρ k (some (w.heap.size, n))) ((σ.lay k (.row T sz es)).put (some k) (.own k 0 n)) (a.put (some k) (.slice (some ⟨w.heap.size, 0, none⟩) n n)) (w.alloc (.cells cs T)) := by
  have hBsz : σ.B ≤ w.heap.size := by rw [h.hB]; exact h.below.size
  refine h.new k hk _ n ((Below.refl _ _).alloc (Nat.le_refl _) _) _ _ (fun hS hw => ?_) (fun S => ?_)
  · refine Flat.blk hpos hBsz hn (by omega) (heap_alloc_new w _) hcs ?_
    have : cs.toList.take (es.length * sz) = cs.toList := List.take_of_length_le (by simp [hcs, hlen])
    rw [this]
    exact hf.mono hS hw
  · simp only [VR, lay_m_same, Blk.map]
    refine ⟨by omega, ?_⟩
    have : upd ρ k (some (w.heap.size, n)) k = some (w.heap.size, n) := by simp [upd]
    rw [this]
    exact ⟨_, _, rfl, rfl, Nat.le_refl _, hn, fun _ => ⟨rfl, rfl⟩, fun _ => by simp⟩

theorem e_makeSlice (h : Rel A0 N w0 ρ σ a w) (T : TypeId) (l c : Operand) (k : Nat) (hk : k < N) (h1 : (tslice P T).isSome = true) (h2 : (tzero P (slT P T).1).isSome = true) (h3 : kOf (σ.ev l) = some .i64) (h4 : kOf (σ.ev c) = some .i64)
    (h5 : getZ (σ.ev c) = getZ (σ.ev l)) (h6 : 0 ≤ getZ (σ.ev l)) (h7 : LenOk (slT P T).2.2 (getZ (σ.ev l)).toNat) :
    Efs P A0 N w0 a w ⟨some k, .makeSlice T l c, ty, pos, af, gd⟩ ((σ.lay k (.row (slT P T).1 (slT P T).2.1 (List.replicate (getZ (σ.ev l)).toNat (zrT P (slT P T).1)))).put (some k) (.own k 0 (getZ (σ.ev l)).toNat)) := by
  obtain ⟨e, inf, z, hu, hi, hz, hzs, hpos, hsl⟩ := slT_spec h1
  simp only [hsl] at h2 h7 ⊢
  have hl := VR_int64 (h.ev l) h3
  have hc := VR_int64 (h.ev c) h4
  rw [h5] at hc
  obtain ⟨n, hn⟩ := Int.eq_ofNat_of_zero_le h6
  rw [hn] at hl hc h7 ⊢
  simp only [Int.toNat_natCast] at h7 ⊢
  obtain ⟨hby, hmax⟩ := h7
  obtain ⟨inf', z', hi', hz', hzc⟩ := zrT_spec h2
  rw [hi] at hi'; cases hi'
  rw [hz] at hz'; cases hz'
  have hr := run_make (P := P) w T e inf z hu hi hz .i64 .i64 n n (by omega) (Int.le_refl _) (by rw [Int.mul_comm]; have : ((n * inf.bytes : Nat) : Int) ≤ 140737488355328 := by omega
                                                                                                 rw [Int.natCast_mul] at this; omega) (by simp [maxLen] at hmax; omega)
  simp only [Int.toNat_natCast] at hr
  have hzl : (zrT P e).length = inf.size := by
    have := (zcells_LR (ρ := ρ) (S := fun _ => True) (w := w) (m := σ.m) _ _ hzc).length
    simp at this; omega
  refine ⟨_, _, _, .inl ?_, fun _ => Ext.alloc _ _, row_new h k hk hpos (by simp) hmax (size_madeCells z.cells _) ⟨by simp [size_madeCells], fun i e' he => ?_⟩⟩
  · simp [execOp, hl, hc, hr, Sem.run_bind, Sem.run_pure, Result.andThen]
  · rw [List.getElem?_replicate] at he
    split at he
    case isFalse => cases he
    rename_i hlt
    cases he
    refine ⟨hzl, fun j u hu' => ?_⟩
    have hj : j < inf.size := by rw [← hzl]; exact (List.getElem?_eq_some_iff.1 hu').1
    have hzz := zcells_LR (ρ := ρ) (S := Sof A0 σ.B ρ σ.m w) (w := w) (m := σ.m) _ _ hzc
    obtain ⟨v, hv, hd⟩ := hzz.get j (.d u) (by simp [hu'])
    simp only [VR] at hd
    refine ⟨v, ?_, hd⟩
    have hidx := idx_lt hlt hj
    have hmod : (i * inf.size + j) % z.cells.size = j := by
      rw [hzs, Nat.add_comm, Nat.add_mul_mod_self_right, Nat.mod_eq_of_lt hj]
    have hj' : j < z.cells.size := by omega
    have hvj : z.cells[j] = v := by simpa [hj'] using hv
    simp [madeCells, hidx, hmod, hj', hvj]

/-- a block of the call's own is written -/
theorem Rel.setBlk (h : Rel A0 N w0 ρ σ a w) {k : Nat} {b b' : Blk} (hm : σ.m k = some b) {w' : World} (hbel : Below w0.heap.size w0 w') (hsz : w.heap.size ≤ w'.heap.size)
    (hsame : ∀ g, (∀ p, ρ k = some p → p.1 ≠ g) → w'.heap[g]? = w.heap[g]?)
    (hk : ∀ j, KC ρ σ.m ρ (upd σ.m k (some b')) j)
    (hb : (∀ g, Sof A0 σ.B ρ σ.m w g → Sof A0 σ.B ρ (upd σ.m k (some b')) w' g) → (∀ g, Sof A0 σ.B ρ σ.m w g → w'.heap[g]? = w.heap[g]?) →
      BlkR ρ (upd σ.m k (some b')) (Sof A0 σ.B ρ (upd σ.m k (some b')) w') σ.B w' (ρ k) b') :
    Rel A0 N w0 ρ { σ with m := upd σ.m k (some b') } a w' := by
  have hback : ∀ j c, upd σ.m k (some b') j = some c → ∃ c0, σ.m j = some c0 := by
    intro j c hj
    by_cases hjk : j = k
    · subst hjk; exact ⟨b, hm⟩
    · simp only [upd, hjk, if_false] at hj; exact ⟨c, hj⟩
  have hS : ∀ g, Sof A0 σ.B ρ σ.m w g → Sof A0 σ.B ρ (upd σ.m k (some b')) w' g := by
    intro g hg
    refine ⟨hg.1, by have := hg.2.1; omega, fun j c hj p hp => ?_⟩
    obtain ⟨c0, hc0⟩ := hback j c hj
    exact hg.2.2 j c0 hc0 p hp
  have hw : ∀ g, Sof A0 σ.B ρ σ.m w g → w'.heap[g]? = w.heap[g]? := fun g hg => hsame g fun p hp => hg.2.2 k b hm p hp
  have hold : ∀ j c p, j ≠ k → σ.m j = some c → ρ j = some p → w'.heap[p.1]? = w.heap[p.1]? := by
    intro j c p hjk hj hp
    exact hsame p.1 fun q hq heq => hjk (h.inj j k c b p q hj hm hp hq heq.symm)
  refine ⟨hbel, h.hB, Nat.le_trans h.hs hsz, h.hs0, h.defers, h.size, fun i => VR.mono hS hw hk _ _ (h.tmps i), fun j c hj => ?_, fun j j' c c' p p' hj hj' hp hp' heq => ?_⟩
  · by_cases hjk : j = k
    · subst hjk
      simp only [upd, if_true] at hj
      cases hj
      exact hb hS hw
    · have hj' : σ.m j = some c := by simpa [upd, hjk] using hj
      have := h.mem j c hj'
      cases c with
      | box cs =>
        obtain ⟨g, cap, hr', hB, cur, T, hc, hl⟩ := this
        exact ⟨g, cap, hr', hB, cur, T, (hold j _ (g, cap) hjk hj' hr').trans hc, LR.mono hS hw hk _ _ hl⟩
      | row T sz es =>
        refine ⟨this.1, ?_⟩
        have h3 := this.2
        cases hr' : ρ j with
        | none => rw [hr'] at h3; exact h3
        | some p =>
          obtain ⟨g, cap⟩ := p
          rw [hr'] at h3
          obtain ⟨hB, hc1, hc2, cur, hc, hcs, hall⟩ := h3
          refine ⟨hB, hc1, hc2, cur, (hold j _ (g, cap) hjk hj' hr').trans hc, hcs, fun i e he => ⟨(hall i e he).1, fun n u hu => ?_⟩⟩
          obtain ⟨v, hv, hd⟩ := (hall i e he).2 n u hu
          exact ⟨v, hv, hd.mono hS hw⟩
  · obtain ⟨c0, hc0⟩ := hback j c hj
    obtain ⟨c0', hc0'⟩ := hback j' c' hj'
    exact h.inj j j' c0 c0' p p' hc0 hc0' hp hp' heq

theorem allD_get {l : List V} (h : l.all isD = true) (i : Nat) (c : V) (hc : l[i]? = some c) : c = .d (dD c) := by
  have := List.all_eq_true.1 h c (List.mem_of_getElem? hc)
  cases c <;> simp_all [isD, dD]

theorem LR.one {l : List V} {vs : List Value} {m : Nat → Option Blk} (h : LR ρ m S w l vs) (hl : l.all (live m) = true) : ∀ v ∈ vs, v.oneCell' = true := by
  intro v hv
  obtain ⟨n, hn⟩ := List.mem_iff_getElem?.1 hv
  have hlt : n < l.length := by rw [h.length]; exact (List.getElem?_eq_some_iff.1 hn).1
  obtain ⟨u, hu, hd⟩ := h.get n _ (List.getElem?_eq_getElem hlt)
  rw [hn] at hu; cases hu
  exact (live_cells hd (List.all_eq_true.1 hl _ (List.getElem_mem hlt))).2.2

theorem allD_live {l : List V} {m : Nat → Option Blk} (h : l.all isD = true) : l.all (live m) = true := by
  rw [List.all_eq_true] at h ⊢
  intro c hc
  have := h c hc
  cases c <;> simp_all [isD, live]
theorem allD_cellsOk {v : V} {m : Nat → Option Blk} (h : v.cells.all isD = true) : cellsOk m v := by
  cases v <;> simp_all [V.cells, isD, cellsOk]

theorem splice_take {α : Type} (l : List α) (off : Nat) (news : List α) : splice l off news = l.take off ++ news ++ l.drop (off + news.length) := rfl
theorem length_splice {α : Type} (l : List α) (off : Nat) (news : List α) (h : off + news.length ≤ l.length) : (splice l off news).length = l.length := by
  simp [splice]; omega
theorem get_splice {α : Type} (l : List α) (off : Nat) (news : List α) (h : off + news.length ≤ l.length) (i : Nat) :
    (splice l off news)[i]? = if off ≤ i ∧ i < off + news.length then news[i - off]? else l[i]? := by
  simp only [splice, List.getElem?_append, List.length_append, List.length_take, List.getElem?_take, List.getElem?_drop]
  grind

theorem e_store (h : Rel A0 N w0 ρ σ a w) (T : TypeId) (x y : Operand) (hd : ∀ t, dst = some t → t < N) (hp : vpre P ⟨dst, .store T x y, ty, pos, af, gd⟩ σ) :
    Efs P A0 N w0 a w ⟨dst, .store T x y, ty, pos, af, gd⟩ (veff P ⟨dst, .store T x y, ty, pos, af, gd⟩ σ) := by
  simp only [vpre, stOk] at hp
  obtain ⟨h1, hp⟩ := hp
  obtain ⟨sz, hsz⟩ := Option.isSome_iff_exists.1 h1
  have hszT : szT P T = sz := by simp [szT, hsz]
  rw [hszT] at hp
  cases hx : σ.ev x with
  | ptr k i off =>
    simp only [hx] at hp
    obtain ⟨hcl, hp⟩ := hp
    have hvx := h.ev x
    rw [hx] at hvx
    simp only [VR] at hvx
    have hvy := h.ev y
    cases hm : σ.m k with
    | none => simp [hm] at hp
    | some b =>
      have hb := h.mem k b hm
      have fin : ∀ (g o : Nat) (cur : Array Value) (Tb : TypeId) (b' : Blk), a.eval x = .pointer (some ⟨g, o, none⟩) → (∃ cap, ρ k = some (g, cap)) → w.heap[g]? = some (.cells cur Tb (0, 0)) → σ.B ≤ g →
          cellsOk σ.m (σ.ev y) → (σ.ev y).cells.all (live σ.m) = true → o + (σ.ev y).cells.length ≤ cur.size → (∀ j, KC ρ σ.m ρ (upd σ.m k (some b')) j) →
          (∀ (vs : List Value) (w' : World), LR ρ σ.m (Sof A0 σ.B ρ σ.m w) w (σ.ev y).cells vs → vs.length = (σ.ev y).cells.length → w'.heap[g]? = some (.cells (splice cur.toList o vs).toArray Tb (0, 0)) →
            (∀ g, Sof A0 σ.B ρ σ.m w g → Sof A0 σ.B ρ (upd σ.m k (some b')) w' g) → (∀ g, Sof A0 σ.B ρ σ.m w g → w'.heap[g]? = w.heap[g]?) →
            BlkR ρ (upd σ.m k (some b')) (Sof A0 σ.B ρ (upd σ.m k (some b')) w') σ.B w' (ρ k) b') →
          Efs P A0 N w0 a w ⟨dst, .store T x y, ty, pos, af, gd⟩ ({ σ with m := upd σ.m k (some b') }.put dst (.tup [])) := by
        intro g o cur Tb b' hax ⟨cap, hρ⟩ hg hB hok hlv hfit hkc hblk
        have hLR := cells_LR hvy hok
        have hvl : (a.eval y).cells.toList.length = (σ.ev y).cells.length := hLR.length.symm
        have hst := run_storeCells_at P g o Tb (a.eval y).cells.toList 0 cur w hg (by simp only [Nat.add_zero]; omega) (LR.one hLR hlv)
        simp only [Nat.add_zero] at hst
        have hcsz : (a.eval y).cells.size = sz := by have := hvl; simp at this; omega
        have hbel : Below w0.heap.size w (w.setRow g (cur.toList.take o ++ (a.eval y).cells.toList ++ cur.toList.drop (o + (a.eval y).cells.toList.length)).toArray) :=
          ⟨rfl, rfl, rfl, by simp [World.setRow], fun j hj => setRow_other w g j _ (by rw [h.hB] at hB; omega)⟩
        refine ⟨undef, _, ρ, .inr ⟨?_, rfl⟩, fun hE => (by simp [effOp] at hE), (h.setBlk hm (h.below.trans hbel) (by simp [World.setRow]) (fun g' hno => setRow_other w g g' _ (fun heq => hno _ hρ heq.symm)) hkc
          (fun hS hw => hblk _ _ hLR hvl (setRow_heap w g cur _ Tb _ hg) hS hw)).put dst hd (by simp only [VR]; exact ⟨[], rfl, by simp [LR]⟩)⟩
        simp [execOp, Instr.storeAt, Instr.sureAddr, hax, storeVar, tsz_run hsz, hcsz, hst, Sem.run_bind, Sem.run_pure, Result.andThen]
      cases b with
      | box cs =>
        simp only [hm] at hp hvx
        obtain ⟨rfl, hfit, hok, hlv⟩ := hp
        obtain ⟨_, g, cap, hr, hax⟩ := hvx
        obtain ⟨g', cap', hr', hB, cur, Tb, hc, hl⟩ := hb
        rw [hr] at hr'; cases hr'
        have hcur : cs.length = cur.size := by simpa using hl.length
        have hkc : ∀ j, KC ρ σ.m ρ (upd σ.m k (some (.box (splice cs off (σ.ev y).cells)))) j := by
          intro j
          by_cases hjk : j = k
          · subst hjk; simp only [KC, upd, if_true]; exact ⟨trivial, cs, hm⟩
          · have := KC.refl (ρ := ρ) (m := σ.m) j
            unfold KC at this ⊢
            simpa [upd, hjk] using this
        have := fin g off cur Tb (.box (splice cs off (σ.ev y).cells)) hax ⟨cap, hr⟩ hc hB hok hlv (by omega) hkc (fun vs w' hLR hlen hg' hS hw => by
          refine ⟨g, cap, hr, hB, _, Tb, hg', ?_⟩
          simp only
          exact (LR.mono hS hw hkc _ _ hl).splice (LR.mono hS hw hkc _ _ hLR) off)
        simpa only [veff, stSt, hx, hm] using this
      | row Te esz es =>
        simp only [hm] at hp
        obtain ⟨hi, hfit, hall⟩ := hp
        simp only [hm] at hvx
        obtain ⟨g, cap, hr, hax⟩ := hvx
        obtain ⟨hpos, hrow⟩ := hb
        rw [hr] at hrow
        obtain ⟨hB, hc1, hc2, cur, hc, hcs, hrows⟩ := hrow
        have he : es[i]? = some (es.getD i []) := by simp [List.getD, List.getElem?_eq_getElem hi]
        have hel := (hrows i _ he).1
        have hkc : ∀ j, KC ρ σ.m ρ (upd σ.m k (some (.row Te esz (es.set i (splice (es.getD i []) off ((σ.ev y).cells.map dD)))))) j := by
          intro j
          by_cases hjk : j = k
          · subst hjk; simp only [KC, upd, if_true]; exact ⟨trivial, Te, es, hm, by simp⟩
          · have := KC.refl (ρ := ρ) (m := σ.m) j
            unfold KC at this ⊢
            simpa [upd, hjk] using this
        have hidx : i * esz + off + (σ.ev y).cells.length ≤ cur.size := by
          have h1 : (i + 1) * esz ≤ cap * esz := Nat.mul_le_mul_right _ (by omega)
          rw [Nat.add_mul] at h1
          omega
        have := fin g (i * esz + off) cur Te (.row Te esz (es.set i (splice (es.getD i []) off ((σ.ev y).cells.map dD)))) hax ⟨cap, hr⟩ hc hB (allD_cellsOk hall) (allD_live hall) hidx hkc (fun vs w' hLR hlen hg' hS hw => by
          rw [hr]
          refine ⟨hpos, hB, hc1, by simpa using hc2, _, hg', by simp only [List.size_toArray]; rw [length_splice _ _ _ (by simp; omega)]; simpa using hcs, fun i' e' he' => ?_⟩
          rw [List.getElem?_set] at he'
          have hget : ∀ n, (splice cur.toList (i * esz + off) vs).toArray[n]? = if i * esz + off ≤ n ∧ n < i * esz + off + vs.length then vs[n - (i * esz + off)]? else cur[n]? := by
            intro n
            have := get_splice cur.toList (i * esz + off) vs (by simp; omega) n
            simpa using this
          split at he'
          · rename_i heq
            subst heq
            cases he'
            refine ⟨by rw [length_splice _ _ _ (by rw [List.length_map]; omega)]; exact hel, fun j u hu => ?_⟩
            rw [get_splice _ _ _ (by rw [List.length_map]; omega)] at hu
            rw [hget]
            simp only [List.length_map] at hu
            split at hu
            · rename_i hj
              rw [if_pos (by omega)]
              rw [List.getElem?_map] at hu
              cases hcj : (σ.ev y).cells[j - off]? with
              | none => simp [hcj] at hu
              | some c =>
                simp only [hcj, Option.map_some, Option.some.injEq] at hu
                obtain ⟨v, hv, hdv⟩ := hLR.get _ c hcj
                rw [allD_get hall _ _ hcj] at hdv
                simp only [VR] at hdv
                rw [hu] at hdv
                refine ⟨v, ?_, hdv.mono hS hw⟩
                rw [← hv]; congr 1; omega
            · rename_i hj
              have hjl : j < esz := by rw [← hel]; exact (List.getElem?_eq_some_iff.1 hu).1
              rw [if_neg (by omega)]
              obtain ⟨v, hv, hdv⟩ := (hrows i _ he).2 j u hu
              exact ⟨v, hv, hdv.mono hS hw⟩
          · rename_i hne
            refine ⟨(hrows i' e' he').1, fun j u hu => ?_⟩
            obtain ⟨v, hv, hdv⟩ := (hrows i' e' he').2 j u hu
            refine ⟨v, ?_, hdv.mono hS hw⟩
            rw [hget]
            have hjl : j < esz := by rw [← (hrows i' e' he').1]; exact (List.getElem?_eq_some_iff.1 hu).1
            rw [if_neg, hv]
            rintro ⟨h1, h2⟩
            have h3 : off + vs.length ≤ esz := by omega
            rcases Nat.lt_or_gt_of_ne hne with hlt | hgt
            · have : (i + 1) * esz ≤ i' * esz := Nat.mul_le_mul_right _ hlt
              rw [Nat.add_mul] at this
              omega
            · have : (i' + 1) * esz ≤ i * esz := Nat.mul_le_mul_right _ hgt
              rw [Nat.add_mul] at this
              omega)
        simpa only [veff, stSt, hx, hm] using this
  | _ => simp [hx] at hp
end
end Go.Vs
