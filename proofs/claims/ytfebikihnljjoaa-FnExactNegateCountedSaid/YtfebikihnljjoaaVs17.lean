/-
  Vs17: a part of a proof of this seat: the value-level semantics of Go code without maps (Vs), its walk rules (Vt), the frame of a row (Vr), facts of types, schedules, walks. It holds of every program and state that its hypotheses name.
-/
import Derived.Test.YtfebikihnljjoaaVsTh
set_option linter.unusedSimpArgs false
set_option linter.unusedVariables false
namespace Go.Vs
open Go.RowKit

section
variable {P : Program} {E : FuncId → Bool} {A0 : Env} {N : Nat} {w0 : World} {ρ : Nat → Option (Nat × Nat)} {σ : St} {a : Act} {w : World}
variable {S : Nat → Prop} {dst : Option Tmp} {ty : TypeId} {pos : String} {af : Array Edge} {gd : Option (Nat × Bool)}

/-- a row that is laid whole -/
theorem row_new (h : Rel A0 N w0 ρ σ a w) (k : Nat) (hk : k < N) {T sz n : Nat} {es : List (List D)} {cs : Array Value} (hpos : 0 < sz) (hlen : es.length = n) (hn : n ≤ maxLen) (hcs : cs.size = n * sz)
    (hf : Flat (Sof A0 σ.B ρ σ.m w) w sz es cs.toList) :
    Rel A0 N w0 (upd ρ k (some (w.heap.size, n))) ((σ.lay k (.row T sz es)).put (some k) (.own k 0 n)) (a.put (some k) (.slice (some ⟨w.heap.size, 0, none⟩) n n)) (w.alloc (.cells cs T)) := by
  have hBsz : σ.B ≤ w.heap.size := by rw [h.hB]; exact h.below.size
  refine h.new k hk _ n ((Below.refl _ _).alloc (Nat.le_refl _) _) _ _ (fun hS hw => ?_) (fun S => ?_)
  · refine Flat.blk hpos hBsz hn (by omega) (heap_alloc_new w _) hcs ?_
    have : cs.toList.take (es.length * sz) = cs.toList := List.take_of_length_le (by simp [hcs, hlen])
    rw [this]
    exact hf.mono hS hw
  · simp only [VR, lay_m_same, Blk.map]
    refine ⟨by omega, ?_⟩
    have : upd ρ k (some (w.heap.size, n)) k = some (w.heap.size, n) := by simp [upd]
    rw [this]
    exact ⟨_, _, rfl, rfl, Nat.le_refl _, hn, fun _ => ⟨rfl, rfl⟩, fun _ => by simp⟩

theorem e_makeSlice (h : Rel A0 N w0 ρ σ a w) (T : TypeId) (l c : Operand) (k : Nat) (hk : k < N) (h1 : (tslice P T).isSome = true) (h2 : (tzero P (slT P T).1).isSome = true) (h3 : kOf (σ.ev l) = some .i64) (h4 : kOf (σ.ev c) = some .i64)
    (h5 : getZ (σ.ev c) = getZ (σ.ev l)) (h6 : 0 ≤ getZ (σ.ev l)) (h7 : LenOk (slT P T).2.2 (getZ (σ.ev l)).toNat) :
    Efs P E A0 N w0 a w ⟨some k, .makeSlice T l c, ty, pos, af, gd⟩ ((σ.lay k (.row (slT P T).1 (slT P T).2.1 (List.replicate (getZ (σ.ev l)).toNat (zrT P (slT P T).1)))).put (some k) (.own k 0 (getZ (σ.ev l)).toNat)) := by
  obtain ⟨e, inf, z, hu, hi, hz, hzs, hpos, hsl⟩ := slT_spec h1
  simp only [hsl] at h2 h7 ⊢
  have hl := VR_int64 (h.ev l) h3
  have hc := VR_int64 (h.ev c) h4
  rw [h5] at hc
  obtain ⟨n, hn⟩ := Int.eq_ofNat_of_zero_le h6
  rw [hn] at hl hc h7 ⊢
  simp only [Int.toNat_natCast] at h7 ⊢
  obtain ⟨hby, hmax⟩ := h7
  obtain ⟨inf', z', hi', hz', hzc⟩ := zrT_spec h2
  rw [hi] at hi'; cases hi'
  rw [hz] at hz'; cases hz'
  have hr := run_make (P := P) w T e inf z hu hi hz .i64 .i64 n n (by omega) (Int.le_refl _) (by rw [Int.mul_comm]; have : ((n * inf.bytes : Nat) : Int) ≤ 140737488355328 := by omega
                                                                                                 rw [Int.natCast_mul] at this; omega) (by simp [maxLen] at hmax; omega)
  simp only [Int.toNat_natCast] at hr
  have hzl : (zrT P e).length = inf.size := by
    have := (zcells_LR (ρ := ρ) (S := fun _ => True) (w := w) (m := σ.m) _ _ hzc).length
    simp at this; omega
  refine ⟨_, _, _, .inl ?_, fun _ => Ext.alloc _ _, row_new h k hk hpos (by simp) hmax (size_madeCells z.cells _) ⟨by simp [size_madeCells], fun i e' he => ?_⟩⟩
  · simp [execOp, hl, hc, hr, Sem.run_bind, Sem.run_pure, Result.andThen]
  · rw [List.getElem?_replicate] at he
    split at he
    case isFalse => cases he
    rename_i hlt
    cases he
    refine ⟨hzl, fun j u hu' => ?_⟩
    have hj : j < inf.size := by rw [← hzl]; exact (List.getElem?_eq_some_iff.1 hu').1
    have hzz := zcells_LR (ρ := ρ) (S := Sof A0 σ.B ρ σ.m w) (w := w) (m := σ.m) _ _ hzc
    obtain ⟨v, hv, hd⟩ := hzz.get j (.d u) (by simp [hu'])
    simp only [VR] at hd
    refine ⟨v, ?_, hd⟩
    have hidx := idx_lt hlt hj
    have hmod : (i * inf.size + j) % z.cells.size = j := by
      rw [hzs, Nat.add_comm, Nat.add_mul_mod_self_right, Nat.mod_eq_of_lt hj]
    have hj' : j < z.cells.size := by omega
    have hvj : z.cells[j] = v := by simpa [hj'] using hv
    simp [madeCells, hidx, hmod, hj', hvj]

/-- a block of the call's own is written -/
theorem Rel.setBlk (h : Rel A0 N w0 ρ σ a w) {k : Nat} {b b' : Blk} (hm : σ.m k = some b) {w' : World} (hrow : isRow (some b') = isRow (some b)) (hbel : Bel A0.G w0.heap.size w0 w') (hsz : w.heap.size ≤ w'.heap.size)
    (hsame : ∀ g, (∀ p, ρ k = some p → p.1 ≠ g) → w'.heap[g]? = w.heap[g]?)
    (hk : ∀ j, KC ρ σ.m ρ (upd σ.m k (some b')) j)
    (hb : (∀ g, Sof A0 σ.B ρ σ.m w g → Sof A0 σ.B ρ (upd σ.m k (some b')) w' g) → (∀ g, Sof A0 σ.B ρ σ.m w g → w'.heap[g]? = w.heap[g]?) →
      BlkR A0.G ρ (upd σ.m k (some b')) (Sof A0 σ.B ρ (upd σ.m k (some b')) w') σ.B w' (ρ k) b') :
    Rel A0 N w0 ρ { σ with m := upd σ.m k (some b') } a w' := by
  have hback : ∀ j c, upd σ.m k (some b') j = some c → ∃ c0, σ.m j = some c0 := by
    intro j c hj
    by_cases hjk : j = k
    · subst hjk; exact ⟨b, hm⟩
    · simp only [upd, hjk, if_false] at hj; exact ⟨c, hj⟩
  have hS : ∀ g, Sof A0 σ.B ρ σ.m w g → Sof A0 σ.B ρ (upd σ.m k (some b')) w' g := by
    intro g hg
    refine ⟨hg.1, by have := hg.2.1; omega, fun j c hj p hp => ?_⟩
    obtain ⟨c0, hc0⟩ := hback j c hj
    exact hg.2.2 j c0 hc0 p hp
  have hw : ∀ g, Sof A0 σ.B ρ σ.m w g → w'.heap[g]? = w.heap[g]? := fun g hg => hsame g fun p hp => hg.2.2 k b hm p hp
  have hold : ∀ j c p, j ≠ k → σ.m j = some c → ρ j = some p → w'.heap[p.1]? = w.heap[p.1]? := by
    intro j c p hjk hj hp
    exact hsame p.1 fun q hq heq => hjk (h.inj j k c b p q hj hm hp hq heq.symm)
  refine ⟨hbel, h.hN, h.key, ?_, h.hG, h.hB, Nat.le_trans h.hs hsz, h.hs0, h.defers, h.size, fun i => VR.mono hS hw hk _ _ (h.tmps i), fun j c hj => ?_, fun j j' c c' p p' hj hj' hp hp' heq => ?_⟩
  · show isRow (upd σ.m k (some b') 1000) = false
    have := h.norow
    simp only [upd]
    split
    · rename_i h0; rw [h0, hm] at this; rw [hrow]; exact this
    · exact this
  · by_cases hjk : j = k
    · subst hjk
      simp only [upd, if_true] at hj
      cases hj
      exact hb hS hw
    · have hj' : σ.m j = some c := by simpa [upd, hjk] using hj
      have := h.mem j c hj'
      cases c with
      | box cs =>
        obtain ⟨g, cap, hr', hB, cur, T, hc, hl⟩ := this
        exact ⟨g, cap, hr', hB, cur, T, (hold j _ (g, cap) hjk hj' hr').trans hc, LR.mono hS hw hk _ _ hl⟩
      | row T sz es =>
        refine ⟨this.1, ?_⟩
        have h3 := this.2
        cases hr' : ρ j with
        | none => rw [hr'] at h3; exact h3
        | some p =>
          obtain ⟨g, cap⟩ := p
          rw [hr'] at h3
          obtain ⟨hB, hc1, hc2, cur, hc, hcs, hall⟩ := h3
          refine ⟨hB, hc1, hc2, cur, (hold j _ (g, cap) hjk hj' hr').trans hc, hcs, fun i e he => ⟨(hall i e he).1, fun n u hu => ?_⟩⟩
          obtain ⟨v, hv, hd⟩ := (hall i e he).2 n u hu
          exact ⟨v, hv, hd.mono hS hw⟩
  · obtain ⟨c0, hc0⟩ := hback j c hj
    obtain ⟨c0', hc0'⟩ := hback j' c' hj'
    exact h.inj j j' c0 c0' p p' hc0 hc0' hp hp' heq

theorem allD_get {l : List V} (h : l.all isD = true) (i : Nat) (c : V) (hc : l[i]? = some c) : c = .d (dD c) := by
  have := List.all_eq_true.1 h c (List.mem_of_getElem? hc)
  cases c <;> simp_all [isD, dD]

theorem LR.one {l : List V} {vs : List Value} {m : Nat → Option Blk} (h : LR ρ m S w l vs) (hl : l.all (live m) = true) : ∀ v ∈ vs, v.oneCell' = true := by
  intro v hv
  obtain ⟨n, hn⟩ := List.mem_iff_getElem?.1 hv
  have hlt : n < l.length := by rw [h.length]; exact (List.getElem?_eq_some_iff.1 hn).1
  obtain ⟨u, hu, hd⟩ := h.get n _ (List.getElem?_eq_getElem hlt)
  rw [hn] at hu; cases hu
  exact (live_cells hd (List.all_eq_true.1 hl _ (List.getElem_mem hlt))).2.2

theorem allD_live {l : List V} {m : Nat → Option Blk} (h : l.all isD = true) : l.all (live m) = true := by
  rw [List.all_eq_true] at h ⊢
  intro c hc
  have := h c hc
  cases c <;> simp_all [isD, live]
theorem allD_cellsOk {v : V} {m : Nat → Option Blk} (h : v.cells.all isD = true) : cellsOk m v := by
  cases v <;> simp_all [V.cells, isD, cellsOk]

theorem splice_take {α : Type} (l : List α) (off : Nat) (news : List α) : splice l off news = l.take off ++ news ++ l.drop (off + news.length) := rfl
theorem length_splice {α : Type} (l : List α) (off : Nat) (news : List α) (h : off + news.length ≤ l.length) : (splice l off news).length = l.length := by
  simp [splice]; omega
theorem get_splice {α : Type} (l : List α) (off : Nat) (news : List α) (h : off + news.length ≤ l.length) (i : Nat) :
    (splice l off news)[i]? = if off ≤ i ∧ i < off + news.length then news[i - off]? else l[i]? := by
  simp only [splice, List.getElem?_append, List.length_append, List.length_take, List.getElem?_take, List.getElem?_drop]
  grind

theorem mem_idsVL {c : V} : ∀ {l : List V}, c ∈ l → ∀ {i : Nat}, i ∈ c.ids → i ∈ idsVL l
  | [], h, _, _ => by cases h
  | b :: r, h, i, hi => by
    simp only [idsVL, List.mem_append]
    rcases List.mem_cons.1 h with rfl | h
    · exact .inl hi
    · exact .inr (mem_idsVL h hi)

theorem Bel.setRow {G : Nat → Prop} {B g : Nat} {cur new : Array Value} {T : TypeId} {f : Nat × Nat} (hg : w.heap[g]? = some (.cells cur T f)) (hn : new.size = cur.size) (hB : B ≤ g ∨ G g) : Bel G B w (w.setRow g new) := by
  refine ⟨rfl, rfl, rfl, by simp [World.setRow], fun j hj hG => setRow_other w g j _ (by rintro rfl; rcases hB with h | h; omega; exact hG h), fun j hj c T' f' hc => ?_⟩
  by_cases hjg : j = g
  · subst hjg
    rw [hg] at hc
    cases hc
    exact ⟨new, setRow_heap w j cur _ T _ hg, hn⟩
  · exact ⟨c, (setRow_other w g j _ hjg).trans hc, rfl⟩
theorem Shp.setRow {g : Nat} {cur new : Array Value} {T : TypeId} {f : Nat × Nat} (hg : w.heap[g]? = some (.cells cur T f)) (hn : new.size = cur.size) : Shp w (w.setRow g new) := by
  intro j c T' f' hc
  by_cases hjg : j = g
  · subst hjg
    rw [hg] at hc
    cases hc
    exact ⟨new, setRow_heap w j cur _ T _ hg, hn⟩
  · exact ⟨c, (setRow_other w g j _ hjg).trans hc, rfl⟩

theorem e_store (h : Rel A0 N w0 ρ σ a w) (T : TypeId) (x y : Operand) (hd : ∀ t, dst = some t → t < N) (hp : vpre P ⟨dst, .store T x y, ty, pos, af, gd⟩ σ) :
    Efs P E A0 N w0 a w ⟨dst, .store T x y, ty, pos, af, gd⟩ (veff P ⟨dst, .store T x y, ty, pos, af, gd⟩ σ) := by
  simp only [vpre, stOk] at hp
  obtain ⟨h1, hp⟩ := hp
  obtain ⟨sz, hsz⟩ := Option.isSome_iff_exists.1 h1
  have hszT : szT P T = sz := by simp [szT, hsz]
  rw [hszT] at hp
  cases hx : σ.ev x with
  | ptr k i off =>
    simp only [hx] at hp
    obtain ⟨hcl, hp⟩ := hp
    have hvx := h.ev x
    rw [hx] at hvx
    simp only [VR] at hvx
    have hvy := h.ev y
    cases hm : σ.m k with
    | none => simp [hm] at hp
    | some b =>
      have hb := h.mem k b hm
      have fin : ∀ (g o : Nat) (cur : Array Value) (Tb : TypeId) (b' : Blk), a.eval x = .pointer (some ⟨g, o, none⟩) → isRow (some b') = isRow (some b) → (∃ cap, ρ k = some (g, cap)) → w.heap[g]? = some (.cells cur Tb (0, 0)) → (σ.B ≤ g ∨ A0.G g) →
          cellsOk σ.m (σ.ev y) → (σ.ev y).cells.all (live σ.m) = true → o + (σ.ev y).cells.length ≤ cur.size → (∀ j, KC ρ σ.m ρ (upd σ.m k (some b')) j) →
          (∀ (vs : List Value) (w' : World), LR ρ σ.m (Sof A0 σ.B ρ σ.m w) w (σ.ev y).cells vs → vs.length = (σ.ev y).cells.length → w'.heap[g]? = some (.cells (splice cur.toList o vs).toArray Tb (0, 0)) →
            (∀ g, Sof A0 σ.B ρ σ.m w g → Sof A0 σ.B ρ (upd σ.m k (some b')) w' g) → (∀ g, Sof A0 σ.B ρ σ.m w g → w'.heap[g]? = w.heap[g]?) →
            BlkR A0.G ρ (upd σ.m k (some b')) (Sof A0 σ.B ρ (upd σ.m k (some b')) w') σ.B w' (ρ k) b') →
          Efs P E A0 N w0 a w ⟨dst, .store T x y, ty, pos, af, gd⟩ ({ σ with m := upd σ.m k (some b') }.put dst (.tup [])) := by
        intro g o cur Tb b' hax hrw ⟨cap, hρ⟩ hg hB hok hlv hfit hkc hblk
        have hLR := cells_LR hvy hok
        have hvl : (a.eval y).cells.toList.length = (σ.ev y).cells.length := hLR.length.symm
        have hst := run_storeCells_at P g o Tb (a.eval y).cells.toList 0 cur w hg (by simp only [Nat.add_zero]; omega) (LR.one hLR hlv)
        simp only [Nat.add_zero] at hst
        have hcsz : (a.eval y).cells.size = sz := by have := hvl; simp at this; omega
        have hbel : Bel A0.G w0.heap.size w (w.setRow g (cur.toList.take o ++ (a.eval y).cells.toList ++ cur.toList.drop (o + (a.eval y).cells.toList.length)).toArray) :=
          Bel.setRow hg (by simp at hvl ⊢; omega) (by rw [← h.hB]; exact hB)
        refine ⟨undef, _, ρ, .inr ⟨?_, rfl⟩, fun hE => (by simp [effOp] at hE), (h.setBlk hm hrw (h.below.trans hbel) (by simp [World.setRow]) (fun g' hno => setRow_other w g g' _ (fun heq => hno _ hρ heq.symm)) hkc
          (fun hS hw => hblk _ _ hLR hvl (setRow_heap w g cur _ Tb _ hg) hS hw)).put dst hd (by simp only [VR]; exact ⟨[], rfl, by simp [LR]⟩)⟩
        simp [execOp, Instr.storeAt, Instr.sureAddr, hax, storeVar, tsz_run hsz, hcsz, hst, Sem.run_bind, Sem.run_pure, Result.andThen]
      cases b with
      | box cs =>
        simp only [hm] at hp hvx
        obtain ⟨rfl, hfit, hok, hlv⟩ := hp
        obtain ⟨_, g, cap, hr, hax⟩ := hvx
        obtain ⟨g', cap', hr', hB, cur, Tb, hc, hl⟩ := hb
        rw [hr] at hr'; cases hr'
        have hcur : cs.length = cur.size := by simpa using hl.length
        have hkc : ∀ j, KC ρ σ.m ρ (upd σ.m k (some (.box (splice cs off (σ.ev y).cells)))) j := by
          intro j
          by_cases hjk : j = k
          · subst hjk; simp only [KC, upd, if_true]; exact ⟨trivial, cs, hm⟩
          · have := KC.refl (ρ := ρ) (m := σ.m) j
            unfold KC at this ⊢
            simpa [upd, hjk] using this
        have := fin g off cur Tb (.box (splice cs off (σ.ev y).cells)) hax rfl ⟨cap, hr⟩ hc hB hok hlv (by omega) hkc (fun vs w' hLR hlen hg' hS hw => by
          refine ⟨g, cap, hr, hB, _, Tb, hg', ?_⟩
          simp only
          exact (LR.mono hS hw hkc _ _ hl).splice (LR.mono hS hw hkc _ _ hLR) off)
        simpa only [veff, stSt, hx, hm] using this
      | row Te esz es =>
        simp only [hm] at hp
        obtain ⟨hi, hfit, hall⟩ := hp
        simp only [hm] at hvx
        obtain ⟨g, cap, hr, hax⟩ := hvx
        obtain ⟨hpos, hrow⟩ := hb
        rw [hr] at hrow
        obtain ⟨hB, hc1, hc2, cur, hc, hcs, hrows⟩ := hrow
        have he : es[i]? = some (es.getD i []) := by simp [List.getD, List.getElem?_eq_getElem hi]
        have hel := (hrows i _ he).1
        have hkc : ∀ j, KC ρ σ.m ρ (upd σ.m k (some (.row Te esz (es.set i (splice (es.getD i []) off ((σ.ev y).cells.map dD)))))) j := by
          intro j
          by_cases hjk : j = k
          · subst hjk; simp only [KC, upd, if_true]; exact ⟨trivial, Te, es, hm, by simp⟩
          · have := KC.refl (ρ := ρ) (m := σ.m) j
            unfold KC at this ⊢
            simpa [upd, hjk] using this
        have hidx : i * esz + off + (σ.ev y).cells.length ≤ cur.size := by
          have h1 : (i + 1) * esz ≤ cap * esz := Nat.mul_le_mul_right _ (by omega)
          rw [Nat.add_mul] at h1
          omega
        have := fin g (i * esz + off) cur Te (.row Te esz (es.set i (splice (es.getD i []) off ((σ.ev y).cells.map dD)))) hax rfl ⟨cap, hr⟩ hc (.inl hB) (allD_cellsOk hall) (allD_live hall) hidx hkc (fun vs w' hLR hlen hg' hS hw => by
          rw [hr]
          refine ⟨hpos, hB, hc1, by simpa using hc2, _, hg', by simp only [List.size_toArray]; rw [length_splice _ _ _ (by simp; omega)]; simpa using hcs, fun i' e' he' => ?_⟩
          rw [List.getElem?_set] at he'
          have hget : ∀ n, (splice cur.toList (i * esz + off) vs).toArray[n]? = if i * esz + off ≤ n ∧ n < i * esz + off + vs.length then vs[n - (i * esz + off)]? else cur[n]? := by
            intro n
            have := get_splice cur.toList (i * esz + off) vs (by simp; omega) n
            simpa using this
          split at he'
          · rename_i heq
            subst heq
            cases he'
            refine ⟨by rw [length_splice _ _ _ (by rw [List.length_map]; omega)]; exact hel, fun j u hu => ?_⟩
            rw [get_splice _ _ _ (by rw [List.length_map]; omega)] at hu
            rw [hget]
            simp only [List.length_map] at hu
            split at hu
            · rename_i hj
              rw [if_pos (by omega)]
              rw [List.getElem?_map] at hu
              cases hcj : (σ.ev y).cells[j - off]? with
              | none => simp [hcj] at hu
              | some c =>
                simp only [hcj, Option.map_some, Option.some.injEq] at hu
                obtain ⟨v, hv, hdv⟩ := hLR.get _ c hcj
                rw [allD_get hall _ _ hcj] at hdv
                simp only [VR] at hdv
                rw [hu] at hdv
                refine ⟨v, ?_, hdv.mono hS hw⟩
                rw [← hv]; congr 1; omega
            · rename_i hj
              have hjl : j < esz := by rw [← hel]; exact (List.getElem?_eq_some_iff.1 hu).1
              rw [if_neg (by omega)]
              obtain ⟨v, hv, hdv⟩ := (hrows i _ he).2 j u hu
              exact ⟨v, hv, hdv.mono hS hw⟩
          · rename_i hne
            refine ⟨(hrows i' e' he').1, fun j u hu => ?_⟩
            obtain ⟨v, hv, hdv⟩ := (hrows i' e' he').2 j u hu
            refine ⟨v, ?_, hdv.mono hS hw⟩
            rw [hget]
            have hjl : j < esz := by rw [← (hrows i' e' he').1]; exact (List.getElem?_eq_some_iff.1 hu).1
            rw [if_neg, hv]
            rintro ⟨h1, h2⟩
            have h3 : off + vs.length ≤ esz := by omega
            rcases Nat.lt_or_gt_of_ne hne with hlt | hgt
            · have : (i + 1) * esz ≤ i' * esz := Nat.mul_le_mul_right _ hlt
              rw [Nat.add_mul] at this
              omega
            · have : (i' + 1) * esz ≤ i * esz := Nat.mul_le_mul_right _ hgt
              rw [Nat.add_mul] at this
              omega)
        simpa only [veff, stSt, hx, hm] using this
  | fptr xd i off =>
    cases xd with
    | sl id wh es =>
      cases id with
      | none => simp [hx] at hp
      | some g =>
        cases wh with
        | none => simp [hx] at hp
        | some Te =>
          simp only [hx] at hp
          obtain ⟨hcl, hi, hfit, hall, hwr, hgy, hges⟩ := hp
          have hvx := h.ev x
          rw [hx] at hvx
          simp only [VR] at hvx
          obtain ⟨ad, n, c, sz0, hD, hsz0, _, hax⟩ := hvx
          have hvy := h.ev y
          cases hD with
          | sl _ _ _ _ _ sz' vs hSg hab hcap hm hszs hc hdd hw =>
            obtain ⟨rfl, ⟨hpos, hsz'⟩, cur, hcur, hcs⟩ := hw _ rfl
            have he : es[i]? = some (es.getD i []) := by simp [List.getD, List.getElem?_eq_getElem hi]
            have hel := hszs i _ he
            have hez : sz0 = sz' := by rw [← hel]; exact (hsz0 _ (List.mem_of_getElem? he)).symm
            subst hez
            rw [add_lit, Nat.zero_add] at hax
            have hok := allD_cellsOk (m := σ.m) hall
            have hlv := allD_live (m := σ.m) hall
            have hLR := cells_LR hvy hok
            have hvl : (a.eval y).cells.toList.length = (σ.ev y).cells.length := hLR.length.symm
            have hfit2 : i * sz0 + off + (σ.ev y).cells.length ≤ cur.size := by
              have h1 : (i + 1) * sz0 ≤ c * sz0 := Nat.mul_le_mul_right _ (by omega)
              rw [Nat.add_mul] at h1
              omega
            have hst := run_storeCells_at P g (i * sz0 + off) Te.1 (a.eval y).cells.toList 0 cur w hcur (by simp only [Nat.add_zero]; omega) (LR.one hLR hlv)
            simp only [Nat.add_zero] at hst
            have hcsz : (a.eval y).cells.size = sz := by have := hvl; simp at this; omega
            generalize hnew : (cur.toList.take (i * sz0 + off) ++ (a.eval y).cells.toList ++ cur.toList.drop (i * sz0 + off + (a.eval y).cells.toList.length)).toArray = new at hst
            have hnsz : new.size = cur.size := by rw [← hnew]; simp at hvl ⊢; omega
            have hget : ∀ n, new[n]? = if i * sz0 + off ≤ n ∧ n < i * sz0 + off + (a.eval y).cells.toList.length then (a.eval y).cells.toList[n - (i * sz0 + off)]? else cur[n]? := by
              intro n
              have := get_splice cur.toList (i * sz0 + off) (a.eval y).cells.toList (by have := hvl; simp only [Array.length_toList] at this ⊢; omega) n
              rw [← hnew]
              simpa [splice] using this
            have hGg : A0.G g ∨ σ.B ≤ g := by
              rcases hwr with h1 | h1
              · exact .inr h1
              · exact .inl (h.hG g h1)
            have hbel : Bel A0.G w0.heap.size w (w.setRow g new) := Bel.setRow hcur hnsz (by rw [← h.hB]; exact hGg.symm)
            have hcur' : (w.setRow g new).heap[g]? = some (.cells new Te.1 (0, 0)) := setRow_heap w g cur _ _ _ hcur
            have hother : ∀ j, j ≠ g → (w.setRow g new).heap[j]? = w.heap[j]? := fun j hj => setRow_other w g j _ hj
            have hre := h.re (one g (.sl (some g) (some Te) (es.set i (splice (es.getD i []) off ((σ.ev y).cells.map dD))))) (w' := w.setRow g new) (hs' := σ.hs) (h.below.trans hbel) (by simp [World.setRow]) (by have := h.hs; simpa [World.setRow] using this) (Nat.le_refl _)
              (fun j hj hn => hother j (by rintro rfl; simp [one] at hn)) (Shp.setRow hcur hnsz)
              (fun j hj k b hk p hp => by
                have : j = g := by
                  simp only [one] at hj
                  split at hj
                  · assumption
                  · simp at hj
                subst this
                exact hSg.2.2 k b hk p hp)
              (fun j T' es' hj => by
                have hjg : j = g := by
                  simp only [one] at hj
                  split at hj
                  · assumption
                  · cases hj
                subst hjg
                simp only [one, if_true, Option.some.injEq, D.sl.injEq, true_and] at hj
                obtain ⟨rfl, rfl⟩ := hj
                have hSnew : ∀ q, Sof A0 σ.B ρ σ.m w q → Sof A0 σ.B ρ (σ.re (one j (.sl (some j) (some Te) (es.set i (splice (es.getD i []) off ((σ.ev y).cells.map dD)))))).m (w.setRow j new) q := fun q hq =>
                  ⟨hq.1, by have := hq.2.1; simpa [World.setRow] using this, fun k b hk p hp => by obtain ⟨b0, hb0, _⟩ := re_m_back hk; exact hq.2.2 k b0 hb0 p hp⟩
                have mv : ∀ {u : D} {v : Value}, j ∉ u.ids → DR (Sof A0 σ.B ρ σ.m w) w u v → DR (Sof A0 σ.B ρ (σ.re (one j (.sl (some j) (some Te) (es.set i (splice (es.getD i []) off ((σ.ev y).cells.map dD)))))).m (w.setRow j new)) (w.setRow j new) u v := by
                  intro u v hju hdu
                  exact hdu.strong.mono (fun q hq => hSnew q hq.1) (fun q hq => hother q fun e => hju (e ▸ hq.2))
                refine ⟨.slice (some ⟨j, 0, none⟩) (es.set i (splice (es.getD i []) off ((σ.ev y).cells.map dD))).length c, ?_⟩
                have hspl : (splice (es.getD i []) off ((σ.ev y).cells.map dD)).length = sz0 := by rw [length_splice _ _ _ (by rw [List.length_map]; omega)]; exact hel
                have cells_of : ∀ (i' : Nat) (e : List D), (es.set i (splice (es.getD i []) off ((σ.ev y).cells.map dD)))[i']? = some e → e.length = sz0 ∧ ∀ (n : Nat) (u : D), e[n]? = some u →
                    ∃ v, new[i' * sz0 + n]? = some v ∧ DR (Sof A0 σ.B ρ (σ.re (one j (.sl (some j) (some Te) (es.set i (splice (es.getD i []) off ((σ.ev y).cells.map dD)))))).m (w.setRow j new)) (w.setRow j new) u v := by
                  intro i' e he'
                  rw [List.getElem?_set] at he'
                  split at he'
                  · rename_i heq
                    subst heq
                    cases he'
                    refine ⟨hspl, fun n u hu => ?_⟩
                    rw [get_splice _ _ _ (by rw [List.length_map]; omega)] at hu
                    rw [hget]
                    simp only [List.length_map] at hu
                    split at hu
                    · rename_i hj
                      rw [if_pos (by omega)]
                      rw [List.getElem?_map] at hu
                      cases hcj : (σ.ev y).cells[n - off]? with
                      | none => simp [hcj] at hu
                      | some cc =>
                        simp only [hcj, Option.map_some, Option.some.injEq] at hu
                        obtain ⟨v, hv, hdv⟩ := hLR.get _ cc hcj
                        have hcd := allD_get hall _ _ hcj
                        have hids : j ∉ cc.ids := fun hin => hgy (mem_idsVL (List.mem_of_getElem? hcj) hin)
                        rw [hcd] at hdv hids
                        simp only [VR, V.ids] at hdv hids
                        rw [hu] at hdv hids
                        refine ⟨v, ?_, mv hids hdv⟩
                        rw [← hv]; congr 1; omega
                    · rename_i hj
                      have hjl : n < sz0 := by rw [← hel]; exact (List.getElem?_eq_some_iff.1 hu).1
                      rw [if_neg (by omega)]
                      have h1 := hc i _ he n u hu
                      rw [add_lit, cell_of hcur, Nat.zero_add] at h1
                      exact ⟨_, h1, mv (fun hin => hges (mem_idsLL (List.mem_of_getElem? he) (mem_idsL (List.mem_of_getElem? hu) hin))) (hdd i _ he n u hu)⟩
                  · rename_i hne
                    refine ⟨hszs i' e he', fun n u hu => ?_⟩
                    have h1 := hc i' e he' n u hu
                    rw [add_lit, cell_of hcur, Nat.zero_add] at h1
                    refine ⟨_, ?_, mv (fun hin => hges (mem_idsLL (List.mem_of_getElem? he') (mem_idsL (List.mem_of_getElem? hu) hin))) (hdd i' e he' n u hu)⟩
                    rw [hget]
                    have hjl : n < sz0 := by rw [← hszs i' e he']; exact (List.getElem?_eq_some_iff.1 hu).1
                    rw [if_neg, h1]
                    rintro ⟨h1, h2⟩
                    have h3 : off + (a.eval y).cells.toList.length ≤ sz0 := by omega
                    rcases Nat.lt_or_gt_of_ne hne with hlt | hgt
                    · have : (i + 1) * sz0 ≤ i' * sz0 := Nat.mul_le_mul_right _ hlt
                      rw [Nat.add_mul] at this
                      omega
                    · have : (i' + 1) * sz0 ≤ i * sz0 := Nat.mul_le_mul_right _ hgt
                      rw [Nat.add_mul] at this
                      omega
                have hpick : ∀ n : Nat, ∃ v, ∀ (i' : Nat) (e : List D), (es.set i (splice (es.getD i []) off ((σ.ev y).cells.map dD)))[i']? = some e → ∀ (q : Nat) (u : D), e[q]? = some u → i' * sz0 + q = n → new[n]? = some v := by
                  intro n
                  cases hn : new[n]? with
                  | some v => exact ⟨v, fun _ _ _ _ _ _ _ => rfl⟩
                  | none =>
                    refine ⟨undef, fun i' e he' q u hu hq => ?_⟩
                    obtain ⟨v, hv, _⟩ := (cells_of i' e he').2 q u hu
                    rw [hq, hn] at hv
                    cases hv
                obtain ⟨vs', hvs'⟩ := Classical.axiomOfChoice hpick
                exact DR.sl j (some Te) _ ⟨j, 0, none⟩ c sz0 vs' (hSnew j hSg) (fun _ => rfl) (by simpa using hcap) hm (fun i' e he' => (cells_of i' e he').1)
                  (fun i' e he' q u hu => by rw [add_lit, cell_of hcur', Nat.zero_add]; exact hvs' _ i' e he' q u hu rfl)
                  (fun i' e he' q u hu => by
                    obtain ⟨v, hv, hdv⟩ := (cells_of i' e he').2 q u hu
                    have := hvs' _ i' e he' q u hu rfl
                    rw [this] at hv
                    cases hv
                    exact hdv)
                  (fun t' ht' => by cases ht'; exact ⟨rfl, ⟨hpos, hsz'⟩, new, hcur', by rw [hnsz]; exact hcs⟩))
            refine ⟨undef, w.setRow g new, ρ, .inr ⟨?_, rfl⟩, fun hE => (by simp [effOp] at hE), ?_⟩
            · simp [execOp, Instr.storeAt, Instr.sureAddr, hax, storeVar, tsz_run hsz, hcsz, hst, Sem.run_bind, Sem.run_pure, Result.andThen]
            · have := hre.put dst hd (v := .tup []) (val := undef) (by simp only [VR]; exact ⟨[], rfl, by simp [LR]⟩)
              simp only [veff, stSt, hx]
              exact this
    | _ => simp [hx] at hp
  | _ => simp [hx] at hp
end
end Go.Vs
