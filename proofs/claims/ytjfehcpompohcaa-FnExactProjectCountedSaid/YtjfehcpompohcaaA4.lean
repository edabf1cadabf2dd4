/-
  A4: a part of a proof of this seat: the value-level semantics of Go code without maps, its walk rules, the frame of a row, facts of types, schedules, walks, plain lemmas (Pl11 Pl12). It holds of every program and state that its hypotheses name.
-/
import Derived.Test.YtjfehcpompohcaaA3
set_option linter.unusedSimpArgs false
set_option linter.unusedVariables false
set_option linter.unnecessarySimpa false
namespace Go.Vs
theorem sttl_fst {α β : Type} (f : α → β) : ∀ (l : List α) (cs : List Int), ((sttl l cs).map Prod.fst).map f = (sttl (l.map f) cs).map Prod.fst
  | [], cs => by simp [sttl]
  | _ :: _, [] => by simp [sttl]
  | a :: l, c :: cs => by
    have := sttl_fst f l cs
    simp only [sttl] at this
    by_cases h : c = 0 <;> simp [sttl, h] <;> simpa using this
theorem sttl_snd {α β : Type} (f : α → β) : ∀ (l : List α) (cs : List Int), (sttl l cs).map Prod.snd = (sttl (l.map f) cs).map Prod.snd
  | [], cs => by simp [sttl]
  | _ :: _, [] => by simp [sttl]
  | a :: l, c :: cs => by
    have := sttl_snd f l cs
    simp only [sttl] at this
    by_cases h : c = 0 <;> simp [sttl, h] <;> simpa using this
theorem sttl_sub {α : Type} : ∀ (l : List α) (cs : List Int), ((sttl l cs).map Prod.fst).Sublist l
  | [], cs => by simp [sttl]
  | _ :: _, [] => by simp [sttl]
  | a :: l, c :: cs => by
    have := sttl_sub l cs
    simp only [sttl] at this
    by_cases h : c = 0
    · simp only [sttl, List.zip_cons_cons, List.filter_cons, h]; simp; exact this.cons a
    · simp only [sttl, List.zip_cons_cons, List.filter_cons, h]; simp [h]; exact this
theorem ids_sub {α : Type} {c : α → List D} {l l' : List α} (h : l'.Sublist l) : (idsLL (l'.map c)).Sublist (idsLL (l.map c)) := by
  induction h with
  | slnil => simp
  | cons a _ ih => simp only [List.map_cons, idsLL]; exact ih.trans (List.sublist_append_right _ _)
  | cons_cons a _ ih => simp only [List.map_cons, idsLL]; exact (List.Sublist.refl _).append ih
theorem good_Cnt2 {B : Nat} {ar : Int} {rows : List Ints} {g1 g2 : Option Nat} {T1 T2 : TypeId × Nat} {cs : List Int}
    (hnd : (idsLL (rows.map (cS cI))).Nodup) (hlo : ∀ g ∈ idsLL (rows.map (cS cI)), B ≤ g) (hwh : ∀ r ∈ rows, whS whI r)
    (q1 : ∀ g, g1 = some g → B ≤ g ∧ g ∉ idsLL (rows.map (cS cI))) (e1 : rows ≠ [] → g1 ≠ none)
    (q2 : ∀ g, g2 = some g → B ≤ g ∧ g ∉ idsLL (rows.map (cS cI))) (e2 : cs ≠ [] → g2 ≠ none) (hne : ∀ g, g1 = some g → g2 = some g → False) :
    Good (cCnt ⟨ar, ⟨g1, some T1, rows⟩, ⟨g2, some T2, cs⟩⟩) (whCnt ⟨ar, ⟨g1, some T1, rows⟩, ⟨g2, some T2, cs⟩⟩) B := by
  refine good_Cnt (good_row (fun g h => (q1 g h).1) e1 (fun g h => (q1 g h).2) ⟨hnd, hlo⟩ hwh) (Nat.le_refl _) (fun g h => (q2 g h).1) e2 fun g h hm => ?_
  rcases mem_sl_ids.1 hm with hm | hm
  · exact hne g hm h
  · exact (q2 g h).2 hm
theorem tally_good {B B' n1 : Nat} {ar : Int} {rid cid : Option Nat} {rT cT : Option (TypeId × Nat)} {l : List Ints} {cs cs' : List Int} {w : Ints} {k : Nat} {g1 g2 : Option Nat} {T1 T2 : TypeId × Nat}
    (hB' : B' ≤ B) (G : Good (cCnt ⟨ar, ⟨rid, rT, l⟩, ⟨cid, cT, cs⟩⟩) (whCnt ⟨ar, ⟨rid, rT, l⟩, ⟨cid, cT, cs⟩⟩) B') (hlt : ∀ g ∈ idsL (cCnt ⟨ar, ⟨rid, rT, l⟩, ⟨cid, cT, cs⟩⟩), g < B) (hn1 : B ≤ n1) (Gw : Good (cS cI w) (whS whI w) n1)
    (q1 : ∀ g, g1 = some g → B ≤ g) (r1 : ∀ g, g1 = some g → g ∉ idsLL ((l.take k ++ w :: l.drop k).map (cS cI))) (e1 : g1 ≠ none)
    (q2 : ∀ g, g2 = some g → B ≤ g) (r2 : ∀ g, g2 = some g → g ∉ idsLL ((l.take k ++ w :: l.drop k).map (cS cI))) (e2 : g2 ≠ none) (hne : ∀ g, g1 = some g → g2 = some g → False) :
    Good (cCnt ⟨ar, ⟨g1, some T1, l.take k ++ w :: l.drop k⟩, ⟨g2, some T2, cs'⟩⟩) (whCnt ⟨ar, ⟨g1, some T1, l.take k ++ w :: l.drop k⟩, ⟨g2, some T2, cs'⟩⟩) B' := by
  have hsub : ∀ g ∈ idsLL (l.map (cS cI)), g ∈ idsL (cCnt ⟨ar, ⟨rid, rT, l⟩, ⟨cid, cT, cs⟩⟩) := fun g hg => by
    rw [cCnt, idsL_app, idsL_app, idsL_cS, idsL_cS]
    have : g ∈ (dSl (cS cI) ⟨rid, rT, l⟩).ids := mem_sl_ids.2 (.inr hg)
    simp [this]
  have hnd : (idsLL (l.map (cS cI))).Nodup := by
    have := G.nd
    rw [cCnt, idsL_app, idsL_app, idsL_cS, idsL_cS] at this
    exact (sl_nd (List.nodup_append.1 (List.nodup_append.1 this).1).2.1).1
  have hp : (idsLL ((l.take k ++ w :: l.drop k).map (cS cI))).Perm (idsL (cS cI w) ++ idsLL (l.map (cS cI))) := by
    have e : idsLL (l.map (cS cI)) = idsLL ((l.take k).map (cS cI)) ++ idsLL ((l.drop k).map (cS cI)) := by
      rw [← idsLL_append, ← List.map_append, List.take_append_drop]
    rw [e, List.map_append, idsLL_append, List.map_cons]
    simp only [idsLL]
    exact List.perm_append_comm_assoc _ _ _
  refine good_Cnt2 (hp.nodup_iff.2 (List.nodup_append.2 ⟨Gw.nd, hnd, fun a ha b hb hab => ?_⟩)) (fun g hg => ?_) (fun r hr => ?_) (fun g h => ⟨Nat.le_trans hB' (q1 g h), r1 g h⟩) (fun _ => e1) (fun g h => ⟨Nat.le_trans hB' (q2 g h), r2 g h⟩) (fun _ => e2) hne
  · subst hab
    have h1 := Gw.lo a ha
    have h2 := hlt a (hsub a hb)
    omega
  · rcases List.mem_append.1 (hp.mem_iff.1 hg) with h | h
    · have := Gw.lo g h; omega
    · exact G.lo g (hsub g h)
  · rcases List.mem_append.1 hr with h | h
    · exact G.wh.2.1.2 r (List.mem_of_mem_take h)
    · rcases List.mem_cons.1 h with h | h
      · subst h; exact Gw.wh
      · exact G.wh.2.1.2 r (List.mem_of_mem_drop h)
theorem talC_snoc : ∀ (r : List (List Int)) (s : List Int) (l : List (List Int)) (cs : List Int) (x : List Int) (n : Int), s.length = r.length →
    talC l cs (r ++ [x]) (s ++ [n]) = insC (r.foldl insR l) (talC l cs r s) x n
  | [], [], l, cs, x, n, _ => rfl
  | [], _ :: _, _, _, _, _, h => by simp at h
  | _ :: _, [], _, _, _, _, h => by simp at h
  | y :: r, m :: s, l, cs, x, n, h => by
    simp only [List.cons_append, talC, List.foldl_cons]
    exact talC_snoc r s _ _ x n (by simpa using h)
/-- the counts while the rows of b are added one by one -/
theorem tal_bd {l r2 : List (List Int)} {cs c2 : List Int} {M : Int} (hM : 0 ≤ M) (hs : Srt l) (h : cs.length = l.length) (h2 : c2.length = r2.length) (h3 : ∀ c ∈ cs, -M ≤ c ∧ c ≤ M) (h4 : ∀ c ∈ c2, -M ≤ c ∧ c ≤ M) :
    ∀ c ∈ talC l cs r2 c2, -((l.length + r2.length : Int) * M) ≤ c ∧ c ≤ (l.length + r2.length : Int) * M := by
  intro c hc
  obtain ⟨e1, e2⟩ := talC_spec r2 c2 l cs h h2
  have e3 := look_all (fold_srt r2 l hs).1 e1
  rw [e3] at hc
  obtain ⟨y, _, rfl⟩ := List.mem_map.1 hc
  rw [e2]
  have b1 := lkC_bound hM y (l := l) (cs := cs) h3
  have b2 := lkC_bound hM y (l := r2) (cs := c2) h4
  rw [Int.add_mul]
  omega
/-- all rows before place i of b are added -/
structure TalI (a b : PCnt) (B : Nat) (p : Nat × Cnt) (h : Nat) : Prop where
  le : p.1 ≤ b.rows.length
  ar : p.2.ar = a.ar
  rows : (plCnt p.2).rows = (b.rows.take p.1).foldl insR a.rows
  cs : (plCnt p.2).cs = talC a.rows a.cs (b.rows.take p.1) (b.cs.take p.1)
  ok : okCnt p.2
  good : Good (cCnt p.2) (whCnt p.2) B
  hi : ∀ g ∈ idsL (cCnt p.2), g < h
theorem TalI.bd {a b : PCnt} {B h : Nat} {p : Nat × Cnt} (t : TalI a b B p h) (hs : Srt a.rows) (ha : a.cs.length = a.rows.length) (hb : b.cs.length = b.rows.length) (h1 : a.rows.length ≤ 4000) (h2 : b.rows.length ≤ 4000)
    (h3 : ∀ c ∈ a.cs, -1000000 ≤ c ∧ c ≤ 1000000) (h4 : ∀ c ∈ b.cs, -1000000 ≤ c ∧ c ≤ 1000000) :
    p.2.rows.xs.length ≤ 8000 ∧ p.2.cs.xs.length = p.2.rows.xs.length ∧ ∀ v ∈ p.2.cs.xs, -1000000000000 ≤ v ∧ v ≤ 1000000000000 := by
  have hl : (b.cs.take p.1).length = (b.rows.take p.1).length := by simp [hb]
  have e1 := (fold_srt (b.rows.take p.1) a.rows hs).2.2
  have e2 := (talC_spec (b.rows.take p.1) (b.cs.take p.1) a.rows a.cs ha hl).1
  rw [← t.rows] at e1 e2
  rw [← t.cs] at e2
  have e3 : (b.rows.take p.1).length ≤ 4000 := by rw [List.length_take]; omega
  have f1 : (plCnt p.2).rows.length = p.2.rows.xs.length := by simp [plCnt, plS]
  have f2 : (plCnt p.2).cs = p.2.cs.xs := by simp [plCnt, plS, map_plI]
  rw [f2] at e2
  refine ⟨by omega, by omega, fun v hv => ?_⟩
  have hv' : v ∈ talC a.rows a.cs (b.rows.take p.1) (b.cs.take p.1) := by rw [← t.cs, f2]; exact hv
  have := tal_bd (M := 1000000) (by omega) hs ha hl h3 (fun c hc => h4 c (List.mem_of_mem_take hc)) v hv'
  omega
theorem TalI.step {a b : PCnt} {B h m h' i : Nat} {y z : Cnt} (t : TalI a b B (i, y) h) (hb : b.cs.length = b.rows.length) (hi : i < b.rows.length) (hi2 : i < b.cs.length) (e : plCnt z = ⟨y.ar, insR (plCnt y).rows b.rows[i], insC (plCnt y).rows y.cs.xs b.rows[i] b.cs[i]⟩)
    (hok : okCnt z) (hBm : B ≤ m) (hm : h ≤ m) (G : ∀ B', B' ≤ m → Good (cCnt y) (whCnt y) B' → (∀ g ∈ idsL (cCnt y), g < m) → Good (cCnt z) (whCnt z) B') (hh : ∀ g ∈ idsL (cCnt z), g < h') : TalI a b B (i + 1, z) h' := by
  have er : (plCnt z).rows = insR (plCnt y).rows b.rows[i] := by rw [e]
  have ec : (plCnt z).cs = insC (plCnt y).rows (plCnt y).cs b.rows[i] b.cs[i] := by rw [e]; simp [plCnt, plS, map_plI]
  have ea : z.ar = y.ar := by have := congrArg PCnt.ar e; exact this
  refine ⟨hi, by rw [ea]; exact t.ar, ?_, ?_, hok, G B hBm t.good fun g hg => Nat.lt_of_lt_of_le (t.hi g hg) hm, hh⟩
  · rw [er, t.rows]
    simp only
    rw [List.take_succ_eq_append_getElem hi, List.foldl_append]; rfl
  · rw [ec, t.rows, t.cs]
    simp only
    rw [List.take_succ_eq_append_getElem hi, List.take_succ_eq_append_getElem hi2, talC_snoc _ _ _ _ _ _ (by simp [hb])]
/-- all rows are added -/
theorem TalI.fin {a b : PCnt} {B h i : Nat} {y : Cnt} (t : TalI a b B (i, y) h) (hi : b.rows.length ≤ i) (hs : Srt a.rows) (ha : a.cs.length = a.rows.length) (hb : b.cs.length = b.rows.length) :
    (plCnt y).rows = srtU (a.rows ++ b.rows) ∧ (plCnt y).cs = sumsOf (a.rows ++ b.rows) (a.cs ++ b.cs) := by
  obtain ⟨e1, e2⟩ := tal_sums hs ha hb
  have h1 := t.rows
  have h2 := t.cs
  simp only at h1 h2
  rw [List.take_of_length_le hi] at h1 h2
  rw [List.take_of_length_le (by omega)] at h2
  exact ⟨h1.trans e1, h2.trans e2⟩
theorem wp_cnt {c : PCnt} (h : cntsOk c = true) : wpTCnt c ≤ 24000 := by
  have h1 := wp_rows (cntsOk_rows h)
  have h2 := rowsOk_len (cntsOk_rows h)
  have h3 := cntsOk_len h
  simp only [wpTCnt, wpS_I]; omega
theorem wp_addCP (a b : PCnt) : wpTCnt (addCP a b) ≤ 24000 := by
  simp only [addCP]
  split
  · rename_i h
    simp only [addCB, sumB, Bool.and_eq_true] at h
    exact wp_cnt h.2.2
  · simp [wpTCnt, wpS]
theorem wp_projP (a : PCnt) (c : List Int) : wpTCnt (projP a c) ≤ 24000 := by
  simp only [projP]
  split
  · rename_i h
    simp only [projB, sumB, Bool.and_eq_true] at h
    exact wp_cnt h.2.2
  · simp [wpTCnt, wpS]
end Go.Vs

namespace Go.Vs
/-- a region with several orders: they meet again in what is known of the slots -/
theorem cutT {P : Program} {E : Md} {ops : Array Oper} {tr : Tr} {K : St → Prop} {B hs0 : Nat} {W : List Nat} {t0 : Nat → V} {m0 : Nat → Option Blk} {X : Type} (Inv : X → Nat → Prop) (S : X → List (Nat × V)) (M : X → List (Nat × Option Blk))
    (h1 : ∀ K' : St → Prop, (∀ x s, Inv x s.hs → s.B = B → s.W = W → hs0 ≤ s.hs → (∀ p ∈ S x, s.t p.1 = p.2) → (∀ p ∈ M x, s.m p.1 = p.2) → K' s) → vtr P E ops K' tr ⟨B, hs0, W, t0, m0⟩)
    (h2 : ∀ x hs t m, Inv x hs → hs0 ≤ hs → K ⟨B, hs, W, updL t (S x), updL m (M x)⟩) : vtr P E ops K tr ⟨B, hs0, W, t0, m0⟩ := by
  refine h1 K ?_
  rintro x ⟨B', hs', W', t', m'⟩ a1 a2 a3 a4 a5 a6
  simp only at a1 a2 a3 a4 a5 a6
  subst a2 a3
  have := h2 x hs' t' m' a1 a4
  rwa [updL_has a5, updL_has a6] at this
end Go.Vs
