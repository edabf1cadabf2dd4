/-
  A4: a part of a proof of this seat: the value-level semantics of Go code without maps, its walk rules, the frame of a row, facts of types, schedules, walks, plain lemmas (Pl11 Pl12 Pl13 Pl14 Pl15 Pl16 Pl17 Pl21 Pl22 Pl23 Pl24 Pl25 Pl26 Pl27 Pl28 Pl29 Pl30 Pl31 Pl32 Pl33 Pl34 Pl35 Pl36 Pl37 Pl38 Pl39 Pl40 Pl41 Pl42 Pl43 Pl44). It holds of every program and state that its hypotheses name.
-/
import Derived.Test.YtohbmjknaeenjaaA3
set_option linter.unusedSimpArgs false
set_option linter.unusedVariables false
set_option linter.unnecessarySimpa false
namespace Go.Vs
theorem sttl_fst {α β : Type} (f : α → β) : ∀ (l : List α) (cs : List Int), ((sttl l cs).map Prod.fst).map f = (sttl (l.map f) cs).map Prod.fst
  | [], cs => by simp [sttl]
  | _ :: _, [] => by simp [sttl]
  | a :: l, c :: cs => by
    have := sttl_fst f l cs
    simp only [sttl] at this
    by_cases h : c = 0 <;> simp [sttl, h] <;> simpa using this
theorem sttl_snd {α β : Type} (f : α → β) : ∀ (l : List α) (cs : List Int), (sttl l cs).map Prod.snd = (sttl (l.map f) cs).map Prod.snd
  | [], cs => by simp [sttl]
  | _ :: _, [] => by simp [sttl]
  | a :: l, c :: cs => by
    have := sttl_snd f l cs
    simp only [sttl] at this
    by_cases h : c = 0 <;> simp [sttl, h] <;> simpa using this
theorem sttl_sub {α : Type} : ∀ (l : List α) (cs : List Int), ((sttl l cs).map Prod.fst).Sublist l
  | [], cs => by simp [sttl]
  | _ :: _, [] => by simp [sttl]
  | a :: l, c :: cs => by
    have := sttl_sub l cs
    simp only [sttl] at this
    by_cases h : c = 0
    · simp only [sttl, List.zip_cons_cons, List.filter_cons, h]; simp; exact this.cons a
    · simp only [sttl, List.zip_cons_cons, List.filter_cons, h]; simp [h]; exact this
theorem ids_sub {α : Type} {c : α → List D} {l l' : List α} (h : l'.Sublist l) : (idsLL (l'.map c)).Sublist (idsLL (l.map c)) := by
  induction h with
  | slnil => simp
  | cons a _ ih => simp only [List.map_cons, idsLL]; exact ih.trans (List.sublist_append_right _ _)
  | cons_cons a _ ih => simp only [List.map_cons, idsLL]; exact (List.Sublist.refl _).append ih
theorem good_Cnt2 {B : Nat} {ar : Int} {rows : List Ints} {g1 g2 : Option Nat} {T1 T2 : TypeId × Nat} {cs : List Int}
    (hnd : (idsLL (rows.map (cS cI))).Nodup) (hlo : ∀ g ∈ idsLL (rows.map (cS cI)), B ≤ g) (hwh : ∀ r ∈ rows, whS whI r)
    (q1 : ∀ g, g1 = some g → B ≤ g ∧ g ∉ idsLL (rows.map (cS cI))) (e1 : rows ≠ [] → g1 ≠ none)
    (q2 : ∀ g, g2 = some g → B ≤ g ∧ g ∉ idsLL (rows.map (cS cI))) (e2 : cs ≠ [] → g2 ≠ none) (hne : ∀ g, g1 = some g → g2 = some g → False) :
    Good (cCnt ⟨ar, ⟨g1, some T1, rows⟩, ⟨g2, some T2, cs⟩⟩) (whCnt ⟨ar, ⟨g1, some T1, rows⟩, ⟨g2, some T2, cs⟩⟩) B := by
  refine good_Cnt (good_row (fun g h => (q1 g h).1) e1 (fun g h => (q1 g h).2) ⟨hnd, hlo⟩ hwh) (Nat.le_refl _) (fun g h => (q2 g h).1) e2 fun g h hm => ?_
  rcases mem_sl_ids.1 hm with hm | hm
  · exact hne g hm h
  · exact (q2 g h).2 hm
theorem tally_good {B B' n1 : Nat} {ar : Int} {rid cid : Option Nat} {rT cT : Option (TypeId × Nat)} {l : List Ints} {cs cs' : List Int} {w : Ints} {k : Nat} {g1 g2 : Option Nat} {T1 T2 : TypeId × Nat}
    (hB' : B' ≤ B) (G : Good (cCnt ⟨ar, ⟨rid, rT, l⟩, ⟨cid, cT, cs⟩⟩) (whCnt ⟨ar, ⟨rid, rT, l⟩, ⟨cid, cT, cs⟩⟩) B') (hlt : ∀ g ∈ idsL (cCnt ⟨ar, ⟨rid, rT, l⟩, ⟨cid, cT, cs⟩⟩), g < B) (hn1 : B ≤ n1) (Gw : Good (cS cI w) (whS whI w) n1)
    (q1 : ∀ g, g1 = some g → B ≤ g) (r1 : ∀ g, g1 = some g → g ∉ idsLL ((l.take k ++ w :: l.drop k).map (cS cI))) (e1 : g1 ≠ none)
    (q2 : ∀ g, g2 = some g → B ≤ g) (r2 : ∀ g, g2 = some g → g ∉ idsLL ((l.take k ++ w :: l.drop k).map (cS cI))) (e2 : g2 ≠ none) (hne : ∀ g, g1 = some g → g2 = some g → False) :
    Good (cCnt ⟨ar, ⟨g1, some T1, l.take k ++ w :: l.drop k⟩, ⟨g2, some T2, cs'⟩⟩) (whCnt ⟨ar, ⟨g1, some T1, l.take k ++ w :: l.drop k⟩, ⟨g2, some T2, cs'⟩⟩) B' := by
  have hsub : ∀ g ∈ idsLL (l.map (cS cI)), g ∈ idsL (cCnt ⟨ar, ⟨rid, rT, l⟩, ⟨cid, cT, cs⟩⟩) := fun g hg => by
    rw [cCnt, idsL_app, idsL_app, idsL_cS, idsL_cS]
    have : g ∈ (dSl (cS cI) ⟨rid, rT, l⟩).ids := mem_sl_ids.2 (.inr hg)
    simp [this]
  have hnd : (idsLL (l.map (cS cI))).Nodup := by
    have := G.nd
    rw [cCnt, idsL_app, idsL_app, idsL_cS, idsL_cS] at this
    exact (sl_nd (List.nodup_append.1 (List.nodup_append.1 this).1).2.1).1
  have hp : (idsLL ((l.take k ++ w :: l.drop k).map (cS cI))).Perm (idsL (cS cI w) ++ idsLL (l.map (cS cI))) := by
    have e : idsLL (l.map (cS cI)) = idsLL ((l.take k).map (cS cI)) ++ idsLL ((l.drop k).map (cS cI)) := by
      rw [← idsLL_append, ← List.map_append, List.take_append_drop]
    rw [e, List.map_append, idsLL_append, List.map_cons]
    simp only [idsLL]
    exact List.perm_append_comm_assoc _ _ _
  refine good_Cnt2 (hp.nodup_iff.2 (List.nodup_append.2 ⟨Gw.nd, hnd, fun a ha b hb hab => ?_⟩)) (fun g hg => ?_) (fun r hr => ?_) (fun g h => ⟨Nat.le_trans hB' (q1 g h), r1 g h⟩) (fun _ => e1) (fun g h => ⟨Nat.le_trans hB' (q2 g h), r2 g h⟩) (fun _ => e2) hne
  · subst hab
    have h1 := Gw.lo a ha
    have h2 := hlt a (hsub a hb)
    omega
  · rcases List.mem_append.1 (hp.mem_iff.1 hg) with h | h
    · have := Gw.lo g h; omega
    · exact G.lo g (hsub g h)
  · rcases List.mem_append.1 hr with h | h
    · exact G.wh.2.1.2 r (List.mem_of_mem_take h)
    · rcases List.mem_cons.1 h with h | h
      · subst h; exact Gw.wh
      · exact G.wh.2.1.2 r (List.mem_of_mem_drop h)
theorem talC_snoc : ∀ (r : List (List Int)) (s : List Int) (l : List (List Int)) (cs : List Int) (x : List Int) (n : Int), s.length = r.length →
    talC l cs (r ++ [x]) (s ++ [n]) = insC (r.foldl insR l) (talC l cs r s) x n
  | [], [], l, cs, x, n, _ => rfl
  | [], _ :: _, _, _, _, _, h => by simp at h
  | _ :: _, [], _, _, _, _, h => by simp at h
  | y :: r, m :: s, l, cs, x, n, h => by
    simp only [List.cons_append, talC, List.foldl_cons]
    exact talC_snoc r s _ _ x n (by simpa using h)
/-- the counts while the rows of b are added one by one -/
theorem tal_bd {l r2 : List (List Int)} {cs c2 : List Int} {M : Int} (hM : 0 ≤ M) (hs : Srt l) (h : cs.length = l.length) (h2 : c2.length = r2.length) (h3 : ∀ c ∈ cs, -M ≤ c ∧ c ≤ M) (h4 : ∀ c ∈ c2, -M ≤ c ∧ c ≤ M) :
    ∀ c ∈ talC l cs r2 c2, -((l.length + r2.length : Int) * M) ≤ c ∧ c ≤ (l.length + r2.length : Int) * M := by
  intro c hc
  obtain ⟨e1, e2⟩ := talC_spec r2 c2 l cs h h2
  have e3 := look_all (fold_srt r2 l hs).1 e1
  rw [e3] at hc
  obtain ⟨y, _, rfl⟩ := List.mem_map.1 hc
  rw [e2]
  have b1 := lkC_bound hM y (l := l) (cs := cs) h3
  have b2 := lkC_bound hM y (l := r2) (cs := c2) h4
  rw [Int.add_mul]
  omega
/-- all rows before place i of b are added -/
structure TalI (a b : PCnt) (B : Nat) (p : Nat × Cnt) (h : Nat) : Prop where
  le : p.1 ≤ b.rows.length
  ar : p.2.ar = a.ar
  rows : (plCnt p.2).rows = (b.rows.take p.1).foldl insR a.rows
  cs : (plCnt p.2).cs = talC a.rows a.cs (b.rows.take p.1) (b.cs.take p.1)
  ok : okCnt p.2
  good : Good (cCnt p.2) (whCnt p.2) B
  hi : ∀ g ∈ idsL (cCnt p.2), g < h
theorem TalI.bd {a b : PCnt} {B h : Nat} {p : Nat × Cnt} (t : TalI a b B p h) (hs : Srt a.rows) (ha : a.cs.length = a.rows.length) (hb : b.cs.length = b.rows.length) (h1 : a.rows.length ≤ 4000) (h2 : b.rows.length ≤ 4000)
    (h3 : ∀ c ∈ a.cs, -1000000 ≤ c ∧ c ≤ 1000000) (h4 : ∀ c ∈ b.cs, -1000000 ≤ c ∧ c ≤ 1000000) :
    p.2.rows.xs.length ≤ 8000 ∧ p.2.cs.xs.length = p.2.rows.xs.length ∧ ∀ v ∈ p.2.cs.xs, -1000000000000 ≤ v ∧ v ≤ 1000000000000 := by
  have hl : (b.cs.take p.1).length = (b.rows.take p.1).length := by simp [hb]
  have e1 := (fold_srt (b.rows.take p.1) a.rows hs).2.2
  have e2 := (talC_spec (b.rows.take p.1) (b.cs.take p.1) a.rows a.cs ha hl).1
  rw [← t.rows] at e1 e2
  rw [← t.cs] at e2
  have e3 : (b.rows.take p.1).length ≤ 4000 := by rw [List.length_take]; omega
  have f1 : (plCnt p.2).rows.length = p.2.rows.xs.length := by simp [plCnt, plS]
  have f2 : (plCnt p.2).cs = p.2.cs.xs := by simp [plCnt, plS, map_plI]
  rw [f2] at e2
  refine ⟨by omega, by omega, fun v hv => ?_⟩
  have hv' : v ∈ talC a.rows a.cs (b.rows.take p.1) (b.cs.take p.1) := by rw [← t.cs, f2]; exact hv
  have := tal_bd (M := 1000000) (by omega) hs ha hl h3 (fun c hc => h4 c (List.mem_of_mem_take hc)) v hv'
  omega
theorem TalI.step {a b : PCnt} {B h m h' i : Nat} {y z : Cnt} (t : TalI a b B (i, y) h) (hb : b.cs.length = b.rows.length) (hi : i < b.rows.length) (hi2 : i < b.cs.length) (e : plCnt z = ⟨y.ar, insR (plCnt y).rows b.rows[i], insC (plCnt y).rows y.cs.xs b.rows[i] b.cs[i]⟩)
    (hok : okCnt z) (hBm : B ≤ m) (hm : h ≤ m) (G : ∀ B', B' ≤ m → Good (cCnt y) (whCnt y) B' → (∀ g ∈ idsL (cCnt y), g < m) → Good (cCnt z) (whCnt z) B') (hh : ∀ g ∈ idsL (cCnt z), g < h') : TalI a b B (i + 1, z) h' := by
  have er : (plCnt z).rows = insR (plCnt y).rows b.rows[i] := by rw [e]
  have ec : (plCnt z).cs = insC (plCnt y).rows (plCnt y).cs b.rows[i] b.cs[i] := by rw [e]; simp [plCnt, plS, map_plI]
  have ea : z.ar = y.ar := by have := congrArg PCnt.ar e; exact this
  refine ⟨hi, by rw [ea]; exact t.ar, ?_, ?_, hok, G B hBm t.good fun g hg => Nat.lt_of_lt_of_le (t.hi g hg) hm, hh⟩
  · rw [er, t.rows]
    simp only
    rw [List.take_succ_eq_append_getElem hi, List.foldl_append]; rfl
  · rw [ec, t.rows, t.cs]
    simp only
    rw [List.take_succ_eq_append_getElem hi, List.take_succ_eq_append_getElem hi2, talC_snoc _ _ _ _ _ _ (by simp [hb])]
/-- all rows are added -/
theorem TalI.fin {a b : PCnt} {B h i : Nat} {y : Cnt} (t : TalI a b B (i, y) h) (hi : b.rows.length ≤ i) (hs : Srt a.rows) (ha : a.cs.length = a.rows.length) (hb : b.cs.length = b.rows.length) :
    (plCnt y).rows = srtU (a.rows ++ b.rows) ∧ (plCnt y).cs = sumsOf (a.rows ++ b.rows) (a.cs ++ b.cs) := by
  obtain ⟨e1, e2⟩ := tal_sums hs ha hb
  have h1 := t.rows
  have h2 := t.cs
  simp only at h1 h2
  rw [List.take_of_length_le hi] at h1 h2
  rw [List.take_of_length_le (by omega)] at h2
  exact ⟨h1.trans e1, h2.trans e2⟩
theorem wp_cnt {c : PCnt} (h : cntsOk c = true) : wpTCnt c ≤ 24000 := by
  have h1 := wp_rows (cntsOk_rows h)
  have h2 := rowsOk_len (cntsOk_rows h)
  have h3 := cntsOk_len h
  simp only [wpTCnt, wpS_I]; omega
theorem wp_addCP (a b : PCnt) : wpTCnt (addCP a b) ≤ 24000 := by
  simp only [addCP]
  split
  · rename_i h
    simp only [addCB, sumB, Bool.and_eq_true] at h
    exact wp_cnt h.2.2
  · simp [wpTCnt, wpS]
theorem wp_projP (a : PCnt) (c : List Int) : wpTCnt (projP a c) ≤ 24000 := by
  simp only [projP]
  split
  · rename_i h
    simp only [projB, sumB, Bool.and_eq_true] at h
    exact wp_cnt h.2.2
  · simp [wpTCnt, wpS]
end Go.Vs

namespace Go.Vs
/-- a region with several orders: they meet again in what is known of the slots -/
theorem cutT {P : Program} {E : Md} {ops : Array Oper} {tr : Tr} {K : St → Prop} {B hs0 : Nat} {W : List Nat} {t0 : Nat → V} {m0 : Nat → Option Blk} {X : Type} (Inv : X → Nat → Prop) (S : X → List (Nat × V)) (M : X → List (Nat × Option Blk))
    (h1 : ∀ K' : St → Prop, (∀ x s, Inv x s.hs → s.B = B → s.W = W → hs0 ≤ s.hs → (∀ p ∈ S x, s.t p.1 = p.2) → (∀ p ∈ M x, s.m p.1 = p.2) → K' s) → vtr P E ops K' tr ⟨B, hs0, W, t0, m0⟩)
    (h2 : ∀ x hs t m, Inv x hs → hs0 ≤ hs → K ⟨B, hs, W, updL t (S x), updL m (M x)⟩) : vtr P E ops K tr ⟨B, hs0, W, t0, m0⟩ := by
  refine h1 K ?_
  rintro x ⟨B', hs', W', t', m'⟩ a1 a2 a3 a4 a5 a6
  simp only at a1 a2 a3 a4 a5 a6
  subst a2 a3
  have := h2 x hs' t' m' a1 a4
  rwa [updL_has a5, updL_has a6] at this
end Go.Vs

namespace Go.Vs
theorem eqt_bad {α : Type} {a b : List α} {i : Nat} (h1 : i < a.length) (h2 : i < b.length) (h : a[i] ≠ b[i]) : a ≠ b := by rintro rfl; exact h rfl
theorem eqt_step {α : Type} {a b : List α} {i : Nat} (hi : a.take i = b.take i) (h1 : i < a.length) (h2 : i < b.length) (h : a[i] = b[i]) : a.take (i + 1) = b.take (i + 1) := by
  rw [List.take_succ_eq_append_getElem h1, List.take_succ_eq_append_getElem h2, hi, h]
theorem eqt_done {α : Type} {a b : List α} {i : Nat} (hi : a.take i = b.take i) (h : a.length ≤ i) (hl : a.length = b.length) : a = b := by
  rwa [List.take_of_length_le h, List.take_of_length_le (by omega)] at hi
theorem eqt_len {α : Type} {a b : List α} (h : a.length ≠ b.length) : a ≠ b := by rintro rfl; exact h rfl
/-- the first i elements are the same -/
structure EqTo {α : Type} (a b : List α) (i : Nat) : Prop where
  le : i ≤ a.length
  eq : a.take i = b.take i
theorem EqTo.zero {α : Type} {a b : List α} : EqTo a b 0 := ⟨by omega, by simp⟩
end Go.Vs

namespace Go.Vs
/-- a number in digits -/
def decN (n : Nat) : List UInt8 := if n < 10 then [UInt8.ofNat (48 + n)] else decN (n / 10) ++ [UInt8.ofNat (48 + n % 10)]
termination_by n
decreasing_by omega
def decZ (n : Int) : List UInt8 := if n < 0 then 45 :: decN n.natAbs else decN n.natAbs
theorem decN_lt {n : Nat} (h : n < 10) : decN n = [UInt8.ofNat (48 + n)] := by rw [decN, if_pos h]
theorem decN_ge {n : Nat} (h : ¬ n < 10) : decN n = decN (n / 10) ++ [UInt8.ofNat (48 + n % 10)] := by rw [decN, if_neg h]
theorem decN_len : ∀ (k n : Nat), n < 10 ^ (k + 1) → (decN n).length ≤ k + 1
  | 0, n, h => by rw [decN_lt (by simpa using h)]; simp
  | k + 1, n, h => by
    by_cases h1 : n < 10
    · rw [decN_lt h1]; simp
    · rw [decN_ge h1, List.length_append]
      have := decN_len k (n / 10) (by rw [Nat.pow_succ] at h; omega)
      simp; omega
theorem decN_len20 {n : Nat} (h : n ≤ 9223372036854775808) : (decN n).length ≤ 20 := decN_len 19 n (by omega)
theorem decZ_len {n : Int} (h : -9223372036854775808 ≤ n ∧ n ≤ 9223372036854775807) : (decZ n).length ≤ 21 := by
  have := decN_len20 (n := n.natAbs) (by omega)
  unfold decZ; split <;> simp <;> omega
theorem u8_digit (d : Nat) (h : d < 10) : cU8 (UInt8.ofNat (48 + d)) = [.int .u8 (48 + d : Int)] := by
  have : (UInt8.ofNat (48 + d)).toNat = 48 + d := by simp; omega
  show [D.int .u8 (((UInt8.ofNat (48 + d)).toNat : Nat) : Int)] = _
  rw [this]; simp
/-- the name of a variable -/
def varNm (v : Int) : List UInt8 := if inR v 0 4 then ([88, 89, 90, 85, 86].drop v.toNat).take 1 else []
theorem varNm_len (v : Int) : (varNm v).length ≤ 1 := by
  unfold varNm; split
  · rw [List.length_take]; omega
  · simp
def varsS (l : List Int) : List UInt8 := l.flatMap varNm
theorem varsS_len (l : List Int) : (varsS l).length ≤ l.length := by
  induction l with
  | nil => simp [varsS]
  | cons a r ih => simp only [varsS, List.flatMap_cons, List.length_append, List.length_cons] at ih ⊢; have := varNm_len a; omega
theorem varsS_step {l : List Int} {i : Nat} (h : i < l.length) : varsS (l.take (i + 1)) = varsS (l.take i) ++ varNm l[i] := by
  unfold varsS
  rw [List.take_succ_eq_append_getElem h, List.flatMap_append]
  simp only [List.flatMap_cons, List.flatMap_nil, List.append_nil]
def joinB (sep : List UInt8) : List (List UInt8) → List UInt8
  | [] => []
  | x :: r => x ++ r.flatMap fun y => sep ++ y
theorem joinB_snoc {sep x : List UInt8} {l : List (List UInt8)} : joinB sep (l ++ [x]) = joinB sep l ++ (if l = [] then [] else sep) ++ x := by
  cases l with
  | nil => simp [joinB]
  | cons a r => simp [joinB]
theorem joinB_step {sep : List UInt8} {l : List (List UInt8)} {i : Nat} (h : i < l.length) : joinB sep (l.take (i + 1)) = joinB sep (l.take i) ++ (if i = 0 then [] else sep) ++ l[i] := by
  rw [List.take_succ_eq_append_getElem h, joinB_snoc]
  have : l.take i = [] ↔ i = 0 := by
    constructor
    · intro e
      have := congrArg List.length e
      rw [List.length_take, List.length_nil] at this; omega
    · rintro rfl; simp
  simp only [this]
/-- all pieces and as many separators -/
def strW (s : Nat) : List (List UInt8) → Nat
  | [] => 0
  | x :: r => x.length + s + strW s r
theorem joinB_len (sep : List UInt8) : ∀ l : List (List UInt8), (joinB sep l).length ≤ strW sep.length l
  | [] => by simp [joinB, strW]
  | x :: r => by
    have : ∀ r : List (List UInt8), (r.flatMap fun y => sep ++ y).length ≤ strW sep.length r := fun r => by
      induction r with
      | nil => simp [strW]
      | cons a r ih => simp only [List.flatMap_cons, List.length_append, strW] at ih ⊢; omega
    have := this r
    simp only [joinB, strW, List.length_append]; omega
theorem strW_take (s : Nat) : ∀ (l : List (List UInt8)) (i : Nat), strW s (l.take i) ≤ strW s l
  | [], i => by simp [strW]
  | x :: r, 0 => by simp [strW]
  | x :: r, i + 1 => by have := strW_take s r i; simp only [List.take_succ_cons, strW]; omega
theorem strW_at {s : Nat} : ∀ {l : List (List UInt8)} {i : Nat} (h : i < l.length), strW s (l.take i) + l[i].length + s ≤ strW s l
  | [], i, h => by simp at h
  | x :: r, 0, _ => by simp [strW]
  | x :: r, i + 1, h => by have := strW_at (s := s) (l := r) (i := i) (by simpa using h); simp only [List.take_succ_cons, strW, List.getElem_cons_succ]; omega
def fmtItem (b : List Int) (p : Int) : List UInt8 := [40] ++ varsS b ++ [41] ++ (if 0 ≤ p then decZ p else [])
def fmtIts (d : PDec) : List (List UInt8) := d.bags.zipWith fmtItem d.par
def fmtDec (d : PDec) : List UInt8 := if d.bags.length = d.par.length then joinB [32] (fmtIts d) else []
def inZ (n : Int) : Prop := -9223372036854775808 ≤ n ∧ n ≤ 9223372036854775807
theorem fmtItem_len (b : List Int) {p : Int} (h : inZ p) : (fmtItem b p).length ≤ b.length + 23 := by
  have h1 := varsS_len b
  have h2 := decZ_len h
  unfold fmtItem
  simp only [List.length_append]
  split <;> simp <;> omega
/-- the bags' lengths, and some bytes for each bag -/
def bagsW : List (List Int) → Nat
  | [] => 0
  | b :: r => b.length + 30 + bagsW r
theorem fmtIts_W : ∀ (bs : List (List Int)) (ps : List Int), (∀ p ∈ ps, inZ p) → strW 1 (bs.zipWith fmtItem ps) ≤ bagsW bs
  | [], _, _ => by simp [strW, bagsW]
  | b :: r, [], _ => by simp [strW]
  | b :: r, p :: s, h => by
    have := fmtIts_W r s fun q hq => h q (by simp [hq])
    have := fmtItem_len b (h p (by simp))
    simp only [List.zipWith_cons_cons, strW, bagsW]; omega
theorem fmtIts_len (d : PDec) (h : d.bags.length = d.par.length) : (fmtIts d).length = d.bags.length := by simp [fmtIts, h]
theorem bagsW_le : ∀ (l : List (List Int)), bagsW l ≤ 30 * (l.length + (l.map List.length).sum)
  | [] => by simp [bagsW]
  | b :: r => by have := bagsW_le r; simp only [bagsW, List.length_cons, List.map_cons, List.sum_cons]; omega
theorem bagsW_sw (s : Sl Ints) : bagsW (plS (plS plI) s) ≤ 30 * swS (swS swI) s := by
  obtain ⟨id, T, xs⟩ := s
  simp only [plS, swS]
  induction xs with
  | nil => simp [bagsW]
  | cons a r ih =>
    have e : (plS plI a).length = a.xs.length := by simp [plS]
    simp only [List.map_cons, bagsW, List.length_cons, sumW_cons, swS] at ih ⊢
    omega
/-- the place in a walk over the bags -/
structure FmtI (bs : List (List Int)) (ps : List Int) (i : Nat) : Prop where
  le : i ≤ bs.length
  eq : 0 < i → bs.length = ps.length
end Go.Vs

namespace Go.Vs
def lowB (b : UInt8) : Bool := decide (97 ≤ b.toNat ∧ b.toNat ≤ 122)
theorem lowB_lo {b : UInt8} (h : (b.toNat : Int) < 97) : lowB b = false := by simp only [lowB, decide_eq_false_iff_not]; omega
theorem lowB_hi {b : UInt8} (h : (122 : Int) < (b.toNat : Int)) : lowB b = false := by simp only [lowB, decide_eq_false_iff_not]; omega
theorem lowB_ok {b : UInt8} (h : ¬ (b.toNat : Int) < 97) (h' : ¬ (122 : Int) < (b.toNat : Int)) : lowB b = true := by simp only [lowB, decide_eq_true_eq]; omega
def nameOk (s : List UInt8) : Bool := decide (1 ≤ s.length ∧ s.length ≤ 4) && s.all lowB
theorem nameOk_bad {s : List UInt8} (h : s.all lowB = false) : nameOk s = false := by rw [nameOk, h, Bool.and_false]
theorem nameOk_len {s : List UInt8} (h : ¬ (1 ≤ s.length ∧ s.length ≤ 4)) : nameOk s = false := by rw [nameOk, decide_eq_false h, Bool.false_and]
theorem nameOk_ok {s : List UInt8} (h : s.all lowB = true) : nameOk s = decide (1 ≤ s.length ∧ s.length ≤ 4) := by rw [nameOk, h, Bool.and_true]
def setOf (l : List Int) (n : Int) : Bool := l.all (fun x => inR x 0 (IntKind.i64.wrap (n - 1))) && decide l.Nodup
def atomOk (n : Int) (a : PAtom) : Bool := nameOk a.rel && inR a.vars.length 1 5 && a.vars.all fun x => inR x 0 (IntKind.i64.wrap (n - 1))
def varsIn (l : List PAtom) : List Int := l.flatMap PAtom.vars
def usesAll (n : Int) (l : List PAtom) : Bool := (List.range n.toNat).all fun (v : Nat) => (varsIn l).contains (v : Int)
def queryOk (q : PQuery) : Bool := inR q.n 1 5 && inR q.atoms.length 1 4 && setOf q.out q.n && q.atoms.all (atomOk q.n) && usesAll q.n q.atoms
theorem nodup_len : ∀ (n : Nat) (l : List Int), l.Nodup → (∀ x ∈ l, 0 ≤ x ∧ x < n) → l.length ≤ n
  | 0, l, _, h => by
    cases l with
    | nil => simp
    | cons a r => have := h a (by simp); omega
  | n + 1, l, hn, h => by
    have h1 := nodup_len n (l.erase (n : Int)) (hn.erase _) fun x hx => by
      have h2 := h x (List.mem_of_mem_erase hx)
      have h3 := (hn.mem_erase_iff.1 hx).1
      omega
    rw [List.length_erase] at h1
    split at h1 <;> omega
theorem setOf_len {l : List Int} {n : Int} (hn : 1 ≤ n ∧ n ≤ 5) (h : setOf l n = true) : (l.length : Int) ≤ n := by
  simp only [setOf, Bool.and_eq_true, List.all_eq_true, decide_eq_true_eq] at h
  obtain ⟨m, rfl⟩ : ∃ m : Nat, n = (m : Int) := ⟨n.toNat, by omega⟩
  have := nodup_len m l h.2 fun x hx => by
    have := h.1 x hx
    rw [wrap64_of (by omega) (by omega)] at this
    simp only [inR, Bool.and_eq_true, decide_eq_true_eq] at this
    omega
  omega
/-- the place of an element -/
def idxL (l : List Int) (v : Int) : Int := if v ∈ l then ((l.takeWhile fun x => !(x == v)).length : Int) else -1
theorem idxL_at {l : List Int} {v : Int} {i : Nat} (h : AllTo (fun x => !(x == v)) l i) (hi : i < l.length) (e : l[i] = v) : idxL l v = i := by
  have hm : v ∈ l := e ▸ List.getElem_mem hi
  rw [idxL, if_pos hm, takeWhile_at h (by omega) (fun _ => by simp [e])]
theorem idxL_no {l : List Int} {v : Int} (h : (l.all fun x => !(x == v)) = true) : v ∉ l ∧ idxL l v = -1 := by
  have hm : v ∉ l := fun hm => by
    have := (List.all_eq_true.1 h) v hm
    simp at this
  exact ⟨hm, by rw [idxL, if_neg hm]⟩
theorem idxL_ge (l : List Int) (v : Int) : decide (0 ≤ idxL l v) = l.contains v := by
  by_cases h : v ∈ l
  · simp [idxL, h]
  · simp [idxL, h]
/-- the first i elements have the property; no earlier one is the same -/
structure SetTo (l : List Int) (n : Int) (i : Nat) : Prop where
  le : i ≤ l.length
  all : ∀ x ∈ l.take i, inR x 0 (IntKind.i64.wrap (n - 1)) = true
  nd : (l.take i).Nodup
theorem SetTo.zero {l : List Int} {n : Int} : SetTo l n 0 := ⟨by omega, by simp, by simp⟩
theorem SetTo.step {l : List Int} {n : Int} {i : Nat} (h : SetTo l n i) (hi : i < l.length) (h1 : inR l[i] 0 (IntKind.i64.wrap (n - 1)) = true) (h2 : l[i] ∉ l.take i) : SetTo l n (i + 1) := by
  refine ⟨hi, fun x hx => ?_, ?_⟩
  · rw [List.take_succ_eq_append_getElem hi] at hx
    rcases List.mem_append.1 hx with h' | h'
    · exact h.all x h'
    · simp only [List.mem_singleton] at h'; rw [h']; exact h1
  · rw [List.take_succ_eq_append_getElem hi]
    exact List.nodup_append.2 ⟨h.nd, by simp, fun a ha b hb e => by simp only [List.mem_singleton] at hb; subst hb; subst e; exact h2 ha⟩
theorem SetTo.done {l : List Int} {n : Int} {i : Nat} (h : SetTo l n i) (hi : l.length ≤ i) : setOf l n = true := by
  have h1 := h.all; have h2 := h.nd
  rw [List.take_of_length_le hi] at h1 h2
  simp only [setOf, Bool.and_eq_true, List.all_eq_true, decide_eq_true_eq]
  exact ⟨h1, h2⟩
theorem setOf_bad1 {l : List Int} {n : Int} {i : Nat} (hi : i < l.length) (h1 : inR l[i] 0 (IntKind.i64.wrap (n - 1)) = false) : setOf l n = false := by
  have : l.all (fun x => inR x 0 (IntKind.i64.wrap (n - 1))) = false := all_bad (p := fun x => inR x 0 (IntKind.i64.wrap (n - 1))) hi h1
  simp only [setOf, this, Bool.false_and]
theorem setOf_bad2 {l : List Int} {n : Int} {i : Nat} (hi : i < l.length) (h2 : l[i] ∈ l.take i) : setOf l n = false := by
  have : ¬ l.Nodup := fun hn => by
    have e : l = l.take i ++ l[i] :: l.drop (i + 1) := by rw [← List.drop_eq_getElem_cons hi, List.take_append_drop]
    rw [e] at hn
    exact (List.nodup_append.1 hn).2.2 _ h2 _ (List.mem_cons.2 (.inl rfl)) rfl
  simp only [setOf, this, decide_false, Bool.and_false]
/-- the atoms before place i are right; so are the variables before place k of the atom at i -/
structure AtI (n : Int) (l : List PAtom) (i : Nat) : Prop where
  le : i ≤ l.length
  ok : AllTo (atomOk n) l i
theorem AtI.zero {n : Int} {l : List PAtom} : AtI n l 0 := ⟨by omega, allTo_zero⟩
structure AtK (n : Int) (l : List Int) (k : Nat) : Prop where
  le : k ≤ l.length
  ok : AllTo (fun x => inR x 0 (IntKind.i64.wrap (n - 1))) l k
theorem AtK.zero {n : Int} {l : List Int} : AtK n l 0 := ⟨by omega, allTo_zero⟩
theorem AtK.step {n : Int} {l : List Int} {k : Nat} (h : AtK n l k) (hk : k < l.length) (e : inR l[k] 0 (IntKind.i64.wrap (n - 1)) = true) : AtK n l (k + 1) := ⟨hk, allTo_step h.ok hk e⟩
theorem atomOk_bad {n : Int} {a : PAtom} {k : Nat} (hk : k < a.vars.length) (e : inR a.vars[k] 0 (IntKind.i64.wrap (n - 1)) = false) : atomOk n a = false := by
  have : a.vars.all (fun x => inR x 0 (IntKind.i64.wrap (n - 1))) = false := all_bad (p := fun x => inR x 0 (IntKind.i64.wrap (n - 1))) hk e
  simp only [atomOk, this, Bool.and_false]
theorem atomOk_done {n : Int} {a : PAtom} {k : Nat} (h : AtK n a.vars k) (hk : a.vars.length ≤ k) (h1 : nameOk a.rel = true) (h2 : inR a.vars.length 1 5 = true) : atomOk n a = true := by
  have := allTo_done h.ok hk
  simp only [atomOk, h1, h2, this]; rfl
theorem AtI.step {n : Int} {l : List PAtom} {i : Nat} (h : AtI n l i) (hi : i < l.length) (e : atomOk n l[i] = true) : AtI n l (i + 1) := ⟨hi, allTo_step h.ok hi e⟩
theorem queryOk_n {q : PQuery} (h : inR q.n 1 5 = false) : queryOk q = false := by simp only [queryOk, h, Bool.false_and]
theorem queryOk_a {q : PQuery} (h : inR q.atoms.length 1 4 = false) : queryOk q = false := by simp only [queryOk, h, Bool.false_and, Bool.and_false]
theorem queryOk_o {q : PQuery} (h : setOf q.out q.n = false) : queryOk q = false := by simp only [queryOk, h, Bool.false_and, Bool.and_false]
theorem queryOk_at {q : PQuery} {i : Nat} (hi : i < q.atoms.length) (h : atomOk q.n q.atoms[i] = false) : queryOk q = false := by
  have : q.atoms.all (atomOk q.n) = false := all_bad hi h
  simp only [queryOk, this, Bool.false_and, Bool.and_false]
theorem queryOk_u {q : PQuery} (h : usesAll q.n q.atoms = false) : queryOk q = false := by simp only [queryOk, h, Bool.and_false]
theorem queryOk_all {q : PQuery} (h1 : inR q.n 1 5 = true) (h2 : inR q.atoms.length 1 4 = true) (h3 : setOf q.out q.n = true) (h4 : q.atoms.all (atomOk q.n) = true) (h5 : usesAll q.n q.atoms = true) : queryOk q = true := by
  simp only [queryOk, h1, h2, h3, h4, h5]; rfl
/-- one of the first i atoms has the variable -/
def hasTo (l : List PAtom) (v : Int) (i : Nat) : Bool := (l.take i).any fun a => a.vars.contains v
theorem hasTo_zero (l : List PAtom) (v : Int) : hasTo l v 0 = false := by simp [hasTo]
theorem hasTo_step {l : List PAtom} {v : Int} {i : Nat} (hi : i < l.length) : hasTo l v (i + 1) = (hasTo l v i || l[i].vars.contains v) := by
  rw [hasTo, List.take_succ_eq_append_getElem hi, List.any_append]; simp [hasTo]
theorem hasTo_all {l : List PAtom} {v : Int} {i : Nat} (hi : l.length ≤ i) : hasTo l v i = (varsIn l).contains v := by
  rw [hasTo, List.take_of_length_le hi, Bool.eq_iff_iff]
  simp [varsIn]
structure UsTo (n : Int) (l : List PAtom) (v : Nat) : Prop where
  le : v ≤ n.toNat
  ok : AllTo (fun (v : Nat) => (varsIn l).contains (v : Int)) (List.range n.toNat) v
theorem UsTo.zero {n : Int} {l : List PAtom} : UsTo n l 0 := ⟨by omega, allTo_zero⟩
theorem UsTo.step {n : Int} {l : List PAtom} {v : Nat} (h : UsTo n l v) (hv : v < n.toNat) (e : (varsIn l).contains (v : Int) = true) : UsTo n l (v + 1) :=
  ⟨hv, allTo_step h.ok (by simpa using hv) (by simpa using e)⟩
theorem usesAll_bad {n : Int} {l : List PAtom} {v : Nat} (hv : v < n.toNat) (e : (varsIn l).contains (v : Int) = false) : usesAll n l = false :=
  all_bad (p := fun (v : Nat) => (varsIn l).contains (v : Int)) (l := List.range n.toNat) (i := v) (by simpa using hv) (by simpa using e)
theorem UsTo.done {n : Int} {l : List PAtom} {v : Nat} (h : UsTo n l v) (hv : n.toNat ≤ v) : usesAll n l = true := allTo_done h.ok (by simpa using hv)
/-- which numbers below n are among these -/
def usedL (n : Nat) (vs : List Int) : List Bool := (List.range n).map fun (j : Nat) => vs.contains (j : Int)
@[simp] theorem usedL_length (n : Nat) (vs : List Int) : (usedL n vs).length = n := by simp [usedL]
theorem usedL_nil (n : Nat) : usedL n [] = List.replicate n false := by
  apply List.ext_getElem (by simp)
  intro i h1 h2; simp [usedL]
theorem usedL_snoc {n k : Nat} {vs : List Int} (h : k < n) : (usedL n vs).set k true = usedL n (vs ++ [(k : Int)]) := by
  apply List.ext_getElem (by simp)
  intro i h1 h2
  simp only [List.length_set, usedL_length] at h1
  rw [List.getElem_set]
  simp only [usedL, List.getElem_map, List.getElem_range]
  by_cases e : k = i
  · subst e; simp
  · have : ¬ ((i : Int) = (k : Int)) := by omega
    simp [e, this]
theorem usesAll_iff {n : Int} {l : List PAtom} : usesAll n l = (usedL n.toNat (varsIn l)).all id := by
  simp only [usesAll, usedL, List.all_map]; rfl
def rangeI (n : Nat) : List Int := (List.range n).map fun (k : Nat) => (k : Int)
@[simp] theorem rangeI_length (n : Nat) : (rangeI n).length = n := by simp [rangeI]
theorem rangeI_succ (n : Nat) : rangeI (n + 1) = rangeI n ++ [(n : Int)] := by simp [rangeI, List.range_succ]
theorem rangeI_zero : rangeI 0 = [] := rfl
def defOrd (q : PQuery) : List Int := if queryOk q then rangeI q.n.toNat else []
def sbd (q : PQuery) : PDec := if queryOk q then ⟨[rangeI q.n.toNat], [-1]⟩ else ⟨[], []⟩
theorem queryOk_n5 {q : PQuery} (h : queryOk q = true) : 1 ≤ q.n ∧ q.n ≤ 5 := by
  cases h1 : inR q.n 1 5
  · rw [queryOk_n h1] at h; cases h
  · simpa [inR] using h1
theorem okQuery_strs {q : Query} (h : okQuery q) : ∀ a ∈ (plQuery q).atoms, a.rel.length ≤ maxLen := fun a ha => by
  simp only [plQuery, plS, List.mem_map] at ha
  obtain ⟨b, hb, rfl⟩ := ha
  exact (h.2.1.2 b hb).1
structure OrdI (q : PQuery) (i : Nat) : Prop where
  le : (i : Int) ≤ max 0 q.n
  ok : 0 < i → queryOk q = true
theorem good_Dec0 (B : Nat) : Good (cDec ⟨nilS, nilS⟩) (whDec ⟨nilS, nilS⟩) B :=
  ⟨by simp [cDec, nilS, cS, dSl, idsL, D.ids, idsLL], by simp [cDec, nilS, cS, dSl, idsL, D.ids, idsLL], ⟨⟨⟨by simp [nilS], by simp [nilS]⟩, by simp [nilS]⟩, ⟨⟨by simp [nilS], by simp [nilS]⟩, by simp [nilS]⟩⟩⟩
theorem good_nilI (B : Nat) : Good (cS cI (nilS : Ints)) (whS whI (nilS : Ints)) B :=
  ⟨by simp [nilS, cS, dSl, idsL, D.ids, idsLL], by simp [nilS, cS, dSl, idsL, D.ids, idsLL], ⟨⟨by simp [nilS], by simp [nilS]⟩, by simp [nilS]⟩⟩
theorem good_Dec2 {B : Nat} {bags : List Ints} {par : List Int} {g1 g2 : Option Nat} {T1 T2 : TypeId × Nat}
    (hnd : (idsLL (bags.map (cS cI))).Nodup) (hlo : ∀ g ∈ idsLL (bags.map (cS cI)), B ≤ g) (hwh : ∀ r ∈ bags, whS whI r)
    (q1 : ∀ g, g1 = some g → B ≤ g ∧ g ∉ idsLL (bags.map (cS cI))) (e1 : bags ≠ [] → g1 ≠ none)
    (q2 : ∀ g, g2 = some g → B ≤ g ∧ g ∉ idsLL (bags.map (cS cI))) (e2 : par ≠ [] → g2 ≠ none) (hne : ∀ g, g1 = some g → g2 = some g → False) :
    Good (cDec ⟨⟨g1, some T1, bags⟩, ⟨g2, some T2, par⟩⟩) (whDec ⟨⟨g1, some T1, bags⟩, ⟨g2, some T2, par⟩⟩) B := by
  have K1 : Good (cS (cS cI) ⟨g1, some T1, bags⟩) (whS (whS whI) ⟨g1, some T1, bags⟩) B := good_row (fun g h => (q1 g h).1) e1 (fun g h => (q1 g h).2) ⟨hnd, hlo⟩ hwh
  have K2 : Good (cS cI ⟨g2, some T2, par⟩) (whS whI ⟨g2, some T2, par⟩) B := good_row (fun g h => (q2 g h).1) e2 (by simp) ⟨by simp, by simp⟩ (by simp [whI])
  have := Good.app K1 K2 fun g h h' => by
    rw [idsL_cS] at h h'
    have h' := (mem_sl_ids.1 h').resolve_right (by simp)
    rcases mem_sl_ids.1 h with h | h
    · exact hne g h h'
    · exact (q2 g h').2 h
  exact this
theorem wp_sbd (q : PQuery) : wpTDec (sbd q) ≤ 20 := by
  simp only [sbd]
  split
  · rename_i h
    have h5 := queryOk_n5 h
    have h1 := wpS_le (w := wpS wpI) (k := 5) (l := [rangeI q.n.toNat]) fun a ha => by
      simp only [List.mem_singleton] at ha; subst ha; rw [wpS_I, rangeI_length]; omega
    simp only [List.length_singleton] at h1
    simp only [wpTDec, wpS_I, List.length_singleton]; omega
  · simp [wpTDec, wpS]
end Go.Vs

namespace Go.Vs
/-! ### databases -/
def tabOk (t : PTab) : Bool := nameOk t.name && rowsOk t.rel.ar t.rel.rows && decide (1 ≤ t.rel.ar) && decide (t.rel.rows.length ≤ 16)
/-- the table at place j is right and comes behind the one before it -/
def dbAt (l : List PTab) (j : Nat) : Bool := (decide (j = 0) || Op.bytesLess (l.getD (j - 1) default).name (l.getD j default).name) && tabOk (l.getD j default)
def dbOk (d : PDb) : Bool := decide (d.tabs.length ≤ 6) && (List.range d.tabs.length).all (dbAt d.tabs)
structure DbTo (l : List PTab) (i : Nat) : Prop where
  le : i ≤ l.length
  ok : AllTo (dbAt l) (List.range l.length) i
theorem DbTo.zero {l : List PTab} : DbTo l 0 := ⟨by omega, allTo_zero⟩
theorem DbTo.step {l : List PTab} {i : Nat} (h : DbTo l i) (hi : i < l.length) (e : dbAt l i = true) : DbTo l (i + 1) := ⟨hi, allTo_step h.ok (by simpa using hi) (by simpa using e)⟩
theorem DbTo.done {l : List PTab} {i : Nat} (h : DbTo l i) (hi : l.length ≤ i) : dbOk ⟨l⟩ = decide (l.length ≤ 6) := by
  have := allTo_done h.ok (by simpa using hi)
  simp only [dbOk, this, Bool.and_true]
theorem dbOk_bad {l : List PTab} {i : Nat} (hi : i < l.length) (e : dbAt l i = false) : dbOk ⟨l⟩ = false := by
  have : (List.range l.length).all (dbAt l) = false := all_bad (p := dbAt l) (l := List.range l.length) (i := i) (by simpa using hi) (by simpa using e)
  simp only [dbOk, this, Bool.and_false]
theorem dbOk_len {d : PDb} (h : dbOk d = true) : d.tabs.length ≤ 6 := by
  simp only [dbOk, Bool.and_eq_true, decide_eq_true_eq] at h; exact h.1
theorem dbOk_tab {d : PDb} (h : dbOk d = true) {t : PTab} (ht : t ∈ d.tabs) : tabOk t = true := by
  obtain ⟨i, hi, rfl⟩ := List.getElem_of_mem ht
  simp only [dbOk, Bool.and_eq_true, List.all_eq_true] at h
  have := h.2 i (by simpa using hi)
  simp only [dbAt, Bool.and_eq_true] at this
  have h2 := this.2
  rwa [getD_el _ hi] at h2
theorem dbAt_eq {l : List PTab} {i : Nat} (hi : i < l.length) : dbAt l i = ((decide (i = 0) || Op.bytesLess (l[i - 1]'(by omega)).name l[i].name) && tabOk l[i]) := by
  rw [dbAt, getD_el _ hi, getD_el _ (show i - 1 < l.length by omega)]
/-! ### texts of relations -/
def fmtRow (r : List Int) : List UInt8 := [40] ++ joinB [44] (r.map decZ) ++ [41]
def fmtRel (r : PReln) : List UInt8 := if rowsOk r.ar r.rows then decZ r.ar ++ [58] ++ joinB [32] (r.rows.map fmtRow) else []
theorem strW_map {α : Type} (f : α → List UInt8) (s k : Nat) : ∀ (l : List α), (∀ a ∈ l, (f a).length ≤ k) → strW s (l.map f) ≤ (k + s) * l.length
  | [], _ => by simp [strW]
  | a :: r, h => by
    have h1 := strW_map f s k r fun b hb => h b (by simp [hb])
    have h2 := h a (by simp)
    simp only [List.map_cons, strW, List.length_cons, Nat.mul_add, Nat.mul_one]; omega
theorem valsOk_inZ {r : List Int} (h : valsOk r = true) : ∀ x ∈ r, inZ x := fun x hx => by
  have := (List.all_eq_true.1 h) x hx
  simp only [inR, Bool.and_eq_true, decide_eq_true_eq] at this
  simp only [inZ]; omega
theorem fmtRow_len {r : List Int} (h : ∀ x ∈ r, inZ x) (h5 : r.length ≤ 5) : (fmtRow r).length ≤ 112 ∧ strW 1 (r.map decZ) ≤ 110 := by
  have h1 := joinB_len [44] (r.map decZ)
  have h2 := strW_map decZ 1 21 r fun x hx => decZ_len (h x hx)
  simp only [List.length_singleton] at h1
  refine ⟨?_, by omega⟩
  simp only [fmtRow, List.length_append, List.length_singleton]; omega
theorem fmtRel_len (r : PReln) : (fmtRel r).length ≤ 500000 := by
  unfold fmtRel
  split
  case isFalse => simp
  rename_i h
  have h1 := joinB_len [32] (r.rows.map fmtRow)
  have h4 := rowsOk_len h
  have h2 := strW_map fmtRow 1 112 r.rows fun x hx => (fmtRow_len (valsOk_inZ (rowsOk_mem h hx).2) (rowsOk_row h x hx)).1
  have har := rowsOk_inR h
  simp only [inR, Bool.and_eq_true, decide_eq_true_eq] at har
  have h3 := decZ_len (n := r.ar) (by omega)
  simp only [List.length_singleton] at h1
  simp only [List.length_append, List.length_singleton]; omega
/-! ### checksums -/
def ckB (x : Int) (b : UInt8) : Int := (31 * x + b.toNat + 1).tmod 65521
def ckS (s : List UInt8) : Int := s.foldl ckB 7
theorem ckB_in {x : Int} (h : 0 ≤ x ∧ x < 65521) (b : UInt8) : 0 ≤ ckB x b ∧ ckB x b < 65521 := by
  have hb := b.toNat_lt
  unfold ckB
  rw [Int.tmod_eq_emod_of_nonneg (by omega)]
  omega
theorem ckS_in (s : List UInt8) : 0 ≤ ckS s ∧ ckS s < 65521 := by
  have : ∀ (s : List UInt8) (x : Int), 0 ≤ x ∧ x < 65521 → 0 ≤ s.foldl ckB x ∧ s.foldl ckB x < 65521 := fun s => by
    induction s with
    | nil => intro x h; exact h
    | cons a r ih => intro x h; exact ih _ (ckB_in h a)
  exact this s 7 (by omega)
theorem ckS_step {s : List UInt8} {i : Nat} (h : i < s.length) : ckS (s.take (i + 1)) = ckB (ckS (s.take i)) s[i] := by
  rw [List.take_succ_eq_append_getElem h, ckS, List.foldl_append]; rfl
/-! ### the files of a version -/
def runNm (v : Int) (nm : List UInt8) : List UInt8 := [116] ++ decZ v ++ [46] ++ nm
def headLn (t : PTab) : List UInt8 := t.name ++ [61] ++ decZ (ckS (fmtRel t.rel)) ++ [10]
def headTx (l : List PTab) : List UInt8 := l.flatMap headLn
def runs (v : Int) (l : List PTab) : List PFile := l.map fun t => ⟨runNm v t.name, fmtRel t.rel⟩
def verB (d : PDb) (v : Int) : Bool := dbOk d && inR v 1 99
def verFs (d : PDb) (v : Int) : List PFile := if verB d v then runs v d.tabs ++ [⟨[109] ++ decZ v, headTx d.tabs ++ decZ (ckS (headTx d.tabs))⟩] else []
theorem tabOk_name {t : PTab} (h : tabOk t = true) : t.name.length ≤ 4 := by
  simp only [tabOk, nameOk, Bool.and_eq_true, decide_eq_true_eq] at h
  exact h.1.1.1.1.2
theorem headLn_len {t : PTab} (h : t.name.length ≤ 4) : (headLn t).length ≤ 27 := by
  have h1 := ckS_in (fmtRel t.rel)
  have h2 := decZ_len (n := ckS (fmtRel t.rel)) (by omega)
  simp only [headLn, List.length_append, List.length_singleton]; omega
theorem headTx_len {l : List PTab} (h : ∀ t ∈ l, t.name.length ≤ 4) : (headTx l).length ≤ 27 * l.length := by
  induction l with
  | nil => simp [headTx]
  | cons a r ih =>
    have h1 := ih fun t ht => h t (by simp [ht])
    have h2 := headLn_len (h a (by simp))
    simp only [headTx, List.flatMap_cons, List.length_append, List.length_cons] at h1 ⊢; omega
theorem headTx_step {l : List PTab} {i : Nat} (h : i < l.length) : headTx (l.take (i + 1)) = headTx (l.take i) ++ headLn l[i] := by
  unfold headTx
  rw [List.take_succ_eq_append_getElem h, List.flatMap_append]
  simp only [List.flatMap_cons, List.flatMap_nil, List.append_nil]
theorem runs_step {v : Int} {l : List PTab} {i : Nat} (h : i < l.length) : runs v (l.take (i + 1)) = runs v (l.take i) ++ [⟨runNm v l[i].name, fmtRel l[i].rel⟩] := by
  unfold runs
  rw [List.take_succ_eq_append_getElem h, List.map_append]; rfl
@[simp] theorem runs_length (v : Int) (l : List PTab) : (runs v l).length = l.length := by simp [runs]
theorem good_nilF (B : Nat) : Good (cS cFile (nilS : Sl File)) (whS whFile (nilS : Sl File)) B :=
  ⟨by simp [nilS, cS, dSl, idsL, D.ids, idsLL], by simp [nilS, cS, dSl, idsL, D.ids, idsLL], ⟨⟨by simp [nilS], by simp [nilS]⟩, by simp [nilS]⟩⟩
def toF (p : PFile) : File := ⟨p.name, p.data⟩
theorem cFile_toF (p : PFile) : cFile (toF p) = eFile p := rfl
theorem plFile_toF (p : PFile) : plFile (toF p) = p := rfl
theorem okDb_strs {d : Db} (h : okDb d) : ∀ t ∈ (plDb d).tabs, t.name.length ≤ maxLen := fun t ht => by
  simp only [plDb, plS, List.mem_map] at ht
  obtain ⟨b, hb, rfl⟩ := ht
  exact (h.2 b hb).1
theorem wp_verFs (d : PDb) (v : Int) : wpS wpFile (verFs d v) ≤ 14 := by
  simp only [verFs]
  split
  · rename_i h
    simp only [verB, Bool.and_eq_true] at h
    have := dbOk_len h.1
    have h1 := wpS_le (w := wpFile) (k := 2) (l := runs v d.tabs ++ [⟨[109] ++ decZ v, headTx d.tabs ++ decZ (ckS (headTx d.tabs))⟩]) fun a ha => by simp [wpFile, wpStr]
    simp only [List.length_append, runs_length, List.length_singleton] at h1
    omega
  · simp [wpS]
end Go.Vs

namespace Go.Vs
/-! ### relations of a database, differences -/
def lkT (d : PDb) (nm : List UInt8) : Option PReln := if dbOk d then (d.tabs.find? fun t => t.name == nm).map PTab.rel else none
def lkB (d : PDb) (nm : List UInt8) : Bool := (lkT d nm).isSome
def lkR (d : PDb) (nm : List UInt8) : PReln := (lkT d nm).getD ⟨0, []⟩
theorem lk_no {d : PDb} {nm : List UInt8} (h : dbOk d = false) : lkB d nm = false ∧ lkR d nm = ⟨0, []⟩ := by simp [lkB, lkR, lkT, h]
theorem find_at {α : Type} {p : α → Bool} {l : List α} {i : Nat} (h : AllTo (fun a => !p a) l i) (hi : i < l.length) (e : p l[i] = true) : l.find? p = some l[i] := by
  have e0 : l = l.take i ++ l[i] :: l.drop (i + 1) := by rw [← List.drop_eq_getElem_cons hi, List.take_append_drop]
  have hn : (l.take i).find? p = none := by
    rw [List.find?_eq_none]; intro x hx
    have := (List.all_eq_true.1 h) x hx
    simpa using this
  obtain ⟨a, ha⟩ : ∃ a, a = l[i] := ⟨_, rfl⟩
  rw [← ha] at e e0 ⊢
  rw [e0, List.find?_append, hn, Option.none_or, List.find?_cons, e]
theorem find_no {α : Type} {p : α → Bool} {l : List α} (h : (l.all fun a => !p a) = true) : l.find? p = none := by
  rw [List.find?_eq_none]; intro x hx
  have := (List.all_eq_true.1 h) x hx
  simpa using this
theorem lk_at {l : List PTab} {nm : List UInt8} (hd : dbOk ⟨l⟩ = true) {i : Nat} (h : AllTo (fun t => !(t.name == nm)) l i) (hi : i < l.length) (e : l[i].name = nm) : lkB ⟨l⟩ nm = true ∧ lkR ⟨l⟩ nm = l[i].rel := by
  have := find_at (p := fun t : PTab => t.name == nm) h hi (by simpa using e)
  have hT : lkT ⟨l⟩ nm = some l[i].rel := by rw [lkT, if_pos hd]; simp only; rw [this]; rfl
  exact ⟨by rw [lkB, hT]; rfl, by rw [lkR, hT]; rfl⟩
theorem lk_none {l : List PTab} {nm : List UInt8} (h : (l.all fun t => !(t.name == nm)) = true) : lkB ⟨l⟩ nm = false ∧ lkR ⟨l⟩ nm = ⟨0, []⟩ := by
  have := find_no (p := fun t : PTab => t.name == nm) h
  by_cases hd : dbOk ⟨l⟩ = true
  · have hT : lkT ⟨l⟩ nm = none := by rw [lkT, if_pos hd]; simp only; rw [this]; rfl
    exact ⟨by rw [lkB, hT]; rfl, by rw [lkR, hT]; rfl⟩
  · exact lk_no (by simpa using hd)
structure LkTo (l : List PTab) (nm : List UInt8) (i : Nat) : Prop where
  le : i ≤ l.length
  ok : AllTo (fun t => !(t.name == nm)) l i
theorem LkTo.zero {l : List PTab} {nm : List UInt8} : LkTo l nm 0 := ⟨by omega, allTo_zero⟩
theorem LkTo.step {l : List PTab} {nm : List UInt8} {i : Nat} (h : LkTo l nm i) (hi : i < l.length) (e : ¬ l[i].name = nm) : LkTo l nm (i + 1) := ⟨hi, allTo_step h.ok hi (by simp [e])⟩
theorem LkTo.done {l : List PTab} {nm : List UInt8} {i : Nat} (h : LkTo l nm i) (hi : l.length ≤ i) : lkB ⟨l⟩ nm = false ∧ lkR ⟨l⟩ nm = ⟨0, []⟩ := lk_none (allTo_done h.ok hi)
theorem LkTo.found {l : List PTab} {nm : List UInt8} {i : Nat} (h : LkTo l nm i) (hd : dbOk ⟨l⟩ = true) (hi : i < l.length) (e : l[i].name = nm) : lkB ⟨l⟩ nm = true ∧ lkR ⟨l⟩ nm = l[i].rel := lk_at hd h.ok hi e
theorem lk_ok {d : PDb} {nm : List UInt8} (h : lkB d nm = true) : rowsOk (lkR d nm).ar (lkR d nm).rows = true := by
  cases hT : lkT d nm with
  | none => rw [lkB, hT] at h; cases h
  | some r =>
    have hr : lkR d nm = r := by rw [lkR, hT]; rfl
    rw [hr]
    unfold lkT at hT
    split at hT
    · rename_i hd
      obtain ⟨t, ht, rfl⟩ := Option.map_eq_some_iff.1 hT
      have hm := dbOk_tab hd (List.mem_of_find?_eq_some ht)
      simp only [tabOk, Bool.and_eq_true] at hm
      exact hm.1.1.2
    · cases hT
theorem tabOk_rel {t : PTab} (h : tabOk t = true) : t.rel.rows.length ≤ 4294967296 ∧ ∀ x ∈ t.rel.rows, x.length ≤ 4294967296 := by
  simp only [tabOk, Bool.and_eq_true, decide_eq_true_eq] at h
  exact ⟨by omega, fun x hx => by have := rowsOk_row h.1.1.2 x hx; omega⟩
def hasR (r : PReln) (row : List Int) : Bool := rowsOk r.ar r.rows && placeB r.rows row
def difB (a b : PReln) : Bool := rowsOk a.ar a.rows && rowsOk b.ar b.rows && decide (a.ar = b.ar)
def difL (l : List (List Int)) (b : List (List Int)) : List (List Int) := l.filter fun r => !placeB b r
theorem difL_step {l b : List (List Int)} {i : Nat} (h : i < l.length) : difL (l.take (i + 1)) b = difL (l.take i) b ++ if placeB b l[i] then [] else [l[i]] := by
  rw [List.take_succ_eq_append_getElem h, difL, List.filter_append]
  cases e : placeB b l[i] <;> simp [difL, e]
theorem difL_len (l b : List (List Int)) : (difL l b).length ≤ l.length := List.length_filter_le _ _
def difR (a b : PReln) : PReln := if difB a b then ⟨a.ar, difL a.rows b.rows⟩ else ⟨0, []⟩
theorem rowsOk_filter {ar : Int} {l : List (List Int)} {p : List Int → Bool} (h : rowsOk ar l = true) : rowsOk ar (l.filter p) = true := by
  have hs : Srt (l.filter p) := List.Pairwise.sublist List.filter_sublist (rowsOk_srt h)
  rw [rowsOk_of (rowsOk_inR h) hs fun x hx => rowsOk_mem h (List.mem_filter.1 hx).1]
  have h1 := rowsOk_len h
  have h2 := List.length_filter_le p l
  simp; omega
def fitB (d : PDb) (x : PDelta) : Bool := lkB d x.name && rowsOk x.ins.ar x.ins.rows && rowsOk x.del.ar x.del.rows && decide (x.ins.ar = (lkR d x.name).ar) && decide (x.del.ar = (lkR d x.name).ar)
def norI (r : PReln) (l : List (List Int)) : List (List Int) := l.filter fun y => !hasR r y
def norD (r ins : PReln) (l : List (List Int)) : List (List Int) := l.filter fun y => hasR r y && !hasR ins y
def norP (d : PDb) (x : PDelta) : PDelta := if fitB d x then ⟨x.name, ⟨(lkR d x.name).ar, norI (lkR d x.name) x.ins.rows⟩, ⟨(lkR d x.name).ar, norD (lkR d x.name) x.ins x.del.rows⟩⟩ else ⟨[], ⟨0, []⟩, ⟨0, []⟩⟩
/-- what the reference finds by differences -/
theorem nor_dif {d : PDb} {x : PDelta} (h : fitB d x = true) :
    difR x.ins (lkR d x.name) = ⟨(lkR d x.name).ar, norI (lkR d x.name) x.ins.rows⟩ ∧
    difR (difR x.del x.ins) (difR (difR x.del x.ins) (lkR d x.name)) = ⟨(lkR d x.name).ar, norD (lkR d x.name) x.ins x.del.rows⟩ := by
  simp only [fitB, Bool.and_eq_true, decide_eq_true_eq] at h
  obtain ⟨⟨⟨⟨h1, h2⟩, h3⟩, h4⟩, h5⟩ := h
  have hr := lk_ok h1
  obtain ⟨r, hre⟩ : ∃ r, r = lkR d x.name := ⟨_, rfl⟩
  rw [← hre] at hr h4 h5 ⊢
  have hh : ∀ y, hasR r y = placeB r.rows y := fun y => by simp only [hasR, hr, Bool.true_and]
  have hi : ∀ y, hasR x.ins y = placeB x.ins.rows y := fun y => by simp only [hasR, h2, Bool.true_and]
  have e1 : difR x.ins r = ⟨r.ar, norI r x.ins.rows⟩ := by
    have : difB x.ins r = true := by rw [difB, h2, hr, decide_eq_true h4]; rfl
    simp only [difR, this, if_true, h4, norI, difL, hh]
  have e2 : difR x.del x.ins = ⟨r.ar, difL x.del.rows x.ins.rows⟩ := by
    have : difB x.del x.ins = true := by rw [difB, h2, h3, decide_eq_true (h5.trans h4.symm)]; rfl
    simp only [difR, this, if_true, h5]
  have v2 : rowsOk r.ar (difL x.del.rows x.ins.rows) = true := h5 ▸ rowsOk_filter h3
  have e3 : difR (difR x.del x.ins) r = ⟨r.ar, difL (difL x.del.rows x.ins.rows) r.rows⟩ := by
    rw [e2]
    have : difB ⟨r.ar, difL x.del.rows x.ins.rows⟩ r = true := by simp only [difB, v2, hr]; simp
    simp only [difR, this, if_true]
  have v3 : rowsOk r.ar (difL (difL x.del.rows x.ins.rows) r.rows) = true := rowsOk_filter v2
  refine ⟨e1, ?_⟩
  rw [e3, e2]
  have : difB ⟨r.ar, difL x.del.rows x.ins.rows⟩ ⟨r.ar, difL (difL x.del.rows x.ins.rows) r.rows⟩ = true := by simp only [difB, v2, v3]; simp
  simp only [difR, this, if_true]
  congr 1
  simp only [norD, hh, hi]
  have hsr := rowsOk_srt v3
  conv => lhs; unfold difL
  rw [List.filter_filter]
  refine List.filter_congr fun y hy => ?_
  have hm : placeB (difL (difL x.del.rows x.ins.rows) r.rows) y = true ↔ (placeB x.ins.rows y = false ∧ placeB r.rows y = false) := by
    rw [placeB_iff hsr]
    simp only [difL, List.mem_filter, Bool.not_eq_true']
    exact ⟨fun h => ⟨h.1.2, h.2⟩, fun h => ⟨⟨hy, h.1⟩, h.2⟩⟩
  cases h6 : placeB x.ins.rows y <;> cases h7 : placeB r.rows y <;> cases h8 : placeB (difL (difL x.del.rows x.ins.rows) r.rows) y <;> simp_all [difL]
theorem norI_step {r : PReln} {l : List (List Int)} {i : Nat} (h : i < l.length) : norI r (l.take (i + 1)) = norI r (l.take i) ++ if hasR r l[i] then [] else [l[i]] := by
  rw [List.take_succ_eq_append_getElem h, norI, List.filter_append]
  cases e : hasR r l[i] <;> simp [norI, e]
theorem norI_len (r : PReln) (l : List (List Int)) : (norI r l).length ≤ l.length := List.length_filter_le _ _
theorem norD_step {r s : PReln} {l : List (List Int)} {i : Nat} (h : i < l.length) : norD r s (l.take (i + 1)) = norD r s (l.take i) ++ if hasR r l[i] && !hasR s l[i] then [l[i]] else [] := by
  rw [List.take_succ_eq_append_getElem h, norD, List.filter_append]
  cases e : hasR r l[i] && !hasR s l[i] <;> simp only [norD, List.filter_cons, e, List.filter_nil] <;> simp
theorem norD_len (r s : PReln) (l : List (List Int)) : (norD r s l).length ≤ l.length := List.length_filter_le _ _
/-- rows of our own: those that the first i rows leave -/
structure NorI (f : List (List Int) → List (List Int)) (l : List (List Int)) (B : Nat) (p : Nat × List Ints) (h : Nat) : Prop where
  le : p.1 ≤ l.length
  pl : p.2.map (plS plI) = f (l.take p.1)
  ok : ∀ y ∈ p.2, okS okI y
  good : GoodL (cS cI) (whS whI) B h p.2
theorem NorI.zero {f : List (List Int) → List (List Int)} {l : List (List Int)} {B h : Nat} (hf : f [] = []) : NorI f l B (0, []) h := ⟨by simp, by simp [hf], by simp, GoodL.nil⟩
theorem NorI.skip {f : List (List Int) → List (List Int)} {l : List (List Int)} {B h h' i : Nat} {ys : List Ints} (H : NorI f l B (i, ys) h) (hi : i < l.length) (e : f (l.take (i + 1)) = f (l.take i)) (hh : h ≤ h') : NorI f l B (i + 1, ys) h' :=
  ⟨hi, by rw [e]; exact H.pl, H.ok, ⟨H.good.nd, H.good.lo, fun g hg => Nat.lt_of_lt_of_le (H.good.hi g hg) hh, H.good.wh⟩⟩
theorem NorI.snoc {f : List (List Int) → List (List Int)} {l : List (List Int)} {B h m h' i : Nat} {ys : List Ints} {y : Ints} (H : NorI f l B (i, ys) h) (hi : i < l.length) (e : f (l.take (i + 1)) = f (l.take i) ++ [l[i]]) (hy : plS plI y = l[i]) (hok : okS okI y) (hb : B ≤ m ∧ h ≤ m) (hm : m ≤ h') (G : Good (cS cI y) (whS whI y) m) (hr : ∀ g ∈ idsL (cS cI y), g < h') : NorI f l B (i + 1, ys ++ [y]) h' := by
  refine ⟨hi, ?_, fun z hz => ?_, GoodL.snoc H.good hb hm G hr⟩
  · have := H.pl
    simp only at this
    simp only [List.map_append, List.map_cons, List.map_nil]
    rw [this, hy, e]
  · rcases List.mem_append.1 hz with h | h
    · exact H.ok z h
    · rw [List.mem_singleton.1 h]; exact hok
theorem good_Delta0 (B : Nat) : Good (cDelta ⟨[], ⟨0, nilS⟩, ⟨0, nilS⟩⟩) (whDelta ⟨[], ⟨0, nilS⟩, ⟨0, nilS⟩⟩) B :=
  ⟨by simp [cDelta, cReln, cStr, nilS, cS, cI, dSl, idsL, D.ids, idsLL], by simp [cDelta, cReln, cStr, nilS, cS, cI, dSl, idsL, D.ids, idsLL], ⟨trivial, (good_Reln0 B).wh, (good_Reln0 B).wh⟩⟩
theorem good_Delta2 {B : Nat} {nm : List UInt8} {a1 a2 : Int} {r1 r2 : List Ints} {g1 g2 : Option Nat} {T1 T2 : TypeId × Nat}
    (n1 : (idsLL (r1.map (cS cI))).Nodup) (l1 : ∀ g ∈ idsLL (r1.map (cS cI)), B ≤ g) (w1 : ∀ r ∈ r1, whS whI r) (n2 : (idsLL (r2.map (cS cI))).Nodup) (l2 : ∀ g ∈ idsLL (r2.map (cS cI)), B ≤ g) (w2 : ∀ r ∈ r2, whS whI r)
    (hdis : ∀ g ∈ idsLL (r1.map (cS cI)), g ∉ idsLL (r2.map (cS cI)))
    (q1 : ∀ g, g1 = some g → B ≤ g ∧ g ∉ idsLL (r1.map (cS cI)) ∧ g ∉ idsLL (r2.map (cS cI))) (e1 : r1 ≠ [] → g1 ≠ none)
    (q2 : ∀ g, g2 = some g → B ≤ g ∧ g ∉ idsLL (r2.map (cS cI)) ∧ g ∉ idsLL (r1.map (cS cI))) (e2 : r2 ≠ [] → g2 ≠ none) (hne : ∀ g, g1 = some g → g2 = some g → False) :
    Good (cDelta ⟨nm, ⟨a1, ⟨g1, some T1, r1⟩⟩, ⟨a2, ⟨g2, some T2, r2⟩⟩⟩) (whDelta ⟨nm, ⟨a1, ⟨g1, some T1, r1⟩⟩, ⟨a2, ⟨g2, some T2, r2⟩⟩⟩) B := by
  have K1 : Good (cReln ⟨a1, ⟨g1, some T1, r1⟩⟩) (whReln ⟨a1, ⟨g1, some T1, r1⟩⟩) B := good_Reln (good_row (fun g h => (q1 g h).1) e1 (fun g h => (q1 g h).2.1) ⟨n1, l1⟩ w1) (Nat.le_refl _)
  have K2 : Good (cReln ⟨a2, ⟨g2, some T2, r2⟩⟩) (whReln ⟨a2, ⟨g2, some T2, r2⟩⟩) B := good_Reln (good_row (fun g h => (q2 g h).1) e2 (fun g h => (q2 g h).2.1) ⟨n2, l2⟩ w2) (Nat.le_refl _)
  have K0 : Good (cStr nm) (whStr nm) B := ⟨by simp [cStr, idsL, D.ids], by simp [cStr, idsL, D.ids], trivial⟩
  have K01 : Good (cStr nm ++ cReln ⟨a1, ⟨g1, some T1, r1⟩⟩) (whStr nm ∧ whReln ⟨a1, ⟨g1, some T1, r1⟩⟩) B := Good.app K0 K1 fun g h h' => by simp [cStr, idsL, D.ids] at h
  have K := Good.app K01 K2 fun g h h' => by
    rw [idsL_app] at h
    have h := (List.mem_append.1 h).resolve_left (by simp [cStr, idsL, D.ids])
    have hx : ∀ (a : Int) (go : Option Nat) (T : TypeId × Nat) (r : List Ints), g ∈ idsL (cReln ⟨a, ⟨go, some T, r⟩⟩) → go = some g ∨ g ∈ idsLL (r.map (cS cI)) := fun a go T r hg => by
      simp only [cReln] at hg
      rw [idsL_app, idsL_cS] at hg
      exact mem_sl_ids.1 ((List.mem_append.1 hg).resolve_left (by simp [cI, idsL, D.ids]))
    rcases hx _ _ _ _ h with h | h <;> rcases hx _ _ _ _ h' with h' | h'
    · exact hne g h h'
    · exact (q1 g h).2.2 h'
    · exact (q2 g h').2.2 h
    · exact hdis g h h'
  exact ⟨K.nd, K.lo, K.wh.1.1, K.wh.1.2, K.wh.2⟩
theorem wp_norP (d : PDb) (x : PDelta) : wpTDelta (norP d x) ≤ 50000 := by
  simp only [norP]
  split
  · rename_i h
    simp only [fitB, Bool.and_eq_true, decide_eq_true_eq] at h
    have h1 := wp_rows (rowsOk_filter (p := fun y => !hasR (lkR d x.name) y) h.1.1.1.2)
    have h2 := wp_rows (rowsOk_filter (p := fun y => hasR (lkR d x.name) y && !hasR x.ins y) h.1.1.2)
    simp only [wpTDelta, wpTReln, norI, norD]; omega
  · simp [wpTDelta, wpTReln, wpS]
end Go.Vs

namespace Go.Vs
/-- a contract on arguments known by elements only holds of typed ones -/
theorem VC.er {P : Program} {f : FuncId} {As Ps : List V} {post : Nat → V → Prop} (h : VC P f Ps post) (hp : rpL (fun _ => none) As = some Ps) : VC P f As post :=
  ⟨h.1, fun w vals A hLR => h.2 w vals A (LR.er _ _ _ hLR hp)⟩
/-- copies: the first i elements -/
structure CopI {α β : Type} (c : α → List D) (wh : α → Prop) (ok : α → Prop) (pl : α → β) (l : List β) (B : Nat) (p : Nat × List α) (h : Nat) : Prop where
  le : p.1 ≤ l.length
  pl : p.2.map pl = l.take p.1
  ok : ∀ y ∈ p.2, ok y
  good : GoodL c wh B h p.2
section
variable {α β : Type} {c : α → List D} {wh : α → Prop} {ok : α → Prop} {pl : α → β} {l : List β} {B : Nat}
theorem CopI.zero {h : Nat} : CopI c wh ok pl l B (0, []) h := ⟨by simp, by simp, by simp, GoodL.nil⟩
theorem CopI.len {h i : Nat} {ys : List α} (H : CopI c wh ok pl l B (i, ys) h) : ys.length = i := by
  have := congrArg List.length H.pl
  have hl := H.le
  simp only [List.length_map, List.length_take] at this hl
  omega
theorem CopI.snoc {h m h' i : Nat} {ys : List α} {y : α} (H : CopI c wh ok pl l B (i, ys) h) (hi : i < l.length) (hy : pl y = l[i]) (hok : ok y) (hb : B ≤ m ∧ h ≤ m) (hm : m ≤ h') (G : Good (c y) (wh y) m) (hr : ∀ g ∈ idsL (c y), g < h') : CopI c wh ok pl l B (i + 1, ys ++ [y]) h' := by
  refine ⟨hi, ?_, fun z hz => ?_, GoodL.snoc H.good hb hm G hr⟩
  · have := H.pl
    simp only at this
    simp only [List.map_append, List.map_cons, List.map_nil]
    rw [this, hy, List.take_succ_eq_append_getElem hi]
  · rcases List.mem_append.1 hz with h | h
    · exact H.ok z h
    · rw [List.mem_singleton.1 h]; exact hok
theorem CopI.all {h i : Nat} {ys : List α} (H : CopI c wh ok pl l B (i, ys) h) (hi : l.length ≤ i) : ys.map pl = l := by
  have := H.pl
  simp only at this
  rwa [List.take_of_length_le hi] at this
end
theorem good_Tab {n : Nat} {nm : List UInt8} {r : Reln} (G : Good (cReln r) (whReln r) n) : Good (cTab ⟨nm, r⟩) (whTab ⟨nm, r⟩) n :=
  Good.app (good_Str n nm) G fun g h h' => by simp [cStr, idsL, D.ids] at h
/-- no slice of the database is too long to be counted -/
def szRel (r : PReln) : Prop := r.rows.length ≤ 4294967296 ∧ ∀ x ∈ r.rows, x.length ≤ 4294967296
def szDb (d : PDb) : Prop := d.tabs.length ≤ 4294967296 ∧ ∀ t ∈ d.tabs, szRel t.rel
theorem szDb_ok {d : PDb} (h : dbOk d = true) : szDb d := ⟨by have := dbOk_len h; omega, fun t ht => tabOk_rel (dbOk_tab h ht)⟩
theorem szRel_ok {r : PReln} (h : rowsOk r.ar r.rows = true) : szRel r := ⟨by have := rowsOk_len h; omega, fun x hx => by have := rowsOk_row h x hx; omega⟩
def uniB (a b : PReln) : Bool := difB a b && newB a.ar (a.rows ++ b.rows)
def uniR (a b : PReln) : PReln := if difB a b then newR a.ar (a.rows ++ b.rows) else ⟨0, []⟩
theorem difB_len {a b : PReln} (h : difB a b = true) : szRel a ∧ szRel b ∧ a.rows.length ≤ 4000 ∧ b.rows.length ≤ 4000 := by
  simp only [difB, Bool.and_eq_true] at h
  exact ⟨szRel_ok h.1.1, szRel_ok h.1.2, rowsOk_len h.1.1, rowsOk_len h.1.2⟩
end Go.Vs

namespace Go.Vs
/-- two ordered lists, and what of them stands in order behind -/
structure MJ (rows a b out : List (List Int)) : Prop where
  sa : Srt a
  sb : Srt b
  so : Srt out
  lt : ∀ y ∈ out, ∀ z, z ∈ a ∨ z ∈ b → cmpL y z < 0
  mem : ∀ x, (x ∈ out ∨ x ∈ a ∨ x ∈ b) ↔ x ∈ rows
  len : out.length + a.length + b.length ≤ rows.length
theorem MJ.start (rows : List (List Int)) (m : Nat) : MJ rows (srtU (rows.take m)) (srtU (rows.drop m)) [] := by
  have h := MI.start rows m
  exact ⟨h.sa, h.sb, h.so, by simp, h.mem, h.len⟩
theorem MJ.swap {rows a b out : List (List Int)} (h : MJ rows a b out) : MJ rows b a out :=
  ⟨h.sb, h.sa, h.so, fun y hy z hz => h.lt y hy z hz.symm, fun x => by rw [← h.mem x, or_comm (a := x ∈ a)], by have := h.len; omega⟩
theorem MJ.done {rows out : List (List Int)} (h : MJ rows [] [] out) : out = srtU rows := srtU_uniq h.so fun x => by rw [← h.mem x]; simp
theorem MJ.left {rows a b out : List (List Int)} {x : List Int} (h : MJ rows (x :: a) b out) (hb : ∀ z ∈ b, cmpL x z < 0) : MJ rows a b (out ++ [x]) := by
  have ha := List.pairwise_cons.1 h.sa
  have hl := h.len
  simp only [List.length_cons] at hl
  refine ⟨ha.2, h.sb, List.pairwise_append.2 ⟨h.so, by simp, fun y hy z hz => ?_⟩, fun y hy z hz => ?_, fun y => ?_, by simp only [List.length_append, List.length_cons, List.length_nil]; omega⟩
  · rw [List.mem_singleton.1 hz]; exact h.lt y hy x (by simp)
  · rcases List.mem_append.1 hy with hy | hy
    · exact h.lt y hy z (hz.imp (fun hz => by simp [hz]) id)
    · rw [List.mem_singleton.1 hy]
      rcases hz with hz | hz
      · exact ha.1 z hz
      · exact hb z hz
  · rw [← h.mem y]
    simp only [List.mem_append, List.mem_cons, List.not_mem_nil, or_false]
    constructor
    · rintro ((h1 | h1) | h1 | h1) <;> simp [h1]
    · rintro (h1 | (h1 | h1) | h1) <;> simp [h1]
theorem MJ.both {rows a b out : List (List Int)} {x : List Int} (h : MJ rows (x :: a) (x :: b) out) : MJ rows a b (out ++ [x]) := by
  have hb := List.pairwise_cons.1 h.sb
  have hl := h.len
  simp only [List.length_cons] at hl
  refine MJ.left (x := x) ⟨h.sa, hb.2, h.so, fun y hy z hz => h.lt y hy z (hz.imp id fun hz => by simp [hz]), fun y => ?_, by simp only [List.length_cons]; omega⟩ hb.1
  rw [← h.mem y]
  simp only [List.mem_cons]
  constructor
  · rintro (h1 | h1 | h1)
    · exact .inl h1
    · exact .inr (.inl h1)
    · exact .inr (.inr (.inr h1))
  · rintro (h1 | h1 | h1 | h1)
    · exact .inl h1
    · exact .inr (.inl h1)
    · exact .inr (.inl (.inl h1))
    · exact .inr (.inr h1)
theorem MJ.less {rows a b out : List (List Int)} {x y : List Int} (h : MJ rows (x :: a) (y :: b) out) (hc : cmpL x y < 0) : ∀ z ∈ y :: b, cmpL x z < 0 := fun z hz => by
  rcases List.mem_cons.1 hz with rfl | hz
  · exact hc
  · exact cmpL_trans hc ((List.pairwise_cons.1 h.sb).1 z hz)
/-- rows of our own, each with blocks of its own -/
structure OwnR (B : Nat) (L : List Ints) : Prop where
  nd : (idsLL (L.map (cS cI))).Nodup
  lo : ∀ g ∈ idsLL (L.map (cS cI)), B ≤ g
  wh : ∀ r ∈ L, whS whI r
  ok : ∀ r ∈ L, okS okI r
theorem ids_perm {L L' : List Ints} (h : L'.Perm L) : (idsLL (L'.map (cS cI))).Perm (idsLL (L.map (cS cI))) := by
  induction h with
  | nil => exact .refl _
  | cons a _ ih => simp only [List.map_cons, idsLL]; exact (List.Perm.refl _).append ih
  | swap a b l => simp only [List.map_cons, idsLL]; exact List.perm_append_comm_assoc _ _ _
  | trans _ _ h1 h2 => exact h1.trans h2
theorem OwnR.perm {B : Nat} {L L' : List Ints} (H : OwnR B L) (h : L'.Perm L) : OwnR B L' :=
  ⟨(ids_perm h).nodup_iff.2 H.nd, fun g hg => H.lo g ((ids_perm h).mem_iff.1 hg), fun r hr => H.wh r (h.mem_iff.1 hr), fun r hr => H.ok r (h.mem_iff.1 hr)⟩
theorem OwnR.sub {B : Nat} {L L' : List Ints} (H : OwnR B L) (h : L'.Sublist L) : OwnR B L' :=
  ⟨H.nd.sublist (ids_sub h), fun g hg => H.lo g ((ids_sub h).subset hg), fun r hr => H.wh r (h.subset hr), fun r hr => H.ok r (h.subset hr)⟩
/-- the merge of two slices of our own -/
structure SrtI (rows : List (List Int)) (B : Nat) (p : List Ints × List Ints × List Ints × Option (TypeId × Nat) × Option (TypeId × Nat)) : Prop where
  mj : MJ rows (p.1.map (plS plI)) (p.2.1.map (plS plI)) (p.2.2.1.map (plS plI))
  own : OwnR B (p.2.2.1 ++ (p.1 ++ p.2.1))
theorem SrtI.left {rows : List (List Int)} {B : Nat} {x : Ints} {a b o : List Ints} {Ta Tb Ta' : Option (TypeId × Nat)} (H : SrtI rows B (x :: a, b, o, Ta, Tb)) (hb : ∀ z ∈ b.map (plS plI), cmpL (plS plI x) z < 0) : SrtI rows B (a, b, o ++ [x], Ta', Tb) := by
  have h1 := H.mj
  simp only [List.map_cons] at h1
  refine ⟨by simp only [List.map_append, List.map_cons, List.map_nil]; exact h1.left hb, ?_⟩
  have h2 := H.own
  simp only at h2 ⊢
  simpa using h2
theorem SrtI.right {rows : List (List Int)} {B : Nat} {y : Ints} {a b o : List Ints} {Ta Tb Tb' : Option (TypeId × Nat)} (H : SrtI rows B (a, y :: b, o, Ta, Tb)) (ha : ∀ z ∈ a.map (plS plI), cmpL (plS plI y) z < 0) : SrtI rows B (a, b, o ++ [y], Ta, Tb') := by
  have h1 := H.mj
  simp only [List.map_cons] at h1
  refine ⟨by simp only [List.map_append, List.map_cons, List.map_nil]; exact (h1.swap.left ha).swap, ?_⟩
  refine H.own.perm ?_
  simp only [List.append_assoc, List.singleton_append]
  exact (List.Perm.refl o).append List.perm_middle.symm
theorem SrtI.both {rows : List (List Int)} {B : Nat} {x y : Ints} {a b o : List Ints} {Ta Tb Ta' Tb' : Option (TypeId × Nat)} (H : SrtI rows B (x :: a, y :: b, o, Ta, Tb)) (e : plS plI x = plS plI y) : SrtI rows B (a, b, o ++ [x], Ta', Tb') := by
  have h1 := H.mj
  simp only [List.map_cons, ← e] at h1
  refine ⟨by simp only [List.map_append, List.map_cons, List.map_nil]; exact h1.both, ?_⟩
  refine H.own.sub ?_
  simp only [List.append_assoc, List.singleton_append]
  exact (List.Sublist.refl o).append ((((List.Sublist.refl a).append (List.sublist_cons_self y b))).cons_cons x)
structure ToN (ar : Int) (l : List (List Int)) (i : Nat) : Prop where
  le : i ≤ l.length
  ok : AllTo (fun r : List Int => decide ((r.length : Int) = ar) && valsOk r) l i
theorem ToN.zero {ar : Int} {l : List (List Int)} : ToN ar l 0 := ⟨by omega, allTo_zero⟩
theorem ToN.step {ar : Int} {l : List (List Int)} {i : Nat} (h : ToN ar l i) (hi : i < l.length) (e : (decide ((l[i].length : Int) = ar) && valsOk l[i]) = true) : ToN ar l (i + 1) := ⟨hi, allTo_step h.ok hi e⟩
theorem ToN.done {ar : Int} {l : List (List Int)} {i : Nat} (h : ToN ar l i) (hi : l.length ≤ i) : (l.all fun r : List Int => decide ((r.length : Int) = ar) && valsOk r) = true := allTo_done h.ok hi
theorem ToN.bad {ar : Int} {l : List (List Int)} {i : Nat} (_ : ToN ar l i) (hi : i < l.length) (e : (decide ((l[i].length : Int) = ar) && valsOk l[i]) = false) : newB ar l = false := by
  have : (l.all fun r : List Int => decide ((r.length : Int) = ar) && valsOk r) = false := all_bad (p := fun r : List Int => decide ((r.length : Int) = ar) && valsOk r) hi e
  rw [newB, this, Bool.false_and]
theorem VC.weak {P : Program} {f : FuncId} {As : List V} {post post' : Nat → V → Prop} (h : VC P f As post) (hp : ∀ n r, post n r → post' n r) : VC P f As post' :=
  ⟨h.1, fun w vals A hLR => (h.2 w vals A hLR).mono fun e w' he => by
    obtain ⟨v, r, h1, h2, h3, h4, h5⟩ := he
    exact ⟨v, r, h1, h2, h3, h4, hp _ _ h5⟩⟩
/-- a call that is handed rows of ours; its result is new -/
theorem call_own {P : Program} {E : Md} {args : List Operand} {f : FuncId} {vs : List V} {dst : Option Tmp} {K : St → Prop} {σ : St} {post : Nat → V → Prop} (hk : keysVL vs ≠ [])
    (hc : ∀ γ n, σ.hs ≤ n → Gam σ γ n → ∃ As, rdL γ σ.m vs = some As ∧ VC P f As post) (hi : ∀ n r, post n r → (∀ i ∈ r.ids, n ≤ i) ∧ r.hp = false)
    (hK : ∀ n hs' r, σ.hs ≤ n → n ≤ hs' → post n r → (∀ i ∈ r.ids, i < hs') → K ({ σ with hs := hs' }.put dst r)) : vcallA P E f args vs dst K σ := by
  refine .inl ?_
  unfold vcall
  split
  · rename_i h; exact (hk h).elim
  · intro γ n a b
    obtain ⟨As, h1, h2⟩ := hc γ n a b
    exact ⟨As, post, h1, h2, fun r hs' c d e => ⟨(hi n r d).1, (hi n r d).2, hK n hs' r a c d e⟩⟩
end Go.Vs

namespace Go.Vs
/-! ### setting a relation -/
theorem bl_irr : ∀ (a : List UInt8), Op.bytesLess a a = false
  | [] => rfl
  | x :: r => by simp [Op.bytesLess, bl_irr r, UInt8.lt_irrefl]
theorem bl_trans : ∀ {a b c : List UInt8}, Op.bytesLess a b = true → Op.bytesLess b c = true → Op.bytesLess a c = true
  | _, [], _, h, _ => by cases ‹List UInt8› <;> simp [Op.bytesLess] at h
  | _, _ :: _, [], _, h => by simp [Op.bytesLess] at h
  | [], _ :: _, _ :: _, _, _ => rfl
  | x :: a, y :: b, z :: c, h1, h2 => by
    simp only [Op.bytesLess, Bool.or_eq_true, Bool.and_eq_true, decide_eq_true_eq, beq_iff_eq] at h1 h2 ⊢
    rcases h1 with h1 | ⟨rfl, h1⟩
    · rcases h2 with h2 | ⟨rfl, h2⟩
      · exact .inl (UInt8.lt_trans h1 h2)
      · exact .inl h1
    · rcases h2 with h2 | ⟨rfl, h2⟩
      · exact .inl h2
      · exact .inr ⟨rfl, bl_trans h1 h2⟩
theorem bl_asym {a b : List UInt8} (h : Op.bytesLess a b = true) : Op.bytesLess b a = false := by
  cases h' : Op.bytesLess b a
  · rfl
  · have := bl_trans h h'; rw [bl_irr] at this; cases this
theorem bl_tri : ∀ (a b : List UInt8), Op.bytesLess a b = true ∨ a = b ∨ Op.bytesLess b a = true
  | [], [] => .inr (.inl rfl)
  | [], _ :: _ => .inl rfl
  | _ :: _, [] => .inr (.inr rfl)
  | x :: a, y :: b => by
    simp only [Op.bytesLess, Bool.or_eq_true, Bool.and_eq_true, decide_eq_true_eq, beq_iff_eq]
    rcases bl_tri a b with h | h | h
    · by_cases e : x = y
      · exact .inl (.inr ⟨e, h⟩)
      · rcases UInt8.lt_or_lt_of_ne e with h' | h'
        · exact .inl (.inl h')
        · exact .inr (.inr (.inl h'))
    · by_cases e : x = y
      · exact .inr (.inl (by rw [e, h]))
      · rcases UInt8.lt_or_lt_of_ne e with h' | h'
        · exact .inl (.inl h')
        · exact .inr (.inr (.inl h'))
    · by_cases e : x = y
      · exact .inr (.inr (.inr ⟨e.symm, h⟩))
      · rcases UInt8.lt_or_lt_of_ne e with h' | h'
        · exact .inl (.inl h')
        · exact .inr (.inr (.inl h'))
/-- names in order -/
def SrtT (l : List PTab) : Prop := l.Pairwise fun a b => Op.bytesLess a.name b.name = true
theorem dbOk_srt {l : List PTab} (h : dbOk ⟨l⟩ = true) : SrtT l := by
  simp only [dbOk, Bool.and_eq_true, List.all_eq_true, List.mem_range] at h
  have key : ∀ n i, i + n + 1 < l.length → Op.bytesLess (l.getD i default).name (l.getD (i + n + 1) default).name = true := by
    intro n
    induction n with
    | zero =>
      intro i hi
      have := h.2 (i + 1) (by omega)
      simp only [dbAt, Bool.and_eq_true, Bool.or_eq_true, decide_eq_true_eq] at this
      simpa using this.1
    | succ n ih =>
      intro i hi
      have h1 := ih i (by omega)
      have := h.2 (i + n + 1 + 1) (by omega)
      simp only [dbAt, Bool.and_eq_true, Bool.or_eq_true, decide_eq_true_eq] at this
      have h2 : Op.bytesLess (l.getD (i + n + 1) default).name (l.getD (i + n + 1 + 1) default).name = true := by simpa using this.1
      exact bl_trans h1 h2
  refine List.pairwise_iff_getElem.2 fun i j hi hj hij => ?_
  have := key (j - i - 1) i (by omega)
  rw [show i + (j - i - 1) + 1 = j by omega, getD_el _ hi, getD_el _ hj] at this
  exact this
/-- where the name stands or belongs -/
def setK (l : List PTab) (nm : List UInt8) : Nat := (l.takeWhile fun t => Op.bytesLess t.name nm).length
def hitK (l : List PTab) (nm : List UInt8) : Bool := decide (setK l nm < l.length) && decide ((l.getD (setK l nm) default).name = nm)
def setL (l : List PTab) (nm : List UInt8) (r : PReln) : List PTab := l.take (setK l nm) ++ ⟨nm, r⟩ :: l.drop (if hitK l nm then setK l nm + 1 else setK l nm)
/-- as the reference does it -/
def stS (nm : List UInt8) (r : PReln) (s : List PTab × Bool) (t : PTab) : List PTab × Bool :=
  let s1 := if !s.2 && !(Op.bytesLess t.name nm) then (s.1 ++ [⟨nm, r⟩], true) else s
  if t.name = nm then s1 else (s1.1 ++ [t], s1.2)
def setS (l : List PTab) (nm : List UInt8) (r : PReln) : List PTab :=
  let s := l.foldl (stS nm r) ([], false)
  if s.2 then s.1 else s.1 ++ [⟨nm, r⟩]
theorem stS_after {nm : List UInt8} {r : PReln} : ∀ (l : List PTab) (o : List PTab), (∀ t ∈ l, t.name ≠ nm) → l.foldl (stS nm r) (o, true) = (o ++ l, true)
  | [], o, _ => by simp
  | t :: l, o, h => by
    have h1 := h t (by simp)
    rw [List.foldl_cons]
    have : stS nm r (o, true) t = (o ++ [t], true) := by simp [stS, h1]
    rw [this, stS_after l _ fun u hu => h u (by simp [hu])]
    simp
theorem setS_eq {nm : List UInt8} {r : PReln} : ∀ (l : List PTab) (o : List PTab), SrtT l →
    (let s := l.foldl (stS nm r) (o, false); if s.2 then s.1 else s.1 ++ [⟨nm, r⟩]) = o ++ setL l nm r
  | [], o, _ => by simp [setL, setK, hitK]
  | t :: l, o, hs => by
    have hp := List.pairwise_cons.1 hs
    rw [List.foldl_cons]
    cases hb : Op.bytesLess t.name nm
    · have hrest : ∀ u ∈ l, u.name ≠ nm := fun u hu e => by
        have h1 := hp.1 u hu
        rw [e, hb] at h1; cases h1
      have hk : setK (t :: l) nm = 0 := by simp [setK, hb]
      by_cases he : t.name = nm
      · have e1 : stS nm r (o, false) t = (o ++ [⟨nm, r⟩], true) := by simp [stS, hb, he, bl_irr]
        rw [e1, stS_after l _ hrest]
        simp [setL, hk, hitK, he]
      · have e1 : stS nm r (o, false) t = (o ++ [⟨nm, r⟩] ++ [t], true) := by simp [stS, hb, he]
        rw [e1, stS_after l _ hrest]
        simp [setL, hk, hitK, he]
    · have he : ¬ t.name = nm := fun e => by rw [e, bl_irr] at hb; cases hb
      have e1 : stS nm r (o, false) t = (o ++ [t], false) := by simp [stS, hb, he]
      rw [e1, setS_eq l _ hp.2]
      have hk : setK (t :: l) nm = setK l nm + 1 := by simp [setK, hb]
      have hh : hitK (t :: l) nm = hitK l nm := by
        simp only [hitK, hk, List.length_cons, List.getD_cons_succ]
        congr 2
        apply propext; omega
      simp only [setL, hk, hh, List.take_succ_cons, List.append_assoc, List.cons_append, List.nil_append]
      cases hitK l nm <;> simp
theorem setS_L {l : List PTab} {nm : List UInt8} {r : PReln} (h : dbOk ⟨l⟩ = true) : setS l nm r = setL l nm r := by
  have := setS_eq (nm := nm) (r := r) l [] (dbOk_srt h)
  simpa [setS] using this
def setB (d : PDb) (nm : List UInt8) (r : PReln) : Bool := dbOk d && dbOk ⟨setL d.tabs nm r⟩
def setP (d : PDb) (nm : List UInt8) (r : PReln) : PDb := if setB d nm r then ⟨setL d.tabs nm r⟩ else d
end Go.Vs
namespace Go.Vs
theorem stS_len (nm : List UInt8) (r : PReln) (s : List PTab × Bool) (t : PTab) : (stS nm r s t).1.length ≤ s.1.length + 2 := by
  simp only [stS]
  repeat' split
  all_goals simp
theorem foldS_len (nm : List UInt8) (r : PReln) : ∀ (l : List PTab) (s : List PTab × Bool), (l.foldl (stS nm r) s).1.length ≤ s.1.length + 2 * l.length
  | [], s => by simp
  | t :: l, s => by
    have h1 := foldS_len nm r l (stS nm r s t)
    have h2 := stS_len nm r s t
    simp only [List.foldl_cons, List.length_cons]; omega
theorem foldS_mem (nm : List UInt8) (r : PReln) : ∀ (l : List PTab) (s : List PTab × Bool) (t : PTab), t ∈ (l.foldl (stS nm r) s).1 → t ∈ s.1 ∨ t ∈ l ∨ t = ⟨nm, r⟩
  | [], s, t, h => .inl h
  | u :: l, s, t, h => by
    rcases foldS_mem nm r l (stS nm r s u) t h with h | h | h
    · have : t ∈ s.1 ∨ t = u ∨ t = ⟨nm, r⟩ := by
        obtain ⟨so, sb⟩ := s
        have key : ∀ o' : List PTab × Bool, (t ∈ o'.1 → t ∈ so ∨ t = u ∨ t = ⟨nm, r⟩) → t ∈ (if u.name = nm then o' else (o'.1 ++ [u], o'.2)).1 → t ∈ so ∨ t = u ∨ t = ⟨nm, r⟩ := fun o' h1 h2 => by
          split at h2
          · exact h1 h2
          · rcases List.mem_append.1 h2 with h2 | h2
            · exact h1 h2
            · exact .inr (.inl (List.mem_singleton.1 h2))
        refine key _ (fun h1 => ?_) h
        split at h1
        · rcases List.mem_append.1 h1 with h2 | h2
          · exact .inl h2
          · exact .inr (.inr (List.mem_singleton.1 h2))
        · exact .inl h1
      rcases this with h | h | h
      · exact .inl h
      · exact .inr (.inl (by simp [h]))
      · exact .inr (.inr h)
    · exact .inr (.inl (by simp [h]))
    · exact .inr (.inr h)
theorem setS_mem {l : List PTab} {nm : List UInt8} {r : PReln} {t : PTab} (h : t ∈ setS l nm r) : t ∈ l ∨ t = ⟨nm, r⟩ := by
  simp only [setS] at h
  have key := foldS_mem nm r l ([], false) t
  split at h
  · simpa using key h
  · rcases List.mem_append.1 h with h | h
    · simpa using key h
    · exact .inr (List.mem_singleton.1 h)
structure StI (nm : List UInt8) (r : PReln) (l : List PTab) (p : Nat × List PTab × Bool) : Prop where
  le : p.1 ≤ l.length
  eq : (l.take p.1).foldl (stS nm r) ([], false) = p.2
theorem StI.zero {nm : List UInt8} {r : PReln} {l : List PTab} : StI nm r l (0, [], false) := ⟨by simp, rfl⟩
theorem StI.step {nm : List UInt8} {r : PReln} {l : List PTab} {i : Nat} {s s' : List PTab × Bool} (h : StI nm r l (i, s)) (hi : i < l.length) (e : stS nm r s l[i] = s') : StI nm r l (i + 1, s') := by
  refine ⟨hi, ?_⟩
  have := h.eq
  simp only at this ⊢
  rw [List.take_succ_eq_append_getElem hi, List.foldl_append, this, List.foldl_cons, List.foldl_nil, e]
theorem StI.len {nm : List UInt8} {r : PReln} {l : List PTab} {i : Nat} {s : List PTab × Bool} (h : StI nm r l (i, s)) : s.1.length ≤ 2 * i := by
  have h1 := foldS_len nm r (l.take i) ([], false)
  have h2 := h.eq
  simp only at h2
  rw [h2] at h1
  simp only [List.length_nil, List.length_take] at h1
  omega
theorem StI.done {nm : List UInt8} {r : PReln} {l : List PTab} {i : Nat} {s : List PTab × Bool} (h : StI nm r l (i, s)) (hi : l.length ≤ i) : setS l nm r = if s.2 then s.1 else s.1 ++ [⟨nm, r⟩] := by
  have h2 := h.eq
  simp only [List.take_of_length_le hi] at h2
  simp only [setS, h2]
end Go.Vs

namespace Go.Vs
theorem setK_le (l : List PTab) (nm : List UInt8) : setK l nm ≤ l.length := by
  unfold setK; exact (List.takeWhile_sublist _).length_le
theorem setK_lt : ∀ {l : List PTab} {nm : List UInt8} {i : Nat} (hi : i < l.length), i < setK l nm → Op.bytesLess l[i].name nm = true
  | t :: l, nm, 0, _, h => by
    cases hb : Op.bytesLess t.name nm
    · simp [setK, hb] at h
    · exact hb
  | t :: l, nm, i + 1, hi, h => by
    cases hb : Op.bytesLess t.name nm
    · simp [setK, hb] at h
    · simp only [List.getElem_cons_succ]
      refine setK_lt (by simpa using hi) ?_
      have hk : setK (t :: l) nm = setK l nm + 1 := by simp [setK, hb]
      omega
theorem setK_at : ∀ {l : List PTab} {nm : List UInt8} (hi : setK l nm < l.length), Op.bytesLess l[setK l nm].name nm = false
  | t :: l, nm, h => by
    cases hb : Op.bytesLess t.name nm
    · have hk : setK (t :: l) nm = 0 := by simp [setK, hb]
      simp only [hk, List.getElem_cons_zero]; exact hb
    · have hk : setK (t :: l) nm = setK l nm + 1 := by simp [setK, hb]
      simp only [hk, List.getElem_cons_succ]
      exact setK_at (by simp only [hk, List.length_cons] at h; omega)
section
variable {α : Type} {c : α → List D} {wh : α → Prop}
theorem good_put {xs : List α} {y : α} {k j n m : Nat} (hk : k ≤ j) (h1 : (idsLL (xs.map c)).Nodup) (h2 : ∀ g ∈ idsLL (xs.map c), n ≤ g ∧ g < m) (h3 : ∀ a ∈ xs, wh a) (G : Good (c y) (wh y) m) (hn : n ≤ m) :
    ((idsLL ((xs.take k ++ y :: xs.drop j).map c)).Nodup ∧ ∀ g ∈ idsLL ((xs.take k ++ y :: xs.drop j).map c), n ≤ g) ∧ (∀ a ∈ xs.take k ++ y :: xs.drop j, wh a) := by
  have hs : (xs.take k ++ xs.drop j).Sublist xs := by
    have h := List.Sublist.append (List.Sublist.refl (xs.take k)) (List.drop_sublist_drop_left xs hk)
    rwa [List.take_append_drop] at h
  have hsi := ids_sub (c := c) hs
  have hp : (idsLL ((xs.take k ++ y :: xs.drop j).map c)).Perm (idsL (c y) ++ idsLL ((xs.take k ++ xs.drop j).map c)) := by
    simp only [List.map_append, List.map_cons, idsLL_append, idsLL]
    exact List.perm_append_comm_assoc _ _ _
  refine ⟨⟨hp.nodup_iff.2 (List.nodup_append.2 ⟨G.nd, h1.sublist hsi, fun a ha b hb e => ?_⟩), fun g hg => ?_⟩, fun a ha => ?_⟩
  · have := G.lo a ha
    have := (h2 b (hsi.subset hb)).2
    omega
  · rcases List.mem_append.1 (hp.mem_iff.1 hg) with h | h
    · have := G.lo g h; omega
    · exact (h2 g (hsi.subset h)).1
  · rcases List.mem_append.1 ha with h | h
    · exact h3 a (List.mem_of_mem_take h)
    · rcases List.mem_cons.1 h with rfl | h
      · exact G.wh
      · exact h3 a (List.mem_of_mem_drop h)
end
theorem map_put {α β : Type} (f : α → β) (xs : List α) (y : α) (k j : Nat) : (xs.take k ++ y :: xs.drop j).map f = (xs.map f).take k ++ f y :: (xs.map f).drop j := by
  simp [List.map_take, List.map_drop]
structure KTo (l : List PTab) (nm : List UInt8) (i : Nat) : Prop where
  le : i ≤ setK l nm
theorem KTo.zero {l : List PTab} {nm : List UInt8} : KTo l nm 0 := ⟨by omega⟩
end Go.Vs
namespace Go.Vs
theorem nowr_one (g : Nat) (d : D) : nowr (one g d) = false := by
  simp only [nowr, decide_eq_false_iff_not]
  intro h
  have := h g
  simp [one] at this
theorem reV_pl_one (g : Nat) (d : D) (es : List (List D)) : reV (one g d) (.d (.pl es)) = .bad := by
  simp [reV, reD, nowr_one]
theorem okDb_st {d : Db} (h : okDb d) : ∀ t ∈ (plDb d).tabs, t.name.length ≤ maxLen := fun t ht => by
  obtain ⟨⟨id, T, xs⟩⟩ := d
  simp only [plDb, plS, List.mem_map] at ht
  obtain ⟨a, ha, rfl⟩ := ht
  exact (h.2 a ha).1
end Go.Vs

namespace Go.Vs
/-! ### applying a delta -/
def difD (d : PDb) (x : PDelta) : PReln := difR (lkR d x.name) (norP d x).del
def appU (d : PDb) (x : PDelta) : PReln := uniR (difD d x) (norP d x).ins
def appG (d : PDb) (x : PDelta) : Bool := fitB d x && uniB (difD d x) (norP d x).ins
def appB (d : PDb) (x : PDelta) : Bool := appG d x && setB d x.name (appU d x)
def appP (d : PDb) (x : PDelta) : PDb := if appG d x then setP d x.name (appU d x) else d
theorem uniR_ok {a b : PReln} (h : uniB a b = true) : szRel (uniR a b) := by
  simp only [uniB, Bool.and_eq_true] at h
  have h2 := h.2
  simp only [newB, Bool.and_eq_true] at h2
  simp only [uniR, h.1, if_true, newR, h.2]
  exact szRel_ok h2.2
theorem szDb_set {d : PDb} {nm : List UInt8} {r : PReln} (h : szDb d) : szDb (setP d nm r) := by
  unfold setP
  split
  · rename_i hb
    simp only [setB, Bool.and_eq_true] at hb
    exact szDb_ok hb.2
  · exact h
theorem szDb_app {d : PDb} {x : PDelta} (h : szDb d) : szDb (appP d x) := by
  unfold appP
  split
  · exact szDb_set h
  · exact h
end Go.Vs

namespace Go.Vs
theorem szRel_sw (a : Reln) (h : swReln a ≤ 1048576) : szRel (plReln a) := by
  have e : swReln a = a.rows.xs.length + sumW (swS swI) a.rows.xs := rfl
  refine ⟨by simp only [plReln, plS, List.length_map]; omega, fun x hx => ?_⟩
  simp only [plReln, plS, List.mem_map] at hx
  obtain ⟨y, hy, rfl⟩ := hx
  have h1 := sumW_mem (swS swI) hy
  have h2 : swS swI y = y.xs.length + sumW swI y.xs := rfl
  simp only [List.length_map]
  omega
theorem szDb_sw (a : Db) (h : swDb a ≤ 1048576) : szDb (plDb a) := by
  have e : swDb a = a.tabs.xs.length + sumW swTab a.tabs.xs := rfl
  refine ⟨by simp only [plDb, plS, List.length_map]; omega, fun t ht => ?_⟩
  simp only [plDb, plS, List.mem_map] at ht
  obtain ⟨y, hy, rfl⟩ := ht
  have h1 := sumW_mem swTab hy
  have h2 : swTab y = swStr y.name + swReln y.rel := rfl
  exact szRel_sw y.rel (by omega)
theorem wp_db {d : PDb} (h : dbOk d = true) : wpTDb d ≤ 6 * 20002 := by
  have h1 := dbOk_len h
  have h2 := wpS_le (w := wpTab) (k := 20002) (l := d.tabs) fun t ht => by
    have h3 := dbOk_tab h ht
    simp only [tabOk, Bool.and_eq_true] at h3
    have := wp_rows h3.1.1.2
    simp only [wpTab, wpStr, wpReln, wpI]; omega
  simp only [wpTDb]; omega
theorem wp_setP (d : PDb) (nm : List UInt8) (r : PReln) : wpTDb (setP d nm r) ≤ wpTDb d + 120012 := by
  unfold setP
  split
  · rename_i h
    simp only [setB, Bool.and_eq_true] at h
    have := wp_db h.2; omega
  · omega
theorem wp_appP (d : PDb) (x : PDelta) : wpTDb (appP d x) ≤ wpTDb d + 120012 := by
  unfold appP
  split
  · exact wp_setP _ _ _
  · omega
end Go.Vs

namespace Go.Vs
/-! ### batches -/
def runB : PDb → List PDelta → Nat → Option PDb × Nat
  | c, [], k => (some c, k)
  | c, x :: r, k => if appB c x then runB (appP c x) r (k + 1) else (none, k)
def batG (d : PDb) (xs : List PDelta) : Bool := decide (xs.length ≤ 5) && dbOk d
def batT (d : PDb) (xs : List PDelta) : PDb × Nat × Bool :=
  if batG d xs then match runB d xs 0 with
    | (some c, k) => (c, k, true)
    | (none, k) => (d, k, false)
  else (d, 0, false)
def batP (d : PDb) (xs : List PDelta) : PDb := (batT d xs).1
def batN (d : PDb) (xs : List PDelta) : Int := (batT d xs).2.1
def batB (d : PDb) (xs : List PDelta) : Bool := (batT d xs).2.2
theorem app_ok {d : PDb} {x : PDelta} (h : appB d x = true) : dbOk (appP d x) = true := by
  simp only [appB, Bool.and_eq_true] at h
  have h2 := h.2
  simp only [setB, Bool.and_eq_true] at h2
  simp only [appP, h.1, if_true, setP, h.2]
  exact h2.2
theorem dbOk_st {d : PDb} (h : dbOk d = true) : ∀ t ∈ d.tabs, t.name.length ≤ maxLen := fun t ht => by
  have h1 := dbOk_tab h ht
  simp only [tabOk, nameOk, Bool.and_eq_true, decide_eq_true_eq] at h1
  have := h1.1.1.1.1.2
  simp only [maxLen]; omega
structure RunI (d : PDb) (xs : List PDelta) (i : Nat) (c : PDb) : Prop where
  le : i ≤ xs.length
  ok : dbOk c = true
  eq : runB c (xs.drop i) i = runB d xs 0
theorem RunI.zero {d : PDb} {xs : List PDelta} (h : dbOk d = true) : RunI d xs 0 d := ⟨by omega, h, rfl⟩
theorem RunI.step {d c : PDb} {xs : List PDelta} {i : Nat} (h : RunI d xs i c) (hi : i < xs.length) (e : appB c xs[i] = true) : RunI d xs (i + 1) (appP c xs[i]) := by
  refine ⟨hi, app_ok e, ?_⟩
  have := h.eq
  rwa [List.drop_eq_getElem_cons hi, runB, e, if_pos rfl] at this
theorem RunI.bad {d c : PDb} {xs : List PDelta} {i : Nat} (h : RunI d xs i c) (hi : i < xs.length) (e : appB c xs[i] = false) : runB d xs 0 = (none, i) := by
  have := h.eq
  rw [List.drop_eq_getElem_cons hi, runB, e] at this
  exact this.symm
theorem RunI.done {d c : PDb} {xs : List PDelta} {i : Nat} (h : RunI d xs i c) (hi : xs.length ≤ i) : runB d xs 0 = (some c, i) := by
  have := h.eq
  rw [List.drop_of_length_le hi, runB] at this
  exact this.symm
theorem bat_no {d : PDb} {xs : List PDelta} (h : batG d xs = false) : batT d xs = (d, 0, false) := by simp [batT, h]
theorem bat_bad {d : PDb} {xs : List PDelta} {i : Nat} (h : batG d xs = true) (e : runB d xs 0 = (none, i)) : batT d xs = (d, i, false) := by simp [batT, h, e]
theorem bat_done {d c : PDb} {xs : List PDelta} {i : Nat} (h : batG d xs = true) (e : runB d xs 0 = (some c, i)) : batT d xs = (c, i, true) := by simp [batT, h, e]
theorem run_ok : ∀ (xs : List PDelta) (d : PDb) (k : Nat) (c : PDb) (j : Nat), dbOk d = true → runB d xs k = (some c, j) → dbOk c = true
  | [], d, k, c, j, h, e => by simp only [runB, Prod.mk.injEq, Option.some.injEq] at e; rw [← e.1]; exact h
  | x :: r, d, k, c, j, h, e => by
    rw [runB] at e
    split at e
    · rename_i h1; exact run_ok r _ _ c j (app_ok h1) e
    · simp at e
theorem wp_batP (d : PDb) (xs : List PDelta) : wpTDb (batP d xs) ≤ wpTDb d + 120012 := by
  unfold batP batT
  split
  · rename_i h
    simp only [batG, Bool.and_eq_true] at h
    split
    · rename_i c k e
      have := wp_db (run_ok xs d 0 c k h.2 e)
      simp only; omega
    · simp only; omega
  · simp only; omega
end Go.Vs
namespace Go.Vs
structure RunT (d : PDb) (xs : List PDelta) (B : Nat) (p : Nat × Db) : Prop where
  run : RunI d xs p.1 (plDb p.2)
  ok : okDb p.2
  good : Good (cDb p.2) (whDb p.2) B
end Go.Vs

namespace Go.Vs
/-! ### inverting a batch -/
def invD (x : PDelta) : PDelta := ⟨x.name, x.del, x.ins⟩
def invL : PDb → List PDelta → List PDelta → List PDelta
  | _, [], acc => acc
  | c, x :: r, acc => invL (appP c x) r (invD (norP c x) :: acc)
def invP (d : PDb) (xs : List PDelta) : List PDelta := if batB d xs then invL d xs [] else []
theorem batB_run {d : PDb} {xs : List PDelta} (h : batB d xs = true) : batG d xs = true ∧ ∃ c k, runB d xs 0 = (some c, k) := by
  unfold batB batT at h
  split at h
  · rename_i hg
    refine ⟨hg, ?_⟩
    split at h
    · rename_i c k e; exact ⟨c, k, e⟩
    · simp at h
  · simp at h
structure InvI (d : PDb) (xs : List PDelta) (i : Nat) (c : PDb) (acc : List PDelta) : Prop where
  run : RunI d xs i c
  eq : invL c (xs.drop i) acc = invL d xs []
  len : acc.length = i
theorem InvI.zero {d : PDb} {xs : List PDelta} (h : batB d xs = true) : InvI d xs 0 d [] := by
  have h1 := (batB_run h).1
  simp only [batG, Bool.and_eq_true] at h1
  exact ⟨.zero h1.2, rfl, rfl⟩
theorem InvI.ap {d c : PDb} {xs acc : List PDelta} {i : Nat} (hb : batB d xs = true) (h : InvI d xs i c acc) (hi : i < xs.length) : appB c xs[i] = true := by
  cases e : appB c xs[i]
  · have h1 := h.run.bad hi e
    obtain ⟨_, c', k, h2⟩ := batB_run hb
    rw [h1] at h2
    simp at h2
  · rfl
theorem InvI.step {d c : PDb} {xs acc : List PDelta} {i : Nat} (hb : batB d xs = true) (h : InvI d xs i c acc) (hi : i < xs.length) : InvI d xs (i + 1) (appP c xs[i]) (invD (norP c xs[i]) :: acc) := by
  refine ⟨h.run.step hi (h.ap hb hi), ?_, by simp [h.len]⟩
  have := h.eq
  rwa [List.drop_eq_getElem_cons hi, invL] at this
theorem InvI.done {d c : PDb} {xs acc : List PDelta} {i : Nat} (hb : batB d xs = true) (h : InvI d xs i c acc) (hi : xs.length ≤ i) : acc = invP d xs := by
  have := h.eq
  rw [List.drop_of_length_le hi, invL] at this
  rw [invP, if_pos hb, this]
theorem szRel_norP (d : PDb) (x : PDelta) : szRel (norP d x).ins ∧ szRel (norP d x).del := by
  simp only [norP]
  split
  · rename_i h
    simp only [fitB, Bool.and_eq_true, decide_eq_true_eq] at h
    have h1 := rowsOk_filter (p := fun y => !hasR (lkR d x.name) y) h.1.1.1.2
    have h2 := rowsOk_filter (p := fun y => hasR (lkR d x.name) y && !hasR x.ins y) h.1.1.2
    exact ⟨szRel_ok (r := ⟨x.ins.ar, _⟩) h1, szRel_ok (r := ⟨x.del.ar, _⟩) h2⟩
  · exact ⟨⟨by simp, by simp⟩, ⟨by simp, by simp⟩⟩
theorem invL_all {P : PDelta → Prop} (h : ∀ c x, P (invD (norP c x))) : ∀ (l : List PDelta) (c : PDb) (acc : List PDelta), (∀ y ∈ acc, P y) → ∀ y ∈ invL c l acc, P y
  | [], _, _, ha => ha
  | x :: r, c, acc, ha => invL_all h r _ _ fun y hy => by
    rcases List.mem_cons.1 hy with rfl | hy
    · exact h _ _
    · exact ha y hy
theorem invL_len : ∀ (l : List PDelta) (c : PDb) (acc : List PDelta), (invL c l acc).length = acc.length + l.length
  | [], _, _ => rfl
  | x :: r, c, acc => by rw [invL, invL_len r]; simp only [List.length_cons]; omega
theorem wp_invP (d : PDb) (xs : List PDelta) : wpS wpDelta (invP d xs) ≤ 300000 := by
  unfold invP
  split
  · rename_i h
    have h1 := (batB_run h).1
    simp only [batG, Bool.and_eq_true, decide_eq_true_eq] at h1
    have hl := invL_len xs d []
    have h2 := wpS_le (w := wpDelta) (k := 50003) (l := invL d xs []) fun y hy => by
      refine invL_all (P := fun y => wpDelta y ≤ 50003) (fun c x => ?_) xs d [] (by simp) y hy
      have := wp_norP c x
      simp only [wpTDelta, wpTReln] at this
      simp only [invD, wpDelta, wpReln, wpStr, wpI]; omega
    simp only [List.length_nil] at hl
    omega
  · simp [wpS]
structure InvT (d : PDb) (xs : List PDelta) (B : Nat) (p : Nat × Db × Sl Delta) (h : Nat) : Prop where
  run : InvI d xs p.1 (plDb p.2.1) (plS plDelta p.2.2)
  okd : okDb p.2.1
  ok : ∀ x ∈ p.2.2.xs, okDelta x
  good : Good (cS cDelta p.2.2) (whS whDelta p.2.2) B
  hi : ∀ g ∈ idsL (cS cDelta p.2.2), g < h
theorem good_Delta {nm : List UInt8} {a b : Reln} {n m h : Nat} (Ga : Good (cReln a) (whReln a) n) (ha : ∀ g ∈ idsL (cReln a), g < h) (Gb : Good (cReln b) (whReln b) m) (hm : n ≤ m ∧ h ≤ m) : Good (cDelta ⟨nm, a, b⟩) (whDelta ⟨nm, a, b⟩) n := by
  have K := Good.app (Good.app (good_Str n nm) Ga fun g hg h' => by simp [cStr, idsL, D.ids] at hg) (Gb.le hm.1) fun g hg hg' => by
    rw [idsL_app] at hg
    have h1 := ha g ((List.mem_append.1 hg).resolve_left (by simp [cStr, idsL, D.ids]))
    have h2 := Gb.lo g hg'
    omega
  exact ⟨K.nd, K.lo, K.wh.1.1, K.wh.1.2, K.wh.2⟩
end Go.Vs
namespace Go.Vs
theorem good_nilS {α : Type} {c : α → List D} {wh : α → Prop} (n : Nat) : Good (cS c nilS) (whS wh nilS) n :=
  ⟨by simp [cS, nilS, dSl, idsL, D.ids, idsLL], by simp [cS, nilS, dSl, idsL, D.ids, idsLL], ⟨fun _ => rfl, fun h => absurd rfl h⟩, by simp [nilS]⟩
end Go.Vs
namespace Go.Vs
theorem rpL_cons {a : V} {l : List V} {x : List V} (h : rpL (fun _ => none) (a :: l) = some x) : ∃ y z, x = y :: z ∧ rp (fun _ => none) a = some y ∧ rpL (fun _ => none) l = some z := by
  simp only [rpL] at h
  cases h1 : rp (fun _ => none) a <;> cases h2 : rpL (fun _ => none) l <;> simp [h1, h2] at h
  exact ⟨_, _, h.symm, rfl, rfl⟩
theorem rpL_len : ∀ (l x : List V), rpL (fun _ => none) l = some x → x.length = l.length
  | [], x, h => by simp [rpL] at h; subst h; rfl
  | a :: l, x, h => by
    obtain ⟨y, z, rfl, _, h2⟩ := rpL_cons h
    simp [rpL_len l z h2]
theorem rp_tup3 {r a b c : V} (hr : rp (fun _ => none) r = some (.tup [a, b, c])) (ht : r.tk = true) :
    ∃ x y z, r = .tup [x, y, z] ∧ rp (fun _ => none) x = some a ∧ rp (fun _ => none) y = some b ∧ rp (fun _ => none) z = some c ∧ x.tk = true ∧ y.tk = true ∧ z.tk = true := by
  cases r with
  | tup cs =>
    simp only [rp] at hr
    cases hc : rpL (fun _ => none) cs with
    | none => simp [hc] at hr
    | some q =>
      simp [hc] at hr
      subst hr
      have hl := rpL_len _ _ hc
      match cs, hl, hc, ht with
      | [x, y, z], _, hc, ht =>
        obtain ⟨_, _, e1, h1, hc⟩ := rpL_cons hc
        obtain ⟨_, _, e2, h2, hc⟩ := rpL_cons hc
        obtain ⟨_, _, e3, h3, hc⟩ := rpL_cons hc
        simp only [List.cons.injEq] at e1
        obtain ⟨rfl, rfl⟩ := e1
        simp only [List.cons.injEq] at e2
        obtain ⟨rfl, rfl⟩ := e2
        simp only [List.cons.injEq] at e3
        obtain ⟨rfl, rfl⟩ := e3
        simp only [V.tk, tkVL, Bool.and_true, Bool.and_eq_true] at ht
        exact ⟨x, y, z, rfl, h1, h2, h3, ht.1, ht.2.1, ht.2.2⟩
  | d x => simp [rp] at hr
  | own => simp [rp] at hr
  | ptr => simp [rp] at hr
  | fptr => simp [rp] at hr
  | bad => simp [rp] at hr
  | agg cs => simp only [rp] at hr; cases hc : rpL (fun _ => none) cs <;> simp [hc] at hr
theorem okDeltas_st {s : Sl Delta} (h : okS okDelta s) : ∀ x ∈ plS plDelta s, x.name.length ≤ maxLen := fun x hx => by
  obtain ⟨id, T, xs⟩ := s
  simp only [plS, List.mem_map] at hx
  obtain ⟨a, ha, rfl⟩ := hx
  exact (h.2 a ha).1
end Go.Vs

namespace Go.Vs
/-! ### cutting texts -/
/-- the pieces of a text between signs; acc: the piece under way -/
def cutA (c : UInt8) (acc : List UInt8) : List UInt8 → List (List UInt8)
  | [] => [acc]
  | x :: r => if x = c then acc :: cutA c [] r else cutA c (acc ++ [x]) r
def cutB (c : UInt8) (s : List UInt8) : List (List UInt8) := cutA c [] s
theorem cutA_no {c : UInt8} : ∀ (s acc : List UInt8), c ∉ s → cutA c acc s = [acc ++ s]
  | [], acc, _ => by simp [cutA]
  | x :: r, acc, h => by
    have h1 : x ≠ c := fun e => h (by simp [e])
    rw [cutA, if_neg h1, cutA_no r _ fun hr => h (by simp [hr])]; simp
theorem cutA_mid {c : UInt8} : ∀ (a b acc : List UInt8), c ∉ a → cutA c acc (a ++ c :: b) = (acc ++ a) :: cutA c [] b
  | [], b, acc, _ => by simp [cutA]
  | x :: r, b, acc, h => by
    have h1 : x ≠ c := fun e => h (by simp [e])
    rw [List.cons_append, cutA, if_neg h1, cutA_mid r b _ fun hr => h (by simp [hr])]; simp
theorem cutB_no {c : UInt8} {s : List UInt8} (h : c ∉ s) : cutB c s = [s] := by rw [cutB, cutA_no s [] h]; rfl
theorem cutB_mid {c : UInt8} {a b : List UInt8} (h : c ∉ a) : cutB c (a ++ c :: b) = a :: cutB c b := by rw [cutB, cutA_mid a b [] h]; rfl
theorem cutB_join {c : UInt8} : ∀ (l : List (List UInt8)), l ≠ [] → (∀ x ∈ l, c ∉ x) → cutB c (joinB [c] l) = l
  | [], h, _ => absurd rfl h
  | [x], _, h => by simp only [joinB, List.flatMap_nil, List.append_nil]; exact cutB_no (h x (by simp))
  | x :: y :: r, _, h => by
    have ih := cutB_join (y :: r) (by simp) fun z hz => h z (by simp [hz])
    have e : joinB [c] (x :: y :: r) = x ++ c :: joinB [c] (y :: r) := by simp [joinB]
    rw [e, cutB_mid (h x (by simp)), ih]
theorem cutA_len (c : UInt8) : ∀ (s acc : List UInt8), (cutA c acc s).length ≤ s.length + 1 ∧ cutA c acc s ≠ []
  | [], acc => by simp [cutA]
  | x :: r, acc => by
    rw [cutA]
    split
    · have := cutA_len c r []; simp; exact this.1
    · have := cutA_len c r (acc ++ [x]); simp only [List.length_cons]; exact ⟨by omega, this.2⟩
theorem cutB_len (c : UInt8) (s : List UInt8) : (cutB c s).length ≤ s.length + 1 := (cutA_len c s []).1
theorem cutB_ne (c : UInt8) (s : List UInt8) : cutB c s ≠ [] := (cutA_len c s []).2
theorem cutB_pos (c : UInt8) (s : List UInt8) : 0 < (cutB c s).length := List.length_pos_iff.2 (cutB_ne c s)
/-- all pieces are no longer than the text -/
theorem cutA_sum (c : UInt8) : ∀ (s acc : List UInt8), ((cutA c acc s).map List.length).sum ≤ acc.length + s.length
  | [], acc => by simp [cutA]
  | x :: r, acc => by
    rw [cutA]
    split
    · have := cutA_sum c r []; simp only [List.map_cons, List.sum_cons, List.length_cons, List.length_nil] at this ⊢; omega
    · have := cutA_sum c r (acc ++ [x]); simp only [List.length_append, List.length_cons, List.length_nil] at this ⊢; omega
theorem sum_mem : ∀ {l : List Nat} {x : Nat}, x ∈ l → x ≤ l.sum
  | a :: r, x, h => by
    simp only [List.sum_cons]
    rcases List.mem_cons.1 h with rfl | h
    · omega
    · have := sum_mem h; omega
theorem cutB_mem {c : UInt8} {s x : List UInt8} (h : x ∈ cutB c s) : x.length ≤ s.length := by
  have h1 := cutA_sum c s []
  have h2 : x.length ≤ ((cutB c s).map List.length).sum := sum_mem (List.mem_map.2 ⟨x, h, rfl⟩)
  simp only [cutB, List.length_nil] at h1 h2; omega
/-- the place in a walk over a text: out the pieces so far, from the start of the piece under way -/
structure CutI (c : UInt8) (s : List UInt8) (p : Nat × Nat × List (List UInt8)) : Prop where
  fr : p.1 ≤ p.2.1
  le : p.2.1 ≤ s.length
  eq : cutB c s = p.2.2 ++ cutA c ((s.drop p.1).take (p.2.1 - p.1)) (s.drop p.2.1)
  len : p.2.2.length ≤ p.2.1
theorem CutI.zero {c : UInt8} {s : List UInt8} : CutI c s (0, 0, []) := ⟨by simp, by simp, by simp [cutB], by simp⟩
theorem CutI.hit {c : UInt8} {s : List UInt8} {f i : Nat} {out : List (List UInt8)} (h : CutI c s (f, i, out)) (hi : i < s.length) (e : s[i] = c) : CutI c s (i + 1, i + 1, out ++ [(s.drop f).take (i - f)]) := by
  refine ⟨Nat.le_refl _, hi, ?_, ?_⟩
  · have := h.eq
    simp only at this ⊢
    rw [this, List.drop_eq_getElem_cons hi, cutA, if_pos e]
    simp
  · have := h.len; simp only [List.length_append, List.length_singleton] at this ⊢; omega
theorem CutI.miss {c : UInt8} {s : List UInt8} {f i : Nat} {out : List (List UInt8)} (h : CutI c s (f, i, out)) (hi : i < s.length) (e : s[i] ≠ c) : CutI c s (f, i + 1, out) := by
  have hf := h.fr
  simp only at hf
  refine ⟨by simp only; omega, hi, ?_, ?_⟩
  · have := h.eq
    simp only at this ⊢
    rw [this, List.drop_eq_getElem_cons hi, cutA, if_neg e]
    have : (s.drop f).take (i + 1 - f) = (s.drop f).take (i - f) ++ [s[i]] := by
      rw [show i + 1 - f = (i - f) + 1 by omega, List.take_succ_eq_append_getElem (by rw [List.length_drop]; omega), List.getElem_drop]
      simp only [show f + (i - f) = i by omega]
    rw [this]
  · have := h.len; simp only at this ⊢; omega
theorem CutI.done {c : UInt8} {s : List UInt8} {f i : Nat} {out : List (List UInt8)} (h : CutI c s (f, i, out)) (hi : s.length ≤ i) : out ++ [(s.drop f).take (i - f)] = cutB c s ∧ (s.drop f).take (i - f) = s.drop f ∧ i = s.length := by
  have hl := h.le
  have := h.eq
  simp only at hl this
  rw [List.drop_of_length_le hi, cutA] at this
  exact ⟨this.symm, List.take_of_length_le (by rw [List.length_drop]; omega), by omega⟩
/-! ### numbers' texts -/
def isDg (b : UInt8) : Bool := decide (48 ≤ b.toNat) && decide (b.toNat ≤ 57)
def digF (p : Int × Nat) (b : UInt8) : Int × Nat := if isDg b then (p.1 * 10 + ((b.toNat : Int) - 48), p.2 + 1) else p
def digs (s : List UInt8) : Int × Nat := s.foldl digF (0, 0)
def prsV (s : List UInt8) : Int := if s.head? = some 45 then -(digs (s.take 11)).1 else (digs (s.take 11)).1
def prsZ (s : List UInt8) : Option Int := if (digs (s.take 11)).2 ≤ 9 ∧ s.length ≤ 10 ∧ decZ (prsV s) = s then some (prsV s) else none
def prsN (s : List UInt8) : Int := (prsZ s).getD 0
theorem decN_dg (n : Nat) : ∀ b ∈ decN n, isDg b = true := by
  induction n using Nat.strongRecOn with
  | ind n ih =>
    have hd : ∀ d, d < 10 → isDg (UInt8.ofNat (48 + d)) = true := fun d hd => by
      have : (UInt8.ofNat (48 + d)).toNat = 48 + d := by simp; omega
      simp only [isDg, this, Bool.and_eq_true, decide_eq_true_eq]; omega
    intro b hb
    by_cases h : n < 10
    · rw [decN_lt h] at hb
      rw [List.mem_singleton.1 hb]; exact hd n h
    · rw [decN_ge h, List.mem_append] at hb
      rcases hb with hb | hb
      · exact ih (n / 10) (by omega) b hb
      · rw [List.mem_singleton.1 hb]; exact hd _ (by omega)
theorem decN_ne (n : Nat) : decN n ≠ [] := by
  by_cases h : n < 10
  · rw [decN_lt h]; simp
  · rw [decN_ge h]; simp
theorem digs_snoc (s : List UInt8) (b : UInt8) : digs (s ++ [b]) = digF (digs s) b := by simp [digs]
theorem digs_decN (n : Nat) : digs (decN n) = ((n : Int), (decN n).length) := by
  induction n using Nat.strongRecOn with
  | ind n ih =>
    have hd : ∀ d, d < 10 → (UInt8.ofNat (48 + d)).toNat = 48 + d ∧ isDg (UInt8.ofNat (48 + d)) = true := fun d hd => by
      have : (UInt8.ofNat (48 + d)).toNat = 48 + d := by simp; omega
      exact ⟨this, by simp only [isDg, this, Bool.and_eq_true, decide_eq_true_eq]; omega⟩
    by_cases h : n < 10
    · rw [decN_lt h]
      obtain ⟨h1, h2⟩ := hd n h
      simp only [digs, List.foldl_cons, List.foldl_nil, digF, h2, h1, if_true, List.length_singleton, Prod.mk.injEq]
      refine ⟨by push_cast; omega, trivial⟩
    · rw [decN_ge h, digs_snoc, ih (n / 10) (by omega)]
      obtain ⟨h1, h2⟩ := hd (n % 10) (by omega)
      simp only [digF, h2, h1, if_true, List.length_append, List.length_singleton, Prod.mk.injEq]
      refine ⟨by push_cast; omega, trivial⟩
theorem digs_cons (s : List UInt8) : digs (45 :: s) = digs s := by simp [digs, digF, isDg]
theorem decN_head (n : Nat) : (decN n).head? ≠ some 45 := by
  intro h
  have := decN_dg n 45 (List.mem_of_mem_head? h)
  simp [isDg] at this
theorem prs_dec {n : Int} (h : n.natAbs ≤ 999999999) : prsZ (decZ n) = some n := by
  have h1 := decN_len 8 n.natAbs (by omega)
  have hg := digs_decN n.natAbs
  by_cases hn : n < 0
  · have e : decZ n = 45 :: decN n.natAbs := by rw [decZ, if_pos hn]
    have ht : (45 :: decN n.natAbs).take 11 = 45 :: decN n.natAbs := List.take_of_length_le (by simp only [List.length_cons]; omega)
    have hv : prsV (decZ n) = n := by
      rw [prsV, e, ht, digs_cons, hg]; simp; omega
    rw [prsZ, hv, e, ht, digs_cons, hg, if_pos]
    exact ⟨by simp only; omega, by simp only [List.length_cons]; omega, rfl⟩
  · have e : decZ n = decN n.natAbs := by rw [decZ, if_neg hn]
    have ht : (decN n.natAbs).take 11 = decN n.natAbs := List.take_of_length_le (by omega)
    have hv : prsV (decZ n) = n := by
      rw [prsV, e, if_neg (decN_head _), ht, hg]; simp only; omega
    rw [prsZ, hv, e, ht, hg, if_pos]
    exact ⟨by simp only; omega, by omega, rfl⟩
theorem prs_ok {n : Int} (h : n.natAbs ≤ 999999999) : prsN (decZ n) = n := by rw [prsN, prs_dec h]; rfl
/-- the digits of a text that may have a sign -/
def sgnT (s : List UInt8) : List UInt8 := if s.head? = some 45 then s.drop 1 else s
theorem digs_all : ∀ (s : List UInt8) (p : Int × Nat), (∀ b ∈ s, isDg b = true) → (s.foldl digF p).2 = p.2 + s.length
  | [], p, _ => by simp
  | b :: r, p, h => by
    have := digs_all r (digF p b) fun x hx => h x (by simp [hx])
    rw [List.foldl_cons, this]
    simp only [digF, h b (by simp), if_true, List.length_cons]; omega
theorem sgnT_dec (n : Int) : sgnT (decZ n) = decN n.natAbs := by
  by_cases hn : n < 0
  · have e : decZ n = 45 :: decN n.natAbs := by rw [decZ, if_pos hn]
    rw [e]; simp [sgnT]
  · have e : decZ n = decN n.natAbs := by rw [decZ, if_neg hn]
    rw [e, sgnT, if_neg (decN_head _)]
theorem digs_sgn (s : List UInt8) : digs (sgnT s) = digs s := by
  unfold sgnT
  split
  · rename_i h
    cases s with
    | nil => simp at h
    | cons a r => simp only [List.head?_cons, Option.some.injEq] at h; subst h; rw [digs_cons]; rfl
  · rfl
/-- a text that is a number's has a sign at most, and digits -/
theorem prsZ_form {s : List UInt8} {n : Int} (h : prsZ s = some n) : sgnT s ≠ [] ∧ (sgnT s).length ≤ 9 ∧ ∀ b ∈ sgnT s, isDg b = true := by
  unfold prsZ at h
  split at h
  case isFalse => simp at h
  rename_i hc
  obtain ⟨h1, h2, h3⟩ := hc
  have hs := sgnT_dec (prsV s)
  rw [h3] at hs
  rw [hs]
  refine ⟨decN_ne _, ?_, decN_dg _⟩
  have h4 : s.take 11 = s := List.take_of_length_le (by omega)
  rw [h4, ← digs_sgn, hs, digs_decN] at h1
  exact h1
theorem sgnT_len (s : List UInt8) : s.length ≤ (sgnT s).length + 1 ∧ (sgnT s).length ≤ s.length := by
  unfold sgnT; split <;> simp <;> omega
/-- the number that the digits give -/
theorem prsZ_dig {s : List UInt8} (h9 : (sgnT s).length ≤ 9) (hd : ∀ b ∈ sgnT s, isDg b = true) : prsV s = (if s.head? = some 45 then -(digs (sgnT s)).1 else (digs (sgnT s)).1) ∧ prsZ s = if decZ (prsV s) = s then some (prsV s) else none := by
  have hl := sgnT_len s
  have h4 : s.take 11 = s := List.take_of_length_le (by omega)
  have h5 := digs_all (sgnT s) (0, 0) hd
  have h6 : (digs s).2 = (sgnT s).length := by rw [← digs_sgn]; simpa [digs] using h5
  refine ⟨by rw [prsV, h4, digs_sgn], ?_⟩
  unfold prsZ
  rw [h4, h6]
  by_cases e : decZ (prsV s) = s
  · rw [if_pos ⟨h9, by omega, e⟩, if_pos e]
  · rw [if_neg fun h => e h.2.2, if_neg e]
theorem digs_step {s : List UInt8} {i : Nat} (h : i < s.length) : digs (s.take (i + 1)) = digF (digs (s.take i)) s[i] := by
  rw [List.take_succ_eq_append_getElem h, digs_snoc]
theorem digs_bd (s : List UInt8) : 0 ≤ (digs s).1 ∧ (digs s).1 < 10 ^ s.length ∧ (digs s).2 ≤ s.length := by
  have : ∀ (s : List UInt8) (p : Int × Nat) (k : Nat), 0 ≤ p.1 ∧ p.1 < 10 ^ k ∧ p.2 ≤ k → 0 ≤ (s.foldl digF p).1 ∧ (s.foldl digF p).1 < 10 ^ (k + s.length) ∧ (s.foldl digF p).2 ≤ k + s.length := by
    intro s
    induction s with
    | nil => intro p k h; simpa using h
    | cons b r ih =>
      intro p k h
      have hp : (0 : Int) < 10 ^ k := Int.pow_pos (by omega)
      have := ih (digF p b) (k + 1) (by
        unfold digF
        split
        · rename_i hb
          simp only [isDg, Bool.and_eq_true, decide_eq_true_eq] at hb
          simp only [Int.pow_succ]
          omega
        · simp only [Int.pow_succ]; omega)
      rw [List.foldl_cons, List.length_cons, show k + (r.length + 1) = k + 1 + r.length by omega]
      exact this
  have := this s (0, 0) 0 (by simp)
  simpa [digs] using this
theorem prsN_inZ (s : List UInt8) : inZ (prsN s) ∧ inZ (prsV s) := by
  have h := digs_bd (s.take 11)
  have hl : (s.take 11).length ≤ 11 := by rw [List.length_take]; omega
  have h2 : (10 : Int) ^ (s.take 11).length ≤ 10 ^ 11 := by
    have := Nat.pow_le_pow_right (n := 10) (by omega) hl
    exact_mod_cast this
  have hv : inZ (prsV s) := by unfold prsV inZ; split <;> omega
  refine ⟨?_, hv⟩
  unfold prsN prsZ
  split
  · exact hv
  · simp [inZ]
end Go.Vs
namespace Go.Vs
theorem prsZ_nil : prsZ [] = none := by
  cases h : prsZ [] with
  | none => rfl
  | some n => exact absurd (by simp [sgnT]) (prsZ_form h).1
theorem prs_bad {s : List UInt8} (h : sgnT s = [] ∨ 9 < (sgnT s).length ∨ ∃ b ∈ sgnT s, isDg b = false) : prsZ s = none ∧ prsN s = 0 := by
  have : prsZ s = none := by
    cases hz : prsZ s with
    | none => rfl
    | some n =>
      obtain ⟨h1, h2, h3⟩ := prsZ_form hz
      rcases h with h | h | ⟨b, hb, h⟩
      · exact absurd h h1
      · omega
      · rw [h3 b hb] at h; cases h
  exact ⟨this, by rw [prsN, this]; rfl⟩
theorem sgnT_45 (r : List UInt8) : sgnT (45 :: r) = r := by simp [sgnT]
theorem sgnT_ne {a : UInt8} {r : List UInt8} (h : a ≠ 45) : sgnT (a :: r) = a :: r := by simp [sgnT, h]
theorem isDg_lo {b : UInt8} (h : (b.toNat : Int) < 48) : isDg b = false := by simp [isDg]; omega
theorem isDg_hi {b : UInt8} (h : (57 : Int) < (b.toNat : Int)) : isDg b = false := by simp [isDg]; omega
theorem isDg_ok {b : UInt8} (h : ¬ (b.toNat : Int) < 48) (h' : ¬ (57 : Int) < (b.toNat : Int)) : isDg b = true := by simp [isDg]; omega
end Go.Vs

namespace Go.Vs
/-! ### relations' texts read -/
def inTx (x : List UInt8) : List UInt8 := (x.drop 1).take (x.length - 2)
def rowTx (x : List UInt8) : List Int := if 2 < x.length then (cutB 44 (inTx x)).map prsN else []
def preRel (s : List UInt8) : PReln :=
  ⟨prsN ((cutB 58 s).getD 0 []), if (cutB 58 s).length = 2 ∧ (cutB 58 s).getD 1 [] ≠ [] then (cutB 32 ((cutB 58 s).getD 1 [])).map rowTx else []⟩
def prsB (s : List UInt8) : Bool := decide (fmtRel (preRel s) = s) && decide (s ≠ [])
def prsR (s : List UInt8) : PReln := if prsB s then preRel s else ⟨0, []⟩
theorem decZ_no {c : UInt8} (n : Int) (h1 : c ≠ 45) (h2 : isDg c = false) : c ∉ decZ n := by
  intro h
  unfold decZ at h
  split at h
  · rcases List.mem_cons.1 h with h | h
    · exact h1 h
    · rw [decN_dg _ _ h] at h2; cases h2
  · rw [decN_dg _ _ h] at h2; cases h2
theorem decZ_ne (n : Int) : decZ n ≠ [] := by
  unfold decZ; split
  · simp
  · exact decN_ne _
theorem joinB_mem {sep x : List UInt8} {b : UInt8} : ∀ {l : List (List UInt8)}, b ∈ joinB sep l → b ∈ sep ∨ ∃ x ∈ l, b ∈ x
  | [], h => by simp [joinB] at h
  | y :: r, h => by
    simp only [joinB, List.mem_append, List.mem_flatMap] at h
    rcases h with h | ⟨z, hz, h | h⟩
    · exact .inr ⟨y, by simp, h⟩
    · exact .inl h
    · exact .inr ⟨z, by simp [hz], h⟩
theorem joinB_ne {sep : List UInt8} {l : List (List UInt8)} (h : l ≠ []) (hx : ∀ x ∈ l, x ≠ []) : joinB sep l ≠ [] := by
  cases l with
  | nil => exact absurd rfl h
  | cons a r =>
    intro e
    simp only [joinB, List.append_eq_nil_iff] at e
    exact hx a (by simp) e.1
theorem fmtRow_no {c : UInt8} (r : List Int) (h1 : c ≠ 45) (h2 : isDg c = false) (h3 : c ≠ 40) (h4 : c ≠ 41) (h5 : c ≠ 44) : c ∉ fmtRow r := by
  intro h
  simp only [fmtRow, List.mem_append, List.mem_singleton] at h
  rcases h with (h | h) | h
  · exact h3 h
  · rcases joinB_mem (x := []) h with h | ⟨x, hx, h⟩
    · exact h5 (List.mem_singleton.1 h)
    · obtain ⟨n, _, rfl⟩ := List.mem_map.1 hx
      exact decZ_no n h1 h2 h
  · exact h4 h
theorem inTx_fmt (r : List Int) : inTx (fmtRow r) = joinB [44] (r.map decZ) ∧ 2 ≤ (fmtRow r).length ∧ (2 < (fmtRow r).length ↔ r ≠ []) := by
  have e : fmtRow r = 40 :: (joinB [44] (r.map decZ) ++ [41]) := by simp [fmtRow]
  have hl : (fmtRow r).length = (joinB [44] (r.map decZ)).length + 2 := by rw [e]; simp
  refine ⟨?_, by omega, ?_⟩
  · rw [inTx, hl, e]; simp
  · rw [hl]
    constructor
    · rintro h rfl
      simp [joinB] at h
    · intro h
      have := List.length_pos_iff.2 (joinB_ne (sep := [44]) (l := r.map decZ) (by simpa using h) fun x hx => by
        obtain ⟨n, _, rfl⟩ := List.mem_map.1 hx; exact decZ_ne n)
      omega
theorem cut_row (r : List Int) (h : r ≠ []) : cutB 44 (joinB [44] (r.map decZ)) = r.map decZ :=
  cutB_join _ (by simpa using h) fun x hx => by
    obtain ⟨n, _, rfl⟩ := List.mem_map.1 hx; exact decZ_no n (by decide) (by decide)
theorem rowTx_fmt {r : List Int} (h : ∀ x ∈ r, x.natAbs ≤ 999999999) : rowTx (fmtRow r) = r := by
  obtain ⟨h1, h2, h3⟩ := inTx_fmt r
  unfold rowTx
  by_cases hr : r = []
  · rw [if_neg (by rw [h3]; simpa using hr), hr]
  · rw [if_pos (h3.2 hr), h1, cut_row r hr, List.map_map]
    have : ∀ (l : List Int), (∀ x ∈ l, x.natAbs ≤ 999999999) → l.map (prsN ∘ decZ) = l := fun l hl => by
      induction l with
      | nil => rfl
      | cons a l ih => rw [List.map_cons, ih fun x hx => hl x (by simp [hx])]; simp [prs_ok (hl a (by simp))]
    exact this r h
theorem vals_small {r : List Int} (h : valsOk r = true) : ∀ x ∈ r, x.natAbs ≤ 999999999 := fun x hx => by
  have := (List.all_eq_true.1 h) x hx
  simp only [inR, Bool.and_eq_true, decide_eq_true_eq] at this
  omega
/-- what a right relation's text is cut into -/
theorem fmt_cut {r : PReln} (h : rowsOk r.ar r.rows = true) : cutB 58 (fmtRel r) = [decZ r.ar, joinB [32] (r.rows.map fmtRow)] ∧ (r.rows ≠ [] → cutB 32 (joinB [32] (r.rows.map fmtRow)) = r.rows.map fmtRow) ∧ (joinB [32] (r.rows.map fmtRow) = [] ↔ r.rows = []) ∧ prsZ (decZ r.ar) = some r.ar := by
  have hJ : (58 : UInt8) ∉ joinB [32] (r.rows.map fmtRow) := fun hm => by
    rcases joinB_mem (x := []) hm with hm | ⟨x, hx, hm⟩
    · exact absurd hm (by decide)
    · obtain ⟨q, _, rfl⟩ := List.mem_map.1 hx
      exact fmtRow_no q (by decide) (by decide) (by decide) (by decide) (by decide) hm
  have har := rowsOk_inR h
  simp only [inR, Bool.and_eq_true, decide_eq_true_eq] at har
  refine ⟨?_, fun hr => ?_, ?_, prs_dec (by omega)⟩
  · have e : fmtRel r = decZ r.ar ++ 58 :: joinB [32] (r.rows.map fmtRow) := by simp [fmtRel, h]
    rw [e, cutB_mid (decZ_no _ (by decide) (by decide)), cutB_no hJ]
  · exact cutB_join _ (by simpa using hr) fun x hx => by
      obtain ⟨q, _, rfl⟩ := List.mem_map.1 hx
      exact fmtRow_no q (by decide) (by decide) (by decide) (by decide) (by decide)
  · constructor
    · intro e
      exact Classical.byContradiction fun hr => joinB_ne (sep := [32]) (l := r.rows.map fmtRow) (by simpa using hr) (fun x hx => by
        obtain ⟨q, _, rfl⟩ := List.mem_map.1 hx; simp [fmtRow]) e
    · intro e; simp [e, joinB]
theorem pre_fmt {r : PReln} (h : rowsOk r.ar r.rows = true) : preRel (fmtRel r) = r := by
  obtain ⟨h1, h2, h3, h4⟩ := fmt_cut h
  obtain ⟨ar, rows⟩ := r
  simp only at h h1 h2 h3 h4
  have hp : prsN (decZ ar) = ar := by rw [prsN, h4]; rfl
  simp only [preRel, h1, List.getD_cons_zero, List.getD_cons_succ, hp, List.length_cons, List.length_nil]
  by_cases hr : rows = []
  · rw [if_neg fun hc => hc.2 (h3.2 hr), hr]
  · rw [if_pos ⟨trivial, fun e => hr (h3.1 e)⟩, h2 hr, List.map_map]
    have : ∀ (l : List (List Int)), (∀ x ∈ l, valsOk x = true) → l.map (rowTx ∘ fmtRow) = l := fun l hl => by
      induction l with
      | nil => rfl
      | cons a l ih => rw [List.map_cons, ih fun x hx => hl x (by simp [hx])]; simp [rowTx_fmt (vals_small (hl a (by simp)))]
    rw [this rows fun x hx => (rowsOk_mem h hx).2]
theorem fmtRel_ok {r : PReln} (h : fmtRel r ≠ []) : rowsOk r.ar r.rows = true := by
  unfold fmtRel at h
  split at h
  · assumption
  · exact absurd rfl h
theorem prs_fmt {r : PReln} (h : rowsOk r.ar r.rows = true) : prsB (fmtRel r) = true ∧ prsR (fmtRel r) = r := by
  have hb : prsB (fmtRel r) = true := by
    simp only [prsB, pre_fmt h, decide_true, Bool.true_and, decide_eq_true_eq]
    intro e
    have := (fmt_cut h).1
    rw [e] at this
    simp [cutB, cutA] at this
  exact ⟨hb, by rw [prsR, if_pos hb, pre_fmt h]⟩
theorem prsB_ok {s : List UInt8} (h : prsB s = true) : rowsOk (prsR s).ar (prsR s).rows = true ∧ fmtRel (prsR s) = s := by
  rw [prsR, if_pos h]
  simp only [prsB, Bool.and_eq_true, decide_eq_true_eq] at h
  exact ⟨fmtRel_ok (by rw [h.1]; exact h.2), h.1⟩
/-- what the program asks of the text on its way -/
theorem prsB_form {s : List UInt8} (h : prsB s = true) : (prsZ ((cutB 58 s).getD 0 [])).isSome = true ∧ (cutB 58 s).length = 2 ∧
    ((cutB 58 s).getD 1 [] ≠ [] → ∀ x ∈ cutB 32 ((cutB 58 s).getD 1 []), 2 ≤ x.length ∧ (inTx x ≠ [] → ∀ v ∈ cutB 44 (inTx x), (prsZ v).isSome = true)) := by
  obtain ⟨h1, h2⟩ := prsB_ok h
  obtain ⟨g1, g2, g3, g4⟩ := fmt_cut h1
  rw [h2] at g1
  rw [g1]
  simp only [List.getD_cons_zero, List.getD_cons_succ, List.length_cons, List.length_nil]
  refine ⟨by rw [g4]; rfl, by trivial, fun hne x hx => ?_⟩
  have hr : (prsR s).rows ≠ [] := fun e => hne (g3.2 e)
  rw [g2 hr] at hx
  obtain ⟨q, hq, rfl⟩ := List.mem_map.1 hx
  obtain ⟨i1, i2, i3⟩ := inTx_fmt q
  refine ⟨i2, fun hi v hv => ?_⟩
  have hq0 : q ≠ [] := by
    rintro rfl
    rw [i1] at hi
    exact hi rfl
  rw [i1, cut_row q hq0] at hv
  obtain ⟨n, hn, rfl⟩ := List.mem_map.1 hv
  rw [prs_dec (vals_small (rowsOk_mem h1 hq).2 n hn)]; rfl
theorem prsB_nil : prsB [] = false := by simp [prsB]
theorem inTx_ne {x : List UInt8} (h : 2 ≤ x.length) : inTx x ≠ [] ↔ 2 < x.length := by
  have : (inTx x).length = x.length - 2 := by rw [inTx, List.length_take, List.length_drop]; omega
  rw [← List.length_pos_iff, this]; omega
theorem preRel_inZ (s : List UInt8) : inZ (preRel s).ar ∧ ∀ r ∈ (preRel s).rows, ∀ x ∈ r, inZ x := by
  refine ⟨(prsN_inZ _).1, fun r hr x hx => ?_⟩
  simp only [preRel] at hr
  split at hr
  · obtain ⟨q, _, rfl⟩ := List.mem_map.1 hr
    unfold rowTx at hx
    split at hx
    · obtain ⟨v, _, rfl⟩ := List.mem_map.1 hx
      exact (prsN_inZ v).1
    · simp at hx
  · simp at hr
end Go.Vs

namespace Go.Vs
/-! ### disks -/
def rdF (k : List PFile) (nm : List UInt8) : Option (List UInt8) := (k.find? fun f => decide (f.name = nm)).map (·.data)
def rdD (k : List PFile) (nm : List UInt8) : List UInt8 := (rdF k nm).getD []
def rdB (k : List PFile) (nm : List UInt8) : Bool := (rdF k nm).isSome
structure RdI (k : List PFile) (nm : List UInt8) (i : Nat) : Prop where
  le : i ≤ k.length
  eq : rdF (k.drop i) nm = rdF k nm
theorem RdI.zero {k : List PFile} {nm : List UInt8} : RdI k nm 0 := ⟨by omega, rfl⟩
theorem RdI.miss {k : List PFile} {nm : List UInt8} {i : Nat} (h : RdI k nm i) (hi : i < k.length) (e : k[i].name ≠ nm) : RdI k nm (i + 1) := by
  refine ⟨hi, ?_⟩
  rw [← h.eq, List.drop_eq_getElem_cons hi, rdF, rdF, List.find?_cons_of_neg (by simpa using e)]
theorem RdI.hit {k : List PFile} {nm : List UInt8} {i : Nat} (h : RdI k nm i) (hi : i < k.length) (e : k[i].name = nm) : rdF k nm = some k[i].data := by
  rw [← h.eq, List.drop_eq_getElem_cons hi, rdF, List.find?_cons_of_pos (by simpa using e)]; rfl
theorem RdI.done {k : List PFile} {nm : List UInt8} {i : Nat} (h : RdI k nm i) (hi : k.length ≤ i) : rdF k nm = none := by
  rw [← h.eq, List.drop_of_length_le hi]; rfl
theorem rdF_mem {k : List PFile} {nm s : List UInt8} (h : rdF k nm = some s) : ∃ f ∈ k, f.name = nm ∧ f.data = s := by
  unfold rdF at h
  cases hf : k.find? fun f => decide (f.name = nm) with
  | none => simp [hf] at h
  | some f =>
    simp only [hf, Option.map_some, Option.some.injEq] at h
    exact ⟨f, List.mem_of_find?_eq_some hf, by simpa using List.find?_some hf, h⟩
theorem rdD_len {k : List PFile} {nm : List UInt8} {n : Nat} (h : ∀ f ∈ k, f.data.length ≤ n) : (rdD k nm).length ≤ n := by
  unfold rdD
  cases hf : rdF k nm with
  | none => simp
  | some s =>
    obtain ⟨f, hm, _, rfl⟩ := rdF_mem hf
    exact h f hm
/-- the disk's names ascend -/
def dskAt (l : List PFile) (j : Nat) : Bool := decide (j = 0) || Op.bytesLess (l.getD (j - 1) default).name (l.getD j default).name
def dskOk (l : List PFile) : Bool := (List.range l.length).all (dskAt l)
structure DskI (l : List PFile) (i : Nat) : Prop where
  lo : 1 ≤ i
  ok : ∀ j, j < i → j < l.length → dskAt l j = true
theorem DskI.one {l : List PFile} : DskI l 1 := ⟨by omega, fun j h1 _ => by simp [dskAt, show j = 0 by omega]⟩
theorem DskI.step {l : List PFile} {i : Nat} (h : DskI l i) (e : dskAt l i = true) : DskI l (i + 1) :=
  ⟨by omega, fun j h1 h2 => by
    by_cases hj : j < i
    · exact h.ok j hj h2
    · rw [show j = i by omega]; exact e⟩
theorem DskI.done {l : List PFile} {i : Nat} (h : DskI l i) (hi : l.length ≤ i) : dskOk l = true := by
  simp only [dskOk, List.all_eq_true, List.mem_range]
  exact fun j hj => h.ok j (by omega) hj
theorem dskOk_bad {l : List PFile} {i : Nat} (hi : i < l.length) (e : dskAt l i = false) : dskOk l = false := by
  cases h : dskOk l
  · rfl
  · simp only [dskOk, List.all_eq_true, List.mem_range] at h
    rw [h i hi] at e; cases e
theorem dskAt_eq {l : List PFile} {i : Nat} (h1 : 1 ≤ i) (hi : i < l.length) : dskAt l i = Op.bytesLess (l[i - 1]'(by omega)).name l[i].name := by
  rw [dskAt, getD_el _ hi, getD_el _ (show i - 1 < l.length by omega)]
  simp [show i ≠ 0 by omega]
/-! ### loading a version -/
def hdNm (v : Int) : List UInt8 := [109] ++ decZ v
def lnNm (ln : List UInt8) : List UInt8 := (cutB 61 ln).getD 0 []
def tabO (k : List PFile) (v : Int) (ln : List UInt8) : Option PTab := if rdB k (runNm v (lnNm ln)) && prsB (rdD k (runNm v (lnNm ln))) then some ⟨lnNm ln, prsR (rdD k (runNm v (lnNm ln)))⟩ else none
def lnCk (ln s : List UInt8) : Bool := decide ((cutB 61 ln).length = 2) && decide (decZ (ckS s) = (cutB 61 ln).getD 1 [])
def tabS (k : List PFile) (v : Int) (ln : List UInt8) : Option PTab := if lnCk ln (rdD k (runNm v (lnNm ln))) then tabO k v ln else none
def tabsM (f : List UInt8 → Option PTab) : List (List UInt8) → Option (List PTab)
  | [] => some []
  | x :: r => match f x with
    | none => none
    | some t => (tabsM f r).map (t :: ·)
structure TbI (f : List UInt8 → Option PTab) (ls : List (List UInt8)) (i : Nat) (acc : List PTab) : Prop where
  le : i ≤ ls.length
  eq : tabsM f ls = (tabsM f (ls.drop i)).map (acc ++ ·)
  len : acc.length = i
theorem TbI.zero {f : List UInt8 → Option PTab} {ls : List (List UInt8)} : TbI f ls 0 [] := ⟨by omega, by simp, rfl⟩
theorem TbI.step {f : List UInt8 → Option PTab} {ls : List (List UInt8)} {i : Nat} {acc : List PTab} (h : TbI f ls i acc) (hi : i < ls.length) {t : PTab} (e : f ls[i] = some t) : TbI f ls (i + 1) (acc ++ [t]) := by
  refine ⟨hi, ?_, by simp [h.len]⟩
  rw [h.eq, List.drop_eq_getElem_cons hi, tabsM, e]
  simp only [Option.map_map, Function.comp_def, List.append_assoc, List.singleton_append]
theorem TbI.bad {f : List UInt8 → Option PTab} {ls : List (List UInt8)} {i : Nat} {acc : List PTab} (h : TbI f ls i acc) (hi : i < ls.length) (e : f ls[i] = none) : tabsM f ls = none := by
  rw [h.eq, List.drop_eq_getElem_cons hi, tabsM, e]; rfl
theorem TbI.done {f : List UInt8 → Option PTab} {ls : List (List UInt8)} {i : Nat} {acc : List PTab} (h : TbI f ls i acc) (hi : ls.length ≤ i) : tabsM f ls = some acc := by
  rw [h.eq, List.drop_of_length_le hi, tabsM]; simp
/-- the manifest's lines but for the last -/
def lns (h : List UInt8) : List (List UInt8) := (cutB 10 h).dropLast
theorem lns_len (h : List UInt8) : (lns h).length + 1 = (cutB 10 h).length := by
  have := cutB_pos 10 h
  rw [lns, List.length_dropLast]; omega
def headEq (ts : List PTab) (h : List UInt8) : Bool := decide (headTx ts ++ decZ (ckS (headTx ts)) = h)
def loadS (k : List PFile) (v : Int) : Option PDb :=
  if rdB k (hdNm v) then match tabsM (tabS k v) (lns (rdD k (hdNm v))) with
    | none => none
    | some ts => if verB ⟨ts⟩ v && headEq ts (rdD k (hdNm v)) then some ⟨ts⟩ else none
  else none
def fileOk (k : List PFile) (f : PFile) : Bool := rdB k f.name && decide (rdD k f.name = f.data)
def loadI (k : List PFile) (v : Int) : Option PDb :=
  if rdB k (hdNm v) then match tabsM (tabO k v) (lns (rdD k (hdNm v))) with
    | none => none
    | some ts => if verB ⟨ts⟩ v && (verFs ⟨ts⟩ v).all (fileOk k) then some ⟨ts⟩ else none
  else none
def headL (t : PTab) : List UInt8 := t.name ++ 61 :: decZ (ckS (fmtRel t.rel))
theorem name_no {t : PTab} (h : tabOk t = true) {c : UInt8} (hc : c.toNat < 97) : c ∉ t.name := by
  intro hm
  simp only [tabOk, nameOk, Bool.and_eq_true, List.all_eq_true] at h
  have := h.1.1.1.2 c hm
  simp only [lowB, decide_eq_true_eq] at this
  omega
theorem cut_headL {t : PTab} (h : tabOk t = true) : cutB 61 (headL t) = [t.name, decZ (ckS (fmtRel t.rel))] ∧ (10 : UInt8) ∉ headL t := by
  refine ⟨?_, ?_⟩
  · rw [headL, cutB_mid (name_no h (by decide)), cutB_no (decZ_no _ (by decide) (by decide))]
  · simp only [headL, List.mem_append, List.mem_cons, not_or]
    exact ⟨name_no h (by decide), by decide, decZ_no _ (by decide) (by decide)⟩
theorem cut_head : ∀ (ts : List PTab), (∀ t ∈ ts, tabOk t = true) → ∀ n : Int, cutB 10 (headTx ts ++ decZ n) = ts.map headL ++ [decZ n]
  | [], _, n => by
    simp only [headTx, List.flatMap_nil, List.nil_append, List.map_nil]
    exact cutB_no (decZ_no _ (by decide) (by decide))
  | t :: r, h, n => by
    have e : headTx (t :: r) ++ decZ n = headL t ++ 10 :: (headTx r ++ decZ n) := by simp [headTx, headLn, headL]
    rw [e, cutB_mid (cut_headL (h t (by simp))).2, cut_head r (fun x hx => h x (by simp [hx])) n]; rfl
theorem tabO_some {k : List PFile} {v : Int} {ln : List UInt8} {t : PTab} (h : tabO k v ln = some t) : t.name = lnNm ln ∧ rdF k (runNm v t.name) = some (fmtRel t.rel) ∧ rdD k (runNm v (lnNm ln)) = fmtRel t.rel := by
  unfold tabO at h
  split at h
  case isFalse => simp at h
  rename_i hc
  simp only [Bool.and_eq_true] at hc
  simp only [Option.some.injEq] at h
  subst h
  have h2 := (prsB_ok hc.2).2
  refine ⟨rfl, ?_, h2.symm⟩
  simp only
  rw [h2]
  have h1 := hc.1
  simp only [rdB, rdD] at h1 ⊢
  cases hf : rdF k (runNm v (lnNm ln)) with
  | none => rw [hf] at h1; cases h1
  | some s => rfl
theorem tabsM_mono {f g : List UInt8 → Option PTab} (h : ∀ x t, f x = some t → g x = some t) : ∀ (l : List (List UInt8)) (ts : List PTab), tabsM f l = some ts → tabsM g l = some ts
  | [], ts, e => e
  | x :: r, ts, e => by
    simp only [tabsM] at e ⊢
    cases hx : f x with
    | none => simp [hx] at e
    | some t =>
      simp only [hx, Option.map_eq_some_iff] at e
      obtain ⟨rs, hr, rfl⟩ := e
      simp only [h x t hx, tabsM_mono h r rs hr, Option.map_some]
theorem tabsM_mem {k : List PFile} {v : Int} : ∀ (l : List (List UInt8)) (ts : List PTab), tabsM (tabO k v) l = some ts → ∀ t ∈ ts, rdF k (runNm v t.name) = some (fmtRel t.rel)
  | [], ts, e, t, ht => by simp only [tabsM, Option.some.injEq] at e; subst e; simp at ht
  | x :: r, ts, e, t, ht => by
    simp only [tabsM] at e
    cases hx : tabO k v x with
    | none => simp [hx] at e
    | some u =>
      simp only [hx, Option.map_eq_some_iff] at e
      obtain ⟨rs, hr, rfl⟩ := e
      rcases List.mem_cons.1 ht with rfl | ht
      · exact (tabO_some hx).2.1
      · exact tabsM_mem r rs hr t ht
theorem tabsM_up {k : List PFile} {v : Int} : ∀ (ts : List PTab), (∀ t ∈ ts, tabOk t = true) → tabsM (tabO k v) (ts.map headL) = some ts → tabsM (tabS k v) (ts.map headL) = some ts
  | [], _, e => e
  | t :: r, h, e => by
    simp only [List.map_cons, tabsM] at e ⊢
    cases hx : tabO k v (headL t) with
    | none => simp [hx] at e
    | some u =>
      simp only [hx, Option.map_eq_some_iff] at e
      obtain ⟨rs, hr, e2⟩ := e
      simp only [List.cons.injEq] at e2
      obtain ⟨rfl, rfl⟩ := e2
      obtain ⟨_, _, h3⟩ := tabO_some hx
      have hc := (cut_headL (h u (by simp))).1
      have hk : lnCk (headL u) (rdD k (runNm v (lnNm (headL u)))) = true := by
        rw [h3, lnCk, hc]; simp
      simp only [tabS, hk, if_true, hx, tabsM_up rs (fun x hx => h x (by simp [hx])) hr, Option.map_some]
theorem fileOk_iff {k : List PFile} {f : PFile} : fileOk k f = true ↔ rdF k f.name = some f.data := by
  have : ∀ o : Option (List UInt8), (o.isSome && decide (o.getD [] = f.data)) = true ↔ o = some f.data := fun o => by cases o <;> simp
  exact this (rdF k f.name)
theorem verFs_eq {d : PDb} {v : Int} (h : verB d v = true) : verFs d v = runs v d.tabs ++ [⟨hdNm v, headTx d.tabs ++ decZ (ckS (headTx d.tabs))⟩] := by rw [verFs, if_pos h]; rfl
theorem load_eq (k : List PFile) (v : Int) : loadI k v = loadS k v := by
  unfold loadI loadS
  split
  case isFalse => rfl
  rename_i hb
  obtain ⟨h, hh⟩ : ∃ h, h = rdD k (hdNm v) := ⟨_, rfl⟩
  have hF : rdF k (hdNm v) = some h := by
    simp only [rdB] at hb
    simp only [rdD] at hh
    cases hf : rdF k (hdNm v) with
    | none => rw [hf] at hb; cases hb
    | some s => rw [hf] at hh; rw [hh]; rfl
  rw [← hh]
  have mono : ∀ x t, tabS k v x = some t → tabO k v x = some t := fun x t e => by
    unfold tabS at e; split at e
    · exact e
    · simp at e
  cases hO : tabsM (tabO k v) (lns h) with
  | none =>
    cases hS : tabsM (tabS k v) (lns h) with
    | none => rfl
    | some ts => rw [tabsM_mono mono _ _ hS] at hO; cases hO
  | some ts =>
    simp only
    cases hV : verB ⟨ts⟩ v
    · cases hS : tabsM (tabS k v) (lns h) with
      | none => rfl
      | some ts' =>
        have := tabsM_mono mono _ _ hS
        rw [hO] at this
        simp only [Option.some.injEq] at this
        subst this
        simp [hV]
    have hall : (verFs ⟨ts⟩ v).all (fileOk k) = headEq ts h := by
      rw [verFs_eq hV, List.all_append]
      have h1 : (runs v ts).all (fileOk k) = true := by
        simp only [List.all_eq_true, runs, List.mem_map]
        rintro _ ⟨t, ht, rfl⟩
        exact fileOk_iff.2 (tabsM_mem _ _ hO t ht)
      rw [h1, Bool.true_and]
      simp only [List.all_cons, List.all_nil, Bool.and_true]
      cases he : headEq ts h
      · cases hf : fileOk k ⟨hdNm v, headTx ts ++ decZ (ckS (headTx ts))⟩
        · rfl
        · have := fileOk_iff.1 hf
          rw [hF] at this
          simp only [Option.some.injEq] at this
          simp [headEq, ← this] at he
      · simp only [headEq, decide_eq_true_eq] at he
        exact fileOk_iff.2 (by rw [hF, he])
    rw [hall]
    cases he : headEq ts h
    · simp only [Bool.and_false]
      cases hS : tabsM (tabS k v) (lns h) with
      | none => rfl
      | some ts' =>
        have := tabsM_mono mono _ _ hS
        rw [hO] at this
        simp only [Option.some.injEq] at this
        subst this
        simp [he]
    · have he' := he
      simp only [headEq, decide_eq_true_eq] at he
      have hd : dbOk ⟨ts⟩ = true := by simp only [verB, Bool.and_eq_true] at hV; exact hV.1
      have hok : ∀ t ∈ ts, tabOk t = true := fun t ht => dbOk_tab hd ht
      have hl : lns h = ts.map headL := by rw [lns, ← he, cut_head ts hok]; simp
      rw [hl] at hO ⊢
      rw [tabsM_up ts hok hO]
      simp [hV, he']
/-! ### the newest version -/
def newF (k : List PFile) : Nat → Nat
  | 0 => 0
  | n + 1 => if (loadS k ((n + 1 : Nat) : Int)).isSome then n + 1 else newF k n
def newV (k : List PFile) : Nat := newF k 99
def recP (k : List PFile) : PDb := if newV k = 0 then ⟨[]⟩ else (loadS k (newV k)).getD ⟨[]⟩
def recB (k : List PFile) : Bool := decide (newV k ≠ 0)
theorem newF_le (k : List PFile) : ∀ n, newF k n ≤ n
  | 0 => by simp [newF]
  | n + 1 => by
    unfold newF; split
    · omega
    · have := newF_le k n; omega
structure NewI (k : List PFile) (v : Nat) : Prop where
  le : v ≤ 99
  eq : newF k v = newV k
theorem NewI.top {k : List PFile} : NewI k 99 := ⟨by omega, rfl⟩
theorem NewI.down {k : List PFile} {v : Nat} (h : NewI k (v + 1)) (e : loadS k ((v + 1 : Nat) : Int) = none) : NewI k v :=
  ⟨by have := h.le; omega, by rw [← h.eq, newF, e]; rfl⟩
theorem NewI.hit {k : List PFile} {v : Nat} (h : NewI k (v + 1)) {d : PDb} (e : loadS k ((v + 1 : Nat) : Int) = some d) : newV k = v + 1 ∧ recP k = d ∧ recB k = true := by
  have h1 : newV k = v + 1 := by rw [← h.eq, newF, e]; rfl
  exact ⟨h1, by rw [recP, if_neg (by omega), h1, e]; rfl, by simp [recB, h1]⟩
theorem NewI.zero {k : List PFile} (h : NewI k 0) : newV k = 0 ∧ recP k = ⟨[]⟩ ∧ recB k = false := by
  have h1 : newV k = 0 := by rw [← h.eq]; rfl
  exact ⟨h1, by rw [recP, if_pos h1], by simp [recB, h1]⟩
theorem loadS_no {k : List PFile} {v : Int} (h : rdB k (hdNm v) = false) : loadS k v = none := by simp [loadS, h]
theorem loadS_db {k : List PFile} {v : Int} {d : PDb} (h : loadS k v = some d) : verB d v = true := by
  unfold loadS at h
  split at h
  case isFalse => simp at h
  split at h
  · simp at h
  · split at h
    · rename_i hc
      simp only [Option.some.injEq] at h
      subst h
      simp only [Bool.and_eq_true] at hc
      exact hc.1
    · simp at h
theorem recP_ok (k : List PFile) : dbOk (recP k) = true := by
  unfold recP
  split
  · rfl
  · cases h : loadS k (newV k) with
    | none => rfl
    | some d =>
      have := loadS_db h
      simp only [verB, Bool.and_eq_true] at this
      exact this.1
theorem load_new {k : List PFile} : (recB k = true → loadS k (newV k) = some (recP k)) ∧ (recB k = false → loadS k (newV k) = none) := by
  have key : ∀ n, newF k n ≠ 0 → (loadS k (newF k n)).isSome = true := fun n => by
    induction n with
    | zero => intro h; simp [newF] at h
    | succ n ih =>
      intro h
      unfold newF at h ⊢
      split
      · assumption
      · rename_i hc
        rw [if_neg hc] at h
        exact ih h
  constructor
  · intro h
    simp only [recB, decide_eq_true_eq] at h
    have := key 99 h
    cases hl : loadS k (newV k) with
    | none => rw [newV] at hl; rw [hl] at this; cases this
    | some d => rw [recP, if_neg h, hl]; rfl
  · intro h
    have h0 : newV k = 0 := by simpa [recB] using h
    rw [h0]
    cases hl : loadS k ((0 : Nat) : Int) with
    | none => rfl
    | some d =>
      have := loadS_db hl
      simp only [verB, inR, Bool.and_eq_true, decide_eq_true_eq] at this
      omega
/-! ### writing -/
def wrA (n : PFile) : Bool → List PFile → List PFile
  | done, [] => if done then [] else [n]
  | done, f :: r => (if !done && !Op.bytesLess f.name n.name then [n] else []) ++ (if f.name = n.name then [] else [f]) ++ wrA n (done || !Op.bytesLess f.name n.name) r
def wrF (k : List PFile) (n : PFile) : List PFile := wrA n false k
structure WrI (k : List PFile) (n : PFile) (p : Nat × Bool × List PFile) : Prop where
  le : p.1 ≤ k.length
  eq : wrF k n = p.2.2 ++ wrA n p.2.1 (k.drop p.1)
  len : p.2.2.length ≤ p.1 + (if p.2.1 then 1 else 0)
theorem WrI.zero {k : List PFile} {n : PFile} : WrI k n (0, false, []) := ⟨by simp, by simp [wrF], by simp⟩
theorem WrI.step {k : List PFile} {n : PFile} {i : Nat} {b : Bool} {out : List PFile} (h : WrI k n (i, b, out)) (hi : i < k.length) :
    WrI k n (i + 1, b || !Op.bytesLess k[i].name n.name, out ++ ((if !b && !Op.bytesLess k[i].name n.name then [n] else []) ++ (if k[i].name = n.name then [] else [k[i]]))) := by
  refine ⟨hi, ?_, ?_⟩
  · have := h.eq
    simp only at this ⊢
    rw [this, List.drop_eq_getElem_cons hi, wrA]
    simp only [List.append_assoc]
  · have := h.len
    simp only [List.length_append] at this ⊢
    have h2 : (if k[i].name = n.name then ([] : List PFile) else [k[i]]).length ≤ 1 := by split <;> simp
    cases b <;> cases Op.bytesLess k[i].name n.name <;> simp at this ⊢ <;> omega
theorem WrI.done {k : List PFile} {n : PFile} {i : Nat} {b : Bool} {out : List PFile} (h : WrI k n (i, b, out)) (hi : k.length ≤ i) : wrF k n = out ++ (if b then [] else [n]) := by
  have := h.eq
  simp only at this
  rw [this, List.drop_of_length_le hi, wrA]
theorem wrF_len (k : List PFile) (n : PFile) : (wrF k n).length ≤ k.length + 1 := by
  have : ∀ (k : List PFile) (b : Bool), (wrA n b k).length ≤ k.length + (if b then 0 else 1) := fun k => by
    induction k with
    | nil => intro b; cases b <;> simp [wrA]
    | cons f r ih =>
      intro b
      have := ih (b || !Op.bytesLess f.name n.name)
      have h2 : (if f.name = n.name then ([] : List PFile) else [f]).length ≤ 1 := by split <;> simp
      simp only [wrA, List.length_append, List.length_cons]
      generalize (if f.name = n.name then ([] : List PFile) else [f]) = L at h2 ⊢
      generalize Op.bytesLess f.name n.name = q at this ⊢
      cases b <;> cases q <;> simp at this ⊢ <;> omega
  exact this k false
def wout (k : List PFile) (nm : List UInt8) : List PFile := k.filter fun f => decide (f.name ≠ nm)
theorem wout_step {k : List PFile} {nm : List UInt8} {i : Nat} (hi : i < k.length) : wout (k.take (i + 1)) nm = wout (k.take i) nm ++ (if k[i].name = nm then [] else [k[i]]) := by
  unfold wout
  rw [List.take_succ_eq_append_getElem hi, List.filter_append]
  congr 1
  by_cases e : k[i].name = nm <;> simp [e]
theorem wout_len (k : List PFile) (nm : List UInt8) : (wout k nm).length ≤ k.length := List.length_filter_le _ _
def wrAll (k : List PFile) (fs : List PFile) : List PFile := fs.foldl wrF k
theorem wrAll_step {k fs : List PFile} {i : Nat} (hi : i < fs.length) : wrAll k (fs.take (i + 1)) = wrF (wrAll k (fs.take i)) fs[i] := by
  rw [List.take_succ_eq_append_getElem hi, wrAll, List.foldl_append]; rfl
theorem wrAll_len (fs : List PFile) : ∀ (k : List PFile), (wrAll k fs).length ≤ k.length + fs.length := by
  induction fs with
  | nil => intro k; simp [wrAll]
  | cons f r ih =>
    intro k
    have h1 := ih (wrF k f)
    have h2 := wrF_len k f
    simp only [wrAll, List.foldl_cons, List.length_cons] at h1 ⊢; omega
def comF (k : List PFile) (d : PDb) : List PFile := verFs d ((newV k + 1 : Nat) : Int)
def comG (k : List PFile) (d : PDb) : Bool := decide (comF k d ≠ []) && dskOk k
def comP (k : List PFile) (d : PDb) (n : Int) : List PFile := if comG k d then wrAll (wout k (hdNm ((newV k + 1 : Nat) : Int))) ((comF k d).take n.toNat) else k
def comB (k : List PFile) (d : PDb) (n : Int) : Bool := comG k d && decide ((comF k d).length ≤ n)
/-! ### what is kept -/
def keep1 (f : PFile) (fs : List PFile) : List PFile := (fs.filter fun g => decide (g.name = f.name)).map fun _ => f
def keepP (k fs : List PFile) : List PFile := k.flatMap fun f => keep1 f fs
def delP (k : List PFile) : List PFile := if recB k then keepP k (verFs (recP k) (newV k)) else []
theorem keepP_step {k fs : List PFile} {i : Nat} (hi : i < k.length) : keepP (k.take (i + 1)) fs = keepP (k.take i) fs ++ keep1 k[i] fs := by
  unfold keepP
  rw [List.take_succ_eq_append_getElem hi, List.flatMap_append]
  simp
theorem keep1_step {f : PFile} {fs : List PFile} {j : Nat} (hj : j < fs.length) : keep1 f (fs.take (j + 1)) = keep1 f (fs.take j) ++ (if fs[j].name = f.name then [f] else []) := by
  unfold keep1
  rw [List.take_succ_eq_append_getElem hj, List.filter_append, List.map_append]
  congr 1
  by_cases e : fs[j].name = f.name <;> simp [e]
theorem keep1_len (f : PFile) (fs : List PFile) : (keep1 f fs).length ≤ fs.length := by
  unfold keep1; rw [List.length_map]; exact List.length_filter_le _ _
theorem keepP_len (fs : List PFile) : ∀ (k : List PFile), (keepP k fs).length ≤ k.length * fs.length
  | [] => by simp [keepP]
  | f :: r => by
    have h1 := keepP_len fs r
    have h2 := keep1_len f fs
    have e : keepP (f :: r) fs = keep1 f fs ++ keepP r fs := by simp [keepP]
    rw [e, List.length_append, List.length_cons, Nat.add_mul]; omega
theorem verFs_len (d : PDb) (v : Int) : (verFs d v).length ≤ 7 := by
  unfold verFs
  split
  · rename_i h
    simp only [verB, Bool.and_eq_true] at h
    have := dbOk_len h.1
    simp; omega
  · simp
end Go.Vs

namespace Go.Vs
def plsB (s : List UInt8) : Bool := decide (s = []) || (cutB 44 s).all fun v => (prsZ v).isSome
def plsL (s : List UInt8) : List Int := if s = [] then [] else (cutB 44 s).map prsN
theorem plsB_of {s : List UInt8} (h : s ≠ [] → ∀ v ∈ cutB 44 s, (prsZ v).isSome = true) : plsB s = true := by
  by_cases e : s = []
  · simp [plsB, e]
  · simp only [plsB, e, decide_false, Bool.false_or, List.all_eq_true]; exact h e
theorem plsL_row {x : List UInt8} (h : 2 ≤ x.length) : plsL (inTx x) = rowTx x := by
  have := inTx_ne h
  unfold plsL rowTx
  by_cases e : inTx x = []
  · rw [if_pos e, if_neg fun h2 => this.2 h2 e]
  · rw [if_neg e, if_pos (this.1 e)]
end Go.Vs

namespace Go.Vs
/-! ### tracked disks -/
def fOk (f : PFile) : Prop := f.name.length ≤ 1000000000 ∧ f.data.length ≤ 1000000000
theorem wrF_ok {k : List PFile} {n : PFile} (hk : ∀ f ∈ k, fOk f) (hn : fOk n) : ∀ f ∈ wrF k n, fOk f := by
  have : ∀ (k : List PFile) (b : Bool), (∀ f ∈ k, fOk f) → ∀ f ∈ wrA n b k, fOk f := fun k => by
    induction k with
    | nil => intro b _ f hf; cases b <;> simp [wrA] at hf; rw [hf]; exact hn
    | cons x r ih =>
      intro b hk f hf
      simp only [wrA, List.mem_append] at hf
      rcases hf with (hf | hf) | hf
      · split at hf
        · rw [List.mem_singleton.1 hf]; exact hn
        · simp at hf
      · split at hf
        · simp at hf
        · rw [List.mem_singleton.1 hf]; exact hk x (by simp)
      · exact ih _ (fun y hy => hk y (by simp [hy])) f hf
  exact this k false hk
theorem wout_ok {k : List PFile} {nm : List UInt8} (hk : ∀ f ∈ k, fOk f) : ∀ f ∈ wout k nm, fOk f := fun f hf => hk f (List.mem_filter.1 hf).1
theorem wrAll_ok {fs : List PFile} : ∀ {k : List PFile}, (∀ f ∈ k, fOk f) → (∀ f ∈ fs, fOk f) → ∀ f ∈ wrAll k fs, fOk f := by
  induction fs with
  | nil => intro k hk _; exact hk
  | cons x r ih => intro k hk hf; exact ih (wrF_ok hk (hf x (by simp))) fun y hy => hf y (by simp [hy])
theorem keepP_ok {k fs : List PFile} (hk : ∀ f ∈ k, fOk f) : ∀ f ∈ keepP k fs, fOk f := fun f hf => by
  simp only [keepP, List.mem_flatMap] at hf
  obtain ⟨g, hg, hf⟩ := hf
  simp only [keep1, List.mem_map] at hf
  obtain ⟨_, _, rfl⟩ := hf
  exact hk g hg
theorem verFs_ok {d : PDb} {v : Int} (hv : inZ v) : ∀ f ∈ verFs d v, fOk f := fun f hf => by
  unfold verFs at hf
  split at hf
  case isFalse => simp at hf
  rename_i h
  simp only [verB, Bool.and_eq_true] at h
  have hdl := decZ_len hv
  have hl6 := dbOk_len h.1
  have hnm : ∀ t ∈ d.tabs, t.name.length ≤ 4 := fun t ht => tabOk_name (dbOk_tab h.1 ht)
  rcases List.mem_append.1 hf with hf | hf
  · simp only [runs, List.mem_map] at hf
    obtain ⟨t, ht, rfl⟩ := hf
    have h4 := hnm t ht
    have h5 := fmtRel_len t.rel
    refine ⟨?_, ?_⟩
    · show (runNm v t.name).length ≤ _
      simp only [runNm, List.length_append, List.length_singleton]; omega
    · show (fmtRel t.rel).length ≤ _; omega
  · rw [List.mem_singleton.1 hf]
    have h1 := headTx_len hnm
    have hck := ckS_in (headTx d.tabs)
    have hckl := decZ_len (n := ckS (headTx d.tabs)) (by omega)
    refine ⟨?_, ?_⟩
    · show ([109] ++ decZ v).length ≤ _
      simp only [List.length_append, List.length_singleton]; omega
    · show (headTx d.tabs ++ decZ (ckS (headTx d.tabs))).length ≤ _
      simp only [List.length_append]; omega
/-- a new disk: its files lie in a row of their own -/
def dskT (g : Option Nat) (T : TypeId) (out : List PFile) : Disk := ⟨⟨g, some (T, 2), out.map toF⟩⟩
theorem cDsk (g : Option Nat) (T : TypeId) (out : List PFile) : (out.map toF).map cFile = out.map eFile := by
  rw [List.map_map]; rfl
theorem pl_dskT (g : Option Nat) (T : TypeId) (out : List PFile) : plDisk (dskT g T out) = ⟨out⟩ := by
  simp only [dskT, plDisk, plS, List.map_map]
  have : (plFile ∘ toF) = id := by funext p; rfl
  rw [this, List.map_id]
theorem ids_files (out : List PFile) : idsLL (out.map eFile) = [] := by
  induction out with
  | nil => simp [idsLL]
  | cons a r ih => simp only [List.map_cons, idsLL, ih]; simp [eFile, cStr, idsL, D.ids]
theorem hp_files (out : List PFile) : hpLL (out.map eFile) = false := hpLL_map (fun a => by simp [eFile, cStr]) _
theorem ok_dskT {g : Option Nat} {T : TypeId} {out : List PFile} (h : ∀ f ∈ out, fOk f) (hl : out.length ≤ 100000000000) : okDisk (dskT g T out) := by
  refine ⟨by simp only [dskT, maxLen, List.length_map]; omega, fun f hf => ?_⟩
  simp only [dskT, List.mem_map] at hf
  obtain ⟨p, hp, rfl⟩ := hf
  have := h p hp
  exact ⟨by simp only [toF, okStr, maxLen]; have := this.1; omega, by simp only [toF, okStr, maxLen]; have := this.2; omega⟩
theorem dskT_cells (g : Option Nat) (T : TypeId) (out : List PFile) : cDisk (dskT g T out) = [.sl g (some (T, 2)) (out.map eFile)] := by
  simp only [cDisk, dskT, cS, dSl, cDsk g T]
theorem good_dskT {g : Option Nat} {T : TypeId} {out : List PFile} {B : Nat} (h1 : ∀ x, g = some x → B ≤ x) (h2 : out.map eFile ≠ [] → g ≠ none) : Good (cDisk (dskT g T out)) (whDisk (dskT g T out)) B :=
  good_row h1 (by simpa using h2) (fun x _ => by rw [cDsk g T, ids_files]; simp) ⟨by rw [cDsk g T, ids_files]; simp, by rw [cDsk g T, ids_files]; simp⟩ (fun a _ => by simp [whFile, whStr])
def dskN : Disk := ⟨nilS⟩
theorem pl_dskN : plDisk dskN = ⟨[]⟩ := by simp [plDisk, dskN, nilS, plS]
theorem ok_dskN : okDisk dskN := ok_nilS
theorem good_dskN (B : Nat) : Good (cDisk dskN) (whDisk dskN) B := good_nilF B
end Go.Vs

namespace Go.Vs
theorem er_dsk {Y : Disk} {X : List PFile} (h : plDisk Y = ⟨X⟩) : erLL (Y.files.xs.map cFile) = X.map eFile := by
  rw [erLL_map er_cFile]
  have := congrArg PDisk.files h
  simp only [plDisk, plS] at this
  rw [this]
theorem rp_dsk {Y : Disk} {X : List PFile} (h : plDisk Y = ⟨X⟩) : rp (fun _ => none) (.agg ((cDisk Y).map V.d)) = some (.agg ((eDisk ⟨X⟩).map V.d)) := by
  simp [cDisk, cS, dSl, eDisk, cP, pS, er_dsk h]
theorem take2_step {fs : List PFile} {n : Int} {i : Nat} (hi : i < fs.length) (h : (i : Int) < n) : (fs.take n.toNat).take (i + 1) = (fs.take n.toNat).take i ++ [fs[i]] := by
  rw [List.take_take, List.take_take, show min (i + 1) n.toNat = i + 1 by omega, show min i n.toNat = i by omega, List.take_succ_eq_append_getElem hi]
theorem take2_stop {fs : List PFile} {n : Int} {i : Nat} (h : ¬ (i : Int) < n) : (fs.take n.toNat).take (i + 1) = (fs.take n.toNat).take i := by
  rw [List.take_take, List.take_take, show min (i + 1) n.toNat = n.toNat by omega, show min i n.toNat = n.toNat by omega]
theorem wrAll_snoc {k fs : List PFile} {f : PFile} : wrAll k (fs ++ [f]) = wrF (wrAll k fs) f := by rw [wrAll, List.foldl_append]; rfl
end Go.Vs

namespace Go.Vs
def szDk (K : PDisk) : Prop := K.files.length ≤ 1000000000 ∧ ∀ f ∈ K.files, fOk f
theorem szDk_sw (a : Disk) (h : swDisk a ≤ 1048576) : szDk (plDisk a) := by
  have e : swDisk a = a.files.xs.length + sumW swFile a.files.xs := rfl
  refine ⟨by simp only [plDisk, plS, List.length_map]; omega, fun f hf => ?_⟩
  simp only [plDisk, plS, List.mem_map] at hf
  obtain ⟨y, hy, rfl⟩ := hf
  have h1 := sumW_mem swFile hy
  have h2 : swFile y = y.name.length + y.data.length := rfl
  exact ⟨show y.name.length ≤ _ by omega, show y.data.length ≤ _ by omega⟩
theorem wp_files (l : List PFile) : wpTDisk ⟨l⟩ ≤ 2 * l.length := by
  have h := wpS_le (w := wpFile) (k := 2) (l := l) fun a ha => by simp [wpFile, wpStr]
  simp only [wpTDisk]; omega
theorem comP_len (k : List PFile) (d : PDb) (n : Int) : (comP k d n).length ≤ k.length + 7 := by
  unfold comP
  split
  · have h1 := wrAll_len ((comF k d).take n.toNat) (wout k (hdNm ((newV k + 1 : Nat) : Int)))
    have h2 := wout_len k (hdNm ((newV k + 1 : Nat) : Int))
    have h3 := verFs_len d ((newV k + 1 : Nat) : Int)
    have h4 : ((comF k d).take n.toNat).length ≤ 7 := by rw [List.length_take]; simp only [comF]; omega
    omega
  · omega
theorem delP_len (k : List PFile) : (delP k).length ≤ k.length * 7 := by
  unfold delP
  split
  · have h1 := keepP_len (verFs (recP k) (newV k)) k
    have h2 := verFs_len (recP k) (newV k)
    exact Nat.le_trans h1 (Nat.mul_le_mul (Nat.le_refl _) h2)
  · simp
end Go.Vs

namespace Go.Vs
/-! ### the laws of counted relations -/
def negP (z : PCnt) : PCnt := ⟨z.ar, z.rows, z.cs.map fun n => -n⟩
structure Cz (rows : List (List Int)) (cs : List Int) : Prop where
  srt : Srt rows
  len : cs.length = rows.length
  nz : ∀ n ∈ cs, n ≠ 0
theorem cz_ok {z : PCnt} (h : cntsOk z = true) : Cz z.rows z.cs := by
  simp only [cntsOk, Bool.and_eq_true, decide_eq_true_eq, List.all_eq_true] at h
  refine ⟨rowsOk_srt h.1.2, h.1.1.symm, fun n hn e => ?_⟩
  have := h.2 n hn
  simp [cntOk, e] at this
theorem cz_mem {rows : List (List Int)} {cs : List Int} (h : Cz rows cs) (y : List Int) : y ∈ rows ↔ lkC rows cs y ≠ 0 := by
  constructor
  · intro hy
    have e := look_all h.srt h.len
    have : lkC rows cs y ∈ cs := by
      have h2 : lkC rows cs y ∈ rows.map (lkC rows cs) := List.mem_map.2 ⟨y, hy, rfl⟩
      rwa [← e] at h2
    exact h.nz _ this
  · intro hn
    exact Classical.byContradiction fun hy => hn (look_none hy)
theorem cz_ext {r r' : List (List Int)} {c c' : List Int} (h : Cz r c) (h' : Cz r' c') (e : ∀ y, lkC r c y = lkC r' c' y) : r = r' ∧ c = c' := by
  have hr : r = r' := srt_ext h.srt h'.srt fun x => by rw [cz_mem h, cz_mem h', e]
  refine ⟨hr, ?_⟩
  rw [look_all h.srt h.len, look_all h'.srt h'.len, hr]
  exact List.map_congr_left fun y _ => by rw [← hr]; rw [e, hr]
theorem sttl_cons {α : Type} (x : α) (r : List α) (c : Int) (s : List Int) : sttl (x :: r) (c :: s) = if c = 0 then sttl r s else (x, c) :: sttl r s := by
  simp only [sttl, List.zip_cons_cons, List.filter_cons]
  by_cases h : c = 0 <;> simp [h]
theorem look_sttl (y : List Int) : ∀ (R : List (List Int)) (cs : List Int), lkC ((sttl R cs).map Prod.fst) ((sttl R cs).map Prod.snd) y = lkC R cs y
  | [], cs => by simp [sttl, lkC]
  | _ :: _, [] => by simp [sttl, lkC]
  | x :: r, c :: s => by
    have ih := look_sttl y r s
    rw [sttl_cons]
    by_cases h : c = 0
    · rw [if_pos h, ih]; simp [lkC, h]
    · rw [if_neg h, List.map_cons, List.map_cons, lkC, ih]; rfl
theorem look_map {y : List Int} {f : List Int → Int} : ∀ {R : List (List Int)}, Srt R → lkC R (R.map f) y = if y ∈ R then f y else 0
  | [], _ => by simp [lkC]
  | x :: r, h => by
    simp only [Srt, List.pairwise_cons] at h
    have hx : x ∉ r := fun hm => by have := h.1 x hm; simp [cmpL_self] at this
    have ih := look_map (y := y) (f := f) h.2
    simp only [List.map_cons, lkC, ih, List.mem_cons]
    by_cases e : x = y
    · subst e; simp [hx]
    · have e' : ¬ y = x := fun h => e h.symm
      simp [e, e']
theorem look_sum {ar : Int} {rows : List (List Int)} {cs : List Int} (y : List Int) : lkC (sumOf ar rows cs).rows (sumOf ar rows cs).cs y = lkC rows cs y := by
  show lkC ((sttl (srtU rows) (sumsOf rows cs)).map Prod.fst) ((sttl (srtU rows) (sumsOf rows cs)).map Prod.snd) y = _
  rw [look_sttl, sumsOf, look_map (srtU_srt rows)]
  split
  · rfl
  · rename_i h
    rw [look_none fun hm => h ((srtU_mem rows y).2 hm)]
theorem sttl_subl {α : Type} : ∀ (R : List α) (cs : List Int), ((sttl R cs).map Prod.fst).Sublist R
  | [], cs => by simp [sttl]
  | _ :: _, [] => by simp [sttl]
  | x :: r, c :: s => by
    have ih := sttl_subl r s
    rw [sttl_cons]
    by_cases h : c = 0
    · rw [if_pos h]; exact ih.cons x
    · rw [if_neg h, List.map_cons]; exact ih.cons_cons x
theorem cz_sum {ar : Int} {rows : List (List Int)} {cs : List Int} : Cz (sumOf ar rows cs).rows (sumOf ar rows cs).cs := by
  refine ⟨?_, by simp [sumOf], fun n hn => ?_⟩
  · exact List.Pairwise.sublist (sttl_subl (srtU rows) (sumsOf rows cs)) (srtU_srt rows)
  · simp only [sumOf, List.mem_map, sttl, List.mem_filter] at hn
    obtain ⟨p, hp, rfl⟩ := hn
    simpa using hp.2
theorem srt_sub_len {l l' : List (List Int)} (h : Srt l) (h' : Srt l') (hs : ∀ x ∈ l, x ∈ l') : l.length ≤ l'.length := by
  have e : l = l'.filter fun x => decide (x ∈ l) := srt_ext h (List.Pairwise.filter _ h') fun x => by
    simp only [List.mem_filter, decide_eq_true_eq]
    exact ⟨fun hx => ⟨hs x hx, hx⟩, fun hx => hx.2⟩
  rw [e]; exact List.length_filter_le _ _
theorem addC_ok {a b : PCnt} (h : addCB a b = true) : cntsOk (addCP a b) = true ∧ (addCP a b).ar = a.ar ∧ (∀ y, lkC (addCP a b).rows (addCP a b).cs y = lkC a.rows a.cs y + lkC b.rows b.cs y) ∧ (srtU (a.rows ++ b.rows)).length ≤ 4000 ∧ cntsOk a = true ∧ cntsOk b = true ∧ a.ar = b.ar := by
  have h0 := h
  simp only [addCB, sumB, Bool.and_eq_true, decide_eq_true_eq] at h
  obtain ⟨⟨⟨ha, hb⟩, har⟩, hl, hs⟩ := h
  rw [addCP, if_pos h0]
  exact ⟨hs, rfl, fun y => by rw [look_sum, look_app (cz_ok ha).len.symm], hl, ha, hb, har⟩
theorem addC_of {a b w : PCnt} (ha : cntsOk a = true) (hb : cntsOk b = true) (har : a.ar = b.ar) (hl : (srtU (a.rows ++ b.rows)).length ≤ 4000) (hw : cntsOk w = true) (hwa : w.ar = a.ar)
    (h : ∀ y, lkC w.rows w.cs y = lkC a.rows a.cs y + lkC b.rows b.cs y) : addCB a b = true ∧ addCP a b = w := by
  have hc := cz_ext (cz_sum (ar := a.ar) (rows := a.rows ++ b.rows) (cs := a.cs ++ b.cs)) (cz_ok hw) fun y => by rw [look_sum, look_app (cz_ok ha).len.symm, h]
  have he : sumOf a.ar (a.rows ++ b.rows) (a.cs ++ b.cs) = w := by
    obtain ⟨war, wr, wc⟩ := w
    simp only at hc hwa
    have h1 : sumOf a.ar (a.rows ++ b.rows) (a.cs ++ b.cs) = ⟨(sumOf a.ar (a.rows ++ b.rows) (a.cs ++ b.cs)).ar, (sumOf a.ar (a.rows ++ b.rows) (a.cs ++ b.cs)).rows, (sumOf a.ar (a.rows ++ b.rows) (a.cs ++ b.cs)).cs⟩ := rfl
    rw [h1, hc.1, hc.2, hwa]; rfl
  have hB : addCB a b = true := by
    simp only [addCB, sumB, Bool.and_eq_true, decide_eq_true_eq, he]
    exact ⟨⟨⟨ha, hb⟩, har⟩, hl, hw⟩
  exact ⟨hB, by rw [addCP, if_pos hB, he]⟩
theorem srtU_comm (a b : List (List Int)) : srtU (a ++ b) = srtU (b ++ a) := srtU_uniq (srtU_srt _) fun x => by
  rw [srtU_mem]; simp [or_comm]
theorem addC_comm1 {a b : PCnt} (h : addCB b a = true) : addCB a b = true ∧ addCP a b = addCP b a := by
  obtain ⟨h1, h2, h3, h4, h5, h6, h7⟩ := addC_ok h
  exact addC_of h6 h5 h7.symm (by rw [srtU_comm]; exact h4) h1 (by rw [h2, h7]) fun y => by rw [h3]; omega
/-- addition is commutative -/
theorem addC_comm (a b : PCnt) : addCB a b = addCB b a ∧ addCP a b = addCP b a := by
  cases h : addCB b a
  · have h' : addCB a b = false := by
      cases h2 : addCB a b
      · rfl
      · rw [(addC_comm1 h2).1] at h; cases h
    exact ⟨h', by simp [addCP, h, h']⟩
  · have := addC_comm1 h
    exact ⟨this.1, this.2⟩
theorem negP_ok {z : PCnt} (h : cntsOk z = true) : cntsOk (negP z) = true := by
  simp only [cntsOk, negP, Bool.and_eq_true, decide_eq_true_eq, List.all_eq_true, List.length_map] at h ⊢
  refine ⟨h.1, fun n hn => ?_⟩
  obtain ⟨m, hm, rfl⟩ := List.mem_map.1 hn
  have := h.2 m hm
  simp only [cntOk, inR, Bool.and_eq_true, Bool.not_eq_true', beq_eq_false_iff_ne, decide_eq_true_eq] at this ⊢
  exact ⟨by omega, by omega⟩
theorem look_neg (y : List Int) : ∀ (R : List (List Int)) (cs : List Int), lkC R (cs.map fun n => -n) y = - lkC R cs y
  | [], cs => by simp [look_nil]
  | _ :: _, [] => by simp [lkC]
  | x :: r, c :: s => by
    simp only [List.map_cons, lkC, look_neg y r s]
    split <;> omega
/-- a relation plus its negation is empty -/
theorem addC_neg (a : PCnt) : (addCP a (negP a)).rows = [] := by
  cases h : addCB a (negP a)
  · rw [addCP, h]; rfl
  · obtain ⟨h1, _, h3, _⟩ := addC_ok h
    exact (cz_ext (cz_ok h1) (r' := []) (c' := []) ⟨.nil, rfl, by simp⟩ fun y => by
      rw [h3, negP]
      simp only [look_neg, lkC]; omega).1
/-- what was added is taken away again -/
theorem addC_back {a b : PCnt} (h : addCB a b = true) : addCB (addCP a b) (negP b) = true ∧ addCP (addCP a b) (negP b) = a := by
  obtain ⟨h1, h2, h3, h4, h5, h6, h7⟩ := addC_ok h
  refine addC_of h1 (negP_ok h6) (by rw [h2]; exact h7) ?_ h5 h2.symm fun y => ?_
  · refine Nat.le_trans (srt_sub_len (srtU_srt _) (srtU_srt (a.rows ++ b.rows)) fun x hx => ?_) h4
    rw [srtU_mem] at hx ⊢
    rcases List.mem_append.1 hx with hx | hx
    · have := (cz_mem (cz_ok h1) x).1 hx
      rw [h3] at this
      by_cases ha : x ∈ a.rows
      · simp [ha]
      · by_cases hb : x ∈ b.rows
        · simp [hb]
        · rw [look_none ha, look_none hb] at this; exact absurd rfl this
    · exact List.mem_append.2 (.inr hx)
  · rw [h3, negP]; simp only [look_neg]; omega
theorem countOf_eq {z : PCnt} (h : cntsOk z = true) (y : List Int) : countOf z y = lkC z.rows z.cs y := by
  have hc := cz_ok h
  rw [countOf, h, Bool.true_and]
  by_cases hb : placeB z.rows y = true
  · obtain ⟨hk, hy⟩ := placeB_at hb
    rw [if_pos hb]
    have e := look_all hc.srt hc.len
    have hk' : placeK z.rows y < z.cs.length := by rw [hc.len]; exact hk
    rw [getD_el _ hk']
    have : z.cs[placeK z.rows y] = (z.rows.map (lkC z.rows z.cs))[placeK z.rows y]'(by simpa using hk) := by
      congr 1
    rw [this, List.getElem_map, hy]
  · rw [if_neg hb]
    exact (look_none fun hm => hb ((placeB_iff hc.srt).2 hm)).symm
theorem look_idx {rows : List (List Int)} {cs : List Int} (h : Cz rows cs) {i : Nat} (hi : i < rows.length) : lkC rows cs rows[i] = cs[i]'(by rw [h.len]; exact hi) := by
  have e := look_all h.srt h.len
  have : cs[i]'(by rw [h.len]; exact hi) = (rows.map (lkC rows cs))[i]'(by simpa using hi) := by congr 1
  rw [this, List.getElem_map]
theorem addC_at {a b : PCnt} (h : addCB a b = true) {i : Nat} (hi : i < a.rows.length) : countOf (addCP a b) a.rows[i] = a.cs[i]'(by rw [(cz_ok (addC_ok h).2.2.2.2.1).len]; exact hi) + countOf b a.rows[i] := by
  obtain ⟨h1, h2, h3, h4, h5, h6, h7⟩ := addC_ok h
  rw [countOf_eq h1, h3, countOf_eq h6, look_idx (cz_ok h5) hi]
end Go.Vs

namespace Go.Vs
/-! ### the law of projections of counted relations -/
theorem sttl_neg {α : Type} : ∀ (R : List α) (S : List Int), sttl R (S.map fun n => -n) = (sttl R S).map fun p => (p.1, -p.2)
  | [], S => by simp [sttl]
  | _ :: _, [] => by simp [sttl]
  | x :: r, c :: s => by
    rw [List.map_cons, sttl_cons, sttl_cons, sttl_neg r s]
    by_cases h : c = 0
    · subst h; simp
    · rw [if_neg h, if_neg (by omega), List.map_cons]
theorem sumOf_neg (ar : Int) (rows : List (List Int)) (cs : List Int) : sumOf ar rows (cs.map fun n => -n) = negP (sumOf ar rows cs) := by
  have e : sumsOf rows (cs.map fun n => -n) = (sumsOf rows cs).map fun n => -n := by
    simp only [sumsOf, List.map_map]
    exact List.map_congr_left fun y _ => look_neg y rows cs
  simp only [sumOf, e, sttl_neg, negP, List.map_map]
  rfl
theorem negP_neg (z : PCnt) : negP (negP z) = z := by
  obtain ⟨a, r, c⟩ := z
  simp [negP, Function.comp_def]
theorem negP_okB (z : PCnt) : cntsOk (negP z) = cntsOk z := by
  cases h : cntsOk z
  · cases h2 : cntsOk (negP z)
    · rfl
    · have := negP_ok h2
      rw [negP_neg, h] at this; cases this
  · exact negP_ok h
/-- projection is linear: it goes with turned counts -/
theorem proj_neg (z : PCnt) (cols : List Int) (h : projB z cols = true) : projB (negP z) cols = true ∧ projP (negP z) cols = negP (projP z cols) := by
  have e : sumOf cols.length ((negP z).rows.map (pickR cols)) (negP z).cs = negP (sumOf cols.length (z.rows.map (pickR cols)) z.cs) := sumOf_neg _ _ _
  have hB : projB (negP z) cols = true := by
    have h' := h
    simp only [projB, sumB, Bool.and_eq_true] at h' ⊢
    rw [e, negP_okB, negP_okB]
    exact h'
  refine ⟨hB, ?_⟩
  rw [projP, if_pos hB, projP, if_pos h, e]
theorem sttl_sum {α : Type} : ∀ (R : List α) (S : List Int), S.length = R.length → ((sttl R S).map Prod.snd).sum = S.sum
  | [], [], _ => by simp [sttl]
  | [], _ :: _, h => by simp at h
  | _ :: _, [], h => by simp at h
  | x :: r, c :: s, h => by
    have ih := sttl_sum r s (by simpa using h)
    rw [sttl_cons]
    by_cases h0 : c = 0
    · rw [if_pos h0, ih]; simp [h0]
    · rw [if_neg h0, List.map_cons, List.sum_cons, ih, List.sum_cons]
theorem sum_none {R : List (List Int)} {x : List Int} {c : Int} (h : x ∉ R) : (R.map fun y => if x = y then c else 0).sum = 0 := by
  induction R with
  | nil => rfl
  | cons y r ih =>
    have h1 : ¬ x = y := fun e => h (by simp [e])
    rw [List.map_cons, List.sum_cons, ih fun hm => h (List.mem_cons_of_mem _ hm), if_neg h1]; rfl
theorem sum_one {R : List (List Int)} (hR : Srt R) {x : List Int} (c : Int) (h : x ∈ R) : (R.map fun y => if x = y then c else 0).sum = c := by
  induction R with
  | nil => cases h
  | cons y r ih =>
    simp only [Srt, List.pairwise_cons] at hR
    rw [List.map_cons, List.sum_cons]
    rcases List.mem_cons.1 h with h | h
    · subst h
      have : x ∉ r := fun hm => by have := hR.1 x hm; simp [cmpL_self] at this
      rw [sum_none this, if_pos rfl]; omega
    · have h1 : ¬ x = y := fun e => by have := hR.1 x h; rw [← e] at this; simp [cmpL_self] at this
      rw [if_neg h1, ih hR.2 h]; omega
theorem sum_add (R : List (List Int)) (f g : List Int → Int) : (R.map fun y => f y + g y).sum = (R.map f).sum + (R.map g).sum := by
  induction R with
  | nil => rfl
  | cons y r ih => simp only [List.map_cons, List.sum_cons, ih]; omega
theorem look_tot {R : List (List Int)} (hR : Srt R) : ∀ (rows : List (List Int)) (cs : List Int), cs.length = rows.length → (∀ x ∈ rows, x ∈ R) → (R.map (lkC rows cs)).sum = cs.sum
  | [], [], _, _ => by
    have : ∀ R : List (List Int), (R.map (lkC [] [])).sum = 0 := fun R => by
      induction R with
      | nil => rfl
      | cons y r ih => rw [List.map_cons, List.sum_cons, ih, look_nil]; rfl
    simpa using this R
  | [], _ :: _, h, _ => by simp at h
  | _ :: _, [], h, _ => by simp at h
  | x :: r, c :: s, h, hm => by
    have ih := look_tot hR r s (by simpa using h) fun y hy => hm y (List.mem_cons_of_mem _ hy)
    have e : (R.map (lkC (x :: r) (c :: s))) = R.map fun y => (if x = y then c else 0) + lkC r s y := List.map_congr_left fun y _ => rfl
    rw [e, sum_add R (fun y => if x = y then c else 0) (lkC r s), sum_one hR c (hm x (by simp)), ih, List.sum_cons]
/-- projection keeps the total count -/
theorem proj_tot {z : PCnt} {cols : List Int} (h : projB z cols = true) : (projP z cols).cs.sum = z.cs.sum := by
  have hz : cntsOk z = true := by simp only [projB, Bool.and_eq_true] at h; exact h.1.1
  rw [projP, if_pos h]
  simp only [sumOf]
  rw [sttl_sum _ _ (by simp [sumsOf]), sumsOf, look_tot (srtU_srt _) _ _ (by rw [List.length_map]; exact (cntsOk_len hz).symm) fun x hx => (srtU_mem _ x).2 hx]
theorem sum_bd {l : List Int} {M : Int} (hM : 0 ≤ M) (h : ∀ n ∈ l, -M ≤ n ∧ n ≤ M) : -(l.length * M) ≤ l.sum ∧ l.sum ≤ l.length * M := by
  induction l with
  | nil => simp
  | cons x r ih =>
    have h1 := ih fun n hn => h n (List.mem_cons_of_mem _ hn)
    have h2 := h x (by simp)
    rw [List.sum_cons, List.length_cons]
    have e : ((r.length + 1 : Nat) : Int) * M = r.length * M + M := by rw [Int.natCast_add, Int.add_mul]; simp
    rw [e]; omega
theorem sum_take {l : List Int} {i : Nat} (h : i < l.length) : (l.take (i + 1)).sum = (l.take i).sum + l[i] := by
  rw [List.take_succ_eq_append_getElem h, List.sum_append]; simp
theorem projP_ok {z : PCnt} {cols : List Int} (h : projB z cols = true) : cntsOk (projP z cols) = true := by
  rw [projP, if_pos h]
  simp only [projB, sumB, Bool.and_eq_true] at h
  exact h.2.2
end Go.Vs

namespace Go.Vs
/-! ### the laws of deltas and batches -/
theorem bl_ne {a b : List UInt8} (h : Op.bytesLess a b = true) : a ≠ b := fun e => by rw [e, bl_irr] at h; cases h
/-- a table that is found stands between smaller and greater names -/
structure SplT (l A B : List PTab) (nm : List UInt8) (r : PReln) : Prop where
  eq : l = A ++ ⟨nm, r⟩ :: B
  lo : ∀ t ∈ A, Op.bytesLess t.name nm = true
  hi : ∀ t ∈ B, Op.bytesLess nm t.name = true
theorem lk_db {d : PDb} {nm : List UInt8} (h : lkB d nm = true) : dbOk d = true := by
  cases hd : dbOk d
  · rw [(lk_no hd).1] at h; cases h
  · rfl
theorem lk_split {d : PDb} {nm : List UInt8} (h : lkB d nm = true) : ∃ A B, SplT d.tabs A B nm (lkR d nm) := by
  have hd := lk_db h
  cases hT : lkT d nm with
  | none => rw [lkB, hT] at h; cases h
  | some r =>
    have hr : lkR d nm = r := by rw [lkR, hT]; rfl
    rw [hr]
    rw [lkT, if_pos hd] at hT
    obtain ⟨t, ht, rfl⟩ := Option.map_eq_some_iff.1 hT
    have hn : t.name = nm := by simpa using List.find?_some ht
    obtain ⟨A, B, hl⟩ := List.append_of_mem (List.mem_of_find?_eq_some ht)
    have hs := dbOk_srt (l := d.tabs) hd
    rw [hl] at hs
    have hp := List.pairwise_append.1 hs
    refine ⟨A, B, ?_, fun u hu => ?_, fun u hu => ?_⟩
    · rw [hl, ← hn]
    · rw [← hn]; exact hp.2.2 u hu t (by simp)
    · rw [← hn]; exact (List.pairwise_cons.1 hp.2.1).1 u hu
theorem tw_app {α : Type} {p : α → Bool} {A B : List α} {t : α} (hA : ∀ a ∈ A, p a = true) (ht : p t = false) : (A ++ t :: B).takeWhile p = A := by
  induction A with
  | nil => simp [ht]
  | cons a r ih => rw [List.cons_append, List.takeWhile_cons, hA a (by simp), if_pos rfl, ih fun b hb => hA b (List.mem_cons_of_mem _ hb)]
theorem SplT.set {l A B : List PTab} {nm : List UInt8} {r : PReln} (h : SplT l A B nm r) (u : PReln) : setL l nm u = A ++ ⟨nm, u⟩ :: B := by
  have hk : setK l nm = A.length := by rw [setK, h.eq, tw_app h.lo (bl_irr nm)]
  have hh : hitK l nm = true := by
    rw [hitK, hk, h.eq]
    simp [List.getD]
  rw [setL, hk, hh, h.eq]
  simp
theorem SplT.lk {l A B : List PTab} {nm : List UInt8} {r : PReln} (h : SplT l A B nm r) (hd : dbOk ⟨l⟩ = true) : lkB ⟨l⟩ nm = true ∧ lkR ⟨l⟩ nm = r := by
  have hA : A.find? (fun t => t.name == nm) = none := by
    rw [List.find?_eq_none]; intro t ht e
    exact bl_ne (h.lo t ht) (by simpa using e)
  have hT : lkT ⟨l⟩ nm = some r := by
    rw [lkT, if_pos hd]
    simp only
    rw [h.eq, List.find?_append, hA]
    simp
  exact ⟨by rw [lkB, hT]; rfl, by rw [lkR, hT]; rfl⟩
theorem SplT.put {l A B : List PTab} {nm : List UInt8} {r : PReln} (h : SplT l A B nm r) (u : PReln) : SplT (setL l nm u) A B nm u := ⟨h.set u, h.lo, h.hi⟩
theorem SplT.back {l A B : List PTab} {nm : List UInt8} {r u : PReln} (h : SplT l A B nm r) : setL (setL l nm u) nm r = l := by rw [(h.put u).set r, ← h.eq]
theorem dbOk_of {l : List PTab} (h1 : l.length ≤ 6) (h2 : SrtT l) (h3 : ∀ t ∈ l, tabOk t = true) : dbOk ⟨l⟩ = true := by
  simp only [dbOk, Bool.and_eq_true, decide_eq_true_eq, List.all_eq_true, List.mem_range]
  refine ⟨h1, fun i hi => ?_⟩
  rw [dbAt_eq hi, h3 _ (List.getElem_mem hi), Bool.and_true]
  by_cases h0 : i = 0
  · simp [h0]
  · have := List.pairwise_iff_getElem.1 h2 (i - 1) i (by omega) hi (by omega)
    simp [this]
theorem SplT.ok {l A B : List PTab} {nm : List UInt8} {r u : PReln} (h : SplT l A B nm r) (hd : dbOk ⟨l⟩ = true) (hu : tabOk ⟨nm, u⟩ = true) : dbOk ⟨setL l nm u⟩ = true := by
  have hlen := dbOk_len hd
  have hs := dbOk_srt hd
  have hm : ∀ t ∈ l, tabOk t = true := fun t ht => dbOk_tab hd ht
  have e := h.eq
  rw [h.set u]
  rw [e] at hs hm hlen
  simp only at hlen
  refine dbOk_of (by simpa using hlen) ?_ fun t ht => ?_
  · have hp := List.pairwise_append.1 hs
    refine List.pairwise_append.2 ⟨hp.1, List.pairwise_cons.2 ⟨fun t ht => h.hi t ht, (List.pairwise_cons.1 hp.2.1).2⟩, fun a ha b hb => ?_⟩
    rcases List.mem_cons.1 hb with hb | hb
    · subst hb; exact h.lo a ha
    · exact hp.2.2 a ha b (List.mem_cons_of_mem _ hb)
  · rcases List.mem_append.1 ht with ht | ht
    · exact hm t (by simp [ht])
    · rcases List.mem_cons.1 ht with ht | ht
      · subst ht; exact hu
      · exact hm t (by simp [ht])
theorem SplT.tab {l A B : List PTab} {nm : List UInt8} {r : PReln} (h : SplT l A B nm r) (hd : dbOk ⟨l⟩ = true) : tabOk ⟨nm, r⟩ = true :=
  dbOk_tab hd (t := ⟨nm, r⟩) (by rw [h.eq]; simp)
theorem hasR_iff {r : PReln} (h : rowsOk r.ar r.rows = true) (row : List Int) : hasR r row = true ↔ row ∈ r.rows := by
  rw [hasR, h, Bool.true_and, placeB_iff (rowsOk_srt h)]
theorem hasR_no {r : PReln} (h : rowsOk r.ar r.rows = true) (row : List Int) : hasR r row = false ↔ row ∉ r.rows := by
  rw [← hasR_iff h]; cases hasR r row <;> simp
/-- what a delta that fits is made of -/
structure Fit (d : PDb) (x : PDelta) : Prop where
  lk : lkB d x.name = true
  ins : rowsOk x.ins.ar x.ins.rows = true
  del : rowsOk x.del.ar x.del.rows = true
  ai : x.ins.ar = (lkR d x.name).ar
  ad : x.del.ar = (lkR d x.name).ar
theorem fit_of {d : PDb} {x : PDelta} : fitB d x = true ↔ Fit d x := by
  simp only [fitB, Bool.and_eq_true, decide_eq_true_eq]
  exact ⟨fun h => ⟨h.1.1.1.1, h.1.1.1.2, h.1.1.2, h.1.2, h.2⟩, fun h => ⟨⟨⟨⟨h.lk, h.ins⟩, h.del⟩, h.ai⟩, h.ad⟩⟩
theorem nor_eq {d : PDb} {x : PDelta} (h : fitB d x = true) : norP d x = ⟨x.name, ⟨(lkR d x.name).ar, norI (lkR d x.name) x.ins.rows⟩, ⟨(lkR d x.name).ar, norD (lkR d x.name) x.ins x.del.rows⟩⟩ := by rw [norP, if_pos h]
theorem mem_norI {r : PReln} (h : rowsOk r.ar r.rows = true) {l : List (List Int)} (y : List Int) : y ∈ norI r l ↔ y ∈ l ∧ y ∉ r.rows := by
  rw [norI, List.mem_filter, Bool.not_eq_true', hasR_no h]
theorem mem_norD {r i : PReln} (h : rowsOk r.ar r.rows = true) (hi : rowsOk i.ar i.rows = true) {l : List (List Int)} (y : List Int) : y ∈ norD r i l ↔ y ∈ l ∧ y ∈ r.rows ∧ y ∉ i.rows := by
  rw [norD, List.mem_filter, Bool.and_eq_true, Bool.not_eq_true', hasR_iff h, hasR_no hi]
/-- the delta in its normal form fits, and is its own normal form -/
theorem nor_fit {d : PDb} {x : PDelta} (h : fitB d x = true) : fitB d (norP d x) = true ∧ norP d (norP d x) = norP d x := by
  have f := fit_of.1 h
  have hr := lk_ok f.lk
  have hI : rowsOk (lkR d x.name).ar (norI (lkR d x.name) x.ins.rows) = true := by rw [← f.ai]; exact rowsOk_filter f.ins
  have hD : rowsOk (lkR d x.name).ar (norD (lkR d x.name) x.ins x.del.rows) = true := by rw [← f.ad]; exact rowsOk_filter f.del
  have h2 : fitB d (norP d x) = true := by rw [nor_eq h]; exact fit_of.2 ⟨f.lk, hI, hD, rfl, rfl⟩
  refine ⟨h2, ?_⟩
  rw [nor_eq h2]
  have e : norP d x = _ := nor_eq h
  rw [e]
  simp only
  have e1 : norI (lkR d x.name) (norI (lkR d x.name) x.ins.rows) = norI (lkR d x.name) x.ins.rows := by simp [norI]
  have e2 : norD (lkR d x.name) ⟨(lkR d x.name).ar, norI (lkR d x.name) x.ins.rows⟩ (norD (lkR d x.name) x.ins x.del.rows) = norD (lkR d x.name) x.ins x.del.rows := by
    rw [norD]
    refine List.filter_eq_self.2 fun y hy => ?_
    have hm := (mem_norD hr f.ins y).1 hy
    rw [Bool.and_eq_true, Bool.not_eq_true', hasR_iff hr, hasR_no (r := ⟨(lkR d x.name).ar, norI (lkR d x.name) x.ins.rows⟩) hI]
    exact ⟨hm.2.1, fun h' => ((mem_norI hr y).1 h').2 hm.2.1⟩
  rw [e1, e2]
/-- what a delta that fits makes of its relation: the rows that are kept, and those that come -/
theorem app_of {d : PDb} {x : PDelta} (h : fitB d x = true) {U : PReln} (hU : rowsOk U.ar U.rows = true) (ha : U.ar = (lkR d x.name).ar)
    (hm : ∀ y, y ∈ U.rows ↔ (y ∈ (lkR d x.name).rows ∧ y ∉ (norP d x).del.rows) ∨ y ∈ (norP d x).ins.rows) : appG d x = true ∧ appU d x = U := by
  have f := fit_of.1 h
  have f2 := fit_of.1 (nor_fit h).1
  have hn : (norP d x).name = x.name := by rw [nor_eq h]
  have hr := lk_ok f.lk
  have e1 : difB (lkR d x.name) (norP d x).del = true := by
    simp only [difB, Bool.and_eq_true, decide_eq_true_eq]
    exact ⟨⟨hr, f2.del⟩, by have := f2.ad; rw [hn] at this; exact this.symm⟩
  have e2 : difD d x = ⟨(lkR d x.name).ar, difL (lkR d x.name).rows (norP d x).del.rows⟩ := by rw [difD, difR, if_pos e1]
  have hd : rowsOk (lkR d x.name).ar (difL (lkR d x.name).rows (norP d x).del.rows) = true := rowsOk_filter hr
  have e3 : difB (difD d x) (norP d x).ins = true := by
    rw [e2]
    simp only [difB, Bool.and_eq_true, decide_eq_true_eq]
    exact ⟨⟨hd, f2.ins⟩, by have := f2.ai; rw [hn] at this; exact this.symm⟩
  have hmd : ∀ y, y ∈ difL (lkR d x.name).rows (norP d x).del.rows ↔ y ∈ (lkR d x.name).rows ∧ y ∉ (norP d x).del.rows := fun y => by
    rw [difL, List.mem_filter, Bool.not_eq_true', ← Bool.not_eq_true, placeB_iff (rowsOk_srt f2.del)]
  have e4 : srtU (difL (lkR d x.name).rows (norP d x).del.rows ++ (norP d x).ins.rows) = U.rows :=
    (srtU_uniq (rowsOk_srt hU) fun y => by rw [hm, List.mem_append, hmd]).symm
  have e5 : newB (difD d x).ar ((difD d x).rows ++ (norP d x).ins.rows) = true := by
    rw [e2]
    simp only [newB, e4, Bool.and_eq_true, List.all_eq_true, decide_eq_true_eq]
    refine ⟨fun y hy => ?_, by rw [← ha]; exact hU⟩
    have : y ∈ U.rows := by rw [← e4, srtU_mem]; exact hy
    have := rowsOk_mem hU this
    rw [ha] at this; exact this
  have e6 : uniB (difD d x) (norP d x).ins = true := by rw [uniB, e3, e5]; rfl
  refine ⟨by rw [appG, h, e6]; rfl, ?_⟩
  rw [appU, uniR, if_pos e3, newR, if_pos e5, e2, e4]
  obtain ⟨a, r⟩ := U
  simp only at ha ⊢
  rw [ha]
/-- the rows of a table behind a delta -/
theorem app_mem {d : PDb} {x : PDelta} (h : appG d x = true) : fitB d x = true ∧ rowsOk (appU d x).ar (appU d x).rows = true ∧ (appU d x).ar = (lkR d x.name).ar ∧
    ∀ y, y ∈ (appU d x).rows ↔ (y ∈ (lkR d x.name).rows ∧ y ∉ (norP d x).del.rows) ∨ y ∈ (norP d x).ins.rows := by
  have h0 := h
  simp only [appG, uniB, Bool.and_eq_true] at h
  obtain ⟨hf, e3, e5⟩ := h
  have f := fit_of.1 hf
  have f2 := fit_of.1 (nor_fit hf).1
  have hn : (norP d x).name = x.name := by rw [nor_eq hf]
  have hr := lk_ok f.lk
  have e1 : difB (lkR d x.name) (norP d x).del = true := by
    simp only [difB, Bool.and_eq_true, decide_eq_true_eq]
    exact ⟨⟨hr, f2.del⟩, by have := f2.ad; rw [hn] at this; exact this.symm⟩
  have e2 : difD d x = ⟨(lkR d x.name).ar, difL (lkR d x.name).rows (norP d x).del.rows⟩ := by rw [difD, difR, if_pos e1]
  have eU : appU d x = ⟨(lkR d x.name).ar, srtU ((difD d x).rows ++ (norP d x).ins.rows)⟩ := by rw [appU, uniR, if_pos e3, newR, if_pos e5, e2]
  have hrow : rowsOk (difD d x).ar (srtU ((difD d x).rows ++ (norP d x).ins.rows)) = true := by
    simp only [newB, Bool.and_eq_true] at e5; exact e5.2
  refine ⟨hf, ?_, by rw [eU], fun y => ?_⟩
  · rw [eU]; rw [e2] at hrow ⊢; exact hrow
  · rw [eU]
    simp only
    rw [srtU_mem, List.mem_append, e2]
    simp only
    rw [difL, List.mem_filter, Bool.not_eq_true', ← Bool.not_eq_true, placeB_iff (rowsOk_srt f2.del)]
/-- the form in which a delta is given does not matter -/
theorem app_nor {d : PDb} {x : PDelta} (h : fitB d x = true) : appB d (norP d x) = appB d x ∧ appP d (norP d x) = appP d x := by
  have hn : (norP d x).name = x.name := by rw [nor_eq h]
  have h1 := (nor_fit h).1
  have h2 := (nor_fit h).2
  have eD : difD d (norP d x) = difD d x := by rw [difD, difD, h2, hn]
  have eU : appU d (norP d x) = appU d x := by rw [appU, appU, eD, h2]
  have eG : appG d (norP d x) = appG d x := by rw [appG, appG, h, h1, eD, h2]
  exact ⟨by rw [appB, appB, eG, eU, hn], by rw [appP, appP, eG, eU, hn]⟩
theorem app_no {d : PDb} {x : PDelta} (h : appB d x = false) : appP d x = d := by
  rw [appP]
  split
  · rename_i h1
    rw [appB, h1, Bool.true_and] at h
    rw [setP, h]; rfl
  · rfl
theorem app_eq {d : PDb} {x : PDelta} (h : appB d x = true) : appP d x = ⟨setL d.tabs x.name (appU d x)⟩ := by
  simp only [appB, Bool.and_eq_true] at h
  rw [appP, if_pos h.1, setP, if_pos h.2]
/-- what was applied is taken back by the turned delta -/
theorem app_back {d : PDb} {x : PDelta} (h : appB d x = true) : appB (appP d x) (invD (norP d x)) = true ∧ appP (appP d x) (invD (norP d x)) = d := by
  have hG : appG d x = true := by simp only [appB, Bool.and_eq_true] at h; exact h.1
  obtain ⟨hf, hU, ha, hm⟩ := app_mem hG
  have f := fit_of.1 hf
  have f2 := fit_of.1 (nor_fit hf).1
  have hn : (norP d x).name = x.name := by rw [nor_eq hf]
  have hr := lk_ok f.lk
  have hd := lk_db f.lk
  obtain ⟨A, B, sp⟩ := lk_split f.lk
  have he : dbOk (appP d x) = true := app_ok h
  have hE := app_eq h
  have hl := (sp.put (appU d x)).lk (by rw [← hE]; exact he)
  rw [← hE] at hl
  have hin : (invD (norP d x)).name = x.name := hn
  have hi : ∀ y, y ∈ (norP d x).ins.rows ↔ y ∈ x.ins.rows ∧ y ∉ (lkR d x.name).rows := fun y => by rw [nor_eq hf]; exact mem_norI hr y
  have hde : ∀ y, y ∈ (norP d x).del.rows ↔ y ∈ x.del.rows ∧ y ∈ (lkR d x.name).rows ∧ y ∉ x.ins.rows := fun y => by rw [nor_eq hf]; exact mem_norD hr f.ins y
  have hf' : fitB (appP d x) (invD (norP d x)) = true := by
    have a1 := f2.ad
    have a2 := f2.ai
    rw [hn] at a1 a2
    refine fit_of.2 ⟨by rw [hin]; exact hl.1, f2.del, f2.ins, ?_, ?_⟩
    · rw [hin, hl.2, ha]; exact a1
    · rw [hin, hl.2, ha]; exact a2
  have hr' : rowsOk (lkR (appP d x) x.name).ar (lkR (appP d x) x.name).rows = true := by rw [hl.2]; exact hU
  have hI' : ∀ y, y ∈ (norP (appP d x) (invD (norP d x))).ins.rows ↔ y ∈ (norP d x).del.rows ∧ y ∉ (appU d x).rows := fun y => by
    rw [nor_eq hf', hin]
    show y ∈ norI (lkR (appP d x) x.name) (norP d x).del.rows ↔ _
    rw [mem_norI hr', hl.2]
  have hD' : ∀ y, y ∈ (norP (appP d x) (invD (norP d x))).del.rows ↔ y ∈ (norP d x).ins.rows ∧ y ∈ (appU d x).rows ∧ y ∉ (norP d x).del.rows := fun y => by
    rw [nor_eq hf', hin]
    show y ∈ norD (lkR (appP d x) x.name) (norP d x).del (norP d x).ins.rows ↔ _
    rw [mem_norD hr' f2.del, hl.2]
  have key := app_of hf' (U := lkR d x.name) hr (by rw [hin, hl.2, ha]) fun y => by
    rw [hin, hl.2, hI', hD', hm, hi, hde]
    by_cases p1 : y ∈ (lkR d x.name).rows <;> by_cases p2 : y ∈ x.ins.rows <;> by_cases p3 : y ∈ x.del.rows <;> simp [p1, p2, p3]
  have hs : setL (appP d x).tabs x.name (lkR d x.name) = d.tabs := by rw [hE]; exact sp.back
  have hB : appB (appP d x) (invD (norP d x)) = true := by
    rw [appB, key.1, key.2, hin, Bool.true_and, setB, he, hs]
    exact hd
  refine ⟨hB, ?_⟩
  rw [app_eq hB, key.2, hin, hs]
/-- a delta that says what it does: nothing comes that is there, nothing goes that is not -/
def valB (d : PDb) (x : PDelta) : Bool := fitB d x && (x.ins.rows.all fun y => !hasR (lkR d x.name) y) && x.del.rows.all fun y => hasR (lkR d x.name) y
theorem nor_val {d : PDb} {x : PDelta} (h : fitB d x = true) : valB d (norP d x) = true := by
  have f := fit_of.1 h
  have hr := lk_ok f.lk
  rw [valB, (nor_fit h).1, Bool.true_and, nor_eq h, Bool.and_eq_true, List.all_eq_true, List.all_eq_true]
  refine ⟨fun y hy => ?_, fun y hy => ?_⟩
  · rw [Bool.not_eq_true', hasR_no hr]; exact ((mem_norI hr y).1 hy).2
  · rw [hasR_iff hr]; exact ((mem_norD hr f.ins y).1 hy).2.1
/-- the difference of two databases in one table -/
def dfB (a b : PDb) (n : List UInt8) : Bool := lkB a n && lkB b n && decide ((lkR a n).ar = (lkR b n).ar)
def dfP (a b : PDb) (n : List UInt8) : PDelta := if dfB a b n then ⟨n, difR (lkR b n) (lkR a n), difR (lkR a n) (lkR b n)⟩ else ⟨[], ⟨0, []⟩, ⟨0, []⟩⟩
theorem df_inv (a b : PDb) (n : List UInt8) (h : dfB a b n = true) : dfP b a n = invD (dfP a b n) := by
  have h' : dfB b a n = true := by
    simp only [dfB, Bool.and_eq_true, decide_eq_true_eq] at h ⊢
    exact ⟨⟨h.1.2, h.1.1⟩, h.2.symm⟩
  rw [dfP, if_pos h', dfP, if_pos h]; rfl
/-- the difference makes of the one table the other -/
theorem df_app {a b : PDb} {n : List UInt8} (h : dfB a b n = true) : appB a (dfP a b n) = true ∧ lkB (appP a (dfP a b n)) n = true ∧ lkR (appP a (dfP a b n)) n = lkR b n ∧ valB a (dfP a b n) = true := by
  have h0 := h
  simp only [dfB, Bool.and_eq_true, decide_eq_true_eq] at h
  obtain ⟨⟨ha, hb⟩, har⟩ := h
  have ra := lk_ok ha
  have rb := lk_ok hb
  have e1 : difR (lkR b n) (lkR a n) = ⟨(lkR b n).ar, difL (lkR b n).rows (lkR a n).rows⟩ := by
    rw [difR, if_pos]
    simp only [difB, Bool.and_eq_true, decide_eq_true_eq]
    exact ⟨⟨rb, ra⟩, har.symm⟩
  have e2 : difR (lkR a n) (lkR b n) = ⟨(lkR a n).ar, difL (lkR a n).rows (lkR b n).rows⟩ := by
    rw [difR, if_pos]
    simp only [difB, Bool.and_eq_true, decide_eq_true_eq]
    exact ⟨⟨ra, rb⟩, har⟩
  have eX : dfP a b n = ⟨n, ⟨(lkR b n).ar, difL (lkR b n).rows (lkR a n).rows⟩, ⟨(lkR a n).ar, difL (lkR a n).rows (lkR b n).rows⟩⟩ := by rw [dfP, if_pos h0, e1, e2]
  have m1 : ∀ y, y ∈ difL (lkR b n).rows (lkR a n).rows ↔ y ∈ (lkR b n).rows ∧ y ∉ (lkR a n).rows := fun y => by
    rw [difL, List.mem_filter, Bool.not_eq_true', ← Bool.not_eq_true, placeB_iff (rowsOk_srt ra)]
  have m2 : ∀ y, y ∈ difL (lkR a n).rows (lkR b n).rows ↔ y ∈ (lkR a n).rows ∧ y ∉ (lkR b n).rows := fun y => by
    rw [difL, List.mem_filter, Bool.not_eq_true', ← Bool.not_eq_true, placeB_iff (rowsOk_srt rb)]
  have hI : rowsOk (lkR b n).ar (difL (lkR b n).rows (lkR a n).rows) = true := rowsOk_filter rb
  have hD : rowsOk (lkR a n).ar (difL (lkR a n).rows (lkR b n).rows) = true := rowsOk_filter ra
  have hf : fitB a (dfP a b n) = true := by rw [eX]; exact fit_of.2 ⟨ha, hI, hD, har.symm, rfl⟩
  have hn : (dfP a b n).name = n := by rw [eX]
  have key := app_of hf (U := lkR b n) rb (by rw [hn]; exact har.symm) fun y => by
    rw [nor_eq hf, hn]
    simp only
    rw [mem_norI ra, mem_norD ra (by rw [eX]; exact hI), eX]
    simp only
    rw [m1, m2]
    by_cases p1 : y ∈ (lkR a n).rows <;> by_cases p2 : y ∈ (lkR b n).rows <;> simp [p1, p2]
  obtain ⟨A, B, sp⟩ := lk_split ha
  obtain ⟨A', B', sp'⟩ := lk_split hb
  have hda := lk_db ha
  have hok := sp.ok (u := lkR b n) hda (sp'.tab (lk_db hb))
  have hB : appB a (dfP a b n) = true := by
    rw [appB, key.1, key.2, hn, Bool.true_and, setB, hda]
    exact hok
  have hE : appP a (dfP a b n) = ⟨setL a.tabs n (lkR b n)⟩ := by rw [app_eq hB, key.2, hn]
  have hl := (sp.put (lkR b n)).lk hok
  refine ⟨hB, by rw [hE]; exact hl.1, by rw [hE]; exact hl.2, ?_⟩
  rw [valB, hf, Bool.true_and, Bool.and_eq_true, List.all_eq_true, List.all_eq_true, hn]
  refine ⟨fun y hy => ?_, fun y hy => ?_⟩
  · rw [Bool.not_eq_true', hasR_no ra]
    rw [eX] at hy
    exact ((m1 y).1 hy).2
  · rw [hasR_iff ra]
    rw [eX] at hy
    exact ((m2 y).1 hy).1
theorem run_len : ∀ (xs : List PDelta) (d : PDb) (k : Nat) (c : PDb) (j : Nat), runB d xs k = (some c, j) → j = k + xs.length
  | [], d, k, c, j, e => by simp only [runB, Prod.mk.injEq] at e; simp [e.2]
  | x :: r, d, k, c, j, e => by
    rw [runB] at e
    split at e
    · have := run_len r _ _ c j e; simp only [List.length_cons]; omega
    · simp at e
theorem run_back : ∀ (xs : List PDelta) (d e : PDb) (k j : Nat) (acc : List PDelta) (i : Nat), runB d xs k = (some e, j) → runB e (invL d xs acc) i = runB d acc (i + xs.length)
  | [], d, e, k, j, acc, i, h => by
    simp only [runB, Prod.mk.injEq, Option.some.injEq] at h
    rw [← h.1]; rfl
  | x :: r, d, e, k, j, acc, i, h => by
    rw [runB] at h
    split at h
    · rename_i hB
      have hb := app_back hB
      rw [invL, run_back r _ _ _ _ _ i h, runB, if_pos hb.1, hb.2, List.length_cons, Nat.add_assoc]
    · simp at h
/-- a batch that was applied is taken back by the turned batch -/
theorem bat_back {d : PDb} {xs : List PDelta} (h : batB d xs = true) : batP (batP d xs) (invP d xs) = d ∧ batB (batP d xs) (invP d xs) = true ∧ (invP d xs).length = xs.length ∧ batN d xs = xs.length := by
  obtain ⟨hg, c, k, hr⟩ := batB_run h
  have hT := bat_done hg hr
  have hP : batP d xs = c := by rw [batP, hT]
  have hg' := hg
  simp only [batG, Bool.and_eq_true, decide_eq_true_eq] at hg'
  have hc := run_ok xs d 0 c k hg'.2 hr
  have hl : (invP d xs).length = xs.length := by rw [invP, if_pos h, invL_len]; simp
  have hG2 : batG c (invP d xs) = true := by simp only [batG, Bool.and_eq_true, decide_eq_true_eq]; exact ⟨by omega, hc⟩
  have hR2 : runB c (invP d xs) 0 = (some d, 0 + xs.length) := by rw [invP, if_pos h, run_back xs d c 0 k [] 0 hr]; rfl
  have hT2 := bat_done hG2 hR2
  refine ⟨by rw [hP, batP, hT2], by rw [hP, batB, hT2], hl, ?_⟩
  have := run_len xs d 0 c k hr
  rw [batN, hT]
  simp only
  omega
theorem bat_none {d : PDb} {xs : List PDelta} (h : batB d xs = false) : batP d xs = d ∧ invP d xs = [] := by
  refine ⟨?_, by rw [invP, if_neg (by rw [h]; simp)]⟩
  rw [batP]
  rw [batB] at h
  unfold batT at h ⊢
  split at h
  · rename_i hg
    rw [if_pos hg]
    split at h
    · simp at h
    · rfl
  · rename_i hg
    rw [if_neg hg]
end Go.Vs

namespace Go.Vs
/-! ### bindings: a join by glue, and a walk over atoms -/
/-- the value that a row over the variables 'a' gives to v -/
def lookV (a r : List Int) (v : Int) : Int := r.getD (idxL a v).toNat 0
def aVars (vs : List Int) : List Int := (rangeI 5).filter fun v => vs.contains v
def fitR (vs row : List Int) : Bool := decide (vs.map (lookV vs row) = row)
def valL (vs row : List Int) : List Int := (vs.zip row).foldl (fun val p => val.set p.1.toNat p.2) (List.replicate 5 0)
def abL (vs : List Int) (rows : List (List Int)) : List (List Int) := (rows.filter (fitR vs)).map fun row => pickR (aVars vs) (valL vs row)
def abR (d : PDb) (a : PAtom) : List (List Int) := srtU (abL a.vars (lkR d a.rel).rows)
def insI (l : List Int) (n : Int) : List Int :=
  if (l.getD (l.takeWhile fun x => decide (x < n)).length (n + 1)) = n then l else l.take (l.takeWhile fun x => decide (x < n)).length ++ n :: l.drop (l.takeWhile fun x => decide (x < n)).length
def uniL (a b : List Int) : List Int := b.foldl insI a
def glV (a r b s : List Int) (v : Int) : Bool := !(a.contains v && b.contains v && !decide (lookV a r v = lookV b s v))
def glB (u a r b s : List Int) : Bool := u.all (glV a r b s)
def glR (u a r b s : List Int) : List Int := u.map fun v => if a.contains v then lookV a r v else lookV b s v
def glO (u a r b s : List Int) : Option (List Int) := if glB u a r b s then some (glR u a r b s) else none
def joinL (u a : List Int) (rows : List (List Int)) (b : List Int) (list : List (List Int)) : List (List Int) := rows.flatMap fun r => list.filterMap fun s => glO u a r b s
def joinS (d : PDb) (p : List Int × List (List Int)) (a : PAtom) : List Int × List (List Int) := (uniL p.1 (aVars a.vars), joinL (uniL p.1 (aVars a.vars)) p.1 p.2 (aVars a.vars) (abR d a))
def binds (d : PDb) (l : List PAtom) : List Int × List (List Int) := l.foldl (joinS d) ([], [[]])
def qryFor (d : PDb) (q : PQuery) : Bool := queryOk q && dbOk d && q.atoms.all fun a => lkB d a.rel && decide ((lkR d a.rel).ar = a.vars.length)
def bdB (d : PDb) (q : PQuery) : Bool := qryFor d q && rowsOk q.n (srtU (binds d q.atoms).2)
def bdP (d : PDb) (q : PQuery) : PReln := if bdB d q then ⟨q.n, srtU (binds d q.atoms).2⟩ else ⟨0, []⟩
/-- a tuple is laid into a row -/
def asgO : List Int → List (Int × Int) → Option (List Int)
  | x, [] => some x
  | x, (v, y) :: r => if x.getD v.toNat 0 = -1 ∨ x.getD v.toNat 0 = y then asgO (x.set v.toNat y) r else none
def walkL (d : PDb) : List PAtom → List Int → List (List Int)
  | [], row => [row]
  | a :: r, row => (lkR d a.rel).rows.flatMap fun t => match asgO row (a.vars.zip t) with
    | none => []
    | some x => walkL d r x
def abP (d : PDb) (q : PQuery) : PReln := if qryFor d q then newR q.n (walkL d q.atoms (List.replicate q.n.toNat (-1))) else ⟨0, []⟩
/-! rows as maps -/
theorem idxL_mem {l : List Int} {v : Int} (h : v ∈ l) : (idxL l v).toNat < l.length ∧ l.getD (idxL l v).toNat 0 = v := by
  rw [idxL, if_pos h]
  simp only [Int.toNat_natCast]
  induction l with
  | nil => cases h
  | cons x r ih =>
    by_cases hx : x = v
    · subst hx; simp
    · have hr : v ∈ r := (List.mem_cons.1 h).resolve_left fun e => hx e.symm
      have := ih hr
      have hb : (!(x == v)) = true := by simp [hx]
      have e : (x :: r).takeWhile (fun x => !(x == v)) = x :: r.takeWhile (fun x => !(x == v)) := by rw [List.takeWhile_cons, if_pos hb]
      rw [e]
      simp only [List.length_cons, List.getD_cons_succ]
      exact ⟨by omega, this.2⟩
theorem lookV_map {a : List Int} (β : Int → Int) {v : Int} (h : v ∈ a) : lookV a (a.map β) v = β v := by
  obtain ⟨h1, h2⟩ := idxL_mem h
  rw [lookV]
  have : (a.map β).getD (idxL a v).toNat 0 = β (a.getD (idxL a v).toNat 0) := by
    simp [List.getD, h1]
  rw [this, h2]
theorem idxL_self : ∀ {a : List Int}, a.Nodup → ∀ i (h : i < a.length), (idxL a a[i]).toNat = i := by
  intro a ha i h
  obtain ⟨h1, h2⟩ := idxL_mem (List.getElem_mem h)
  have h3 : a[(idxL a a[i]).toNat] = a[i] := by
    have := h2
    rwa [getD_el _ h1] at this
  exact (List.getElem_inj ha).1 h3
theorem map_lookV {a r : List Int} (ha : a.Nodup) (hl : r.length = a.length) : a.map (lookV a r) = r := by
  refine List.ext_getElem (by simp [hl]) fun i h1 h2 => ?_
  rw [List.getElem_map, lookV, idxL_self ha i (by simpa using h1), getD_el _ h2]
theorem map_congr_mem {a : List Int} {f g : Int → Int} : a.map f = a.map g ↔ ∀ v ∈ a, f v = g v := List.map_inj_left
/-! the rows of an atom -/
theorem aVars_mem {vs : List Int} {v : Int} : v ∈ aVars vs ↔ v ∈ vs ∧ 0 ≤ v ∧ v < 5 := by
  rw [aVars, List.mem_filter]
  simp only [rangeI, List.mem_map, List.mem_range, List.contains_iff_mem]
  constructor
  · rintro ⟨⟨k, hk, rfl⟩, h⟩; exact ⟨h, by omega, by omega⟩
  · rintro ⟨h, h0, h1⟩; exact ⟨⟨v.toNat, by omega, by omega⟩, h⟩
theorem rangeI_pw (n : Nat) : (rangeI n).Pairwise (· < ·) := by
  rw [rangeI, List.pairwise_map]
  exact List.pairwise_lt_range.imp fun h => by omega
theorem aVars_pw (vs : List Int) : (aVars vs).Pairwise (· < ·) := List.Pairwise.filter _ (rangeI_pw 5)
theorem pw_nodup {l : List Int} (h : l.Pairwise (· < ·)) : l.Nodup := h.imp fun h => by omega
theorem val_step {vs row : List Int} (val : List Int) (β : Int → Int) (hr : row = vs.map β) (hv : ∀ v ∈ vs, 0 ≤ v ∧ v < 5) (hl : val.length = 5) :
    ((vs.zip row).foldl (fun val p => val.set p.1.toNat p.2) val).length = 5 ∧ ∀ u : Int, 0 ≤ u → u < 5 → ((vs.zip row).foldl (fun val p => val.set p.1.toNat p.2) val).getD u.toNat 0 = if u ∈ vs then β u else val.getD u.toNat 0 := by
  subst hr
  induction vs generalizing val with
  | nil => simp [hl]
  | cons w r ih =>
    simp only [List.map_cons, List.zip_cons_cons, List.foldl_cons]
    have hw := hv w (by simp)
    have := ih (val.set w.toNat (β w)) (fun v hm => hv v (List.mem_cons_of_mem _ hm)) (by simp [hl])
    refine ⟨this.1, fun u h0 h5 => ?_⟩
    rw [this.2 u h0 h5]
    by_cases h1 : u ∈ r
    · simp [h1]
    · by_cases h2 : u = w
      · subst h2
        simp only [h1, if_false, List.mem_cons, true_or, if_true]
        simp [List.getD, List.getElem?_set, hl, show u.toNat < 5 by omega]
      · have h3 : u ∉ w :: r := by simp [h1, h2]
        rw [if_neg h1, if_neg h3]
        have : w.toNat ≠ u.toNat := by omega
        simp [List.getD, List.getElem?_set, this]
theorem val_pick {vs row : List Int} (β : Int → Int) (hr : row = vs.map β) (hv : ∀ v ∈ vs, 0 ≤ v ∧ v < 5) : pickR (aVars vs) (valL vs row) = (aVars vs).map β := by
  rw [pickR]
  refine map_congr_mem.2 fun u hu => ?_
  obtain ⟨h1, h2, h3⟩ := aVars_mem.1 hu
  rw [valL, (val_step (List.replicate 5 0) β hr hv (by simp)).2 u h2 h3, if_pos h1]
/-- the rows of an atom are the bindings of its variables -/
theorem ab_mem {vs : List Int} {rows : List (List Int)} (hv : ∀ v ∈ vs, 0 ≤ v ∧ v < 5) (β : Int → Int) : (aVars vs).map β ∈ srtU (abL vs rows) ↔ vs.map β ∈ rows := by
  rw [srtU_mem, abL, List.mem_map]
  constructor
  · rintro ⟨row, hrow, e⟩
    obtain ⟨h1, h2⟩ := List.mem_filter.1 hrow
    have hf : row = vs.map (lookV vs row) := (of_decide_eq_true h2).symm
    rw [val_pick (lookV vs row) hf hv] at e
    have he := map_congr_mem.1 e
    have : vs.map β = row := by
      rw [hf]
      refine map_congr_mem.2 fun v hm => ?_
      exact (he v (aVars_mem.2 ⟨hm, hv v hm⟩)).symm
    rw [this]; exact h1
  · intro h
    refine ⟨vs.map β, List.mem_filter.2 ⟨h, decide_eq_true ?_⟩, val_pick β rfl hv⟩
    exact map_congr_mem.2 fun v hm => lookV_map β hm
theorem ab_len {vs : List Int} {rows : List (List Int)} : ∀ s ∈ srtU (abL vs rows), s.length = (aVars vs).length := fun s hs => by
  rw [srtU_mem, abL, List.mem_map] at hs
  obtain ⟨row, _, rfl⟩ := hs
  exact pickR_len _ _
/-! sets of variables -/
theorem insI_pw {l : List Int} (h : l.Pairwise (· < ·)) (n : Int) : (insI l n).Pairwise (· < ·) ∧ ∀ x, x ∈ insI l n ↔ x ∈ l ∨ x = n := by
  induction l with
  | nil =>
    have e : insI [] n = [n] := by
      have : ([] : List Int).getD 0 (n + 1) ≠ n := by simp [List.getD]; omega
      simp only [insI, List.takeWhile_nil, List.length_nil, if_neg this, List.take_nil, List.drop_nil, List.nil_append]
    rw [e]; simp
  | cons a r ih =>
    have hp := List.pairwise_cons.1 h
    have ih := ih hp.2
    by_cases h1 : a < n
    · have e : insI (a :: r) n = a :: insI r n := by
        simp only [insI, List.takeWhile_cons, decide_eq_true h1, if_true, List.length_cons, List.getD_cons_succ, List.take_succ_cons, List.drop_succ_cons]
        split <;> simp
      rw [e]
      refine ⟨List.pairwise_cons.2 ⟨fun x hx => ?_, ih.1⟩, fun x => ?_⟩
      · rcases (ih.2 x).1 hx with hx | hx
        · exact hp.1 x hx
        · omega
      · rw [List.mem_cons, ih.2, List.mem_cons, or_assoc]
    · have e0 : (List.takeWhile (fun x => decide (x < n)) (a :: r)).length = 0 := by simp [List.takeWhile_cons, h1]
      by_cases h2 : a = n
      · subst h2
        have e : insI (a :: r) a = a :: r := by simp [insI, e0]
        rw [e]
        exact ⟨h, fun x => by simp; intro hx; exact .inl hx⟩
      · have e : insI (a :: r) n = n :: a :: r := by simp [insI, e0, h2]
        rw [e]
        refine ⟨List.pairwise_cons.2 ⟨fun x hx => ?_, h⟩, fun x => by simp [or_comm]⟩
        rcases List.mem_cons.1 hx with hx | hx
        · omega
        · have := hp.1 x hx; omega
theorem uniL_pw : ∀ (b : List Int) {a : List Int}, a.Pairwise (· < ·) → (uniL a b).Pairwise (· < ·) ∧ ∀ x, x ∈ uniL a b ↔ x ∈ a ∨ x ∈ b
  | [], a, h => ⟨h, by simp [uniL]⟩
  | n :: b, a, h => by
    have h1 := insI_pw h n
    have h2 := uniL_pw b h1.1
    refine ⟨h2.1, fun x => ?_⟩
    have : uniL a (n :: b) = uniL (insI a n) b := rfl
    rw [this, h2.2, h1.2, List.mem_cons, or_assoc]
theorem pw_ext : ∀ {l l' : List Int}, l.Pairwise (· < ·) → l'.Pairwise (· < ·) → (∀ x, x ∈ l ↔ x ∈ l') → l = l'
  | [], [], _, _, _ => rfl
  | [], b :: s, _, _, h => by have := (h b).2 (by simp); simp at this
  | a :: r, [], _, _, h => by have := (h a).1 (by simp); simp at this
  | a :: r, b :: s, h1, h2, h => by
    have p1 := List.pairwise_cons.1 h1
    have p2 := List.pairwise_cons.1 h2
    have hab : a = b := by
      rcases List.mem_cons.1 ((h a).1 (by simp)) with e | e
      · exact e
      · rcases List.mem_cons.1 ((h b).2 (by simp)) with e' | e'
        · exact e'.symm
        · have := p2.1 a e; have := p1.1 b e'; omega
    subst hab
    congr 1
    refine pw_ext p1.2 p2.2 fun x => ?_
    have hx := h x
    simp only [List.mem_cons] at hx
    constructor
    · intro hm
      rcases hx.1 (.inr hm) with e | e
      · have := p1.1 x hm; omega
      · exact e
    · intro hm
      rcases hx.2 (.inr hm) with e | e
      · have := p2.1 x hm; omega
      · exact e
/-! the join -/
theorem join_mem {u a b : List Int} {rows list : List (List Int)} (ha : a.Nodup) (hb : b.Nodup) (hu : ∀ x, x ∈ u ↔ x ∈ a ∨ x ∈ b) (hr : ∀ r ∈ rows, r.length = a.length) (hs : ∀ s ∈ list, s.length = b.length) (β : Int → Int) :
    u.map β ∈ joinL u a rows b list ↔ a.map β ∈ rows ∧ b.map β ∈ list := by
  simp only [joinL, List.mem_flatMap, List.mem_filterMap, glO]
  constructor
  · rintro ⟨r, hrm, s, hsm, h⟩
    split at h
    · rename_i hg
      simp only [Option.some.injEq, glR] at h
      have he := map_congr_mem.1 h
      have hgv : ∀ v ∈ u, v ∈ a → v ∈ b → lookV a r v = lookV b s v := fun v h1 h2 h3 => by
        have := (List.all_eq_true.1 hg) v h1
        simpa [glV, List.contains_iff_mem, h2, h3] using this
      have e1 : ∀ v ∈ a, lookV a r v = β v := fun v hv => by
        have := he v ((hu v).2 (.inl hv))
        simpa [List.contains_iff_mem, hv] using this
      have e2 : ∀ v ∈ b, lookV b s v = β v := fun v hv => by
        by_cases hva : v ∈ a
        · rw [← hgv v ((hu v).2 (.inr hv)) hva hv]; exact e1 v hva
        · have := he v ((hu v).2 (.inr hv))
          simpa [List.contains_iff_mem, hva] using this
      have f1 : a.map β = r := by rw [← map_lookV ha (hr r hrm)]; exact map_congr_mem.2 fun v hv => (e1 v hv).symm
      have f2 : b.map β = s := by rw [← map_lookV hb (hs s hsm)]; exact map_congr_mem.2 fun v hv => (e2 v hv).symm
      rw [f1, f2]; exact ⟨hrm, hsm⟩
    · cases h
  · rintro ⟨h1, h2⟩
    refine ⟨a.map β, h1, b.map β, h2, ?_⟩
    rw [if_pos]
    · simp only [Option.some.injEq, glR]
      refine map_congr_mem.2 fun v hv => ?_
      by_cases hva : v ∈ a
      · simp only [List.contains_iff_mem, hva, if_true]; exact lookV_map β hva
      · have hvb := ((hu v).1 hv).resolve_left hva
        simp only [List.contains_iff_mem, hva, if_false]; exact lookV_map β hvb
    · refine List.all_eq_true.2 fun v hv => ?_
      by_cases hva : v ∈ a
      · by_cases hvb : v ∈ b
        · simp [glV, lookV_map β hva, lookV_map β hvb]
        · simp [glV, List.contains_iff_mem, hvb]
      · simp [glV, List.contains_iff_mem, hva]
theorem join_len {u a b : List Int} {rows list : List (List Int)} : ∀ x ∈ joinL u a rows b list, x.length = u.length := fun x hx => by
  simp only [joinL, List.mem_flatMap, List.mem_filterMap, glO] at hx
  obtain ⟨r, _, s, _, h⟩ := hx
  split at h
  · simp only [Option.some.injEq] at h
    rw [← h, glR, List.length_map]
  · cases h
/-- what a partial join holds -/
structure Jn (d : PDb) (as : List PAtom) (p : List Int × List (List Int)) : Prop where
  pw : p.1.Pairwise (· < ·)
  mem : ∀ x, x ∈ p.1 ↔ x ∈ varsIn as
  len : ∀ r ∈ p.2, r.length = p.1.length
  iff : ∀ β : Int → Int, p.1.map β ∈ p.2 ↔ ∀ a ∈ as, a.vars.map β ∈ (lkR d a.rel).rows
theorem Jn.zero (d : PDb) : Jn d [] ([], [[]]) := ⟨.nil, by simp [varsIn], by simp, by simp⟩
theorem Jn.step {d : PDb} {as : List PAtom} {p : List Int × List (List Int)} (h : Jn d as p) {a : PAtom} (hv : ∀ v ∈ a.vars, 0 ≤ v ∧ v < 5) : Jn d (as ++ [a]) (joinS d p a) := by
  have hu := uniL_pw (aVars a.vars) h.pw
  have hab : ∀ x, x ∈ uniL p.1 (aVars a.vars) ↔ x ∈ p.1 ∨ x ∈ aVars a.vars := hu.2
  refine ⟨hu.1, fun x => ?_, join_len, fun β => ?_⟩
  · show x ∈ uniL p.1 (aVars a.vars) ↔ _
    rw [hab, h.mem, varsIn, varsIn, List.flatMap_append, List.mem_append, aVars_mem]
    simp only [List.flatMap_cons, List.flatMap_nil, List.append_nil]
    constructor
    · rintro (h | h)
      · exact .inl h
      · exact .inr h.1
    · rintro (h | h)
      · exact .inl h
      · exact .inr ⟨h, hv x h⟩
  · show (uniL p.1 (aVars a.vars)).map β ∈ joinL (uniL p.1 (aVars a.vars)) p.1 p.2 (aVars a.vars) (abR d a) ↔ _
    have hl : ∀ s ∈ abR d a, s.length = (aVars a.vars).length := ab_len
    rw [join_mem (pw_nodup h.pw) (pw_nodup (aVars_pw a.vars)) hab h.len hl, h.iff, abR, ab_mem hv]
    simp only [List.mem_append, List.mem_singleton]
    constructor
    · rintro ⟨h1, h2⟩ b (hb | rfl)
      · exact h1 b hb
      · exact h2
    · exact fun h => ⟨fun b hb => h b (.inl hb), h a (.inr rfl)⟩
theorem Jn.all {d : PDb} : ∀ (l as : List PAtom) (p : List Int × List (List Int)), Jn d as p → (∀ a ∈ l, ∀ v ∈ a.vars, 0 ≤ v ∧ v < 5) → Jn d (as ++ l) (l.foldl (joinS d) p)
  | [], as, p, h, _ => by simpa using h
  | a :: l, as, p, h, hv => by
    have := Jn.all l (as ++ [a]) (joinS d p a) (h.step (hv a (by simp))) fun b hb => hv b (List.mem_cons_of_mem _ hb)
    simpa using this
/-! the walk -/
theorem getD_set_eq {x : List Int} {i : Nat} {y : Int} (h : i < x.length) : (x.set i y).getD i 0 = y := by simp [List.getD, List.getElem?_set, h]
theorem getD_set_ne {x : List Int} {i j : Nat} {y : Int} (h : i ≠ j) : (x.set i y).getD j 0 = x.getD j 0 := by simp [List.getD, List.getElem?_set, h]
theorem asg_iff : ∀ (vs t x z : List Int), t.length = vs.length → (∀ v ∈ vs, 0 ≤ v ∧ v < x.length) → (∀ y ∈ t, y ≠ -1) →
    (asgO x (vs.zip t) = some z ↔ z.length = x.length ∧ pickR vs z = t ∧ (∀ j : Nat, (j : Int) ∉ vs → z.getD j 0 = x.getD j 0) ∧ ∀ j : Nat, x.getD j 0 ≠ -1 → z.getD j 0 = x.getD j 0)
  | [], [], x, z, _, _, _ => by
    simp only [List.zip_nil_left, asgO, Option.some.injEq, pickR, List.map_nil, true_and, List.not_mem_nil, not_false_eq_true, forall_const]
    constructor
    · rintro rfl; exact ⟨rfl, fun _ => rfl, fun _ _ => rfl⟩
    · rintro ⟨h1, h2, _⟩
      refine List.ext_getElem h1.symm fun i a b => ?_
      have := h2 i
      rw [getD_el _ b, getD_el _ a] at this
      exact this.symm
  | [], _ :: _, _, _, h, _, _ => by simp at h
  | _ :: _, [], _, _, h, _, _ => by simp at h
  | v :: vs, y :: t, x, z, hl, hv, hy => by
    have hv0 := hv v (by simp)
    have hy0 := hy y (by simp)
    have hvn : v.toNat < x.length := by omega
    rw [List.zip_cons_cons, asgO]
    by_cases hc : x.getD v.toNat 0 = -1 ∨ x.getD v.toNat 0 = y
    · rw [if_pos hc, asg_iff vs t (x.set v.toNat y) z (by simpa using hl) (fun u hu => by have := hv u (List.mem_cons_of_mem _ hu); simpa using this) fun w hw => hy w (List.mem_cons_of_mem _ hw)]
      simp only [List.length_set]
      have hp : pickR (v :: vs) z = y :: t ↔ z.getD v.toNat 0 = y ∧ pickR vs z = t := by simp [pickR]
      rw [hp]
      constructor
      · rintro ⟨h1, h2, h3, h4⟩
        have h5 : z.getD v.toNat 0 = y := by
          have := h4 v.toNat (by rw [getD_set_eq hvn]; exact hy0)
          rwa [getD_set_eq hvn] at this
        refine ⟨h1, ⟨h5, h2⟩, fun j hj => ?_, fun j hj => ?_⟩
        · have hne : v.toNat ≠ j := fun e => hj (by rw [← e, Int.toNat_of_nonneg hv0.1]; simp)
          rw [h3 j fun hm => hj (List.mem_cons_of_mem _ hm), getD_set_ne hne]
        · by_cases e : v.toNat = j
          · subst e
            rcases hc with hc | hc
            · exact absurd hc hj
            · rw [h5, hc]
          · have := h4 j (by rw [getD_set_ne e]; exact hj)
            rwa [getD_set_ne e] at this
      · rintro ⟨h1, ⟨h5, h2⟩, h3, h4⟩
        refine ⟨h1, h2, fun j hj => ?_, fun j hj => ?_⟩
        · by_cases e : v.toNat = j
          · subst e; rw [getD_set_eq hvn, h5]
          · rw [getD_set_ne e]
            refine h3 j fun hm => ?_
            rcases List.mem_cons.1 hm with hm | hm
            · exact e (by rw [← hm]; simp)
            · exact hj hm
        · by_cases e : v.toNat = j
          · subst e; rw [getD_set_eq hvn, h5]
          · rw [getD_set_ne e] at hj ⊢; exact h4 j hj
    · rw [if_neg hc]
      constructor
      · intro h; cases h
      · rintro ⟨h1, h2, h3, h4⟩
        have h5 : z.getD v.toNat 0 = y := by
          simp only [pickR, List.map_cons, List.cons.injEq] at h2; exact h2.1
        have := h4 v.toNat fun e => hc (.inl e)
        exact absurd (this ▸ h5) fun e => hc (.inr e)
/-- what the walk over atoms yields -/
theorem walk_iff (d : PDb) : ∀ (as : List PAtom) (x z : List Int), (∀ a ∈ as, (∀ v ∈ a.vars, 0 ≤ v ∧ v < x.length) ∧ ∀ t ∈ (lkR d a.rel).rows, t.length = a.vars.length ∧ ∀ y ∈ t, y ≠ -1) →
    (z ∈ walkL d as x ↔ z.length = x.length ∧ (∀ a ∈ as, pickR a.vars z ∈ (lkR d a.rel).rows) ∧ (∀ j : Nat, (j : Int) ∉ varsIn as → z.getD j 0 = x.getD j 0) ∧ ∀ j : Nat, x.getD j 0 ≠ -1 → z.getD j 0 = x.getD j 0)
  | [], x, z, _ => by
    simp only [walkL, List.mem_singleton, varsIn, List.flatMap_nil, List.not_mem_nil, not_false_eq_true, forall_const, false_implies, true_and]
    constructor
    · rintro rfl; exact ⟨rfl, fun _ => rfl, fun _ _ => rfl⟩
    · rintro ⟨h1, h2, _⟩
      refine List.ext_getElem h1 fun i a b => ?_
      have := h2 i
      rw [getD_el _ a, getD_el _ b] at this
      exact this
  | a :: as, x, z, h => by
    obtain ⟨hv, ht⟩ := h a (by simp)
    have hin : ∀ v, v ∈ varsIn (a :: as) ↔ v ∈ a.vars ∨ v ∈ varsIn as := fun v => by simp [varsIn]
    rw [walkL, List.mem_flatMap]
    constructor
    · rintro ⟨t, htm, hz⟩
      obtain ⟨htl, hty⟩ := ht t htm
      cases ho : asgO x (a.vars.zip t) with
      | none => rw [ho] at hz; cases hz
      | some w =>
        rw [ho] at hz
        obtain ⟨w1, w2, w3, w4⟩ := (asg_iff a.vars t x w htl hv hty).1 ho
        obtain ⟨z1, z2, z3, z4⟩ := (walk_iff d as w z fun b hb => by rw [w1]; exact h b (List.mem_cons_of_mem _ hb)).1 hz
        have hpz : pickR a.vars z = t := by
          rw [← w2]
          refine map_congr_mem.2 fun v hm => ?_
          have hv' := hv v hm
          refine z4 v.toNat fun e => ?_
          have : w.getD v.toNat 0 ∈ t := by rw [← w2]; exact List.mem_map.2 ⟨v, hm, rfl⟩
          exact hty _ this e
        refine ⟨by rw [z1, w1], fun b hb => ?_, fun j hj => ?_, fun j hj => ?_⟩
        · rcases List.mem_cons.1 hb with rfl | hb
          · rw [hpz]; exact htm
          · exact z2 b hb
        · rw [z3 j fun hm => hj ((hin _).2 (.inr hm)), w3 j fun hm => hj ((hin _).2 (.inl hm))]
        · have e := w4 j hj
          rw [z4 j (by rw [e]; exact hj), e]
    · rintro ⟨z1, z2, z3, z4⟩
      have htm := z2 a (by simp)
      obtain ⟨htl, hty⟩ := ht _ htm
      -- the row behind the first atom
      let w : List Int := (List.range x.length).map fun (j : Nat) => if (j : Int) ∈ a.vars then z.getD j 0 else x.getD j 0
      have wl : w.length = x.length := by simp [w]
      have wg : ∀ j : Nat, w.getD j 0 = if (j : Int) ∈ a.vars then z.getD j 0 else x.getD j 0 := fun j => by
        by_cases hj : j < x.length
        · rw [getD_el _ (by rw [wl]; exact hj)]
          simp [w]
        · have e1 : w.getD j 0 = 0 := by simp [List.getD, List.getElem?_eq_none (show w.length ≤ j by omega)]
          have e2 : x.getD j 0 = 0 := by simp [List.getD, List.getElem?_eq_none (show x.length ≤ j by omega)]
          have e3 : z.getD j 0 = 0 := by simp [List.getD, List.getElem?_eq_none (show z.length ≤ j by omega)]
          rw [e1, e2, e3]; simp
      have hw2 : pickR a.vars w = pickR a.vars z := map_congr_mem.2 fun v hm => by
        have := hv v hm
        rw [wg, if_pos (by rw [Int.toNat_of_nonneg this.1]; exact hm)]
      have hwx : ∀ j : Nat, x.getD j 0 ≠ -1 → w.getD j 0 = x.getD j 0 := fun j hj => by
        rw [wg]; split
        · exact z4 j hj
        · rfl
      have ho : asgO x (a.vars.zip (pickR a.vars z)) = some w := (asg_iff a.vars _ x w htl hv hty).2 ⟨wl, hw2, fun j hj => by rw [wg, if_neg hj], hwx⟩
      refine ⟨_, htm, ?_⟩
      rw [ho]
      simp only
      refine (walk_iff d as w z fun b hb => by rw [wl]; exact h b (List.mem_cons_of_mem _ hb)).2 ⟨by rw [z1, wl], fun b hb => z2 b (List.mem_cons_of_mem _ hb), fun j hj => ?_, fun j hj => ?_⟩
      · rw [wg]
        split
        · rfl
        · rename_i hn
          exact z3 j fun hm => by
            rcases (hin _).1 hm with hm | hm
            · exact hn hm
            · exact hj hm
      · rw [wg] at hj ⊢
        split
        · rfl
        · rename_i hn
          rw [if_neg hn] at hj
          exact z4 j hj
end Go.Vs

namespace Go.Vs
/-! ### the bindings of a query, and views -/
structure Qf (d : PDb) (q : PQuery) : Prop where
  qok : queryOk q = true
  dok : dbOk d = true
  n5 : 1 ≤ q.n ∧ q.n ≤ 5
  a4 : 1 ≤ q.atoms.length ∧ q.atoms.length ≤ 4
  vin : ∀ a ∈ q.atoms, ∀ v ∈ a.vars, 0 ≤ v ∧ v < q.n
  vlen : ∀ a ∈ q.atoms, 1 ≤ a.vars.length ∧ a.vars.length ≤ 5
  lk : ∀ a ∈ q.atoms, lkB d a.rel = true
  ar : ∀ a ∈ q.atoms, (lkR d a.rel).ar = a.vars.length
  all : ∀ j : Int, 0 ≤ j → j < q.n → j ∈ varsIn q.atoms
theorem qf_of {d : PDb} {q : PQuery} (h : qryFor d q = true) : Qf d q := by
  simp only [qryFor, Bool.and_eq_true, List.all_eq_true, decide_eq_true_eq] at h
  obtain ⟨⟨h1, h2⟩, h3⟩ := h
  have h0 := h1
  simp only [queryOk, Bool.and_eq_true, inR, decide_eq_true_eq, List.all_eq_true] at h1
  obtain ⟨⟨⟨⟨hn, ha⟩, ho⟩, hat⟩, hu⟩ := h1
  refine ⟨h0, h2, hn, by omega, fun a hm v hv => ?_, fun a hm => ?_, fun a hm => (h3 a hm).1, fun a hm => (h3 a hm).2, fun j hj0 hj => ?_⟩
  · have := hat a hm
    simp only [atomOk, Bool.and_eq_true, List.all_eq_true] at this
    have := this.2 v hv
    rw [wrap64_of (by omega) (by omega)] at this
    simp only [inR, Bool.and_eq_true, decide_eq_true_eq] at this
    omega
  · have := hat a hm
    simp only [atomOk, Bool.and_eq_true, inR, decide_eq_true_eq] at this
    omega
  · simp only [usesAll, List.all_eq_true, List.mem_range, List.contains_iff_mem] at hu
    have := hu j.toNat (by omega)
    rwa [Int.toNat_of_nonneg hj0] at this
theorem lk_rows {d : PDb} {nm : List UInt8} (h : lkB d nm = true) : (lkR d nm).rows.length ≤ 16 := by
  obtain ⟨A, B, sp⟩ := lk_split h
  have := sp.tab (lk_db h)
  simp only [tabOk, Bool.and_eq_true, decide_eq_true_eq] at this
  exact this.2
theorem rel_rows {d : PDb} {q : PQuery} (f : Qf d q) {a : PAtom} (ha : a ∈ q.atoms) : ∀ t ∈ (lkR d a.rel).rows, t.length = a.vars.length ∧ ∀ y ∈ t, y ≠ -1 := fun t ht => by
  have hr := lk_ok (f.lk a ha)
  obtain ⟨h1, h2⟩ := rowsOk_mem hr ht
  refine ⟨by have := f.ar a ha; omega, fun y hy e => ?_⟩
  simp only [valsOk, List.all_eq_true] at h2
  have := h2 y hy
  subst e
  simp [inR] at this
theorem rangeI_mem {n : Nat} {x : Int} : x ∈ rangeI n ↔ 0 ≤ x ∧ x < n := by
  simp only [rangeI, List.mem_map, List.mem_range]
  constructor
  · rintro ⟨k, hk, rfl⟩; omega
  · rintro ⟨h0, h1⟩; exact ⟨x.toNat, by omega, by omega⟩
theorem rangeI_len (n : Nat) : (rangeI n).length = n := by simp [rangeI]
theorem rangeI_map {n : Nat} {z : List Int} (h : z.length = n) : (rangeI n).map (fun v => z.getD v.toNat 0) = z := by
  refine List.ext_getElem (by simp [rangeI_len, h]) fun i h1 h2 => ?_
  simp only [rangeI, List.map_map, List.getElem_map, List.getElem_range, Function.comp_apply, Int.toNat_natCast]
  exact getD_el _ h2
theorem binds_jn {d : PDb} {q : PQuery} (f : Qf d q) : Jn d q.atoms (binds d q.atoms) := by
  have := Jn.all q.atoms [] ([], [[]]) (Jn.zero d) fun a ha v hv => by have := f.vin a ha v hv; have := f.n5; omega
  simpa [binds] using this
theorem binds_vars {d : PDb} {q : PQuery} (f : Qf d q) : (binds d q.atoms).1 = rangeI q.n.toNat := by
  have j := binds_jn f
  refine pw_ext j.pw (rangeI_pw _) fun x => ?_
  rw [j.mem, rangeI_mem]
  constructor
  · intro h
    simp only [varsIn, List.mem_flatMap] at h
    obtain ⟨a, ha, hx⟩ := h
    have := f.vin a ha x hx; omega
  · rintro ⟨h0, h1⟩; exact f.all x h0 (by omega)
theorem binds_mem {d : PDb} {q : PQuery} (f : Qf d q) (z : List Int) : z ∈ (binds d q.atoms).2 ↔ z.length = q.n.toNat ∧ ∀ a ∈ q.atoms, pickR a.vars z ∈ (lkR d a.rel).rows := by
  have j := binds_jn f
  have hv := binds_vars f
  have key : z.length = q.n.toNat → (z ∈ (binds d q.atoms).2 ↔ ∀ a ∈ q.atoms, pickR a.vars z ∈ (lkR d a.rel).rows) := fun hl => by
    have := j.iff fun v => z.getD v.toNat 0
    rw [hv, rangeI_map hl] at this
    exact this
  constructor
  · intro h
    have hl : z.length = q.n.toNat := by rw [j.len z h, hv, rangeI_len]
    exact ⟨hl, (key hl).1 h⟩
  · rintro ⟨hl, h⟩; exact (key hl).2 h
theorem walk_mem {d : PDb} {q : PQuery} (f : Qf d q) (z : List Int) : z ∈ walkL d q.atoms (List.replicate q.n.toNat (-1)) ↔ z.length = q.n.toNat ∧ ∀ a ∈ q.atoms, pickR a.vars z ∈ (lkR d a.rel).rows := by
  rw [walk_iff d q.atoms _ z fun a ha => ⟨fun v hv => by have := f.vin a ha v hv; simp only [List.length_replicate]; omega, rel_rows f ha⟩]
  simp only [List.length_replicate]
  constructor
  · exact fun h => ⟨h.1, h.2.1⟩
  · rintro ⟨hl, h⟩
    have out : ∀ j : Nat, q.n.toNat ≤ j → z.getD j 0 = (List.replicate q.n.toNat (-1)).getD j 0 := fun j hj => by
      simp [List.getD, List.getElem?_eq_none (show z.length ≤ j by omega), List.getElem?_eq_none (show (List.replicate q.n.toNat (-1 : Int)).length ≤ j by simpa using hj)]
    refine ⟨hl, h, fun j hj => out j ?_, fun j hj => out j ?_⟩
    · refine Nat.le_of_not_lt fun hlt => hj (f.all j (by omega) (by omega))
    · refine Nat.le_of_not_lt fun hlt => hj ?_
      rw [getD_el _ (by simpa using hlt)]
      simp
theorem newB_srt (n : Int) (l : List (List Int)) : newB n l = rowsOk n (srtU l) := by
  cases h : rowsOk n (srtU l)
  · simp [newB, h]
  · simp only [newB, h, Bool.and_true, List.all_eq_true, Bool.and_eq_true, decide_eq_true_eq]
    exact fun x hx => rowsOk_mem h ((srtU_mem l x).2 hx)
/-- the join and the walk find the same bindings -/
theorem ab_bd (d : PDb) (q : PQuery) : abP d q = bdP d q := by
  cases hq : qryFor d q
  · simp [abP, bdP, bdB, hq]
  have f := qf_of hq
  have e : srtU (walkL d q.atoms (List.replicate q.n.toNat (-1))) = srtU (binds d q.atoms).2 := srt_ext (srtU_srt _) (srtU_srt _) fun z => by
    rw [srtU_mem, srtU_mem, walk_mem f, binds_mem f]
  simp only [abP, bdP, bdB, hq, Bool.true_and, if_true, newR, newB_srt, e]
theorem ab_ar (d : PDb) (q : PQuery) : (qryFor d q && decide ((abP d q).ar = q.n)) = bdB d q := by
  rw [ab_bd]
  cases hq : qryFor d q
  · simp [bdB, hq]
  have f := qf_of hq
  simp only [bdP, bdB, hq, Bool.true_and]
  cases h : rowsOk q.n (srtU (binds d q.atoms).2)
  · have := f.n5
    simp; omega
  · simp
/-! sizes -/
theorem join_size {u a b : List Int} {rows list : List (List Int)} : (joinL u a rows b list).length ≤ rows.length * list.length := by
  simp only [joinL]
  induction rows with
  | nil => simp
  | cons r rs ih =>
    rw [List.flatMap_cons, List.length_append, List.length_cons, Nat.add_mul, Nat.one_mul]
    have := List.length_filterMap_le (fun s => glO u a r b s) list
    omega
theorem abR_size {d : PDb} {q : PQuery} (f : Qf d q) {a : PAtom} (ha : a ∈ q.atoms) : (abR d a).length ≤ 16 := by
  have h1 := srtU_len (abL a.vars (lkR d a.rel).rows)
  have h2 := List.length_filter_le (fitR a.vars) (lkR d a.rel).rows
  have h3 := lk_rows (f.lk a ha)
  simp only [abR]
  simp only [abL, List.length_map] at h1
  simp only [abL]
  omega
theorem binds_snoc (d : PDb) (l : List PAtom) (a : PAtom) : binds d (l ++ [a]) = joinS d (binds d l) a := by simp [binds]
theorem binds_size {d : PDb} {q : PQuery} (f : Qf d q) : ∀ i, i ≤ q.atoms.length → (binds d (q.atoms.take i)).2.length ≤ 16 ^ i
  | 0, _ => by simp [binds]
  | i + 1, hi => by
    have ih := binds_size f i (by omega)
    rw [List.take_succ_eq_append_getElem (by omega), binds_snoc]
    show (joinL _ _ (binds d (q.atoms.take i)).2 _ (abR d q.atoms[i])).length ≤ _
    refine Nat.le_trans join_size ?_
    rw [Nat.pow_succ]
    exact Nat.mul_le_mul ih (abR_size f (List.getElem_mem _))
theorem binds_le {d : PDb} {q : PQuery} (f : Qf d q) {i : Nat} (hi : i ≤ q.atoms.length) : (binds d (q.atoms.take i)).2.length ≤ 65536 := by
  refine Nat.le_trans (binds_size f i hi) ?_
  have : 16 ^ i ≤ 16 ^ 4 := Nat.pow_le_pow_right (by omega) (by have := f.a4; omega)
  simpa using this
theorem walk_size {d : PDb} : ∀ (as : List PAtom) (x : List Int), (∀ a ∈ as, (lkR d a.rel).rows.length ≤ 16) → (walkL d as x).length ≤ 16 ^ as.length
  | [], x, _ => by simp [walkL]
  | a :: as, x, h => by
    have ha := h a (by simp)
    rw [walkL]
    have key : ∀ rows : List (List Int), (rows.flatMap fun t => match asgO x (a.vars.zip t) with
        | none => []
        | some x => walkL d as x).length ≤ rows.length * 16 ^ as.length := fun rows => by
      induction rows with
      | nil => simp
      | cons t ts ih =>
        rw [List.flatMap_cons, List.length_append, List.length_cons, Nat.add_mul, Nat.one_mul]
        have : (match asgO x (a.vars.zip t) with
          | none => []
          | some x => walkL d as x).length ≤ 16 ^ as.length := by
          split
          · simp
          · exact walk_size as _ fun b hb => h b (List.mem_cons_of_mem _ hb)
        omega
    refine Nat.le_trans (key _) ?_
    rw [List.length_cons, Nat.pow_succ, Nat.mul_comm (16 ^ as.length)]
    exact Nat.mul_le_mul_right _ ha
/-! views -/
def nvB (d : PDb) (q : PQuery) : Bool := bdB d q && projB (cntOf (bdP d q)) q.out
def nvR (d : PDb) (q : PQuery) : PCnt := if nvB d q then projP (cntOf (bdP d q)) q.out else ⟨0, [], []⟩
def nvP (d : PDb) (q : PQuery) : PView := if nvB d q then ⟨q, nvR d q⟩ else ⟨⟨0, [], []⟩, ⟨0, [], []⟩⟩
end Go.Vs

namespace Go.Vs
def fitJ (vs row : List Int) (j : Nat) : Bool := (List.range j).all fun i => decide (lookV vs row (vs.getD i 0) = row.getD i 0)
theorem fitJ_zero (vs row : List Int) : fitJ vs row 0 = true := rfl
theorem fitJ_succ (vs row : List Int) (j : Nat) : fitJ vs row (j + 1) = (fitJ vs row j && decide (lookV vs row (vs.getD j 0) = row.getD j 0)) := by
  simp only [fitJ, List.range_succ, List.all_append, List.all_cons, List.all_nil, Bool.and_true]
theorem fitJ_all {vs row : List Int} (h : row.length = vs.length) : fitJ vs row vs.length = fitR vs row := by
  have : fitJ vs row vs.length = true ↔ fitR vs row = true := by
    simp only [fitJ, List.all_eq_true, List.mem_range, decide_eq_true_eq, fitR]
    constructor
    · intro hh
      refine List.ext_getElem (by simp [h]) fun i h1 h2 => ?_
      have := hh i (by omega)
      rw [getD_el _ (by omega), getD_el _ h2] at this
      rw [List.getElem_map]; exact this
    · intro hh i hi
      have : (vs.map (lookV vs row))[i]'(by simpa using hi) = row[i]'(by omega) := by congr 1
      rw [getD_el _ hi, getD_el _ (by omega)]
      rw [List.getElem_map] at this; exact this
  cases h1 : fitJ vs row vs.length <;> cases h2 : fitR vs row <;> simp_all
def valJ (vs row : List Int) (j : Nat) : List Int := ((vs.take j).zip (row.take j)).foldl (fun val p => val.set p.1.toNat p.2) (List.replicate 5 0)
theorem valJ_zero (vs row : List Int) : valJ vs row 0 = List.replicate 5 0 := by simp [valJ]
theorem valJ_succ {vs row : List Int} {j : Nat} (h1 : j < vs.length) (h2 : j < row.length) : valJ vs row (j + 1) = (valJ vs row j).set vs[j].toNat row[j] := by
  rw [valJ, List.take_succ_eq_append_getElem h1, List.take_succ_eq_append_getElem h2, List.zip_append (by simp; omega), List.foldl_append]
  rfl
theorem valJ_len (vs row : List Int) (j : Nat) : (valJ vs row j).length = 5 := by
  rw [valJ]
  generalize (vs.take j).zip (row.take j) = l
  have : ∀ (l : List (Int × Int)) (v : List Int), (l.foldl (fun val p => val.set p.1.toNat p.2) v).length = v.length := fun l => by
    induction l with
    | nil => simp
    | cons p r ih => intro v; rw [List.foldl_cons, ih]; simp
  rw [this]; simp
theorem valJ_all {vs row : List Int} (h : row.length = vs.length) : valJ vs row vs.length = valL vs row := by
  rw [valJ, List.take_of_length_le (Nat.le_refl _), List.take_of_length_le (by omega)]; rfl
theorem abL_succ {vs : List Int} {rows : List (List Int)} {i : Nat} (h : i < rows.length) : abL vs (rows.take (i + 1)) = abL vs (rows.take i) ++ if fitR vs rows[i] then [pickR (aVars vs) (valL vs rows[i])] else [] := by
  rw [List.take_succ_eq_append_getElem h]
  simp only [abL, List.filter_append, List.map_append]
  cases hf : fitR vs rows[i] <;> simp [hf]
theorem abL_len (vs : List Int) (rows : List (List Int)) : (abL vs rows).length ≤ rows.length := by
  simp only [abL, List.length_map]; exact List.length_filter_le _ _
theorem abL_el {vs : List Int} {rows : List (List Int)} : ∀ x ∈ abL vs rows, x.length ≤ 5 := fun x hx => by
  simp only [abL, List.mem_map] at hx
  obtain ⟨row, _, rfl⟩ := hx
  rw [pickR_len]
  have := List.length_filter_le (fun v => vs.contains v) (rangeI 5)
  rw [rangeI_len] at this
  exact this
end Go.Vs

namespace Go.Vs
/-- a contract on blocks, as one on what is known by elements -/
theorem VC.plain {P : Program} {f : FuncId} {As : List V} {post : Nat → V → Prop} {v : V} (h : VC P f As post) (hq : ∀ n r, post n r → rp (fun _ => none) r = some v) (hv : rd (fun _ => none) (fun _ => none) v = some v) :
    VC P f As (fun _ r => r = v) := by
  refine ⟨h.1, fun w vals A hLR => ?_⟩
  refine (h.2 w vals A hLR).mono fun e w' he => ?_
  obtain ⟨v', r, rfl, hb, hvr, _, hp⟩ := he
  exact ⟨v', v, rfl, hb, VR.er _ _ _ hvr (hq _ _ hp), hv, rfl⟩
end Go.Vs

namespace Go.Vs
/-- a contract on all blocks that read as the given elements, as one on the elements -/
theorem VC.untrack {P : Program} {f : FuncId} {Ps As0 : List V} {post post0 : Nat → V → Prop} (h0 : VC P f As0 post0) (hv : pnVL Ps = true)
    (h : ∀ As, rpL (fun _ => none) As = some Ps → tkVL As = true → lnVL As → VC P f As post) : VC P f Ps post := by
  refine ⟨h0.1, fun w vals A hLR => ?_⟩
  obtain ⟨ys, h3, h4, h5, _⟩ := LR.track Ps vals hv hLR
  exact (h ys h4 h5 (LR.ln _ _ h3)).2 w vals A h3
theorem rp_args1 {As : List V} {a : V} (h : rpL (fun _ => none) As = some [a]) (ht : tkVL As = true) (hl : lnVL As) : ∃ x, As = [x] ∧ rp (fun _ => none) x = some a ∧ x.tk = true ∧ x.ln := by
  match As, h, ht, hl with
  | [], h, _, _ => simp [rpL] at h
  | x :: r, h, ht, hl =>
    simp only [rpL] at h
    cases hx : rp (fun _ => none) x with
    | none => simp [hx] at h
    | some y =>
      cases hs : rpL (fun _ => none) r with
      | none => simp [hx, hs] at h
      | some ys =>
        simp only [hx, hs, Option.some.injEq, List.cons.injEq] at h
        obtain ⟨rfl, rfl⟩ := h
        simp only [tkVL, Bool.and_eq_true] at ht
        cases r with
        | nil => exact ⟨x, rfl, hx, ht.1, hl.1⟩
        | cons z s =>
          simp only [rpL] at hs
          cases h1 : rp (fun _ => none) z <;> cases h2 : rpL (fun _ => none) s <;> simp [h1, h2] at hs
theorem rp_args2 {As : List V} {a b : V} (h : rpL (fun _ => none) As = some [a, b]) (ht : tkVL As = true) (hl : lnVL As) :
    ∃ x y, As = [x, y] ∧ (rp (fun _ => none) x = some a ∧ x.tk = true ∧ x.ln) ∧ rp (fun _ => none) y = some b ∧ y.tk = true ∧ y.ln := by
  match As, h, ht, hl with
  | [], h, _, _ => simp [rpL] at h
  | x :: r, h, ht, hl =>
    simp only [rpL] at h
    cases hx : rp (fun _ => none) x with
    | none => simp [hx] at h
    | some y =>
      cases hs : rpL (fun _ => none) r with
      | none => simp [hx, hs] at h
      | some ys =>
        simp only [hx, hs, Option.some.injEq, List.cons.injEq] at h
        obtain ⟨rfl, rfl⟩ := h
        simp only [tkVL, Bool.and_eq_true] at ht
        obtain ⟨z, rfl, h1, h2, h3⟩ := rp_args1 hs ht.2 hl.2
        exact ⟨x, z, rfl, ⟨hx, ht.1, hl.1⟩, h1, h2, h3⟩
theorem lnLL_mem {α : Type} {c : α → List D} {l : List α} (h : lnLL (l.map c)) : ∀ a ∈ l, lnL (c a) := by
  induction l with
  | nil => simp
  | cons x r ih =>
    simp only [List.map_cons, lnLL] at h
    intro a ha
    rcases List.mem_cons.1 ha with rfl | h'
    · exact h.1
    · exact ih h.2 a h'
theorem ok_ln {α : Type} {c : α → List D} {ok : α → Prop} (hc : ∀ a, lnL (c a) → ok a) {s : Sl α} (h : lnL (cS c s)) : okS ok s := by
  simp only [cS, dSl, lnL, D.ln, List.length_map] at h
  exact ⟨h.1.1, fun a ha => hc a (lnLL_mem h.1.2 a ha)⟩
theorem ok_lnI (n : Int) (_ : lnL (cI n)) : okI n := trivial
theorem okReln_ln {a : Reln} (h : lnL (cReln a)) : okReln a := by
  rw [cReln, lnL_app] at h
  exact ⟨trivial, ok_ln (fun _ => ok_ln ok_lnI) h.2⟩
theorem okCnt_ln {a : Cnt} (h : lnL (cCnt a)) : okCnt a := by
  rw [cCnt, lnL_app, lnL_app] at h
  exact ⟨trivial, ok_ln (fun _ => ok_ln ok_lnI) h.1.2, ok_ln ok_lnI h.2⟩
theorem pn_agg {l : List D} (h : pnL l = true) : pnVL [V.agg (l.map V.d)] = true := by
  have : ∀ l : List D, pnL l = true → pnVL (l.map V.d) = true := by
    intro l
    induction l with
    | nil => intro _; rfl
    | cons x r ih => intro h; simp only [pnL, Bool.and_eq_true] at h; simp only [List.map_cons, pnVL, V.pn, h.1, ih h.2, Bool.and_self]
  simp only [pnVL, V.pn, this l h, Bool.and_self]
theorem queryOk_a4 {q : PQuery} (h : queryOk q = true) : q.atoms.length ≤ 4 := by
  simp only [queryOk, Bool.and_eq_true, inR, decide_eq_true_eq] at h
  omega
end Go.Vs

namespace Go.Vs
theorem binds_jn_take {d : PDb} {q : PQuery} (f : Qf d q) (i : Nat) : Jn d (q.atoms.take i) (binds d (q.atoms.take i)) := by
  have := Jn.all (q.atoms.take i) [] ([], [[]]) (Jn.zero d) fun a ha v hv => by have := f.vin a (List.mem_of_mem_take ha) v hv; have := f.n5; omega
  simpa [binds] using this
theorem pw_len5 {l : List Int} (h : l.Pairwise (· < ·)) (hm : ∀ x ∈ l, 0 ≤ x ∧ x < 5) : l.length ≤ 5 := by
  have : l = (rangeI 5).filter fun v => l.contains v := by
    refine pw_ext h (List.Pairwise.filter _ (rangeI_pw 5)) fun x => ?_
    rw [List.mem_filter, rangeI_mem, List.contains_iff_mem]
    exact ⟨fun h => ⟨hm x h, h⟩, fun h => h.2⟩
  rw [this]
  have := List.length_filter_le (fun v => l.contains v) (rangeI 5)
  rw [rangeI_len] at this
  exact this
theorem jn_len5 {d : PDb} {q : PQuery} (f : Qf d q) {as : List PAtom} {p : List Int × List (List Int)} (h : Jn d as p) (hs : ∀ a ∈ as, a ∈ q.atoms) : p.1.length ≤ 5 := by
  refine pw_len5 h.pw fun x hx => ?_
  rw [h.mem] at hx
  simp only [varsIn, List.mem_flatMap] at hx
  obtain ⟨a, ha, hx⟩ := hx
  have := f.vin a (hs a ha) x hx; have := f.n5; omega
theorem binds_len5 {d : PDb} {q : PQuery} (f : Qf d q) (i : Nat) : (binds d (q.atoms.take i)).1.length ≤ 5 :=
  jn_len5 f (binds_jn_take f i) fun _ h => List.mem_of_mem_take h
theorem binds_succ (d : PDb) {l : List PAtom} {i : Nat} (h : i < l.length) : binds d (l.take (i + 1)) = joinS d (binds d (l.take i)) l[i] := by
  rw [List.take_succ_eq_append_getElem h, binds_snoc]
theorem aVars_len5 (vs : List Int) : (aVars vs).length ≤ 5 := by
  have := List.length_filter_le (fun v => vs.contains v) (rangeI 5)
  rw [rangeI_len] at this
  exact this
/-- the partial list of the inner loops -/
def jnI (u a : List Int) (rows : List (List Int)) (b : List Int) (list : List (List Int)) (k : Nat) (j : Nat) : List (List Int) :=
  joinL u a (rows.take k) b list ++ (list.take j).filterMap fun s => glO u a (rows.getD k []) b s
theorem jnI_zero (u a : List Int) (rows : List (List Int)) (b : List Int) (list : List (List Int)) (k : Nat) : jnI u a rows b list k 0 = joinL u a (rows.take k) b list := by simp [jnI]
theorem jnI_all {u a : List Int} {rows : List (List Int)} {b : List Int} {list : List (List Int)} {k : Nat} (h : k < rows.length) : jnI u a rows b list k list.length = joinL u a (rows.take (k + 1)) b list := by
  rw [jnI, List.take_of_length_le (Nat.le_refl _), List.take_succ_eq_append_getElem h, joinL, joinL, List.flatMap_append]
  simp [List.getElem?_eq_getElem h]
theorem jnI_succ {u a : List Int} {rows : List (List Int)} {b : List Int} {list : List (List Int)} {k j : Nat} (h : j < list.length) :
    jnI u a rows b list k (j + 1) = jnI u a rows b list k j ++ if glB u a (rows.getD k []) b list[j] then [glR u a (rows.getD k []) b list[j]] else [] := by
  rw [jnI, jnI, List.take_succ_eq_append_getElem h, List.filterMap_append, List.append_assoc]
  congr 1
  cases hg : glB u a (rows.getD k []) b list[j] <;> simp only [List.getD_eq_getElem?_getD] at hg <;> simp [glO, hg]
theorem jnI_len {u a : List Int} {rows : List (List Int)} {b : List Int} {list : List (List Int)} {k j : Nat} (hk : k ≤ 65536) (hl : list.length ≤ 16) : (jnI u a rows b list k j).length ≤ 65536 * 16 + 16 := by
  have h1 := join_size (u := u) (a := a) (rows := rows.take k) (b := b) (list := list)
  have h2 := List.length_filterMap_le (fun s => glO u a (rows.getD k []) b s) (list.take j)
  have h3 : (rows.take k).length * list.length ≤ 65536 * 16 := Nat.mul_le_mul (by rw [List.length_take]; omega) hl
  rw [jnI, List.length_append]
  rw [List.length_take] at h2
  omega
theorem joinL_nil (u a b : List Int) (list : List (List Int)) : joinL u a [] b list = [] := rfl
end Go.Vs
