/-
  A4: a part of a proof of this seat: the value-level semantics of Go code without maps, its walk rules, the frame of a row, facts of types, schedules, walks, plain lemmas (Pl11 Pl12 Pl13 Pl14 Pl15 Pl18 Pl19 Pl20). It holds of every program and state that its hypotheses name.
-/
import Derived.Test.YtmifoeaifdmgkaaA3
set_option linter.unusedSimpArgs false
set_option linter.unusedVariables false
set_option linter.unnecessarySimpa false
namespace Go.Vs
theorem sttl_fst {α β : Type} (f : α → β) : ∀ (l : List α) (cs : List Int), ((sttl l cs).map Prod.fst).map f = (sttl (l.map f) cs).map Prod.fst
  | [], cs => by simp [sttl]
  | _ :: _, [] => by simp [sttl]
  | a :: l, c :: cs => by
    have := sttl_fst f l cs
    simp only [sttl] at this
    by_cases h : c = 0 <;> simp [sttl, h] <;> simpa using this
theorem sttl_snd {α β : Type} (f : α → β) : ∀ (l : List α) (cs : List Int), (sttl l cs).map Prod.snd = (sttl (l.map f) cs).map Prod.snd
  | [], cs => by simp [sttl]
  | _ :: _, [] => by simp [sttl]
  | a :: l, c :: cs => by
    have := sttl_snd f l cs
    simp only [sttl] at this
    by_cases h : c = 0 <;> simp [sttl, h] <;> simpa using this
theorem sttl_sub {α : Type} : ∀ (l : List α) (cs : List Int), ((sttl l cs).map Prod.fst).Sublist l
  | [], cs => by simp [sttl]
  | _ :: _, [] => by simp [sttl]
  | a :: l, c :: cs => by
    have := sttl_sub l cs
    simp only [sttl] at this
    by_cases h : c = 0
    · simp only [sttl, List.zip_cons_cons, List.filter_cons, h]; simp; exact this.cons a
    · simp only [sttl, List.zip_cons_cons, List.filter_cons, h]; simp [h]; exact this
theorem ids_sub {α : Type} {c : α → List D} {l l' : List α} (h : l'.Sublist l) : (idsLL (l'.map c)).Sublist (idsLL (l.map c)) := by
  induction h with
  | slnil => simp
  | cons a _ ih => simp only [List.map_cons, idsLL]; exact ih.trans (List.sublist_append_right _ _)
  | cons_cons a _ ih => simp only [List.map_cons, idsLL]; exact (List.Sublist.refl _).append ih
theorem good_Cnt2 {B : Nat} {ar : Int} {rows : List Ints} {g1 g2 : Option Nat} {T1 T2 : TypeId × Nat} {cs : List Int}
    (hnd : (idsLL (rows.map (cS cI))).Nodup) (hlo : ∀ g ∈ idsLL (rows.map (cS cI)), B ≤ g) (hwh : ∀ r ∈ rows, whS whI r)
    (q1 : ∀ g, g1 = some g → B ≤ g ∧ g ∉ idsLL (rows.map (cS cI))) (e1 : rows ≠ [] → g1 ≠ none)
    (q2 : ∀ g, g2 = some g → B ≤ g ∧ g ∉ idsLL (rows.map (cS cI))) (e2 : cs ≠ [] → g2 ≠ none) (hne : ∀ g, g1 = some g → g2 = some g → False) :
    Good (cCnt ⟨ar, ⟨g1, some T1, rows⟩, ⟨g2, some T2, cs⟩⟩) (whCnt ⟨ar, ⟨g1, some T1, rows⟩, ⟨g2, some T2, cs⟩⟩) B := by
  refine good_Cnt (good_row (fun g h => (q1 g h).1) e1 (fun g h => (q1 g h).2) ⟨hnd, hlo⟩ hwh) (Nat.le_refl _) (fun g h => (q2 g h).1) e2 fun g h hm => ?_
  rcases mem_sl_ids.1 hm with hm | hm
  · exact hne g hm h
  · exact (q2 g h).2 hm
theorem tally_good {B B' n1 : Nat} {ar : Int} {rid cid : Option Nat} {rT cT : Option (TypeId × Nat)} {l : List Ints} {cs cs' : List Int} {w : Ints} {k : Nat} {g1 g2 : Option Nat} {T1 T2 : TypeId × Nat}
    (hB' : B' ≤ B) (G : Good (cCnt ⟨ar, ⟨rid, rT, l⟩, ⟨cid, cT, cs⟩⟩) (whCnt ⟨ar, ⟨rid, rT, l⟩, ⟨cid, cT, cs⟩⟩) B') (hlt : ∀ g ∈ idsL (cCnt ⟨ar, ⟨rid, rT, l⟩, ⟨cid, cT, cs⟩⟩), g < B) (hn1 : B ≤ n1) (Gw : Good (cS cI w) (whS whI w) n1)
    (q1 : ∀ g, g1 = some g → B ≤ g) (r1 : ∀ g, g1 = some g → g ∉ idsLL ((l.take k ++ w :: l.drop k).map (cS cI))) (e1 : g1 ≠ none)
    (q2 : ∀ g, g2 = some g → B ≤ g) (r2 : ∀ g, g2 = some g → g ∉ idsLL ((l.take k ++ w :: l.drop k).map (cS cI))) (e2 : g2 ≠ none) (hne : ∀ g, g1 = some g → g2 = some g → False) :
    Good (cCnt ⟨ar, ⟨g1, some T1, l.take k ++ w :: l.drop k⟩, ⟨g2, some T2, cs'⟩⟩) (whCnt ⟨ar, ⟨g1, some T1, l.take k ++ w :: l.drop k⟩, ⟨g2, some T2, cs'⟩⟩) B' := by
  have hsub : ∀ g ∈ idsLL (l.map (cS cI)), g ∈ idsL (cCnt ⟨ar, ⟨rid, rT, l⟩, ⟨cid, cT, cs⟩⟩) := fun g hg => by
    rw [cCnt, idsL_app, idsL_app, idsL_cS, idsL_cS]
    have : g ∈ (dSl (cS cI) ⟨rid, rT, l⟩).ids := mem_sl_ids.2 (.inr hg)
    simp [this]
  have hnd : (idsLL (l.map (cS cI))).Nodup := by
    have := G.nd
    rw [cCnt, idsL_app, idsL_app, idsL_cS, idsL_cS] at this
    exact (sl_nd (List.nodup_append.1 (List.nodup_append.1 this).1).2.1).1
  have hp : (idsLL ((l.take k ++ w :: l.drop k).map (cS cI))).Perm (idsL (cS cI w) ++ idsLL (l.map (cS cI))) := by
    have e : idsLL (l.map (cS cI)) = idsLL ((l.take k).map (cS cI)) ++ idsLL ((l.drop k).map (cS cI)) := by
      rw [← idsLL_append, ← List.map_append, List.take_append_drop]
    rw [e, List.map_append, idsLL_append, List.map_cons]
    simp only [idsLL]
    exact List.perm_append_comm_assoc _ _ _
  refine good_Cnt2 (hp.nodup_iff.2 (List.nodup_append.2 ⟨Gw.nd, hnd, fun a ha b hb hab => ?_⟩)) (fun g hg => ?_) (fun r hr => ?_) (fun g h => ⟨Nat.le_trans hB' (q1 g h), r1 g h⟩) (fun _ => e1) (fun g h => ⟨Nat.le_trans hB' (q2 g h), r2 g h⟩) (fun _ => e2) hne
  · subst hab
    have h1 := Gw.lo a ha
    have h2 := hlt a (hsub a hb)
    omega
  · rcases List.mem_append.1 (hp.mem_iff.1 hg) with h | h
    · have := Gw.lo g h; omega
    · exact G.lo g (hsub g h)
  · rcases List.mem_append.1 hr with h | h
    · exact G.wh.2.1.2 r (List.mem_of_mem_take h)
    · rcases List.mem_cons.1 h with h | h
      · subst h; exact Gw.wh
      · exact G.wh.2.1.2 r (List.mem_of_mem_drop h)
theorem talC_snoc : ∀ (r : List (List Int)) (s : List Int) (l : List (List Int)) (cs : List Int) (x : List Int) (n : Int), s.length = r.length →
    talC l cs (r ++ [x]) (s ++ [n]) = insC (r.foldl insR l) (talC l cs r s) x n
  | [], [], l, cs, x, n, _ => rfl
  | [], _ :: _, _, _, _, _, h => by simp at h
  | _ :: _, [], _, _, _, _, h => by simp at h
  | y :: r, m :: s, l, cs, x, n, h => by
    simp only [List.cons_append, talC, List.foldl_cons]
    exact talC_snoc r s _ _ x n (by simpa using h)
/-- the counts while the rows of b are added one by one -/
theorem tal_bd {l r2 : List (List Int)} {cs c2 : List Int} {M : Int} (hM : 0 ≤ M) (hs : Srt l) (h : cs.length = l.length) (h2 : c2.length = r2.length) (h3 : ∀ c ∈ cs, -M ≤ c ∧ c ≤ M) (h4 : ∀ c ∈ c2, -M ≤ c ∧ c ≤ M) :
    ∀ c ∈ talC l cs r2 c2, -((l.length + r2.length : Int) * M) ≤ c ∧ c ≤ (l.length + r2.length : Int) * M := by
  intro c hc
  obtain ⟨e1, e2⟩ := talC_spec r2 c2 l cs h h2
  have e3 := look_all (fold_srt r2 l hs).1 e1
  rw [e3] at hc
  obtain ⟨y, _, rfl⟩ := List.mem_map.1 hc
  rw [e2]
  have b1 := lkC_bound hM y (l := l) (cs := cs) h3
  have b2 := lkC_bound hM y (l := r2) (cs := c2) h4
  rw [Int.add_mul]
  omega
/-- all rows before place i of b are added -/
structure TalI (a b : PCnt) (B : Nat) (p : Nat × Cnt) (h : Nat) : Prop where
  le : p.1 ≤ b.rows.length
  ar : p.2.ar = a.ar
  rows : (plCnt p.2).rows = (b.rows.take p.1).foldl insR a.rows
  cs : (plCnt p.2).cs = talC a.rows a.cs (b.rows.take p.1) (b.cs.take p.1)
  ok : okCnt p.2
  good : Good (cCnt p.2) (whCnt p.2) B
  hi : ∀ g ∈ idsL (cCnt p.2), g < h
theorem TalI.bd {a b : PCnt} {B h : Nat} {p : Nat × Cnt} (t : TalI a b B p h) (hs : Srt a.rows) (ha : a.cs.length = a.rows.length) (hb : b.cs.length = b.rows.length) (h1 : a.rows.length ≤ 4000) (h2 : b.rows.length ≤ 4000)
    (h3 : ∀ c ∈ a.cs, -1000000 ≤ c ∧ c ≤ 1000000) (h4 : ∀ c ∈ b.cs, -1000000 ≤ c ∧ c ≤ 1000000) :
    p.2.rows.xs.length ≤ 8000 ∧ p.2.cs.xs.length = p.2.rows.xs.length ∧ ∀ v ∈ p.2.cs.xs, -1000000000000 ≤ v ∧ v ≤ 1000000000000 := by
  have hl : (b.cs.take p.1).length = (b.rows.take p.1).length := by simp [hb]
  have e1 := (fold_srt (b.rows.take p.1) a.rows hs).2.2
  have e2 := (talC_spec (b.rows.take p.1) (b.cs.take p.1) a.rows a.cs ha hl).1
  rw [← t.rows] at e1 e2
  rw [← t.cs] at e2
  have e3 : (b.rows.take p.1).length ≤ 4000 := by rw [List.length_take]; omega
  have f1 : (plCnt p.2).rows.length = p.2.rows.xs.length := by simp [plCnt, plS]
  have f2 : (plCnt p.2).cs = p.2.cs.xs := by simp [plCnt, plS, map_plI]
  rw [f2] at e2
  refine ⟨by omega, by omega, fun v hv => ?_⟩
  have hv' : v ∈ talC a.rows a.cs (b.rows.take p.1) (b.cs.take p.1) := by rw [← t.cs, f2]; exact hv
  have := tal_bd (M := 1000000) (by omega) hs ha hl h3 (fun c hc => h4 c (List.mem_of_mem_take hc)) v hv'
  omega
theorem TalI.step {a b : PCnt} {B h m h' i : Nat} {y z : Cnt} (t : TalI a b B (i, y) h) (hb : b.cs.length = b.rows.length) (hi : i < b.rows.length) (hi2 : i < b.cs.length) (e : plCnt z = ⟨y.ar, insR (plCnt y).rows b.rows[i], insC (plCnt y).rows y.cs.xs b.rows[i] b.cs[i]⟩)
    (hok : okCnt z) (hBm : B ≤ m) (hm : h ≤ m) (G : ∀ B', B' ≤ m → Good (cCnt y) (whCnt y) B' → (∀ g ∈ idsL (cCnt y), g < m) → Good (cCnt z) (whCnt z) B') (hh : ∀ g ∈ idsL (cCnt z), g < h') : TalI a b B (i + 1, z) h' := by
  have er : (plCnt z).rows = insR (plCnt y).rows b.rows[i] := by rw [e]
  have ec : (plCnt z).cs = insC (plCnt y).rows (plCnt y).cs b.rows[i] b.cs[i] := by rw [e]; simp [plCnt, plS, map_plI]
  have ea : z.ar = y.ar := by have := congrArg PCnt.ar e; exact this
  refine ⟨hi, by rw [ea]; exact t.ar, ?_, ?_, hok, G B hBm t.good fun g hg => Nat.lt_of_lt_of_le (t.hi g hg) hm, hh⟩
  · rw [er, t.rows]
    simp only
    rw [List.take_succ_eq_append_getElem hi, List.foldl_append]; rfl
  · rw [ec, t.rows, t.cs]
    simp only
    rw [List.take_succ_eq_append_getElem hi, List.take_succ_eq_append_getElem hi2, talC_snoc _ _ _ _ _ _ (by simp [hb])]
/-- all rows are added -/
theorem TalI.fin {a b : PCnt} {B h i : Nat} {y : Cnt} (t : TalI a b B (i, y) h) (hi : b.rows.length ≤ i) (hs : Srt a.rows) (ha : a.cs.length = a.rows.length) (hb : b.cs.length = b.rows.length) :
    (plCnt y).rows = srtU (a.rows ++ b.rows) ∧ (plCnt y).cs = sumsOf (a.rows ++ b.rows) (a.cs ++ b.cs) := by
  obtain ⟨e1, e2⟩ := tal_sums hs ha hb
  have h1 := t.rows
  have h2 := t.cs
  simp only at h1 h2
  rw [List.take_of_length_le hi] at h1 h2
  rw [List.take_of_length_le (by omega)] at h2
  exact ⟨h1.trans e1, h2.trans e2⟩
theorem wp_cnt {c : PCnt} (h : cntsOk c = true) : wpTCnt c ≤ 24000 := by
  have h1 := wp_rows (cntsOk_rows h)
  have h2 := rowsOk_len (cntsOk_rows h)
  have h3 := cntsOk_len h
  simp only [wpTCnt, wpS_I]; omega
theorem wp_addCP (a b : PCnt) : wpTCnt (addCP a b) ≤ 24000 := by
  simp only [addCP]
  split
  · rename_i h
    simp only [addCB, sumB, Bool.and_eq_true] at h
    exact wp_cnt h.2.2
  · simp [wpTCnt, wpS]
theorem wp_projP (a : PCnt) (c : List Int) : wpTCnt (projP a c) ≤ 24000 := by
  simp only [projP]
  split
  · rename_i h
    simp only [projB, sumB, Bool.and_eq_true] at h
    exact wp_cnt h.2.2
  · simp [wpTCnt, wpS]
end Go.Vs

namespace Go.Vs
/-- a region with several orders: they meet again in what is known of the slots -/
theorem cutT {P : Program} {E : Md} {ops : Array Oper} {tr : Tr} {K : St → Prop} {B hs0 : Nat} {W : List Nat} {t0 : Nat → V} {m0 : Nat → Option Blk} {X : Type} (Inv : X → Nat → Prop) (S : X → List (Nat × V)) (M : X → List (Nat × Option Blk))
    (h1 : ∀ K' : St → Prop, (∀ x s, Inv x s.hs → s.B = B → s.W = W → hs0 ≤ s.hs → (∀ p ∈ S x, s.t p.1 = p.2) → (∀ p ∈ M x, s.m p.1 = p.2) → K' s) → vtr P E ops K' tr ⟨B, hs0, W, t0, m0⟩)
    (h2 : ∀ x hs t m, Inv x hs → hs0 ≤ hs → K ⟨B, hs, W, updL t (S x), updL m (M x)⟩) : vtr P E ops K tr ⟨B, hs0, W, t0, m0⟩ := by
  refine h1 K ?_
  rintro x ⟨B', hs', W', t', m'⟩ a1 a2 a3 a4 a5 a6
  simp only at a1 a2 a3 a4 a5 a6
  subst a2 a3
  have := h2 x hs' t' m' a1 a4
  rwa [updL_has a5, updL_has a6] at this
end Go.Vs

namespace Go.Vs
theorem eqt_bad {α : Type} {a b : List α} {i : Nat} (h1 : i < a.length) (h2 : i < b.length) (h : a[i] ≠ b[i]) : a ≠ b := by rintro rfl; exact h rfl
theorem eqt_step {α : Type} {a b : List α} {i : Nat} (hi : a.take i = b.take i) (h1 : i < a.length) (h2 : i < b.length) (h : a[i] = b[i]) : a.take (i + 1) = b.take (i + 1) := by
  rw [List.take_succ_eq_append_getElem h1, List.take_succ_eq_append_getElem h2, hi, h]
theorem eqt_done {α : Type} {a b : List α} {i : Nat} (hi : a.take i = b.take i) (h : a.length ≤ i) (hl : a.length = b.length) : a = b := by
  rwa [List.take_of_length_le h, List.take_of_length_le (by omega)] at hi
theorem eqt_len {α : Type} {a b : List α} (h : a.length ≠ b.length) : a ≠ b := by rintro rfl; exact h rfl
/-- the first i elements are the same -/
structure EqTo {α : Type} (a b : List α) (i : Nat) : Prop where
  le : i ≤ a.length
  eq : a.take i = b.take i
theorem EqTo.zero {α : Type} {a b : List α} : EqTo a b 0 := ⟨by omega, by simp⟩
end Go.Vs

namespace Go.Vs
/-- a number in digits -/
def decN (n : Nat) : List UInt8 := if n < 10 then [UInt8.ofNat (48 + n)] else decN (n / 10) ++ [UInt8.ofNat (48 + n % 10)]
termination_by n
decreasing_by omega
def decZ (n : Int) : List UInt8 := if n < 0 then 45 :: decN n.natAbs else decN n.natAbs
theorem decN_lt {n : Nat} (h : n < 10) : decN n = [UInt8.ofNat (48 + n)] := by rw [decN, if_pos h]
theorem decN_ge {n : Nat} (h : ¬ n < 10) : decN n = decN (n / 10) ++ [UInt8.ofNat (48 + n % 10)] := by rw [decN, if_neg h]
theorem decN_len : ∀ (k n : Nat), n < 10 ^ (k + 1) → (decN n).length ≤ k + 1
  | 0, n, h => by rw [decN_lt (by simpa using h)]; simp
  | k + 1, n, h => by
    by_cases h1 : n < 10
    · rw [decN_lt h1]; simp
    · rw [decN_ge h1, List.length_append]
      have := decN_len k (n / 10) (by rw [Nat.pow_succ] at h; omega)
      simp; omega
theorem decN_len20 {n : Nat} (h : n ≤ 9223372036854775808) : (decN n).length ≤ 20 := decN_len 19 n (by omega)
theorem decZ_len {n : Int} (h : -9223372036854775808 ≤ n ∧ n ≤ 9223372036854775807) : (decZ n).length ≤ 21 := by
  have := decN_len20 (n := n.natAbs) (by omega)
  unfold decZ; split <;> simp <;> omega
theorem u8_digit (d : Nat) (h : d < 10) : cU8 (UInt8.ofNat (48 + d)) = [.int .u8 (48 + d : Int)] := by
  have : (UInt8.ofNat (48 + d)).toNat = 48 + d := by simp; omega
  show [D.int .u8 (((UInt8.ofNat (48 + d)).toNat : Nat) : Int)] = _
  rw [this]; simp
/-- the name of a variable -/
def varNm (v : Int) : List UInt8 := if inR v 0 4 then ([88, 89, 90, 85, 86].drop v.toNat).take 1 else []
theorem varNm_len (v : Int) : (varNm v).length ≤ 1 := by
  unfold varNm; split
  · rw [List.length_take]; omega
  · simp
def varsS (l : List Int) : List UInt8 := l.flatMap varNm
theorem varsS_len (l : List Int) : (varsS l).length ≤ l.length := by
  induction l with
  | nil => simp [varsS]
  | cons a r ih => simp only [varsS, List.flatMap_cons, List.length_append, List.length_cons] at ih ⊢; have := varNm_len a; omega
theorem varsS_step {l : List Int} {i : Nat} (h : i < l.length) : varsS (l.take (i + 1)) = varsS (l.take i) ++ varNm l[i] := by
  unfold varsS
  rw [List.take_succ_eq_append_getElem h, List.flatMap_append]
  simp only [List.flatMap_cons, List.flatMap_nil, List.append_nil]
def joinB (sep : List UInt8) : List (List UInt8) → List UInt8
  | [] => []
  | x :: r => x ++ r.flatMap fun y => sep ++ y
theorem joinB_snoc {sep x : List UInt8} {l : List (List UInt8)} : joinB sep (l ++ [x]) = joinB sep l ++ (if l = [] then [] else sep) ++ x := by
  cases l with
  | nil => simp [joinB]
  | cons a r => simp [joinB]
theorem joinB_step {sep : List UInt8} {l : List (List UInt8)} {i : Nat} (h : i < l.length) : joinB sep (l.take (i + 1)) = joinB sep (l.take i) ++ (if i = 0 then [] else sep) ++ l[i] := by
  rw [List.take_succ_eq_append_getElem h, joinB_snoc]
  have : l.take i = [] ↔ i = 0 := by
    constructor
    · intro e
      have := congrArg List.length e
      rw [List.length_take, List.length_nil] at this; omega
    · rintro rfl; simp
  simp only [this]
/-- all pieces and as many separators -/
def strW (s : Nat) : List (List UInt8) → Nat
  | [] => 0
  | x :: r => x.length + s + strW s r
theorem joinB_len (sep : List UInt8) : ∀ l : List (List UInt8), (joinB sep l).length ≤ strW sep.length l
  | [] => by simp [joinB, strW]
  | x :: r => by
    have : ∀ r : List (List UInt8), (r.flatMap fun y => sep ++ y).length ≤ strW sep.length r := fun r => by
      induction r with
      | nil => simp [strW]
      | cons a r ih => simp only [List.flatMap_cons, List.length_append, strW] at ih ⊢; omega
    have := this r
    simp only [joinB, strW, List.length_append]; omega
theorem strW_take (s : Nat) : ∀ (l : List (List UInt8)) (i : Nat), strW s (l.take i) ≤ strW s l
  | [], i => by simp [strW]
  | x :: r, 0 => by simp [strW]
  | x :: r, i + 1 => by have := strW_take s r i; simp only [List.take_succ_cons, strW]; omega
theorem strW_at {s : Nat} : ∀ {l : List (List UInt8)} {i : Nat} (h : i < l.length), strW s (l.take i) + l[i].length + s ≤ strW s l
  | [], i, h => by simp at h
  | x :: r, 0, _ => by simp [strW]
  | x :: r, i + 1, h => by have := strW_at (s := s) (l := r) (i := i) (by simpa using h); simp only [List.take_succ_cons, strW, List.getElem_cons_succ]; omega
def fmtItem (b : List Int) (p : Int) : List UInt8 := [40] ++ varsS b ++ [41] ++ (if 0 ≤ p then decZ p else [])
def fmtIts (d : PDec) : List (List UInt8) := d.bags.zipWith fmtItem d.par
def fmtDec (d : PDec) : List UInt8 := if d.bags.length = d.par.length then joinB [32] (fmtIts d) else []
def inZ (n : Int) : Prop := -9223372036854775808 ≤ n ∧ n ≤ 9223372036854775807
theorem fmtItem_len (b : List Int) {p : Int} (h : inZ p) : (fmtItem b p).length ≤ b.length + 23 := by
  have h1 := varsS_len b
  have h2 := decZ_len h
  unfold fmtItem
  simp only [List.length_append]
  split <;> simp <;> omega
/-- the bags' lengths, and some bytes for each bag -/
def bagsW : List (List Int) → Nat
  | [] => 0
  | b :: r => b.length + 30 + bagsW r
theorem fmtIts_W : ∀ (bs : List (List Int)) (ps : List Int), (∀ p ∈ ps, inZ p) → strW 1 (bs.zipWith fmtItem ps) ≤ bagsW bs
  | [], _, _ => by simp [strW, bagsW]
  | b :: r, [], _ => by simp [strW]
  | b :: r, p :: s, h => by
    have := fmtIts_W r s fun q hq => h q (by simp [hq])
    have := fmtItem_len b (h p (by simp))
    simp only [List.zipWith_cons_cons, strW, bagsW]; omega
theorem fmtIts_len (d : PDec) (h : d.bags.length = d.par.length) : (fmtIts d).length = d.bags.length := by simp [fmtIts, h]
theorem bagsW_le : ∀ (l : List (List Int)), bagsW l ≤ 30 * (l.length + (l.map List.length).sum)
  | [] => by simp [bagsW]
  | b :: r => by have := bagsW_le r; simp only [bagsW, List.length_cons, List.map_cons, List.sum_cons]; omega
theorem bagsW_sw (s : Sl Ints) : bagsW (plS (plS plI) s) ≤ 30 * swS (swS swI) s := by
  obtain ⟨id, T, xs⟩ := s
  simp only [plS, swS]
  induction xs with
  | nil => simp [bagsW]
  | cons a r ih =>
    have e : (plS plI a).length = a.xs.length := by simp [plS]
    simp only [List.map_cons, bagsW, List.length_cons, sumW_cons, swS] at ih ⊢
    omega
/-- the place in a walk over the bags -/
structure FmtI (bs : List (List Int)) (ps : List Int) (i : Nat) : Prop where
  le : i ≤ bs.length
  eq : 0 < i → bs.length = ps.length
end Go.Vs

namespace Go.Vs
def lowB (b : UInt8) : Bool := decide (97 ≤ b.toNat ∧ b.toNat ≤ 122)
theorem lowB_lo {b : UInt8} (h : (b.toNat : Int) < 97) : lowB b = false := by simp only [lowB, decide_eq_false_iff_not]; omega
theorem lowB_hi {b : UInt8} (h : (122 : Int) < (b.toNat : Int)) : lowB b = false := by simp only [lowB, decide_eq_false_iff_not]; omega
theorem lowB_ok {b : UInt8} (h : ¬ (b.toNat : Int) < 97) (h' : ¬ (122 : Int) < (b.toNat : Int)) : lowB b = true := by simp only [lowB, decide_eq_true_eq]; omega
def nameOk (s : List UInt8) : Bool := decide (1 ≤ s.length ∧ s.length ≤ 4) && s.all lowB
theorem nameOk_bad {s : List UInt8} (h : s.all lowB = false) : nameOk s = false := by rw [nameOk, h, Bool.and_false]
theorem nameOk_len {s : List UInt8} (h : ¬ (1 ≤ s.length ∧ s.length ≤ 4)) : nameOk s = false := by rw [nameOk, decide_eq_false h, Bool.false_and]
theorem nameOk_ok {s : List UInt8} (h : s.all lowB = true) : nameOk s = decide (1 ≤ s.length ∧ s.length ≤ 4) := by rw [nameOk, h, Bool.and_true]
def setOf (l : List Int) (n : Int) : Bool := l.all (fun x => inR x 0 (IntKind.i64.wrap (n - 1))) && decide l.Nodup
def atomOk (n : Int) (a : PAtom) : Bool := nameOk a.rel && inR a.vars.length 1 5 && a.vars.all fun x => inR x 0 (IntKind.i64.wrap (n - 1))
def varsIn (l : List PAtom) : List Int := l.flatMap PAtom.vars
def usesAll (n : Int) (l : List PAtom) : Bool := (List.range n.toNat).all fun (v : Nat) => (varsIn l).contains (v : Int)
def queryOk (q : PQuery) : Bool := inR q.n 1 5 && inR q.atoms.length 1 4 && setOf q.out q.n && q.atoms.all (atomOk q.n) && usesAll q.n q.atoms
theorem nodup_len : ∀ (n : Nat) (l : List Int), l.Nodup → (∀ x ∈ l, 0 ≤ x ∧ x < n) → l.length ≤ n
  | 0, l, _, h => by
    cases l with
    | nil => simp
    | cons a r => have := h a (by simp); omega
  | n + 1, l, hn, h => by
    have h1 := nodup_len n (l.erase (n : Int)) (hn.erase _) fun x hx => by
      have h2 := h x (List.mem_of_mem_erase hx)
      have h3 := (hn.mem_erase_iff.1 hx).1
      omega
    rw [List.length_erase] at h1
    split at h1 <;> omega
theorem setOf_len {l : List Int} {n : Int} (hn : 1 ≤ n ∧ n ≤ 5) (h : setOf l n = true) : (l.length : Int) ≤ n := by
  simp only [setOf, Bool.and_eq_true, List.all_eq_true, decide_eq_true_eq] at h
  obtain ⟨m, rfl⟩ : ∃ m : Nat, n = (m : Int) := ⟨n.toNat, by omega⟩
  have := nodup_len m l h.2 fun x hx => by
    have := h.1 x hx
    rw [wrap64_of (by omega) (by omega)] at this
    simp only [inR, Bool.and_eq_true, decide_eq_true_eq] at this
    omega
  omega
/-- the place of an element -/
def idxL (l : List Int) (v : Int) : Int := if v ∈ l then ((l.takeWhile fun x => !(x == v)).length : Int) else -1
theorem idxL_at {l : List Int} {v : Int} {i : Nat} (h : AllTo (fun x => !(x == v)) l i) (hi : i < l.length) (e : l[i] = v) : idxL l v = i := by
  have hm : v ∈ l := e ▸ List.getElem_mem hi
  rw [idxL, if_pos hm, takeWhile_at h (by omega) (fun _ => by simp [e])]
theorem idxL_no {l : List Int} {v : Int} (h : (l.all fun x => !(x == v)) = true) : v ∉ l ∧ idxL l v = -1 := by
  have hm : v ∉ l := fun hm => by
    have := (List.all_eq_true.1 h) v hm
    simp at this
  exact ⟨hm, by rw [idxL, if_neg hm]⟩
theorem idxL_ge (l : List Int) (v : Int) : decide (0 ≤ idxL l v) = l.contains v := by
  by_cases h : v ∈ l
  · simp [idxL, h]
  · simp [idxL, h]
/-- the first i elements have the property; no earlier one is the same -/
structure SetTo (l : List Int) (n : Int) (i : Nat) : Prop where
  le : i ≤ l.length
  all : ∀ x ∈ l.take i, inR x 0 (IntKind.i64.wrap (n - 1)) = true
  nd : (l.take i).Nodup
theorem SetTo.zero {l : List Int} {n : Int} : SetTo l n 0 := ⟨by omega, by simp, by simp⟩
theorem SetTo.step {l : List Int} {n : Int} {i : Nat} (h : SetTo l n i) (hi : i < l.length) (h1 : inR l[i] 0 (IntKind.i64.wrap (n - 1)) = true) (h2 : l[i] ∉ l.take i) : SetTo l n (i + 1) := by
  refine ⟨hi, fun x hx => ?_, ?_⟩
  · rw [List.take_succ_eq_append_getElem hi] at hx
    rcases List.mem_append.1 hx with h' | h'
    · exact h.all x h'
    · simp only [List.mem_singleton] at h'; rw [h']; exact h1
  · rw [List.take_succ_eq_append_getElem hi]
    exact List.nodup_append.2 ⟨h.nd, by simp, fun a ha b hb e => by simp only [List.mem_singleton] at hb; subst hb; subst e; exact h2 ha⟩
theorem SetTo.done {l : List Int} {n : Int} {i : Nat} (h : SetTo l n i) (hi : l.length ≤ i) : setOf l n = true := by
  have h1 := h.all; have h2 := h.nd
  rw [List.take_of_length_le hi] at h1 h2
  simp only [setOf, Bool.and_eq_true, List.all_eq_true, decide_eq_true_eq]
  exact ⟨h1, h2⟩
theorem setOf_bad1 {l : List Int} {n : Int} {i : Nat} (hi : i < l.length) (h1 : inR l[i] 0 (IntKind.i64.wrap (n - 1)) = false) : setOf l n = false := by
  have : l.all (fun x => inR x 0 (IntKind.i64.wrap (n - 1))) = false := all_bad (p := fun x => inR x 0 (IntKind.i64.wrap (n - 1))) hi h1
  simp only [setOf, this, Bool.false_and]
theorem setOf_bad2 {l : List Int} {n : Int} {i : Nat} (hi : i < l.length) (h2 : l[i] ∈ l.take i) : setOf l n = false := by
  have : ¬ l.Nodup := fun hn => by
    have e : l = l.take i ++ l[i] :: l.drop (i + 1) := by rw [← List.drop_eq_getElem_cons hi, List.take_append_drop]
    rw [e] at hn
    exact (List.nodup_append.1 hn).2.2 _ h2 _ (List.mem_cons.2 (.inl rfl)) rfl
  simp only [setOf, this, decide_false, Bool.and_false]
/-- the atoms before place i are right; so are the variables before place k of the atom at i -/
structure AtI (n : Int) (l : List PAtom) (i : Nat) : Prop where
  le : i ≤ l.length
  ok : AllTo (atomOk n) l i
theorem AtI.zero {n : Int} {l : List PAtom} : AtI n l 0 := ⟨by omega, allTo_zero⟩
structure AtK (n : Int) (l : List Int) (k : Nat) : Prop where
  le : k ≤ l.length
  ok : AllTo (fun x => inR x 0 (IntKind.i64.wrap (n - 1))) l k
theorem AtK.zero {n : Int} {l : List Int} : AtK n l 0 := ⟨by omega, allTo_zero⟩
theorem AtK.step {n : Int} {l : List Int} {k : Nat} (h : AtK n l k) (hk : k < l.length) (e : inR l[k] 0 (IntKind.i64.wrap (n - 1)) = true) : AtK n l (k + 1) := ⟨hk, allTo_step h.ok hk e⟩
theorem atomOk_bad {n : Int} {a : PAtom} {k : Nat} (hk : k < a.vars.length) (e : inR a.vars[k] 0 (IntKind.i64.wrap (n - 1)) = false) : atomOk n a = false := by
  have : a.vars.all (fun x => inR x 0 (IntKind.i64.wrap (n - 1))) = false := all_bad (p := fun x => inR x 0 (IntKind.i64.wrap (n - 1))) hk e
  simp only [atomOk, this, Bool.and_false]
theorem atomOk_done {n : Int} {a : PAtom} {k : Nat} (h : AtK n a.vars k) (hk : a.vars.length ≤ k) (h1 : nameOk a.rel = true) (h2 : inR a.vars.length 1 5 = true) : atomOk n a = true := by
  have := allTo_done h.ok hk
  simp only [atomOk, h1, h2, this]; rfl
theorem AtI.step {n : Int} {l : List PAtom} {i : Nat} (h : AtI n l i) (hi : i < l.length) (e : atomOk n l[i] = true) : AtI n l (i + 1) := ⟨hi, allTo_step h.ok hi e⟩
theorem queryOk_n {q : PQuery} (h : inR q.n 1 5 = false) : queryOk q = false := by simp only [queryOk, h, Bool.false_and]
theorem queryOk_a {q : PQuery} (h : inR q.atoms.length 1 4 = false) : queryOk q = false := by simp only [queryOk, h, Bool.false_and, Bool.and_false]
theorem queryOk_o {q : PQuery} (h : setOf q.out q.n = false) : queryOk q = false := by simp only [queryOk, h, Bool.false_and, Bool.and_false]
theorem queryOk_at {q : PQuery} {i : Nat} (hi : i < q.atoms.length) (h : atomOk q.n q.atoms[i] = false) : queryOk q = false := by
  have : q.atoms.all (atomOk q.n) = false := all_bad hi h
  simp only [queryOk, this, Bool.false_and, Bool.and_false]
theorem queryOk_u {q : PQuery} (h : usesAll q.n q.atoms = false) : queryOk q = false := by simp only [queryOk, h, Bool.and_false]
theorem queryOk_all {q : PQuery} (h1 : inR q.n 1 5 = true) (h2 : inR q.atoms.length 1 4 = true) (h3 : setOf q.out q.n = true) (h4 : q.atoms.all (atomOk q.n) = true) (h5 : usesAll q.n q.atoms = true) : queryOk q = true := by
  simp only [queryOk, h1, h2, h3, h4, h5]; rfl
/-- one of the first i atoms has the variable -/
def hasTo (l : List PAtom) (v : Int) (i : Nat) : Bool := (l.take i).any fun a => a.vars.contains v
theorem hasTo_zero (l : List PAtom) (v : Int) : hasTo l v 0 = false := by simp [hasTo]
theorem hasTo_step {l : List PAtom} {v : Int} {i : Nat} (hi : i < l.length) : hasTo l v (i + 1) = (hasTo l v i || l[i].vars.contains v) := by
  rw [hasTo, List.take_succ_eq_append_getElem hi, List.any_append]; simp [hasTo]
theorem hasTo_all {l : List PAtom} {v : Int} {i : Nat} (hi : l.length ≤ i) : hasTo l v i = (varsIn l).contains v := by
  rw [hasTo, List.take_of_length_le hi, Bool.eq_iff_iff]
  simp [varsIn]
structure UsTo (n : Int) (l : List PAtom) (v : Nat) : Prop where
  le : v ≤ n.toNat
  ok : AllTo (fun (v : Nat) => (varsIn l).contains (v : Int)) (List.range n.toNat) v
theorem UsTo.zero {n : Int} {l : List PAtom} : UsTo n l 0 := ⟨by omega, allTo_zero⟩
theorem UsTo.step {n : Int} {l : List PAtom} {v : Nat} (h : UsTo n l v) (hv : v < n.toNat) (e : (varsIn l).contains (v : Int) = true) : UsTo n l (v + 1) :=
  ⟨hv, allTo_step h.ok (by simpa using hv) (by simpa using e)⟩
theorem usesAll_bad {n : Int} {l : List PAtom} {v : Nat} (hv : v < n.toNat) (e : (varsIn l).contains (v : Int) = false) : usesAll n l = false :=
  all_bad (p := fun (v : Nat) => (varsIn l).contains (v : Int)) (l := List.range n.toNat) (i := v) (by simpa using hv) (by simpa using e)
theorem UsTo.done {n : Int} {l : List PAtom} {v : Nat} (h : UsTo n l v) (hv : n.toNat ≤ v) : usesAll n l = true := allTo_done h.ok (by simpa using hv)
/-- which numbers below n are among these -/
def usedL (n : Nat) (vs : List Int) : List Bool := (List.range n).map fun (j : Nat) => vs.contains (j : Int)
@[simp] theorem usedL_length (n : Nat) (vs : List Int) : (usedL n vs).length = n := by simp [usedL]
theorem usedL_nil (n : Nat) : usedL n [] = List.replicate n false := by
  apply List.ext_getElem (by simp)
  intro i h1 h2; simp [usedL]
theorem usedL_snoc {n k : Nat} {vs : List Int} (h : k < n) : (usedL n vs).set k true = usedL n (vs ++ [(k : Int)]) := by
  apply List.ext_getElem (by simp)
  intro i h1 h2
  simp only [List.length_set, usedL_length] at h1
  rw [List.getElem_set]
  simp only [usedL, List.getElem_map, List.getElem_range]
  by_cases e : k = i
  · subst e; simp
  · have : ¬ ((i : Int) = (k : Int)) := by omega
    simp [e, this]
theorem usesAll_iff {n : Int} {l : List PAtom} : usesAll n l = (usedL n.toNat (varsIn l)).all id := by
  simp only [usesAll, usedL, List.all_map]; rfl
def rangeI (n : Nat) : List Int := (List.range n).map fun (k : Nat) => (k : Int)
@[simp] theorem rangeI_length (n : Nat) : (rangeI n).length = n := by simp [rangeI]
theorem rangeI_succ (n : Nat) : rangeI (n + 1) = rangeI n ++ [(n : Int)] := by simp [rangeI, List.range_succ]
theorem rangeI_zero : rangeI 0 = [] := rfl
def defOrd (q : PQuery) : List Int := if queryOk q then rangeI q.n.toNat else []
def sbd (q : PQuery) : PDec := if queryOk q then ⟨[rangeI q.n.toNat], [-1]⟩ else ⟨[], []⟩
theorem queryOk_n5 {q : PQuery} (h : queryOk q = true) : 1 ≤ q.n ∧ q.n ≤ 5 := by
  cases h1 : inR q.n 1 5
  · rw [queryOk_n h1] at h; cases h
  · simpa [inR] using h1
theorem okQuery_strs {q : Query} (h : okQuery q) : ∀ a ∈ (plQuery q).atoms, a.rel.length ≤ maxLen := fun a ha => by
  simp only [plQuery, plS, List.mem_map] at ha
  obtain ⟨b, hb, rfl⟩ := ha
  exact (h.2.1.2 b hb).1
structure OrdI (q : PQuery) (i : Nat) : Prop where
  le : (i : Int) ≤ max 0 q.n
  ok : 0 < i → queryOk q = true
theorem good_Dec0 (B : Nat) : Good (cDec ⟨nilS, nilS⟩) (whDec ⟨nilS, nilS⟩) B :=
  ⟨by simp [cDec, nilS, cS, dSl, idsL, D.ids, idsLL], by simp [cDec, nilS, cS, dSl, idsL, D.ids, idsLL], ⟨⟨⟨by simp [nilS], by simp [nilS]⟩, by simp [nilS]⟩, ⟨⟨by simp [nilS], by simp [nilS]⟩, by simp [nilS]⟩⟩⟩
theorem good_nilI (B : Nat) : Good (cS cI (nilS : Ints)) (whS whI (nilS : Ints)) B :=
  ⟨by simp [nilS, cS, dSl, idsL, D.ids, idsLL], by simp [nilS, cS, dSl, idsL, D.ids, idsLL], ⟨⟨by simp [nilS], by simp [nilS]⟩, by simp [nilS]⟩⟩
theorem good_Dec2 {B : Nat} {bags : List Ints} {par : List Int} {g1 g2 : Option Nat} {T1 T2 : TypeId × Nat}
    (hnd : (idsLL (bags.map (cS cI))).Nodup) (hlo : ∀ g ∈ idsLL (bags.map (cS cI)), B ≤ g) (hwh : ∀ r ∈ bags, whS whI r)
    (q1 : ∀ g, g1 = some g → B ≤ g ∧ g ∉ idsLL (bags.map (cS cI))) (e1 : bags ≠ [] → g1 ≠ none)
    (q2 : ∀ g, g2 = some g → B ≤ g ∧ g ∉ idsLL (bags.map (cS cI))) (e2 : par ≠ [] → g2 ≠ none) (hne : ∀ g, g1 = some g → g2 = some g → False) :
    Good (cDec ⟨⟨g1, some T1, bags⟩, ⟨g2, some T2, par⟩⟩) (whDec ⟨⟨g1, some T1, bags⟩, ⟨g2, some T2, par⟩⟩) B := by
  have K1 : Good (cS (cS cI) ⟨g1, some T1, bags⟩) (whS (whS whI) ⟨g1, some T1, bags⟩) B := good_row (fun g h => (q1 g h).1) e1 (fun g h => (q1 g h).2) ⟨hnd, hlo⟩ hwh
  have K2 : Good (cS cI ⟨g2, some T2, par⟩) (whS whI ⟨g2, some T2, par⟩) B := good_row (fun g h => (q2 g h).1) e2 (by simp) ⟨by simp, by simp⟩ (by simp [whI])
  have := Good.app K1 K2 fun g h h' => by
    rw [idsL_cS] at h h'
    have h' := (mem_sl_ids.1 h').resolve_right (by simp)
    rcases mem_sl_ids.1 h with h | h
    · exact hne g h h'
    · exact (q2 g h').2 h
  exact this
theorem wp_sbd (q : PQuery) : wpTDec (sbd q) ≤ 20 := by
  simp only [sbd]
  split
  · rename_i h
    have h5 := queryOk_n5 h
    have h1 := wpS_le (w := wpS wpI) (k := 5) (l := [rangeI q.n.toNat]) fun a ha => by
      simp only [List.mem_singleton] at ha; subst ha; rw [wpS_I, rangeI_length]; omega
    simp only [List.length_singleton] at h1
    simp only [wpTDec, wpS_I, List.length_singleton]; omega
  · simp [wpTDec, wpS]
end Go.Vs

namespace Go.Vs
/-! ### trees by parents -/
def nxP (ps : List Int) (k : Int) : Int := ps.getD k.toNat 0
def upI (ps : List Int) : Nat → Int → Option Int
  | 0, a => some a
  | m + 1, a => if a < 0 then some a else if inR (nxP ps a) (-1) (ps.length - 1) then upI ps m (nxP ps a) else none
def endNeg : Option Int → Bool
  | some a => decide (a < 0)
  | none => false
def treeAt (ps : List Int) (i : Nat) : Bool := inR (nxP ps i) (-1) (ps.length - 1) && endNeg (upI ps (ps.length + 1) i)
def rootsN (ps : List Int) : Nat := (ps.filter fun p => decide (p < 0)).length
def treeB (ps : List Int) : Bool := (List.range ps.length).all (treeAt ps) && decide (rootsN ps = 1)
def pathS (ps : List Int) : Nat → Int → List Int
  | 0, _ => []
  | m + 1, k => if inR k 0 (ps.length - 1) then k :: pathS ps m (nxP ps k) else []
def oneR (ps : List Int) : Nat := (ps.filter fun p => p == -1).length
def rootS (ps : List Int) : Int := if oneR ps = 1 then (ps.findIdx fun p => p == -1 : Nat) else -1
def lastZ (l : List Int) : Int := l.getD (l.length - 1) 0
def pathOk (ps : List Int) (i : Nat) : Bool := decide ((pathS ps (ps.length + 1) i).length ≤ ps.length) && decide (lastZ (pathS ps (ps.length + 1) i) = rootS ps)
def treeS (ps : List Int) : Bool := decide (0 ≤ rootS ps) && (List.range ps.length).all (pathOk ps)
section
variable {ps : List Int}
theorem path_yes {m : Nat} {k : Int} (h : inR k 0 (ps.length - 1) = true) : pathS ps (m + 1) k = k :: pathS ps m (nxP ps k) := by
  show (if inR k 0 (ps.length - 1) then k :: pathS ps m (nxP ps k) else []) = _
  rw [if_pos h]
theorem path_out {m : Nat} {k : Int} (h : ¬ inR k 0 (ps.length - 1) = true) : pathS ps m k = [] := by
  cases m with
  | zero => rfl
  | succ m =>
    show (if inR k 0 (ps.length - 1) then k :: pathS ps m (nxP ps k) else []) = _
    rw [if_neg h]
theorem inR_neg {k n : Int} (h : k < 0) : ¬ inR k 0 n = true := by simp only [inR, Bool.and_eq_true, decide_eq_true_eq]; omega
theorem upI_neg {m : Nat} {a : Int} (h : a < 0) : upI ps m a = some a := by
  cases m with
  | zero => rfl
  | succ m => rw [upI, if_pos h]
theorem upI_pos {m : Nat} {a b : Int} (ha : 0 ≤ a) (h : upI ps (m + 1) a = some b) : inR (nxP ps a) (-1) (ps.length - 1) = true ∧ upI ps m (nxP ps a) = some b := by
  rw [upI, if_neg (by omega)] at h
  split at h
  · rename_i h1; exact ⟨h1, h⟩
  · cases h
/-- more steps do not matter -/
theorem up_more : ∀ {m : Nat} {a b : Int}, b < 0 → upI ps m a = some b → upI ps (m + 1) a = some b ∧ pathS ps (m + 1) a = pathS ps m a
  | 0, a, b, hb, h => by
    simp only [upI, Option.some.injEq] at h
    subst h
    exact ⟨upI_neg hb, by rw [path_out (inR_neg hb), path_out (inR_neg hb)]⟩
  | m + 1, a, b, hb, h => by
    by_cases ha : a < 0
    · rw [upI_neg ha] at h
      refine ⟨by rw [upI_neg ha]; exact h, ?_⟩
      rw [path_out (inR_neg ha), path_out (inR_neg ha)]
    · obtain ⟨h1, h2⟩ := upI_pos (by omega) h
      obtain ⟨h3, h4⟩ := up_more hb h2
      refine ⟨by rw [upI, if_neg ha, if_pos h1]; exact h3, ?_⟩
      by_cases hin : inR a 0 (ps.length - 1) = true
      · rw [path_yes hin, path_yes hin, h4]
      · rw [path_out hin, path_out hin]
theorem up_le {a b : Int} (hb : b < 0) {m : Nat} (h : upI ps m a = some b) : ∀ k, upI ps (m + k) a = some b ∧ pathS ps (m + k) a = pathS ps m a
  | 0 => ⟨h, rfl⟩
  | k + 1 => by
    obtain ⟨h1, h2⟩ := up_le hb h k
    obtain ⟨h3, h4⟩ := up_more hb h1
    exact ⟨h3, h4.trans h2⟩
theorem path_in : ∀ (m : Nat) (a : Int), ∀ x ∈ pathS ps m a, 0 ≤ x ∧ x < ps.length
  | 0, a, x, hx => by simp [pathS] at hx
  | m + 1, a, x, hx => by
    by_cases h : inR a 0 (ps.length - 1) = true
    · rw [path_yes h] at hx
      simp only [inR, Bool.and_eq_true, decide_eq_true_eq] at h
      rcases List.mem_cons.1 hx with h' | h'
      · omega
      · exact path_in m _ x h'
    · rw [path_out h] at hx; simp at hx
theorem path_tail : ∀ {m : Nat} {a b : Int}, b < 0 → 0 ≤ a → a < ps.length → upI ps m a = some b → ∀ x ∈ (pathS ps m a).tail, ∃ m', upI ps m' x = some b ∧ (pathS ps m' x).length < (pathS ps m a).length
  | 0, a, b, _, _, _, _, x, hx => by simp [pathS] at hx
  | m + 1, a, b, hb, ha, hl, h, x, hx => by
    have hin : inR a 0 (ps.length - 1) = true := by simp only [inR, Bool.and_eq_true, decide_eq_true_eq]; omega
    obtain ⟨h1, h2⟩ := upI_pos ha h
    rw [path_yes hin] at hx ⊢
    simp only [List.tail_cons] at hx
    cases m with
    | zero => simp [pathS] at hx
    | succ m =>
      by_cases hq : inR (nxP ps a) 0 (ps.length - 1) = true
      · have hq' := hq
        simp only [inR, Bool.and_eq_true, decide_eq_true_eq] at hq'
        rw [path_yes hq] at hx
        rcases List.mem_cons.1 hx with h' | h'
        · subst h'; exact ⟨m + 1, h2, by simp⟩
        · have := path_tail hb hq'.1 (by omega) h2 x (by rw [path_yes hq]; exact h')
          obtain ⟨m', e1, e2⟩ := this
          exact ⟨m', e1, by simp only [List.length_cons]; omega⟩
      · rw [path_out hq] at hx; simp at hx
theorem path_nd : ∀ {m : Nat} {a b : Int}, b < 0 → 0 ≤ a → a < ps.length → upI ps m a = some b → (pathS ps m a).Nodup
  | 0, a, b, _, _, _, _ => by simp [pathS]
  | m + 1, a, b, hb, ha, hl, h => by
    have hin : inR a 0 (ps.length - 1) = true := by simp only [inR, Bool.and_eq_true, decide_eq_true_eq]; omega
    have ht := path_tail hb ha hl h
    obtain ⟨h1, h2⟩ := upI_pos ha h
    have hu := up_le hb h
    have e : pathS ps (m + 1) a = a :: pathS ps m (nxP ps a) := path_yes hin
    rw [e, List.nodup_cons]
    refine ⟨fun hm => ?_, ?_⟩
    · obtain ⟨m', e1, e2⟩ := ht a (by rw [e]; exact hm)
      have hu' := up_le hb e1
      have a1 := (hu m').2
      have a2 := (hu' (m + 1)).2
      rw [Nat.add_comm] at a2
      rw [← a1, a2] at e2
      omega
    · by_cases hq : inR (nxP ps a) 0 (ps.length - 1) = true
      · simp only [inR, Bool.and_eq_true, decide_eq_true_eq] at hq
        exact path_nd hb hq.1 (by omega) h2
      · rw [path_out hq]; simp
theorem path_len {m : Nat} {a b : Int} (hb : b < 0) (ha : 0 ≤ a) (hl : a < ps.length) (h : upI ps m a = some b) : (pathS ps m a).length ≤ ps.length :=
  nodup_len ps.length _ (path_nd hb ha hl h) fun x hx => by have := path_in _ _ x hx; omega
theorem lastZ_cons {x : Int} {l : List Int} (h : l ≠ []) : lastZ (x :: l) = lastZ l := by
  cases l with
  | nil => exact absurd rfl h
  | cons y r => simp [lastZ]
/-- the last of the way has no parent -/
theorem path_last : ∀ {m : Nat} {a b : Int}, b < 0 → 0 ≤ a → a < ps.length → upI ps m a = some b → 0 < m ∧ pathS ps m a ≠ [] ∧ nxP ps (lastZ (pathS ps m a)) = -1 ∧ 0 ≤ lastZ (pathS ps m a) ∧ lastZ (pathS ps m a) < ps.length
  | 0, a, b, hb, ha, _, h => by simp only [upI, Option.some.injEq] at h; omega
  | m + 1, a, b, hb, ha, hl, h => by
    have hin : inR a 0 (ps.length - 1) = true := by simp only [inR, Bool.and_eq_true, decide_eq_true_eq]; omega
    obtain ⟨h1, h2⟩ := upI_pos ha h
    have e : pathS ps (m + 1) a = a :: pathS ps m (nxP ps a) := path_yes hin
    rw [e]
    refine ⟨by omega, by simp, ?_⟩
    simp only [inR, Bool.and_eq_true, decide_eq_true_eq] at h1
    by_cases hq : 0 ≤ nxP ps a
    · obtain ⟨_, e1, e2, e3, e4⟩ := path_last hb hq (by omega) h2
      rw [lastZ_cons e1]; exact ⟨e2, e3, e4⟩
    · have hnil : pathS ps m (nxP ps a) = [] := path_out (inR_neg (by omega))
      rw [hnil]
      simp only [lastZ, List.length_singleton, Nat.sub_self, List.getD_cons_zero]
      exact ⟨by omega, ha, hl⟩
theorem path_up : ∀ {m : Nat} {a : Int}, 0 ≤ a → a < ps.length → (pathS ps m a).length < m → nxP ps (lastZ (pathS ps m a)) = -1 → upI ps m a = some (-1)
  | 0, a, _, _, h, _ => by omega
  | m + 1, a, ha, hl, h, he => by
    have hin : inR a 0 (ps.length - 1) = true := by simp only [inR, Bool.and_eq_true, decide_eq_true_eq]; omega
    have e : pathS ps (m + 1) a = a :: pathS ps m (nxP ps a) := path_yes hin
    rw [e] at h he
    simp only [List.length_cons] at h
    rw [upI, if_neg (by omega)]
    by_cases hq : inR (nxP ps a) 0 (ps.length - 1) = true
    · simp only [inR, Bool.and_eq_true, decide_eq_true_eq] at hq
      have hne : pathS ps m (nxP ps a) ≠ [] := by
        cases m with
        | zero => omega
        | succ m => rw [path_yes (by simp only [inR, Bool.and_eq_true, decide_eq_true_eq]; omega)]; simp
      rw [lastZ_cons hne] at he
      rw [if_pos (by simp only [inR, Bool.and_eq_true, decide_eq_true_eq]; omega)]
      exact path_up hq.1 (by omega) (by omega) he
    · have hnil : pathS ps m (nxP ps a) = [] := path_out hq
      rw [hnil] at he
      simp only [lastZ, List.length_singleton, Nat.sub_self, List.getD_cons_zero] at he
      rw [he, if_pos (by simp only [inR, Bool.and_eq_true, decide_eq_true_eq]; omega)]
      exact upI_neg (by omega)
theorem nxP_at {i : Nat} (h : i < ps.length) : nxP ps i = ps[i] := by
  rw [nxP, Int.toNat_natCast, getD_el _ h]
theorem two_at {α : Type} {p : α → Bool} {l : List α} {i j : Nat} (hij : i < j) (hj : j < l.length) (h1 : p (l[i]'(by omega)) = true) (h2 : p l[j] = true) : 2 ≤ (l.filter p).length := by
  have e : l.filter p = (l.take (i + 1)).filter p ++ (l.drop (i + 1)).filter p := by rw [← List.filter_append, List.take_append_drop]
  have m1 : l[i]'(by omega) ∈ (l.take (i + 1)).filter p := List.mem_filter.2 ⟨by
    rw [List.take_succ_eq_append_getElem (by omega)]; exact List.mem_append.2 (.inr (List.mem_singleton.2 rfl)), h1⟩
  have m2 : l[j] ∈ (l.drop (i + 1)).filter p := List.mem_filter.2 ⟨by
    rw [List.mem_iff_getElem]
    exact ⟨j - (i + 1), by simp; omega, by simp only [List.getElem_drop]; congr 1; omega⟩, h2⟩
  have l1 := List.length_pos_of_mem m1
  have l2 := List.length_pos_of_mem m2
  rw [e, List.length_append]; omega
theorem one_uniq {i j : Nat} (h : oneR ps = 1) (hi : i < ps.length) (hj : j < ps.length) (e1 : ps[i] = -1) (e2 : ps[j] = -1) : i = j := by
  rcases Nat.lt_trichotomy i j with hc | hc | hc
  · have := two_at (p := fun p : Int => p == -1) hc hj (by simp [e1]) (by simp [e2])
    simp only [oneR] at h; omega
  · exact hc
  · have := two_at (p := fun p : Int => p == -1) hc hi (by simp [e2]) (by simp [e1])
    simp only [oneR] at h; omega
theorem root_at (h : oneR ps = 1) : ∃ r : Nat, rootS ps = (r : Int) ∧ ∃ hr : r < ps.length, ps[r] = -1 := by
  have hm : ∃ x ∈ ps, (x == (-1 : Int)) = true := by
    have : 0 < (ps.filter fun p => p == (-1 : Int)).length := by simp only [oneR] at h; omega
    obtain ⟨x, hx⟩ := List.exists_mem_of_length_pos this
    obtain ⟨h1, h2⟩ := List.mem_filter.1 hx
    exact ⟨x, h1, h2⟩
  have hl := List.findIdx_lt_length_of_exists hm
  refine ⟨ps.findIdx fun p => p == -1, by rw [rootS, if_pos h], hl, ?_⟩
  have := List.findIdx_getElem (w := hl)
  simpa using this
theorem endNeg_iff {o : Option Int} : endNeg o = true ↔ ∃ b, o = some b ∧ b < 0 := by
  cases o with
  | none => simp [endNeg]
  | some b => simp [endNeg]
/-- the two ways to tell a tree -/
theorem tree_eq (ps : List Int) : treeB ps = treeS ps := by
  rw [Bool.eq_iff_iff]
  simp only [treeB, treeS, Bool.and_eq_true, decide_eq_true_eq, List.all_eq_true, List.mem_range]
  constructor
  · rintro ⟨h1, h2⟩
    have hpar : ∀ i (h : i < ps.length), -1 ≤ ps[i] ∧ ps[i] ≤ ps.length - 1 := fun i h => by
      have := h1 i h
      simp only [treeAt, Bool.and_eq_true, nxP_at h] at this
      simpa [inR] using this.1
    have hone : oneR ps = 1 := by
      rw [← h2, oneR, rootsN]
      congr 1
      refine List.filter_congr fun x hx => ?_
      obtain ⟨i, hi, rfl⟩ := List.mem_iff_getElem.1 hx
      have := hpar i hi
      by_cases e : ps[i] = -1
      · simp [e]
      · simp [e]; omega
    obtain ⟨r, hr, hrl, hre⟩ := root_at hone
    refine ⟨by omega, fun i hi => ?_⟩
    have hi' := h1 i hi
    simp only [treeAt, Bool.and_eq_true] at hi'
    obtain ⟨b, hu, hb⟩ := endNeg_iff.1 hi'.2
    have hlen := path_len hb (by omega) (by omega) hu
    obtain ⟨_, _, e2, e3, e4⟩ := path_last hb (by omega) (by omega) hu
    simp only [pathOk, Bool.and_eq_true, decide_eq_true_eq]
    refine ⟨hlen, ?_⟩
    obtain ⟨l, hl⟩ : ∃ l : Nat, lastZ (pathS ps (ps.length + 1) i) = (l : Int) := ⟨(lastZ (pathS ps (ps.length + 1) i)).toNat, by omega⟩
    rw [hl] at e2 e4 ⊢
    have hll : l < ps.length := by omega
    rw [nxP_at hll] at e2
    rw [hr, one_uniq hone hll hrl e2 hre]
  · rintro ⟨h1, h2⟩
    have hone : oneR ps = 1 := by
      by_cases hc : oneR ps = 1
      · exact hc
      · rw [rootS, if_neg hc] at h1; omega
    obtain ⟨r, hr, hrl, hre⟩ := root_at hone
    have hu : ∀ i, i < ps.length → upI ps (ps.length + 1) i = some (-1) := fun i hi => by
      have := h2 i hi
      simp only [pathOk, Bool.and_eq_true, decide_eq_true_eq] at this
      refine path_up (by omega) (by omega) (by omega) ?_
      rw [this.2, hr, nxP_at hrl, hre]
    have hpar : ∀ i, i < ps.length → inR (nxP ps i) (-1) (ps.length - 1) = true := fun i hi => (upI_pos (by omega) (hu i hi)).1
    refine ⟨fun i hi => ?_, ?_⟩
    · simp only [treeAt, hpar i hi, hu i hi, endNeg]; decide
    · rw [← hone, oneR, rootsN]
      congr 1
      refine List.filter_congr fun x hx => ?_
      obtain ⟨i, hi, rfl⟩ := List.mem_iff_getElem.1 hx
      have := hpar i hi
      rw [nxP_at hi] at this
      simp only [inR, Bool.and_eq_true, decide_eq_true_eq] at this
      by_cases e : ps[i] = -1
      · simp [e]
      · simp [e]; omega
end
end Go.Vs

namespace Go.Vs
/-! ### decompositions -/
def ascAt (b : List Int) (i : Nat) : Bool := decide (i = 0) || decide (b.getD (i - 1) 0 < b.getD i 0)
def ascB (b : List Int) : Bool := (List.range b.length).all (ascAt b)
def bagI (n : Int) (b : List Int) : Bool := decide (0 < b.length) && ascB b && setOf b n
def bagAt (n : Int) (b : List Int) (i : Nat) : Bool := inR (b.getD i 0) 0 (IntKind.i64.wrap (n - 1)) && ascAt b i
def bagS (n : Int) (b : List Int) : Bool := (List.range b.length).all (bagAt n b) && decide (0 < b.length)
theorem asc_pw {b : List Int} (h : ascB b = true) : b.Pairwise (· < ·) := by
  simp only [ascB, List.all_eq_true, List.mem_range] at h
  have key : ∀ n i, i + n + 1 < b.length → b.getD i 0 < b.getD (i + n + 1) 0 := by
    intro n
    induction n with
    | zero =>
      intro i hi
      have := h (i + 1) (by omega)
      simp only [ascAt, Bool.or_eq_true, decide_eq_true_eq] at this
      simpa using this
    | succ n ih =>
      intro i hi
      have h1 := ih i (by omega)
      have := h (i + n + 1 + 1) (by omega)
      simp only [ascAt, Bool.or_eq_true, decide_eq_true_eq] at this
      have h2 : b.getD (i + n + 1) 0 < b.getD (i + n + 1 + 1) 0 := by simpa using this
      exact Int.lt_trans h1 h2
  refine List.pairwise_iff_getElem.2 fun i j hi hj hij => ?_
  have := key (j - i - 1) i (by omega)
  rw [show i + (j - i - 1) + 1 = j by omega, getD_el _ hi, getD_el _ hj] at this
  exact this
theorem bag_eq (n : Int) (b : List Int) : bagI n b = bagS n b := by
  rw [Bool.eq_iff_iff]
  simp only [bagI, bagS, ascB, Bool.and_eq_true, decide_eq_true_eq, List.all_eq_true, List.mem_range, bagAt]
  constructor
  · rintro ⟨⟨h1, h2⟩, h3⟩
    refine ⟨fun i hi => ⟨?_, h2 i hi⟩, h1⟩
    simp only [setOf, Bool.and_eq_true, List.all_eq_true] at h3
    rw [getD_el _ hi]; exact h3.1 _ (List.getElem_mem hi)
  · rintro ⟨h1, h2⟩
    refine ⟨⟨h2, fun i hi => (h1 i hi).2⟩, ?_⟩
    have hpw := asc_pw (b := b) (by simp only [ascB, List.all_eq_true, List.mem_range]; exact fun i hi => (h1 i hi).2)
    simp only [setOf, Bool.and_eq_true, List.all_eq_true, decide_eq_true_eq]
    refine ⟨fun x hx => ?_, hpw.imp fun h e => by omega⟩
    obtain ⟨i, hi, rfl⟩ := List.mem_iff_getElem.1 hx
    have := (h1 i hi).1
    rwa [getD_el _ hi] at this
def avars (a : PAtom) : List Int := (rangeI 5).filter fun v => a.vars.contains v
def commL (x y : List Int) : List Int := x.filter fun v => y.contains v
def insI (a : PAtom) (b : List Int) : Bool := decide ((commL (avars a) b).length = (avars a).length)
def insD (a : PAtom) (b : List Int) : Bool := a.vars.all fun v => b.contains v
theorem ins_eq {a : PAtom} {n : Int} (hn : 1 ≤ n ∧ n ≤ 5) (h : atomOk n a = true) (b : List Int) : insI a b = insD a b := by
  rw [Bool.eq_iff_iff]
  simp only [insI, insD, decide_eq_true_eq, commL, List.length_filter_eq_length_iff, List.all_eq_true]
  have hv : ∀ v ∈ a.vars, 0 ≤ v ∧ v < 5 := fun v hv => by
    simp only [atomOk, Bool.and_eq_true, List.all_eq_true] at h
    have := h.2 v hv
    rw [wrap64_of (by omega) (by omega)] at this
    simp only [inR, Bool.and_eq_true, decide_eq_true_eq] at this
    omega
  constructor
  · intro h1 v hva
    have h2 := hv v hva
    refine h1 v (List.mem_filter.2 ⟨?_, by simpa using hva⟩)
    simp only [rangeI, List.mem_map, List.mem_range]
    exact ⟨v.toNat, by omega, by omega⟩
  · intro h1 v hva
    have := (List.mem_filter.1 hva).2
    exact h1 v (by simpa using this)
def topIs (bags : List (List Int)) (ps : List Int) (v : Int) (i : Nat) : Bool := (bags.getD i []).contains v && (decide (ps.getD i 0 < 0) || !((bags.getD (ps.getD i 0).toNat []).contains v))
def topN (bags : List (List Int)) (ps : List Int) (v : Int) (i : Nat) : Nat := ((List.range i).filter (topIs bags ps v)).length
theorem topN_step (bags : List (List Int)) (ps : List Int) (v : Int) (i : Nat) : topN bags ps v (i + 1) = topN bags ps v i + if topIs bags ps v i then 1 else 0 := by
  rw [topN, List.range_succ, List.filter_append, List.length_append]
  cases h : topIs bags ps v i <;> simp [topN, h]
theorem topN_le (bags : List (List Int)) (ps : List Int) (v : Int) (i : Nat) : topN bags ps v i ≤ i := by
  have := List.length_filter_le (topIs bags ps v) (List.range i)
  simpa [topN] using this
def anyIn (bags : List (List Int)) (a : PAtom) : Bool := bags.any fun b => insI a b
def decOk (q : PQuery) (d : PDec) : Bool := queryOk q && decide (d.bags.length = d.par.length) && treeB d.par && d.bags.all (bagI q.n) && q.atoms.all (anyIn d.bags) && (List.range q.n.toNat).all fun v => decide (topN d.bags d.par (v : Int) d.bags.length = 1)
/-- as the reference tells it of the bags -/
def placeOk (q : PQuery) (d : PDec) (i : Nat) : Bool := bagS q.n (d.bags.getD i []) && pathOk d.par i
theorem decOk_q {q : PQuery} {d : PDec} (h : queryOk q = false) : decOk q d = false := by simp only [decOk, h, Bool.false_and]
theorem decOk_l {q : PQuery} {d : PDec} (h : ¬ d.bags.length = d.par.length) : decOk q d = false := by simp only [decOk, decide_eq_false h, Bool.false_and, Bool.and_false]
theorem decOk_t {q : PQuery} {d : PDec} (h : treeB d.par = false) : decOk q d = false := by simp only [decOk, h, Bool.false_and, Bool.and_false]
theorem decOk_r {q : PQuery} {d : PDec} (h : rootS d.par < 0) : decOk q d = false := decOk_t (by rw [tree_eq, treeS, decide_eq_false (by omega), Bool.false_and])
theorem decOk_b {q : PQuery} {d : PDec} {i : Nat} (hi : i < d.bags.length) (h : bagI q.n d.bags[i] = false) : decOk q d = false := by
  have : d.bags.all (bagI q.n) = false := all_bad hi h
  simp only [decOk, this, Bool.false_and, Bool.and_false]
theorem decOk_p {q : PQuery} {d : PDec} {i : Nat} (hl : d.bags.length = d.par.length) (hi : i < d.bags.length) (h : placeOk q d i = false) : decOk q d = false := by
  rw [placeOk, getD_el _ hi, ← bag_eq] at h
  cases hb : bagI q.n d.bags[i]
  · exact decOk_b hi hb
  · rw [hb, Bool.true_and] at h
    refine decOk_t ?_
    rw [tree_eq, treeS]
    have : (List.range d.par.length).all (pathOk d.par) = false := all_bad (p := pathOk d.par) (l := List.range d.par.length) (i := i) (by simp; omega) (by simpa using h)
    rw [this, Bool.and_false]
theorem decOk_a {q : PQuery} {d : PDec} {i : Nat} (hi : i < q.atoms.length) (h : anyIn d.bags q.atoms[i] = false) : decOk q d = false := by
  have : q.atoms.all (anyIn d.bags) = false := all_bad hi h
  simp only [decOk, this, Bool.false_and, Bool.and_false]
theorem decOk_v {q : PQuery} {d : PDec} {v : Nat} (hv : v < q.n.toNat) (h : ¬ topN d.bags d.par (v : Int) d.bags.length = 1) : decOk q d = false := by
  have : ((List.range q.n.toNat).all fun v => decide (topN d.bags d.par (v : Int) d.bags.length = 1)) = false := all_bad (p := fun v : Nat => decide (topN d.bags d.par (v : Int) d.bags.length = 1)) (l := List.range q.n.toNat) (i := v) (by simpa using hv) (by simpa using h)
  simp only [decOk, this, Bool.and_false]
theorem decOk_all {q : PQuery} {d : PDec} (h1 : queryOk q = true) (h2 : d.bags.length = d.par.length) (h3 : treeB d.par = true) (h4 : d.bags.all (bagI q.n) = true) (h5 : q.atoms.all (anyIn d.bags) = true) (h6 : ((List.range q.n.toNat).all fun v => decide (topN d.bags d.par (v : Int) d.bags.length = 1)) = true) : decOk q d = true := by
  simp only [decOk, h1, h3, h4, h5, h6, decide_eq_true h2]; rfl
/-- of all places -/
theorem places {q : PQuery} {d : PDec} (hl : d.bags.length = d.par.length) (hr : 0 ≤ rootS d.par) (h : (List.range d.bags.length).all (placeOk q d) = true) : treeB d.par = true ∧ d.bags.all (bagI q.n) = true := by
  simp only [List.all_eq_true, List.mem_range, placeOk, Bool.and_eq_true] at h
  constructor
  · rw [tree_eq, treeS, decide_eq_true hr, Bool.true_and]
    simp only [List.all_eq_true, List.mem_range]
    exact fun i hi => (h i (by omega)).2
  · simp only [List.all_eq_true]
    intro b hb
    obtain ⟨i, hi, rfl⟩ := List.mem_iff_getElem.1 hb
    have := (h i hi).1
    rwa [getD_el _ hi, ← bag_eq] at this
structure AscI (b : List Int) (i : Nat) : Prop where
  le : 1 ≤ i ∧ i ≤ b.length + 1
  ok : ∀ j, j < i → j < b.length → ascAt b j = true
theorem AscI.one {b : List Int} : AscI b 1 := by
  refine ⟨by omega, fun j hj _ => ?_⟩
  have : j = 0 := by omega
  subst this
  simp [ascAt]
theorem ascAt_eq {b : List Int} {i : Nat} (h1 : 1 ≤ i) (hi : i < b.length) : ascAt b i = decide (b[i - 1]'(by omega) < b[i]) := by
  rw [ascAt, getD_el _ hi, getD_el _ (show i - 1 < b.length by omega), decide_eq_false (by omega), Bool.false_or]
theorem AscI.step {b : List Int} {i : Nat} (h : AscI b i) (hi : i < b.length) (e : b[i - 1]'(by omega) < b[i]) : AscI b (i + 1) :=
  ⟨by omega, fun j hj hl => by
    by_cases hc : j < i
    · exact h.ok j hc hl
    · have : j = i := by omega
      subst this; rw [ascAt_eq h.le.1 hl]; simpa using e⟩
theorem AscI.done {b : List Int} {i : Nat} (h : AscI b i) (hi : b.length ≤ i) : ascB b = true := by
  simp only [ascB, List.all_eq_true, List.mem_range]
  exact fun j hj => h.ok j (by omega) hj
theorem asc_bad {b : List Int} {i : Nat} (h1 : 1 ≤ i) (hi : i < b.length) (e : ¬ b[i - 1]'(by omega) < b[i]) : ascB b = false :=
  all_bad (p := ascAt b) (l := List.range b.length) (i := i) (by simpa using hi) (by simp only [List.getElem_range]; rw [ascAt_eq h1 hi]; simpa using e)
structure BagI (n : Int) (b : List Int) (i : Nat) : Prop where
  le : i ≤ b.length
  ok : AllTo (bagAt n b) (List.range b.length) i
theorem BagI.zero {n : Int} {b : List Int} : BagI n b 0 := ⟨by omega, allTo_zero⟩
theorem BagI.step {n : Int} {b : List Int} {i : Nat} (h : BagI n b i) (hi : i < b.length) (e : bagAt n b i = true) : BagI n b (i + 1) := ⟨hi, allTo_step h.ok (by simpa using hi) (by simpa using e)⟩
theorem BagI.done {n : Int} {b : List Int} {i : Nat} (h : BagI n b i) (hi : b.length ≤ i) : bagS n b = decide (0 < b.length) := by
  rw [bagS, allTo_done h.ok (by simpa using hi), Bool.true_and]
theorem bagS_bad {n : Int} {b : List Int} {i : Nat} (hi : i < b.length) (e : bagAt n b i = false) : bagS n b = false := by
  have : (List.range b.length).all (bagAt n b) = false := all_bad (p := bagAt n b) (l := List.range b.length) (i := i) (by simpa using hi) (by simpa using e)
  rw [bagS, this, Bool.false_and]
theorem comm_step {l b : List Int} {i : Nat} (h : i < l.length) : commL (l.take (i + 1)) b = commL (l.take i) b ++ if b.contains l[i] then [l[i]] else [] := by
  rw [List.take_succ_eq_append_getElem h, commL, List.filter_append]
  cases e : b.contains l[i] <;> simp only [commL, List.filter_cons, e, List.filter_nil] <;> simp
def avTo (a : PAtom) (i : Nat) : List Int := (rangeI i).filter fun v => a.vars.contains v
theorem avTo_step (a : PAtom) (i : Nat) : avTo a (i + 1) = avTo a i ++ if a.vars.contains (i : Int) then [(i : Int)] else [] := by
  rw [avTo, rangeI_succ, List.filter_append]
  cases e : a.vars.contains (i : Int) <;> simp only [avTo, List.filter_cons, e, List.filter_nil] <;> simp
theorem avTo_len (a : PAtom) (i : Nat) : (avTo a i).length ≤ i := by
  have := List.length_filter_le (fun v => a.vars.contains v) (rangeI i)
  simpa [avTo] using this
structure InTo (b : List Int) (a : PAtom) (i : Nat) : Prop where
  le : i ≤ a.vars.length
  ok : AllTo (fun v => b.contains v) a.vars i
theorem InTo.zero {b : List Int} {a : PAtom} : InTo b a 0 := ⟨by omega, allTo_zero⟩
theorem InTo.step {b : List Int} {a : PAtom} {i : Nat} (h : InTo b a i) (hi : i < a.vars.length) (e : a.vars[i] ∈ b) : InTo b a (i + 1) := ⟨hi, allTo_step h.ok hi (by simpa using e)⟩
theorem InTo.done {b : List Int} {a : PAtom} {i : Nat} (h : InTo b a i) (hi : a.vars.length ≤ i) : insD a b = true := allTo_done h.ok hi
theorem ins_bad {b : List Int} {a : PAtom} {i : Nat} (hi : i < a.vars.length) (e : ¬ a.vars[i] ∈ b) : insD a b = false := all_bad (p := fun v => b.contains v) hi (by simpa using e)
structure TreI (ps : List Int) (i : Nat) : Prop where
  le : i ≤ ps.length
  ok : AllTo (treeAt ps) (List.range ps.length) i
theorem TreI.zero {ps : List Int} : TreI ps 0 := ⟨by omega, allTo_zero⟩
theorem TreI.step {ps : List Int} {i : Nat} (h : TreI ps i) (hi : i < ps.length) (e : treeAt ps i = true) : TreI ps (i + 1) := ⟨hi, allTo_step h.ok (by simpa using hi) (by simpa using e)⟩
def rootsTo (ps : List Int) (i : Nat) : Nat := ((ps.take i).filter fun p => decide (p < 0)).length
theorem rootsTo_step {ps : List Int} {i : Nat} (h : i < ps.length) : rootsTo ps (i + 1) = rootsTo ps i + if ps[i] < 0 then 1 else 0 := by
  rw [rootsTo, List.take_succ_eq_append_getElem h, List.filter_append, List.length_append]
  by_cases e : ps[i] < 0 <;> simp [rootsTo, e]
theorem rootsTo_le (ps : List Int) (i : Nat) : rootsTo ps i ≤ i := by
  have := List.length_filter_le (fun p : Int => decide (p < 0)) (ps.take i)
  rw [List.length_take] at this
  simp only [rootsTo]; omega
theorem TreI.done {ps : List Int} {i : Nat} (h : TreI ps i) (hi : ps.length ≤ i) : treeB ps = decide (rootsTo ps i = 1) := by
  rw [treeB, allTo_done h.ok (by simpa using hi), Bool.true_and, rootsTo, List.take_of_length_le hi]; rfl
theorem treeB_bad {ps : List Int} {i : Nat} (hi : i < ps.length) (e : treeAt ps i = false) : treeB ps = false := by
  have : (List.range ps.length).all (treeAt ps) = false := all_bad (p := treeAt ps) (l := List.range ps.length) (i := i) (by simpa using hi) (by simpa using e)
  rw [treeB, this, Bool.false_and]
/-- k steps up from place i -/
structure UpI (ps : List Int) (i : Nat) (p : Nat × Int) : Prop where
  le : p.1 ≤ ps.length + 1
  at_ : -1 ≤ p.2 ∧ p.2 ≤ ps.length - 1
  up : upI ps (ps.length + 1) i = upI ps (ps.length + 1 - p.1) p.2
theorem upI_succ {ps : List Int} {m : Nat} {a : Int} (ha : 0 ≤ a) : upI ps (m + 1) a = if inR (nxP ps a) (-1) (ps.length - 1) then upI ps m (nxP ps a) else none := by rw [upI, if_neg (by omega)]
theorem UpI.step {ps : List Int} {i k : Nat} {a q : Int} (h : UpI ps i (k, a)) (hk : k ≤ ps.length) (ha : 0 ≤ a) (e : nxP ps a = q) (hq : inR q (-1) (ps.length - 1) = true) : UpI ps i (k + 1, q) := by
  have h1 := h.up
  simp only at h1
  rw [show ps.length + 1 - k = (ps.length - k) + 1 by omega, upI_succ (m := ps.length - k) ha, e, if_pos hq] at h1
  simp only [inR, Bool.and_eq_true, decide_eq_true_eq] at hq
  exact ⟨by simp only; omega, hq, by rw [h1]; simp only; rw [show ps.length + 1 - (k + 1) = ps.length - k by omega]⟩
theorem UpI.bad {ps : List Int} {i k : Nat} {a q : Int} (h : UpI ps i (k, a)) (hk : k ≤ ps.length) (ha : 0 ≤ a) (e : nxP ps a = q) (hq : inR q (-1) (ps.length - 1) = false) : treeAt ps i = false := by
  have h1 := h.up
  simp only at h1
  rw [show ps.length + 1 - k = (ps.length - k) + 1 by omega, upI_succ (m := ps.length - k) ha, e, if_neg (by simp [hq])] at h1
  rw [treeAt, h1]; simp [endNeg]
theorem UpI.fin {ps : List Int} {i k : Nat} {a : Int} (h : UpI ps i (k, a)) (hk : ¬ (k ≤ ps.length ∧ 0 ≤ a)) : endNeg (upI ps (ps.length + 1) i) = decide (a < 0) := by
  have h1 := h.up
  have hle := h.le
  simp only at h1 hle
  rw [h1]
  by_cases ha : a < 0
  · rw [upI_neg ha]; rfl
  · have : ps.length + 1 - k = 0 := by omega
    rw [this]; rfl
/-- the only place without a parent among the first i -/
structure RootI (ps : List Int) (p : Nat × Int) : Prop where
  le : p.1 ≤ ps.length
  no : p.2 = -1 → ∀ j (h : j < ps.length), j < p.1 → ps[j] ≠ -1
  some : p.2 ≠ -1 → ∃ r : Nat, p.2 = (r : Int) ∧ r < p.1 ∧ ∃ hr : r < ps.length, ps[r] = -1 ∧ ∀ j (h : j < ps.length), j < p.1 → j ≠ r → ps[j] ≠ -1
theorem oneR_zero {ps : List Int} (h : ∀ j (h : j < ps.length), ps[j] ≠ -1) : oneR ps = 0 := by
  rw [oneR, List.length_eq_zero_iff, List.filter_eq_nil_iff]
  intro x hx
  obtain ⟨i, hi, rfl⟩ := List.mem_iff_getElem.1 hx
  simpa using h i hi
theorem oneR_one {ps : List Int} {r : Nat} (hr : r < ps.length) (e : ps[r] = -1) (h : ∀ j (h : j < ps.length), j ≠ r → ps[j] ≠ -1) : oneR ps = 1 := by
  have e0 : ps = ps.take r ++ ps[r] :: ps.drop (r + 1) := by rw [← List.drop_eq_getElem_cons hr, List.take_append_drop]
  have h1 : ((ps.take r).filter fun p => p == (-1 : Int)) = [] := by
    rw [List.filter_eq_nil_iff]; intro x hx
    obtain ⟨i, hi, rfl⟩ := List.mem_iff_getElem.1 hx
    rw [List.length_take] at hi
    rw [List.getElem_take]
    simpa using h i (by omega) (by omega)
  have h2 : ((ps.drop (r + 1)).filter fun p => p == (-1 : Int)) = [] := by
    rw [List.filter_eq_nil_iff]; intro x hx
    obtain ⟨i, hi, rfl⟩ := List.mem_iff_getElem.1 hx
    rw [List.length_drop] at hi
    rw [List.getElem_drop]
    simpa using h (r + 1 + i) (by omega) (by omega)
  rw [oneR, e0, List.filter_append, List.filter_cons, h1, h2, e]; simp
theorem RootI.done {ps : List Int} {i : Nat} {o : Int} (h : RootI ps (i, o)) (hi : ps.length ≤ i) : rootS ps = o := by
  by_cases ho : o = -1
  · have := oneR_zero fun j hj => h.no ho j hj (by simp only; omega)
    rw [rootS, if_neg (by omega), ho]
  · obtain ⟨r, e, _, hr, e1, e2⟩ := h.some ho
    have h1 := oneR_one hr e1 fun j hj hne => e2 j hj (by simp only; omega) hne
    obtain ⟨r', e', hr', e1'⟩ := root_at h1
    rw [e', one_uniq h1 hr' hr e1' e1]; exact e.symm
theorem RootI.two {ps : List Int} {i : Nat} {o : Int} (h : RootI ps (i, o)) (ho : 0 ≤ o) (hi : i < ps.length) (e : ps[i] = -1) : rootS ps = -1 := by
  obtain ⟨r, _, hlt, hr, e1, _⟩ := h.some (by simp only; omega)
  simp only at hlt
  have := two_at (p := fun p : Int => p == -1) hlt hi (by simp [e1]) (by simp [e])
  rw [rootS, if_neg (by simp only [oneR]; omega)]
theorem RootI.put {ps : List Int} {i : Nat} {o : Int} (h : RootI ps (i, o)) (ho : o < 0) (hi : i < ps.length) (e : ps[i] = -1) : RootI ps (i + 1, (i : Int)) := by
  have ho' : o = -1 := by
    by_cases hc : o = -1
    · exact hc
    · obtain ⟨r, e, _⟩ := h.some hc
      simp only at e; omega
  exact ⟨by simp only; omega, fun hc => by simp only at hc; omega, fun _ => ⟨i, rfl, by simp only; omega, hi, e, fun j hj hji hne => h.no ho' j hj (by simp only at hji ⊢; omega)⟩⟩
theorem RootI.skip {ps : List Int} {i : Nat} {o : Int} (h : RootI ps (i, o)) (hi : i < ps.length) (e : ps[i] ≠ -1) : RootI ps (i + 1, o) := by
  refine ⟨by simp only; omega, fun hc j hj hji => ?_, fun hc => ?_⟩
  · by_cases hx : j = i
    · subst hx; exact e
    · exact h.no hc j hj (by simp only at hji ⊢; omega)
  · obtain ⟨r, e1, e2, hr, e3, e4⟩ := h.some hc
    simp only at e2
    exact ⟨r, e1, by simp only; omega, hr, e3, fun j hj hji hne => by
      by_cases hx : j = i
      · subst hx; exact e
      · exact e4 j hj (by simp only at hji ⊢; omega) hne⟩
theorem RootI.zero {ps : List Int} : RootI ps (0, -1) := ⟨by simp, fun _ j _ hj => by simp at hj, fun h => absurd rfl h⟩
/-- the way so far -/
structure PathI (ps : List Int) (k0 : Int) (p : Int × List Int) : Prop where
  le : p.2.length ≤ ps.length + 1
  eq : pathS ps (ps.length + 1) k0 = p.2 ++ pathS ps (ps.length + 1 - p.2.length) p.1
theorem PathI.zero {ps : List Int} {k0 : Int} : PathI ps k0 (k0, []) := ⟨by simp, by simp⟩
theorem PathI.step {ps : List Int} {k0 k : Int} {o : List Int} (h : PathI ps k0 (k, o)) (hk : inR k 0 (ps.length - 1) = true) (ho : o.length ≤ ps.length) : PathI ps k0 (nxP ps k, o ++ [k]) := by
  have h1 := h.eq
  simp only at h1
  rw [show ps.length + 1 - o.length = (ps.length - o.length) + 1 by omega, path_yes hk] at h1
  refine ⟨by simp only [List.length_append, List.length_singleton]; omega, ?_⟩
  simp only [List.length_append, List.length_singleton]
  rw [h1, show ps.length + 1 - (o.length + 1) = ps.length - o.length by omega]; simp
theorem PathI.done {ps : List Int} {k0 k : Int} {o : List Int} (h : PathI ps k0 (k, o)) (hk : ¬ (inR k 0 (ps.length - 1) = true ∧ o.length ≤ ps.length)) : pathS ps (ps.length + 1) k0 = o := by
  have h1 := h.eq
  have hle := h.le
  simp only at h1 hle
  by_cases hc : inR k 0 (ps.length - 1) = true
  · have : ps.length + 1 - o.length = 0 := by
      have : ¬ o.length ≤ ps.length := fun hh => hk ⟨hc, hh⟩
      omega
    rw [h1, this]; simp [pathS]
  · rw [h1, path_out hc, List.append_nil]
end Go.Vs

namespace Go.Vs
def anyTo {α : Type} (f : α → Bool) (l : List α) (k : Nat) : Bool := (l.take k).any f
theorem anyTo_zero {α : Type} (f : α → Bool) (l : List α) : anyTo f l 0 = false := by simp [anyTo]
theorem anyTo_step {α : Type} {f : α → Bool} {l : List α} {k : Nat} (h : k < l.length) : anyTo f l (k + 1) = (anyTo f l k || f l[k]) := by
  rw [anyTo, List.take_succ_eq_append_getElem h, List.any_append]; simp [anyTo]
theorem anyTo_all {α : Type} {f : α → Bool} {l : List α} {k : Nat} (h : l.length ≤ k) : anyTo f l k = l.any f := by rw [anyTo, List.take_of_length_le h]
theorem tree_par {ps : List Int} (h : treeB ps = true) (i : Nat) (hi : i < ps.length) : -1 ≤ ps[i] ∧ ps[i] < ps.length := by
  simp only [treeB, Bool.and_eq_true, List.all_eq_true, List.mem_range] at h
  have := h.1 i hi
  simp only [treeAt, Bool.and_eq_true, nxP_at hi] at this
  have := this.1
  simp only [inR, Bool.and_eq_true, decide_eq_true_eq] at this
  omega
theorem path_ne {ps : List Int} {i : Nat} (h : i < ps.length) : 0 < (pathS ps (ps.length + 1) i).length := by
  rw [path_yes (by simp only [inR, Bool.and_eq_true, decide_eq_true_eq]; omega)]; simp
/-- places, atoms and variables of a walk -/
structure ToI {α : Type} (f : α → Bool) (l : List α) (i : Nat) : Prop where
  le : i ≤ l.length
  ok : AllTo f l i
theorem ToI.zero {α : Type} {f : α → Bool} {l : List α} : ToI f l 0 := ⟨by omega, allTo_zero⟩
theorem ToI.step {α : Type} {f : α → Bool} {l : List α} {i : Nat} (h : ToI f l i) (hi : i < l.length) (e : f l[i] = true) : ToI f l (i + 1) := ⟨hi, allTo_step h.ok hi e⟩
theorem ToI.done {α : Type} {f : α → Bool} {l : List α} {i : Nat} (h : ToI f l i) (hi : l.length ≤ i) : l.all f = true := allTo_done h.ok hi
def topV (d : PDec) (v : Nat) : Bool := decide (topN d.bags d.par (v : Int) d.bags.length = 1)
structure VarI (d : PDec) (n : Nat) (v : Nat) : Prop where
  le : v ≤ n
  ok : AllTo (topV d) (List.range n) v
theorem VarI.zero {d : PDec} {n : Nat} : VarI d n 0 := ⟨by omega, allTo_zero⟩
theorem VarI.step {d : PDec} {n v : Nat} (h : VarI d n v) (hv : v < n) (e : topN d.bags d.par (v : Int) d.bags.length = 1) : VarI d n (v + 1) := ⟨hv, allTo_step h.ok (by simpa using hv) (by simpa [topV] using e)⟩
theorem VarI.done {d : PDec} {n v : Nat} (h : VarI d n v) (hv : n ≤ v) : ((List.range n).all fun v => decide (topN d.bags d.par (v : Int) d.bags.length = 1)) = true := allTo_done h.ok (by simpa using hv)
structure PlI (q : PQuery) (d : PDec) (i : Nat) : Prop where
  le : i ≤ d.bags.length
  ok : AllTo (placeOk q d) (List.range d.bags.length) i
theorem PlI.zero {q : PQuery} {d : PDec} : PlI q d 0 := ⟨by omega, allTo_zero⟩
theorem PlI.step {q : PQuery} {d : PDec} {i : Nat} (h : PlI q d i) (hi : i < d.bags.length) (e : placeOk q d i = true) : PlI q d (i + 1) := ⟨hi, allTo_step h.ok (by simpa using hi) (by simpa using e)⟩
theorem PlI.done {q : PQuery} {d : PDec} {i : Nat} (h : PlI q d i) (hi : d.bags.length ≤ i) : (List.range d.bags.length).all (placeOk q d) = true := allTo_done h.ok (by simpa using hi)
theorem any_ins {q : PQuery} (hq : queryOk q = true) {a : PAtom} (ha : a ∈ q.atoms) (bags : List (List Int)) : (bags.any fun b => insD a b) = anyIn bags a := by
  have h1 := queryOk_n5 hq
  have h2 : atomOk q.n a = true := by
    cases hh : q.atoms.all (atomOk q.n)
    · simp only [queryOk, hh, Bool.false_and, Bool.and_false] at hq; cases hq
    · exact (List.all_eq_true.1 hh) a ha
  simp only [anyIn]
  congr 1
  funext b
  exact (ins_eq h1 h2 b).symm
end Go.Vs
