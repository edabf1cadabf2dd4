/-
  P6B3: a part of a proof of this seat: the value-level semantics of Go code without maps, its walk rules, the frame of a row, facts of types, schedules, walks, plain lemmas (W1 W2 W3 W4 W5 W6 W7 W8 W9 M11 M12 W10 LNewView LViewDelta LApplyToView LApplyBatchToView). It holds of every program and state that its hypotheses name.
-/
import Derived.Test.YtggbpdjjlgejmaaGreatP6B2
set_option linter.unusedSimpArgs false
set_option linter.unusedVariables false
set_option linter.unnecessarySimpa false
namespace Go.Proofs.YtggbpdjjlgejmaaGreat
open Go.Vs Go.Proofs Go
set_option maxRecDepth 100000
set_option maxHeartbeats 1000000

theorem erI (l : List Int) : erLL (l.map cI) = l.map cI := by
  have := erLL_map er_cI l
  simpa [plI_id, map_plI] using this
@[simp] theorem start5 (a b c d e : V) (B : Nat) : St.start [a, b, c, d, e] B = ⟨B, B, [], upd (upd (upd (upd (upd (fun _ => .tup []) 4 e) 3 d) 2 c) 1 b) 0 a, fun _ => none⟩ := by
  simp only [St.start, St.mk.injEq, true_and, and_true]
  funext i; match i with | 0 => rfl | 1 => rfl | 2 => rfl | 3 => rfl | 4 => rfl | _ + 5 => rfl
section
attribute [local simp] plI_id plStr_id map_plI map_plStr pS cP cI
theorem e_copyIntsT (l : List Int) (hb : l.length ≤ 4294967296) :
   VC Tryz.prog 101 [.d (pS cI l)] (fun n r => ∃ g : Option Nat, r = .d (.sl g (some (3, 1)) (l.map cI)) ∧ (l = [] → True) ∧ (∀ k, g = some k → n ≤ k) ∧ (g = none → l = [])) := by
  refine VC.of E s101 (by kernel_rfl) Tryz.func101 (by rfl) (by kernel_rfl) (by simp [Tryz.f101]) (by simp [Tryz.f101]) s101_ok fun B => ?_
  have hL : LenOk 8 l.length := ⟨by omega, by simp only [maxLen]; omega⟩
  have hp : hpLL (l.map cI) = false := hpLL_mapI l
  simp [Tryz.f101, hL, hp, List.take_of_length_le]
  intro γ hs' h1 hg
  obtain ⟨q1, q2⟩ := gam_at hg (k := 3) (T := 3) (sz := 1) (es := l.map cI) (by simp)
  clear hg
  refine ⟨fun k hk => (q1 k hk).1, fun h => ?_⟩
  exact Classical.byContradiction fun hl => q2 (by simpa using hl) h
def avI (vs : List Int) (i : Nat) : List Int := (rangeI i).filter fun v => vs.contains v
theorem avI_zero (vs : List Int) : avI vs 0 = [] := rfl
theorem w_impl_AtomVariables (a : PAtom) : VC Tryz.prog 134 [.agg ((eAtom a).map V.d)] (fun _ r => r = .d (pS cI (aVars a.vars))) := by
  obtain ⟨nm, vs⟩ := a
  refine VC.ofL EP s134 (by kernel_rfl) Tryz.func134 (by rfl) (by kernel_rfl) (by simp [Tryz.f134]) (by simp [Tryz.f134]) s134_ok fun B hl => ?_
  simp [Tryz.f134, eAtom, cStr]
  refine loop_ruleL (X := Nat) (fun i _ => i ≤ 5) (fun i => [(1, .ptr 1 0 0), (3, .own 15 0 (avI vs i).length), (4, .d (.int .i64 i))]) (fun i => [(1, some (.box [.d (.str nm), .d (.pl (vs.map cI))])), (15, some (.row 3 1 ((avI vs i).map cI)))]) (fun i => 5 - i) ?_ ?_
  · refine (lead_slot 3 15 3 1 (by omega) (by omega) (by simp)).bind ?_
    rintro _ rfl
    exact Lead.of ⟨0, by omega, rfl, rfl, Nat.le_refl _, by simp [avI_zero], by simp [avI_zero]⟩
  intro i hs t m hi hh
  by_cases hlt : i < 5
  · have hwi := wr1 (i := i) (by omega)
    have hlz : (i : Int) < 5 := by omega
    have hlen : (avI vs i).length ≤ i := by
      have := List.length_filter_le (fun v => vs.contains v) (rangeI i)
      rw [rangeI_len] at this
      exact this
    have hL : LenOk 8 ((avI vs i).length + 1) := ⟨by omega, by simp only [maxLen]; omega⟩
    have hs' : avI vs (i + 1) = avI vs i ++ if vs.contains (i : Int) then [(i : Int)] else [] := by
      rw [avI, avI, rangeI_succ, List.filter_append]
      cases h : vs.contains (i : Int) <;> simp only [List.filter_cons, List.filter_nil, h] <;> rfl
    obtain ⟨L, hLd⟩ : ∃ L, L = avI vs i := ⟨_, rfl⟩
    rw [← hLd] at hL hs' hlen ⊢
    refine anyQ2 fun Q => ?_
    simp [hlz, ]
    refine call_f (w_impl_ContainsVariable ⟨nm, vs⟩ i) (by simp [eAtom, cStr]) rfl fun hs1 hh1 => ?_
    simp at hh1
    cases hc : vs.contains (i : Int)
    · rw [hc] at hs'
      simp only [Bool.false_eq_true, if_false, List.append_nil] at hs'
      simp [hwi, ]
      refine back2 (i + 1) (by omega) (by omega) rfl (by simp <;> omega) ?_ ?_
      · rw [hs']; simp
      · rw [hs']; simp
    · rw [hc] at hs'
      simp only [if_true] at hs'
      simp [hwi, hL, List.take_of_length_le, ]
      refine back2 (i + 1) (by omega) (by omega) rfl (by simp <;> omega) ?_ ?_
      · rw [hs']; simp
      · rw [hs']; simp
  · have hn : i = 5 := by omega
    subst hn
    have e : avI vs 5 = aVars vs := rfl
    rw [e]
    simp [List.take_of_length_le, ]
theorem w_impl_glue (u a r b s : List Int) (hu : u.length ≤ 1000) (hua : ∀ v ∈ u, v ∈ a ∨ v ∈ b) (hr : r.length = a.length) (hs : s.length = b.length) :
   VC Tryz.prog 92 [.d (pS cI u), .d (pS cI a), .d (pS cI r), .d (pS cI b), .d (pS cI s)] (fun _ v => v = .tup [.d (pS cI (if glB u a r b s then glR u a r b s else [])), .d (.bool (glB u a r b s))]) := by
  refine VC.ofL EP s92 (by kernel_rfl) Tryz.func92 (by rfl) (by kernel_rfl) (by simp [Tryz.f92]) (by simp [Tryz.f92]) s92_ok fun B hl => ?_
  simp [Tryz.f92, s92_7]
  refine loop_rule (X := Nat) (fun i => i ≤ u.length ∧ AllTo (glV a r b s) u i) (fun i => [(1, .d (.pl (a.map cI))), (2, .d (.pl (r.map cI))), (3, .d (.pl (b.map cI))), (4, .d (.pl (s.map cI))), (12, .own 17 0 i), (18, .d (.pl (u.map cI))), (19, .d (.int .i64 u.length)), (20, .d (.int .i64 i))]) (fun i => [(17, some (.row 3 1 ((glR (u.take i) a r b s).map cI)))]) (fun i => u.length - i) 0 ⟨by simp, allTo_zero⟩ (by simp) (by simp [glR]) ?_
  rintro i hs0 t m ⟨hi, hal⟩ hh
  by_cases hlt : i < u.length
  · have hwi := wr1 (i := i) (by omega)
    have hL : LenOk 8 (i + 1) := ⟨by omega, by simp only [maxLen]; omega⟩
    have hgl : (glR (u.take i) a r b s).length = i := by simp [glR]; omega
    have hst : glR (u.take (i + 1)) a r b s = glR (u.take i) a r b s ++ [if a.contains u[i] then lookV a r u[i] else lookV b s u[i]] := by
      rw [List.take_succ_eq_append_getElem hlt]; simp only [glR, List.map_append, List.map_cons, List.map_nil]
    obtain ⟨G, hG⟩ : ∃ G, G = glR (u.take i) a r b s := ⟨_, rfl⟩
    rw [← hG] at hst hgl ⊢
    have hm := hua _ (List.getElem_mem hlt)
    obtain ⟨v, hv⟩ : ∃ v, v = u[i] := ⟨_, rfl⟩
    rw [← hv] at hm hst
    have key : ∀ (x y : List Int), y.length = x.length → v ∈ x → ∃ p : Nat, idxL x v = p ∧ ∃ h : p < y.length, lookV x y v = y[p] := fun x y hl hx => by
      have h1 := (idxL_mem hx).1
      have h0 : 0 ≤ idxL x v := by rw [idxL, if_pos hx]; omega
      exact ⟨(idxL x v).toNat, (Int.toNat_of_nonneg h0).symm, by omega, by rw [lookV, getD_el _ (by omega)]⟩
    have kno : ∀ x : List Int, v ∉ x → idxL x v = -1 := fun x hx => by rw [idxL, if_neg hx]
    simp [hlt, ← hv, s92_7, ]
    refine call_f (w_impl_indexOf a v) (by simp) rfl fun hs1 hh1 => ?_
    simp at hh1
    simp [s92_7, ]
    refine call_f (w_impl_indexOf b v) (by simp) rfl fun hs2 hh2 => ?_
    simp at hh2
    by_cases hva : v ∈ a
    · obtain ⟨p, hpa, hp, hpr⟩ := key a r hr hva
      have hca : a.contains v = true := List.contains_iff_mem.2 hva
      rw [hca, if_pos rfl, hpr] at hst
      by_cases hvb : v ∈ b
      · obtain ⟨q, hqb, hq, hqr⟩ := key b s hs hvb
        have hcb : b.contains v = true := List.contains_iff_mem.2 hvb
        have hgv : glV a r b s v = decide (r[p] = s[q]) := by rw [glV, hca, hcb, hpr, hqr]; simp
        by_cases he : r[p] = s[q]
        · simp [hpa, hqb, hp, hq, he, hwi, hL, hgl, List.take_of_length_le, s92_7, ]
          exact back (i + 1) ⟨by omega, allTo_step hal hlt (by rw [← hv, hgv]; simp [he])⟩ (by omega) rfl (by simp <;> omega) (by simp) (by simp [hst, he])
        · have hbad := all_bad (p := glV a r b s) hlt (by rw [← hv, hgv]; simp [he])
          have hg : glB u a r b s = false := hbad
          simp [hpa, hqb, hp, hq, he, hg, s92_7, ]
      · have hqb := kno b hvb
        have hcb : b.contains v = false := by simpa using hvb
        have hgv : glV a r b s v = true := by rw [glV, hcb]; simp
        simp [hpa, hqb, hp, hwi, hL, hgl, List.take_of_length_le, s92_7, ]
        exact back (i + 1) ⟨by omega, allTo_step hal hlt (by rw [← hv, hgv])⟩ (by omega) rfl (by simp <;> omega) (by simp) (by simp [hst])
    · have hpa := kno a hva
      have hca : a.contains v = false := by simpa using hva
      have hvb := hm.resolve_left hva
      obtain ⟨q, hqb, hq, hqr⟩ := key b s hs hvb
      rw [hca, hqr] at hst
      simp only [Bool.false_eq_true, if_false] at hst
      have hgv : glV a r b s v = true := by rw [glV, hca]; simp
      simp [hpa, hqb, hq, hwi, hL, hgl, List.take_of_length_le, s92_7, ]
      exact back (i + 1) ⟨by omega, allTo_step hal hlt (by rw [← hv, hgv])⟩ (by omega) rfl (by simp <;> omega) (by simp) (by simp [hst])
  · have hd := allTo_done hal (by omega)
    have hg : glB u a r b s = true := hd
    have hn : i = u.length := by omega
    subst hn
    simp [hg, List.take_of_length_le, glR, s92_7, ]
end
section
attribute [local simp] plI_id plStr_id map_plI map_plStr pS cP cI dSl
theorem uniL_snoc {a b : List Int} {i : Nat} (h : i < b.length) : uniL a (b.take (i + 1)) = insI (uniL a (b.take i)) b[i] := by
  rw [List.take_succ_eq_append_getElem h, uniL, List.foldl_append]; rfl
theorem insI_len (l : List Int) (n : Int) : (insI l n).length ≤ l.length + 1 := by
  rw [insI]
  split
  · omega
  · simp only [List.length_append, List.length_take, List.length_cons, List.length_drop]; omega
theorem uniL_len (a : List Int) : ∀ (b : List Int), (uniL a b).length ≤ a.length + b.length := by
  intro b
  induction b generalizing a with
  | nil => simp [uniL]
  | cons x r ih =>
    have h1 := ih (insI a x)
    have h2 := insI_len a x
    have : uniL a (x :: r) = uniL (insI a x) r := rfl
    rw [this, List.length_cons]; omega
theorem t_impl_unite (a b : Ints) (hl : a.xs.length + b.xs.length ≤ 1000) : VC Tryz.prog 91 [.d (dSl cI a), .d (dSl cI b)] (fun _ r => ∃ y : Ints, r = .d (dSl cI y) ∧ y.xs = uniL a.xs b.xs) := by
  refine VC.ofB E s91 (by kernel_rfl) Tryz.func91 (by rfl) (by kernel_rfl) (by simp [Tryz.f91]) (by simp [Tryz.f91]) s91_ok fun B hB => ?_
  obtain ⟨aid, aT, al⟩ := a
  obtain ⟨bid, bT, bl⟩ := b
  simp only at hl
  have hbB : ∀ g, bid = some g → g < B := fun g h => hB g (by simp [idsVL, V.ids, D.ids, h])
  simp [Tryz.f91, s91_9]
  refine call_some ((e_copyIntsT al (by omega)).er (As := [.d (dSl cI ⟨aid, aT, al⟩)]) (by simp [erI])) (by simp) (by simp) fun n1 hs1 r1 hn1 hm1 hp1 hr1 => ?_
  obtain ⟨g1, rfl, _, hg1, hg1n⟩ := hp1
  have hi1 : ∀ k, g1 = some k → k < hs1 := fun k hk => hr1 k (by simp [V.ids, D.ids, hk])
  simp at hn1
  simp [s91_9, ]
  refine loop_ruleL (X := Nat × Option Nat) (fun p h => p.1 ≤ bl.length ∧ (∀ g, p.2 = some g → B ≤ g ∧ g < h) ∧ (p.2 = none → uniL al (bl.take p.1) = [])) (fun p => [(5, .d (.sl p.2 (some (3, 1)) ((uniL al (bl.take p.1)).map cI))), (11, .d (.sl bid bT (bl.map cI))), (12, .d (.int .i64 bl.length)), (13, .d (.int .i64 p.1))]) (fun _ => []) (fun p => bl.length - p.1) ?_ ?_
  · exact Lead.of ⟨(0, g1), ⟨by simp, fun g hg => ⟨by have := hg1 g hg; omega, hi1 g hg⟩, fun h => by simpa [uniL] using hg1n h⟩, rfl, rfl, Nat.le_refl _, by simp [uniL], by simp⟩
  rintro ⟨i, id⟩ hs t m ⟨hi, hid, hnone⟩ hh
  simp only at hi hid hnone
  by_cases hlt : i < bl.length
  · have hwi := wr1 (i := i) (by omega)
    have hst := uniL_snoc (a := al) hlt
    have hul := uniL_len al (bl.take i)
    rw [List.length_take] at hul
    obtain ⟨l, hld⟩ : ∃ l, l = uniL al (bl.take i) := ⟨_, rfl⟩
    obtain ⟨n, hn⟩ : ∃ n, n = bl[i] := ⟨_, rfl⟩
    rw [← hld, ← hn] at hst
    rw [← hld] at hul hnone ⊢
    refine anyQ2 fun Q => ?_
    simp [hlt, ← hn, s91_9, ]
    refine loop_rule (X := Nat) (fun k => k ≤ l.length ∧ AllTo (fun x => decide (x < n)) l k) (fun k => [(5, .d (.sl id (some (3, 1)) (l.map cI))), (7, .d (.int .i64 n)), (8, .d (.int .i64 k)), (11, .d (.sl bid bT (bl.map cI))), (12, .d (.int .i64 bl.length)), (13, .d (.int .i64 i))]) (fun _ => []) (fun k => l.length - k) 0 ⟨by simp, allTo_zero⟩ (by simp) (by simp) ?_
    rintro k hs2 t2 m2 ⟨hk, hal⟩ hh2
    by_cases hkl : k < l.length
    · by_cases hless : l[k] < n
      · have hwk := wr1 (i := k) (by omega)
        refine anyQ fun Q => ?_
        simp [hkl, hless, hwk, s91_9, ]
        exact back (k + 1) ⟨by omega, allTo_step hal hkl (by simp [hless])⟩ (by omega) rfl (by simp <;> omega) (by simp) (by simp)
      have hK : (l.takeWhile fun x => decide (x < n)).length = k := takeWhile_at hal hk fun h => by simp [hless]
      by_cases heq : l[k] = n
      · have hins : insI l n = l := by rw [insI, hK, getD_el _ hkl, if_pos heq]
        simp [hkl, hless, heq, hwi, show ¬ (k : Int) = l.length by omega, s91_9, ]
        refine back2 (i + 1, id) ⟨by simp only; omega, fun g hg => ?_, fun h => ?_⟩ (by simp only; omega) rfl (by simp <;> omega) (by simp [hst, hins]) (by simp)
        · have := hid g hg; exact ⟨this.1, by simp; omega⟩
        · rw [hst, hins]; exact hnone h
      · have hins : insI l n = l.take k ++ n :: l.drop k := by rw [insI, hK, getD_el _ hkl, if_neg heq]
        simp [hkl, hless, heq, hwi, show ¬ (k : Int) = l.length by omega, show k ≤ l.length by omega, s91_9, ]
        have hki : k ≤ l.length := hk
        have L1 : LenOk 8 (k + 1) := ⟨by omega, by simp only [maxLen]; omega⟩
        have L1' : LenOk 8 1 := ⟨by omega, by simp only [maxLen]; omega⟩
        have L2 : LenOk 8 (k + 1 + (l.length - k)) := ⟨by omega, by simp only [maxLen]; omega⟩
        have L2' : LenOk 8 (1 + l.length) := ⟨by omega, by simp only [maxLen]; omega⟩
        have hmn : min k l.length = k := by omega
        have hpl : ∀ L : List Int, hpLL (L.map cI) = false := fun L => hpLL_mapI L
        repeat' apply And.intro
        all_goals
          refine call_some ((e_copyIntsT (l.take k) (by simp; omega)).er (by simp only [← List.map_take]; simp [-List.map_take, erI])) (by simp) (by simp) fun n2 hs3 r2 hn2 hm2 hp2 hr2 => ?_
          obtain ⟨g2, rfl, _, hg2, hg2n⟩ := hp2
          have hn2' : hs2 ≤ n2 := hn2
          have hins2 : l.take k ++ n :: l.drop k = insI l n := hins.symm
          cases g2 with
          | none =>
            have hk0 : k = 0 := by
              have := congrArg List.length (hg2n rfl)
              simp only [List.length_take, List.length_nil] at this
              by_cases h : l.length = 0
              · omega
              · omega
            subst hk0
            have hins3 : insI l n = n :: l := by simpa using hins
            simp [L1', L2', hwi, List.take_of_length_le, s91_9, ]
            refine Back2.lead (lead_frz 49 (T := 3) (sz := 1) (es := (n :: l).map cI) (by simp)) ?_
            rintro _ ⟨γ, hs', h2, hg, rfl⟩
            obtain ⟨q1, q2⟩ := gam_at hg (k := 49) (T := 3) (sz := 1) (es := (n :: l).map cI) (by simp)
            clear hg
            simp only at h2 q1
            have hp0 := hpl (n :: l)
            have hp1 := hpl l
            refine back2 (i + 1, γ 49) ⟨by simp only; omega, fun g hg => ?_, fun h => absurd h (q2 (by simp))⟩ (by simp only; omega) rfl (by simp <;> omega) (by simp [hst, hins3, hp0, hp1, Vs.frz, St.frz, Nat.add_comm 1, List.take_of_length_le]) (by simp)
            exact ⟨(q1 g hg).1, by simpa using (q1 g hg).2⟩
          | some g =>
            have hgn := hg2 g rfl
            have kg : ∀ j, j < n2 → kphi (some g) j = none := fun j hj => by simp only [kphi]; rw [if_neg (by simp; omega)]
            have e5 : reV (kphi (some g)) (.d (.sl id (some (3, 1)) (l.map cI))) = .d (.sl id (some (3, 1)) (l.map cI)) := reV_id (.d (dSl cI ⟨id, some (3, 1), l⟩)) fun j hj => kg j (by
              rcases mem_sl_ids.1 hj with h | h
              · have := (hid j h).2; omega
              · simp at h)
            have eD : ∀ (T0 : Option (TypeId × Nat)) (L : List Int), reV (kphi (some g)) (.d (.sl id T0 (L.map cI))) = .d (.sl id T0 (L.map cI)) := fun T0 L => reV_id (.d (dSl cI ⟨id, T0, L⟩)) fun j hj => kg j (by
              rcases mem_sl_ids.1 hj with h | h
              · have := (hid j h).2; omega
              · simp at h)
            have e11 : reV (kphi (some g)) (.d (.sl bid bT (bl.map cI))) = .d (.sl bid bT (bl.map cI)) := reV_id (.d (dSl cI ⟨bid, bT, bl⟩)) fun j hj => kg j (by
              rcases mem_sl_ids.1 hj with h | h
              · have := hbB j h; omega
              · simp at h)
            have hgB : B ≤ g := by omega
            have hids : ∀ L : List Int, g ∉ idsLL (L.map cI) := fun L => by simp
            simp [hgB, L1, L2, hmn, hwi, St.kill, e5, e11, eD, ← List.map_take, ← List.map_drop, List.take_of_length_le, s91_9, ]
            refine ⟨by simp [idsLL, idsL, D.ids], ?_⟩
            have a1 : k + 1 + (l.length - k) = l.length + 1 := by omega
            have hil : (insI l n).length = l.length + 1 := by rw [hins]; simp; omega
            refine Back2.lead (lead_frz 49 (T := 3) (sz := 1) (es := (insI l n).map cI) (by rw [hins]; simp [List.map_take, List.map_drop])) ?_
            rintro _ ⟨γ, hs', h2, hg, rfl⟩
            obtain ⟨q1, q2⟩ := gam_at hg (k := 49) (T := 3) (sz := 1) (es := (insI l n).map cI) (by rw [hins]; simp [List.map_take, List.map_drop])
            clear hg
            simp only at h2 q1
            have hp0 := hpl (insI l n)
            refine back2 (i + 1, γ 49) ⟨by simp only; omega, fun g hg => ?_, fun h => absurd h (q2 (by rw [hins]; simp))⟩ (by simp only; omega) rfl (by simp <;> omega) ?_ (by simp)
            · exact ⟨(q1 g hg).1, by simpa using (q1 g hg).2⟩
            · simp [hst, hp0, hil, a1, Vs.frz, St.frz, List.take_of_length_le]
    · have hkn : k = l.length := by omega
      subst hkn
      have hK : (l.takeWhile fun x => decide (x < n)).length = l.length := takeWhile_at hal hk fun h => absurd h hkl
      have hins : insI l n = l ++ [n] := by
        have h0 : l.getD l.length (n + 1) ≠ n := by simp [List.getD]; omega
        rw [insI, hK, if_neg h0]; simp
      simp [hwi, s91_9, ]
      have L1 : LenOk 8 (l.length + 1) := ⟨by omega, by simp only [maxLen]; omega⟩
      have L1' : LenOk 8 1 := ⟨by omega, by simp only [maxLen]; omega⟩
      have hpl : ∀ L : List Int, hpLL (L.map cI) = false := fun L => hpLL_mapI L
      repeat' apply And.intro
      all_goals
        refine call_some ((e_copyIntsT l (by omega)).er (by simp [erI, List.take_of_length_le])) (by simp) (by simp) fun n2 hs3 r2 hn2 hm2 hp2 hr2 => ?_
        obtain ⟨g2, rfl, _, hg2, hg2n⟩ := hp2
        have hn2' : hs2 ≤ n2 := hn2
        cases g2 with
        | none =>
          have hl0 : l = [] := hg2n rfl
          subst hl0
          have hins3 : insI [] n = [n] := by simpa using hins
          simp [L1', hwi, List.take_of_length_le, s91_9, ]
          refine Back2.lead (lead_frz 49 (T := 3) (sz := 1) (es := [n].map cI) (by simp)) ?_
          rintro _ ⟨γ, hs', h2, hg, rfl⟩
          obtain ⟨q1, q2⟩ := gam_at hg (k := 49) (T := 3) (sz := 1) (es := [n].map cI) (by simp)
          clear hg
          simp only at h2 q1
          have hp0 := hpl [n]
          refine back2 (i + 1, γ 49) ⟨by simp only; omega, fun g hg => ?_, fun h => absurd h (q2 (by simp))⟩ (by simp only; omega) rfl (by simp <;> omega) (by simp [hst, hins3, hp0, Vs.frz, St.frz, List.take_of_length_le]) (by simp)
          exact ⟨(q1 g hg).1, by simpa using (q1 g hg).2⟩
        | some g =>
          have hgn := hg2 g rfl
          have kg : ∀ j, j < n2 → kphi (some g) j = none := fun j hj => by simp only [kphi]; rw [if_neg (by simp; omega)]
          have eD : ∀ (T0 : Option (TypeId × Nat)) (L : List Int), reV (kphi (some g)) (.d (.sl id T0 (L.map cI))) = .d (.sl id T0 (L.map cI)) := fun T0 L => reV_id (.d (dSl cI ⟨id, T0, L⟩)) fun j hj => kg j (by
            rcases mem_sl_ids.1 hj with h | h
            · have := (hid j h).2; omega
            · simp at h)
          have e11 : reV (kphi (some g)) (.d (.sl bid bT (bl.map cI))) = .d (.sl bid bT (bl.map cI)) := reV_id (.d (dSl cI ⟨bid, bT, bl⟩)) fun j hj => kg j (by
            rcases mem_sl_ids.1 hj with h | h
            · have := hbB j h; omega
            · simp at h)
          have eD0 : ∀ (T0 : Option (TypeId × Nat)), reV (kphi (some g)) (.d (.sl id T0 [])) = .d (.sl id T0 []) := fun T0 => eD T0 []
          have hgB : B ≤ g := by omega
          simp [hgB, L1, hwi, St.kill, eD, eD0, e11, List.take_of_length_le, s91_9, ]
          refine ⟨by simp [idsLL, idsL, D.ids], ?_⟩
          refine Back2.lead (lead_frz 49 (T := 3) (sz := 1) (es := (insI l n).map cI) (by rw [hins]; simp)) ?_
          rintro _ ⟨γ, hs', h2, hg, rfl⟩
          obtain ⟨q1, q2⟩ := gam_at hg (k := 49) (T := 3) (sz := 1) (es := (insI l n).map cI) (by rw [hins]; simp)
          clear hg
          simp only at h2 q1
          have hp0 := hpl (insI l n)
          have hil : (insI l n).length = l.length + 1 := by rw [hins]; simp
          refine back2 (i + 1, γ 49) ⟨by simp only; omega, fun g hg => ?_, fun h => absurd h (q2 (by rw [hins]; simp))⟩ (by simp only; omega) rfl (by simp <;> omega) ?_ (by simp)
          · exact ⟨(q1 g hg).1, by simpa using (q1 g hg).2⟩
          · simp [hst, hp0, hil, Vs.frz, St.frz, List.take_of_length_le]
  · have hn : i = bl.length := by omega
    subst hn
    simp [hlt, List.take_of_length_le, s91_9, ]
    exact ⟨⟨id, some (3, 1), uniL al bl⟩, ⟨rfl, rfl, rfl⟩, rfl⟩
end

end Go.Proofs.YtggbpdjjlgejmaaGreat


namespace Go.Proofs.YtggbpdjjlgejmaaGreat
open Go.Vs Go.Proofs Go
set_option maxRecDepth 100000
set_option maxHeartbeats 1000000

section
attribute [local simp] plI_id plStr_id map_plI map_plStr pS cP cI
theorem p_impl_pick (row cols : List Int) (hb : cols.length ≤ 4294967296) (hc : ∀ c ∈ cols, 0 ≤ c ∧ c < row.length) : VC Tryz.prog 99 [.d (pS cI row), .d (pS cI cols)] (fun _ r => r = .d (pS cI (pickR cols row))) := by
  refine VC.ofL EP s99 (by kernel_rfl) Tryz.func99 (by rfl) (by kernel_rfl) (by simp [Tryz.f99]) (by simp [Tryz.f99]) s99_ok fun B hl => ?_
  simp [Tryz.f99]
  refine loop_rule (X := Nat) (fun i => i ≤ cols.length) (fun i => [(0, .d (.pl (row.map cI))), (5, .own 8 0 i), (9, .d (.pl (cols.map cI))), (10, .d (.int .i64 cols.length)), (11, .d (.int .i64 i))])
    (fun i => [(8, some (.row 3 1 ((pickR (cols.take i) row).map cI)))]) (fun i => cols.length - i) 0 (by simp) (by simp) (by simp [pickR]) ?_
  intro i hs t m hi hh
  by_cases hlt : i < cols.length
  · have hwi := wr1 (i := i) (by omega)
    have h1 := hc _ (List.getElem_mem hlt)
    have hst := pickR_step hlt hc
    obtain ⟨k, hk⟩ : ∃ k : Nat, cols[i] = (k : Int) := ⟨cols[i].toNat, by omega⟩
    have hkl : k < row.length := by omega
    have hL : LenOk 8 (i + 1) := ⟨by omega, by simp only [maxLen]; omega⟩
    have hpl : (pickR (cols.take i) row).length = i := by rw [pickR_len, List.length_take]; omega
    simp only [hk, Int.toNat_natCast] at hst
    simp [hlt, hk, hkl, hL, hwi, hpl, ]
    exact back (i + 1) (by omega) (by omega) rfl (by simp <;> omega) (by simp) (by simp [hst])
  · have hn : i = cols.length := by omega
    subst hn
    simp [List.take_of_length_le, pickR_len]
theorem w_impl_sorted (l : List (List Int)) (h1 : l.length ≤ 4294967296) (h2 : ∀ r ∈ l, r.length ≤ 4294967296) : VC Tryz.prog 93 [.d (pS (cP cI) l)] (fun _ r => r = .d (pS (cP cI) (srtU l))) :=
  VC.plain (e_impl_sorted _ l (Nat.le_refl _) h1 h2) (fun n r h => by
    obtain ⟨y, rfl, hp, _, _⟩ := h
    have e := er_cS (c := cS cI) (e := cP cI) (pl := plS plI) (fun s => er_cS er_cI s) y
    rw [hp] at e
    simp only [cS, cP, erL, List.cons.injEq, and_true] at e
    simp only [rp, e, pS]) (by rw [pS]; rfl)
theorem w_impl_AtomBindings (d : PDb) (a : PAtom) (hlk : lkB d a.rel = true) (har : (lkR d a.rel).ar = a.vars.length) (hv5 : a.vars.length ≤ 5) (hv : ∀ v ∈ a.vars, 0 ≤ v ∧ v < 5) :
   VC Tryz.prog 135 [.agg ((eDb d).map V.d), .agg ((eAtom a).map V.d)] (fun _ r => r = .agg ((eReln ⟨(aVars a.vars).length, abR d a⟩).map V.d)) := by
  have hr := lk_ok hlk
  have hr16 := lk_rows hlk
  obtain ⟨dl, hdl⟩ : ∃ dl, dl = d.tabs := ⟨_, rfl⟩
  have hde : (eDb d).map V.d = [V.d (.pl (dl.map eTab))] := by rw [hdl]; simp [eDb]
  obtain ⟨nm, vs⟩ := a
  simp only at hlk har hv5 hv hr hr16
  have hav : (aVars vs).length ≤ 5 := by
    have := List.length_filter_le (fun v => vs.contains v) (rangeI 5)
    rw [rangeI_len] at this
    exact this
  have hAVm : ∀ c ∈ aVars vs, 0 ≤ c ∧ c < ((5 : Nat) : Int) := fun c hc => by
    have := (List.mem_filter.1 hc).1
    have := rangeI_mem.1 this
    omega
  have hrl := fun (t : List Int) (ht : t ∈ (lkR d nm).rows) => (rowsOk_mem hr ht).1
  refine VC.ofL EP s135 (by kernel_rfl) Tryz.func135 (by rfl) (by kernel_rfl) (by simp [Tryz.f135]) (by simp [Tryz.f135]) s135_ok fun B hl => ?_
  simp [Tryz.f135, s135_16, eAtom, cStr, hde]
  refine call_p (w_impl_AtomVariables ⟨nm, vs⟩) (by simp [eAtom, cStr]) fun hs1 hh1 hl1 => ?_
  simp at hh1
  obtain ⟨AV, hAV⟩ : ∃ AV, AV = aVars vs := ⟨_, rfl⟩
  rw [← hAV] at hl1 hav hAVm ⊢
  simp [s135_16, ]
  refine call_p (w_impl_LookupRelation d nm) (by simp [hde]) fun hs2 hh2 hl2 => ?_
  simp at hh2
  obtain ⟨R, hR⟩ : ∃ R, R = lkR d nm := ⟨_, rfl⟩
  have hab : abR d ⟨nm, vs⟩ = srtU (abL vs R.rows) := by rw [hR]; rfl
  rw [← hR] at hl2 har hr16 hrl ⊢
  rw [hab, hlk]
  obtain ⟨ra, rl⟩ := R
  simp only at har hr16 hrl
  subst har
  have hco : colsOk 5 vs = true := by
    simp only [colsOk, Bool.and_eq_true, decide_eq_true_eq, List.all_eq_true, inR]
    refine ⟨hv5, fun v hm => ?_⟩
    have := hv v hm
    have hw : IntKind.i64.wrap (5 - 1) = 4 := by decide
    rw [hw]; omega
  simp [eReln, s135_16, ]
  refine call_f (w_impl_columnsFit 5 vs) (by simp) rfl fun hs3 hh3 => ?_
  simp at hh3
  rw [hco]
  simp [s135_16, ]
  refine loop_ruleL (X := Nat) (fun i _ => i ≤ rl.length) (fun i => [(3, .ptr 3 0 0), (4, .ptr 4 0 0), (5, .d (.pl (AV.map cI))), (6, .ptr 6 0 0), (9, .own 92 0 (abL vs (rl.take i)).length), (47, .d (.pl (rl.map (cP cI)))), (48, .d (.int .i64 rl.length)), (49, .d (.int .i64 i))])
    (fun i => [(3, some (.box [.d (.str nm), .d (.pl (vs.map cI))])), (4, some (.box [.d (.int .i64 0), .d (.sl none none [])])), (6, some (.box [.d (.int .i64 AV.length), .d (.sl none none [])])), (92, some (.row 26 1 ((abL vs (rl.take i)).map (cP cI))))]) (fun i => rl.length - i) ?_ ?_
  · refine (lead_slot 9 92 26 1 (by omega) (by omega) (by simp)).bind ?_
    rintro _ rfl
    exact Lead.of ⟨0, by omega, rfl, rfl, Nat.le_refl _, by simp [abL], by simp [abL]⟩
  intro i hs t m hi hh
  by_cases hlt : i < rl.length
  · have hwi := wr1 (i := i) (by omega)
    have hst := abL_succ (vs := vs) hlt
    have hal := abL_len vs (rl.take i)
    rw [List.length_take] at hal
    obtain ⟨row, hrow⟩ : ∃ row, row = rl[i] := ⟨_, rfl⟩
    have hrvl : row.length = vs.length := by
      have := hrl _ (List.getElem_mem hlt)
      rw [← hrow] at this; omega
    rw [← hrow] at hst
    obtain ⟨AL, hAL⟩ : ∃ AL, AL = abL vs (rl.take i) := ⟨_, rfl⟩
    rw [← hAL] at hst hal ⊢
    have hL : LenOk 24 (AL.length + 1) := ⟨by omega, by simp only [maxLen]; omega⟩
    have L5 : LenOk 8 5 := ⟨by omega, by simp only [maxLen]; omega⟩
    refine anyQ2 fun Q => ?_
    simp [hlt, ← hrow, L5, s135_16, ]
    refine loop_rule (X := Nat) (fun j => j ≤ vs.length) (fun j => [(3, .ptr 3 0 0), (4, .ptr 4 0 0), (5, .d (.pl (AV.map cI))), (6, .ptr 6 0 0), (9, .own 92 0 AL.length), (11, .d (.pl (row.map cI))), (12, .own 53 0 5), (13, .d (.bool (fitJ vs row j))), (47, .d (.pl (rl.map (cP cI)))), (48, .d (.int .i64 rl.length)), (49, .d (.int .i64 i)), (55, .d (.pl (vs.map cI))), (56, .d (.int .i64 vs.length)), (57, .d (.int .i64 j))])
      (fun j => [(3, some (.box [.d (.str nm), .d (.pl (vs.map cI))])), (4, some (.box [.d (.int .i64 0), .d (.sl none none [])])), (6, some (.box [.d (.int .i64 AV.length), .d (.sl none none [])])), (53, some (.row 3 1 ((valJ vs row j).map cI))), (92, some (.row 26 1 (AL.map (cP cI))))]) (fun j => vs.length - j) 0 (by simp) (by simp [fitJ_zero]) (by simp [valJ_zero]) ?_
    intro j hs4 t m hj hh4
    by_cases hjl : j < vs.length
    · have hwj := wr1 (i := j) (by omega)
      have hjr : j < row.length := by omega
      have hvj := hv _ (List.getElem_mem hjl)
      obtain ⟨v, hve⟩ : ∃ v : Nat, vs[j] = (v : Int) := ⟨vs[j].toNat, by omega⟩
      have hv5' : v < 5 := by omega
      have hix := (idxL_mem (List.getElem_mem hjl)).1
      obtain ⟨p, hp⟩ : ∃ p : Nat, idxL vs (v : Int) = (p : Int) := by
        rw [← hve]
        have := idxL_ge vs vs[j]
        have h2 : vs.contains vs[j] = true := by simp
        rw [h2] at this
        exact ⟨(idxL vs vs[j]).toNat, by have := of_decide_eq_true this; omega⟩
      have hpr : p < row.length := by rw [hve, hp] at hix; omega
      have hf := fitJ_succ vs row j
      have hvs := valJ_succ (vs := vs) (row := row) hjl hjr
      have hvl := valJ_len vs row j
      rw [getD_el _ hjl, getD_el _ hjr, lookV, hve, hp, Int.toNat_natCast, getD_el _ hpr] at hf
      rw [hve, Int.toNat_natCast] at hvs
      simp [hjl, hve, s135_16, ]
      refine call_f (w_impl_indexOf vs v) (by simp) rfl fun hs5 hh5 => ?_
      simp at hh5
      rw [hp]
      cases hfj : fitJ vs row j
      · rw [hfj] at hf
        simp [hwj, hjr, hpr, hv5', hvl, -List.map_set, s135_16, ]
        exact back (j + 1) (by omega) (by omega) rfl (by simp <;> omega) (by simp [hf]) (by rw [hvs]; simp)
      · rw [hfj] at hf
        simp [hwj, hjr, hpr, hv5', hvl, -List.map_set, s135_16, ]
        exact back (j + 1) (by omega) (by omega) rfl (by simp <;> omega) (by simp [hf]) (by rw [hvs]; simp)
    · have hn : j = vs.length := by omega
      subst hn
      have hvl5 := valJ_len vs row vs.length
      rw [valJ_all hrvl] at hvl5
      rw [fitJ_all hrvl, valJ_all hrvl]
      cases hfr : fitR vs row
      · simp [hwi, s135_16, ]
        refine back2 (i + 1) (by omega) (by omega) rfl (by simp <;> omega) ?_ ?_
        · rw [hst, hfr]; simp
        · rw [hst, hfr]; simp
      · simp [hwi, s135_16, ]
        refine call_p (p_impl_pick (valL vs row) AV (by omega) (fun c hc => by rw [hvl5]; exact hAVm c hc)) (by simp [List.take_of_length_le, hvl5]) fun hs5 hh5 hl5 => ?_
        simp at hh5
        simp [hwi, hL, List.take_of_length_le, s135_16, ]
        refine back2 (i + 1) (by omega) (by omega) rfl (by simp <;> omega) ?_ ?_
        · rw [hst, hfr]; simp [hAV]
        · rw [hst, hfr]; simp [hAV]
  · have hn : i = rl.length := by omega
    subst hn
    simp [s135_16, ]
    refine call_p (w_impl_sorted (abL vs rl) (by have := abL_len vs rl; omega) (fun r hr => by have := abL_el r hr; omega)) (by simp [List.take_of_length_le]) fun hs5 hh5 hl5 => ?_
    simp at hh5
    simp [s135_16, ]
end

end Go.Proofs.YtggbpdjjlgejmaaGreat


namespace Go.Proofs.YtggbpdjjlgejmaaGreat
open Go.Vs Go.Proofs Go
set_option maxRecDepth 100000
set_option maxHeartbeats 1000000

section
attribute [local simp] plI_id plStr_id map_plI map_plStr pS cP cI
theorem p_impl_unite (a b : List Int) (hl : a.length + b.length ≤ 1000) : VC Tryz.prog 91 [.d (pS cI a), .d (pS cI b)] (fun _ r => r = .d (pS cI (uniL a b))) := by
  refine VC.plain (post := fun _ r => ∃ y : Ints, r = .d (dSl cI y) ∧ y.xs = uniL a b) ?_ (fun n r h => ?_) (by rw [pS]; rfl)
  · refine VC.untrack (t_impl_unite ⟨none, none, []⟩ ⟨none, none, []⟩ (by simp)) (by simp [pnVL, V.pn, D.pn]) fun As h1 h2 h3 => ?_
    obtain ⟨x, y, rfl, ⟨hx, tx, _⟩, hy, ty, _⟩ := rp_args2 h1 h2 h3
    obtain ⟨s, rfl, e1⟩ := rp_sl tk_I hx tx
    obtain ⟨t, rfl, e2⟩ := rp_sl tk_I hy ty
    simp [plS] at e1 e2
    have := t_impl_unite s t (by rw [e1, e2]; exact hl)
    rw [e1, e2] at this
    exact this
  · obtain ⟨y, rfl, e1⟩ := h
    have e := er_cS (c := cI) (e := cI) (pl := plI) er_cI y
    simp [plS, e1, cS, erL] at e
    simp only [rp, e, pS]
theorem w_impl_AtomRelation (d : PDb) (a : PAtom) (hlk : lkB d a.rel = true) (har : (lkR d a.rel).ar = a.vars.length) (hv5 : a.vars.length ≤ 5) (hv : ∀ v ∈ a.vars, 0 ≤ v ∧ v < 5) :
   VC Tryz.prog 90 [.agg ((eDb d).map V.d), .agg ((eAtom a).map V.d)] (fun _ r => r = .agg ((eVRel ⟨aVars a.vars, ⟨(aVars a.vars).length, abR d a⟩⟩).map V.d)) := by
  obtain ⟨dl, hdl⟩ : ∃ dl, dl = d.tabs := ⟨_, rfl⟩
  have hde : (eDb d).map V.d = [V.d (.pl (dl.map eTab))] := by rw [hdl]; simp [eDb]
  obtain ⟨nm, vs⟩ := a
  refine VC.ofL EP s90 (by kernel_rfl) Tryz.func90 (by rfl) (by kernel_rfl) (by simp [Tryz.f90]) (by simp [Tryz.f90]) s90_ok fun B hl => ?_
  simp [Tryz.f90, s90_1, eAtom, cStr, hde]
  refine call_p (w_impl_AtomVariables ⟨nm, vs⟩) (by simp [eAtom, cStr]) fun hs1 hh1 hl1 => ?_
  simp at hh1
  simp [s90_1, ]
  refine call_p (w_impl_AtomBindings d ⟨nm, vs⟩ hlk har hv5 hv) (by simp [eAtom, cStr, hde]) fun hs2 hh2 hl2 => ?_
  simp at hh2
  simp [eReln, eVRel, s90_1, ]
theorem w_impl_IsQueryFor (d : PDb) (q : PQuery) : VC Tryz.prog 89 [.agg ((eDb d).map V.d), .agg ((eQuery q).map V.d)] (fun _ r => r = .d (.bool (qryFor d q))) := by
  obtain ⟨dl, hdl⟩ : ∃ dl, dl = d.tabs := ⟨_, rfl⟩
  have hde : (eDb d).map V.d = [V.d (.pl (dl.map eTab))] := by rw [hdl]; simp [eDb]
  have hqe : (eQuery q).map V.d = [V.d (.int .i64 q.n), V.d (.pl (q.atoms.map eAtom)), V.d (.pl (q.out.map cI))] := by simp [eQuery]
  refine VC.ofL EP s89 (by kernel_rfl) Tryz.func89 (by rfl) (by kernel_rfl) (by simp [Tryz.f89]) (by simp [Tryz.f89]) s89_ok fun B hl => ?_
  simp [Tryz.f89, hde, hqe]
  refine call_f (w_impl_IsValidQuery q) (by simp [hqe]) rfl fun hs1 hh1 => ?_
  simp at hh1
  cases hq : queryOk q
  · simp [qryFor, hq, ]
  simp []
  refine call_f (w_impl_IsValidDatabase d) (by simp [hde]) rfl fun hs2 hh2 => ?_
  simp at hh2
  cases hd : dbOk d
  · simp [qryFor, hq, hd, ]
  simp []
  have hb : ∀ b, qryFor d q = b ↔ (q.atoms.all fun a => lkB d a.rel && decide ((lkR d a.rel).ar = a.vars.length)) = b := fun b => by simp only [qryFor, hq, hd, Bool.true_and]
  refine loop_rule (X := Nat) (fun i => i ≤ q.atoms.length ∧ AllTo (fun a => lkB d a.rel && decide ((lkR d a.rel).ar = a.vars.length)) q.atoms i) (fun i => [(2, .ptr 2 0 0), (3, .ptr 3 0 0), (18, .d (.pl (q.atoms.map eAtom))), (19, .d (.int .i64 q.atoms.length)), (20, .d (.int .i64 i))])
    (fun i => [(2, some (.box [.d (.pl (dl.map eTab))])), (3, some (.box [.d (.int .i64 q.n), .d (.pl (q.atoms.map eAtom)), .d (.pl (q.out.map cI))]))]) (fun i => q.atoms.length - i) 0 ⟨by simp, allTo_zero⟩ (by simp) (by simp) ?_
  rintro i hs t m ⟨hi, hat⟩ hh
  have hal : q.atoms.length ≤ 4 := queryOk_a4 hq
  by_cases hlt : i < q.atoms.length
  · have hwi := wr1 (i := i) (by omega)
    obtain ⟨⟨nm, vs⟩, ha⟩ : ∃ a, a = q.atoms[i] := ⟨_, rfl⟩
    have hnot := fun h => all_bad (l := q.atoms) (p := fun a => lkB d a.rel && decide ((lkR d a.rel).ar = a.vars.length)) hlt h
    have hst := allTo_step hat hlt
    rw [← ha] at hnot hst
    simp [hlt, ← ha, eAtom, cStr]
    refine call_p (w_impl_LookupRelation d nm) (by simp [hde]) fun hs3 hh3 hl3 => ?_
    simp at hh3
    cases hlk : lkB d nm
    · have := hnot (by simp [hlk])
      simp [this, hb, eReln, ]
    by_cases har : (lkR d nm).ar = vs.length
    · simp [hwi, har, eReln, ]
      exact back (i + 1) ⟨by omega, hst (by simp [hlk, har])⟩ (by omega) rfl (by simp <;> omega) (by simp) (by simp)
    · have := hnot (by simp [hlk, har])
      simp [this, har, hb, eReln, ]
  · have := allTo_done hat (by omega)
    simp [hlt, this, hb, ]
theorem w_impl_bindings (d : PDb) (q : PQuery) : VC Tryz.prog 47 [.agg ((eDb d).map V.d), .agg ((eQuery q).map V.d)] (fun _ r => r = .tup [.agg ((eReln (bdP d q)).map V.d), .d (.bool (bdB d q))]) := by
  obtain ⟨dl, hdl⟩ : ∃ dl, dl = d.tabs := ⟨_, rfl⟩
  have hde : (eDb d).map V.d = [V.d (.pl (dl.map eTab))] := by rw [hdl]; simp [eDb]
  have hqe : (eQuery q).map V.d = [V.d (.int .i64 q.n), V.d (.pl (q.atoms.map eAtom)), V.d (.pl (q.out.map cI))] := by simp [eQuery]
  refine VC.ofL EP s47 (by kernel_rfl) Tryz.func47 (by rfl) (by kernel_rfl) (by simp [Tryz.f47]) (by simp [Tryz.f47]) s47_ok fun B hl => ?_
  simp [Tryz.f47, s47_25, hde, hqe]
  refine call_f (w_impl_IsQueryFor d q) (by simp [hde, hqe]) rfl fun hs1 hh1 => ?_
  simp at hh1
  cases hqf : qryFor d q
  · simp [bdB, bdP, hqf, eReln, s47_25, ]
  have f := qf_of hqf
  simp [s47_25, ]
  have ha4 := f.a4
  refine loop_ruleL (X := Nat) (fun i _ => i ≤ q.atoms.length) (fun i => [(2, .ptr 2 0 0), (3, .ptr 3 0 0), (4, .ptr 4 0 0), (6, .d (.pl ((binds d (q.atoms.take i)).2.map (cP cI)))), (7, .d (.pl ((binds d (q.atoms.take i)).1.map cI))), (29, .d (.pl (q.atoms.map eAtom))), (30, .d (.int .i64 q.atoms.length)), (31, .d (.int .i64 i))])
    (fun i => [(2, some (.box [.d (.pl (dl.map eTab))])), (3, some (.box [.d (.int .i64 q.n), .d (.pl (q.atoms.map eAtom)), .d (.pl (q.out.map cI))])), (4, some (.box [.d (.int .i64 0), .d (.sl none none [])]))]) (fun i => q.atoms.length - i) ?_ ?_
  · refine (lead_frp 26 (T := 26) (sz := 1) (es := [[.pl []]]) (by simp)).bind ?_
    rintro _ rfl
    refine (lead_frp 27 (T := 3) (sz := 1) (es := []) (by simp)).bind ?_
    rintro _ rfl
    exact Lead.of ⟨0, by omega, rfl, rfl, Nat.le_refl _, by simp [binds], by simp⟩
  intro i hs t m hi hh
  by_cases hlt : i < q.atoms.length
  · have hwi := wr1 (i := i) (by omega)
    have hmem := List.getElem_mem hlt
    obtain ⟨⟨nm, vs⟩, ha⟩ : ∃ a, a = q.atoms[i] := ⟨_, rfl⟩
    have hsc := binds_succ d hlt
    have hl5 := binds_len5 f i
    have hle := binds_le f (i := i) (by omega)
    have hjn := binds_jn_take f i
    rw [← ha] at hmem hsc
    have hlk := f.lk _ hmem
    have har := f.ar _ hmem
    have hvl := f.vlen _ hmem
    have hvi : ∀ v ∈ vs, 0 ≤ v ∧ v < 5 := fun v hv => by have := f.vin _ hmem v hv; have := f.n5; omega
    have hab := abR_size f hmem
    have hav := aVars_len5 vs
    have hul := jn_len5 f (hjn.step (a := ⟨nm, vs⟩) hvi) (fun b hb => by
      rcases List.mem_append.1 hb with h | h
      · exact List.mem_of_mem_take h
      · rw [List.mem_singleton] at h; rw [h]; exact hmem)
    have huv := uniL_pw (aVars vs) hjn.pw
    have hal : ∀ s ∈ abR d ⟨nm, vs⟩, s.length = (aVars vs).length := ab_len
    have hrl := hjn.len
    simp only at hlk har hvl
    obtain ⟨⟨A, R⟩, hAR⟩ : ∃ p, p = binds d (q.atoms.take i) := ⟨_, rfl⟩
    obtain ⟨BV, hBV⟩ : ∃ b, b = aVars vs := ⟨_, rfl⟩
    obtain ⟨L, hL⟩ : ∃ l, l = abR d ⟨nm, vs⟩ := ⟨_, rfl⟩
    obtain ⟨U, hU⟩ : ∃ u, u = uniL A BV := ⟨_, rfl⟩
    simp only [joinS, ← hAR, ← hBV, ← hL, ← hU] at hsc hl5 hle hab hav hul huv hal hrl ⊢
    refine anyQ2 fun Q => ?_
    simp [hlt, ← ha, s47_25, eAtom, cStr]
    refine call_p (w_impl_AtomRelation d ⟨nm, vs⟩ hlk har hvl.2 hvi) (by simp [hde, eAtom, cStr]) fun hs2 hh2 hl2 => ?_
    simp at hh2
    rw [← hBV, ← hL]
    simp [s47_25, eVRel, eReln]
    refine call_p (p_impl_unite A BV (by omega)) (by simp) fun hs3 hh3 hl3 => ?_
    simp at hh3
    rw [← hU]
    simp [s47_25, ]
    refine loop_ruleL (X := Nat) (fun k _ => k ≤ R.length) (fun k => [(2, .ptr 2 0 0), (3, .ptr 3 0 0), (4, .ptr 4 0 0), (7, .d (.pl (A.map cI))), (10, .ptr 10 0 0), (11, .own 70 0 (joinL U A (R.take k) BV L).length), (12, .d (.pl (U.map cI))), (29, .d (.pl (q.atoms.map eAtom))), (30, .d (.int .i64 q.atoms.length)), (31, .d (.int .i64 i)), (42, .d (.pl (R.map (cP cI)))), (43, .d (.int .i64 R.length)), (44, .d (.int .i64 k))])
      (fun k => [(2, some (.box [.d (.pl (dl.map eTab))])), (3, some (.box [.d (.int .i64 q.n), .d (.pl (q.atoms.map eAtom)), .d (.pl (q.out.map cI))])), (4, some (.box [.d (.int .i64 0), .d (.sl none none [])])), (10, some (.box [.d (.pl (BV.map cI)), .d (.int .i64 BV.length), .d (.pl (L.map (cP cI)))])), (70, some (.row 26 1 ((joinL U A (R.take k) BV L).map (cP cI))))]) (fun k => R.length - k) ?_ ?_
    · refine (lead_slot 11 70 26 1 (by omega) (by omega) (by simp)).bind ?_
      rintro _ rfl
      exact Lead.of ⟨0, by omega, rfl, rfl, Nat.le_refl _, by simp [joinL_nil], by simp [joinL_nil]⟩
    intro k hs4 t m hk hh4
    by_cases hkl : k < R.length
    · have hwk := wr1 (i := k) (by omega)
      have hrk := hrl _ (List.getElem_mem hkl)
      obtain ⟨r, hr⟩ : ∃ r, r = R[k] := ⟨_, rfl⟩
      have hgd : R.getD k [] = r := by rw [hr, List.getD_eq_getElem?_getD, List.getElem?_eq_getElem hkl]; rfl
      have hz := jnI_zero U A R BV L k
      have hA := jnI_all (u := U) (a := A) (b := BV) (list := L) hkl
      rw [← hr] at hrk
      refine anyQ2 fun Q2 => ?_
      simp [hkl, ← hr, s47_25, ]
      refine loop_rule (X := Nat) (fun j => j ≤ L.length) (fun j => [(2, .ptr 2 0 0), (3, .ptr 3 0 0), (4, .ptr 4 0 0), (7, .d (.pl (A.map cI))), (10, .ptr 10 0 0), (11, .own 70 0 (jnI U A R BV L k j).length), (12, .d (.pl (U.map cI))), (14, .d (.pl (r.map cI))), (29, .d (.pl (q.atoms.map eAtom))), (30, .d (.int .i64 q.atoms.length)), (31, .d (.int .i64 i)), (42, .d (.pl (R.map (cP cI)))), (43, .d (.int .i64 R.length)), (44, .d (.int .i64 k)), (50, .d (.pl (L.map (cP cI)))), (51, .d (.int .i64 L.length)), (52, .d (.int .i64 j))])
        (fun j => [(2, some (.box [.d (.pl (dl.map eTab))])), (3, some (.box [.d (.int .i64 q.n), .d (.pl (q.atoms.map eAtom)), .d (.pl (q.out.map cI))])), (4, some (.box [.d (.int .i64 0), .d (.sl none none [])])), (10, some (.box [.d (.pl (BV.map cI)), .d (.int .i64 BV.length), .d (.pl (L.map (cP cI)))])), (70, some (.row 26 1 ((jnI U A R BV L k j).map (cP cI))))]) (fun j => L.length - j) 0 (by simp) (by simp [hz]) (by simp [hz]) ?_
      intro j hs5 t m hj hh5
      by_cases hjl : j < L.length
      · have hwj := wr1 (i := j) (by omega)
        have hsl := hal _ (List.getElem_mem hjl)
        obtain ⟨s, hs'⟩ : ∃ s, s = L[j] := ⟨_, rfl⟩
        have hsu := jnI_succ (u := U) (a := A) (rows := R) (b := BV) (k := k) hjl
        have hjle := jnI_len (u := U) (a := A) (rows := R) (b := BV) (list := L) (k := k) (j := j) (by omega) hab
        rw [← hs'] at hsl hsu
        rw [hgd] at hsu
        obtain ⟨X, hX⟩ : ∃ x, x = jnI U A R BV L k j := ⟨_, rfl⟩
        rw [← hX] at hsu hjle ⊢
        have hLo : LenOk 24 (X.length + 1) := ⟨by omega, by simp only [maxLen]; omega⟩
        simp [hjl, ← hs', s47_25, ]
        refine call_p (w_impl_glue U A r BV s (by omega) (fun v hv => (huv.2 v).1 hv) hrk hsl) (by simp) fun hs6 hh6 hl6 => ?_
        simp at hh6
        cases hg : glB U A r BV s
        · rw [hg] at hsu
          simp [hwj, s47_25, ]
          exact back (j + 1) (by omega) (by omega) rfl (by simp <;> omega) (by simp [hsu]) (by simp [hsu])
        · rw [hg] at hsu
          simp [hwj, hLo, List.take_of_length_le, s47_25, ]
          exact back (j + 1) (by omega) (by omega) rfl (by simp <;> omega) (by simp [hsu]) (by simp [hsu])
      · have hn : j = L.length := by omega
        subst hn
        simp [hwk, s47_25, ]
        exact back2 (k + 1) (by omega) (by omega) rfl (by simp <;> omega) (by simp [hA]) (by simp [hA])
    · have hn : k = R.length := by omega
      subst hn
      rw [List.take_of_length_le (Nat.le_refl _)]
      simp [hwi, s47_25, ]
      refine Back2.lead (lead_frp 70 (T := 26) (sz := 1) (es := (joinL U A R BV L).map (cP cI)) (by simp)) ?_
      rintro _ rfl
      exact back2 (i + 1) (by omega) (by omega) rfl (by simp <;> omega) (by simp [hsc, List.take_of_length_le]) (by simp)
  · have hn : i = q.atoms.length := by omega
    subst hn
    simp [s47_25, ]
    have hle := binds_le f (i := q.atoms.length) (by omega)
    have hjn := binds_jn f
    have hv5 := binds_len5 f q.atoms.length
    rw [List.take_of_length_le (Nat.le_refl _)] at hle hv5
    refine ⟨?_, ?_⟩
    all_goals
      refine call_p (w_impl_sorted (binds d q.atoms).2 (by omega) (fun r hr => by have := hjn.len r hr; omega)) (by simp) fun hs2 hh2 hl2 => ?_
      simp at hh2
      simp [s47_25, ]
      refine call_f (w_impl_IsValidRelation ⟨q.n, srtU (binds d q.atoms).2⟩) (by simp [eReln]) rfl fun hs3 hh3 => ?_
      simp at hh3
      cases hv : rowsOk q.n (srtU (binds d q.atoms).2)
      · simp [bdB, bdP, hqf, hv, eReln, s47_25, ]
      · simp [bdB, bdP, hqf, hv, eReln, s47_25, ]
end

end Go.Proofs.YtggbpdjjlgejmaaGreat


namespace Go.Proofs.YtggbpdjjlgejmaaGreat
open Go.Vs Go.Proofs Go
set_option maxRecDepth 100000
set_option maxHeartbeats 1000000

section
attribute [local simp] plI_id plStr_id map_plI map_plStr pS cP cI
theorem w_spec_IsQueryFor (d : PDb) (q : PQuery) (hst : ∀ t ∈ d.tabs, t.name.length ≤ maxLen) (hsq : ∀ a ∈ q.atoms, a.rel.length ≤ maxLen) : VC Tryz.prog 84 [.agg ((eDb d).map V.d), .agg ((eQuery q).map V.d)] (fun _ r => r = .d (.bool (qryFor d q))) := by
  obtain ⟨dl, hdl⟩ : ∃ dl, dl = d.tabs := ⟨_, rfl⟩
  have hde : (eDb d).map V.d = [V.d (.pl (dl.map eTab))] := by rw [hdl]; simp [eDb]
  have hqe : (eQuery q).map V.d = [V.d (.int .i64 q.n), V.d (.pl (q.atoms.map eAtom)), V.d (.pl (q.out.map cI))] := by simp [eQuery]
  refine VC.ofL EP s84 (by kernel_rfl) Tryz.func84 (by rfl) (by kernel_rfl) (by simp [Tryz.f84]) (by simp [Tryz.f84]) s84_ok fun B hl => ?_
  simp [hde, hqe, lnVL, V.ln, D.ln, maxLen] at hl
  simp [Tryz.f84, s84_4, s84_5, hde, hqe]
  refine loop_rule (X := Nat) (fun i => i ≤ q.atoms.length ∧ AllTo (fun a => lkB d a.rel && decide ((lkR d a.rel).ar = a.vars.length)) q.atoms i) (fun i => [(2, .ptr 2 0 0), (3, .ptr 3 0 0), (5, .d (.int .i64 i))])
    (fun i => [(2, some (.box [.d (.pl (dl.map eTab))])), (3, some (.box [.d (.int .i64 q.n), .d (.pl (q.atoms.map eAtom)), .d (.pl (q.out.map cI))]))]) (fun i => q.atoms.length - i) 0 ⟨by simp, allTo_zero⟩ (by simp) (by simp) ?_
  rintro i hs t m ⟨hi, hat⟩ hh
  by_cases hlt : i < q.atoms.length
  · have hwi := wr1 (i := i) (by omega)
    obtain ⟨⟨nm, vs⟩, ha⟩ : ∃ a, a = q.atoms[i] := ⟨_, rfl⟩
    have hnot := fun h => all_bad (l := q.atoms) (p := fun a => lkB d a.rel && decide ((lkR d a.rel).ar = a.vars.length)) hlt h
    have hst' := allTo_step hat hlt
    have hb : (q.atoms.all fun a => lkB d a.rel && decide ((lkR d a.rel).ar = a.vars.length)) = false → qryFor d q = false := fun h => by simp only [qryFor, h, Bool.and_false]
    rw [← ha] at hnot hst'
    simp [hlt, ← ha, s84_5, eAtom, cStr]
    refine cutT (X := Unit) (fun _ _ => True) (fun _ => [(2, .ptr 2 0 0), (3, .ptr 3 0 0), (5, .d (.int .i64 i)), (6, .ptr 6 0 0), (7, .d (.bool (lkB d nm)))])
      (fun _ => [(2, some (.box [.d (.pl (dl.map eTab))])), (3, some (.box [.d (.int .i64 q.n), .d (.pl (q.atoms.map eAtom)), .d (.pl (q.out.map cI))])), (6, some (.box ((eReln (lkR d nm)).map V.d)))]) ?_ ?_
    · intro K hK
      simp [hlt, ← ha, eAtom, cStr, s84_4, ]
      repeat' apply And.intro
      all_goals
        refine call_p (w_spec_LookupRelation d nm hst) (by simp [hde]) fun hs3 hh3 hl3 => ?_
        simp at hh3
        simp [eReln, s84_4, ]
        exact hK () _ trivial rfl rfl (by simp <;> omega) (by simp) (by simp [eReln])
    rintro ⟨⟩ hs3 t m - hh3
    cases hlk : lkB d nm
    · have := hb (hnot (by simp [hlk]))
      simp [this, eReln, s84_4, s84_5, ]
    by_cases har : (lkR d nm).ar = vs.length
    · simp [hwi, har, hlt, ← ha, eAtom, cStr, eReln, s84_4, s84_5, ]
      exact back (i + 1) ⟨by omega, hst' (by simp [hlk, har])⟩ (by omega) rfl (by simp <;> omega) (by simp) (by simp)
    · have := hb (hnot (by simp [hlk, har]))
      simp [this, har, hlt, ← ha, eAtom, cStr, eReln, s84_4, s84_5, ]
  · have := allTo_done hat (by omega)
    simp [hlt, s84_4, s84_5, ]
    refine call_f (w_spec_IsValidQuery q hsq) (by simp [hqe]) rfl fun hs1 hh1 => ?_
    simp at hh1
    cases hq : queryOk q
    · simp [qryFor, hq, s84_4, s84_5, ]
    simp [s84_4, s84_5, ]
    refine call_f (w_spec_IsValidDatabase d hst) (by simp [hde]) rfl fun hs2 hh2 => ?_
    simp at hh2
    simp [qryFor, hq, this, s84_4, s84_5, ]
theorem w_spec_l8Walk (d : PDb) (q : PQuery) (f : Qf d q) (hst : ∀ t ∈ d.tabs, t.name.length ≤ maxLen) (row : List Int) (hrow : row.length = q.n.toNat) : ∀ (k n : Nat), n + k = q.atoms.length → 
   VC Tryz.prog 126 [.agg ((eDb d).map V.d), .agg ((eQuery q).map V.d), .d (.int .i64 n), .d (pS cI row)] (fun _ r => r = .d (pS (cP cI) (walkL d (q.atoms.drop n) row))) := by
  obtain ⟨dl, hdl⟩ : ∃ dl, dl = d.tabs := ⟨_, rfl⟩
  have hde : (eDb d).map V.d = [V.d (.pl (dl.map eTab))] := by rw [hdl]; simp [eDb]
  have hqe : (eQuery q).map V.d = [V.d (.int .i64 q.n), V.d (.pl (q.atoms.map eAtom)), V.d (.pl (q.out.map cI))] := by simp [eQuery]
  intro k
  induction k generalizing row with
  | zero =>
    intro n hn
    refine VC.ofL EP s126 (by kernel_rfl) Tryz.func126 (by rfl) (by kernel_rfl) (by simp [Tryz.f126]) (by simp [Tryz.f126]) s126_ok fun B hl => ?_
    have hn : n = q.atoms.length := by omega
    subst hn
    simp [pS, lnVL, V.ln, D.ln] at hl
    have hn5 := f.n5
    have hL : LenOk 8 row.length := ⟨by omega, by simp only [maxLen]; omega⟩
    simp [Tryz.f126, s126_4, s126_14, hde, hqe, hL, List.take_of_length_le, walkL, List.drop_length]
  | succ k ih =>
    intro n hn
    have hlt : n < q.atoms.length := by omega
    have hmem := List.getElem_mem hlt
    obtain ⟨⟨nm, vs⟩, ha⟩ : ∃ a, a = q.atoms[n] := ⟨_, rfl⟩
    rw [← ha] at hmem
    have hlk := f.lk _ hmem
    have har := f.ar _ hmem
    have hvl := f.vlen _ hmem
    have hvi := f.vin _ hmem
    have hn5 := f.n5
    have ha4 := f.a4
    have hr16 := lk_rows hlk
    have hro := lk_ok hlk
    have hdr : q.atoms.drop n = ⟨nm, vs⟩ :: q.atoms.drop (n + 1) := by rw [ha]; exact List.drop_eq_getElem_cons hlt
    have hne : ¬ n = q.atoms.length := by omega
    have hwn := wr1 (i := n) (by omega)
    have h16 : ∀ a ∈ q.atoms.drop (n + 1), (lkR d a.rel).rows.length ≤ 16 := fun a h => lk_rows (f.lk a (List.mem_of_mem_drop h))
    have hd4 : (q.atoms.drop (n + 1)).length ≤ 4 := by rw [List.length_drop]; omega
    have hwa := fun (ts : List (List Int)) => wkF_all (d := d) (al := q.atoms.drop (n + 1)) (vs := vs) (row := row) (ts := ts) h16 hd4
    rw [hdr, walkL_cons]
    simp only at hlk har hvl hvi
    have hrl := fun (t : List Int) (ht : t ∈ (lkR d nm).rows) => (rowsOk_mem hro ht).1
    obtain ⟨R, hR⟩ : ∃ R, R = lkR d nm := ⟨_, rfl⟩
    simp only [← hR] at hrl hr16 har ⊢
    obtain ⟨ra, rl⟩ := R
    simp only at hrl hr16 har
    subst har
    refine VC.ofL EP s126 (by kernel_rfl) Tryz.func126 (by rfl) (by kernel_rfl) (by simp [Tryz.f126]) (by simp [Tryz.f126]) s126_ok fun B hl => ?_
    simp [Tryz.f126, s126_14, s126_14, hde, hqe, hlt, ← ha, hne]
    refine cutT (X := Unit) (fun _ _ => True) (fun _ => [(2, .d (.int .i64 n)), (3, .d (.pl (row.map cI))), (4, .ptr 4 0 0), (5, .ptr 5 0 0), (8, .d (.sl none none [])), (9, .own 26 0 0), (10, .ptr 10 0 0)])
      (fun _ => [(4, some (.box [.d (.pl (dl.map eTab))])), (5, some (.box [.d (.int .i64 q.n), .d (.pl (q.atoms.map eAtom)), .d (.pl (q.out.map cI))])), (10, some (.box [.d (.int .i64 vs.length), .d (.pl (rl.map (cP cI)))])), (26, some (.row 26 1 []))]) ?_ ?_
    · intro K hK
      simp [hlt, ← ha, eAtom, cStr, s126_4, ]
      repeat' apply And.intro
      all_goals
        refine call_p (w_spec_LookupRelation d nm hst) (by simp [hde]) fun hs1 hh1 hl1 => ?_
        simp at hh1
        simp [← hR, eReln, s126_4, ]
        exact hK () _ trivial rfl rfl (by simp <;> omega) (by simp) (by simp)
    rintro ⟨⟩ hs0 t m - hh0
    obtain ⟨G, hG⟩ : ∃ G : Nat → List (List Int), ∀ i, G i = (rl.take i).flatMap (wkF d (q.atoms.drop (n + 1)) vs row) := ⟨_, fun _ => rfl⟩
    have hG0 : G 0 = [] := by rw [hG]; rfl
    have hGs : ∀ i (h : i < rl.length), G (i + 1) = G i ++ wkF d (q.atoms.drop (n + 1)) vs row rl[i] := fun i h => by rw [hG, hG]; exact flatMap_succ h
    have hGe : rl.flatMap (wkF d (q.atoms.drop (n + 1)) vs row) = G rl.length := by rw [hG, List.take_of_length_le (Nat.le_refl _)]
    have hGl : ∀ i, (G i).length ≤ min i rl.length * 65536 := fun i => by have := hwa (rl.take i); rwa [List.length_take, ← hG] at this
    rw [hGe]
    simp [s126_4, s126_14, ]
    refine loop_rule (X := Nat) (fun i => i ≤ rl.length) (fun i => [(2, .d (.int .i64 n)), (3, .d (.pl (row.map cI))), (4, .ptr 4 0 0), (5, .ptr 5 0 0), (8, .d (.sl none none [])), (9, .own 26 0 (G i).length), (10, .ptr 10 0 0), (12, .d (.int .i64 i))])
      (fun i => [(4, some (.box [.d (.pl (dl.map eTab))])), (5, some (.box [.d (.int .i64 q.n), .d (.pl (q.atoms.map eAtom)), .d (.pl (q.out.map cI))])), (10, some (.box [.d (.int .i64 vs.length), .d (.pl (rl.map (cP cI)))])), (26, some (.row 26 1 ((G i).map (cP cI))))]) (fun i => rl.length - i) 0 (by simp) (by simp [hG0]) (by simp [hG0]) ?_
    intro i hs t m hi hh
    by_cases hil : i < rl.length
    · have hwi := wr1 (i := i) (by omega)
      have htl := hrl _ (List.getElem_mem hil)
      obtain ⟨tt, ht⟩ : ∃ tt, tt = rl[i] := ⟨_, rfl⟩
      have hsu := hGs i hil
      have hln := hGl i
      rw [← ht] at htl hsu
      obtain ⟨O, hO⟩ : ∃ O, O = G i := ⟨_, rfl⟩
      rw [← hO] at hsu hln ⊢
      have hLr : LenOk 8 row.length := ⟨by omega, by simp only [maxLen]; omega⟩
      simp [hil, hLr, List.take_of_length_le, s126_4, s126_14, ]
      refine loop_rule (X := Nat × List Int × Bool) (fun p => AsS row vs tt p.1 p.2.1 p.2.2) (fun p => [(2, .d (.int .i64 n)), (3, .d (.pl (row.map cI))), (4, .ptr 4 0 0), (5, .ptr 5 0 0), (8, .d (.sl none none [])), (9, .own 26 0 O.length), (10, .ptr 10 0 0), (12, .d (.int .i64 i)), (13, .own 45 0 row.length), (14, .d (.bool p.2.2)), (15, .d (.int .i64 p.1))])
        (fun p => [(4, some (.box [.d (.pl (dl.map eTab))])), (5, some (.box [.d (.int .i64 q.n), .d (.pl (q.atoms.map eAtom)), .d (.pl (q.out.map cI))])), (10, some (.box [.d (.int .i64 vs.length), .d (.pl (rl.map (cP cI)))])), (26, some (.row 26 1 (O.map (cP cI)))), (45, some (.row 3 1 (p.2.1.map cI)))]) (fun p => vs.length - p.1) (0, row, true) .zero (by simp) (by simp) ?_
      rintro ⟨j, x, fits⟩ hs4 t m hA hh4
      simp only at hA
      have hle := hA.le
      have hxl := hA.len
      by_cases hc : fits = true ∧ j < vs.length
      · obtain ⟨rfl, hjl⟩ := hc
        have hwj := wr1 (i := j) (by omega)
        have hvj := hvi _ (List.getElem_mem hjl)
        have hjt : j < tt.length := by omega
        have hsp := hA.step hjl hjt
        obtain ⟨v, hv⟩ : ∃ v : Nat, vs[j] = (v : Int) := ⟨vs[j].toNat, by omega⟩
        have hvx : v < x.length := by omega
        rw [hv, Int.toNat_natCast, getD_el _ hvx] at hsp
        by_cases h1 : x[v] = -1
        · simp only [h1, true_or, decide_true] at hsp
          rw [hxl] at hvx
          simp [hjl, hv, h1, hlt, ← ha, ← ht, eAtom, hwj, hvx, hjt, hil, hxl, -List.map_set, s126_4, s126_14, ]
          exact back (j + 1, x.set v tt[j], true) hsp (by simp only; omega) rfl (by simp <;> omega) (by simp) (by simp)
        · simp only [h1, false_or] at hsp
          rw [hxl] at hvx
          simp [hjl, hv, h1, hlt, ← ha, ← ht, eAtom, hwj, hvx, hjt, hil, hxl, -List.map_set, s126_4, s126_14, ]
          exact back (j + 1, x.set v tt[j], decide (x[v] = tt[j])) hsp (by simp only; omega) rfl (by simp <;> omega) (by simp) (by simp)
      · have hdn := hA.done (fun h => Nat.le_of_not_lt fun h2 => hc ⟨h, h2⟩)
        cases fits
        · by_cases hjl : j < vs.length
          · simp [hjl, hwi, s126_4, s126_14, ]
            exact back (i + 1) (by omega) (by omega) rfl (by simp <;> omega) (by simp [hsu, wkF, hdn]) (by simp [hsu, wkF, hdn])
          · simp [hjl, hwi, s126_4, s126_14, ]
            exact back (i + 1) (by omega) (by omega) rfl (by simp <;> omega) (by simp [hsu, wkF, hdn]) (by simp [hsu, wkF, hdn])
        · have hjl : ¬ j < vs.length := fun h => hc ⟨rfl, h⟩
          simp [hjl, hwi, hwn, s126_4, s126_14, ]
          have hx2 : (x.map cI).take row.length = x.map cI := List.take_of_length_le (by simp [hxl])
          have hwl := wkF_len (d := d) (al := q.atoms.drop (n + 1)) (vs := vs) (row := row) (t := tt) h16 hd4
          rw [if_pos rfl] at hdn
          have hwe : wkF d (q.atoms.drop (n + 1)) vs row tt = walkL d (q.atoms.drop (n + 1)) x := by rw [wkF, hdn]
          rw [hwe] at hsu hwl
          have hLw : LenOk 24 (O.length + (walkL d (q.atoms.drop (n + 1)) x).length) := ⟨by omega, by simp only [maxLen]; omega⟩
          refine call_p (ih x (by omega) (n + 1) (by omega)) (by simp [hde, hqe, hx2, show row.length ≤ x.length by omega]) fun hs5 hh5 hl5 => ?_
          simp at hh5
          simp [hwi, hLw, s126_4, s126_14, ]
          exact back (i + 1) (by omega) (by omega) rfl (by simp <;> omega) (by simp [hsu]) (by simp [hsu, List.take_of_length_le])
    · have hn : i = rl.length := by omega
      subst hn
      obtain ⟨O, hO⟩ : ∃ O, O = G rl.length := ⟨_, rfl⟩
      rw [← hO]
      simp [List.take_of_length_le, s126_4, s126_14, ]
theorem w_spec_AllBindings (d : PDb) (q : PQuery) (hst : ∀ t ∈ d.tabs, t.name.length ≤ maxLen) (hsq : ∀ a ∈ q.atoms, a.rel.length ≤ maxLen) : VC Tryz.prog 83 [.agg ((eDb d).map V.d), .agg ((eQuery q).map V.d)] (fun _ r => r = .agg ((eReln (abP d q)).map V.d)) := by
  obtain ⟨dl, hdl⟩ : ∃ dl, dl = d.tabs := ⟨_, rfl⟩
  have hde : (eDb d).map V.d = [V.d (.pl (dl.map eTab))] := by rw [hdl]; simp [eDb]
  have hqe : (eQuery q).map V.d = [V.d (.int .i64 q.n), V.d (.pl (q.atoms.map eAtom)), V.d (.pl (q.out.map cI))] := by simp [eQuery]
  refine VC.ofL EP s83 (by kernel_rfl) Tryz.func83 (by rfl) (by kernel_rfl) (by simp [Tryz.f83]) (by simp [Tryz.f83]) s83_ok fun B hl => ?_
  simp [Tryz.f83, s83_6, hde, hqe]
  refine call_f (w_spec_IsQueryFor d q hst hsq) (by simp [hde, hqe]) rfl fun hs1 hh1 => ?_
  simp at hh1
  cases hqf : qryFor d q
  · simp [abP, hqf, eReln, s83_6, ]
  have f := qf_of hqf
  have hn5 := f.n5
  obtain ⟨N, hN⟩ : ∃ N : Nat, q.n = (N : Int) := ⟨q.n.toNat, by omega⟩
  have hNt : q.n.toNat = N := by omega
  have hwm := fun z => (walk_mem f z).1
  have hws : (walkL d q.atoms (List.replicate q.n.toNat (-1))).length ≤ 65536 := by
    refine Nat.le_trans (walk_size _ _ fun a ha => lk_rows (f.lk a ha)) ?_
    have : 16 ^ q.atoms.length ≤ 16 ^ 4 := Nat.pow_le_pow_right (by omega) f.a4.2
    simpa using this
  have hwk := w_spec_l8Walk d q f hst (List.replicate q.n.toNat (-1)) (by simp) q.atoms.length 0 (by omega)
  rw [List.drop_zero] at hwk
  have hab : abP d q = newR q.n (walkL d q.atoms (List.replicate q.n.toNat (-1))) := by simp only [abP, hqf, if_true]
  rw [hab]
  rw [hNt] at hwm hws hwk ⊢
  obtain ⟨W, hW⟩ : ∃ W, W = walkL d q.atoms (List.replicate N (-1)) := ⟨_, rfl⟩
  rw [← hW] at hwm hws hwk ⊢
  simp [s83_6, ]
  refine loop_rule (X := Nat) (fun i => i ≤ N) (fun i => [(2, .ptr 2 0 0), (3, .ptr 3 0 0), (4, .ptr 4 0 0), (5, .own 13 0 i)])
    (fun i => [(2, some (.box [.d (.pl (dl.map eTab))])), (3, some (.box [.d (.int .i64 q.n), .d (.pl (q.atoms.map eAtom)), .d (.pl (q.out.map cI))])), (4, some (.box [.d (.int .i64 0), .d (.sl none none [])])), (13, some (.row 3 1 ((List.replicate i (-1)).map cI)))]) (fun i => N - i) 0 (by simp) (by simp) (by simp) ?_
  intro i hs t m hi hh
  by_cases hlt : i < N
  · have hL : LenOk 8 (i + 1) := ⟨by omega, by simp only [maxLen]; omega⟩
    have hli : (i : Int) < q.n := by omega
    simp [hli, hL, List.take_of_length_le, s83_6, ]
    exact back (i + 1) (by omega) (by omega) rfl (by simp <;> omega) (by simp) (by simp [List.replicate_succ'])
  · have hn : i = N := by omega
    subst hn
    have hli : ¬ (i : Int) < q.n := by omega
    simp [hli, ]
    refine cutT (X := Unit) (fun _ _ => True) (fun _ => [(4, .ptr 4 0 0), (6, .ptr 6 0 0), (7, .d (.bool (newB q.n W)))])
      (fun _ => [(4, some (.box [.d (.int .i64 0), .d (.sl none none [])])), (6, some (.box ((eReln (newR q.n W)).map V.d)))]) ?_ ?_
    · intro K hK
      simp [s83_6, ]
      repeat' apply And.intro
      all_goals
        refine call_p hwk (by simp [hde, hqe, List.take_of_length_le]) fun hs3 hh3 hl3 => ?_
        simp at hh3
        simp [s83_6, ]
        repeat' apply And.intro
        all_goals
          refine call_p (w_spec_NewRelation q.n W (by omega) (fun x hx => by have := (hwm x hx).1; omega)) (by simp) fun hs4 hh4 hl4 => ?_
          simp at hh4
          simp [eReln, s83_6, ]
          exact hK () _ trivial rfl rfl (by simp <;> omega) (by simp) (by simp [eReln])
    rintro ⟨⟩ hs3 t m - hh3
    cases hnb : newB q.n W
    · simp [eReln, newR, hnb, s83_6, ]
    · simp [eReln, s83_6, ]
end

end Go.Proofs.YtggbpdjjlgejmaaGreat


namespace Go.Proofs.YtggbpdjjlgejmaaGreat
open Go.Vs Go.Proofs Go
set_option maxRecDepth 100000
set_option maxHeartbeats 1000000

section
attribute [local simp] plI_id plStr_id map_plI map_plStr
theorem e_impl_copyQuery (q : PQuery) (h1 : q.atoms.length ≤ 1000) (h2 : ∀ a ∈ q.atoms, a.vars.length ≤ 1000) (h3 : q.out.length ≤ 1000) (hst : ∀ a ∈ q.atoms, a.rel.length ≤ maxLen) : VC Tryz.prog 50 [.agg ((eQuery q).map V.d)]
   (fun n v => ∃ y : Query, v = .agg ((cQuery y).map V.d) ∧ plQuery y = q ∧ okQuery y ∧ Good (cQuery y) (whQuery y) n) := by
  refine VC.of E s50 (by kernel_rfl) Tryz.func50 (by rfl) (by kernel_rfl) (by simp [Tryz.f50]) (by simp [Tryz.f50]) s50_ok fun B => ?_
  obtain ⟨qn, l, qo⟩ := q
  simp only at h1 h2 h3 hst
  simp [Tryz.f50, s50_5, s50_5, eQuery, pS, cI, cP]
  refine cutT (X := Ints) (fun y0 hs => plS plI y0 = qo ∧ okS okI y0 ∧ Good (cS cI y0) (whS whI y0) B ∧ ∀ g ∈ idsL (cS cI y0), g < hs) (fun _ => [(1, .ptr 1 0 0), (2, .ptr 2 0 0), (3, .ptr 3 0 0)])
    (fun y0 => [(1, some (.box [.d (.int .i64 qn), .d (.pl (l.map eAtom)), .d (.pl (qo.map cI))])), (2, some (.box [.d (.int .i64 0), .d (.sl none none []), .d (.sl none none [])])), (3, some (.box [.d (.int .i64 qn), .d (.sl none none []), .d (dSl cI y0)]))]) ?_ ?_
  · intro K hK
    simp [s50_1, ]
    repeat' apply And.intro
    all_goals
      refine call_some (e_impl_copyInts qo (by omega)) (by simp [pS, cI]) (by simp) fun n1 hs1 r1 hn1 hm1 hp1 hr1 => ?_
      obtain ⟨y0, rfl, p0, k0, G0⟩ := hp1
      simp at hn1
      have u0 : ∀ g ∈ idsL (cS cI y0), g < hs1 := fun g hg => hr1 g (by rw [idsL_cS] at hg; exact hg)
      simp [s50_1, ]
      exact hK y0 _ ⟨p0, k0, G0.le (by omega), u0⟩ rfl rfl (by simp <;> omega) (by simp) (by simp)
  rintro y0 hs0 t m ⟨p0, k0, G0, u0⟩ hh0
  simp [s50_1, s50_5, ]
  refine loop_ruleL (X := Nat × List Atom) (CopI cAtom whAtom okAtom plAtom l hs0) (fun p => [(1, .ptr 1 0 0), (2, .ptr 2 0 0), (3, .ptr 3 0 0), (13, .d (.pl (l.map eAtom))), (14, .d (.int .i64 l.length)), (15, .d (.int .i64 p.1))]) (fun p => [(2, some (.box [.d (.int .i64 0), .d (.sl none none []), .d (.sl none none [])])), (3, some (.box [.d (.int .i64 qn), .own 28 0 p.2.length, .d (dSl cI y0)])), (28, some (.row 125 2 (p.2.map cAtom)))]) (fun p => l.length - p.1) ?_ ?_
  · refine (lead_box 3 1 28 125 2 [.d (.int .i64 qn), .d (.sl none none []), .d (dSl cI y0)] (by omega) (by omega) (by omega) (by simp) rfl).bind ?_
    rintro _ rfl
    exact Lead.of ⟨(0, []), .zero, rfl, rfl, Nat.le_refl _, by simp, by simp⟩
  rintro ⟨i, ys⟩ hs t m hI hh
  have hle := hI.le
  have hyl := hI.len
  simp only at hle
  by_cases hlt : i < l.length
  · have hwi := wr1 (i := i) (by omega)
    have hL : LenOk 40 (ys.length + 1) := ⟨by omega, by simp only [maxLen]; omega⟩
    have hr := h2 _ (List.getElem_mem hlt)
    have hn := hst _ (List.getElem_mem hlt)
    obtain ⟨nm, vs, hT⟩ : ∃ nm vs, l[i] = ⟨nm, vs⟩ := ⟨_, _, rfl⟩
    rw [hT] at hr hn
    simp only at hr hn
    refine anyQ2 fun Q => ?_
    simp [hlt, hT, s50_1, s50_5, eAtom, cStr, cI, cP, pS]
    repeat' apply And.intro
    all_goals
      refine call_some (e_impl_copyInts vs (by omega)) (by simp [pS, cI]) (by simp) fun n1 hs1 r1 hn1 hm1 hp1 hr1 => ?_
      obtain ⟨y, rfl, p1, k1, G1⟩ := hp1
      simp at hn1
      have u1 : ∀ g ∈ idsL (cAtom ⟨nm, y⟩), g < hs1 := fun g hg => hr1 g (by
        rw [cAtom, idsL_app] at hg
        have := (List.mem_append.1 hg).resolve_left (by simp [cStr, idsL, D.ids])
        rw [idsL_cS] at this; exact this)
      have Ga : Good (cAtom ⟨nm, y⟩) (whAtom ⟨nm, y⟩) n1 := Good.app (good_Str n1 nm) G1 fun g h h' => by simp [cStr, idsL, D.ids] at h
      simp [hL, hwi, s50_1, s50_5, ]
      exact back2 (i + 1, ys ++ [⟨nm, y⟩]) (hI.snoc hlt (by rw [hT]; simp only [plAtom, p1]; rfl) (show okAtom (⟨nm, y⟩ : Atom) from ⟨hn, k1⟩) (by omega) hm1 Ga u1) (by simp only; omega) rfl (by simp <;> omega) (by simp) (by simp [cAtom, cStr, cS])
  · have hall := hI.all (by omega)
    simp [hlt, s50_1, s50_5, ]
    intro γ hs' h1' hg
    obtain ⟨q1, q2⟩ := gam_at hg (k := 28) (T := 125) (sz := 2) (es := ys.map cAtom) (by simp)
    have q3 := gam_row hg (k := 28) (T := 125) (sz := 2) (es := ys.map cAtom) (by simp)
    have qf : ∀ g, γ 28 = some g → g ∉ (dSl cI y0).ids := fun g hγ => by
      have hb := (hg.fr 28 125 2 _ g (by simp; rfl) hγ).1.box 3 [.d (.int .i64 qn), .own 28 0 ys.length, .d (dSl cI y0)] (by simp)
      simpa [V.ids, idsVL, D.ids, idsLL] using hb
    clear hg
    have hG := hI.good
    have K2 : Good (cS cAtom ⟨γ 28, some (125, 2), ys⟩) (whS whAtom ⟨γ 28, some (125, 2), ys⟩) B := good_row (fun g hg => (q1 g hg).1) (by simpa using q2) q3 ⟨hG.nd, fun g hg => Nat.le_trans hh0 (hG.lo g hg)⟩ hG.wh
    refine ⟨⟨qn, ⟨γ 28, some (125, 2), ys⟩, y0⟩, by simp [cQuery, cS, cI, dSl, List.take_of_length_le], ?_, ⟨trivial, ⟨by simp only [maxLen]; show ys.length ≤ _; omega, hI.ok⟩, k0⟩, ?_⟩
    · simp only [plQuery, plS, hall]
      have := p0; simp only [plS] at this; rw [this, plI_id]
    · have K1 := Good.app (good_I B qn) K2 (fun g h h' => by simp [cI, idsL, D.ids] at h)
      have K := Good.app K1 G0 (fun g h h' => by
        have h0 := u0 g h'
        rw [idsL_app] at h
        rcases List.mem_append.1 h with h | h
        · simp [cI, idsL, D.ids] at h
        · rw [idsL_cS] at h h'
          simp only [dSl, D.ids, List.mem_append] at h
          rcases h with h | h
          · exact qf g (by cases hk : γ 28 with
              | none => rw [hk] at h; simp at h
              | some z => rw [hk] at h; simp at h; rw [h]) h'
          · have := hG.lo g h; omega)
      exact ⟨K.nd, K.lo, K.wh.1.1, K.wh.1.2, K.wh.2⟩
theorem good_View0 (B : Nat) : Good (cView ⟨⟨0, nilS, nilS⟩, ⟨0, nilS, nilS⟩⟩) (whView ⟨⟨0, nilS, nilS⟩, ⟨0, nilS, nilS⟩⟩) B :=
  ⟨by simp [cView, cQuery, cCnt, nilS, cS, cI, dSl, idsL, D.ids, idsLL], by simp [cView, cQuery, cCnt, nilS, cS, cI, dSl, idsL, D.ids, idsLL], ⟨⟨trivial, ⟨⟨by simp [nilS], by simp [nilS]⟩, by simp [nilS]⟩, ⟨⟨by simp [nilS], by simp [nilS]⟩, by simp [nilS]⟩⟩, trivial, ⟨⟨by simp [nilS], by simp [nilS]⟩, by simp [nilS]⟩, ⟨⟨by simp [nilS], by simp [nilS]⟩, by simp [nilS]⟩⟩⟩
theorem e_impl_CountedFromRelation (a : PReln) : VC Tryz.prog 48 [.agg ((eReln a).map V.d)]
   (fun n r => ∃ y : Cnt, r = .tup [.agg ((cCnt y).map V.d), .d (.bool (rowsOk a.ar a.rows))] ∧ plCnt y = cntOf a ∧ okCnt y ∧ Good (cCnt y) (whCnt y) n) := by
  refine VC.untrack (t_impl_CountedFromRelation ⟨0, nilS⟩ ⟨trivial, ok_nilS⟩) (pn_agg (pn_eReln a)) fun As h1 h2 h3 => ?_
  obtain ⟨x, rfl, hx, tx, lx⟩ := rp_args1 h1 h2 h3
  obtain ⟨s, rfl, e1⟩ := rp_agg tk_Reln hx tx
  have := t_impl_CountedFromRelation s (okReln_ln (lnVL_d _ (by simpa only [V.ln] using lx)))
  rw [e1] at this
  exact this
theorem e_impl_ProjectCounted (a : PCnt) (c : List Int) : VC Tryz.prog 49 [.agg ((eCnt a).map V.d), .d (pS cI c)]
   (fun n r => ∃ y : Cnt, r = .tup [.agg ((cCnt y).map V.d), .d (.bool (projB a c))] ∧ plCnt y = projP a c ∧ okCnt y ∧ Good (cCnt y) (whCnt y) n) := by
  refine VC.untrack (t_impl_ProjectCounted ⟨0, nilS, nilS⟩ nilS ⟨trivial, ok_nilS, ok_nilS⟩ ok_nilS) (by have := pn_agg (pn_eCnt a); simp only [pnVL, Bool.and_true] at this ⊢; rw [this]; simp [pS, V.pn, D.pn]) fun As h1 h2 h3 => ?_
  obtain ⟨x, y, rfl, ⟨hx, tx, lx⟩, hy, ty, ly⟩ := rp_args2 h1 h2 h3
  obtain ⟨s, rfl, e1⟩ := rp_agg tk_Cnt hx tx
  obtain ⟨t, rfl, e2⟩ := rp_sl tk_I hy ty
  have := t_impl_ProjectCounted s t (okCnt_ln (lnVL_d _ (by simpa only [V.ln] using lx))) (ok_ln (c := cI) ok_lnI (by simpa [V.ln, cS, lnL] using ly))
  rw [e1, e2] at this
  exact this
theorem e_impl_NewView (d : PDb) (q : PQuery) (hst : ∀ a ∈ q.atoms, a.rel.length ≤ maxLen) : VC Tryz.prog 12 [.agg ((eDb d).map V.d), .agg ((eQuery q).map V.d)]
   (fun n v => ∃ y : View, v = .tup [.agg ((cView y).map V.d), .d (.bool (nvB d q))] ∧ plView y = nvP d q ∧ okView y ∧ Good (cView y) (whView y) n) := by
  obtain ⟨dl, hdl⟩ : ∃ dl, dl = d.tabs := ⟨_, rfl⟩
  have hde : (eDb d).map V.d = [V.d (.pl (dl.map eTab))] := by rw [hdl]; simp [eDb, pS, cP]
  have hqe : (eQuery q).map V.d = [V.d (.int .i64 q.n), V.d (.pl (q.atoms.map eAtom)), V.d (.pl (q.out.map cI))] := by simp [eQuery, cI, cP, pS]
  refine VC.of E s12 (by kernel_rfl) Tryz.func12 (by rfl) (by kernel_rfl) (by simp [Tryz.f12]) (by simp [Tryz.f12]) s12_ok fun B => ?_
  simp [Tryz.f12, s12_8, hde, hqe]
  refine call_p (w_impl_bindings d q) (by simp [hde, hqe]) fun hs1 hh1 hl1 => ?_
  simp at hh1
  cases hb : bdB d q
  · simp [eReln, cI, cP, pS, s12_8, ]
    have hn : nvB d q = false := by simp only [nvB, hb, Bool.false_and]
    exact ⟨⟨⟨0, nilS, nilS⟩, ⟨0, nilS, nilS⟩⟩, ⟨by simp [cView, cQuery, cCnt, nilS, cS, cI, dSl], hn⟩, by simp only [nvP, hn]; rfl, ⟨⟨trivial, ok_nilS, ok_nilS⟩, trivial, ok_nilS, ok_nilS⟩, good_View0 B⟩
  simp [eReln, cI, cP, pS, s12_8, ]
  refine call_some ((e_impl_CountedFromRelation (bdP d q)).er (by simp [eReln, cI, cP, pS])) (by simp) (by simp) fun n1 hs2 r1 hn1 hm1 hp1 hr1 => ?_
  obtain ⟨⟨xa, xr, xc⟩, rfl, p1, k1, G1⟩ := hp1
  simp at hn1
  simp [cCnt, cS, cI, dSl, s12_8, ]
  refine call_some ((e_impl_ProjectCounted (cntOf (bdP d q)) q.out).er (by rw [← p1]; simp [eCnt, plCnt, er_SI, er_I, cS, cP, pS, erLL_map (er_cS er_cI), erLL_map er_cI, plS])) (by simp) (by simp) fun n2 hs3 r2 hn2 hm2 hp2 hr2 => ?_
  obtain ⟨⟨ya, yr, yc⟩, rfl, p2, k2, G2⟩ := hp2
  simp at hn2
  have u2 : ∀ g ∈ idsL (cCnt ⟨ya, yr, yc⟩), g < hs3 := fun g hg => hr2 g (by rw [← ids_agg] at hg; simp [V.ids, idsVL] at hg ⊢; exact hg)
  cases hj : projB (cntOf (bdP d q)) q.out
  · simp [cCnt, cS, cI, dSl, s12_8, ]
    have hn : nvB d q = false := by simp only [nvB, hj, Bool.and_false]
    exact ⟨⟨⟨0, nilS, nilS⟩, ⟨0, nilS, nilS⟩⟩, ⟨by simp [cView, cQuery, cCnt, nilS, cS, cI, dSl], hn⟩, by simp only [nvP, hn]; rfl, ⟨⟨trivial, ok_nilS, ok_nilS⟩, trivial, ok_nilS, ok_nilS⟩, good_View0 B⟩
  have hn : nvB d q = true := by simp only [nvB, hb, hj, Bool.and_true]
  simp [cCnt, cS, cI, dSl, s12_8, ]
  have f : Qf d q := qf_of (by cases h : qryFor d q with | true => rfl | false => simp [bdB, h] at hb)
  have ho : q.out.length ≤ 1000 := by have := f.out5; omega
  repeat' apply And.intro
  all_goals
    refine call_some ((e_impl_copyQuery q (by have := f.a4; omega) (fun a h => by have := f.vlen a h; omega) ho hst).er (by simp [hqe])) (by simp) (by simp) fun n3 hs4 r3 hn3 hm3 hp3 hr3 => ?_
    obtain ⟨⟨za, zr, zc⟩, rfl, p3, k3, G3⟩ := hp3
    simp at hn3
    simp [cQuery, cS, cI, dSl, s12_8, ]
    refine ⟨⟨⟨za, zr, zc⟩, ⟨ya, yr, yc⟩⟩, ⟨by simp [cView, cQuery, cCnt, cS, cI, dSl], hn⟩, by simp only [nvP, nvR, hn, if_true, plView, p2, p3], ⟨k3, k2⟩, ?_⟩
    exact Good.app (G3.le (by omega)) (G2.le (by omega)) fun g h h' => by
      have := u2 g h'; have := G3.lo g h; omega
end

end Go.Proofs.YtggbpdjjlgejmaaGreat


namespace Go.Proofs.YtggbpdjjlgejmaaGreat
open Go.Vs Go.Proofs Go
set_option maxRecDepth 100000
set_option maxHeartbeats 1000000

section
attribute [local simp] plI_id plStr_id map_plI map_plStr
theorem nvR_false {d : PDb} {q : PQuery} (h : nvB d q = false) : nvR d q = ⟨0, [], []⟩ := by simp [nvR, h]
theorem nvR_out {d : PDb} {q : PQuery} (h : bdB d q = true) : nvR d q = projP (cntOf (bdP d q)) q.out := by
  cases hp : projB (cntOf (bdP d q)) q.out
  · simp [nvR, nvB, hp, projP]
  · simp [nvR, nvB, h, hp]
theorem w_spec_l28Z (d : PDb) (q : PQuery) (hst : ∀ t ∈ d.tabs, t.name.length ≤ maxLen) (hsq : ∀ a ∈ q.atoms, a.rel.length ≤ maxLen) : VC Tryz.prog 42 [.agg ((eDb d).map V.d), .agg ((eQuery q).map V.d)] (fun _ r => r = .tup [.agg ((eCnt (nvR d q)).map V.d), .d (.bool (nvB d q))]) := by
  obtain ⟨dl, hdl⟩ : ∃ dl, dl = d.tabs := ⟨_, rfl⟩
  have hde : (eDb d).map V.d = [V.d (.pl (dl.map eTab))] := by rw [hdl]; simp [eDb, pS, cP]
  have hqe : (eQuery q).map V.d = [V.d (.int .i64 q.n), V.d (.pl (q.atoms.map eAtom)), V.d (.pl (q.out.map cI))] := by simp [eQuery, cI, cP, pS]
  have hab := ab_ar d q
  refine VC.ofL EP s42 (by kernel_rfl) Tryz.func42 (by rfl) (by kernel_rfl) (by simp [Tryz.f42]) (by simp [Tryz.f42]) s42_ok fun B hl => ?_
  simp [Tryz.f42, hde, hqe]
  refine call_p (w_spec_AllBindings d q hst hsq) (by simp [hde, hqe]) fun hs1 hh1 hl1 => ?_
  simp at hh1
  rw [ab_bd] at hab ⊢
  simp [eReln, cI, cP, pS, ]
  refine call_f (w_spec_IsQueryFor d q hst hsq) (by simp [hde, hqe]) rfl fun hs2 hh2 => ?_
  simp at hh2
  cases hqf : qryFor d q
  · have hb : bdB d q = false := by rw [← hab, hqf]; rfl
    have hn : nvB d q = false := by simp only [nvB, hb, Bool.false_and]
    simp [hn, nvR_false hn, eCnt, cI, cP, pS, ]
  by_cases har : (bdP d q).ar = q.n
  · have hb : bdB d q = true := by rw [← hab, hqf]; simp [har]
    have hn : nvB d q = projB (cntOf (bdP d q)) q.out := by simp only [nvB, hb, Bool.true_and]
    simp [har, ]
    refine call_p (w_spec_CountedFromRelation (bdP d q)) (by simp [eReln, cI, cP, pS, har]) fun hs3 hh3 hl3 => ?_
    simp at hh3
    simp [eCnt, cI, cP, pS, ]
    refine call_p (w_spec_ProjectCounted (cntOf (bdP d q)) q.out (by have := (qf_of hqf).out5; omega)) (by simp [eCnt, cI, cP, pS]) fun hs4 hh4 hl4 => ?_
    simp at hh4
    simp [eCnt, cI, cP, pS, hn, nvR_out hb, ]
  · have hb : bdB d q = false := by rw [← hab, hqf]; simp [har]
    have hn : nvB d q = false := by simp only [nvB, hb, Bool.false_and]
    simp [har, hn, nvR_false hn, eCnt, cI, cP, pS, ]
def ivB (d : PDb) (v : PView) : Bool := nvB d v.q && decide (nvR d v.q = v.r)
theorem w_spec_IsValidView (d : PDb) (v : PView) (hst : ∀ t ∈ d.tabs, t.name.length ≤ maxLen) (hsq : ∀ a ∈ v.q.atoms, a.rel.length ≤ maxLen) : VC Tryz.prog 73 [.agg ((eDb d).map V.d), .agg ((eView v).map V.d)] (fun _ r => r = .d (.bool (ivB d v))) := by
  obtain ⟨dl, hdl⟩ : ∃ dl, dl = d.tabs := ⟨_, rfl⟩
  have hde : (eDb d).map V.d = [V.d (.pl (dl.map eTab))] := by rw [hdl]; simp [eDb, pS, cP]
  have hqe : (eQuery v.q).map V.d = [V.d (.int .i64 v.q.n), V.d (.pl (v.q.atoms.map eAtom)), V.d (.pl (v.q.out.map cI))] := by simp [eQuery, cI, cP, pS]
  have hve : (eView v).map V.d = [V.d (.int .i64 v.q.n), V.d (.pl (v.q.atoms.map eAtom)), V.d (.pl (v.q.out.map cI)), V.d (.int .i64 v.r.ar), V.d (.pl (v.r.rows.map (cP cI))), V.d (.pl (v.r.cs.map cI))] := by simp [eView, eQuery, eCnt, cI, cP, pS]
  refine VC.ofL EP s73 (by kernel_rfl) Tryz.func73 (by rfl) (by kernel_rfl) (by simp [Tryz.f73]) (by simp [Tryz.f73]) s73_ok fun B hl => ?_
  simp [Tryz.f73, hde, hve]
  refine call_p (w_spec_l28Z d v.q hst hsq) (by simp [hde, hqe]) fun hs1 hh1 hl1 => ?_
  simp at hh1
  cases hn : nvB d v.q
  · simp [ivB, hn, eCnt, cI, cP, pS, ]
  simp [eCnt, cI, cP, pS, ]
  refine call_f (w_spec_EqualCounted (nvR d v.q) v.r) (by simp [eCnt, cI, cP, pS]) rfl fun hs2 hh2 => ?_
  simp [ivB, hn, ]
theorem p_impl_NewView (d : PDb) (q : PQuery) (hst : ∀ a ∈ q.atoms, a.rel.length ≤ maxLen) : VC Tryz.prog 12 [.agg ((eDb d).map V.d), .agg ((eQuery q).map V.d)]
   (fun _ v => v = .tup [.agg ((eView (nvP d q)).map V.d), .d (.bool (nvB d q))]) :=
  VC.plain2 er_cView (e_impl_NewView d q hst)
theorem w_impl_IsValidView (d : PDb) (v : PView) (hsq : ∀ a ∈ v.q.atoms, a.rel.length ≤ maxLen) : VC Tryz.prog 75 [.agg ((eDb d).map V.d), .agg ((eView v).map V.d)] (fun _ r => r = .d (.bool (ivB d v))) := by
  obtain ⟨dl, hdl⟩ : ∃ dl, dl = d.tabs := ⟨_, rfl⟩
  have hde : (eDb d).map V.d = [V.d (.pl (dl.map eTab))] := by rw [hdl]; simp [eDb, pS, cP]
  have hqe : (eQuery v.q).map V.d = [V.d (.int .i64 v.q.n), V.d (.pl (v.q.atoms.map eAtom)), V.d (.pl (v.q.out.map cI))] := by simp [eQuery, cI, cP, pS]
  have hve : (eView v).map V.d = [V.d (.int .i64 v.q.n), V.d (.pl (v.q.atoms.map eAtom)), V.d (.pl (v.q.out.map cI)), V.d (.int .i64 v.r.ar), V.d (.pl (v.r.rows.map (cP cI))), V.d (.pl (v.r.cs.map cI))] := by simp [eView, eQuery, eCnt, cI, cP, pS]
  refine VC.ofL EP s75 (by kernel_rfl) Tryz.func75 (by rfl) (by kernel_rfl) (by simp [Tryz.f75]) (by simp [Tryz.f75]) s75_ok fun B hl => ?_
  simp [Tryz.f75, hde, hve]
  refine call_p (p_impl_NewView d v.q hsq) (by simp [hde, hqe]) fun hs1 hh1 hl1 => ?_
  simp at hh1
  cases hn : nvB d v.q
  · simp [ivB, hn, eView, eQuery, eCnt, cI, cP, pS, ]
  have hnp : (nvP d v.q).r = nvR d v.q := by simp [nvP, hn]
  simp [eView, eQuery, eCnt, cI, cP, pS, ]
  refine call_f (w_impl_EqualCounted (nvR d v.q) v.r) (by simp [eCnt, cI, cP, pS, hnp]) rfl fun hs2 hh2 => ?_
  simp [ivB, hn, ]
end

end Go.Proofs.YtggbpdjjlgejmaaGreat


namespace Go.Proofs.YtggbpdjjlgejmaaGreat
open Go.Vs Go.Proofs Go
set_option maxRecDepth 100000
set_option maxHeartbeats 1000000

section
attribute [local simp] plI_id plStr_id map_plI map_plStr pS cP cI
theorem w_spec_l7Copy (q : PQuery) (h1 : q.atoms.length ≤ 1000) (h2 : ∀ a ∈ q.atoms, a.vars.length ≤ 1000) (h3 : q.out.length ≤ 1000) : VC Tryz.prog 43 [.agg ((eQuery q).map V.d)] (fun _ v => v = .agg ((eQuery q).map V.d)) := by
  obtain ⟨qn, l, qo⟩ := q
  simp only at h1 h2 h3
  have hL0 : LenOk 8 qo.length := ⟨by omega, by simp only [maxLen]; omega⟩
  refine VC.ofL EP s43 (by kernel_rfl) Tryz.func43 (by rfl) (by kernel_rfl) (by simp [Tryz.f43]) (by simp [Tryz.f43]) s43_ok fun B hl => ?_
  simp [Tryz.f43, s43_5, s43_5, eQuery]
  refine cutT (X := Unit) (fun _ _ => True) (fun _ => [(1, .ptr 1 0 0), (2, .ptr 2 0 0), (3, .ptr 3 0 0)])
    (fun _ => [(1, some (.box [.d (.int .i64 qn), .d (.pl (l.map eAtom)), .d (.pl (qo.map cI))])), (2, some (.box [.d (.int .i64 0), .d (.sl none none []), .d (.sl none none [])])), (3, some (.box [.d (.int .i64 qn), .d (.sl none none []), .own 7 0 qo.length])), (7, some (.row 3 1 (qo.map cI)))]) ?_ ?_
  · intro K hK
    simp [hL0, s43_1, ]
    repeat' apply And.intro
    all_goals exact hK () _ trivial rfl rfl (by simp <;> omega) (by simp) (by simp)
  rintro ⟨⟩ hs0 t m - hh0
  simp [s43_1, s43_5, ]
  refine loop_ruleL (X := Nat) (fun i _ => i ≤ l.length) (fun i => [(1, .ptr 1 0 0), (2, .ptr 2 0 0), (3, .ptr 3 0 0), (4, .d (.int .i64 i))])
    (fun i => [(1, some (.box [.d (.int .i64 qn), .d (.pl (l.map eAtom)), .d (.pl (qo.map cI))])), (2, some (.box [.d (.int .i64 0), .d (.sl none none []), .d (.sl none none [])])), (3, some (.box [.d (.int .i64 qn), .own 37 0 i, .own 7 0 qo.length])), (7, some (.row 3 1 (qo.map cI))), (37, some (.row 125 2 ((l.take i).map eAtom)))]) (fun i => l.length - i) ?_ ?_
  · refine (lead_box 3 1 37 125 2 [.d (.int .i64 qn), .d (.sl none none []), .own 7 0 qo.length] (by omega) (by omega) (by omega) (by simp) rfl).bind ?_
    rintro _ rfl
    exact Lead.of ⟨0, by simp, rfl, rfl, Nat.le_refl _, by simp, by simp⟩
  · intro i hs t m hi hh
    by_cases hlt : i < l.length
    · have hwi := wr1 (i := i) (by omega)
      have hL : LenOk 40 (i + 1) := ⟨by omega, by simp only [maxLen]; omega⟩
      have hx := h2 _ (List.getElem_mem hlt)
      obtain ⟨nm, vs, hT⟩ : ∃ nm vs, l[i] = ⟨nm, vs⟩ := ⟨_, _, rfl⟩
      have hst : (l.take (i + 1)).map eAtom = (l.take i).map eAtom ++ [eAtom ⟨nm, vs⟩] := by rw [List.take_succ_eq_append_getElem hlt, hT]; simp
      rw [hT] at hx
      simp only at hx
      have hL2 : LenOk 8 vs.length := ⟨by omega, by simp only [maxLen]; omega⟩
      refine anyQ2 fun Q => ?_
      simp [hlt, hL, hL2, hwi, hT, List.take_of_length_le, show min i l.length = i by omega, s43_1, s43_5, eAtom, cStr]
      repeat' apply And.intro
      all_goals
        refine back2 (i + 1) (by omega) (by omega) rfl (by simp <;> omega) (by simp) ?_
        rw [List.map_take, List.map_take] at hst
        simp only [eAtom, cStr, cP, pS, cI, List.cons_append, List.nil_append] at hst
        simp [hst]
    · have hn : i = l.length := by omega
      subst hn
      simp [List.take_of_length_le]
theorem w_spec_NegateCounted (z : PCnt) (h1 : z.rows.length ≤ 4294967296) (h2 : ∀ r ∈ z.rows, r.length ≤ 4294967296) (h3 : z.cs.length ≤ 4294967296) : VC Tryz.prog 61 [.agg ((eCnt z).map V.d)] (fun _ v => v = .agg ((eCnt (negW z)).map V.d)) := by
  obtain ⟨za, zr, zc⟩ := z
  simp only at h1 h2 h3
  refine VC.ofL EP s61 (by kernel_rfl) Tryz.func61 (by rfl) (by kernel_rfl) (by simp [Tryz.f61]) (by simp [Tryz.f61]) s61_ok fun B hl => ?_
  simp [Tryz.f61, s61_6, s61_6, eCnt]
  refine call_p (w_spec_l5Copy ⟨0, zr⟩ h1 h2) (by simp [eReln]) fun hs1 hh1 hl1 => ?_
  simp at hh1
  simp [eReln, s61_6, ]
  refine loop_ruleL (X := Nat) (fun i _ => i ≤ zc.length) (fun i => [(1, .ptr 1 0 0), (2, .ptr 2 0 0), (4, .ptr 4 0 0), (5, .d (.int .i64 i))])
    (fun i => [(1, some (.box [.d (.int .i64 za), .d (.pl (zr.map (cP cI))), .d (.pl (zc.map cI))])), (2, some (.box [.d (.int .i64 0), .d (.sl none none []), .d (.sl none none [])])),
      (4, some (.box [.d (.int .i64 za), .d (.pl (zr.map (cP cI))), .own 31 0 i])), (31, some (.row 3 1 (((zc.take i).map neg64).map cI)))]) (fun i => zc.length - i) ?_ ?_
  · refine (lead_box 4 2 31 3 1 [.d (.int .i64 za), .d (.pl (zr.map (cP cI))), .d (.sl none none [])] (by omega) (by omega) (by omega) (by simp) rfl).bind ?_
    rintro _ rfl
    exact Lead.of ⟨0, by simp, rfl, rfl, Nat.le_refl _, by simp, by simp⟩
  · intro i hs t m hi hh
    by_cases hlt : i < zc.length
    · have hwi := wr1 (i := i) (by omega)
      have hL : LenOk 8 (i + 1) := ⟨by omega, by simp only [maxLen]; omega⟩
      have hmin : min i zc.length = i := by omega
      simp [hlt, hwi, hL, hmin, s61_6, ]
      refine back2 (i + 1) (by omega) (by omega) rfl (by simp) (by simp) ?_
      have e1 : List.take (i + 1) (List.map (cI ∘ neg64) zc) = List.take i (List.map (cI ∘ neg64) zc) ++ [cI (neg64 zc[i])] := by
        rw [List.take_succ_eq_append_getElem (by simpa using hlt)]; simp
      simp
      rw [e1]; simp [neg64]
    · have hn : i = zc.length := by omega
      subst hn
      simp [negW, List.take_of_length_le]
theorem w_spec_NewView (d : PDb) (q : PQuery) (hst : ∀ t ∈ d.tabs, t.name.length ≤ maxLen) (hsq : ∀ a ∈ q.atoms, a.rel.length ≤ maxLen) : VC Tryz.prog 9 [.agg ((eDb d).map V.d), .agg ((eQuery q).map V.d)] (fun _ r => r = .tup [.agg ((eView (nvP d q)).map V.d), .d (.bool (nvB d q))]) := by
  obtain ⟨dl, hdl⟩ : ∃ dl, dl = d.tabs := ⟨_, rfl⟩
  have hde : (eDb d).map V.d = [V.d (.pl (dl.map eTab))] := by rw [hdl]; simp [eDb]
  have hqe : (eQuery q).map V.d = [V.d (.int .i64 q.n), V.d (.pl (q.atoms.map eAtom)), V.d (.pl (q.out.map cI))] := by simp [eQuery]
  refine VC.ofL EP s9 (by kernel_rfl) Tryz.func9 (by rfl) (by kernel_rfl) (by simp [Tryz.f9]) (by simp [Tryz.f9]) s9_ok fun B hl => ?_
  simp [Tryz.f9, s9_4, hde, hqe]
  refine call_p (w_spec_l28Z d q hst hsq) (by simp [hde, hqe]) fun hs1 hh1 hl1 => ?_
  simp at hh1
  cases hn : nvB d q
  · simp [nvP, hn, eView, eQuery, eCnt, s9_4, ]
  have f : Qf d q := qf_of (by
    cases h : qryFor d q with
    | true => rfl
    | false => simp [nvB, bdB, h] at hn)
  simp [eCnt, s9_4, ]
  repeat' apply And.intro
  all_goals
    refine call_p (w_spec_l7Copy q (by have := f.a4; omega) (fun a h => by have := f.vlen a h; omega) (by have := f.out5; omega)) (by simp [hqe]) fun hs2 hh2 hl2 => ?_
    simp at hh2
    simp [nvP, hn, eView, eQuery, eCnt, s9_4, ]
def vdG (d : PDb) (q : PQuery) (x : PDelta) : Bool := appB d x && nvB d q && nvB (appP d x) q
def vdR (d : PDb) (q : PQuery) (x : PDelta) : PCnt := if vdG d q x then addCP (nvR (appP d x) q) (negW (nvR d q)) else ⟨0, [], []⟩
def vdB (d : PDb) (q : PQuery) (x : PDelta) : Bool := vdG d q x && addCB (nvR (appP d x) q) (negW (nvR d q))
theorem w_spec_ViewDelta (d : PDb) (q : PQuery) (x : PDelta) (hz : szDb d) (hst : ∀ t ∈ d.tabs, t.name.length ≤ maxLen) (hsq : ∀ a ∈ q.atoms, a.rel.length ≤ maxLen) (hnm : x.name.length ≤ maxLen) :
   VC Tryz.prog 21 [.agg ((eDb d).map V.d), .agg ((eQuery q).map V.d), .agg ((eDelta x).map V.d)] (fun _ r => r = .tup [.agg ((eCnt (vdR d q x)).map V.d), .d (.bool (vdB d q x))]) := by
  obtain ⟨dl, hdl⟩ : ∃ dl, dl = d.tabs := ⟨_, rfl⟩
  have hde : (eDb d).map V.d = [V.d (.pl (dl.map eTab))] := by rw [hdl]; simp [eDb]
  have hqe : (eQuery q).map V.d = [V.d (.int .i64 q.n), V.d (.pl (q.atoms.map eAtom)), V.d (.pl (q.out.map cI))] := by simp [eQuery]
  have hxe : (eDelta x).map V.d = [V.d (.str x.name), V.d (.int .i64 x.ins.ar), V.d (.pl (x.ins.rows.map (cP cI))), V.d (.int .i64 x.del.ar), V.d (.pl (x.del.rows.map (cP cI)))] := by simp [eDelta, eReln, cStr]
  obtain ⟨el, hel⟩ : ∃ el, el = (appP d x).tabs := ⟨_, rfl⟩
  have hee : (eDb (appP d x)).map V.d = [V.d (.pl (el.map eTab))] := by rw [hel]; simp [eDb]
  have hst2 := app_strs (x := x) hst
  refine VC.ofL EP s21 (by kernel_rfl) Tryz.func21 (by rfl) (by kernel_rfl) (by simp [Tryz.f21]) (by simp [Tryz.f21]) s21_ok fun B hl => ?_
  simp [Tryz.f21, s21_6, hde, hqe, hxe]
  refine call_p (w_spec_ApplyDelta d x hz hst hnm) (by simp [hde, hxe]) fun hs1 hh1 hl1 => ?_
  simp at hh1
  simp [hee, s21_6, ]
  refine call_p (w_spec_l28Z d q hst hsq) (by simp [hde, hqe]) fun hs2 hh2 hl2 => ?_
  simp at hh2
  simp [eCnt, s21_6, ]
  refine call_p (w_spec_l28Z (appP d x) q hst2 hsq) (by simp [hee, hqe]) fun hs3 hh3 hl3 => ?_
  simp at hh3
  cases h1 : appB d x <;> cases h2 : nvB d q <;> cases h3 : nvB (appP d x) q
  case true.true.true =>
    obtain ⟨s1, s2, s3⟩ := nvR_small h2
    have hG : vdG d q x = true := by simp only [vdG, h1, h2, h3, Bool.and_self]
    simp [eCnt, s21_6, ]
    repeat' apply And.intro
    all_goals
      refine call_p (w_spec_NegateCounted (nvR d q) s1 s2 s3) (by simp [eCnt]) fun hs4 hh4 hl4 => ?_
      simp at hh4
      simp [eCnt, s21_6, ]
      repeat' apply And.intro
      all_goals
        refine call_p (w_spec_AddCounted (nvR (appP d x) q) (negW (nvR d q))) (by simp [eCnt]) fun hs5 hh5 hl5 => ?_
        simp at hh5
        simp [vdR, vdB, hG, eCnt, s21_6, ]
  all_goals
    have hG : vdG d q x = false := by simp only [vdG, h1, h2, h3, Bool.and_false, Bool.false_and]
    simp [vdR, vdB, hG, eCnt, s21_6, ]
end

end Go.Proofs.YtggbpdjjlgejmaaGreat


namespace Go.Proofs.YtggbpdjjlgejmaaGreat
open Go.Vs Go.Proofs Go
set_option maxRecDepth 100000
set_option maxHeartbeats 1000000

section
attribute [local simp] plI_id plStr_id map_plI map_plStr
theorem p_impl_ApplyDelta (d : PDb) (x : PDelta) (hz : szDb d) (hst : ∀ t ∈ d.tabs, t.name.length ≤ maxLen) (hnm : x.name.length ≤ maxLen) :
   VC Tryz.prog 63 [.agg ((eDb d).map V.d), .agg ((eDelta x).map V.d)] (fun _ v => v = .tup [.agg ((eDb (appP d x)).map V.d), .d (.bool (appB d x))]) := by
  refine VC.untrack (t_impl_ApplyDelta ⟨nilS⟩ ⟨[], ⟨0, nilS⟩, ⟨0, nilS⟩⟩ ok_nilS ⟨by simp [okStr, maxLen], ⟨trivial, ok_nilS⟩, ⟨trivial, ok_nilS⟩⟩ ⟨by simp [plDb, plS, nilS], by simp [plDb, plS, nilS]⟩)
    (by have h1 := pn_agg (pn_eDb d); have h2 := pn_agg (pn_eDelta x); simp only [pnVL, Bool.and_true] at h1 h2 ⊢; rw [h1, h2]; rfl) fun As h1 h2 h3 => ?_
  obtain ⟨a, b, rfl, ⟨ha, ta, la⟩, hb, tb, lb⟩ := rp_args2 h1 h2 h3
  obtain ⟨s, rfl, e1⟩ := rp_agg tk_Db ha ta
  obtain ⟨t, rfl, e2⟩ := rp_agg tk_Delta hb tb
  have := VC.plain2 er_cDb (t_impl_ApplyDelta s t (okDb_ln (lnVL_d _ (by simpa only [V.ln] using la)) (by rw [e1]; exact hst)) (okDelta_ln (lnVL_d _ (by simpa only [V.ln] using lb)) (by rw [e2]; exact hnm)) (by rw [e1]; exact hz))
  rw [e1, e2] at this
  exact this
theorem p_impl_NegateCounted (z : PCnt) (h1 : z.rows.length ≤ 4294967296) (h2 : ∀ r ∈ z.rows, r.length ≤ 4294967296) (h3 : z.cs.length ≤ 4294967296) : VC Tryz.prog 65 [.agg ((eCnt z).map V.d)] (fun _ v => v = .agg ((eCnt (negW z)).map V.d)) := by
  refine VC.untrack (t_impl_NegateCounted ⟨0, nilS, nilS⟩ ⟨trivial, ok_nilS, ok_nilS⟩ (by simp [nilS]) (by simp [nilS]) (by simp [nilS])) (pn_agg (pn_eCnt z)) fun As k1 k2 k3 => ?_
  obtain ⟨x, rfl, hx, tx, lx⟩ := rp_args1 k1 k2 k3
  obtain ⟨s, rfl, e1⟩ := rp_agg tk_Cnt hx tx
  have q1 := congrArg PCnt.rows e1
  have q3 := congrArg PCnt.cs e1
  simp only [plCnt, plS] at q1 q3
  have := VC.plain1 er_cCnt (t_impl_NegateCounted s (okCnt_ln (lnVL_d _ (by simpa only [V.ln] using lx))) (by rw [← q1] at h1; simpa using h1) (fun r hr => by
    have := h2 (plS plI r) (by rw [← q1]; exact List.mem_map_of_mem hr)
    simpa [plS] using this) (by rw [← q3] at h3; simpa using h3))
  rw [e1] at this
  exact this
theorem e_impl_AddCounted (a b : PCnt) : VC Tryz.prog 64 [.agg ((eCnt a).map V.d), .agg ((eCnt b).map V.d)]
   (fun n r => ∃ y : Cnt, r = .tup [.agg ((cCnt y).map V.d), .d (.bool (addCB a b))] ∧ plCnt y = addCP a b ∧ okCnt y ∧ Good (cCnt y) (whCnt y) n) := by
  refine VC.untrack (t_impl_AddCounted ⟨0, nilS, nilS⟩ ⟨0, nilS, nilS⟩ ⟨trivial, ok_nilS, ok_nilS⟩ ⟨trivial, ok_nilS, ok_nilS⟩)
    (by have h1 := pn_agg (pn_eCnt a); have h2 := pn_agg (pn_eCnt b); simp only [pnVL, Bool.and_true] at h1 h2 ⊢; rw [h1, h2]; rfl) fun As h1 h2 h3 => ?_
  obtain ⟨x, y, rfl, ⟨ha, ta, la⟩, hb, tb, lb⟩ := rp_args2 h1 h2 h3
  obtain ⟨s, rfl, e1⟩ := rp_agg tk_Cnt ha ta
  obtain ⟨t, rfl, e2⟩ := rp_agg tk_Cnt hb tb
  have := t_impl_AddCounted s t (okCnt_ln (lnVL_d _ (by simpa only [V.ln] using la))) (okCnt_ln (lnVL_d _ (by simpa only [V.ln] using lb)))
  rw [e1, e2] at this
  exact this
theorem e_impl_ViewDelta (d : PDb) (q : PQuery) (x : PDelta) (hz : szDb d) (hst : ∀ t ∈ d.tabs, t.name.length ≤ maxLen) (hsq : ∀ a ∈ q.atoms, a.rel.length ≤ maxLen) (hnm : x.name.length ≤ maxLen) :
   VC Tryz.prog 23 [.agg ((eDb d).map V.d), .agg ((eQuery q).map V.d), .agg ((eDelta x).map V.d)]
   (fun n r => ∃ y : Cnt, r = .tup [.agg ((cCnt y).map V.d), .d (.bool (vdB d q x))] ∧ plCnt y = vdR d q x ∧ okCnt y ∧ Good (cCnt y) (whCnt y) n) := by
  obtain ⟨dl, hdl⟩ : ∃ dl, dl = d.tabs := ⟨_, rfl⟩
  have hde : (eDb d).map V.d = [V.d (.pl (dl.map eTab))] := by rw [hdl]; simp [eDb, pS, cP]
  have hqe : (eQuery q).map V.d = [V.d (.int .i64 q.n), V.d (.pl (q.atoms.map eAtom)), V.d (.pl (q.out.map cI))] := by simp [eQuery, pS, cP, cI]
  have hxe : (eDelta x).map V.d = [V.d (.str x.name), V.d (.int .i64 x.ins.ar), V.d (.pl (x.ins.rows.map (cP cI))), V.d (.int .i64 x.del.ar), V.d (.pl (x.del.rows.map (cP cI)))] := by simp [eDelta, eReln, cStr, pS, cP, cI]
  obtain ⟨el, hel⟩ : ∃ el, el = (appP d x).tabs := ⟨_, rfl⟩
  have hee : (eDb (appP d x)).map V.d = [V.d (.pl (el.map eTab))] := by rw [hel]; simp [eDb, pS, cP]
  have hv : ∀ q : PQuery, ∀ d : PDb, nvB d q = true → (nvP d q).r = nvR d q := fun q d h => by simp [nvP, h]
  refine VC.of E s23 (by kernel_rfl) Tryz.func23 (by rfl) (by kernel_rfl) (by simp [Tryz.f23]) (by simp [Tryz.f23]) s23_ok fun B => ?_
  simp [Tryz.f23, s23_6, hde, hqe, hxe]
  refine call_p (p_impl_ApplyDelta d x hz hst hnm) (by simp [hde, hxe]) fun hs1 hh1 hl1 => ?_
  simp at hh1
  simp [hee, s23_6, ]
  refine call_p (p_impl_NewView (appP d x) q hsq) (by simp [hee, hqe]) fun hs2 hh2 hl2 => ?_
  simp at hh2
  simp [eView, eQuery, eCnt, cI, cP, pS, s23_6, ]
  refine call_p (p_impl_NewView d q hsq) (by simp [hde, hqe]) fun hs3 hh3 hl3 => ?_
  simp at hh3
  cases h1 : appB d x <;> cases h2 : nvB d q <;> cases h3 : nvB (appP d x) q
  case true.true.true =>
    obtain ⟨s1, s2, s3⟩ := nvR_small h2
    have hG : vdG d q x = true := by simp only [vdG, h1, h2, h3, Bool.and_self]
    simp [eView, eQuery, eCnt, cI, cP, pS, s23_6, ]
    rw [hv _ _ h2, hv _ _ h3]
    repeat' apply And.intro
    all_goals
      refine call_p (p_impl_NegateCounted (nvR d q) s1 s2 s3) (by simp [eCnt, cI, cP, pS]) fun hs4 hh4 hl4 => ?_
      simp at hh4
      simp [eCnt, cI, cP, pS, s23_6, ]
      refine call_some ((e_impl_AddCounted (nvR (appP d x) q) (negW (nvR d q))).er (by simp [eCnt, cI, cP, pS])) (by simp) (by simp) fun n5 hs5 r5 hn5 hm5 hp5 hr5 => ?_
      obtain ⟨⟨ya, yr, yc⟩, rfl, p5, k5, G5⟩ := hp5
      simp at hn5
      simp [cCnt, cS, cI, dSl, s23_6, ]
      exact ⟨⟨ya, yr, yc⟩, ⟨by simp [cCnt, cS, cI, dSl], by simp [vdB, hG]⟩, by simp only [vdR, hG, if_true, p5], k5, G5.le (by omega)⟩
  all_goals
    have hG : vdG d q x = false := by simp only [vdG, h1, h2, h3, Bool.and_false, Bool.false_and]
    simp [vdR, vdB, hG, eView, eQuery, eCnt, cI, cP, pS, s23_6, ]
    exact ⟨⟨0, nilS, nilS⟩, by simp [cCnt, nilS, cS, cI, dSl], by rfl, ⟨trivial, ok_nilS, ok_nilS⟩, good_Cnt0 B⟩
end

end Go.Proofs.YtggbpdjjlgejmaaGreat


namespace Go.Proofs.YtggbpdjjlgejmaaGreat
open Go.Vs Go.Proofs Go
set_option maxRecDepth 100000
set_option maxHeartbeats 1000000

section
attribute [local simp] plI_id plStr_id map_plI map_plStr
def avG (d : PDb) (v : PView) (x : PDelta) : Bool := ivB d v && vdB d v.q x
def avB (d : PDb) (v : PView) (x : PDelta) : Bool := avG d v x && addCB v.r (vdR d v.q x)
def avP (d : PDb) (v : PView) (x : PDelta) : PView := if avB d v x then ⟨v.q, addCP v.r (vdR d v.q x)⟩ else ⟨⟨0, [], []⟩, ⟨0, [], []⟩⟩
theorem ivB_nv {d : PDb} {v : PView} (h : ivB d v = true) : nvB d v.q = true ∧ nvR d v.q = v.r := by
  simpa only [ivB, Bool.and_eq_true, decide_eq_true_eq] using h
theorem wp_vdR (d : PDb) (q : PQuery) (x : PDelta) : wpTCnt (vdR d q x) ≤ 24000 := by
  rw [vdR]
  split
  · exact wp_addCP _ _
  · simp [wpTCnt, wpS]
theorem wp_avP (d : PDb) (v : PView) (x : PDelta) : wpTView (avP d v x) ≤ 25000 := by
  rw [avP]
  split
  · rename_i h
    simp only [avB, avG, Bool.and_eq_true] at h
    have h1 := wp_qry (nv_qf (ivB_nv h.1.1).1)
    have h2 := wp_addCP v.r (vdR d v.q x)
    simp only [wpTView]; omega
  · exact wp_view0
theorem p_impl_ViewDelta (d : PDb) (q : PQuery) (x : PDelta) (hz : szDb d) (hst : ∀ t ∈ d.tabs, t.name.length ≤ maxLen) (hsq : ∀ a ∈ q.atoms, a.rel.length ≤ maxLen) (hnm : x.name.length ≤ maxLen) :
   VC Tryz.prog 23 [.agg ((eDb d).map V.d), .agg ((eQuery q).map V.d), .agg ((eDelta x).map V.d)]
   (fun _ r => r = .tup [.agg ((eCnt (vdR d q x)).map V.d), .d (.bool (vdB d q x))]) := VC.plain2 er_cCnt (e_impl_ViewDelta d q x hz hst hsq hnm)
theorem t_impl_ViewDelta (d : Db) (q : Query) (x : Delta) (hd : okDb d) (hq : okQuery q) (hx : okDelta x) (hz : szDb (plDb d)) :
   VC Tryz.prog 23 [.agg ((cDb d).map V.d), .agg ((cQuery q).map V.d), .agg ((cDelta x).map V.d)]
   (fun n r => ∃ y : Cnt, r = .tup [.agg ((cCnt y).map V.d), .d (.bool (vdB (plDb d) (plQuery q) (plDelta x)))] ∧ plCnt y = vdR (plDb d) (plQuery q) (plDelta x) ∧ okCnt y ∧ Good (cCnt y) (whCnt y) n) :=
  (e_impl_ViewDelta (plDb d) (plQuery q) (plDelta x) hz (okDb_strs hd) (okQuery_strs hq) hx.1).er (by simp only [rpL, rp_agg_d, er_cDb, er_cQuery, er_cDelta])
theorem t_impl_NewView (d : Db) (q : Query) (hq : okQuery q) : VC Tryz.prog 12 [.agg ((cDb d).map V.d), .agg ((cQuery q).map V.d)]
   (fun n v => ∃ y : View, v = .tup [.agg ((cView y).map V.d), .d (.bool (nvB (plDb d) (plQuery q)))] ∧ plView y = nvP (plDb d) (plQuery q) ∧ okView y ∧ Good (cView y) (whView y) n) :=
  (e_impl_NewView (plDb d) (plQuery q) (okQuery_strs hq)).er (by simp only [rpL, rp_agg_d, er_cDb, er_cQuery])
theorem w_spec_ApplyToView (v : PView) (d : PDb) (x : PDelta) (hz : szDb d) (hst : ∀ t ∈ d.tabs, t.name.length ≤ maxLen) (hsq : ∀ a ∈ v.q.atoms, a.rel.length ≤ maxLen) (hnm : x.name.length ≤ maxLen) :
   VC Tryz.prog 30 [.agg ((eView v).map V.d), .agg ((eDb d).map V.d), .agg ((eDelta x).map V.d)] (fun _ r => r = .tup [.agg ((eView (avP d v x)).map V.d), .d (.bool (avB d v x))]) := by
  obtain ⟨dl, hdl⟩ : ∃ dl, dl = d.tabs := ⟨_, rfl⟩
  have hde : (eDb d).map V.d = [V.d (.pl (dl.map eTab))] := by rw [hdl]; simp [eDb, pS, cP]
  have hqe : (eQuery v.q).map V.d = [V.d (.int .i64 v.q.n), V.d (.pl (v.q.atoms.map eAtom)), V.d (.pl (v.q.out.map cI))] := by simp [eQuery, pS, cP, cI]
  have hve : (eView v).map V.d = [V.d (.int .i64 v.q.n), V.d (.pl (v.q.atoms.map eAtom)), V.d (.pl (v.q.out.map cI)), V.d (.int .i64 v.r.ar), V.d (.pl (v.r.rows.map (cP cI))), V.d (.pl (v.r.cs.map cI))] := by simp [eView, eQuery, eCnt, cI, cP, pS]
  have hxe : (eDelta x).map V.d = [V.d (.str x.name), V.d (.int .i64 x.ins.ar), V.d (.pl (x.ins.rows.map (cP cI))), V.d (.int .i64 x.del.ar), V.d (.pl (x.del.rows.map (cP cI)))] := by simp [eDelta, eReln, cStr, pS, cP, cI]
  refine VC.ofL EP s30 (by kernel_rfl) Tryz.func30 (by rfl) (by kernel_rfl) (by simp [Tryz.f30]) (by simp [Tryz.f30]) s30_ok fun B hl => ?_
  simp [Tryz.f30, s30_7, hde, hve, hxe]
  refine call_p (w_spec_ViewDelta d v.q x hz hst hsq hnm) (by simp [hde, hqe, hxe]) fun hs1 hh1 hl1 => ?_
  simp at hh1
  cases h1 : vdB d v.q x
  · have hG : avB d v x = false := by simp only [avB, avG, h1, Bool.and_false, Bool.false_and]
    simp [avP, hG, eView, eQuery, eCnt, cI, cP, pS, s30_7, ]
  simp [eCnt, cI, cP, pS, s30_7, ]
  refine call_f (w_spec_IsValidView d v hst hsq) (by simp [hde, hve]) rfl fun hs2 hh2 => ?_
  simp at hh2
  cases h2 : ivB d v
  · have hG : avB d v x = false := by simp only [avB, avG, h2, Bool.false_and]
    simp [avP, hG, eView, eQuery, eCnt, cI, cP, pS, s30_7, ]
  have f := nv_qf (ivB_nv h2).1
  simp [s30_7, ]
  refine call_p (w_spec_AddCounted v.r (vdR d v.q x)) (by simp [eCnt, cI, cP, pS]) fun hs3 hh3 hl3 => ?_
  simp at hh3
  cases h3 : addCB v.r (vdR d v.q x)
  · have hG : avB d v x = false := by simp only [avB, h3, Bool.and_false]
    simp [avP, hG, eView, eQuery, eCnt, cI, cP, pS, s30_7, ]
  have hG : avB d v x = true := by simp only [avB, avG, h1, h2, h3, Bool.and_true]
  simp [eCnt, cI, cP, pS, s30_7, ]
  repeat' apply And.intro
  all_goals
    refine call_p (w_spec_l7Copy v.q (by have := f.a4; omega) (fun a h => by have := f.vlen a h; omega) (by have := f.out5; omega)) (by simp [hqe]) fun hs4 hh4 hl4 => ?_
    simp at hh4
    simp [avP, hG, eView, eQuery, eCnt, cI, cP, pS, s30_7, ]
theorem e_impl_ApplyToView (v : PView) (d : PDb) (x : PDelta) (hz : szDb d) (hst : ∀ t ∈ d.tabs, t.name.length ≤ maxLen) (hsq : ∀ a ∈ v.q.atoms, a.rel.length ≤ maxLen) (hnm : x.name.length ≤ maxLen) :
   VC Tryz.prog 32 [.agg ((eView v).map V.d), .agg ((eDb d).map V.d), .agg ((eDelta x).map V.d)]
   (fun n r => ∃ y : View, r = .tup [.agg ((cView y).map V.d), .d (.bool (avB d v x))] ∧ plView y = avP d v x ∧ okView y ∧ Good (cView y) (whView y) n) := by
  obtain ⟨dl, hdl⟩ : ∃ dl, dl = d.tabs := ⟨_, rfl⟩
  have hde : (eDb d).map V.d = [V.d (.pl (dl.map eTab))] := by rw [hdl]; simp [eDb, pS, cP]
  have hqe : (eQuery v.q).map V.d = [V.d (.int .i64 v.q.n), V.d (.pl (v.q.atoms.map eAtom)), V.d (.pl (v.q.out.map cI))] := by simp [eQuery, pS, cP, cI]
  have hve : (eView v).map V.d = [V.d (.int .i64 v.q.n), V.d (.pl (v.q.atoms.map eAtom)), V.d (.pl (v.q.out.map cI)), V.d (.int .i64 v.r.ar), V.d (.pl (v.r.rows.map (cP cI))), V.d (.pl (v.r.cs.map cI))] := by simp [eView, eQuery, eCnt, cI, cP, pS]
  have hxe : (eDelta x).map V.d = [V.d (.str x.name), V.d (.int .i64 x.ins.ar), V.d (.pl (x.ins.rows.map (cP cI))), V.d (.int .i64 x.del.ar), V.d (.pl (x.del.rows.map (cP cI)))] := by simp [eDelta, eReln, cStr, pS, cP, cI]
  have hno : ∀ B : Nat, avB d v x = false → ∃ y : View, ([V.d (D.int IntKind.i64 0), V.d (D.sl none none []), V.d (D.sl none none []), V.d (D.int IntKind.i64 0), V.d (D.sl none none []), V.d (D.sl none none [])] = List.map V.d (cView y) ∧ avB d v x = false) ∧ plView y = avP d v x ∧ okView y ∧ Good (cView y) (whView y) B := fun B hn =>
    ⟨⟨⟨0, nilS, nilS⟩, ⟨0, nilS, nilS⟩⟩, ⟨by simp [cView, cQuery, cCnt, nilS, cS, cI, dSl], hn⟩, by simp only [avP, hn]; rfl, ⟨⟨trivial, ok_nilS, ok_nilS⟩, trivial, ok_nilS, ok_nilS⟩, good_View0 B⟩
  refine VC.of E s32 (by kernel_rfl) Tryz.func32 (by rfl) (by kernel_rfl) (by simp [Tryz.f32]) (by simp [Tryz.f32]) s32_ok fun B => ?_
  simp [Tryz.f32, s32_7, hde, hve, hxe]
  refine call_p (p_impl_ViewDelta d v.q x hz hst hsq hnm) (by simp [hde, hqe, hxe]) fun hs1 hh1 hl1 => ?_
  simp at hh1
  simp [eCnt, cI, cP, pS, s32_7, ]
  refine call_f (w_impl_IsValidView d v hsq) (by simp [hde, hve]) rfl fun hs2 hh2 => ?_
  simp at hh2
  cases h2 : ivB d v
  · have hG : avB d v x = false := by simp only [avB, avG, h2, Bool.false_and]
    simp [s32_7, ]
    exact hno B hG
  cases h1 : vdB d v.q x
  · have hG : avB d v x = false := by simp only [avB, avG, h1, Bool.and_false, Bool.false_and]
    simp [s32_7, ]
    exact hno B hG
  have f := nv_qf (ivB_nv h2).1
  simp [s32_7, ]
  refine call_some ((e_impl_AddCounted v.r (vdR d v.q x)).er (by simp [eCnt, cI, cP, pS])) (by simp) (by simp) fun n3 hs3 r3 hn3 hm3 hp3 hr3 => ?_
  obtain ⟨⟨ya, yr, yc⟩, rfl, p3, k3, G3⟩ := hp3
  simp at hn3
  have u3 : ∀ g ∈ idsL (cCnt ⟨ya, yr, yc⟩), g < hs3 := fun g hg => hr3 g (by rw [← ids_agg] at hg; simp [V.ids, idsVL] at hg ⊢; exact hg)
  cases h3 : addCB v.r (vdR d v.q x)
  · have hG : avB d v x = false := by simp only [avB, h3, Bool.and_false]
    simp [cCnt, cS, cI, dSl, s32_7, ]
    exact hno B hG
  have hG : avB d v x = true := by simp only [avB, avG, h1, h2, h3, Bool.and_true]
  simp [cCnt, cS, cI, dSl, s32_7, ]
  repeat' apply And.intro
  all_goals
    refine call_some ((e_impl_copyQuery v.q (by have := f.a4; omega) (fun a h => by have := f.vlen a h; omega) (by have := f.out5; omega) hsq).er (by simp [hqe])) (by simp) (by simp) fun n4 hs4 r4 hn4 hm4 hp4 hr4 => ?_
    obtain ⟨⟨za, zr, zc⟩, rfl, p4, k4, G4⟩ := hp4
    simp at hn4
    simp [cQuery, cS, cI, dSl, s32_7, ]
    refine ⟨⟨⟨za, zr, zc⟩, ⟨ya, yr, yc⟩⟩, ⟨by simp [cView, cQuery, cCnt, cS, cI, dSl], hG⟩, by simp only [avP, hG, if_true, plView, p3, p4], ⟨k4, k3⟩, ?_⟩
    exact Good.app (G4.le (by omega)) (G3.le (by omega)) fun g h h' => by
      have := u3 g h'; have := G4.lo g h; omega
theorem t_impl_ApplyToView (v : View) (d : Db) (x : Delta) (hv : okView v) (hd : okDb d) (hx : okDelta x) (hz : szDb (plDb d)) :
   VC Tryz.prog 32 [.agg ((cView v).map V.d), .agg ((cDb d).map V.d), .agg ((cDelta x).map V.d)]
   (fun n r => ∃ y : View, r = .tup [.agg ((cView y).map V.d), .d (.bool (avB (plDb d) (plView v) (plDelta x)))] ∧ plView y = avP (plDb d) (plView v) (plDelta x) ∧ okView y ∧ Good (cView y) (whView y) n) :=
  (e_impl_ApplyToView (plView v) (plDb d) (plDelta x) hz (okDb_strs hd) (okView_strs hv) hx.1).er (by simp only [rpL, rp_agg_d, er_cDb, er_cView, er_cDelta])
end

end Go.Proofs.YtggbpdjjlgejmaaGreat


namespace Go.Proofs.YtggbpdjjlgejmaaGreat
open Go.Vs Go.Proofs Go
set_option maxRecDepth 100000
set_option maxHeartbeats 1000000

section
attribute [local simp] plI_id plStr_id map_plI map_plStr pS cP cI cStr cU8 cB
theorem w_spec_IsValidBatch (d : PDb) (xs : List PDelta) (hz : szDb d) (hst : ∀ t ∈ d.tabs, t.name.length ≤ maxLen) (hnm : ∀ x ∈ xs, x.name.length ≤ maxLen) :
   VC Tryz.prog 76 [.agg ((eDb d).map V.d), .d (pS eDelta xs)] (fun _ v => v = .d (.bool (batB d xs))) := by
  refine VC.ofL EP s76 (by kernel_rfl) Tryz.func76 (by rfl) (by kernel_rfl) (by simp [Tryz.f76]) (by simp [Tryz.f76]) s76_ok fun B hl => ?_
  obtain ⟨l⟩ := d
  simp [Tryz.f76, eDb]
  refine call_p (w_spec_ApplyBatch ⟨l⟩ xs hz hst hnm) (by simp [eDb]) fun hs1 hh1 hl1 => ?_
  simp [eDb, ]
end

end Go.Proofs.YtggbpdjjlgejmaaGreat


namespace Go.Proofs.YtggbpdjjlgejmaaGreat
open Go.Vs Go.Proofs Go
set_option maxRecDepth 100000
set_option maxHeartbeats 1000000

section
attribute [local simp] plI_id plStr_id map_plI map_plStr
theorem t_impl_IsValidBatch (d : Db) (xs : Sl Delta) (hd : okDb d) (hx : okS okDelta xs) (hz : szDb (plDb d)) :
   VC Tryz.prog 78 [.agg ((cDb d).map V.d), .d (dSl cDelta xs)] (fun _ v => v = .d (.bool (batB (plDb d) (plS plDelta xs)))) := by
  refine VC.of E s78 (by kernel_rfl) Tryz.func78 (by rfl) (by kernel_rfl) (by simp [Tryz.f78]) (by simp [Tryz.f78]) s78_ok fun B => ?_
  have hA := t_impl_ApplyBatch d xs hd hx hz
  obtain ⟨⟨did, dT, dts⟩⟩ := d
  obtain ⟨xid, xT, xl⟩ := xs
  simp [Tryz.f78, cDb, cS, dSl]
  refine call_some hA (by simp [cDb, cS, dSl]) (by simp) fun n2 hs2 r2 hn2 hm2 hp2 hr2 => ?_
  obtain ⟨⟨⟨vid, vT, vs⟩⟩, rfl, p2, k2, G2⟩ := hp2
  simp at hn2
  simp [cDb, cS, dSl, ]
end

end Go.Proofs.YtggbpdjjlgejmaaGreat


namespace Go.Proofs.YtggbpdjjlgejmaaGreat
open Go.Vs Go.Proofs Go
set_option maxRecDepth 100000
set_option maxHeartbeats 1000000

section
attribute [local simp] plI_id plStr_id map_plI map_plStr
/-- a view through a batch -/
def abS : List PDelta → PDb → PView → Option PView
  | [], _, v => some v
  | x :: r, d, v => if avB d v x then abS r (appP d x) (avP d v x) else none
def abV (v : PView) (d : PDb) (xs : List PDelta) : Option PView := if batB d xs && ivB d v then abS xs d v else none
def abvB (v : PView) (d : PDb) (xs : List PDelta) : Bool := (abV v d xs).isSome
def abvP (v : PView) (d : PDb) (xs : List PDelta) : PView := (abV v d xs).getD ⟨⟨0, [], []⟩, ⟨0, [], []⟩⟩
theorem addC_nil {z : PCnt} (h : cntsOk z = true) : addCP z ⟨z.ar, [], []⟩ = z := by
  have h2 : cntsOk (⟨z.ar, [], []⟩ : PCnt) = true := by
    have := cntsOk_rows h
    simp only [cntsOk, rowsOk] at h this ⊢
    simp_all
  refine (addC_of h h2 rfl ?_ h rfl fun y => ?_).2
  · rw [List.append_nil]
    have h1 := srtU_len z.rows
    have h3 := rowsOk_len (cntsOk_rows h)
    omega
  · simp [lkC]
structure AbI (v0 : PView) (d0 : PDb) (xs : List PDelta) (i : Nat) (c : PDb) (v : PView) : Prop where
  le : i ≤ xs.length
  ok : dbOk c = true
  q : v.q = v0.q
  r : cntsOk v.r = true
  eq : abS (xs.drop i) c v = abS xs d0 v0
theorem AbI.zero {v : PView} {d : PDb} {xs : List PDelta} (h1 : dbOk d = true) (h2 : ivB d v = true) : AbI v d xs 0 d v :=
  ⟨by omega, h1, rfl, by rw [← (ivB_nv h2).2]; exact nvR_ok (ivB_nv h2).1, rfl⟩
theorem av_r {d : PDb} {v : PView} {x : PDelta} (h : avB d v x = true) : (avP d v x).q = v.q ∧ cntsOk (avP d v x).r = true := by
  rw [avP, if_pos h]
  simp only [avB, Bool.and_eq_true] at h
  exact ⟨rfl, (addC_ok h.2).1⟩
theorem AbI.step {v0 v : PView} {d0 c : PDb} {xs : List PDelta} {i : Nat} (h : AbI v0 d0 xs i c v) (hi : i < xs.length) (hb : avB c v xs[i] = true) : AbI v0 d0 xs (i + 1) (appP c xs[i]) (avP c v xs[i]) := by
  refine ⟨hi, ?_, by rw [(av_r hb).1]; exact h.q, (av_r hb).2, ?_⟩
  · cases ha : appB c xs[i]
    · rw [app_no ha]; exact h.ok
    · exact app_ok ha
  · have := h.eq
    rw [List.drop_eq_getElem_cons hi, abS, if_pos hb] at this
    exact this
theorem AbI.bad {v0 v : PView} {d0 c : PDb} {xs : List PDelta} {i : Nat} (h : AbI v0 d0 xs i c v) (hi : i < xs.length) (hb : avB c v xs[i] = false) : abS xs d0 v0 = none := by
  have := h.eq
  rw [List.drop_eq_getElem_cons hi, abS, hb] at this
  exact this.symm
theorem AbI.done {v0 v : PView} {d0 c : PDb} {xs : List PDelta} {i : Nat} (h : AbI v0 d0 xs i c v) (hi : xs.length ≤ i) : abS xs d0 v0 = some v := by
  have := h.eq
  rw [List.drop_of_length_le hi, abS] at this
  exact this.symm
theorem bat_db {d : PDb} {xs : List PDelta} (h : batB d xs = true) : dbOk d = true := by
  have := (batB_run h).1
  simp only [batG, Bool.and_eq_true] at this
  exact this.2
theorem bat_n5 {d : PDb} {xs : List PDelta} (h : batB d xs = true) : xs.length ≤ 5 := by
  have := (batB_run h).1
  simp only [batG, Bool.and_eq_true, decide_eq_true_eq] at this
  exact this.1
theorem abS_ok : ∀ (xs : List PDelta) (d : PDb) (v w : PView), cntsOk v.r = true → abS xs d v = some w → w.q = v.q ∧ cntsOk w.r = true
  | [], d, v, w, h, e => by simp only [abS, Option.some.injEq] at e; rw [← e]; exact ⟨rfl, h⟩
  | x :: r, d, v, w, h, e => by
    rw [abS] at e
    split at e
    · rename_i hb
      have := abS_ok r _ _ w (av_r hb).2 e
      exact ⟨by rw [this.1, (av_r hb).1], this.2⟩
    · cases e
theorem wp_abvP (v : PView) (d : PDb) (xs : List PDelta) : wpTView (abvP v d xs) ≤ 25000 := by
  rw [abvP]
  cases h : abV v d xs with
  | none => exact wp_view0
  | some w =>
    rw [abV] at h
    split at h
    · rename_i hc
      simp only [Bool.and_eq_true] at hc
      have hv := ivB_nv hc.2
      obtain ⟨h1, h2⟩ := abS_ok xs d v w (by rw [← hv.2]; exact nvR_ok hv.1) h
      have h3 := wp_qry (nv_qf hv.1)
      have h4 := wp_cnt h2
      simp only [Option.getD_some, wpTView, h1]; omega
    · cases h
theorem p_impl_IsValidBatch (d : PDb) (xs : List PDelta) (hz : szDb d) (hst : ∀ t ∈ d.tabs, t.name.length ≤ maxLen) (hnm : ∀ x ∈ xs, x.name.length ≤ maxLen) :
   VC Tryz.prog 78 [.agg ((eDb d).map V.d), .d (pS eDelta xs)] (fun _ v => v = .d (.bool (batB d xs))) := by
  refine VC.untrack (t_impl_IsValidBatch ⟨nilS⟩ nilS ok_nilS ok_nilS ⟨by simp [plDb, plS, nilS], by simp [plDb, plS, nilS]⟩)
    (by have h1 := pn_agg (pn_eDb d); simp only [pnVL, Bool.and_true] at h1 ⊢; rw [h1]; simp [pS, V.pn, D.pn]) fun As h1 h2 h3 => ?_
  obtain ⟨a, b, rfl, ⟨ha, ta, la⟩, hb, tb, lb⟩ := rp_args2 h1 h2 h3
  obtain ⟨s, rfl, e1⟩ := rp_agg tk_Db ha ta
  obtain ⟨t, rfl, e2⟩ := rp_sl tk_Delta hb tb
  have hk : okS okDelta t := by
    have h4 : okS (fun x : Delta => lnL (cDelta x)) t := ok_ln (fun _ h => h) (by simpa [V.ln, cS, lnL] using lb)
    refine ⟨h4.1, fun x hx => okDelta_ln (h4.2 x hx) (hnm _ ?_)⟩
    rw [← e2]; exact List.mem_map_of_mem hx
  have := t_impl_IsValidBatch s t (okDb_ln (lnVL_d _ (by simpa only [V.ln] using la)) (by rw [e1]; exact hst)) hk (by rw [e1]; exact hz)
  rw [e1, e2] at this
  exact this
theorem w_spec_ApplyBatchToView (v : PView) (d : PDb) (xs : List PDelta) (hz : szDb d) (hst : ∀ t ∈ d.tabs, t.name.length ≤ maxLen) (hsq : ∀ a ∈ v.q.atoms, a.rel.length ≤ maxLen) (hnm : ∀ x ∈ xs, x.name.length ≤ maxLen) :
   VC Tryz.prog 34 [.agg ((eView v).map V.d), .agg ((eDb d).map V.d), .d (pS eDelta xs)] (fun _ r => r = .tup [.agg ((eView (abvP v d xs)).map V.d), .d (.bool (abvB v d xs))]) := by
  have hde : ∀ d : PDb, (eDb d).map V.d = [V.d (.pl (d.tabs.map eTab))] := fun d => by simp [eDb, pS, cP]
  have hqe : ∀ v : PView, (eQuery v.q).map V.d = [V.d (.int .i64 v.q.n), V.d (.pl (v.q.atoms.map eAtom)), V.d (.pl (v.q.out.map cI))] := fun v => by simp [eQuery, pS, cP, cI]
  have hve : ∀ v : PView, (eView v).map V.d = [V.d (.int .i64 v.q.n), V.d (.pl (v.q.atoms.map eAtom)), V.d (.pl (v.q.out.map cI)), V.d (.int .i64 v.r.ar), V.d (.pl (v.r.rows.map (cP cI))), V.d (.pl (v.r.cs.map cI))] := fun v => by simp [eView, eQuery, eCnt, cI, cP, pS]
  have hxe : ∀ x : PDelta, (eDelta x).map V.d = [V.d (.str x.name), V.d (.int .i64 x.ins.ar), V.d (.pl (x.ins.rows.map (cP cI))), V.d (.int .i64 x.del.ar), V.d (.pl (x.del.rows.map (cP cI)))] := fun x => by simp [eDelta, eReln, cStr, pS, cP, cI]
  refine VC.ofL EP s34 (by kernel_rfl) Tryz.func34 (by rfl) (by kernel_rfl) (by simp [Tryz.f34]) (by simp [Tryz.f34]) s34_ok fun B hl => ?_
  simp [Tryz.f34, s34_7, s34_11, s34_13, hde, hve]
  refine call_f (w_spec_IsValidBatch d xs hz hst hnm) (by simp [hde, pS]) rfl fun hs1 hh1 => ?_
  simp at hh1
  cases h1 : batB d xs
  · simp [abvP, abvB, abV, h1, eView, eQuery, eCnt, cI, cP, pS, s34_7, s34_11, s34_13, ]
  simp [s34_7, s34_11, s34_13, ]
  refine call_f (w_spec_IsValidView d v hst hsq) (by simp [hde, hve]) rfl fun hs2 hh2 => ?_
  simp at hh2
  cases h2 : ivB d v
  · simp [abvP, abvB, abV, h1, h2, eView, eQuery, eCnt, cI, cP, pS, s34_7, s34_11, s34_13, ]
  have f := nv_qf (ivB_nv h2).1
  have hab : abV v d xs = abS xs d v := by simp [abV, h1, h2]
  have hn5 := bat_n5 h1
  simp [s34_7, s34_11, s34_13, ]
  refine call_p (w_spec_l6Copy d hz) (by simp [hde]) fun hs3 hh3 hl3 => ?_
  simp at hh3
  simp [hde, s34_7, s34_11, s34_13, ]
  refine loop_rule (X := Nat × PDb × PView) (fun p => AbI v d xs p.1 p.2.1 p.2.2) (fun p => [(2, .d (.pl (xs.map eDelta))), (3, .ptr 3 0 0), (6, .ptr 6 0 0), (8, .ptr 8 0 0), (9, .d (.int .i64 p.1))])
    (fun p => [(3, some (.box ((eView p.2.2).map V.d))), (6, some (.box [.d (.int .i64 0), .d (.sl none none []), .d (.sl none none []), .d (.int .i64 0), .d (.sl none none []), .d (.sl none none [])])), (8, some (.box ((eDb p.2.1).map V.d)))]) (fun p => xs.length - p.1) (0, d, v) (.zero (bat_db h1) h2) (by simp [pS]) (by simp [hde, hve]) ?_
  rintro ⟨i, c, w⟩ hs t m hI hh
  simp only at hI
  have hle := hI.le
  have hwq := hI.q
  by_cases hlt : i < xs.length
  · have hwi := wr1 (i := i) (by omega)
    have hnx := hnm _ (List.getElem_mem hlt)
    have hstp := hI.step hlt
    have hbad := hI.bad hlt
    obtain ⟨⟨xn, ⟨xa, xi⟩, ⟨xb, xd⟩⟩, hx⟩ : ∃ x, x = xs[i] := ⟨_, rfl⟩
    rw [← hx] at hnx hstp hbad
    obtain ⟨x, hxx⟩ : ∃ x : PDelta, x = ⟨xn, ⟨xa, xi⟩, ⟨xb, xd⟩⟩ := ⟨_, rfl⟩
    have hxe' : (eDelta x).map V.d = [V.d (.str xn), V.d (.int .i64 xa), V.d (.pl (xi.map (cP cI))), V.d (.int .i64 xb), V.d (.pl (xd.map (cP cI)))] := by rw [hxx, hxe]
    rw [← hxx] at hnx hstp hbad
    have hA := w_spec_ApplyToView w c x (szDb_ok hI.ok) (dbOk_st hI.ok) (by rw [hwq]; exact hsq) hnx
    have hD := w_spec_ApplyDelta c x (szDb_ok hI.ok) (dbOk_st hI.ok) hnx
    simp [hlt, ← hx, hde, hve, s34_7, s34_11, s34_13, eDelta, eReln, cStr, cI, cP, pS]
    repeat' apply And.intro
    all_goals
      refine call_p hA (by simp [hde, hve, hxe']) fun hs3 hh3 hl3 => ?_
      simp at hh3
      cases hb : avB c w x
      · have hP : abvP v d xs = ⟨⟨0, [], []⟩, ⟨0, [], []⟩⟩ := by rw [abvP, hab, hbad hb]; rfl
        have hB : abvB v d xs = false := by rw [abvB, hab, hbad hb]; rfl
        simp [hve, hP, hB, eView, eQuery, eCnt, cI, cP, pS, s34_7, s34_11, s34_13, ]
      · simp [hve, hlt, ← hx, s34_7, s34_11, s34_13, eDelta, eReln, cStr, cI, cP, pS]
        repeat' apply And.intro
        all_goals
          refine call_p hD (by simp [hde, hxe']) fun hs4 hh4 hl4 => ?_
          simp at hh4
          simp [hwi, hde, s34_7, s34_11, s34_13, ]
          exact back (i + 1, appP c x, avP c w x) (hstp hb) (by simp only; omega) rfl (by simp <;> omega) (by simp) (by simp [hve, hde])
  · have hdn := hI.done (by omega)
    have hP : abvP v d xs = w := by rw [abvP, hab, hdn]; rfl
    have hB : abvB v d xs = true := by rw [abvB, hab, hdn]; rfl
    simp [hlt, hde, hve, s34_7, s34_11, s34_13, ]
    refine call_p (w_spec_AddCounted w.r ⟨w.r.ar, [], []⟩) (by simp [eCnt, cI, cP, pS]) fun hs4 hh4 hl4 => ?_
    simp at hh4
    rw [addC_nil hI.r]
    simp [eCnt, cI, cP, pS, s34_7, s34_11, s34_13, ]
    repeat' apply And.intro
    all_goals
      refine call_p (w_spec_l7Copy w.q (by rw [hwq]; have := f.a4; omega) (by rw [hwq]; exact fun a h => by have := f.vlen a h; omega) (by rw [hwq]; have := f.out5; omega)) (by simp [hqe]) fun hs5 hh5 hl5 => ?_
      simp at hh5
      simp [hP, hB, eView, eQuery, eCnt, cI, cP, pS, s34_7, s34_11, s34_13, ]
theorem e_impl_copyCounted (z : PCnt) (h1 : z.rows.length ≤ 4294967296) (h2 : ∀ r ∈ z.rows, r.length ≤ 4294967296) (h3 : z.cs.length ≤ 4294967296) : VC Tryz.prog 79 [.agg ((eCnt z).map V.d)]
   (fun n r => ∃ y : Cnt, r = .agg ((cCnt y).map V.d) ∧ plCnt y = z ∧ okCnt y ∧ Good (cCnt y) (whCnt y) n) := by
  refine VC.untrack (w_impl_copyCounted ⟨0, nilS, nilS⟩ ⟨trivial, ok_nilS, ok_nilS⟩ (by simp [nilS]) (by simp [nilS]) (by simp [nilS])) (pn_agg (pn_eCnt z)) fun As k1 k2 k3 => ?_
  obtain ⟨x, rfl, hx, tx, lx⟩ := rp_args1 k1 k2 k3
  obtain ⟨s, rfl, e1⟩ := rp_agg tk_Cnt hx tx
  have q1 := congrArg PCnt.rows e1
  have q3 := congrArg PCnt.cs e1
  simp only [plCnt, plS] at q1 q3
  have := w_impl_copyCounted s (okCnt_ln (lnVL_d _ (by simpa only [V.ln] using lx))) (by rw [← q1] at h1; simpa using h1) (fun r hr => by
    have := h2 (plS plI r) (by rw [← q1]; exact List.mem_map_of_mem hr)
    simpa [plS] using this) (by rw [← q3] at h3; simpa using h3)
  rw [e1] at this
  exact this
theorem e_impl_ApplyBatchToView (v : PView) (d : PDb) (xs : List PDelta) (hz : szDb d) (hst : ∀ t ∈ d.tabs, t.name.length ≤ maxLen) (hsq : ∀ a ∈ v.q.atoms, a.rel.length ≤ maxLen) (hnm : ∀ x ∈ xs, x.name.length ≤ maxLen) :
   VC Tryz.prog 36 [.agg ((eView v).map V.d), .agg ((eDb d).map V.d), .d (pS eDelta xs)]
   (fun n r => ∃ y : View, r = .tup [.agg ((cView y).map V.d), .d (.bool (abvB v d xs))] ∧ plView y = abvP v d xs ∧ okView y ∧ Good (cView y) (whView y) n) := by
  have hde : ∀ d : PDb, (eDb d).map V.d = [V.d (.pl (d.tabs.map eTab))] := fun d => by simp [eDb, pS, cP]
  have hqe : ∀ v : PView, (eQuery v.q).map V.d = [V.d (.int .i64 v.q.n), V.d (.pl (v.q.atoms.map eAtom)), V.d (.pl (v.q.out.map cI))] := fun v => by simp [eQuery, pS, cP, cI]
  have hve : ∀ v : PView, (eView v).map V.d = [V.d (.int .i64 v.q.n), V.d (.pl (v.q.atoms.map eAtom)), V.d (.pl (v.q.out.map cI)), V.d (.int .i64 v.r.ar), V.d (.pl (v.r.rows.map (cP cI))), V.d (.pl (v.r.cs.map cI))] := fun v => by simp [eView, eQuery, eCnt, cI, cP, pS]
  have hxe : ∀ x : PDelta, (eDelta x).map V.d = [V.d (.str x.name), V.d (.int .i64 x.ins.ar), V.d (.pl (x.ins.rows.map (cP cI))), V.d (.int .i64 x.del.ar), V.d (.pl (x.del.rows.map (cP cI)))] := fun x => by simp [eDelta, eReln, cStr, pS, cP, cI]
  have hno : ∀ B : Nat, abV v d xs = none → ∃ y : View, ([V.d (D.int IntKind.i64 0), V.d (D.sl none none []), V.d (D.sl none none []), V.d (D.int IntKind.i64 0), V.d (D.sl none none []), V.d (D.sl none none [])] = List.map V.d (cView y) ∧ abvB v d xs = false) ∧ plView y = abvP v d xs ∧ okView y ∧ Good (cView y) (whView y) B := fun B hn =>
    ⟨⟨⟨0, nilS, nilS⟩, ⟨0, nilS, nilS⟩⟩, ⟨by simp [cView, cQuery, cCnt, nilS, cS, cI, dSl], by rw [abvB, hn]; rfl⟩, by rw [abvP, hn]; rfl, ⟨⟨trivial, ok_nilS, ok_nilS⟩, trivial, ok_nilS, ok_nilS⟩, good_View0 B⟩
  refine VC.of E s36 (by kernel_rfl) Tryz.func36 (by rfl) (by kernel_rfl) (by simp [Tryz.f36]) (by simp [Tryz.f36]) s36_ok fun B => ?_
  simp [Tryz.f36, s36_3, hde, hve]
  refine call_f (p_impl_IsValidBatch d xs hz hst hnm) (by simp [hde, pS]) rfl fun hs1 hh1 => ?_
  simp at hh1
  cases h1 : batB d xs
  · simp [s36_3, ]
    exact hno B (by simp [abV, h1])
  simp [s36_3, ]
  refine call_f (w_impl_IsValidView d v hsq) (by simp [hde, hve]) rfl fun hs2 hh2 => ?_
  simp at hh2
  cases h2 : ivB d v
  · simp [s36_3, ]
    exact hno B (by simp [abV, h1, h2])
  have f := nv_qf (ivB_nv h2).1
  have hab : abV v d xs = abS xs d v := by simp [abV, h1, h2]
  have hn5 := bat_n5 h1
  have hcr : cntsOk v.r = true := by rw [← (ivB_nv h2).2]; exact nvR_ok (ivB_nv h2).1
  obtain ⟨c1, c2, c3⟩ := cnts_small hcr
  simp []
  refine cutT (X := View) (fun y _ => plView y = v ∧ okView y ∧ Good (cView y) (whView y) B) (fun _ => [(2, .d (.pl (xs.map eDelta))), (4, .ptr 4 0 0), (6, .ptr 6 0 0), (8, .ptr 8 0 0)])
    (fun y => [(4, some (.box ((eDb d).map V.d))), (6, some (.box [.d (.int .i64 0), .d (.sl none none []), .d (.sl none none []), .d (.int .i64 0), .d (.sl none none []), .d (.sl none none [])])), (8, some (.box ((cView y).map V.d)))]) ?_ ?_
  · intro K hK
    simp [s36_3, ]
    repeat' apply And.intro
    all_goals
      refine call_some ((e_impl_copyQuery v.q (by have := f.a4; omega) (fun a h => by have := f.vlen a h; omega) (by have := f.out5; omega) hsq).er (by simp [hqe])) (by simp) (by simp) fun n4 hs4 r4 hn4 hm4 hp4 hr4 => ?_
      obtain ⟨⟨za, zr, zc⟩, rfl, p4, k4, G4⟩ := hp4
      simp at hn4
      have u4 : ∀ g ∈ idsL (cQuery ⟨za, zr, zc⟩), g < hs4 := fun g hg => hr4 g (by rw [← ids_agg] at hg; exact hg)
      simp [cQuery, cS, cI, dSl, s36_3, ]
      repeat' apply And.intro
      all_goals
        refine call_some ((e_impl_copyCounted v.r c1 c2 c3).er (by simp [eCnt, cI, cP, pS])) (by simp) (by simp) fun n5 hs5 r5 hn5 hm5 hp5 hr5 => ?_
        obtain ⟨⟨ya, yr, yc⟩, rfl, p5, k5, G5⟩ := hp5
        simp at hn5
        simp [cCnt, cS, cI, dSl, s36_3, ]
        refine hK ⟨⟨za, zr, zc⟩, ⟨ya, yr, yc⟩⟩ _ ⟨by simp only [plView, p4, p5], ⟨k4, k5⟩, Good.app (G4.le (by omega)) (G5.le (by omega)) fun g h h' => by
          have := u4 g h; have := G5.lo g h'; omega⟩ rfl rfl (by simp <;> omega) (by simp [pS]) (by simp [hde, cView, cQuery, cCnt, cS, cI, dSl])
  rintro y0 hs0 t m ⟨p0, k0, G0⟩ hh0
  simp [hde, s36_3, ]
  refine loop_rule (X := Nat × PDb × View) (fun p => AbI v d xs p.1 p.2.1 (plView p.2.2) ∧ okView p.2.2 ∧ Good (cView p.2.2) (whView p.2.2) B) (fun p => [(4, .ptr 4 0 0), (6, .ptr 6 0 0), (8, .ptr 8 0 0), (31, .d (.pl (xs.map eDelta))), (32, .d (.int .i64 xs.length)), (33, .d (.int .i64 p.1))])
    (fun p => [(4, some (.box ((eDb p.2.1).map V.d))), (6, some (.box [.d (.int .i64 0), .d (.sl none none []), .d (.sl none none []), .d (.int .i64 0), .d (.sl none none []), .d (.sl none none [])])), (8, some (.box ((cView p.2.2).map V.d)))]) (fun p => xs.length - p.1) (0, d, y0) ⟨by rw [p0]; exact .zero (bat_db h1) h2, k0, G0⟩ (by simp) (by simp [hde]) ?_
  rintro ⟨i, c, w⟩ hs t m ⟨hI, kw, Gw⟩ hh
  simp only at hI kw Gw
  have hle := hI.le
  have hwq := hI.q
  have hce : (cView w).map V.d = [V.d (.int .i64 w.q.n), V.d (dSl cAtom w.q.atoms), V.d (dSl cI w.q.out), V.d (.int .i64 w.r.ar), V.d (dSl (cS cI) w.r.rows), V.d (dSl cI w.r.cs)] := by simp [cView, cQuery, cCnt, cI, cS]
  have hwe := hve (plView w)
  by_cases hlt : i < xs.length
  · have hwi := wr1 (i := i) (by omega)
    have hnx := hnm _ (List.getElem_mem hlt)
    have hstp := hI.step hlt
    have hbad := hI.bad hlt
    obtain ⟨⟨xn, ⟨xa, xi⟩, ⟨xb, xd⟩⟩, hx⟩ : ∃ x, x = xs[i] := ⟨_, rfl⟩
    rw [← hx] at hnx hstp hbad
    obtain ⟨x, hxx⟩ : ∃ x : PDelta, x = ⟨xn, ⟨xa, xi⟩, ⟨xb, xd⟩⟩ := ⟨_, rfl⟩
    have hxe' : (eDelta x).map V.d = [V.d (.str xn), V.d (.int .i64 xa), V.d (.pl (xi.map (cP cI))), V.d (.int .i64 xb), V.d (.pl (xd.map (cP cI)))] := by rw [hxx, hxe]
    rw [← hxx] at hnx hstp hbad
    have hA := e_impl_ApplyToView (plView w) c x (szDb_ok hI.ok) (dbOk_st hI.ok) (by rw [hwq]; exact hsq) hnx
    have hD := p_impl_ApplyDelta c x (szDb_ok hI.ok) (dbOk_st hI.ok) hnx
    simp [hlt, ← hx, hde, hce, s36_3, eDelta, eReln, cStr, cI, cP, pS]
    refine call_some (hA.er (by rw [hwe, hde, hxe']; simp [rpL, rp, er_I, er_SI, er_Atom, plView, plQuery, plCnt, pS, cP, cI])) (by simp) (by simp) fun n3 hs3 r3 hn3 hm3 hp3 hr3 => ?_
    obtain ⟨y, rfl, p3, k3, G3⟩ := hp3
    simp at hn3
    have hye : (cView y).map V.d = [V.d (.int .i64 y.q.n), V.d (dSl cAtom y.q.atoms), V.d (dSl cI y.q.out), V.d (.int .i64 y.r.ar), V.d (dSl (cS cI) y.r.rows), V.d (dSl cI y.r.cs)] := by simp [cView, cQuery, cCnt, cI, cS]
    cases hb : avB c (plView w) x
    · simp [hye, s36_3, ]
      exact hno B (by rw [hab]; exact hbad hb)
    · simp [hye, s36_3, ]
      refine call_p hD (by simp [hde, hxe']) fun hs4 hh4 hl4 => ?_
      simp at hh4
      simp [hwi, hde, s36_3, ]
      refine back (i + 1, appP c x, y) ⟨?_, k3, G3.le (by omega)⟩ (by simp only; omega) rfl (by simp <;> omega) (by simp) (by simp [hde, hye])
      rw [p3]; exact hstp hb
  · have hdn := hI.done (by omega)
    have hP : abvP v d xs = plView w := by rw [abvP, hab, hdn]; rfl
    have hB : abvB v d xs = true := by rw [abvB, hab, hdn]; rfl
    simp [hlt, hce, s36_3, ]
    exact ⟨w, ⟨by rw [hce], hB⟩, hP.symm, kw, Gw⟩
theorem t_impl_ApplyBatchToView (v : View) (d : Db) (xs : Sl Delta) (hv : okView v) (hd : okDb d) (hx : okS okDelta xs) (hz : szDb (plDb d)) :
   VC Tryz.prog 36 [.agg ((cView v).map V.d), .agg ((cDb d).map V.d), .d (dSl cDelta xs)]
   (fun n r => ∃ y : View, r = .tup [.agg ((cView y).map V.d), .d (.bool (abvB (plView v) (plDb d) (plS plDelta xs)))] ∧ plView y = abvP (plView v) (plDb d) (plS plDelta xs) ∧ okView y ∧ Good (cView y) (whView y) n) :=
  (e_impl_ApplyBatchToView (plView v) (plDb d) (plS plDelta xs) hz (okDb_strs hd) (okView_strs hv) (okDeltas_st hx)).er (by simp only [rpL, rp, rpL_d, Option.map_some, er_cDb, er_cView, er_Delta])
end

end Go.Proofs.YtggbpdjjlgejmaaGreat


namespace Go.Proofs.YtggbpdjjlgejmaaGreat
open Go.Vs Go.Proofs Go
set_option maxRecDepth 100000
set_option maxHeartbeats 1000000

theorem w_laws_FnExactNewView (a : Db) (b : Query) (k_a : okDb a) (k_b : okQuery b) :
   VC Tryz.prog 3 [.agg ((cDb a).map V.d), .agg ((cQuery b).map V.d)] (fun _ r => r = .d (.bool true)) := by
  refine VC.ofB E s3 (by kernel_rfl) Tryz.func3 (by rfl) (by kernel_rfl) (by simp [Tryz.f3]) (by simp [Tryz.f3]) s3_ok fun B hB => ?_
  have ua_a : ∀ g ∈ idsL (cDb a), g < B := fun g hg => hB g (by simp only [idsVL, ids_agg, idsVL_map_d, V.ids, idsL_cS, List.mem_append] at hg ⊢; simp [hg])
  have ua_b : ∀ g ∈ idsL (cQuery b), g < B := fun g hg => hB g (by simp only [idsVL, ids_agg, idsVL_map_d, V.ids, idsL_cS, List.mem_append] at hg ⊢; simp [hg])
  simp [Tryz.f3, s3_14, s3_16, s3_14, s3_16, cCnt, cDb, cI, cQuery, cS, cView, cI, cS]
  refine call_pure (w_laws_szDatabase a _ (by omega) (by omega) k_a) rfl (by simp) rfl fun hz_a zz_a => ?_
  simp at zz_a
  by_cases s_a : (swDb a : Int) ≤ 1048576
  case neg =>
    rw [szv_neg (by omega)]; simp
    all_goals exact fun h => absurd h (by decide)
  rw [szv_pos s_a]
  simp [show ¬ (1048576 : Int) - swDb a < 0 by omega, show ¬ (1048576 : Int) < swDb a by omega, s_a]
  refine call_pure (w_laws_szQuery b _ (by omega) (by omega) k_b) rfl (by simp) rfl fun hz_b zz_b => ?_
  simp at zz_b
  by_cases s_b : (swQuery b : Int) ≤ 1048576 - swDb a
  case neg =>
    rw [szv_neg (by omega)]; simp
    all_goals exact fun h => absurd h (by decide)
  rw [szv_pos s_b]
  simp [show ¬ (1048576 - swDb a : Int) - swQuery b < 0 by omega, show ¬ (1048576 - swDb a : Int) < swQuery b by omega, s_b]
  have hw_a := wbT_Db a
  have hw_b := wbT_Query b
  refine cutT (X := View) (fun w0 hs => plView w0 = nvP (plDb a) (plQuery b) ∧ ∀ g ∈ idsL (cView w0), g < hs) (fun w0 => [(2, .ptr 2 0 0), (3, .ptr 3 0 0), (6, .ptr 6 0 0), (7, .d (.bool (nvB (plDb a) (plQuery b))))]) (fun w0 => [(2, some (.box ((cDb a).map V.d))), (3, some (.box ((cQuery b).map V.d))), (6, some (.box ((cView w0).map V.d)))]) ?_ ?_
  · intro K hK
    simp [s3_8, cCnt, cDb, cI, cQuery, cS, cView, cI, cS]
    repeat' apply And.intro
    all_goals
      refine call_some (w_laws_toDatabase a k_a (by omega)) rfl (by simp) fun n1 hs1 r1 hn1 hm1 hp1 hr1 => ?_
      obtain ⟨y1, rfl, p1, k1, G1⟩ := hp1
      have u1 : ∀ g ∈ idsL (cDb y1), g < hs1 := fun g hg => hr1 g (by first | (rw [ids_agg]; exact hg) | (simpa only [V.ids, idsL_cS] using hg))
      simp at hn1
      have e1 : wtTDb y1 = wtTDb a := by rw [wtTDb_pl, wtTDb_pl, p1]
      simp [s3_14, s3_16, cCnt, cDb, cI, cQuery, cS, cView, cI, cS]
      repeat' apply And.intro
      all_goals
        refine call_some (w_laws_toQuery b k_b (by omega)) rfl (by simp) fun n2 hs2 r2 hn2 hm2 hp2 hr2 => ?_
        obtain ⟨y2, rfl, p2, k2, G2⟩ := hp2
        have u2 : ∀ g ∈ idsL (cQuery y2), g < hs2 := fun g hg => hr2 g (by first | (rw [ids_agg]; exact hg) | (simpa only [V.ids, idsL_cS] using hg))
        simp at hn2
        have e2 : wtTQuery y2 = wtTQuery b := by rw [wtTQuery_pl, wtTQuery_pl, p2]
        simp [s3_14, s3_16, cCnt, cDb, cI, cQuery, cS, cView, cI, cS]
        repeat' apply And.intro
        all_goals
          refine call_some (VC.track (VC.to (w_spec_NewView (plDb y1) (plQuery y2) (okDb_strs k1) (okQuery_strs k2)) (show _ = V.tup [.agg ((eView (nvP (plDb a) (plQuery b))).map V.d), .d (.bool (nvB (plDb a) (plQuery b)))] by rw [p1, p2])) (by simp [er_I, er_SI, er_Str, er_File, er_Tab, er_Db, er_Delta, er_Atom, er_VRel, eCnt, eDb, eQuery, eView, plCnt, plDb, plI, plQuery, plView, cP, pS, plI]) (by simp [V.pn, pnVL])) rfl (by simp) fun n3 hs3 r3 hn3 hm3 hp3 hr3 => ?_
          obtain ⟨hq3, ht3⟩ := hp3
          obtain ⟨x30, x31, rfl, q30, q31, t30, t31⟩ := rp_tup2 hq3 ht3
          obtain ⟨w0, rfl, pw0⟩ := rp_agg tk_View q30 t30
          obtain rfl := rp_flat q31 rfl
          have uw0 : ∀ g ∈ idsL (cView w0), g < hs3 := fun g hg => hr3 g (by simp only [V.ids, idsVL, ids_agg, idsVL_map_d, idsL_cS, List.mem_append] at hg ⊢; simp [hg])
          simp at hn3
          clear hr3
          simp [s3_14, s3_16, cCnt, cDb, cI, cQuery, cS, cView, cI, cS]
          exact hK w0 _ ⟨pw0, uw0⟩ rfl rfl (by simp <;> omega) (by simp [cCnt, cDb, cI, cQuery, cS, cView, cI, cS]) (by simp [cCnt, cDb, cI, cQuery, cS, cView, cI, cS])
  intro w0 hsw tw mw hw hhw
  obtain ⟨pw0, uw0⟩ := hw
  simp [s3_14, s3_16, cCnt, cDb, cI, cQuery, cS, cView, cI, cS]
  refine call_some (w_laws_toDatabase a k_a (by omega)) rfl (by simp) fun n4 hs4 r4 hn4 hm4 hp4 hr4 => ?_
  obtain ⟨y4, rfl, p4, k4, G4⟩ := hp4
  have u4 : ∀ g ∈ idsL (cDb y4), g < hs4 := fun g hg => hr4 g (by first | (rw [ids_agg]; exact hg) | (simpa only [V.ids, idsL_cS] using hg))
  simp at hn4
  have e4 : wtTDb y4 = wtTDb a := by rw [wtTDb_pl, wtTDb_pl, p4]
  simp [s3_14, s3_16, cCnt, cDb, cI, cQuery, cS, cView, cI, cS]
  refine call_some (w_laws_toQuery b k_b (by omega)) rfl (by simp) fun n5 hs5 r5 hn5 hm5 hp5 hr5 => ?_
  obtain ⟨y5, rfl, p5, k5, G5⟩ := hp5
  have u5 : ∀ g ∈ idsL (cQuery y5), g < hs5 := fun g hg => hr5 g (by first | (rw [ids_agg]; exact hg) | (simpa only [V.ids, idsL_cS] using hg))
  simp at hn5
  have e5 : wtTQuery y5 = wtTQuery b := by rw [wtTQuery_pl, wtTQuery_pl, p5]
  simp [s3_14, s3_16, cCnt, cDb, cI, cQuery, cS, cView, cI, cS]
  refine call_some (t_impl_NewView y4 y5 k5) rfl (by simp) fun n6 hs6 r6 hn6 hm6 hp6 hr6 => ?_
  obtain ⟨g0, rfl, pg0, kg0, Gg0⟩ := hp6
  have ug0 : ∀ g ∈ idsL (cView g0), g < hs6 := fun g hg => hr6 g (by simp only [V.ids, idsVL, ids_agg, idsVL_map_d, idsL_cS, List.mem_append] at hg ⊢; simp [hg])
  have lg0 := Gg0.lo
  simp only [p4] at pg0
  simp only [p5] at pg0
  simp at hn6
  simp [s3_14, s3_16, cCnt, cDb, cI, cQuery, cS, cView, cI, cS, p4, p5]
  have hbg0 : 1 + (wtTView g0 : Int) ≤ 4611686018427387904 := by
    rw [wtTView_pl, pg0]
    have := wp_nvP (plDb a) (plQuery b); omega
  refine call_pure (w_laws_eqView g0 w0 kg0) rfl (by simp) rfl fun hs7 hh7 => ?_
  simp at hh7
  simp [s3_14, s3_16, cCnt, cDb, cI, cQuery, cS, cView, cI, cS, pg0, pw0]
  refine call_some (w_laws_toDatabase a k_a (by omega)) rfl (by simp) fun n8 hs8 r8 hn8 hm8 hp8 hr8 => ?_
  obtain ⟨y8, rfl, p8, k8, G8⟩ := hp8
  have u8 : ∀ g ∈ idsL (cDb y8), g < hs8 := fun g hg => hr8 g (by first | (rw [ids_agg]; exact hg) | (simpa only [V.ids, idsL_cS] using hg))
  simp at hn8
  have e8 : wtTDb y8 = wtTDb a := by rw [wtTDb_pl, wtTDb_pl, p8]
  simp [s3_14, s3_16, cCnt, cDb, cI, cQuery, cS, cView, cI, cS]
  refine call_pure (w_laws_eqDatabase y4 y8 k4) rfl (by simp) rfl fun hs9 hh9 => ?_
  simp at hh9
  simp [s3_14, s3_16, cCnt, cDb, cI, cQuery, cS, cView, cI, cS, p4, p8]
  refine call_some (w_laws_toQuery b k_b (by omega)) rfl (by simp) fun n10 hs10 r10 hn10 hm10 hp10 hr10 => ?_
  obtain ⟨y10, rfl, p10, k10, G10⟩ := hp10
  have u10 : ∀ g ∈ idsL (cQuery y10), g < hs10 := fun g hg => hr10 g (by first | (rw [ids_agg]; exact hg) | (simpa only [V.ids, idsL_cS] using hg))
  simp at hn10
  have e10 : wtTQuery y10 = wtTQuery b := by rw [wtTQuery_pl, wtTQuery_pl, p10]
  simp [s3_14, s3_16, cCnt, cDb, cI, cQuery, cS, cView, cI, cS]
  refine call_pure (w_laws_eqQuery y5 y10 k5) rfl (by simp) rfl fun hs11 hh11 => ?_
  simp at hh11
  simp [s3_14, s3_16, cCnt, cDb, cI, cQuery, cS, cView, cI, cS, p5, p10]
  refine call_x (E16) (by simp) (by simp) (by simp) (fun q hq => .inl ?_) (w_laws_markDatabase y4 (1) (by omega) (by omega) G4.wh k4 G4.nd) fun n12 hs12 r12 cs12 ws12 hn12 hm12 hp12 hr12 hw12 => ?_
  · have := G4.lo q (by simpa only [idsL_cS] using hq)
    show B ≤ q
    omega
  obtain ⟨rfl, rfl⟩ := hp12
  simp at hn12
  have hre12 : reL (phi (idsL (cDb y4)) (cDb (mkTDb y4 (1)))) (cDb y4) = some (cDb (mkTDb y4 (1))) := re_sim (simT_Db G4.wh _) (marksTDb.ids _ _) G4.nd
  have ho12_a : reL (phi (idsL (cDb y4)) (cDb (mkTDb y4 (1)))) (cDb a) = some (cDb a) := re_same fun g hg h => by
    skip
    have h1 := G4.lo g (by simpa only [idsL_cS] using hg); have h2 := ua_a g h; omega
  have ho12_b : reL (phi (idsL (cDb y4)) (cDb (mkTDb y4 (1)))) (cQuery b) = some (cQuery b) := re_same fun g hg h => by
    skip
    have h1 := G4.lo g (by simpa only [idsL_cS] using hg); have h2 := ua_b g h; omega
  have ho12_w0 : reL (phi (idsL (cDb y4)) (cDb (mkTDb y4 (1)))) (cView w0) = some (cView w0) := re_same fun g hg h => by
    skip
    have h1 := G4.lo g (by simpa only [idsL_cS] using hg); have h2 := uw0 g h; omega
  have ho12_g0 : reL (phi (idsL (cDb y4)) (cDb (mkTDb y4 (1)))) (cView g0) = some (cView g0) := re_same fun g hg h => by
    skip
    have h1 := u4 g (by simpa only [idsL_cS] using hg); have h2 := lg0 g h; omega
  have ho12_y5 : reL (phi (idsL (cDb y4)) (cDb (mkTDb y4 (1)))) (cQuery y5) = some (cQuery y5) := re_same fun g hg h => by
    skip
    have h1 := u4 g (by simpa only [idsL_cS] using hg); have h2 := (G5.lo) g h; omega
  replace hre12 := reVL_map hre12
  replace ho12_a := reVL_map ho12_a
  replace ho12_b := reVL_map ho12_b
  replace ho12_w0 := reVL_map ho12_w0
  replace ho12_g0 := reVL_map ho12_g0
  replace ho12_y5 := reVL_map ho12_y5
  simp only [s3_14, s3_16, cCnt, cDb, cI, cQuery, cS, cView, cI, cS, List.cons_append, List.nil_append, List.map_cons, List.map_nil, reVL_cons, reVL_nil, List.cons.injEq, and_true, reV_int, reV_str, true_and, mkTAtom, mkTCnt, mkTDb, mkTQuery, mkTReln, mkTTab, mkTView] at hre12 ho12_a ho12_b ho12_w0 ho12_g0 ho12_y5
  simp [hre12, ho12_a, ho12_b, ho12_w0, ho12_g0, ho12_y5, s3_14, s3_16, cCnt, cDb, cI, cQuery, cS, cView, cI, cS, mkTAtom, mkTCnt, mkTDb, mkTQuery, mkTReln, mkTTab, mkTView, show ¬ (1 + wtTDb y4 : Int) < 0 by omega, show (0 : Int) ≤ 1 + wtTDb y4 by omega]
  refine call_x (E17) (by simp) (by simp) (by simp) (fun q hq => .inl ?_) (w_laws_markQuery y5 (1 + wtTDb y4) (by omega) (by omega) G5.wh k5 G5.nd) fun n13 hs13 r13 cs13 ws13 hn13 hm13 hp13 hr13 hw13 => ?_
  · have := G5.lo q (by simpa only [idsL_cS] using hq)
    show B ≤ q
    omega
  obtain ⟨rfl, rfl⟩ := hp13
  simp at hn13
  have hre13 : reL (phi (idsL (cQuery y5)) (cQuery (mkTQuery y5 (1 + wtTDb y4)))) (cQuery y5) = some (cQuery (mkTQuery y5 (1 + wtTDb y4))) := re_sim (simT_Query G5.wh _) (marksTQuery.ids _ _) G5.nd
  have ho13_a : reL (phi (idsL (cQuery y5)) (cQuery (mkTQuery y5 (1 + wtTDb y4)))) (cDb a) = some (cDb a) := re_same fun g hg h => by
    skip
    have h1 := G5.lo g (by simpa only [idsL_cS] using hg); have h2 := ua_a g h; omega
  have ho13_b : reL (phi (idsL (cQuery y5)) (cQuery (mkTQuery y5 (1 + wtTDb y4)))) (cQuery b) = some (cQuery b) := re_same fun g hg h => by
    skip
    have h1 := G5.lo g (by simpa only [idsL_cS] using hg); have h2 := ua_b g h; omega
  have ho13_w0 : reL (phi (idsL (cQuery y5)) (cQuery (mkTQuery y5 (1 + wtTDb y4)))) (cView w0) = some (cView w0) := re_same fun g hg h => by
    skip
    have h1 := G5.lo g (by simpa only [idsL_cS] using hg); have h2 := uw0 g h; omega
  have ho13_g0 : reL (phi (idsL (cQuery y5)) (cQuery (mkTQuery y5 (1 + wtTDb y4)))) (cView g0) = some (cView g0) := re_same fun g hg h => by
    skip
    have h1 := u5 g (by simpa only [idsL_cS] using hg); have h2 := lg0 g h; omega
  have ho13_y4 : reL (phi (idsL (cQuery y5)) (cQuery (mkTQuery y5 (1 + wtTDb y4)))) (cDb (mkTDb y4 (1))) = some (cDb (mkTDb y4 (1))) := re_same fun g hg h => by
    rw [marksTDb.ids] at h
    have h1 := G5.lo g (by simpa only [idsL_cS] using hg); have h2 := u4 g h; omega
  replace hre13 := reVL_map hre13
  replace ho13_a := reVL_map ho13_a
  replace ho13_b := reVL_map ho13_b
  replace ho13_w0 := reVL_map ho13_w0
  replace ho13_g0 := reVL_map ho13_g0
  replace ho13_y4 := reVL_map ho13_y4
  simp only [s3_14, s3_16, cCnt, cDb, cI, cQuery, cS, cView, cI, cS, List.cons_append, List.nil_append, List.map_cons, List.map_nil, reVL_cons, reVL_nil, List.cons.injEq, and_true, reV_int, reV_str, true_and, mkTAtom, mkTCnt, mkTDb, mkTQuery, mkTReln, mkTTab, mkTView] at hre13 ho13_a ho13_b ho13_w0 ho13_g0 ho13_y4
  simp [hre13, ho13_a, ho13_b, ho13_w0, ho13_g0, ho13_y4, s3_14, s3_16, cCnt, cDb, cI, cQuery, cS, cView, cI, cS, mkTAtom, mkTCnt, mkTDb, mkTQuery, mkTReln, mkTTab, mkTView, show ¬ (1 + wtTDb y4 + wtTQuery y5 : Int) < 0 by omega, show (0 : Int) ≤ 1 + wtTDb y4 + wtTQuery y5 by omega]
  try simp [show ¬ (1 + wtTDb y4 + wtTQuery y5 : Int) < 0 by omega, show (0 : Int) ≤ 1 + wtTDb y4 + wtTQuery y5 by omega]
  refine call_pure (w_laws_eqView g0 w0 kg0) rfl (by simp) rfl fun hs14 hh14 => ?_
  simp at hh14
  simp [s3_14, s3_16, cCnt, cDb, cI, cQuery, cS, cView, cI, cS, pg0, pw0]
  refine call_x (E18) (by simp) (by simp) (by simp) (fun q hq => .inl ?_) (w_laws_markView g0 (1) (by omega) (by omega) Gg0.wh kg0 Gg0.nd) fun n15 hs15 r15 cs15 ws15 hn15 hm15 hp15 hr15 hw15 => ?_
  · have := Gg0.lo q (by simpa only [idsL_cS] using hq)
    show B ≤ q
    omega
  obtain ⟨rfl, rfl⟩ := hp15
  simp at hn15
  have hre15 : reL (phi (idsL (cView g0)) (cView (mkTView g0 (1)))) (cView g0) = some (cView (mkTView g0 (1))) := re_sim (simT_View Gg0.wh _) (marksTView.ids _ _) Gg0.nd
  have ho15_a : reL (phi (idsL (cView g0)) (cView (mkTView g0 (1)))) (cDb a) = some (cDb a) := re_same fun g hg h => by
    skip
    have h1 := Gg0.lo g (by simpa only [idsL_cS] using hg); have h2 := ua_a g h; omega
  have ho15_b : reL (phi (idsL (cView g0)) (cView (mkTView g0 (1)))) (cQuery b) = some (cQuery b) := re_same fun g hg h => by
    skip
    have h1 := Gg0.lo g (by simpa only [idsL_cS] using hg); have h2 := ua_b g h; omega
  have ho15_w0 : reL (phi (idsL (cView g0)) (cView (mkTView g0 (1)))) (cView w0) = some (cView w0) := re_same fun g hg h => by
    skip
    have h1 := Gg0.lo g (by simpa only [idsL_cS] using hg); have h2 := uw0 g h; omega
  have ho15_y4 : reL (phi (idsL (cView g0)) (cView (mkTView g0 (1)))) (cDb (mkTDb y4 (1))) = some (cDb (mkTDb y4 (1))) := re_same fun g hg h => by
    rw [marksTDb.ids] at h
    have h1 := Gg0.lo g (by simpa only [idsL_cS] using hg); have h2 := u4 g h; omega
  have ho15_y5 : reL (phi (idsL (cView g0)) (cView (mkTView g0 (1)))) (cQuery (mkTQuery y5 (1 + wtTDb y4))) = some (cQuery (mkTQuery y5 (1 + wtTDb y4))) := re_same fun g hg h => by
    rw [marksTQuery.ids] at h
    have h1 := Gg0.lo g (by simpa only [idsL_cS] using hg); have h2 := u5 g h; omega
  replace hre15 := reVL_map hre15
  replace ho15_a := reVL_map ho15_a
  replace ho15_b := reVL_map ho15_b
  replace ho15_w0 := reVL_map ho15_w0
  replace ho15_y4 := reVL_map ho15_y4
  replace ho15_y5 := reVL_map ho15_y5
  simp only [s3_14, s3_16, cCnt, cDb, cI, cQuery, cS, cView, cI, cS, List.cons_append, List.nil_append, List.map_cons, List.map_nil, reVL_cons, reVL_nil, List.cons.injEq, and_true, reV_int, reV_str, true_and, mkTAtom, mkTCnt, mkTDb, mkTQuery, mkTReln, mkTTab, mkTView] at hre15 ho15_a ho15_b ho15_w0 ho15_y4 ho15_y5
  simp [hre15, ho15_a, ho15_b, ho15_w0, ho15_y4, ho15_y5, s3_14, s3_16, cCnt, cDb, cI, cQuery, cS, cView, cI, cS, mkTAtom, mkTCnt, mkTDb, mkTQuery, mkTReln, mkTTab, mkTView, show ¬ (1 + wtTView g0 : Int) < 0 by omega, show (0 : Int) ≤ 1 + wtTView g0 by omega]
  refine call_pure (w_laws_heldView (mkTView g0 (1)) (1) (by omega) (by rw [marksTView.wt]; omega) (ok_mkTView _ _ kg0)) rfl (by simp) rfl fun hs16 hh16 => ?_
  simp at hh16
  rw [marksTView.hl, marksTView.wt]
  simp [show ¬ (1 + wtTView g0 : Int) < 0 by omega]
  refine cutT (X := View) (fun h0 _ => plView h0 = nvP (plDb a) (plQuery b) ∧ okView h0) (fun h0 => [(6, .ptr 6 0 0), (10, .ptr 10 0 0), (15, .ptr 15 0 0), (7, .d (.bool (nvB (plDb a) (plQuery b)))), (11, .d (.bool (nvB (plDb a) (plQuery b)))), (16, .d (.bool (nvB (plDb a) (plQuery b)))), (13, .d (.int .i64 (1 + wtTView g0)))]) (fun h0 => [(6, some (.box ((cView w0).map V.d))), (10, some (.box ((cView (mkTView g0 (1))).map V.d))), (15, some (.box ((cView h0).map V.d)))]) ?_ ?_
  · intro K hK
    simp [s3_31, cCnt, cDb, cI, cQuery, cS, cView, cI, cS]
    repeat' apply And.intro
    all_goals
      refine call_some (w_laws_toDatabase a k_a (by omega)) rfl (by simp) fun n17 hs17 r17 hn17 hm17 hp17 hr17 => ?_
      obtain ⟨y17, rfl, p17, k17, G17⟩ := hp17
      have u17 : ∀ g ∈ idsL (cDb y17), g < hs17 := fun g hg => hr17 g (by first | (rw [ids_agg]; exact hg) | (simpa only [V.ids, idsL_cS] using hg))
      simp at hn17
      have e17 : wtTDb y17 = wtTDb a := by rw [wtTDb_pl, wtTDb_pl, p17]
      simp [s3_14, s3_16, cCnt, cDb, cI, cQuery, cS, cView, cI, cS]
      repeat' apply And.intro
      all_goals
        refine call_some (w_laws_toQuery b k_b (by omega)) rfl (by simp) fun n18 hs18 r18 hn18 hm18 hp18 hr18 => ?_
        obtain ⟨y18, rfl, p18, k18, G18⟩ := hp18
        have u18 : ∀ g ∈ idsL (cQuery y18), g < hs18 := fun g hg => hr18 g (by first | (rw [ids_agg]; exact hg) | (simpa only [V.ids, idsL_cS] using hg))
        simp at hn18
        have e18 : wtTQuery y18 = wtTQuery b := by rw [wtTQuery_pl, wtTQuery_pl, p18]
        simp [s3_14, s3_16, cCnt, cDb, cI, cQuery, cS, cView, cI, cS]
        repeat' apply And.intro
        all_goals
          refine call_some (t_impl_NewView y17 y18 k18) rfl (by simp) fun n19 hs19 r19 hn19 hm19 hp19 hr19 => ?_
          obtain ⟨h0, rfl, ph0, kh0, Gh0⟩ := hp19
          have uh0 : ∀ g ∈ idsL (cView h0), g < hs19 := fun g hg => hr19 g (by simp only [V.ids, idsVL, ids_agg, idsVL_map_d, idsL_cS, List.mem_append] at hg ⊢; simp [hg])
          have lh0 := Gh0.lo
          simp only [p17] at ph0
          simp only [p18] at ph0
          simp at hn19
          simp [s3_14, s3_16, cCnt, cDb, cI, cQuery, cS, cView, cI, cS, p17, p18]
          exact hK h0 _ ⟨ph0, kh0⟩ rfl rfl (by simp <;> omega) (by simp [cCnt, cDb, cI, cQuery, cS, cView, cI, cS, mkTAtom, mkTCnt, mkTDb, mkTQuery, mkTReln, mkTTab, mkTView, p17, p18]) (by simp [cCnt, cDb, cI, cQuery, cS, cView, cI, cS, mkTAtom, mkTCnt, mkTDb, mkTQuery, mkTReln, mkTTab, mkTView])
  intro h0 hsh th mh hh hhh
  obtain ⟨ph0, kh0⟩ := hh
  simp [s3_14, s3_16, cCnt, cDb, cI, cQuery, cS, cView, cI, cS, mkTAtom, mkTCnt, mkTDb, mkTQuery, mkTReln, mkTTab, mkTView]
  refine call_pure (w_laws_eqView h0 w0 kh0) rfl (by simp) rfl fun hs20 hh20 => ?_
  simp at hh20
  simp [s3_14, s3_16, cCnt, cDb, cI, cQuery, cS, cView, cI, cS, ph0, pw0]
  refine call_pure (w_laws_heldView (mkTView g0 (1)) (1) (by omega) (by rw [marksTView.wt]; omega) (ok_mkTView _ _ kg0)) rfl (by simp) rfl fun hs21 hh21 => ?_
  simp at hh21
  rw [marksTView.hl, marksTView.wt]
  simp [show ¬ (1 + wtTView g0 : Int) < 0 by omega]

end Go.Proofs.YtggbpdjjlgejmaaGreat


namespace Go.Proofs.YtggbpdjjlgejmaaGreat
open Go.Vs Go.Proofs Go
set_option maxRecDepth 100000
set_option maxHeartbeats 1000000

theorem w_laws_FnExactViewDelta (a : Db) (b : Query) (x : Delta) (k_a : okDb a) (k_b : okQuery b) (k_x : okDelta x) :
   VC Tryz.prog 4 [.agg ((cDb a).map V.d), .agg ((cQuery b).map V.d), .agg ((cDelta x).map V.d)] (fun _ r => r = .d (.bool true)) := by
  refine VC.ofB E s4 (by kernel_rfl) Tryz.func4 (by rfl) (by kernel_rfl) (by simp [Tryz.f4]) (by simp [Tryz.f4]) s4_ok fun B hB => ?_
  have ua_a : ∀ g ∈ idsL (cDb a), g < B := fun g hg => hB g (by simp only [idsVL, ids_agg, idsVL_map_d, V.ids, idsL_cS, List.mem_append] at hg ⊢; simp [hg])
  have ua_b : ∀ g ∈ idsL (cQuery b), g < B := fun g hg => hB g (by simp only [idsVL, ids_agg, idsVL_map_d, V.ids, idsL_cS, List.mem_append] at hg ⊢; simp [hg])
  have ua_x : ∀ g ∈ idsL (cDelta x), g < B := fun g hg => hB g (by simp only [idsVL, ids_agg, idsVL_map_d, V.ids, idsL_cS, List.mem_append] at hg ⊢; simp [hg])
  simp [Tryz.f4, s4_18, s4_20, s4_22, s4_18, s4_20, s4_22, cCnt, cDb, cDelta, cI, cQuery, cReln, cS, cStr, cI, cS]
  refine call_pure (w_laws_szDatabase a _ (by omega) (by omega) k_a) rfl (by simp) rfl fun hz_a zz_a => ?_
  simp at zz_a
  by_cases s_a : (swDb a : Int) ≤ 1048576
  case neg =>
    rw [szv_neg (by omega)]; simp
    all_goals exact fun h => absurd h (by decide)
  rw [szv_pos s_a]
  simp [show ¬ (1048576 : Int) - swDb a < 0 by omega, show ¬ (1048576 : Int) < swDb a by omega, s_a]
  refine call_pure (w_laws_szQuery b _ (by omega) (by omega) k_b) rfl (by simp) rfl fun hz_b zz_b => ?_
  simp at zz_b
  by_cases s_b : (swQuery b : Int) ≤ 1048576 - swDb a
  case neg =>
    rw [szv_neg (by omega)]; simp
    all_goals exact fun h => absurd h (by decide)
  rw [szv_pos s_b]
  simp [show ¬ (1048576 - swDb a : Int) - swQuery b < 0 by omega, show ¬ (1048576 - swDb a : Int) < swQuery b by omega, s_b]
  refine call_pure (w_laws_szDelta x _ (by omega) (by omega) k_x) rfl (by simp) rfl fun hz_x zz_x => ?_
  simp at zz_x
  by_cases s_x : (swDelta x : Int) ≤ 1048576 - swDb a - swQuery b
  case neg =>
    rw [szv_neg (by omega)]; simp
    all_goals exact fun h => absurd h (by decide)
  rw [szv_pos s_x]
  simp [show ¬ (1048576 - swDb a - swQuery b : Int) - swDelta x < 0 by omega, show ¬ (1048576 - swDb a - swQuery b : Int) < swDelta x by omega, s_x]
  have hw_a := wbT_Db a
  have hw_b := wbT_Query b
  have hw_x := wbT_Delta x
  have hsz : ∀ y : Db, plDb y = plDb a → szDb (plDb y) := fun y h => by rw [h]; exact szDb_sw a (by omega)
  refine cutT (X := Cnt) (fun w0 hs => plCnt w0 = vdR (plDb a) (plQuery b) (plDelta x) ∧ ∀ g ∈ idsL (cCnt w0), g < hs) (fun w0 => [(3, .ptr 3 0 0), (4, .ptr 4 0 0), (5, .ptr 5 0 0), (8, .ptr 8 0 0), (9, .d (.bool (vdB (plDb a) (plQuery b) (plDelta x))))]) (fun w0 => [(3, some (.box ((cDb a).map V.d))), (4, some (.box ((cQuery b).map V.d))), (5, some (.box ((cDelta x).map V.d))), (8, some (.box ((cCnt w0).map V.d)))]) ?_ ?_
  · intro K hK
    simp [s4_11, cCnt, cDb, cDelta, cI, cQuery, cReln, cS, cStr, cI, cS]
    repeat' apply And.intro
    all_goals
      refine call_some (w_laws_toDatabase a k_a (by omega)) rfl (by simp) fun n1 hs1 r1 hn1 hm1 hp1 hr1 => ?_
      obtain ⟨y1, rfl, p1, k1, G1⟩ := hp1
      have u1 : ∀ g ∈ idsL (cDb y1), g < hs1 := fun g hg => hr1 g (by first | (rw [ids_agg]; exact hg) | (simpa only [V.ids, idsL_cS] using hg))
      simp at hn1
      have e1 : wtTDb y1 = wtTDb a := by rw [wtTDb_pl, wtTDb_pl, p1]
      simp [s4_18, s4_20, s4_22, cCnt, cDb, cDelta, cI, cQuery, cReln, cS, cStr, cI, cS]
      repeat' apply And.intro
      all_goals
        refine call_some (w_laws_toQuery b k_b (by omega)) rfl (by simp) fun n2 hs2 r2 hn2 hm2 hp2 hr2 => ?_
        obtain ⟨y2, rfl, p2, k2, G2⟩ := hp2
        have u2 : ∀ g ∈ idsL (cQuery y2), g < hs2 := fun g hg => hr2 g (by first | (rw [ids_agg]; exact hg) | (simpa only [V.ids, idsL_cS] using hg))
        simp at hn2
        have e2 : wtTQuery y2 = wtTQuery b := by rw [wtTQuery_pl, wtTQuery_pl, p2]
        simp [s4_18, s4_20, s4_22, cCnt, cDb, cDelta, cI, cQuery, cReln, cS, cStr, cI, cS]
        repeat' apply And.intro
        all_goals
          refine call_some (w_laws_toDelta x k_x (by omega)) rfl (by simp) fun n3 hs3 r3 hn3 hm3 hp3 hr3 => ?_
          obtain ⟨y3, rfl, p3, k3, G3⟩ := hp3
          have u3 : ∀ g ∈ idsL (cDelta y3), g < hs3 := fun g hg => hr3 g (by first | (rw [ids_agg]; exact hg) | (simpa only [V.ids, idsL_cS] using hg))
          simp at hn3
          have e3 : wtTDelta y3 = wtTDelta x := by rw [wtTDelta_pl, wtTDelta_pl, p3]
          simp [s4_18, s4_20, s4_22, cCnt, cDb, cDelta, cI, cQuery, cReln, cS, cStr, cI, cS]
          repeat' apply And.intro
          all_goals
            refine call_some (VC.track (VC.to (w_spec_ViewDelta (plDb y1) (plQuery y2) (plDelta y3) (hsz _ p1) (okDb_strs k1) (okQuery_strs k2) (k3).1) (show _ = V.tup [.agg ((eCnt (vdR (plDb a) (plQuery b) (plDelta x))).map V.d), .d (.bool (vdB (plDb a) (plQuery b) (plDelta x)))] by rw [p1, p2, p3])) (by simp [er_I, er_SI, er_Str, er_File, er_Tab, er_Db, er_Delta, er_Atom, er_VRel, eCnt, eDb, eDelta, eQuery, eReln, plCnt, plDb, plDelta, plI, plQuery, plReln, plStr, cP, pS, plI]) (by simp [V.pn, pnVL])) rfl (by simp) fun n4 hs4 r4 hn4 hm4 hp4 hr4 => ?_
            obtain ⟨hq4, ht4⟩ := hp4
            obtain ⟨x40, x41, rfl, q40, q41, t40, t41⟩ := rp_tup2 hq4 ht4
            obtain ⟨w0, rfl, pw0⟩ := rp_agg tk_Cnt q40 t40
            obtain rfl := rp_flat q41 rfl
            have uw0 : ∀ g ∈ idsL (cCnt w0), g < hs4 := fun g hg => hr4 g (by simp only [V.ids, idsVL, ids_agg, idsVL_map_d, idsL_cS, List.mem_append] at hg ⊢; simp [hg])
            simp at hn4
            clear hr4
            simp [s4_18, s4_20, s4_22, cCnt, cDb, cDelta, cI, cQuery, cReln, cS, cStr, cI, cS]
            exact hK w0 _ ⟨pw0, uw0⟩ rfl rfl (by simp <;> omega) (by simp [cCnt, cDb, cDelta, cI, cQuery, cReln, cS, cStr, cI, cS]) (by simp [cCnt, cDb, cDelta, cI, cQuery, cReln, cS, cStr, cI, cS])
  intro w0 hsw tw mw hw hhw
  obtain ⟨pw0, uw0⟩ := hw
  simp [s4_18, s4_20, s4_22, cCnt, cDb, cDelta, cI, cQuery, cReln, cS, cStr, cI, cS]
  refine call_some (w_laws_toDatabase a k_a (by omega)) rfl (by simp) fun n5 hs5 r5 hn5 hm5 hp5 hr5 => ?_
  obtain ⟨y5, rfl, p5, k5, G5⟩ := hp5
  have u5 : ∀ g ∈ idsL (cDb y5), g < hs5 := fun g hg => hr5 g (by first | (rw [ids_agg]; exact hg) | (simpa only [V.ids, idsL_cS] using hg))
  simp at hn5
  have e5 : wtTDb y5 = wtTDb a := by rw [wtTDb_pl, wtTDb_pl, p5]
  simp [s4_18, s4_20, s4_22, cCnt, cDb, cDelta, cI, cQuery, cReln, cS, cStr, cI, cS]
  refine call_some (w_laws_toQuery b k_b (by omega)) rfl (by simp) fun n6 hs6 r6 hn6 hm6 hp6 hr6 => ?_
  obtain ⟨y6, rfl, p6, k6, G6⟩ := hp6
  have u6 : ∀ g ∈ idsL (cQuery y6), g < hs6 := fun g hg => hr6 g (by first | (rw [ids_agg]; exact hg) | (simpa only [V.ids, idsL_cS] using hg))
  simp at hn6
  have e6 : wtTQuery y6 = wtTQuery b := by rw [wtTQuery_pl, wtTQuery_pl, p6]
  simp [s4_18, s4_20, s4_22, cCnt, cDb, cDelta, cI, cQuery, cReln, cS, cStr, cI, cS]
  refine call_some (w_laws_toDelta x k_x (by omega)) rfl (by simp) fun n7 hs7 r7 hn7 hm7 hp7 hr7 => ?_
  obtain ⟨y7, rfl, p7, k7, G7⟩ := hp7
  have u7 : ∀ g ∈ idsL (cDelta y7), g < hs7 := fun g hg => hr7 g (by first | (rw [ids_agg]; exact hg) | (simpa only [V.ids, idsL_cS] using hg))
  simp at hn7
  have e7 : wtTDelta y7 = wtTDelta x := by rw [wtTDelta_pl, wtTDelta_pl, p7]
  simp [s4_18, s4_20, s4_22, cCnt, cDb, cDelta, cI, cQuery, cReln, cS, cStr, cI, cS]
  refine call_some (t_impl_ViewDelta y5 y6 y7 k5 k6 k7 (hsz _ p5)) rfl (by simp) fun n8 hs8 r8 hn8 hm8 hp8 hr8 => ?_
  obtain ⟨g0, rfl, pg0, kg0, Gg0⟩ := hp8
  have ug0 : ∀ g ∈ idsL (cCnt g0), g < hs8 := fun g hg => hr8 g (by simp only [V.ids, idsVL, ids_agg, idsVL_map_d, idsL_cS, List.mem_append] at hg ⊢; simp [hg])
  have lg0 := Gg0.lo
  simp only [p5] at pg0
  simp only [p6] at pg0
  simp only [p7] at pg0
  simp at hn8
  simp [s4_18, s4_20, s4_22, cCnt, cDb, cDelta, cI, cQuery, cReln, cS, cStr, cI, cS, p5, p6, p7]
  have hbg0 : 1 + (wtTCnt g0 : Int) ≤ 4611686018427387904 := by
    rw [wtTCnt_pl, pg0]
    have := wp_vdR (plDb a) (plQuery b) (plDelta x); omega
  refine call_pure (w_laws_eqCountedRelation g0 w0 kg0) rfl (by simp) rfl fun hs9 hh9 => ?_
  simp at hh9
  simp [s4_18, s4_20, s4_22, cCnt, cDb, cDelta, cI, cQuery, cReln, cS, cStr, cI, cS, pg0, pw0]
  refine call_some (w_laws_toDatabase a k_a (by omega)) rfl (by simp) fun n10 hs10 r10 hn10 hm10 hp10 hr10 => ?_
  obtain ⟨y10, rfl, p10, k10, G10⟩ := hp10
  have u10 : ∀ g ∈ idsL (cDb y10), g < hs10 := fun g hg => hr10 g (by first | (rw [ids_agg]; exact hg) | (simpa only [V.ids, idsL_cS] using hg))
  simp at hn10
  have e10 : wtTDb y10 = wtTDb a := by rw [wtTDb_pl, wtTDb_pl, p10]
  simp [s4_18, s4_20, s4_22, cCnt, cDb, cDelta, cI, cQuery, cReln, cS, cStr, cI, cS]
  refine call_pure (w_laws_eqDatabase y5 y10 k5) rfl (by simp) rfl fun hs11 hh11 => ?_
  simp at hh11
  simp [s4_18, s4_20, s4_22, cCnt, cDb, cDelta, cI, cQuery, cReln, cS, cStr, cI, cS, p5, p10]
  refine call_some (w_laws_toQuery b k_b (by omega)) rfl (by simp) fun n12 hs12 r12 hn12 hm12 hp12 hr12 => ?_
  obtain ⟨y12, rfl, p12, k12, G12⟩ := hp12
  have u12 : ∀ g ∈ idsL (cQuery y12), g < hs12 := fun g hg => hr12 g (by first | (rw [ids_agg]; exact hg) | (simpa only [V.ids, idsL_cS] using hg))
  simp at hn12
  have e12 : wtTQuery y12 = wtTQuery b := by rw [wtTQuery_pl, wtTQuery_pl, p12]
  simp [s4_18, s4_20, s4_22, cCnt, cDb, cDelta, cI, cQuery, cReln, cS, cStr, cI, cS]
  refine call_pure (w_laws_eqQuery y6 y12 k6) rfl (by simp) rfl fun hs13 hh13 => ?_
  simp at hh13
  simp [s4_18, s4_20, s4_22, cCnt, cDb, cDelta, cI, cQuery, cReln, cS, cStr, cI, cS, p6, p12]
  refine call_some (w_laws_toDelta x k_x (by omega)) rfl (by simp) fun n14 hs14 r14 hn14 hm14 hp14 hr14 => ?_
  obtain ⟨y14, rfl, p14, k14, G14⟩ := hp14
  have u14 : ∀ g ∈ idsL (cDelta y14), g < hs14 := fun g hg => hr14 g (by first | (rw [ids_agg]; exact hg) | (simpa only [V.ids, idsL_cS] using hg))
  simp at hn14
  have e14 : wtTDelta y14 = wtTDelta x := by rw [wtTDelta_pl, wtTDelta_pl, p14]
  simp [s4_18, s4_20, s4_22, cCnt, cDb, cDelta, cI, cQuery, cReln, cS, cStr, cI, cS]
  refine call_pure (w_laws_eqDelta y7 y14 k7) rfl (by simp) rfl fun hs15 hh15 => ?_
  simp at hh15
  simp [s4_18, s4_20, s4_22, cCnt, cDb, cDelta, cI, cQuery, cReln, cS, cStr, cI, cS, p7, p14]
  refine call_x (E16) (by simp) (by simp) (by simp) (fun q hq => .inl ?_) (w_laws_markDatabase y5 (1) (by omega) (by omega) G5.wh k5 G5.nd) fun n16 hs16 r16 cs16 ws16 hn16 hm16 hp16 hr16 hw16 => ?_
  · have := G5.lo q (by simpa only [idsL_cS] using hq)
    show B ≤ q
    omega
  obtain ⟨rfl, rfl⟩ := hp16
  simp at hn16
  have hre16 : reL (phi (idsL (cDb y5)) (cDb (mkTDb y5 (1)))) (cDb y5) = some (cDb (mkTDb y5 (1))) := re_sim (simT_Db G5.wh _) (marksTDb.ids _ _) G5.nd
  have ho16_a : reL (phi (idsL (cDb y5)) (cDb (mkTDb y5 (1)))) (cDb a) = some (cDb a) := re_same fun g hg h => by
    skip
    have h1 := G5.lo g (by simpa only [idsL_cS] using hg); have h2 := ua_a g h; omega
  have ho16_b : reL (phi (idsL (cDb y5)) (cDb (mkTDb y5 (1)))) (cQuery b) = some (cQuery b) := re_same fun g hg h => by
    skip
    have h1 := G5.lo g (by simpa only [idsL_cS] using hg); have h2 := ua_b g h; omega
  have ho16_x : reL (phi (idsL (cDb y5)) (cDb (mkTDb y5 (1)))) (cDelta x) = some (cDelta x) := re_same fun g hg h => by
    skip
    have h1 := G5.lo g (by simpa only [idsL_cS] using hg); have h2 := ua_x g h; omega
  have ho16_w0 : reL (phi (idsL (cDb y5)) (cDb (mkTDb y5 (1)))) (cCnt w0) = some (cCnt w0) := re_same fun g hg h => by
    skip
    have h1 := G5.lo g (by simpa only [idsL_cS] using hg); have h2 := uw0 g h; omega
  have ho16_g0 : reL (phi (idsL (cDb y5)) (cDb (mkTDb y5 (1)))) (cCnt g0) = some (cCnt g0) := re_same fun g hg h => by
    skip
    have h1 := u5 g (by simpa only [idsL_cS] using hg); have h2 := lg0 g h; omega
  have ho16_y6 : reL (phi (idsL (cDb y5)) (cDb (mkTDb y5 (1)))) (cQuery y6) = some (cQuery y6) := re_same fun g hg h => by
    skip
    have h1 := u5 g (by simpa only [idsL_cS] using hg); have h2 := (G6.lo) g h; omega
  have ho16_y7 : reL (phi (idsL (cDb y5)) (cDb (mkTDb y5 (1)))) (cDelta y7) = some (cDelta y7) := re_same fun g hg h => by
    skip
    have h1 := u5 g (by simpa only [idsL_cS] using hg); have h2 := (G7.lo) g h; omega
  replace hre16 := reVL_map hre16
  replace ho16_a := reVL_map ho16_a
  replace ho16_b := reVL_map ho16_b
  replace ho16_x := reVL_map ho16_x
  replace ho16_w0 := reVL_map ho16_w0
  replace ho16_g0 := reVL_map ho16_g0
  replace ho16_y6 := reVL_map ho16_y6
  replace ho16_y7 := reVL_map ho16_y7
  simp only [s4_18, s4_20, s4_22, cCnt, cDb, cDelta, cI, cQuery, cReln, cS, cStr, cI, cS, List.cons_append, List.nil_append, List.map_cons, List.map_nil, reVL_cons, reVL_nil, List.cons.injEq, and_true, reV_int, reV_str, true_and, mkTAtom, mkTCnt, mkTDb, mkTDelta, mkTQuery, mkTReln, mkTTab] at hre16 ho16_a ho16_b ho16_x ho16_w0 ho16_g0 ho16_y6 ho16_y7
  simp [hre16, ho16_a, ho16_b, ho16_x, ho16_w0, ho16_g0, ho16_y6, ho16_y7, s4_18, s4_20, s4_22, cCnt, cDb, cDelta, cI, cQuery, cReln, cS, cStr, cI, cS, mkTAtom, mkTCnt, mkTDb, mkTDelta, mkTQuery, mkTReln, mkTTab, show ¬ (1 + wtTDb y5 : Int) < 0 by omega, show (0 : Int) ≤ 1 + wtTDb y5 by omega]
  refine call_x (E17) (by simp) (by simp) (by simp) (fun q hq => .inl ?_) (w_laws_markQuery y6 (1 + wtTDb y5) (by omega) (by omega) G6.wh k6 G6.nd) fun n17 hs17 r17 cs17 ws17 hn17 hm17 hp17 hr17 hw17 => ?_
  · have := G6.lo q (by simpa only [idsL_cS] using hq)
    show B ≤ q
    omega
  obtain ⟨rfl, rfl⟩ := hp17
  simp at hn17
  have hre17 : reL (phi (idsL (cQuery y6)) (cQuery (mkTQuery y6 (1 + wtTDb y5)))) (cQuery y6) = some (cQuery (mkTQuery y6 (1 + wtTDb y5))) := re_sim (simT_Query G6.wh _) (marksTQuery.ids _ _) G6.nd
  have ho17_a : reL (phi (idsL (cQuery y6)) (cQuery (mkTQuery y6 (1 + wtTDb y5)))) (cDb a) = some (cDb a) := re_same fun g hg h => by
    skip
    have h1 := G6.lo g (by simpa only [idsL_cS] using hg); have h2 := ua_a g h; omega
  have ho17_b : reL (phi (idsL (cQuery y6)) (cQuery (mkTQuery y6 (1 + wtTDb y5)))) (cQuery b) = some (cQuery b) := re_same fun g hg h => by
    skip
    have h1 := G6.lo g (by simpa only [idsL_cS] using hg); have h2 := ua_b g h; omega
  have ho17_x : reL (phi (idsL (cQuery y6)) (cQuery (mkTQuery y6 (1 + wtTDb y5)))) (cDelta x) = some (cDelta x) := re_same fun g hg h => by
    skip
    have h1 := G6.lo g (by simpa only [idsL_cS] using hg); have h2 := ua_x g h; omega
  have ho17_w0 : reL (phi (idsL (cQuery y6)) (cQuery (mkTQuery y6 (1 + wtTDb y5)))) (cCnt w0) = some (cCnt w0) := re_same fun g hg h => by
    skip
    have h1 := G6.lo g (by simpa only [idsL_cS] using hg); have h2 := uw0 g h; omega
  have ho17_g0 : reL (phi (idsL (cQuery y6)) (cQuery (mkTQuery y6 (1 + wtTDb y5)))) (cCnt g0) = some (cCnt g0) := re_same fun g hg h => by
    skip
    have h1 := u6 g (by simpa only [idsL_cS] using hg); have h2 := lg0 g h; omega
  have ho17_y5 : reL (phi (idsL (cQuery y6)) (cQuery (mkTQuery y6 (1 + wtTDb y5)))) (cDb (mkTDb y5 (1))) = some (cDb (mkTDb y5 (1))) := re_same fun g hg h => by
    rw [marksTDb.ids] at h
    have h1 := G6.lo g (by simpa only [idsL_cS] using hg); have h2 := u5 g h; omega
  have ho17_y7 : reL (phi (idsL (cQuery y6)) (cQuery (mkTQuery y6 (1 + wtTDb y5)))) (cDelta y7) = some (cDelta y7) := re_same fun g hg h => by
    skip
    have h1 := u6 g (by simpa only [idsL_cS] using hg); have h2 := (G7.lo) g h; omega
  replace hre17 := reVL_map hre17
  replace ho17_a := reVL_map ho17_a
  replace ho17_b := reVL_map ho17_b
  replace ho17_x := reVL_map ho17_x
  replace ho17_w0 := reVL_map ho17_w0
  replace ho17_g0 := reVL_map ho17_g0
  replace ho17_y5 := reVL_map ho17_y5
  replace ho17_y7 := reVL_map ho17_y7
  simp only [s4_18, s4_20, s4_22, cCnt, cDb, cDelta, cI, cQuery, cReln, cS, cStr, cI, cS, List.cons_append, List.nil_append, List.map_cons, List.map_nil, reVL_cons, reVL_nil, List.cons.injEq, and_true, reV_int, reV_str, true_and, mkTAtom, mkTCnt, mkTDb, mkTDelta, mkTQuery, mkTReln, mkTTab] at hre17 ho17_a ho17_b ho17_x ho17_w0 ho17_g0 ho17_y5 ho17_y7
  simp [hre17, ho17_a, ho17_b, ho17_x, ho17_w0, ho17_g0, ho17_y5, ho17_y7, s4_18, s4_20, s4_22, cCnt, cDb, cDelta, cI, cQuery, cReln, cS, cStr, cI, cS, mkTAtom, mkTCnt, mkTDb, mkTDelta, mkTQuery, mkTReln, mkTTab, show ¬ (1 + wtTDb y5 + wtTQuery y6 : Int) < 0 by omega, show (0 : Int) ≤ 1 + wtTDb y5 + wtTQuery y6 by omega]
  refine call_x (E26) (by simp) (by simp) (by simp) (fun q hq => .inl ?_) (w_laws_markDelta y7 (1 + wtTDb y5 + wtTQuery y6) (by omega) (by omega) G7.wh k7 G7.nd) fun n18 hs18 r18 cs18 ws18 hn18 hm18 hp18 hr18 hw18 => ?_
  · have := G7.lo q (by simpa only [idsL_cS] using hq)
    show B ≤ q
    omega
  obtain ⟨rfl, rfl⟩ := hp18
  simp at hn18
  have hre18 : reL (phi (idsL (cDelta y7)) (cDelta (mkTDelta y7 (1 + wtTDb y5 + wtTQuery y6)))) (cDelta y7) = some (cDelta (mkTDelta y7 (1 + wtTDb y5 + wtTQuery y6))) := re_sim (simT_Delta G7.wh _) (marksTDelta.ids _ _) G7.nd
  have ho18_a : reL (phi (idsL (cDelta y7)) (cDelta (mkTDelta y7 (1 + wtTDb y5 + wtTQuery y6)))) (cDb a) = some (cDb a) := re_same fun g hg h => by
    skip
    have h1 := G7.lo g (by simpa only [idsL_cS] using hg); have h2 := ua_a g h; omega
  have ho18_b : reL (phi (idsL (cDelta y7)) (cDelta (mkTDelta y7 (1 + wtTDb y5 + wtTQuery y6)))) (cQuery b) = some (cQuery b) := re_same fun g hg h => by
    skip
    have h1 := G7.lo g (by simpa only [idsL_cS] using hg); have h2 := ua_b g h; omega
  have ho18_x : reL (phi (idsL (cDelta y7)) (cDelta (mkTDelta y7 (1 + wtTDb y5 + wtTQuery y6)))) (cDelta x) = some (cDelta x) := re_same fun g hg h => by
    skip
    have h1 := G7.lo g (by simpa only [idsL_cS] using hg); have h2 := ua_x g h; omega
  have ho18_w0 : reL (phi (idsL (cDelta y7)) (cDelta (mkTDelta y7 (1 + wtTDb y5 + wtTQuery y6)))) (cCnt w0) = some (cCnt w0) := re_same fun g hg h => by
    skip
    have h1 := G7.lo g (by simpa only [idsL_cS] using hg); have h2 := uw0 g h; omega
  have ho18_g0 : reL (phi (idsL (cDelta y7)) (cDelta (mkTDelta y7 (1 + wtTDb y5 + wtTQuery y6)))) (cCnt g0) = some (cCnt g0) := re_same fun g hg h => by
    skip
    have h1 := u7 g (by simpa only [idsL_cS] using hg); have h2 := lg0 g h; omega
  have ho18_y5 : reL (phi (idsL (cDelta y7)) (cDelta (mkTDelta y7 (1 + wtTDb y5 + wtTQuery y6)))) (cDb (mkTDb y5 (1))) = some (cDb (mkTDb y5 (1))) := re_same fun g hg h => by
    rw [marksTDb.ids] at h
    have h1 := G7.lo g (by simpa only [idsL_cS] using hg); have h2 := u5 g h; omega
  have ho18_y6 : reL (phi (idsL (cDelta y7)) (cDelta (mkTDelta y7 (1 + wtTDb y5 + wtTQuery y6)))) (cQuery (mkTQuery y6 (1 + wtTDb y5))) = some (cQuery (mkTQuery y6 (1 + wtTDb y5))) := re_same fun g hg h => by
    rw [marksTQuery.ids] at h
    have h1 := G7.lo g (by simpa only [idsL_cS] using hg); have h2 := u6 g h; omega
  replace hre18 := reVL_map hre18
  replace ho18_a := reVL_map ho18_a
  replace ho18_b := reVL_map ho18_b
  replace ho18_x := reVL_map ho18_x
  replace ho18_w0 := reVL_map ho18_w0
  replace ho18_g0 := reVL_map ho18_g0
  replace ho18_y5 := reVL_map ho18_y5
  replace ho18_y6 := reVL_map ho18_y6
  simp only [s4_18, s4_20, s4_22, cCnt, cDb, cDelta, cI, cQuery, cReln, cS, cStr, cI, cS, List.cons_append, List.nil_append, List.map_cons, List.map_nil, reVL_cons, reVL_nil, List.cons.injEq, and_true, reV_int, reV_str, true_and, mkTAtom, mkTCnt, mkTDb, mkTDelta, mkTQuery, mkTReln, mkTTab] at hre18 ho18_a ho18_b ho18_x ho18_w0 ho18_g0 ho18_y5 ho18_y6
  simp [hre18, ho18_a, ho18_b, ho18_x, ho18_w0, ho18_g0, ho18_y5, ho18_y6, s4_18, s4_20, s4_22, cCnt, cDb, cDelta, cI, cQuery, cReln, cS, cStr, cI, cS, mkTAtom, mkTCnt, mkTDb, mkTDelta, mkTQuery, mkTReln, mkTTab, show ¬ (1 + wtTDb y5 + wtTQuery y6 + wtTDelta y7 : Int) < 0 by omega, show (0 : Int) ≤ 1 + wtTDb y5 + wtTQuery y6 + wtTDelta y7 by omega]
  try simp [show ¬ (1 + wtTDb y5 + wtTQuery y6 + wtTDelta y7 : Int) < 0 by omega, show (0 : Int) ≤ 1 + wtTDb y5 + wtTQuery y6 + wtTDelta y7 by omega]
  refine call_pure (w_laws_eqCountedRelation g0 w0 kg0) rfl (by simp) rfl fun hs19 hh19 => ?_
  simp at hh19
  simp [s4_18, s4_20, s4_22, cCnt, cDb, cDelta, cI, cQuery, cReln, cS, cStr, cI, cS, pg0, pw0]
  refine call_x (E27) (by simp) (by simp) (by simp) (fun q hq => .inl ?_) (w_laws_markCountedRelation g0 (1) (by omega) (by omega) Gg0.wh kg0 Gg0.nd) fun n20 hs20 r20 cs20 ws20 hn20 hm20 hp20 hr20 hw20 => ?_
  · have := Gg0.lo q (by simpa only [idsL_cS] using hq)
    show B ≤ q
    omega
  obtain ⟨rfl, rfl⟩ := hp20
  simp at hn20
  have hre20 : reL (phi (idsL (cCnt g0)) (cCnt (mkTCnt g0 (1)))) (cCnt g0) = some (cCnt (mkTCnt g0 (1))) := re_sim (simT_Cnt Gg0.wh _) (marksTCnt.ids _ _) Gg0.nd
  have ho20_a : reL (phi (idsL (cCnt g0)) (cCnt (mkTCnt g0 (1)))) (cDb a) = some (cDb a) := re_same fun g hg h => by
    skip
    have h1 := Gg0.lo g (by simpa only [idsL_cS] using hg); have h2 := ua_a g h; omega
  have ho20_b : reL (phi (idsL (cCnt g0)) (cCnt (mkTCnt g0 (1)))) (cQuery b) = some (cQuery b) := re_same fun g hg h => by
    skip
    have h1 := Gg0.lo g (by simpa only [idsL_cS] using hg); have h2 := ua_b g h; omega
  have ho20_x : reL (phi (idsL (cCnt g0)) (cCnt (mkTCnt g0 (1)))) (cDelta x) = some (cDelta x) := re_same fun g hg h => by
    skip
    have h1 := Gg0.lo g (by simpa only [idsL_cS] using hg); have h2 := ua_x g h; omega
  have ho20_w0 : reL (phi (idsL (cCnt g0)) (cCnt (mkTCnt g0 (1)))) (cCnt w0) = some (cCnt w0) := re_same fun g hg h => by
    skip
    have h1 := Gg0.lo g (by simpa only [idsL_cS] using hg); have h2 := uw0 g h; omega
  have ho20_y5 : reL (phi (idsL (cCnt g0)) (cCnt (mkTCnt g0 (1)))) (cDb (mkTDb y5 (1))) = some (cDb (mkTDb y5 (1))) := re_same fun g hg h => by
    rw [marksTDb.ids] at h
    have h1 := Gg0.lo g (by simpa only [idsL_cS] using hg); have h2 := u5 g h; omega
  have ho20_y6 : reL (phi (idsL (cCnt g0)) (cCnt (mkTCnt g0 (1)))) (cQuery (mkTQuery y6 (1 + wtTDb y5))) = some (cQuery (mkTQuery y6 (1 + wtTDb y5))) := re_same fun g hg h => by
    rw [marksTQuery.ids] at h
    have h1 := Gg0.lo g (by simpa only [idsL_cS] using hg); have h2 := u6 g h; omega
  have ho20_y7 : reL (phi (idsL (cCnt g0)) (cCnt (mkTCnt g0 (1)))) (cDelta (mkTDelta y7 (1 + wtTDb y5 + wtTQuery y6))) = some (cDelta (mkTDelta y7 (1 + wtTDb y5 + wtTQuery y6))) := re_same fun g hg h => by
    rw [marksTDelta.ids] at h
    have h1 := Gg0.lo g (by simpa only [idsL_cS] using hg); have h2 := u7 g h; omega
  replace hre20 := reVL_map hre20
  replace ho20_a := reVL_map ho20_a
  replace ho20_b := reVL_map ho20_b
  replace ho20_x := reVL_map ho20_x
  replace ho20_w0 := reVL_map ho20_w0
  replace ho20_y5 := reVL_map ho20_y5
  replace ho20_y6 := reVL_map ho20_y6
  replace ho20_y7 := reVL_map ho20_y7
  simp only [s4_18, s4_20, s4_22, cCnt, cDb, cDelta, cI, cQuery, cReln, cS, cStr, cI, cS, List.cons_append, List.nil_append, List.map_cons, List.map_nil, reVL_cons, reVL_nil, List.cons.injEq, and_true, reV_int, reV_str, true_and, mkTAtom, mkTCnt, mkTDb, mkTDelta, mkTQuery, mkTReln, mkTTab] at hre20 ho20_a ho20_b ho20_x ho20_w0 ho20_y5 ho20_y6 ho20_y7
  simp [hre20, ho20_a, ho20_b, ho20_x, ho20_w0, ho20_y5, ho20_y6, ho20_y7, s4_18, s4_20, s4_22, cCnt, cDb, cDelta, cI, cQuery, cReln, cS, cStr, cI, cS, mkTAtom, mkTCnt, mkTDb, mkTDelta, mkTQuery, mkTReln, mkTTab, show ¬ (1 + wtTCnt g0 : Int) < 0 by omega, show (0 : Int) ≤ 1 + wtTCnt g0 by omega]
  refine call_pure (w_laws_heldCountedRelation (mkTCnt g0 (1)) (1) (by omega) (by rw [marksTCnt.wt]; omega) (ok_mkTCnt _ _ kg0)) rfl (by simp) rfl fun hs21 hh21 => ?_
  simp at hh21
  rw [marksTCnt.hl, marksTCnt.wt]
  simp [show ¬ (1 + wtTCnt g0 : Int) < 0 by omega]
  refine cutT (X := Cnt) (fun h0 _ => plCnt h0 = vdR (plDb a) (plQuery b) (plDelta x) ∧ okCnt h0) (fun h0 => [(8, .ptr 8 0 0), (13, .ptr 13 0 0), (18, .ptr 18 0 0), (9, .d (.bool (vdB (plDb a) (plQuery b) (plDelta x)))), (14, .d (.bool (vdB (plDb a) (plQuery b) (plDelta x)))), (19, .d (.bool (vdB (plDb a) (plQuery b) (plDelta x)))), (16, .d (.int .i64 (1 + wtTCnt g0)))]) (fun h0 => [(8, some (.box ((cCnt w0).map V.d))), (13, some (.box ((cCnt (mkTCnt g0 (1))).map V.d))), (18, some (.box ((cCnt h0).map V.d)))]) ?_ ?_
  · intro K hK
    simp [s4_38, cCnt, cDb, cDelta, cI, cQuery, cReln, cS, cStr, cI, cS]
    repeat' apply And.intro
    all_goals
      refine call_some (w_laws_toDatabase a k_a (by omega)) rfl (by simp) fun n22 hs22 r22 hn22 hm22 hp22 hr22 => ?_
      obtain ⟨y22, rfl, p22, k22, G22⟩ := hp22
      have u22 : ∀ g ∈ idsL (cDb y22), g < hs22 := fun g hg => hr22 g (by first | (rw [ids_agg]; exact hg) | (simpa only [V.ids, idsL_cS] using hg))
      simp at hn22
      have e22 : wtTDb y22 = wtTDb a := by rw [wtTDb_pl, wtTDb_pl, p22]
      simp [s4_18, s4_20, s4_22, cCnt, cDb, cDelta, cI, cQuery, cReln, cS, cStr, cI, cS]
      repeat' apply And.intro
      all_goals
        refine call_some (w_laws_toQuery b k_b (by omega)) rfl (by simp) fun n23 hs23 r23 hn23 hm23 hp23 hr23 => ?_
        obtain ⟨y23, rfl, p23, k23, G23⟩ := hp23
        have u23 : ∀ g ∈ idsL (cQuery y23), g < hs23 := fun g hg => hr23 g (by first | (rw [ids_agg]; exact hg) | (simpa only [V.ids, idsL_cS] using hg))
        simp at hn23
        have e23 : wtTQuery y23 = wtTQuery b := by rw [wtTQuery_pl, wtTQuery_pl, p23]
        simp [s4_18, s4_20, s4_22, cCnt, cDb, cDelta, cI, cQuery, cReln, cS, cStr, cI, cS]
        repeat' apply And.intro
        all_goals
          refine call_some (w_laws_toDelta x k_x (by omega)) rfl (by simp) fun n24 hs24 r24 hn24 hm24 hp24 hr24 => ?_
          obtain ⟨y24, rfl, p24, k24, G24⟩ := hp24
          have u24 : ∀ g ∈ idsL (cDelta y24), g < hs24 := fun g hg => hr24 g (by first | (rw [ids_agg]; exact hg) | (simpa only [V.ids, idsL_cS] using hg))
          simp at hn24
          have e24 : wtTDelta y24 = wtTDelta x := by rw [wtTDelta_pl, wtTDelta_pl, p24]
          simp [s4_18, s4_20, s4_22, cCnt, cDb, cDelta, cI, cQuery, cReln, cS, cStr, cI, cS]
          repeat' apply And.intro
          all_goals
            refine call_some (t_impl_ViewDelta y22 y23 y24 k22 k23 k24 (hsz _ p22)) rfl (by simp) fun n25 hs25 r25 hn25 hm25 hp25 hr25 => ?_
            obtain ⟨h0, rfl, ph0, kh0, Gh0⟩ := hp25
            have uh0 : ∀ g ∈ idsL (cCnt h0), g < hs25 := fun g hg => hr25 g (by simp only [V.ids, idsVL, ids_agg, idsVL_map_d, idsL_cS, List.mem_append] at hg ⊢; simp [hg])
            have lh0 := Gh0.lo
            simp only [p22] at ph0
            simp only [p23] at ph0
            simp only [p24] at ph0
            simp at hn25
            simp [s4_18, s4_20, s4_22, cCnt, cDb, cDelta, cI, cQuery, cReln, cS, cStr, cI, cS, p22, p23, p24]
            exact hK h0 _ ⟨ph0, kh0⟩ rfl rfl (by simp <;> omega) (by simp [cCnt, cDb, cDelta, cI, cQuery, cReln, cS, cStr, cI, cS, mkTAtom, mkTCnt, mkTDb, mkTDelta, mkTQuery, mkTReln, mkTTab, p22, p23, p24]) (by simp [cCnt, cDb, cDelta, cI, cQuery, cReln, cS, cStr, cI, cS, mkTAtom, mkTCnt, mkTDb, mkTDelta, mkTQuery, mkTReln, mkTTab])
  intro h0 hsh th mh hh hhh
  obtain ⟨ph0, kh0⟩ := hh
  simp [s4_18, s4_20, s4_22, cCnt, cDb, cDelta, cI, cQuery, cReln, cS, cStr, cI, cS, mkTAtom, mkTCnt, mkTDb, mkTDelta, mkTQuery, mkTReln, mkTTab]
  refine call_pure (w_laws_eqCountedRelation h0 w0 kh0) rfl (by simp) rfl fun hs26 hh26 => ?_
  simp at hh26
  simp [s4_18, s4_20, s4_22, cCnt, cDb, cDelta, cI, cQuery, cReln, cS, cStr, cI, cS, ph0, pw0]
  refine call_pure (w_laws_heldCountedRelation (mkTCnt g0 (1)) (1) (by omega) (by rw [marksTCnt.wt]; omega) (ok_mkTCnt _ _ kg0)) rfl (by simp) rfl fun hs27 hh27 => ?_
  simp at hh27
  rw [marksTCnt.hl, marksTCnt.wt]
  simp [show ¬ (1 + wtTCnt g0 : Int) < 0 by omega]

end Go.Proofs.YtggbpdjjlgejmaaGreat


namespace Go.Proofs.YtggbpdjjlgejmaaGreat
open Go.Vs Go.Proofs Go
set_option maxRecDepth 100000
set_option maxHeartbeats 1000000

theorem w_laws_FnExactApplyToView (v : View) (a : Db) (x : Delta) (k_v : okView v) (k_a : okDb a) (k_x : okDelta x) :
   VC Tryz.prog 5 [.agg ((cView v).map V.d), .agg ((cDb a).map V.d), .agg ((cDelta x).map V.d)] (fun _ r => r = .d (.bool true)) := by
  refine VC.ofB E s5 (by kernel_rfl) Tryz.func5 (by rfl) (by kernel_rfl) (by simp [Tryz.f5]) (by simp [Tryz.f5]) s5_ok fun B hB => ?_
  have ua_v : ∀ g ∈ idsL (cView v), g < B := fun g hg => hB g (by simp only [idsVL, ids_agg, idsVL_map_d, V.ids, idsL_cS, List.mem_append] at hg ⊢; simp [hg])
  have ua_a : ∀ g ∈ idsL (cDb a), g < B := fun g hg => hB g (by simp only [idsVL, ids_agg, idsVL_map_d, V.ids, idsL_cS, List.mem_append] at hg ⊢; simp [hg])
  have ua_x : ∀ g ∈ idsL (cDelta x), g < B := fun g hg => hB g (by simp only [idsVL, ids_agg, idsVL_map_d, V.ids, idsL_cS, List.mem_append] at hg ⊢; simp [hg])
  simp [Tryz.f5, s5_18, s5_20, s5_22, s5_18, s5_20, s5_22, cCnt, cDb, cDelta, cI, cQuery, cReln, cS, cStr, cView, cI, cS]
  refine call_pure (w_laws_szView v _ (by omega) (by omega) k_v) rfl (by simp) rfl fun hz_v zz_v => ?_
  simp at zz_v
  by_cases s_v : (swView v : Int) ≤ 1048576
  case neg =>
    rw [szv_neg (by omega)]; simp
    all_goals exact fun h => absurd h (by decide)
  rw [szv_pos s_v]
  simp [show ¬ (1048576 : Int) - swView v < 0 by omega, show ¬ (1048576 : Int) < swView v by omega, s_v]
  refine call_pure (w_laws_szDatabase a _ (by omega) (by omega) k_a) rfl (by simp) rfl fun hz_a zz_a => ?_
  simp at zz_a
  by_cases s_a : (swDb a : Int) ≤ 1048576 - swView v
  case neg =>
    rw [szv_neg (by omega)]; simp
    all_goals exact fun h => absurd h (by decide)
  rw [szv_pos s_a]
  simp [show ¬ (1048576 - swView v : Int) - swDb a < 0 by omega, show ¬ (1048576 - swView v : Int) < swDb a by omega, s_a]
  refine call_pure (w_laws_szDelta x _ (by omega) (by omega) k_x) rfl (by simp) rfl fun hz_x zz_x => ?_
  simp at zz_x
  by_cases s_x : (swDelta x : Int) ≤ 1048576 - swView v - swDb a
  case neg =>
    rw [szv_neg (by omega)]; simp
    all_goals exact fun h => absurd h (by decide)
  rw [szv_pos s_x]
  simp [show ¬ (1048576 - swView v - swDb a : Int) - swDelta x < 0 by omega, show ¬ (1048576 - swView v - swDb a : Int) < swDelta x by omega, s_x]
  have hw_v := wbT_View v
  have hw_a := wbT_Db a
  have hw_x := wbT_Delta x
  have hsz : ∀ y : Db, plDb y = plDb a → szDb (plDb y) := fun y h => by rw [h]; exact szDb_sw a (by omega)
  refine cutT (X := View) (fun w0 hs => plView w0 = avP (plDb a) (plView v) (plDelta x) ∧ ∀ g ∈ idsL (cView w0), g < hs) (fun w0 => [(3, .ptr 3 0 0), (4, .ptr 4 0 0), (5, .ptr 5 0 0), (8, .ptr 8 0 0), (9, .d (.bool (avB (plDb a) (plView v) (plDelta x))))]) (fun w0 => [(3, some (.box ((cView v).map V.d))), (4, some (.box ((cDb a).map V.d))), (5, some (.box ((cDelta x).map V.d))), (8, some (.box ((cView w0).map V.d)))]) ?_ ?_
  · intro K hK
    simp [s5_11, cCnt, cDb, cDelta, cI, cQuery, cReln, cS, cStr, cView, cI, cS]
    repeat' apply And.intro
    all_goals
      refine call_some (w_laws_toView v k_v (by omega)) rfl (by simp) fun n1 hs1 r1 hn1 hm1 hp1 hr1 => ?_
      obtain ⟨y1, rfl, p1, k1, G1⟩ := hp1
      have u1 : ∀ g ∈ idsL (cView y1), g < hs1 := fun g hg => hr1 g (by first | (rw [ids_agg]; exact hg) | (simpa only [V.ids, idsL_cS] using hg))
      simp at hn1
      have e1 : wtTView y1 = wtTView v := by rw [wtTView_pl, wtTView_pl, p1]
      simp [s5_18, s5_20, s5_22, cCnt, cDb, cDelta, cI, cQuery, cReln, cS, cStr, cView, cI, cS]
      repeat' apply And.intro
      all_goals
        refine call_some (w_laws_toDatabase a k_a (by omega)) rfl (by simp) fun n2 hs2 r2 hn2 hm2 hp2 hr2 => ?_
        obtain ⟨y2, rfl, p2, k2, G2⟩ := hp2
        have u2 : ∀ g ∈ idsL (cDb y2), g < hs2 := fun g hg => hr2 g (by first | (rw [ids_agg]; exact hg) | (simpa only [V.ids, idsL_cS] using hg))
        simp at hn2
        have e2 : wtTDb y2 = wtTDb a := by rw [wtTDb_pl, wtTDb_pl, p2]
        simp [s5_18, s5_20, s5_22, cCnt, cDb, cDelta, cI, cQuery, cReln, cS, cStr, cView, cI, cS]
        repeat' apply And.intro
        all_goals
          refine call_some (w_laws_toDelta x k_x (by omega)) rfl (by simp) fun n3 hs3 r3 hn3 hm3 hp3 hr3 => ?_
          obtain ⟨y3, rfl, p3, k3, G3⟩ := hp3
          have u3 : ∀ g ∈ idsL (cDelta y3), g < hs3 := fun g hg => hr3 g (by first | (rw [ids_agg]; exact hg) | (simpa only [V.ids, idsL_cS] using hg))
          simp at hn3
          have e3 : wtTDelta y3 = wtTDelta x := by rw [wtTDelta_pl, wtTDelta_pl, p3]
          simp [s5_18, s5_20, s5_22, cCnt, cDb, cDelta, cI, cQuery, cReln, cS, cStr, cView, cI, cS]
          repeat' apply And.intro
          all_goals
            refine call_some (VC.track (VC.to (w_spec_ApplyToView (plView y1) (plDb y2) (plDelta y3) (hsz _ p2) (okDb_strs k2) (okView_strs k1) (k3).1) (show _ = V.tup [.agg ((eView (avP (plDb a) (plView v) (plDelta x))).map V.d), .d (.bool (avB (plDb a) (plView v) (plDelta x)))] by rw [p1, p2, p3])) (by simp [er_I, er_SI, er_Str, er_File, er_Tab, er_Db, er_Delta, er_Atom, er_VRel, eCnt, eDb, eDelta, eQuery, eReln, eView, plCnt, plDb, plDelta, plI, plQuery, plReln, plStr, plView, cP, pS, plI]) (by simp [V.pn, pnVL])) rfl (by simp) fun n4 hs4 r4 hn4 hm4 hp4 hr4 => ?_
            obtain ⟨hq4, ht4⟩ := hp4
            obtain ⟨x40, x41, rfl, q40, q41, t40, t41⟩ := rp_tup2 hq4 ht4
            obtain ⟨w0, rfl, pw0⟩ := rp_agg tk_View q40 t40
            obtain rfl := rp_flat q41 rfl
            have uw0 : ∀ g ∈ idsL (cView w0), g < hs4 := fun g hg => hr4 g (by simp only [V.ids, idsVL, ids_agg, idsVL_map_d, idsL_cS, List.mem_append] at hg ⊢; simp [hg])
            simp at hn4
            clear hr4
            simp [s5_18, s5_20, s5_22, cCnt, cDb, cDelta, cI, cQuery, cReln, cS, cStr, cView, cI, cS]
            exact hK w0 _ ⟨pw0, uw0⟩ rfl rfl (by simp <;> omega) (by simp [cCnt, cDb, cDelta, cI, cQuery, cReln, cS, cStr, cView, cI, cS]) (by simp [cCnt, cDb, cDelta, cI, cQuery, cReln, cS, cStr, cView, cI, cS])
  intro w0 hsw tw mw hw hhw
  obtain ⟨pw0, uw0⟩ := hw
  simp [s5_18, s5_20, s5_22, cCnt, cDb, cDelta, cI, cQuery, cReln, cS, cStr, cView, cI, cS]
  refine call_some (w_laws_toView v k_v (by omega)) rfl (by simp) fun n5 hs5 r5 hn5 hm5 hp5 hr5 => ?_
  obtain ⟨y5, rfl, p5, k5, G5⟩ := hp5
  have u5 : ∀ g ∈ idsL (cView y5), g < hs5 := fun g hg => hr5 g (by first | (rw [ids_agg]; exact hg) | (simpa only [V.ids, idsL_cS] using hg))
  simp at hn5
  have e5 : wtTView y5 = wtTView v := by rw [wtTView_pl, wtTView_pl, p5]
  simp [s5_18, s5_20, s5_22, cCnt, cDb, cDelta, cI, cQuery, cReln, cS, cStr, cView, cI, cS]
  refine call_some (w_laws_toDatabase a k_a (by omega)) rfl (by simp) fun n6 hs6 r6 hn6 hm6 hp6 hr6 => ?_
  obtain ⟨y6, rfl, p6, k6, G6⟩ := hp6
  have u6 : ∀ g ∈ idsL (cDb y6), g < hs6 := fun g hg => hr6 g (by first | (rw [ids_agg]; exact hg) | (simpa only [V.ids, idsL_cS] using hg))
  simp at hn6
  have e6 : wtTDb y6 = wtTDb a := by rw [wtTDb_pl, wtTDb_pl, p6]
  simp [s5_18, s5_20, s5_22, cCnt, cDb, cDelta, cI, cQuery, cReln, cS, cStr, cView, cI, cS]
  refine call_some (w_laws_toDelta x k_x (by omega)) rfl (by simp) fun n7 hs7 r7 hn7 hm7 hp7 hr7 => ?_
  obtain ⟨y7, rfl, p7, k7, G7⟩ := hp7
  have u7 : ∀ g ∈ idsL (cDelta y7), g < hs7 := fun g hg => hr7 g (by first | (rw [ids_agg]; exact hg) | (simpa only [V.ids, idsL_cS] using hg))
  simp at hn7
  have e7 : wtTDelta y7 = wtTDelta x := by rw [wtTDelta_pl, wtTDelta_pl, p7]
  simp [s5_18, s5_20, s5_22, cCnt, cDb, cDelta, cI, cQuery, cReln, cS, cStr, cView, cI, cS]
  refine call_some (t_impl_ApplyToView y5 y6 y7 k5 k6 k7 (hsz _ p6)) rfl (by simp) fun n8 hs8 r8 hn8 hm8 hp8 hr8 => ?_
  obtain ⟨g0, rfl, pg0, kg0, Gg0⟩ := hp8
  have ug0 : ∀ g ∈ idsL (cView g0), g < hs8 := fun g hg => hr8 g (by simp only [V.ids, idsVL, ids_agg, idsVL_map_d, idsL_cS, List.mem_append] at hg ⊢; simp [hg])
  have lg0 := Gg0.lo
  simp only [p5] at pg0
  simp only [p6] at pg0
  simp only [p7] at pg0
  simp at hn8
  simp [s5_18, s5_20, s5_22, cCnt, cDb, cDelta, cI, cQuery, cReln, cS, cStr, cView, cI, cS, p5, p6, p7]
  have hbg0 : 1 + (wtTView g0 : Int) ≤ 4611686018427387904 := by
    rw [wtTView_pl, pg0]
    have := wp_avP (plDb a) (plView v) (plDelta x); omega
  refine call_pure (w_laws_eqView g0 w0 kg0) rfl (by simp) rfl fun hs9 hh9 => ?_
  simp at hh9
  simp [s5_18, s5_20, s5_22, cCnt, cDb, cDelta, cI, cQuery, cReln, cS, cStr, cView, cI, cS, pg0, pw0]
  refine call_some (w_laws_toView v k_v (by omega)) rfl (by simp) fun n10 hs10 r10 hn10 hm10 hp10 hr10 => ?_
  obtain ⟨y10, rfl, p10, k10, G10⟩ := hp10
  have u10 : ∀ g ∈ idsL (cView y10), g < hs10 := fun g hg => hr10 g (by first | (rw [ids_agg]; exact hg) | (simpa only [V.ids, idsL_cS] using hg))
  simp at hn10
  have e10 : wtTView y10 = wtTView v := by rw [wtTView_pl, wtTView_pl, p10]
  simp [s5_18, s5_20, s5_22, cCnt, cDb, cDelta, cI, cQuery, cReln, cS, cStr, cView, cI, cS]
  refine call_pure (w_laws_eqView y5 y10 k5) rfl (by simp) rfl fun hs11 hh11 => ?_
  simp at hh11
  simp [s5_18, s5_20, s5_22, cCnt, cDb, cDelta, cI, cQuery, cReln, cS, cStr, cView, cI, cS, p5, p10]
  refine call_some (w_laws_toDatabase a k_a (by omega)) rfl (by simp) fun n12 hs12 r12 hn12 hm12 hp12 hr12 => ?_
  obtain ⟨y12, rfl, p12, k12, G12⟩ := hp12
  have u12 : ∀ g ∈ idsL (cDb y12), g < hs12 := fun g hg => hr12 g (by first | (rw [ids_agg]; exact hg) | (simpa only [V.ids, idsL_cS] using hg))
  simp at hn12
  have e12 : wtTDb y12 = wtTDb a := by rw [wtTDb_pl, wtTDb_pl, p12]
  simp [s5_18, s5_20, s5_22, cCnt, cDb, cDelta, cI, cQuery, cReln, cS, cStr, cView, cI, cS]
  refine call_pure (w_laws_eqDatabase y6 y12 k6) rfl (by simp) rfl fun hs13 hh13 => ?_
  simp at hh13
  simp [s5_18, s5_20, s5_22, cCnt, cDb, cDelta, cI, cQuery, cReln, cS, cStr, cView, cI, cS, p6, p12]
  refine call_some (w_laws_toDelta x k_x (by omega)) rfl (by simp) fun n14 hs14 r14 hn14 hm14 hp14 hr14 => ?_
  obtain ⟨y14, rfl, p14, k14, G14⟩ := hp14
  have u14 : ∀ g ∈ idsL (cDelta y14), g < hs14 := fun g hg => hr14 g (by first | (rw [ids_agg]; exact hg) | (simpa only [V.ids, idsL_cS] using hg))
  simp at hn14
  have e14 : wtTDelta y14 = wtTDelta x := by rw [wtTDelta_pl, wtTDelta_pl, p14]
  simp [s5_18, s5_20, s5_22, cCnt, cDb, cDelta, cI, cQuery, cReln, cS, cStr, cView, cI, cS]
  refine call_pure (w_laws_eqDelta y7 y14 k7) rfl (by simp) rfl fun hs15 hh15 => ?_
  simp at hh15
  simp [s5_18, s5_20, s5_22, cCnt, cDb, cDelta, cI, cQuery, cReln, cS, cStr, cView, cI, cS, p7, p14]
  refine call_x (E18) (by simp) (by simp) (by simp) (fun q hq => .inl ?_) (w_laws_markView y5 (1) (by omega) (by omega) G5.wh k5 G5.nd) fun n16 hs16 r16 cs16 ws16 hn16 hm16 hp16 hr16 hw16 => ?_
  · have := G5.lo q (by simpa only [idsL_cS] using hq)
    show B ≤ q
    omega
  obtain ⟨rfl, rfl⟩ := hp16
  simp at hn16
  have hre16 : reL (phi (idsL (cView y5)) (cView (mkTView y5 (1)))) (cView y5) = some (cView (mkTView y5 (1))) := re_sim (simT_View G5.wh _) (marksTView.ids _ _) G5.nd
  have ho16_v : reL (phi (idsL (cView y5)) (cView (mkTView y5 (1)))) (cView v) = some (cView v) := re_same fun g hg h => by
    skip
    have h1 := G5.lo g (by simpa only [idsL_cS] using hg); have h2 := ua_v g h; omega
  have ho16_a : reL (phi (idsL (cView y5)) (cView (mkTView y5 (1)))) (cDb a) = some (cDb a) := re_same fun g hg h => by
    skip
    have h1 := G5.lo g (by simpa only [idsL_cS] using hg); have h2 := ua_a g h; omega
  have ho16_x : reL (phi (idsL (cView y5)) (cView (mkTView y5 (1)))) (cDelta x) = some (cDelta x) := re_same fun g hg h => by
    skip
    have h1 := G5.lo g (by simpa only [idsL_cS] using hg); have h2 := ua_x g h; omega
  have ho16_w0 : reL (phi (idsL (cView y5)) (cView (mkTView y5 (1)))) (cView w0) = some (cView w0) := re_same fun g hg h => by
    skip
    have h1 := G5.lo g (by simpa only [idsL_cS] using hg); have h2 := uw0 g h; omega
  have ho16_g0 : reL (phi (idsL (cView y5)) (cView (mkTView y5 (1)))) (cView g0) = some (cView g0) := re_same fun g hg h => by
    skip
    have h1 := u5 g (by simpa only [idsL_cS] using hg); have h2 := lg0 g h; omega
  have ho16_y6 : reL (phi (idsL (cView y5)) (cView (mkTView y5 (1)))) (cDb y6) = some (cDb y6) := re_same fun g hg h => by
    skip
    have h1 := u5 g (by simpa only [idsL_cS] using hg); have h2 := (G6.lo) g h; omega
  have ho16_y7 : reL (phi (idsL (cView y5)) (cView (mkTView y5 (1)))) (cDelta y7) = some (cDelta y7) := re_same fun g hg h => by
    skip
    have h1 := u5 g (by simpa only [idsL_cS] using hg); have h2 := (G7.lo) g h; omega
  replace hre16 := reVL_map hre16
  replace ho16_v := reVL_map ho16_v
  replace ho16_a := reVL_map ho16_a
  replace ho16_x := reVL_map ho16_x
  replace ho16_w0 := reVL_map ho16_w0
  replace ho16_g0 := reVL_map ho16_g0
  replace ho16_y6 := reVL_map ho16_y6
  replace ho16_y7 := reVL_map ho16_y7
  simp only [s5_18, s5_20, s5_22, cCnt, cDb, cDelta, cI, cQuery, cReln, cS, cStr, cView, cI, cS, List.cons_append, List.nil_append, List.map_cons, List.map_nil, reVL_cons, reVL_nil, List.cons.injEq, and_true, reV_int, reV_str, true_and, mkTAtom, mkTCnt, mkTDb, mkTDelta, mkTQuery, mkTReln, mkTTab, mkTView] at hre16 ho16_v ho16_a ho16_x ho16_w0 ho16_g0 ho16_y6 ho16_y7
  simp [hre16, ho16_v, ho16_a, ho16_x, ho16_w0, ho16_g0, ho16_y6, ho16_y7, s5_18, s5_20, s5_22, cCnt, cDb, cDelta, cI, cQuery, cReln, cS, cStr, cView, cI, cS, mkTAtom, mkTCnt, mkTDb, mkTDelta, mkTQuery, mkTReln, mkTTab, mkTView, show ¬ (1 + wtTView y5 : Int) < 0 by omega, show (0 : Int) ≤ 1 + wtTView y5 by omega]
  refine call_x (E16) (by simp) (by simp) (by simp) (fun q hq => .inl ?_) (w_laws_markDatabase y6 (1 + wtTView y5) (by omega) (by omega) G6.wh k6 G6.nd) fun n17 hs17 r17 cs17 ws17 hn17 hm17 hp17 hr17 hw17 => ?_
  · have := G6.lo q (by simpa only [idsL_cS] using hq)
    show B ≤ q
    omega
  obtain ⟨rfl, rfl⟩ := hp17
  simp at hn17
  have hre17 : reL (phi (idsL (cDb y6)) (cDb (mkTDb y6 (1 + wtTView y5)))) (cDb y6) = some (cDb (mkTDb y6 (1 + wtTView y5))) := re_sim (simT_Db G6.wh _) (marksTDb.ids _ _) G6.nd
  have ho17_v : reL (phi (idsL (cDb y6)) (cDb (mkTDb y6 (1 + wtTView y5)))) (cView v) = some (cView v) := re_same fun g hg h => by
    skip
    have h1 := G6.lo g (by simpa only [idsL_cS] using hg); have h2 := ua_v g h; omega
  have ho17_a : reL (phi (idsL (cDb y6)) (cDb (mkTDb y6 (1 + wtTView y5)))) (cDb a) = some (cDb a) := re_same fun g hg h => by
    skip
    have h1 := G6.lo g (by simpa only [idsL_cS] using hg); have h2 := ua_a g h; omega
  have ho17_x : reL (phi (idsL (cDb y6)) (cDb (mkTDb y6 (1 + wtTView y5)))) (cDelta x) = some (cDelta x) := re_same fun g hg h => by
    skip
    have h1 := G6.lo g (by simpa only [idsL_cS] using hg); have h2 := ua_x g h; omega
  have ho17_w0 : reL (phi (idsL (cDb y6)) (cDb (mkTDb y6 (1 + wtTView y5)))) (cView w0) = some (cView w0) := re_same fun g hg h => by
    skip
    have h1 := G6.lo g (by simpa only [idsL_cS] using hg); have h2 := uw0 g h; omega
  have ho17_g0 : reL (phi (idsL (cDb y6)) (cDb (mkTDb y6 (1 + wtTView y5)))) (cView g0) = some (cView g0) := re_same fun g hg h => by
    skip
    have h1 := u6 g (by simpa only [idsL_cS] using hg); have h2 := lg0 g h; omega
  have ho17_y5 : reL (phi (idsL (cDb y6)) (cDb (mkTDb y6 (1 + wtTView y5)))) (cView (mkTView y5 (1))) = some (cView (mkTView y5 (1))) := re_same fun g hg h => by
    rw [marksTView.ids] at h
    have h1 := G6.lo g (by simpa only [idsL_cS] using hg); have h2 := u5 g h; omega
  have ho17_y7 : reL (phi (idsL (cDb y6)) (cDb (mkTDb y6 (1 + wtTView y5)))) (cDelta y7) = some (cDelta y7) := re_same fun g hg h => by
    skip
    have h1 := u6 g (by simpa only [idsL_cS] using hg); have h2 := (G7.lo) g h; omega
  replace hre17 := reVL_map hre17
  replace ho17_v := reVL_map ho17_v
  replace ho17_a := reVL_map ho17_a
  replace ho17_x := reVL_map ho17_x
  replace ho17_w0 := reVL_map ho17_w0
  replace ho17_g0 := reVL_map ho17_g0
  replace ho17_y5 := reVL_map ho17_y5
  replace ho17_y7 := reVL_map ho17_y7
  simp only [s5_18, s5_20, s5_22, cCnt, cDb, cDelta, cI, cQuery, cReln, cS, cStr, cView, cI, cS, List.cons_append, List.nil_append, List.map_cons, List.map_nil, reVL_cons, reVL_nil, List.cons.injEq, and_true, reV_int, reV_str, true_and, mkTAtom, mkTCnt, mkTDb, mkTDelta, mkTQuery, mkTReln, mkTTab, mkTView] at hre17 ho17_v ho17_a ho17_x ho17_w0 ho17_g0 ho17_y5 ho17_y7
  simp [hre17, ho17_v, ho17_a, ho17_x, ho17_w0, ho17_g0, ho17_y5, ho17_y7, s5_18, s5_20, s5_22, cCnt, cDb, cDelta, cI, cQuery, cReln, cS, cStr, cView, cI, cS, mkTAtom, mkTCnt, mkTDb, mkTDelta, mkTQuery, mkTReln, mkTTab, mkTView, show ¬ (1 + wtTView y5 + wtTDb y6 : Int) < 0 by omega, show (0 : Int) ≤ 1 + wtTView y5 + wtTDb y6 by omega]
  refine call_x (E26) (by simp) (by simp) (by simp) (fun q hq => .inl ?_) (w_laws_markDelta y7 (1 + wtTView y5 + wtTDb y6) (by omega) (by omega) G7.wh k7 G7.nd) fun n18 hs18 r18 cs18 ws18 hn18 hm18 hp18 hr18 hw18 => ?_
  · have := G7.lo q (by simpa only [idsL_cS] using hq)
    show B ≤ q
    omega
  obtain ⟨rfl, rfl⟩ := hp18
  simp at hn18
  have hre18 : reL (phi (idsL (cDelta y7)) (cDelta (mkTDelta y7 (1 + wtTView y5 + wtTDb y6)))) (cDelta y7) = some (cDelta (mkTDelta y7 (1 + wtTView y5 + wtTDb y6))) := re_sim (simT_Delta G7.wh _) (marksTDelta.ids _ _) G7.nd
  have ho18_v : reL (phi (idsL (cDelta y7)) (cDelta (mkTDelta y7 (1 + wtTView y5 + wtTDb y6)))) (cView v) = some (cView v) := re_same fun g hg h => by
    skip
    have h1 := G7.lo g (by simpa only [idsL_cS] using hg); have h2 := ua_v g h; omega
  have ho18_a : reL (phi (idsL (cDelta y7)) (cDelta (mkTDelta y7 (1 + wtTView y5 + wtTDb y6)))) (cDb a) = some (cDb a) := re_same fun g hg h => by
    skip
    have h1 := G7.lo g (by simpa only [idsL_cS] using hg); have h2 := ua_a g h; omega
  have ho18_x : reL (phi (idsL (cDelta y7)) (cDelta (mkTDelta y7 (1 + wtTView y5 + wtTDb y6)))) (cDelta x) = some (cDelta x) := re_same fun g hg h => by
    skip
    have h1 := G7.lo g (by simpa only [idsL_cS] using hg); have h2 := ua_x g h; omega
  have ho18_w0 : reL (phi (idsL (cDelta y7)) (cDelta (mkTDelta y7 (1 + wtTView y5 + wtTDb y6)))) (cView w0) = some (cView w0) := re_same fun g hg h => by
    skip
    have h1 := G7.lo g (by simpa only [idsL_cS] using hg); have h2 := uw0 g h; omega
  have ho18_g0 : reL (phi (idsL (cDelta y7)) (cDelta (mkTDelta y7 (1 + wtTView y5 + wtTDb y6)))) (cView g0) = some (cView g0) := re_same fun g hg h => by
    skip
    have h1 := u7 g (by simpa only [idsL_cS] using hg); have h2 := lg0 g h; omega
  have ho18_y5 : reL (phi (idsL (cDelta y7)) (cDelta (mkTDelta y7 (1 + wtTView y5 + wtTDb y6)))) (cView (mkTView y5 (1))) = some (cView (mkTView y5 (1))) := re_same fun g hg h => by
    rw [marksTView.ids] at h
    have h1 := G7.lo g (by simpa only [idsL_cS] using hg); have h2 := u5 g h; omega
  have ho18_y6 : reL (phi (idsL (cDelta y7)) (cDelta (mkTDelta y7 (1 + wtTView y5 + wtTDb y6)))) (cDb (mkTDb y6 (1 + wtTView y5))) = some (cDb (mkTDb y6 (1 + wtTView y5))) := re_same fun g hg h => by
    rw [marksTDb.ids] at h
    have h1 := G7.lo g (by simpa only [idsL_cS] using hg); have h2 := u6 g h; omega
  replace hre18 := reVL_map hre18
  replace ho18_v := reVL_map ho18_v
  replace ho18_a := reVL_map ho18_a
  replace ho18_x := reVL_map ho18_x
  replace ho18_w0 := reVL_map ho18_w0
  replace ho18_g0 := reVL_map ho18_g0
  replace ho18_y5 := reVL_map ho18_y5
  replace ho18_y6 := reVL_map ho18_y6
  simp only [s5_18, s5_20, s5_22, cCnt, cDb, cDelta, cI, cQuery, cReln, cS, cStr, cView, cI, cS, List.cons_append, List.nil_append, List.map_cons, List.map_nil, reVL_cons, reVL_nil, List.cons.injEq, and_true, reV_int, reV_str, true_and, mkTAtom, mkTCnt, mkTDb, mkTDelta, mkTQuery, mkTReln, mkTTab, mkTView] at hre18 ho18_v ho18_a ho18_x ho18_w0 ho18_g0 ho18_y5 ho18_y6
  simp [hre18, ho18_v, ho18_a, ho18_x, ho18_w0, ho18_g0, ho18_y5, ho18_y6, s5_18, s5_20, s5_22, cCnt, cDb, cDelta, cI, cQuery, cReln, cS, cStr, cView, cI, cS, mkTAtom, mkTCnt, mkTDb, mkTDelta, mkTQuery, mkTReln, mkTTab, mkTView, show ¬ (1 + wtTView y5 + wtTDb y6 + wtTDelta y7 : Int) < 0 by omega, show (0 : Int) ≤ 1 + wtTView y5 + wtTDb y6 + wtTDelta y7 by omega]
  try simp [show ¬ (1 + wtTView y5 + wtTDb y6 + wtTDelta y7 : Int) < 0 by omega, show (0 : Int) ≤ 1 + wtTView y5 + wtTDb y6 + wtTDelta y7 by omega]
  refine call_pure (w_laws_eqView g0 w0 kg0) rfl (by simp) rfl fun hs19 hh19 => ?_
  simp at hh19
  simp [s5_18, s5_20, s5_22, cCnt, cDb, cDelta, cI, cQuery, cReln, cS, cStr, cView, cI, cS, pg0, pw0]
  refine call_x (E18) (by simp) (by simp) (by simp) (fun q hq => .inl ?_) (w_laws_markView g0 (1) (by omega) (by omega) Gg0.wh kg0 Gg0.nd) fun n20 hs20 r20 cs20 ws20 hn20 hm20 hp20 hr20 hw20 => ?_
  · have := Gg0.lo q (by simpa only [idsL_cS] using hq)
    show B ≤ q
    omega
  obtain ⟨rfl, rfl⟩ := hp20
  simp at hn20
  have hre20 : reL (phi (idsL (cView g0)) (cView (mkTView g0 (1)))) (cView g0) = some (cView (mkTView g0 (1))) := re_sim (simT_View Gg0.wh _) (marksTView.ids _ _) Gg0.nd
  have ho20_v : reL (phi (idsL (cView g0)) (cView (mkTView g0 (1)))) (cView v) = some (cView v) := re_same fun g hg h => by
    skip
    have h1 := Gg0.lo g (by simpa only [idsL_cS] using hg); have h2 := ua_v g h; omega
  have ho20_a : reL (phi (idsL (cView g0)) (cView (mkTView g0 (1)))) (cDb a) = some (cDb a) := re_same fun g hg h => by
    skip
    have h1 := Gg0.lo g (by simpa only [idsL_cS] using hg); have h2 := ua_a g h; omega
  have ho20_x : reL (phi (idsL (cView g0)) (cView (mkTView g0 (1)))) (cDelta x) = some (cDelta x) := re_same fun g hg h => by
    skip
    have h1 := Gg0.lo g (by simpa only [idsL_cS] using hg); have h2 := ua_x g h; omega
  have ho20_w0 : reL (phi (idsL (cView g0)) (cView (mkTView g0 (1)))) (cView w0) = some (cView w0) := re_same fun g hg h => by
    skip
    have h1 := Gg0.lo g (by simpa only [idsL_cS] using hg); have h2 := uw0 g h; omega
  have ho20_y5 : reL (phi (idsL (cView g0)) (cView (mkTView g0 (1)))) (cView (mkTView y5 (1))) = some (cView (mkTView y5 (1))) := re_same fun g hg h => by
    rw [marksTView.ids] at h
    have h1 := Gg0.lo g (by simpa only [idsL_cS] using hg); have h2 := u5 g h; omega
  have ho20_y6 : reL (phi (idsL (cView g0)) (cView (mkTView g0 (1)))) (cDb (mkTDb y6 (1 + wtTView y5))) = some (cDb (mkTDb y6 (1 + wtTView y5))) := re_same fun g hg h => by
    rw [marksTDb.ids] at h
    have h1 := Gg0.lo g (by simpa only [idsL_cS] using hg); have h2 := u6 g h; omega
  have ho20_y7 : reL (phi (idsL (cView g0)) (cView (mkTView g0 (1)))) (cDelta (mkTDelta y7 (1 + wtTView y5 + wtTDb y6))) = some (cDelta (mkTDelta y7 (1 + wtTView y5 + wtTDb y6))) := re_same fun g hg h => by
    rw [marksTDelta.ids] at h
    have h1 := Gg0.lo g (by simpa only [idsL_cS] using hg); have h2 := u7 g h; omega
  replace hre20 := reVL_map hre20
  replace ho20_v := reVL_map ho20_v
  replace ho20_a := reVL_map ho20_a
  replace ho20_x := reVL_map ho20_x
  replace ho20_w0 := reVL_map ho20_w0
  replace ho20_y5 := reVL_map ho20_y5
  replace ho20_y6 := reVL_map ho20_y6
  replace ho20_y7 := reVL_map ho20_y7
  simp only [s5_18, s5_20, s5_22, cCnt, cDb, cDelta, cI, cQuery, cReln, cS, cStr, cView, cI, cS, List.cons_append, List.nil_append, List.map_cons, List.map_nil, reVL_cons, reVL_nil, List.cons.injEq, and_true, reV_int, reV_str, true_and, mkTAtom, mkTCnt, mkTDb, mkTDelta, mkTQuery, mkTReln, mkTTab, mkTView] at hre20 ho20_v ho20_a ho20_x ho20_w0 ho20_y5 ho20_y6 ho20_y7
  simp [hre20, ho20_v, ho20_a, ho20_x, ho20_w0, ho20_y5, ho20_y6, ho20_y7, s5_18, s5_20, s5_22, cCnt, cDb, cDelta, cI, cQuery, cReln, cS, cStr, cView, cI, cS, mkTAtom, mkTCnt, mkTDb, mkTDelta, mkTQuery, mkTReln, mkTTab, mkTView, show ¬ (1 + wtTView g0 : Int) < 0 by omega, show (0 : Int) ≤ 1 + wtTView g0 by omega]
  refine call_pure (w_laws_heldView (mkTView g0 (1)) (1) (by omega) (by rw [marksTView.wt]; omega) (ok_mkTView _ _ kg0)) rfl (by simp) rfl fun hs21 hh21 => ?_
  simp at hh21
  rw [marksTView.hl, marksTView.wt]
  simp [show ¬ (1 + wtTView g0 : Int) < 0 by omega]
  refine cutT (X := View) (fun h0 _ => plView h0 = avP (plDb a) (plView v) (plDelta x) ∧ okView h0) (fun h0 => [(8, .ptr 8 0 0), (13, .ptr 13 0 0), (18, .ptr 18 0 0), (9, .d (.bool (avB (plDb a) (plView v) (plDelta x)))), (14, .d (.bool (avB (plDb a) (plView v) (plDelta x)))), (19, .d (.bool (avB (plDb a) (plView v) (plDelta x)))), (16, .d (.int .i64 (1 + wtTView g0)))]) (fun h0 => [(8, some (.box ((cView w0).map V.d))), (13, some (.box ((cView (mkTView g0 (1))).map V.d))), (18, some (.box ((cView h0).map V.d)))]) ?_ ?_
  · intro K hK
    simp [s5_38, cCnt, cDb, cDelta, cI, cQuery, cReln, cS, cStr, cView, cI, cS]
    repeat' apply And.intro
    all_goals
      refine call_some (w_laws_toView v k_v (by omega)) rfl (by simp) fun n22 hs22 r22 hn22 hm22 hp22 hr22 => ?_
      obtain ⟨y22, rfl, p22, k22, G22⟩ := hp22
      have u22 : ∀ g ∈ idsL (cView y22), g < hs22 := fun g hg => hr22 g (by first | (rw [ids_agg]; exact hg) | (simpa only [V.ids, idsL_cS] using hg))
      simp at hn22
      have e22 : wtTView y22 = wtTView v := by rw [wtTView_pl, wtTView_pl, p22]
      simp [s5_18, s5_20, s5_22, cCnt, cDb, cDelta, cI, cQuery, cReln, cS, cStr, cView, cI, cS]
      repeat' apply And.intro
      all_goals
        refine call_some (w_laws_toDatabase a k_a (by omega)) rfl (by simp) fun n23 hs23 r23 hn23 hm23 hp23 hr23 => ?_
        obtain ⟨y23, rfl, p23, k23, G23⟩ := hp23
        have u23 : ∀ g ∈ idsL (cDb y23), g < hs23 := fun g hg => hr23 g (by first | (rw [ids_agg]; exact hg) | (simpa only [V.ids, idsL_cS] using hg))
        simp at hn23
        have e23 : wtTDb y23 = wtTDb a := by rw [wtTDb_pl, wtTDb_pl, p23]
        simp [s5_18, s5_20, s5_22, cCnt, cDb, cDelta, cI, cQuery, cReln, cS, cStr, cView, cI, cS]
        repeat' apply And.intro
        all_goals
          refine call_some (w_laws_toDelta x k_x (by omega)) rfl (by simp) fun n24 hs24 r24 hn24 hm24 hp24 hr24 => ?_
          obtain ⟨y24, rfl, p24, k24, G24⟩ := hp24
          have u24 : ∀ g ∈ idsL (cDelta y24), g < hs24 := fun g hg => hr24 g (by first | (rw [ids_agg]; exact hg) | (simpa only [V.ids, idsL_cS] using hg))
          simp at hn24
          have e24 : wtTDelta y24 = wtTDelta x := by rw [wtTDelta_pl, wtTDelta_pl, p24]
          simp [s5_18, s5_20, s5_22, cCnt, cDb, cDelta, cI, cQuery, cReln, cS, cStr, cView, cI, cS]
          repeat' apply And.intro
          all_goals
            refine call_some (t_impl_ApplyToView y22 y23 y24 k22 k23 k24 (hsz _ p23)) rfl (by simp) fun n25 hs25 r25 hn25 hm25 hp25 hr25 => ?_
            obtain ⟨h0, rfl, ph0, kh0, Gh0⟩ := hp25
            have uh0 : ∀ g ∈ idsL (cView h0), g < hs25 := fun g hg => hr25 g (by simp only [V.ids, idsVL, ids_agg, idsVL_map_d, idsL_cS, List.mem_append] at hg ⊢; simp [hg])
            have lh0 := Gh0.lo
            simp only [p22] at ph0
            simp only [p23] at ph0
            simp only [p24] at ph0
            simp at hn25
            simp [s5_18, s5_20, s5_22, cCnt, cDb, cDelta, cI, cQuery, cReln, cS, cStr, cView, cI, cS, p22, p23, p24]
            exact hK h0 _ ⟨ph0, kh0⟩ rfl rfl (by simp <;> omega) (by simp [cCnt, cDb, cDelta, cI, cQuery, cReln, cS, cStr, cView, cI, cS, mkTAtom, mkTCnt, mkTDb, mkTDelta, mkTQuery, mkTReln, mkTTab, mkTView, p22, p23, p24]) (by simp [cCnt, cDb, cDelta, cI, cQuery, cReln, cS, cStr, cView, cI, cS, mkTAtom, mkTCnt, mkTDb, mkTDelta, mkTQuery, mkTReln, mkTTab, mkTView])
  intro h0 hsh th mh hh hhh
  obtain ⟨ph0, kh0⟩ := hh
  simp [s5_18, s5_20, s5_22, cCnt, cDb, cDelta, cI, cQuery, cReln, cS, cStr, cView, cI, cS, mkTAtom, mkTCnt, mkTDb, mkTDelta, mkTQuery, mkTReln, mkTTab, mkTView]
  refine call_pure (w_laws_eqView h0 w0 kh0) rfl (by simp) rfl fun hs26 hh26 => ?_
  simp at hh26
  simp [s5_18, s5_20, s5_22, cCnt, cDb, cDelta, cI, cQuery, cReln, cS, cStr, cView, cI, cS, ph0, pw0]
  refine call_pure (w_laws_heldView (mkTView g0 (1)) (1) (by omega) (by rw [marksTView.wt]; omega) (ok_mkTView _ _ kg0)) rfl (by simp) rfl fun hs27 hh27 => ?_
  simp at hh27
  rw [marksTView.hl, marksTView.wt]
  simp [show ¬ (1 + wtTView g0 : Int) < 0 by omega]

end Go.Proofs.YtggbpdjjlgejmaaGreat


namespace Go.Proofs.YtggbpdjjlgejmaaGreat
open Go.Vs Go.Proofs Go
set_option maxRecDepth 100000
set_option maxHeartbeats 1000000

theorem w_laws_FnExactApplyBatchToView (v : View) (a : Db) (x : Sl (Delta)) (k_v : okView v) (k_a : okDb a) (k_x : okS okDelta x) :
   VC Tryz.prog 6 [.agg ((cView v).map V.d), .agg ((cDb a).map V.d), .d (dSl cDelta x)] (fun _ r => r = .d (.bool true)) := by
  refine VC.ofB E s6 (by kernel_rfl) Tryz.func6 (by rfl) (by kernel_rfl) (by simp [Tryz.f6]) (by simp [Tryz.f6]) s6_ok fun B hB => ?_
  have ua_v : ∀ g ∈ idsL (cView v), g < B := fun g hg => hB g (by simp only [idsVL, ids_agg, idsVL_map_d, V.ids, idsL_cS, List.mem_append] at hg ⊢; simp [hg])
  have ua_a : ∀ g ∈ idsL (cDb a), g < B := fun g hg => hB g (by simp only [idsVL, ids_agg, idsVL_map_d, V.ids, idsL_cS, List.mem_append] at hg ⊢; simp [hg])
  have ua_x : ∀ g ∈ idsL (cS cDelta x), g < B := fun g hg => hB g (by simp only [idsVL, ids_agg, idsVL_map_d, V.ids, idsL_cS, List.mem_append] at hg ⊢; simp [hg])
  simp [Tryz.f6, s6_18, s6_20, s6_18, s6_20, cCnt, cDb, cI, cQuery, cS, cView, cI, cS]
  refine call_pure (w_laws_szView v _ (by omega) (by omega) k_v) rfl (by simp) rfl fun hz_v zz_v => ?_
  simp at zz_v
  by_cases s_v : (swView v : Int) ≤ 1048576
  case neg =>
    rw [szv_neg (by omega)]; simp
    all_goals exact fun h => absurd h (by decide)
  rw [szv_pos s_v]
  simp [show ¬ (1048576 : Int) - swView v < 0 by omega, show ¬ (1048576 : Int) < swView v by omega, s_v]
  refine call_pure (w_laws_szDatabase a _ (by omega) (by omega) k_a) rfl (by simp) rfl fun hz_a zz_a => ?_
  simp at zz_a
  by_cases s_a : (swDb a : Int) ≤ 1048576 - swView v
  case neg =>
    rw [szv_neg (by omega)]; simp
    all_goals exact fun h => absurd h (by decide)
  rw [szv_pos s_a]
  simp [show ¬ (1048576 - swView v : Int) - swDb a < 0 by omega, show ¬ (1048576 - swView v : Int) < swDb a by omega, s_a]
  refine call_pure (w_laws_szDeltaS x _ (by omega) (by omega) k_x) rfl (by simp) rfl fun hz_x zz_x => ?_
  simp at zz_x
  by_cases s_x : (swS swDelta x : Int) ≤ 1048576 - swView v - swDb a
  case neg =>
    rw [szv_neg (by omega)]; simp
    all_goals exact fun h => absurd h (by decide)
  rw [szv_pos s_x]
  simp [show ¬ (1048576 - swView v - swDb a : Int) - swS swDelta x < 0 by omega, show ¬ (1048576 - swView v - swDb a : Int) < swS swDelta x by omega, s_x]
  have hw_v := wbT_View v
  have hw_a := wbT_Db a
  have hw_x := wb_S_Delta x
  have hsz : ∀ y : Db, plDb y = plDb a → szDb (plDb y) := fun y h => by rw [h]; exact szDb_sw a (by omega)
  refine cutT (X := View) (fun w0 hs => plView w0 = abvP (plView v) (plDb a) (plS plDelta x) ∧ ∀ g ∈ idsL (cView w0), g < hs) (fun w0 => [(3, .ptr 3 0 0), (4, .ptr 4 0 0), (2, .d (dSl cDelta x)), (8, .ptr 8 0 0), (9, .d (.bool (abvB (plView v) (plDb a) (plS plDelta x))))]) (fun w0 => [(3, some (.box ((cView v).map V.d))), (4, some (.box ((cDb a).map V.d))), (8, some (.box ((cView w0).map V.d)))]) ?_ ?_
  · intro K hK
    simp [s6_11, cCnt, cDb, cI, cQuery, cS, cView, cI, cS]
    repeat' apply And.intro
    all_goals
      refine call_some (w_laws_toView v k_v (by omega)) rfl (by simp) fun n1 hs1 r1 hn1 hm1 hp1 hr1 => ?_
      obtain ⟨y1, rfl, p1, k1, G1⟩ := hp1
      have u1 : ∀ g ∈ idsL (cView y1), g < hs1 := fun g hg => hr1 g (by first | (rw [ids_agg]; exact hg) | (simpa only [V.ids, idsL_cS] using hg))
      simp at hn1
      have e1 : wtTView y1 = wtTView v := by rw [wtTView_pl, wtTView_pl, p1]
      simp [s6_18, s6_20, cCnt, cDb, cI, cQuery, cS, cView, cI, cS]
      repeat' apply And.intro
      all_goals
        refine call_some (w_laws_toDatabase a k_a (by omega)) rfl (by simp) fun n2 hs2 r2 hn2 hm2 hp2 hr2 => ?_
        obtain ⟨y2, rfl, p2, k2, G2⟩ := hp2
        have u2 : ∀ g ∈ idsL (cDb y2), g < hs2 := fun g hg => hr2 g (by first | (rw [ids_agg]; exact hg) | (simpa only [V.ids, idsL_cS] using hg))
        simp at hn2
        have e2 : wtTDb y2 = wtTDb a := by rw [wtTDb_pl, wtTDb_pl, p2]
        simp [s6_18, s6_20, cCnt, cDb, cI, cQuery, cS, cView, cI, cS]
        repeat' apply And.intro
        all_goals
          refine call_some (w_laws_toDeltaS x k_x (by omega)) rfl (by simp) fun n3 hs3 r3 hn3 hm3 hp3 hr3 => ?_
          obtain ⟨y3, rfl, p3, k3, G3⟩ := hp3
          have u3 : ∀ g ∈ idsL (cS cDelta y3), g < hs3 := fun g hg => hr3 g (by first | (rw [ids_agg]; exact hg) | (simpa only [V.ids, idsL_cS] using hg))
          simp at hn3
          have e3 : wtS wtDelta y3 = wtS wtDelta x := by rw [wt_S_Delta_pl, wt_S_Delta_pl, p3]
          simp [s6_18, s6_20, cCnt, cDb, cI, cQuery, cS, cView, cI, cS]
          repeat' apply And.intro
          all_goals
            refine call_some (VC.track (VC.to (w_spec_ApplyBatchToView (plView y1) (plDb y2) (plS plDelta y3) (hsz _ p2) (okDb_strs k2) (okView_strs k1) (okDeltas_st k3)) (show _ = V.tup [.agg ((eView (abvP (plView v) (plDb a) (plS plDelta x))).map V.d), .d (.bool (abvB (plView v) (plDb a) (plS plDelta x)))] by rw [p1, p2, p3])) (by simp [er_I, er_SI, er_Str, er_File, er_Tab, er_Db, er_Delta, er_Atom, er_VRel, eCnt, eDb, eQuery, eView, plCnt, plDb, plI, plQuery, plView, cP, pS, plI]) (by simp [V.pn, pnVL])) rfl (by simp) fun n4 hs4 r4 hn4 hm4 hp4 hr4 => ?_
            obtain ⟨hq4, ht4⟩ := hp4
            obtain ⟨x40, x41, rfl, q40, q41, t40, t41⟩ := rp_tup2 hq4 ht4
            obtain ⟨w0, rfl, pw0⟩ := rp_agg tk_View q40 t40
            obtain rfl := rp_flat q41 rfl
            have uw0 : ∀ g ∈ idsL (cView w0), g < hs4 := fun g hg => hr4 g (by simp only [V.ids, idsVL, ids_agg, idsVL_map_d, idsL_cS, List.mem_append] at hg ⊢; simp [hg])
            simp at hn4
            clear hr4
            simp [s6_18, s6_20, cCnt, cDb, cI, cQuery, cS, cView, cI, cS]
            exact hK w0 _ ⟨pw0, uw0⟩ rfl rfl (by simp <;> omega) (by simp [cCnt, cDb, cI, cQuery, cS, cView, cI, cS]) (by simp [cCnt, cDb, cI, cQuery, cS, cView, cI, cS])
  intro w0 hsw tw mw hw hhw
  obtain ⟨pw0, uw0⟩ := hw
  simp [s6_18, s6_20, cCnt, cDb, cI, cQuery, cS, cView, cI, cS]
  refine call_some (w_laws_toView v k_v (by omega)) rfl (by simp) fun n5 hs5 r5 hn5 hm5 hp5 hr5 => ?_
  obtain ⟨y5, rfl, p5, k5, G5⟩ := hp5
  have u5 : ∀ g ∈ idsL (cView y5), g < hs5 := fun g hg => hr5 g (by first | (rw [ids_agg]; exact hg) | (simpa only [V.ids, idsL_cS] using hg))
  simp at hn5
  have e5 : wtTView y5 = wtTView v := by rw [wtTView_pl, wtTView_pl, p5]
  simp [s6_18, s6_20, cCnt, cDb, cI, cQuery, cS, cView, cI, cS]
  refine call_some (w_laws_toDatabase a k_a (by omega)) rfl (by simp) fun n6 hs6 r6 hn6 hm6 hp6 hr6 => ?_
  obtain ⟨y6, rfl, p6, k6, G6⟩ := hp6
  have u6 : ∀ g ∈ idsL (cDb y6), g < hs6 := fun g hg => hr6 g (by first | (rw [ids_agg]; exact hg) | (simpa only [V.ids, idsL_cS] using hg))
  simp at hn6
  have e6 : wtTDb y6 = wtTDb a := by rw [wtTDb_pl, wtTDb_pl, p6]
  simp [s6_18, s6_20, cCnt, cDb, cI, cQuery, cS, cView, cI, cS]
  refine call_some (w_laws_toDeltaS x k_x (by omega)) rfl (by simp) fun n7 hs7 r7 hn7 hm7 hp7 hr7 => ?_
  obtain ⟨y7, rfl, p7, k7, G7⟩ := hp7
  have u7 : ∀ g ∈ idsL (cS cDelta y7), g < hs7 := fun g hg => hr7 g (by first | (rw [ids_agg]; exact hg) | (simpa only [V.ids, idsL_cS] using hg))
  simp at hn7
  have e7 : wtS wtDelta y7 = wtS wtDelta x := by rw [wt_S_Delta_pl, wt_S_Delta_pl, p7]
  simp [s6_18, s6_20, cCnt, cDb, cI, cQuery, cS, cView, cI, cS]
  refine call_some (t_impl_ApplyBatchToView y5 y6 y7 k5 k6 k7 (hsz _ p6)) rfl (by simp) fun n8 hs8 r8 hn8 hm8 hp8 hr8 => ?_
  obtain ⟨g0, rfl, pg0, kg0, Gg0⟩ := hp8
  have ug0 : ∀ g ∈ idsL (cView g0), g < hs8 := fun g hg => hr8 g (by simp only [V.ids, idsVL, ids_agg, idsVL_map_d, idsL_cS, List.mem_append] at hg ⊢; simp [hg])
  have lg0 := Gg0.lo
  simp only [p5] at pg0
  simp only [p6] at pg0
  simp only [p7] at pg0
  simp at hn8
  simp [s6_18, s6_20, cCnt, cDb, cI, cQuery, cS, cView, cI, cS, p5, p6, p7]
  have hbg0 : 1 + (wtTView g0 : Int) ≤ 4611686018427387904 := by
    rw [wtTView_pl, pg0]
    have := wp_abvP (plView v) (plDb a) (plS plDelta x); omega
  refine call_pure (w_laws_eqView g0 w0 kg0) rfl (by simp) rfl fun hs9 hh9 => ?_
  simp at hh9
  simp [s6_18, s6_20, cCnt, cDb, cI, cQuery, cS, cView, cI, cS, pg0, pw0]
  refine call_some (w_laws_toView v k_v (by omega)) rfl (by simp) fun n10 hs10 r10 hn10 hm10 hp10 hr10 => ?_
  obtain ⟨y10, rfl, p10, k10, G10⟩ := hp10
  have u10 : ∀ g ∈ idsL (cView y10), g < hs10 := fun g hg => hr10 g (by first | (rw [ids_agg]; exact hg) | (simpa only [V.ids, idsL_cS] using hg))
  simp at hn10
  have e10 : wtTView y10 = wtTView v := by rw [wtTView_pl, wtTView_pl, p10]
  simp [s6_18, s6_20, cCnt, cDb, cI, cQuery, cS, cView, cI, cS]
  refine call_pure (w_laws_eqView y5 y10 k5) rfl (by simp) rfl fun hs11 hh11 => ?_
  simp at hh11
  simp [s6_18, s6_20, cCnt, cDb, cI, cQuery, cS, cView, cI, cS, p5, p10]
  refine call_some (w_laws_toDatabase a k_a (by omega)) rfl (by simp) fun n12 hs12 r12 hn12 hm12 hp12 hr12 => ?_
  obtain ⟨y12, rfl, p12, k12, G12⟩ := hp12
  have u12 : ∀ g ∈ idsL (cDb y12), g < hs12 := fun g hg => hr12 g (by first | (rw [ids_agg]; exact hg) | (simpa only [V.ids, idsL_cS] using hg))
  simp at hn12
  have e12 : wtTDb y12 = wtTDb a := by rw [wtTDb_pl, wtTDb_pl, p12]
  simp [s6_18, s6_20, cCnt, cDb, cI, cQuery, cS, cView, cI, cS]
  refine call_pure (w_laws_eqDatabase y6 y12 k6) rfl (by simp) rfl fun hs13 hh13 => ?_
  simp at hh13
  simp [s6_18, s6_20, cCnt, cDb, cI, cQuery, cS, cView, cI, cS, p6, p12]
  refine call_some (w_laws_toDeltaS x k_x (by omega)) rfl (by simp) fun n14 hs14 r14 hn14 hm14 hp14 hr14 => ?_
  obtain ⟨y14, rfl, p14, k14, G14⟩ := hp14
  have u14 : ∀ g ∈ idsL (cS cDelta y14), g < hs14 := fun g hg => hr14 g (by first | (rw [ids_agg]; exact hg) | (simpa only [V.ids, idsL_cS] using hg))
  simp at hn14
  have e14 : wtS wtDelta y14 = wtS wtDelta x := by rw [wt_S_Delta_pl, wt_S_Delta_pl, p14]
  simp [s6_18, s6_20, cCnt, cDb, cI, cQuery, cS, cView, cI, cS]
  refine call_pure (w_laws_eqDeltaS y7 y14 k7) rfl (by simp) rfl fun hs15 hh15 => ?_
  simp at hh15
  simp [s6_18, s6_20, cCnt, cDb, cI, cQuery, cS, cView, cI, cS, p7, p14]
  refine call_x (E18) (by simp) (by simp) (by simp) (fun q hq => .inl ?_) (w_laws_markView y5 (1) (by omega) (by omega) G5.wh k5 G5.nd) fun n16 hs16 r16 cs16 ws16 hn16 hm16 hp16 hr16 hw16 => ?_
  · have := G5.lo q (by simpa only [idsL_cS] using hq)
    show B ≤ q
    omega
  obtain ⟨rfl, rfl⟩ := hp16
  simp at hn16
  have hre16 : reL (phi (idsL (cView y5)) (cView (mkTView y5 (1)))) (cView y5) = some (cView (mkTView y5 (1))) := re_sim (simT_View G5.wh _) (marksTView.ids _ _) G5.nd
  have ho16_v : reL (phi (idsL (cView y5)) (cView (mkTView y5 (1)))) (cView v) = some (cView v) := re_same fun g hg h => by
    skip
    have h1 := G5.lo g (by simpa only [idsL_cS] using hg); have h2 := ua_v g h; omega
  have ho16_a : reL (phi (idsL (cView y5)) (cView (mkTView y5 (1)))) (cDb a) = some (cDb a) := re_same fun g hg h => by
    skip
    have h1 := G5.lo g (by simpa only [idsL_cS] using hg); have h2 := ua_a g h; omega
  have ho16_x : reL (phi (idsL (cView y5)) (cView (mkTView y5 (1)))) (cS cDelta x) = some (cS cDelta x) := re_same fun g hg h => by
    skip
    have h1 := G5.lo g (by simpa only [idsL_cS] using hg); have h2 := ua_x g h; omega
  have ho16_w0 : reL (phi (idsL (cView y5)) (cView (mkTView y5 (1)))) (cView w0) = some (cView w0) := re_same fun g hg h => by
    skip
    have h1 := G5.lo g (by simpa only [idsL_cS] using hg); have h2 := uw0 g h; omega
  have ho16_g0 : reL (phi (idsL (cView y5)) (cView (mkTView y5 (1)))) (cView g0) = some (cView g0) := re_same fun g hg h => by
    skip
    have h1 := u5 g (by simpa only [idsL_cS] using hg); have h2 := lg0 g h; omega
  have ho16_y6 : reL (phi (idsL (cView y5)) (cView (mkTView y5 (1)))) (cDb y6) = some (cDb y6) := re_same fun g hg h => by
    skip
    have h1 := u5 g (by simpa only [idsL_cS] using hg); have h2 := (G6.lo) g h; omega
  have ho16_y7 : reL (phi (idsL (cView y5)) (cView (mkTView y5 (1)))) (cS cDelta y7) = some (cS cDelta y7) := re_same fun g hg h => by
    skip
    have h1 := u5 g (by simpa only [idsL_cS] using hg); have h2 := (G7.lo) g h; omega
  replace hre16 := reVL_map hre16
  replace ho16_v := reVL_map ho16_v
  replace ho16_a := reVL_map ho16_a
  replace ho16_x := reVL_map ho16_x
  replace ho16_w0 := reVL_map ho16_w0
  replace ho16_g0 := reVL_map ho16_g0
  replace ho16_y6 := reVL_map ho16_y6
  replace ho16_y7 := reVL_map ho16_y7
  simp only [s6_18, s6_20, cCnt, cDb, cI, cQuery, cS, cView, cI, cS, List.cons_append, List.nil_append, List.map_cons, List.map_nil, reVL_cons, reVL_nil, List.cons.injEq, and_true, reV_int, reV_str, true_and, mkTAtom, mkTCnt, mkTDb, mkTDelta, mkTQuery, mkTReln, mkTTab, mkTView] at hre16 ho16_v ho16_a ho16_x ho16_w0 ho16_g0 ho16_y6 ho16_y7
  simp [hre16, ho16_v, ho16_a, ho16_x, ho16_w0, ho16_g0, ho16_y6, ho16_y7, s6_18, s6_20, cCnt, cDb, cI, cQuery, cS, cView, cI, cS, mkTAtom, mkTCnt, mkTDb, mkTDelta, mkTQuery, mkTReln, mkTTab, mkTView, show ¬ (1 + wtTView y5 : Int) < 0 by omega, show (0 : Int) ≤ 1 + wtTView y5 by omega]
  refine call_x (E16) (by simp) (by simp) (by simp) (fun q hq => .inl ?_) (w_laws_markDatabase y6 (1 + wtTView y5) (by omega) (by omega) G6.wh k6 G6.nd) fun n17 hs17 r17 cs17 ws17 hn17 hm17 hp17 hr17 hw17 => ?_
  · have := G6.lo q (by simpa only [idsL_cS] using hq)
    show B ≤ q
    omega
  obtain ⟨rfl, rfl⟩ := hp17
  simp at hn17
  have hre17 : reL (phi (idsL (cDb y6)) (cDb (mkTDb y6 (1 + wtTView y5)))) (cDb y6) = some (cDb (mkTDb y6 (1 + wtTView y5))) := re_sim (simT_Db G6.wh _) (marksTDb.ids _ _) G6.nd
  have ho17_v : reL (phi (idsL (cDb y6)) (cDb (mkTDb y6 (1 + wtTView y5)))) (cView v) = some (cView v) := re_same fun g hg h => by
    skip
    have h1 := G6.lo g (by simpa only [idsL_cS] using hg); have h2 := ua_v g h; omega
  have ho17_a : reL (phi (idsL (cDb y6)) (cDb (mkTDb y6 (1 + wtTView y5)))) (cDb a) = some (cDb a) := re_same fun g hg h => by
    skip
    have h1 := G6.lo g (by simpa only [idsL_cS] using hg); have h2 := ua_a g h; omega
  have ho17_x : reL (phi (idsL (cDb y6)) (cDb (mkTDb y6 (1 + wtTView y5)))) (cS cDelta x) = some (cS cDelta x) := re_same fun g hg h => by
    skip
    have h1 := G6.lo g (by simpa only [idsL_cS] using hg); have h2 := ua_x g h; omega
  have ho17_w0 : reL (phi (idsL (cDb y6)) (cDb (mkTDb y6 (1 + wtTView y5)))) (cView w0) = some (cView w0) := re_same fun g hg h => by
    skip
    have h1 := G6.lo g (by simpa only [idsL_cS] using hg); have h2 := uw0 g h; omega
  have ho17_g0 : reL (phi (idsL (cDb y6)) (cDb (mkTDb y6 (1 + wtTView y5)))) (cView g0) = some (cView g0) := re_same fun g hg h => by
    skip
    have h1 := u6 g (by simpa only [idsL_cS] using hg); have h2 := lg0 g h; omega
  have ho17_y5 : reL (phi (idsL (cDb y6)) (cDb (mkTDb y6 (1 + wtTView y5)))) (cView (mkTView y5 (1))) = some (cView (mkTView y5 (1))) := re_same fun g hg h => by
    rw [marksTView.ids] at h
    have h1 := G6.lo g (by simpa only [idsL_cS] using hg); have h2 := u5 g h; omega
  have ho17_y7 : reL (phi (idsL (cDb y6)) (cDb (mkTDb y6 (1 + wtTView y5)))) (cS cDelta y7) = some (cS cDelta y7) := re_same fun g hg h => by
    skip
    have h1 := u6 g (by simpa only [idsL_cS] using hg); have h2 := (G7.lo) g h; omega
  replace hre17 := reVL_map hre17
  replace ho17_v := reVL_map ho17_v
  replace ho17_a := reVL_map ho17_a
  replace ho17_x := reVL_map ho17_x
  replace ho17_w0 := reVL_map ho17_w0
  replace ho17_g0 := reVL_map ho17_g0
  replace ho17_y5 := reVL_map ho17_y5
  replace ho17_y7 := reVL_map ho17_y7
  simp only [s6_18, s6_20, cCnt, cDb, cI, cQuery, cS, cView, cI, cS, List.cons_append, List.nil_append, List.map_cons, List.map_nil, reVL_cons, reVL_nil, List.cons.injEq, and_true, reV_int, reV_str, true_and, mkTAtom, mkTCnt, mkTDb, mkTDelta, mkTQuery, mkTReln, mkTTab, mkTView] at hre17 ho17_v ho17_a ho17_x ho17_w0 ho17_g0 ho17_y5 ho17_y7
  simp [hre17, ho17_v, ho17_a, ho17_x, ho17_w0, ho17_g0, ho17_y5, ho17_y7, s6_18, s6_20, cCnt, cDb, cI, cQuery, cS, cView, cI, cS, mkTAtom, mkTCnt, mkTDb, mkTDelta, mkTQuery, mkTReln, mkTTab, mkTView, show ¬ (1 + wtTView y5 + wtTDb y6 : Int) < 0 by omega, show (0 : Int) ≤ 1 + wtTView y5 + wtTDb y6 by omega]
  refine call_x (E38) (by simp) (by simp) (by simp) (fun q hq => .inl ?_) (w_laws_markDeltaS y7 (1 + wtTView y5 + wtTDb y6) (by omega) (by omega) G7.wh k7 (by have := G7.nd; rwa [idsL_cS] at this)) fun n18 hs18 r18 cs18 ws18 hn18 hm18 hp18 hr18 hw18 => ?_
  · have := G7.lo q (by simpa only [idsL_cS] using hq)
    show B ≤ q
    omega
  obtain ⟨rfl, rfl⟩ := hp18
  simp at hn18
  have hre18 : reL (phi (dSl cDelta y7).ids [dSl cDelta (mkS (mkDelta) (wtDelta) y7 (1 + wtTView y5 + wtTDb y6))]) (cS cDelta y7) = some (cS cDelta (mkS (mkDelta) (wtDelta) y7 (1 + wtTView y5 + wtTDb y6))) := by
    have := re_sim (sim_mk marksDelta G7.wh (1 + wtTView y5 + wtTDb y6)) ((marksS marksDelta).ids _ _) (by rw [idsL_cS]; exact (by have := G7.nd; rwa [idsL_cS] at this))
    rw [idsL_cS] at this
    exact this
  have ho18_v : reL (phi (dSl cDelta y7).ids [dSl cDelta (mkS (mkDelta) (wtDelta) y7 (1 + wtTView y5 + wtTDb y6))]) (cView v) = some (cView v) := re_same fun g hg h => by
    skip
    have h1 := G7.lo g (by simpa only [idsL_cS] using hg); have h2 := ua_v g h; omega
  have ho18_a : reL (phi (dSl cDelta y7).ids [dSl cDelta (mkS (mkDelta) (wtDelta) y7 (1 + wtTView y5 + wtTDb y6))]) (cDb a) = some (cDb a) := re_same fun g hg h => by
    skip
    have h1 := G7.lo g (by simpa only [idsL_cS] using hg); have h2 := ua_a g h; omega
  have ho18_x : reL (phi (dSl cDelta y7).ids [dSl cDelta (mkS (mkDelta) (wtDelta) y7 (1 + wtTView y5 + wtTDb y6))]) (cS cDelta x) = some (cS cDelta x) := re_same fun g hg h => by
    skip
    have h1 := G7.lo g (by simpa only [idsL_cS] using hg); have h2 := ua_x g h; omega
  have ho18_w0 : reL (phi (dSl cDelta y7).ids [dSl cDelta (mkS (mkDelta) (wtDelta) y7 (1 + wtTView y5 + wtTDb y6))]) (cView w0) = some (cView w0) := re_same fun g hg h => by
    skip
    have h1 := G7.lo g (by simpa only [idsL_cS] using hg); have h2 := uw0 g h; omega
  have ho18_g0 : reL (phi (dSl cDelta y7).ids [dSl cDelta (mkS (mkDelta) (wtDelta) y7 (1 + wtTView y5 + wtTDb y6))]) (cView g0) = some (cView g0) := re_same fun g hg h => by
    skip
    have h1 := u7 g (by simpa only [idsL_cS] using hg); have h2 := lg0 g h; omega
  have ho18_y5 : reL (phi (dSl cDelta y7).ids [dSl cDelta (mkS (mkDelta) (wtDelta) y7 (1 + wtTView y5 + wtTDb y6))]) (cView (mkTView y5 (1))) = some (cView (mkTView y5 (1))) := re_same fun g hg h => by
    rw [marksTView.ids] at h
    have h1 := G7.lo g (by simpa only [idsL_cS] using hg); have h2 := u5 g h; omega
  have ho18_y6 : reL (phi (dSl cDelta y7).ids [dSl cDelta (mkS (mkDelta) (wtDelta) y7 (1 + wtTView y5 + wtTDb y6))]) (cDb (mkTDb y6 (1 + wtTView y5))) = some (cDb (mkTDb y6 (1 + wtTView y5))) := re_same fun g hg h => by
    rw [marksTDb.ids] at h
    have h1 := G7.lo g (by simpa only [idsL_cS] using hg); have h2 := u6 g h; omega
  replace hre18 := reVL_map hre18
  replace ho18_v := reVL_map ho18_v
  replace ho18_a := reVL_map ho18_a
  replace ho18_x := reVL_map ho18_x
  replace ho18_w0 := reVL_map ho18_w0
  replace ho18_g0 := reVL_map ho18_g0
  replace ho18_y5 := reVL_map ho18_y5
  replace ho18_y6 := reVL_map ho18_y6
  simp only [s6_18, s6_20, cCnt, cDb, cI, cQuery, cS, cView, cI, cS, List.cons_append, List.nil_append, List.map_cons, List.map_nil, reVL_cons, reVL_nil, List.cons.injEq, and_true, reV_int, reV_str, true_and, mkTAtom, mkTCnt, mkTDb, mkTDelta, mkTQuery, mkTReln, mkTTab, mkTView] at hre18 ho18_v ho18_a ho18_x ho18_w0 ho18_g0 ho18_y5 ho18_y6
  simp [hre18, ho18_v, ho18_a, ho18_x, ho18_w0, ho18_g0, ho18_y5, ho18_y6, s6_18, s6_20, cCnt, cDb, cI, cQuery, cS, cView, cI, cS, mkTAtom, mkTCnt, mkTDb, mkTDelta, mkTQuery, mkTReln, mkTTab, mkTView, show ¬ (1 + wtTView y5 + wtTDb y6 + wtS wtDelta y7 : Int) < 0 by omega, show (0 : Int) ≤ 1 + wtTView y5 + wtTDb y6 + wtS wtDelta y7 by omega]
  try simp [show ¬ (1 + wtTView y5 + wtTDb y6 + wtS wtDelta y7 : Int) < 0 by omega, show (0 : Int) ≤ 1 + wtTView y5 + wtTDb y6 + wtS wtDelta y7 by omega]
  refine call_pure (w_laws_eqView g0 w0 kg0) rfl (by simp) rfl fun hs19 hh19 => ?_
  simp at hh19
  simp [s6_18, s6_20, cCnt, cDb, cI, cQuery, cS, cView, cI, cS, pg0, pw0]
  refine call_x (E18) (by simp) (by simp) (by simp) (fun q hq => .inl ?_) (w_laws_markView g0 (1) (by omega) (by omega) Gg0.wh kg0 Gg0.nd) fun n20 hs20 r20 cs20 ws20 hn20 hm20 hp20 hr20 hw20 => ?_
  · have := Gg0.lo q (by simpa only [idsL_cS] using hq)
    show B ≤ q
    omega
  obtain ⟨rfl, rfl⟩ := hp20
  simp at hn20
  have hre20 : reL (phi (idsL (cView g0)) (cView (mkTView g0 (1)))) (cView g0) = some (cView (mkTView g0 (1))) := re_sim (simT_View Gg0.wh _) (marksTView.ids _ _) Gg0.nd
  have ho20_v : reL (phi (idsL (cView g0)) (cView (mkTView g0 (1)))) (cView v) = some (cView v) := re_same fun g hg h => by
    skip
    have h1 := Gg0.lo g (by simpa only [idsL_cS] using hg); have h2 := ua_v g h; omega
  have ho20_a : reL (phi (idsL (cView g0)) (cView (mkTView g0 (1)))) (cDb a) = some (cDb a) := re_same fun g hg h => by
    skip
    have h1 := Gg0.lo g (by simpa only [idsL_cS] using hg); have h2 := ua_a g h; omega
  have ho20_x : reL (phi (idsL (cView g0)) (cView (mkTView g0 (1)))) (cS cDelta x) = some (cS cDelta x) := re_same fun g hg h => by
    skip
    have h1 := Gg0.lo g (by simpa only [idsL_cS] using hg); have h2 := ua_x g h; omega
  have ho20_w0 : reL (phi (idsL (cView g0)) (cView (mkTView g0 (1)))) (cView w0) = some (cView w0) := re_same fun g hg h => by
    skip
    have h1 := Gg0.lo g (by simpa only [idsL_cS] using hg); have h2 := uw0 g h; omega
  have ho20_y5 : reL (phi (idsL (cView g0)) (cView (mkTView g0 (1)))) (cView (mkTView y5 (1))) = some (cView (mkTView y5 (1))) := re_same fun g hg h => by
    rw [marksTView.ids] at h
    have h1 := Gg0.lo g (by simpa only [idsL_cS] using hg); have h2 := u5 g h; omega
  have ho20_y6 : reL (phi (idsL (cView g0)) (cView (mkTView g0 (1)))) (cDb (mkTDb y6 (1 + wtTView y5))) = some (cDb (mkTDb y6 (1 + wtTView y5))) := re_same fun g hg h => by
    rw [marksTDb.ids] at h
    have h1 := Gg0.lo g (by simpa only [idsL_cS] using hg); have h2 := u6 g h; omega
  have ho20_y7 : reL (phi (idsL (cView g0)) (cView (mkTView g0 (1)))) (cS cDelta (mkS (mkDelta) (wtDelta) y7 (1 + wtTView y5 + wtTDb y6))) = some (cS cDelta (mkS (mkDelta) (wtDelta) y7 (1 + wtTView y5 + wtTDb y6))) := re_same fun g hg h => by
    rw [(marksS marksDelta).ids] at h
    have h1 := Gg0.lo g (by simpa only [idsL_cS] using hg); have h2 := u7 g h; omega
  replace hre20 := reVL_map hre20
  replace ho20_v := reVL_map ho20_v
  replace ho20_a := reVL_map ho20_a
  replace ho20_x := reVL_map ho20_x
  replace ho20_w0 := reVL_map ho20_w0
  replace ho20_y5 := reVL_map ho20_y5
  replace ho20_y6 := reVL_map ho20_y6
  replace ho20_y7 := reVL_map ho20_y7
  simp only [s6_18, s6_20, cCnt, cDb, cI, cQuery, cS, cView, cI, cS, List.cons_append, List.nil_append, List.map_cons, List.map_nil, reVL_cons, reVL_nil, List.cons.injEq, and_true, reV_int, reV_str, true_and, mkTAtom, mkTCnt, mkTDb, mkTDelta, mkTQuery, mkTReln, mkTTab, mkTView] at hre20 ho20_v ho20_a ho20_x ho20_w0 ho20_y5 ho20_y6 ho20_y7
  simp [hre20, ho20_v, ho20_a, ho20_x, ho20_w0, ho20_y5, ho20_y6, ho20_y7, s6_18, s6_20, cCnt, cDb, cI, cQuery, cS, cView, cI, cS, mkTAtom, mkTCnt, mkTDb, mkTDelta, mkTQuery, mkTReln, mkTTab, mkTView, show ¬ (1 + wtTView g0 : Int) < 0 by omega, show (0 : Int) ≤ 1 + wtTView g0 by omega]
  refine call_pure (w_laws_heldView (mkTView g0 (1)) (1) (by omega) (by rw [marksTView.wt]; omega) (ok_mkTView _ _ kg0)) rfl (by simp) rfl fun hs21 hh21 => ?_
  simp at hh21
  rw [marksTView.hl, marksTView.wt]
  simp [show ¬ (1 + wtTView g0 : Int) < 0 by omega]
  refine cutT (X := View) (fun h0 _ => plView h0 = abvP (plView v) (plDb a) (plS plDelta x) ∧ okView h0) (fun h0 => [(8, .ptr 8 0 0), (13, .ptr 13 0 0), (18, .ptr 18 0 0), (9, .d (.bool (abvB (plView v) (plDb a) (plS plDelta x)))), (14, .d (.bool (abvB (plView v) (plDb a) (plS plDelta x)))), (19, .d (.bool (abvB (plView v) (plDb a) (plS plDelta x)))), (16, .d (.int .i64 (1 + wtTView g0)))]) (fun h0 => [(8, some (.box ((cView w0).map V.d))), (13, some (.box ((cView (mkTView g0 (1))).map V.d))), (18, some (.box ((cView h0).map V.d)))]) ?_ ?_
  · intro K hK
    simp [s6_38, cCnt, cDb, cI, cQuery, cS, cView, cI, cS]
    repeat' apply And.intro
    all_goals
      refine call_some (w_laws_toView v k_v (by omega)) rfl (by simp) fun n22 hs22 r22 hn22 hm22 hp22 hr22 => ?_
      obtain ⟨y22, rfl, p22, k22, G22⟩ := hp22
      have u22 : ∀ g ∈ idsL (cView y22), g < hs22 := fun g hg => hr22 g (by first | (rw [ids_agg]; exact hg) | (simpa only [V.ids, idsL_cS] using hg))
      simp at hn22
      have e22 : wtTView y22 = wtTView v := by rw [wtTView_pl, wtTView_pl, p22]
      simp [s6_18, s6_20, cCnt, cDb, cI, cQuery, cS, cView, cI, cS]
      repeat' apply And.intro
      all_goals
        refine call_some (w_laws_toDatabase a k_a (by omega)) rfl (by simp) fun n23 hs23 r23 hn23 hm23 hp23 hr23 => ?_
        obtain ⟨y23, rfl, p23, k23, G23⟩ := hp23
        have u23 : ∀ g ∈ idsL (cDb y23), g < hs23 := fun g hg => hr23 g (by first | (rw [ids_agg]; exact hg) | (simpa only [V.ids, idsL_cS] using hg))
        simp at hn23
        have e23 : wtTDb y23 = wtTDb a := by rw [wtTDb_pl, wtTDb_pl, p23]
        simp [s6_18, s6_20, cCnt, cDb, cI, cQuery, cS, cView, cI, cS]
        repeat' apply And.intro
        all_goals
          refine call_some (w_laws_toDeltaS x k_x (by omega)) rfl (by simp) fun n24 hs24 r24 hn24 hm24 hp24 hr24 => ?_
          obtain ⟨y24, rfl, p24, k24, G24⟩ := hp24
          have u24 : ∀ g ∈ idsL (cS cDelta y24), g < hs24 := fun g hg => hr24 g (by first | (rw [ids_agg]; exact hg) | (simpa only [V.ids, idsL_cS] using hg))
          simp at hn24
          have e24 : wtS wtDelta y24 = wtS wtDelta x := by rw [wt_S_Delta_pl, wt_S_Delta_pl, p24]
          simp [s6_18, s6_20, cCnt, cDb, cI, cQuery, cS, cView, cI, cS]
          repeat' apply And.intro
          all_goals
            refine call_some (t_impl_ApplyBatchToView y22 y23 y24 k22 k23 k24 (hsz _ p23)) rfl (by simp) fun n25 hs25 r25 hn25 hm25 hp25 hr25 => ?_
            obtain ⟨h0, rfl, ph0, kh0, Gh0⟩ := hp25
            have uh0 : ∀ g ∈ idsL (cView h0), g < hs25 := fun g hg => hr25 g (by simp only [V.ids, idsVL, ids_agg, idsVL_map_d, idsL_cS, List.mem_append] at hg ⊢; simp [hg])
            have lh0 := Gh0.lo
            simp only [p22] at ph0
            simp only [p23] at ph0
            simp only [p24] at ph0
            simp at hn25
            simp [s6_18, s6_20, cCnt, cDb, cI, cQuery, cS, cView, cI, cS, p22, p23, p24]
            exact hK h0 _ ⟨ph0, kh0⟩ rfl rfl (by simp <;> omega) (by simp [cCnt, cDb, cI, cQuery, cS, cView, cI, cS, mkTAtom, mkTCnt, mkTDb, mkTDelta, mkTQuery, mkTReln, mkTTab, mkTView, p22, p23, p24]) (by simp [cCnt, cDb, cI, cQuery, cS, cView, cI, cS, mkTAtom, mkTCnt, mkTDb, mkTDelta, mkTQuery, mkTReln, mkTTab, mkTView])
  intro h0 hsh th mh hh hhh
  obtain ⟨ph0, kh0⟩ := hh
  simp [s6_18, s6_20, cCnt, cDb, cI, cQuery, cS, cView, cI, cS, mkTAtom, mkTCnt, mkTDb, mkTDelta, mkTQuery, mkTReln, mkTTab, mkTView]
  refine call_pure (w_laws_eqView h0 w0 kh0) rfl (by simp) rfl fun hs26 hh26 => ?_
  simp at hh26
  simp [s6_18, s6_20, cCnt, cDb, cI, cQuery, cS, cView, cI, cS, ph0, pw0]
  refine call_pure (w_laws_heldView (mkTView g0 (1)) (1) (by omega) (by rw [marksTView.wt]; omega) (ok_mkTView _ _ kg0)) rfl (by simp) rfl fun hs27 hh27 => ?_
  simp at hh27
  rw [marksTView.hl, marksTView.wt]
  simp [show ¬ (1 + wtTView g0 : Int) < 0 by omega]

end Go.Proofs.YtggbpdjjlgejmaaGreat

