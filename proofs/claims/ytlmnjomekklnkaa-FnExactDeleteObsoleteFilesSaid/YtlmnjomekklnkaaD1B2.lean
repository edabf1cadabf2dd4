/-
  D1B2: a part of a proof of this seat: the value-level semantics of Go code without maps, its walk rules, the frame of a row, facts of types, schedules, walks, plain lemmas (G3 P2 N1 N2 S3 N3 M1 G4 V4 G5 G7 P5 P5b M2 M3 M4 M5 G8 G9 G6 G10 LW1 LW2 LW3). It holds of every program and state that its hypotheses name.
-/
import Derived.Test.YtlmnjomekklnkaaD1B1
set_option linter.unusedSimpArgs false
set_option linter.unusedVariables false
set_option linter.unnecessarySimpa false
namespace Go.Proofs.Ytlmnjomekklnkaa
open Go.Vs Go.Proofs Go
set_option maxRecDepth 100000
set_option maxHeartbeats 1000000

section
attribute [local simp] plI_id plStr_id map_plI map_plStr pS cP cI cStr cU8 cB eReln
theorem w_spec_ParseRelation (s : List UInt8) (hb : s.length ≤ 1000000000) : VC Try.prog 155 [.d (.str s)] (fun _ r => r = .tup [.agg ((eReln (prsR s)).map V.d), .d (.bool (prsB s))]) := by
  refine VC.ofL EP s155 (by kernel_rfl) Try.func155 (by rfl) (by kernel_rfl) (by simp [Try.f155]) (by simp [Try.f155]) s155_ok fun B hl => ?_
  have hw : ∀ (x : List UInt8) (c : UInt8), x.length ≤ 1000000000 → _ := fun x c h => w_spec_l5Cut x c h
  have hpos := cutB_pos 58 s
  have hcl := cutB_len 58 s
  have hpre : preRel s = ⟨prsN ((cutB 58 s).getD 0 []), if (cutB 58 s).length = 2 ∧ (cutB 58 s).getD 1 [] ≠ [] then (cutB 32 ((cutB 58 s).getD 1 [])).map rowTx else []⟩ := rfl
  have hml : ∀ x ∈ cutB 58 s, x.length ≤ s.length := fun x hx => cutB_mem hx
  simp [Try.f155, s155_11, s155_11, ]
  refine call_p (hw s 58 hb) (by simp) fun hs1 hh1 hl1 => ?_
  simp at hh1
  obtain ⟨W, hW⟩ : ∃ W, W = cutB 58 s := ⟨_, rfl⟩
  rw [← hW] at hpos hpre hml ⊢
  simp [hpos, s155_11, ]
  refine call_f (w_spec_ParseInt W[0]) (by simp) rfl fun hs2 hh2 => ?_
  simp at hh2
  rw [getD_el _ hpos] at hpre
  by_cases c2 : W.length = 2
  case neg =>
    have c2' : ¬ (W.length : Int) = 2 := by omega
    rw [if_neg fun h => c2 h.1] at hpre
    simp [c2', s155_11, ]
    refine call_f (w_spec_FormatRelation (preRel s)) (by simp [hpre]) rfl fun hs9 hh9 => ?_
    simp at hh9
    obtain ⟨F, hF⟩ : ∃ F, F = fmtRel (preRel s) := ⟨_, rfl⟩
    have hB : prsB s = (decide (F = s) && decide (s ≠ [])) := by rw [hF]; rfl
    have hR : prsR s = if prsB s = true then preRel s else ⟨0, []⟩ := rfl
    rw [hpre] at hR
    rw [← hF]
    by_cases e1 : F = s
    · by_cases e2 : s = []
      · have hB' : prsB s = false := by rw [hB]; simp [e2]
        rw [if_neg (by rw [hB']; simp)] at hR
        simp [e1, e2, hR, hB', List.take_of_length_le, s155_11, ]
        simp [e2] at hR hB'
        simp [hR, hB']
      · have hB' : prsB s = true := by rw [hB]; simp [e1, e2]
        rw [if_pos hB'] at hR
        simp [e1, e2, hR, hB', List.take_of_length_le, s155_11, ]
    · have hB' : prsB s = false := by rw [hB]; simp [e1]
      rw [if_neg (by rw [hB']; simp)] at hR
      simp [e1, hR, hB', s155_11, ]
  have c2' : (W.length : Int) = 2 := by omega
  have h1W : 1 < W.length := by omega
  rw [getD_el _ h1W] at hpre
  by_cases c3 : W[1] = []
  case pos =>
    rw [if_neg fun h => h.2 c3] at hpre
    simp [c2', h1W, c3, s155_11, ]
    refine call_f (w_spec_FormatRelation (preRel s)) (by simp [hpre]) rfl fun hs9 hh9 => ?_
    simp at hh9
    obtain ⟨F, hF⟩ : ∃ F, F = fmtRel (preRel s) := ⟨_, rfl⟩
    have hB : prsB s = (decide (F = s) && decide (s ≠ [])) := by rw [hF]; rfl
    have hR : prsR s = if prsB s = true then preRel s else ⟨0, []⟩ := rfl
    rw [hpre] at hR
    rw [← hF]
    by_cases e1 : F = s
    · by_cases e2 : s = []
      · have hB' : prsB s = false := by rw [hB]; simp [e2]
        rw [if_neg (by rw [hB']; simp)] at hR
        simp [e1, e2, hR, hB', List.take_of_length_le, s155_11, ]
        simp [e2] at hR hB'
        simp [hR, hB']
      · have hB' : prsB s = true := by rw [hB]; simp [e1, e2]
        rw [if_pos hB'] at hR
        simp [e1, e2, hR, hB', List.take_of_length_le, s155_11, ]
    · have hB' : prsB s = false := by rw [hB]; simp [e1]
      rw [if_neg (by rw [hB']; simp)] at hR
      simp [e1, hR, hB', s155_11, ]
  rw [if_pos ⟨c2, c3⟩] at hpre
  have hJl : W[1].length ≤ 1000000000 := Nat.le_trans (hml _ (List.getElem_mem h1W)) hb
  obtain ⟨J, hJ⟩ : ∃ J, J = W[1] := ⟨_, rfl⟩
  rw [← hJ] at hpre hJl c3
  simp [c2', h1W, ← hJ, c3, s155_11, ]
  refine call_p (hw J 32 hJl) (by simp) fun hs3 hh3 hl3 => ?_
  simp at hh3
  have hLl := cutB_len 32 J
  have hLm : ∀ x ∈ cutB 32 J, x.length ≤ J.length := fun x hx => cutB_mem hx
  obtain ⟨l, hl⟩ : ∃ l, l = cutB 32 J := ⟨_, rfl⟩
  rw [← hl] at hpre hLl hLm ⊢
  obtain ⟨ar, har⟩ : ∃ ar, ar = prsN W[0] := ⟨_, rfl⟩
  rw [← har] at hpre ⊢
  simp [s155_11, ]
  refine loop_ruleL (X := Nat) (fun i _ => i ≤ l.length) (fun i => [(0, .d (.str s)), (2, .ptr 2 0 0), (5, .ptr 5 0 0), (6, .d (.pl (l.map cStr))), (7, .d (.int .i64 i))]) (fun i => [(2, some (.box [.d (.int .i64 0), .d (.sl none none [])])), (5, some (.box [.d (.int .i64 ar), .own 900 0 i])), (900, some (.row 95 1 (((l.take i).map rowTx).map (cP cI))))]) (fun i => l.length - i) ?_ ?_
  · refine (lead_box 5 1 900 95 1 [.d (.int .i64 ar), .d (.sl none none [])] (by omega) (by omega) (by omega) (by simp) rfl).bind ?_
    rintro _ rfl
    exact Lead.of ⟨0, by omega, rfl, rfl, Nat.le_refl _, by simp, by simp⟩
  intro i hs t m hi hh
  by_cases hlt : i < l.length
  case neg =>
    have hn : i = l.length := by omega
    subst hn
    simp [List.take_of_length_le, s155_11, ]
    refine call_f (w_spec_FormatRelation (preRel s)) (by simp [hpre, List.take_of_length_le]) rfl fun hs9 hh9 => ?_
    simp at hh9
    obtain ⟨F, hF⟩ : ∃ F, F = fmtRel (preRel s) := ⟨_, rfl⟩
    have hB : prsB s = (decide (F = s) && decide (s ≠ [])) := by rw [hF]; rfl
    have hR : prsR s = if prsB s = true then preRel s else ⟨0, []⟩ := rfl
    rw [hpre] at hR
    rw [← hF]
    by_cases e1 : F = s
    · by_cases e2 : s = []
      · have hB' : prsB s = false := by rw [hB]; simp [e2]
        rw [if_neg (by rw [hB']; simp)] at hR
        simp [e1, e2, hR, hB', List.take_of_length_le, s155_11, ]
        simp [e2] at hR hB'
        simp [hR, hB']
      · have hB' : prsB s = true := by rw [hB]; simp [e1, e2]
        rw [if_pos hB'] at hR
        simp [e1, e2, hR, hB', List.take_of_length_le, s155_11, ]
    · have hB' : prsB s = false := by rw [hB]; simp [e1]
      rw [if_neg (by rw [hB']; simp)] at hR
      simp [e1, hR, hB', s155_11, ]
  have hwi := wr1 (i := i) (by omega)
  have hmn : min i l.length = i := by omega
  have hL : LenOk 24 (i + 1) := ⟨by omega, by simp only [maxLen]; omega⟩
  have hxl := hLm _ (List.getElem_mem hlt)
  have hst2 : List.take (i + 1) (List.map (cP cI ∘ rowTx) l) = List.take i (List.map (cP cI ∘ rowTx) l) ++ [cP cI (rowTx l[i])] := by
    rw [List.take_succ_eq_append_getElem (by simpa using hlt)]; simp
  obtain ⟨x, hx⟩ : ∃ x, x = l[i] := ⟨_, rfl⟩
  rw [← hx] at hxl hst2
  refine anyQ2 fun Q => ?_
  by_cases h2 : 2 < x.length
  case neg =>
    have h2' : ¬ (2 : Int) < x.length := by omega
    have hr : rowTx x = [] := by rw [rowTx, if_neg h2]
    rw [hr] at hst2
    simp [hlt, ← hx, h2', hwi, hL, hmn, s155_11, ]
    exact back2 (i + 1) (by omega) (by omega) rfl (by simp <;> omega) (by simp) (by simp [hst2])
  have h2' : (2 : Int) < x.length := by omega
  have hwm : IntKind.i64.wrap ((x.length : Int) - 1) = ((x.length - 1 : Nat) : Int) := by rw [wrap64_of (by omega) (by omega)]; omega
  have hsub : x.length - 1 - 1 = x.length - 2 := by omega
  have hr : rowTx x = (cutB 44 (inTx x)).map prsN := by rw [rowTx, if_pos h2]
  have hxi : inTx x = x.tail.take (x.length - 2) := by simp [inTx]
  have hil : (inTx x).length ≤ 1000000000 := by rw [hxi, List.length_take, List.length_tail]; omega
  simp [hlt, ← hx, h2', hwm, hsub, s155_11, ]
  refine ⟨by omega, ?_⟩
  rw [← hxi]
  refine call_p (hw (inTx x) 44 hil) (by simp) fun hs4 hh4 hl4 => ?_
  simp at hh4
  have hVl := cutB_len 44 (inTx x)
  obtain ⟨v, hv⟩ : ∃ v, v = cutB 44 (inTx x) := ⟨_, rfl⟩
  rw [← hv] at hr hVl ⊢
  rw [hr] at hst2
  simp [s155_11, ]
  refine loop_rule (X := Nat) (fun k => k ≤ v.length) (fun k => [(0, .d (.str s)), (2, .ptr 2 0 0), (5, .ptr 5 0 0), (6, .d (.pl (l.map cStr))), (7, .d (.int .i64 i)), (8, .own 43 0 k), (9, .d (.pl (v.map cStr))), (10, .d (.int .i64 k))]) (fun k => [(2, some (.box [.d (.int .i64 0), .d (.sl none none [])])), (5, some (.box [.d (.int .i64 ar), .own 900 0 i])), (900, some (.row 95 1 (((l.take i).map rowTx).map (cP cI)))), (43, some (.row 3 1 (((v.take k).map prsN).map cI)))]) (fun k => v.length - k) 0 (by simp) (by simp) (by simp) ?_
  intro k hs5 t5 m5 hk hh5
  by_cases hkl : k < v.length
  · have hwk := wr1 (i := k) (by omega)
    have hmk : min k v.length = k := by omega
    have hLk : LenOk 8 (k + 1) := ⟨by omega, by simp only [maxLen]; omega⟩
    have hst3 : List.take (k + 1) (List.map (cI ∘ prsN) v) = List.take k (List.map (cI ∘ prsN) v) ++ [cI (prsN v[k])] := by
      rw [List.take_succ_eq_append_getElem (by simpa using hkl)]; simp
    refine anyQ fun Q' => ?_
    simp [hkl, s155_11, ]
    refine call_f (w_spec_ParseInt v[k]) (by simp) rfl fun hs6 hh6 => ?_
    simp at hh6
    simp [hkl, hwk, hLk, hmk, s155_11, ]
    exact back (k + 1) (by omega) (by omega) rfl (by simp <;> omega) (by simp) (by simp [hst3])
  · have hkn : k = v.length := by omega
    subst hkn
    simp [hwi, hL, hmn, List.take_of_length_le, s155_11, ]
    exact back2 (i + 1) (by omega) (by omega) rfl (by simp <;> omega) (by simp) (by simp [hst2])
end

end Go.Proofs.Ytlmnjomekklnkaa

namespace Go.Proofs.Ytlmnjomekklnkaa
open Go.Vs Go.Proofs Go
set_option maxRecDepth 100000
set_option maxHeartbeats 1000000

theorem w_spec_l5Copy (r : PReln) (hb : r.rows.length ≤ 4294967296) (hb2 : ∀ x ∈ r.rows, x.length ≤ 4294967296) : VC Try.prog 124 [.agg ((eReln r).map .d)] (fun _ v => v = .agg ((eReln r).map .d)) := by
  obtain ⟨ar, l⟩ := r
  simp only at hb hb2
  refine VC.ofL EP s124 (by kernel_rfl) Try.func124 (by rfl) (by kernel_rfl) (by simp [Try.f124]) (by simp [Try.f124]) s124_ok fun B hl => ?_
  simp [Try.f124, s124_5, eReln]
  refine loop_ruleL (X := Nat) (fun i _ => i ≤ l.length) (fun i => [(1, .ptr 1 0 0), (2, .ptr 2 0 0), (3, .ptr 3 0 0), (4, .d (.int .i64 i))])
    (fun i => [(1, some (.box [.d (.int .i64 ar), .d (.pl (l.map (cP cI)))])), (2, some (.box [.d (.int .i64 0), .d (.sl none none [])])), (3, some (.box [.d (.int .i64 ar), .own 25 0 i])), (25, some (.row 95 1 ((l.take i).map (cP cI))))]) (fun i => l.length - i) ?_ ?_
  · refine (lead_box 3 1 25 95 1 [.d (.int .i64 ar), .d (.sl none none [])] (by omega) (by omega) (by omega) (by simp) rfl).bind ?_
    rintro _ rfl
    exact Lead.of ⟨0, by simp, rfl, rfl, Nat.le_refl _, by simp, by simp⟩
  · intro i hs t m hi hh
    by_cases hlt : i < l.length
    · have hwi := wr1 (i := i) (by omega)
      have hL : LenOk 24 (i + 1) := ⟨by omega, by simp only [maxLen]; omega⟩
      have hx := hb2 _ (List.getElem_mem hlt)
      have hL2 : LenOk 8 l[i].length := ⟨by omega, by simp only [maxLen]; omega⟩
      simp [hlt, hL, hL2, hwi, List.take_of_length_le, show min i l.length = i by omega, s124_5, ]
      refine back2 (i + 1) (by omega) (by omega) rfl (by simp <;> omega) (by simp) ?_
      simp
      rw [List.take_succ_eq_append_getElem (by simpa using hlt)]; simp
    · have hn : i = l.length := by omega
      subst hn
      simp [List.take_of_length_le]
theorem w_spec_CountedFromRelation (r : PReln) : VC Try.prog 180 [.agg ((eReln r).map .d)] (fun _ v => v = .tup [.agg ((eCnt (cntOf r)).map .d), .d (.bool (rowsOk r.ar r.rows))]) := by
  refine VC.ofL EP s180 (by kernel_rfl) Try.func180 (by rfl) (by kernel_rfl) (by simp [Try.f180]) (by simp [Try.f180]) s180_ok fun B hl => ?_
  simp [eReln, maxLen] at hl
  simp [Try.f180, eReln]
  refine call_f (w_spec_IsValidRelation r) (by simp [eReln]) rfl fun hs0 hh0 => ?_
  simp at hh0
  cases h1 : rowsOk r.ar r.rows
  · simp [cntOf, h1, eCnt]
  have hlen := rowsOk_len h1
  have hrow := rowsOk_row h1
  simp
  refine call_p (w_spec_l5Copy r (by omega) (fun x hx => by have := hrow x hx; omega)) (by simp [eReln]) fun hs1 hh1 _ => ?_
  simp at hh1
  simp [eReln]
  refine loop_ruleL (X := Nat) (fun i _ => i ≤ r.rows.length) (fun i => [(1, .ptr 1 0 0), (2, .ptr 2 0 0), (5, .ptr 5 0 0), (6, .d (.int .i64 i))])
    (fun i => [(1, some (.box [.d (.int .i64 r.ar), .d (.pl (r.rows.map (cP cI)))])), (2, some (.box [.d (.int .i64 0), .d (.sl none none []), .d (.sl none none [])])), (5, some (.box [.d (.int .i64 r.ar), .d (.pl (r.rows.map (cP cI))), .own 28 0 i])), (28, some (.row 3 1 ((List.replicate i 1).map cI)))]) (fun i => r.rows.length - i) ?_ ?_
  · refine (lead_box 5 2 28 3 1 [.d (.int .i64 r.ar), .d (.pl (r.rows.map (cP cI))), .d (.sl none none [])] (by omega) (by omega) (by omega) (by simp) rfl).bind ?_
    rintro _ rfl
    exact Lead.of ⟨0, by simp, rfl, rfl, Nat.le_refl _, by simp, by simp⟩
  · intro i hs t m hi hh
    by_cases hlt : i < r.rows.length
    · have hwi := wr1 (i := i) (by omega)
      have hL : LenOk 8 (i + 1) := ⟨by omega, by simp only [maxLen]; omega⟩
      simp [hlt, hL, hwi, ]
      refine back2 (i + 1) (by omega) (by omega) rfl (by simp <;> omega) (by simp) ?_
      simp [List.replicate_succ']
    · have hn : i = r.rows.length := by omega
      subst hn
      simp [cntOf, h1, eCnt, List.take_of_length_le]

end Go.Proofs.Ytlmnjomekklnkaa

namespace Go.Proofs.Ytlmnjomekklnkaa
open Go.Vs Go.Proofs Go
set_option maxRecDepth 100000
set_option maxHeartbeats 1000000

section
attribute [local simp] plI_id plStr_id map_plI map_plStr pS cP cI cStr cU8 cB
theorem q_impl_copyInts (l : List Int) (hb : l.length ≤ 4294967296) : VC Try.prog 133 [.d (pS cI l)] (fun _ r => r = .d (pS cI l)) := by
  refine VC.ofL EP s133 (by kernel_rfl) Try.func133 (by rfl) (by kernel_rfl) (by simp [Try.f133]) (by simp [Try.f133]) s133_ok fun B hl => ?_
  have hL : LenOk 8 l.length := ⟨by omega, by simp only [maxLen]; omega⟩
  simp [Try.f133, hL, List.take_of_length_le]
theorem q_impl_copyRows (l : List (List Int)) (hb : l.length ≤ 4294967296) (hb2 : ∀ r ∈ l, r.length ≤ 4294967296) : VC Try.prog 152 [.d (pS (cP cI) l)] (fun _ r => r = .d (pS (cP cI) l)) := by
  refine VC.ofL EP s152 (by kernel_rfl) Try.func152 (by rfl) (by kernel_rfl) (by simp [Try.f152]) (by simp [Try.f152]) s152_ok fun B hl => ?_
  simp [Try.f152, ]
  refine loop_ruleL (X := Nat) (fun i _ => i ≤ l.length) (fun i => [(3, .own 16 0 i), (6, .d (.pl (l.map (cP cI)))), (7, .d (.int .i64 l.length)), (8, .d (.int .i64 i))]) (fun i => [(16, some (.row 95 1 ((l.take i).map (cP cI))))]) (fun i => l.length - i) ?_ ?_
  · refine (lead_slot 3 16 95 1 (by omega) (by omega) (by simp)).bind ?_
    rintro _ rfl
    exact Lead.of ⟨0, by omega, rfl, rfl, Nat.le_refl _, by simp, by simp⟩
  intro i hs t m hi hh
  by_cases hlt : i < l.length
  · have hwi := wr1 (i := i) (by omega)
    have hL : LenOk 24 (i + 1) := ⟨by omega, by simp only [maxLen]; omega⟩
    have hmn : min i l.length = i := by omega
    have hst2 : List.take (i + 1) (List.map (cP cI) l) = List.take i (List.map (cP cI) l) ++ [cP cI l[i]] := by
      rw [List.take_succ_eq_append_getElem (by simpa using hlt)]; simp
    simp [hlt, ]
    refine call_p (q_impl_copyInts l[i] (hb2 _ (List.getElem_mem hlt))) (by simp) fun hs1 hh1 hl1 => ?_
    simp at hh1
    simp [hwi, hL, hmn, ]
    exact back2 (i + 1) (by omega) (by omega) rfl (by simp <;> omega) (by simp) (by simp [hst2])
  · have hn : i = l.length := by omega
    subst hn
    simp [List.take_of_length_le]
theorem q_impl_copyRelation (r : PReln) (hb : r.rows.length ≤ 4294967296) (hb2 : ∀ x ∈ r.rows, x.length ≤ 4294967296) : VC Try.prog 123 [.agg ((eReln r).map V.d)] (fun _ v => v = .agg ((eReln r).map V.d)) := by
  refine VC.ofL EP s123 (by kernel_rfl) Try.func123 (by rfl) (by kernel_rfl) (by simp [Try.f123]) (by simp [Try.f123]) s123_ok fun B hl => ?_
  simp [Try.f123, s123_1, s123_1, eReln]
  refine call_p (q_impl_copyRows r.rows hb hb2) (by simp) fun hs1 hh1 hl1 => ?_
  simp at hh1
  simp [s123_1, ]
theorem w_impl_ContainsRow (r : PReln) (row : List Int) (hb : r.rows.length ≤ 4294967296) : VC Try.prog 127 [.agg ((eReln r).map V.d), .d (pS cI row)] (fun _ v => v = .d (.bool (hasR r row))) := by
  refine VC.ofL EP s127 (by kernel_rfl) Try.func127 (by rfl) (by kernel_rfl) (by simp [Try.f127]) (by simp [Try.f127]) s127_ok fun B hl => ?_
  simp [Try.f127, eReln]
  refine call_f (w_impl_place r.rows row hb) (by simp) rfl fun hs1 hh1 => ?_
  simp at hh1
  simp []
  refine call_f (w_impl_IsValidRelation r) (by simp [eReln]) rfl fun hs2 hh2 => ?_
  simp at hh2
  cases h : rowsOk r.ar r.rows <;> simp [hasR, h]
theorem w_impl_LookupRelation (d : PDb) (nm : List UInt8) : VC Try.prog 54 [.agg ((eDb d).map V.d), .d (.str nm)] (fun _ v => v = .tup [.agg ((eReln (lkR d nm)).map V.d), .d (.bool (lkB d nm))]) := by
  refine VC.ofL EP s54 (by kernel_rfl) Try.func54 (by rfl) (by kernel_rfl) (by simp [Try.f54]) (by simp [Try.f54]) s54_ok fun B hl => ?_
  obtain ⟨l⟩ := d
  simp [Try.f54, eDb]
  refine call_f (w_impl_IsValidDatabase ⟨l⟩) (by simp [eDb]) rfl fun hs1 hh1 => ?_
  simp at hh1
  cases h1 : dbOk ⟨l⟩
  · obtain ⟨e1, e2⟩ := lk_no (nm := nm) h1
    simp [e1, e2, eReln]
  have hl6 := dbOk_len h1
  simp only at hl6
  simp
  refine loop_rule (X := Nat) (LkTo l nm) (fun i => [(1, .d (.str nm)), (2, .ptr 2 0 0), (4, .ptr 4 0 0), (11, .d (.pl (l.map eTab))), (12, .d (.int .i64 l.length)), (13, .d (.int .i64 i))]) (fun _ => [(2, some (.box [.d (.pl (l.map eTab))])), (4, some (.box [.d (.int .i64 0), .d (.sl none none [])]))]) (fun i => l.length - i) 0 .zero (by simp) (by simp) ?_
  intro i hs t m hi hh
  by_cases hlt : i < l.length
  · have hwi := wr1 (i := i) (by omega)
    have hr := tabOk_rel (dbOk_tab h1 (List.getElem_mem hlt))
    by_cases he : l[i].name = nm
    · obtain ⟨e1, e2⟩ := hi.found h1 hlt he
      simp [hlt, he, eTab, eReln, ]
      refine call_p (q_impl_copyRelation l[i].rel hr.1 hr.2) (by simp [eReln]) fun hs2 hh2 hl2 => ?_
      simp [e1, e2, eReln]
    · simp [hlt, he, hwi, eTab, eReln, ]
      exact back (i + 1) (hi.step hlt he) (by omega) rfl (by simp <;> omega) (by simp [eTab, eReln]) (by simp [eTab, eReln])
  · obtain ⟨e1, e2⟩ := hi.done (by omega)
    simp [hlt, e1, e2, eReln]
theorem w_impl_applicable (d : PDb) (x : PDelta) : VC Try.prog 126 [.agg ((eDb d).map V.d), .agg ((eDelta x).map V.d)] (fun _ v => v = .tup [.agg ((eReln (lkR d x.name)).map V.d), .d (.bool (fitB d x))]) := by
  refine VC.ofL EP s126 (by kernel_rfl) Try.func126 (by rfl) (by kernel_rfl) (by simp [Try.f126]) (by simp [Try.f126]) s126_ok fun B hl => ?_
  obtain ⟨nm, ⟨ia, il⟩, ⟨da, dl⟩⟩ := x
  simp [Try.f126, s126_3, eDb, eDelta, eReln]
  refine call_p (w_impl_LookupRelation d nm) (by simp [eDb]) fun hs1 hh1 hl1 => ?_
  simp at hh1
  obtain ⟨⟨ra, rl⟩, hr⟩ : ∃ r, r = lkR d nm := ⟨_, rfl⟩
  rw [← hr]
  cases h1 : lkB d nm
  · simp [eReln, fitB, h1, s126_3, ← hr]
  simp [eReln]
  refine call_f (w_impl_IsValidRelation ⟨ia, il⟩) (by simp [eReln]) rfl fun hs2 hh2 => ?_
  simp at hh2
  cases h2 : rowsOk ia il
  · simp [eReln, fitB, h1, h2, s126_3, ← hr]
  simp [eReln]
  refine call_f (w_impl_IsValidRelation ⟨da, dl⟩) (by simp [eReln]) rfl fun hs3 hh3 => ?_
  simp at hh3
  cases h3 : rowsOk da dl
  · simp [eReln, fitB, h1, h2, h3, s126_3, ← hr]
  by_cases h4 : ia = ra
  case neg => simp [eReln, fitB, h1, h2, h3, h4, s126_3, ← hr]
  subst h4
  by_cases h5 : da = ia
  case neg => simp [eReln, fitB, h1, h2, h3, h5, s126_3, ← hr]
  subst h5
  simp [eReln, fitB, h1, h2, h3, s126_3, ← hr]
theorem w_spec_LookupRelation (d : PDb) (nm : List UInt8) (hst : ∀ t ∈ d.tabs, t.name.length ≤ maxLen) : VC Try.prog 55 [.agg ((eDb d).map V.d), .d (.str nm)] (fun _ v => v = .tup [.agg ((eReln (lkR d nm)).map V.d), .d (.bool (lkB d nm))]) := by
  refine VC.ofL EP s55 (by kernel_rfl) Try.func55 (by rfl) (by kernel_rfl) (by simp [Try.f55]) (by simp [Try.f55]) s55_ok fun B hl => ?_
  obtain ⟨l⟩ := d
  simp [pS, maxLen, eDb] at hl
  simp [Try.f55, eDb]
  refine loop_rule (X := Nat) (LkTo l nm) (fun i => [(1, .d (.str nm)), (2, .ptr 2 0 0), (4, .ptr 4 0 0), (6, .d (.int .i64 i))]) (fun _ => [(2, some (.box [.d (.pl (l.map eTab))])), (4, some (.box [.d (.int .i64 0), .d (.sl none none [])]))]) (fun i => l.length - i) 0 .zero (by simp) (by simp) ?_
  intro i hs t m hi hh
  by_cases hlt : i < l.length
  · have hwi := wr1 (i := i) (by omega)
    simp [hlt, ]
    refine call_f (w_spec_IsValidDatabase ⟨l⟩ hst) (by simp [eDb]) rfl fun hs1 hh1 => ?_
    simp at hh1
    cases h1 : dbOk ⟨l⟩
    · obtain ⟨e1, e2⟩ := lk_no (nm := nm) h1
      simp [e1, e2, eReln, ]
    have hr := tabOk_rel (dbOk_tab h1 (List.getElem_mem hlt))
    by_cases he : l[i].name = nm
    · obtain ⟨e1, e2⟩ := hi.found h1 hlt he
      simp [hlt, he, eTab, eReln, ]
      refine call_p (w_spec_l5Copy l[i].rel hr.1 hr.2) (by simp [eReln]) fun hs2 hh2 hl2 => ?_
      simp [e1, e2, eReln]
    · simp [hlt, he, hwi, eTab, eReln, ]
      exact back (i + 1) (hi.step hlt he) (by omega) rfl (by simp <;> omega) (by simp [eTab, eReln]) (by simp [eTab, eReln])
  · obtain ⟨e1, e2⟩ := hi.done (by omega)
    simp [hlt, e1, e2, eReln, ]
theorem w_spec_l26Fits (d : PDb) (x : PDelta) (hst : ∀ t ∈ d.tabs, t.name.length ≤ maxLen) : VC Try.prog 134 [.agg ((eDb d).map V.d), .agg ((eDelta x).map V.d)] (fun _ v => v = .d (.bool (fitB d x))) := by
  refine VC.ofL EP s134 (by kernel_rfl) Try.func134 (by rfl) (by kernel_rfl) (by simp [Try.f134]) (by simp [Try.f134]) s134_ok fun B hl => ?_
  obtain ⟨nm, ⟨ia, il⟩, ⟨da, dl⟩⟩ := x
  simp [Try.f134, eDb, eDelta, eReln]
  refine call_p (w_spec_LookupRelation d nm hst) (by simp [eDb]) fun hs1 hh1 hl1 => ?_
  simp at hh1
  obtain ⟨⟨ra, rl⟩, hr⟩ : ∃ r, r = lkR d nm := ⟨_, rfl⟩
  rw [← hr]
  cases h1 : lkB d nm
  · simp [eReln, fitB, h1, ← hr]
  simp [eReln]
  refine call_f (w_spec_IsValidRelation ⟨ia, il⟩) (by simp [eReln]) rfl fun hs2 hh2 => ?_
  simp at hh2
  cases h2 : rowsOk ia il
  · simp [eReln, fitB, h1, h2, ← hr]
  simp [eReln]
  refine call_f (w_spec_IsValidRelation ⟨da, dl⟩) (by simp [eReln]) rfl fun hs3 hh3 => ?_
  simp at hh3
  cases h3 : rowsOk da dl
  · simp [eReln, fitB, h1, h2, h3, ← hr]
  by_cases h4 : ia = ra
  case neg => simp [eReln, fitB, h1, h2, h3, h4, ← hr]
  subst h4
  by_cases h5 : da = ia
  case neg => simp [eReln, fitB, h1, h2, h3, h5, ← hr]
  subst h5
  simp [eReln, fitB, h1, h2, h3, ← hr]
end

end Go.Proofs.Ytlmnjomekklnkaa

namespace Go.Proofs.Ytlmnjomekklnkaa
open Go.Vs Go.Proofs Go
set_option maxRecDepth 100000
set_option maxHeartbeats 1000000

section
attribute [local simp] plI_id plStr_id map_plI map_plStr pS cP cI cStr cU8 cB
theorem w_spec_Difference (a b : PReln) : VC Try.prog 119 [.agg ((eReln a).map V.d), .agg ((eReln b).map V.d)] (fun _ v => v = .tup [.agg ((eReln (difR a b)).map V.d), .d (.bool (difB a b))]) := by
  refine VC.ofL EP s119 (by kernel_rfl) Try.func119 (by rfl) (by kernel_rfl) (by simp [Try.f119]) (by simp [Try.f119]) s119_ok fun B hl => ?_
  obtain ⟨aa, al⟩ := a
  obtain ⟨ba, bl⟩ := b
  simp [Try.f119, s119_7, s119_9, eReln]
  refine call_f (w_spec_IsValidRelation ⟨aa, al⟩) (by simp [eReln]) rfl fun hs1 hh1 => ?_
  simp at hh1
  cases h1 : rowsOk aa al
  · simp [difR, difB, h1, eReln]
  simp
  refine call_f (w_spec_IsValidRelation ⟨ba, bl⟩) (by simp [eReln]) rfl fun hs2 hh2 => ?_
  simp at hh2
  cases h2 : rowsOk ba bl
  · simp [difR, difB, h1, h2, eReln]
  by_cases h3 : aa = ba
  case neg => simp [difR, difB, h1, h2, h3, eReln]
  subst h3
  have hdb : difB ⟨aa, al⟩ ⟨aa, bl⟩ = true := by simp [difB, h1, h2]
  have hdr : difR ⟨aa, al⟩ ⟨aa, bl⟩ = ⟨aa, difL al bl⟩ := by simp only [difR, hdb, if_true]
  rw [hdb, hdr]
  have hal := rowsOk_len h1
  have hbl := rowsOk_len h2
  have hrow := rowsOk_row h1
  simp
  refine loop_ruleL (X := Nat) (fun i _ => i ≤ al.length) (fun i => [(2, .ptr 2 0 0), (3, .ptr 3 0 0), (4, .ptr 4 0 0), (6, .ptr 6 0 0), (7, .d (.int .i64 i))])
    (fun i => [(2, some (.box [.d (.int .i64 aa), .d (.pl (al.map (cP cI)))])), (3, some (.box [.d (.int .i64 aa), .d (.pl (bl.map (cP cI)))])), (4, some (.box [.d (.int .i64 0), .d (.sl none none [])])), (6, some (.box [.d (.int .i64 aa), .own 58 0 (difL (al.take i) bl).length])), (58, some (.row 95 1 ((difL (al.take i) bl).map (cP cI))))]) (fun i => al.length - i) ?_ ?_
  · refine (lead_box 6 1 58 95 1 [.d (.int .i64 aa), .d (.sl none none [])] (by omega) (by omega) (by omega) (by simp) rfl).bind ?_
    rintro _ rfl
    exact Lead.of ⟨0, by omega, rfl, rfl, Nat.le_refl _, by simp, by simp [difL]⟩
  intro i hs t m hi hh
  by_cases hlt : i < al.length
  · have hwi := wr1 (i := i) (by omega)
    have hst := difL_step (b := bl) hlt
    have hdl := difL_len (al.take i) bl
    rw [List.length_take] at hdl
    have hL1 : LenOk 8 al[i].length := by
      have := hrow _ (List.getElem_mem hlt)
      exact ⟨by omega, by simp only [maxLen]; omega⟩
    have hL2 : LenOk 24 ((difL (al.take i) bl).length + 1) := ⟨by omega, by simp only [maxLen]; omega⟩
    simp [hlt, s119_7, s119_9, ]
    refine call_f (w_spec_l5Place ⟨aa, bl⟩ al[i] (by show bl.length ≤ _; omega)) (by simp [eReln]) rfl fun hs3 hh3 => ?_
    simp at hh3
    cases h4 : placeB bl al[i]
    · rw [h4] at hst
      simp only [Bool.false_eq_true, if_false] at hst
      simp [hlt, hwi, hL1, hL2, List.take_of_length_le, s119_7, s119_9, ]
      exact back2 (i + 1) (by omega) (by omega) rfl (by simp <;> omega) (by simp) (by simp [hst])
    · rw [h4] at hst
      simp only [if_true, List.append_nil] at hst
      simp [hwi, s119_7, s119_9, ]
      exact back2 (i + 1) (by omega) (by omega) rfl (by simp <;> omega) (by simp) (by simp [hst])
  · have hn : i = al.length := by omega
    subst hn
    simp [List.take_of_length_le]
theorem w_spec_NormalizeDelta (d : PDb) (x : PDelta) (hst : ∀ t ∈ d.tabs, t.name.length ≤ maxLen) : VC Try.prog 130 [.agg ((eDb d).map V.d), .agg ((eDelta x).map V.d)] (fun _ v => v = .tup [.agg ((eDelta (norP d x)).map V.d), .d (.bool (fitB d x))]) := by
  refine VC.ofL EP s130 (by kernel_rfl) Try.func130 (by rfl) (by kernel_rfl) (by simp [Try.f130]) (by simp [Try.f130]) s130_ok fun B hl => ?_
  simp [Try.f130, eDb, eDelta, eReln]
  refine call_f (w_spec_l26Fits d x hst) (by simp [eDb, eDelta, eReln]) rfl fun hs1 hh1 => ?_
  simp at hh1
  cases h1 : fitB d x
  · simp [norP, h1, eDelta, eReln, ]
  obtain ⟨e1, e2⟩ := nor_dif h1
  have e3 : norP d x = ⟨x.name, ⟨(lkR d x.name).ar, norI (lkR d x.name) x.ins.rows⟩, ⟨(lkR d x.name).ar, norD (lkR d x.name) x.ins x.del.rows⟩⟩ := by simp only [norP, h1, if_true]
  obtain ⟨r, hr⟩ : ∃ r, r = lkR d x.name := ⟨_, rfl⟩
  simp []
  refine call_p (w_spec_LookupRelation d x.name hst) (by simp [eDb]) fun hs2 hh2 hl2 => ?_
  simp at hh2
  rw [← hr] at e1 e2 e3 ⊢
  simp [eReln, ]
  refine call_p (w_spec_Difference x.ins r) (by simp [eReln]) fun hs3 hh3 hl3 => ?_
  simp at hh3
  rw [e1]
  simp [eReln, ]
  refine call_p (w_spec_Difference x.del x.ins) (by simp [eReln]) fun hs4 hh4 hl4 => ?_
  simp at hh4
  obtain ⟨go, hgo⟩ : ∃ go, go = difR x.del x.ins := ⟨_, rfl⟩
  rw [← hgo] at e2 ⊢
  simp [eReln, ]
  refine call_p (w_spec_Difference go r) (by simp [eReln]) fun hs5 hh5 hl5 => ?_
  simp at hh5
  obtain ⟨nt, hnt⟩ : ∃ nt, nt = difR go r := ⟨_, rfl⟩
  rw [← hnt] at e2 ⊢
  simp [eReln, ]
  refine call_p (w_spec_Difference go nt) (by simp [eReln]) fun hs6 hh6 hl6 => ?_
  rw [e2, e3]
  simp [eReln, eDelta, ]
end

end Go.Proofs.Ytlmnjomekklnkaa

namespace Go.Proofs.Ytlmnjomekklnkaa
open Go.Vs Go.Proofs Go
set_option maxRecDepth 100000
set_option maxHeartbeats 1000000

theorem w_impl_copyInts (a : Ints) (ha : okS okI a) (hb : a.xs.length ≤ 4294967296) :
   VC Try.prog 133 [.d (dSl cI a)] (fun n r => ∃ y : Sl Int, r = .d (dSl cI y) ∧ plS plI y = plS plI a ∧ okS okI y ∧ Good (cS cI y) (whS whI y) n) := by
  refine VC.of E s133 (by kernel_rfl) Try.func133 (by rfl) (by kernel_rfl) (by simp [Try.f133]) (by simp [Try.f133]) s133_ok fun B => ?_
  have hL : LenOk 8 a.xs.length := ⟨by omega, by simp only [maxLen]; omega⟩
  simp [Try.f133, dSl, hL, cI]
  intro γ hs' h1 hg
  obtain ⟨q1, q2⟩ := gam_at hg (k := 3) (T := 3) (sz := 1) (es := a.xs.map cI) (by simp [cI])
  have q3 := gam_row hg (k := 3) (T := 3) (sz := 1) (es := a.xs.map cI) (by simp [cI])
  clear hg
  refine ⟨⟨γ 3, some (3, 1), a.xs⟩, ⟨⟨rfl, rfl, by simp [List.take_of_length_le]⟩, rfl, ha, good_row (fun g hg => (q1 g hg).1) (by simpa using q2) q3 ⟨by simp, by simp⟩ (by simp [whI])⟩⟩
theorem w_impl_copyRows (a : Sl Ints) (ha : okS (okS okI) a) (hb : a.xs.length ≤ 4294967296) (hb2 : ∀ r ∈ a.xs, r.xs.length ≤ 4294967296) :
   VC Try.prog 152 [.d (dSl (cS cI) a)] (fun n r => ∃ y : Sl Ints, r = .d (dSl (cS cI) y) ∧ plS (plS plI) y = plS (plS plI) a ∧ okS (okS okI) y ∧ Good (cS (cS cI) y) (whS (whS whI) y) n) := by
  refine VC.of E s152 (by kernel_rfl) Try.func152 (by rfl) (by kernel_rfl) (by simp [Try.f152]) (by simp [Try.f152]) s152_ok fun B => ?_
  simp [Try.f152, dSl]
  refine loop_ruleL (X := Nat × List (Sl Int)) (fun p h => p.1 ≤ a.xs.length ∧ p.2.length = p.1 ∧ p.2.map (plS plI) = (a.xs.map (plS plI)).take p.1 ∧ (∀ y ∈ p.2, okS okI y) ∧ GoodL (cS cI) (whS whI) B h p.2)
    (fun p => [(3, .own 16 0 p.1), (6, .d (.sl a.id a.T (a.xs.map (cS cI)))), (7, .d (.int .i64 a.xs.length)), (8, .d (.int .i64 p.1))]) (fun p => [(16, some (.row 95 1 (p.2.map (cS cI))))]) (fun p => a.xs.length - p.1) ?_ ?_
  · refine (lead_slot 3 16 95 1 (by omega) (by omega) (by simp)).bind ?_
    rintro _ rfl
    exact Lead.of ⟨(0, []), ⟨by simp, rfl, by simp, by simp, GoodL.nil⟩, rfl, rfl, Nat.le_refl _, by simp, by simp⟩
  · rintro ⟨i, ys⟩ hs t m ⟨hi, hyl, hpl, hok, hgd⟩ hh
    simp only at hi hyl hpl hok hgd
    by_cases hlt : i < a.xs.length
    · have hwi := wr1 (i := i) (by omega)
      have hmem : a.xs[i] ∈ a.xs := List.getElem_mem _
      have hL : LenOk 24 (i + 1) := ⟨by omega, by simp only [maxLen]; omega⟩
      simp [cS, hlt]
      refine call_some (w_impl_copyInts a.xs[i] (ha.2 _ hmem) (hb2 _ hmem)) rfl (by simp) fun n hs' r hn hn' hp hr => ?_
      obtain ⟨y, rfl, hy1, hy2, hy3⟩ := hp
      simp at hn
      have hr' : ∀ g ∈ idsL (cS cI y), g < hs' := fun g hg => hr g (by rw [idsL_cS] at hg; exact hg)
      simp [cS, dSl, hyl, hL, hwi]
      refine back2 (i + 1, ys ++ [y]) ⟨by omega, by simp [hyl], ?_, ?_, GoodL.snoc hgd (by omega) hn' hy3 hr'⟩ (by simp; omega) rfl (by simp <;> omega) (by simp) (by simp [cS, dSl])
      · simp only [List.map_append, hpl, List.map_cons, List.map_nil, hy1]
        rw [List.take_succ_eq_append_getElem (by simpa using hlt)]; simp
      · intro y' hy'
        rcases List.mem_append.1 hy' with h | h
        · exact hok y' h
        · rw [List.mem_singleton.1 h]; exact hy2
    · have hn : i = a.xs.length := by omega
      subst hn
      simp [hyl]
      intro γ hs' h1 hg
      obtain ⟨q1, q2⟩ := gam_at hg (k := 16) (T := 95) (sz := 1) (es := ys.map (cS cI)) (by simp)
      have q3 := gam_row hg (k := 16) (T := 95) (sz := 1) (es := ys.map (cS cI)) (by simp)
      clear hg
      refine ⟨⟨γ 16, some (95, 1), ys⟩, ⟨rfl, rfl, by simp [List.take_of_length_le, hyl]⟩, by rw [List.take_of_length_le (by simp)] at hpl; exact hpl, ⟨by simp only [maxLen]; show ys.length ≤ _; omega, hok⟩, good_row (fun g hg => (q1 g hg).1) (by simpa using q2) q3 ⟨hgd.nd, hgd.lo⟩ hgd.wh⟩
theorem w_impl_copyCounted (a : Cnt) (ha : okCnt a) (hb : a.rows.xs.length ≤ 4294967296) (hb2 : ∀ r ∈ a.rows.xs, r.xs.length ≤ 4294967296) (hb3 : a.cs.xs.length ≤ 4294967296) :
   VC Try.prog 140 [.agg ((cCnt a).map V.d)] (fun n r => ∃ y : Cnt, r = .agg ((cCnt y).map V.d) ∧ plCnt y = plCnt a ∧ okCnt y ∧ Good (cCnt y) (whCnt y) n) := by
  refine VC.of E s140 (by kernel_rfl) Try.func140 (by rfl) (by kernel_rfl) (by simp [Try.f140]) (by simp [Try.f140]) s140_ok fun B => ?_
  simp [Try.f140, s140_1, cCnt, cS, cI]
  refine call_some (w_impl_copyRows a.rows ha.2.1 hb hb2) rfl (by simp) fun n1 hs1 r1 hn1 hm1 hp1 hr1 => ?_
  obtain ⟨y1, rfl, p1, k1, G1⟩ := hp1
  have u1 : ∀ g ∈ idsL (cS (cS cI) y1), g < hs1 := fun g hg => hr1 g (by rw [idsL_cS] at hg; exact hg)
  simp at hn1
  simp [cS, cI, s140_1, ]
  refine call_some (w_impl_copyInts a.cs ha.2.2 hb3) rfl (by simp) fun n2 hs2 r2 hn2 hm2 hp2 hr2 => ?_
  obtain ⟨y2, rfl, p2, k2, G2⟩ := hp2
  simp at hn2
  simp [cS, cI, s140_1, ]
  refine ⟨⟨a.ar, y1, y2⟩, by simp, by simp only [plCnt, p1, p2], ⟨trivial, k1, k2⟩, ?_⟩
  have K1 : Good (cI a.ar ++ cS (cS cI) y1) (whI a.ar ∧ whS (whS whI) y1) B := Good.app (good_I B a.ar) (G1.le (by omega)) (fun g h h' => by simp [cI, idsL, D.ids] at h)
  have K2 : Good (cI a.ar ++ cS (cS cI) y1 ++ cS cI y2) ((whI a.ar ∧ whS (whS whI) y1) ∧ whS whI y2) B := Good.app K1 (G2.le (by omega)) (fun g h h' => by
    have h2 := G2.lo g h'
    rw [idsL_app] at h
    rcases List.mem_append.1 h with h | h
    · simp [cI, idsL, D.ids] at h
    · have h1 := u1 g h; omega)
  exact ⟨K2.nd, K2.lo, K2.wh.1.1, K2.wh.1.2, K2.wh.2⟩

end Go.Proofs.Ytlmnjomekklnkaa

namespace Go.Proofs.Ytlmnjomekklnkaa
open Go.Vs Go.Proofs Go
set_option maxRecDepth 100000
set_option maxHeartbeats 1000000

theorem t_impl_NormalizeDelta (d : Db) (x : Delta) (hd : okDb d) (hx : okDelta x) : VC Try.prog 66 [.agg ((cDb d).map V.d), .agg ((cDelta x).map V.d)]
   (fun n r => ∃ y : Delta, r = .tup [.agg ((cDelta y).map V.d), .d (.bool (fitB (plDb d) (plDelta x)))] ∧ plDelta y = norP (plDb d) (plDelta x) ∧ okDelta y ∧ Good (cDelta y) (whDelta y) n) := by
  refine VC.of E s66 (by kernel_rfl) Try.func66 (by rfl) (by kernel_rfl) (by simp [Try.f66]) (by simp [Try.f66]) s66_ok fun B => ?_
  obtain ⟨nm, ⟨ia, ⟨iid, iT, il⟩⟩, ⟨da, ⟨did, dT, dl⟩⟩⟩ := x
  obtain ⟨X, hX⟩ : ∃ X, X = plDelta ⟨nm, ⟨ia, ⟨iid, iT, il⟩⟩, ⟨da, ⟨did, dT, dl⟩⟩⟩ := ⟨_, rfl⟩
  have hXn : X.name = nm := by rw [hX]; rfl
  have hXi : X.ins = ⟨ia, il.map (plS plI)⟩ := by rw [hX]; rfl
  have hXd : X.del = ⟨da, dl.map (plS plI)⟩ := by rw [hX]; rfl
  rw [← hX]
  simp [Try.f66, s66_9, s66_15, s66_9, s66_15, cDb, cDelta, cReln, cStr, cS, cI, dSl]
  refine call_p (w_impl_applicable (plDb d) X) (by simp [hX, eDb, plDb, er_Tab, eDelta, plDelta, eReln, plReln, plStr, plI, pS, cP, cI, cStr, plS, erLL_map er_cI, erLL_map (er_cS er_cI), erLL_map er_cTab, map_plI]) fun hs1 hh1 hl1 => ?_
  simp at hh1
  obtain ⟨⟨ra, rl⟩, hr⟩ : ∃ r, r = lkR (plDb d) X.name := ⟨_, rfl⟩
  rw [← hr]
  cases h1 : fitB (plDb d) X
  · simp [eReln, s66_9, s66_15, ]
    exact ⟨⟨[], ⟨0, nilS⟩, ⟨0, nilS⟩⟩, by simp [nilS], by simp [norP, h1, plDelta, plReln, plStr, plI, nilS, plS], ⟨by simp [okStr], ⟨trivial, ok_nilS⟩, ⟨trivial, ok_nilS⟩⟩, good_Delta0 B⟩
  simp [eReln, cI, pS, cP, s66_9, s66_15, ]
  have h1' := h1
  simp only [fitB, Bool.and_eq_true, decide_eq_true_eq] at h1'
  obtain ⟨⟨⟨⟨g1, g2⟩, g3⟩, g4⟩, g5⟩ := h1'
  have g0 := lk_ok g1
  rw [← hr] at g0
  rw [hXi] at g2
  rw [hXd] at g3
  simp only at g0 g2 g3
  have hrl := rowsOk_len g0
  have hil := rowsOk_len g2
  have hdl := rowsOk_len g3
  have hil' : il.length ≤ 4000 := by simpa using hil
  have hdl' : dl.length ≤ 4000 := by simpa using hdl
  have hi5 : ∀ y ∈ il, y.xs.length ≤ 4294967296 := fun y hy => by
    have := rowsOk_row g2 (plS plI y) (List.mem_map_of_mem hy)
    simp only [plS, List.length_map] at this; omega
  have hd5 : ∀ y ∈ dl, y.xs.length ≤ 4294967296 := fun y hy => by
    have := rowsOk_row g3 (plS plI y) (List.mem_map_of_mem hy)
    simp only [plS, List.length_map] at this; omega
  refine loop_ruleL (X := Nat × List Ints) (NorI (norI ⟨ra, rl⟩) (il.map (plS plI)) B) (fun p => [(3, .ptr 3 0 0), (4, .ptr 4 0 0), (6, .ptr 6 0 0), (8, .ptr 8 0 0), (33, .d (.sl iid iT (il.map (cS cI)))), (34, .d (.int .i64 il.length)), (35, .d (.int .i64 p.1))])
    (fun p => [(3, some (.box [.d (.str nm), .d (.int .i64 ia), .d (.sl iid iT (il.map (cS cI))), .d (.int .i64 da), .d (.sl did dT (dl.map (cS cI)))])), (4, some (.box [.d (.str []), .d (.int .i64 0), .d (.sl none none []), .d (.int .i64 0), .d (.sl none none [])])), (6, some (.box [.d (.int .i64 ra), .d (.pl (rl.map (cP cI)))])),
      (8, some (.box [.d (.str nm), .d (.int .i64 ra), .own 49 0 p.2.length, .d (.int .i64 ra), .d (.sl none none [])])), (49, some (.row 95 1 (p.2.map (cS cI))))]) (fun p => il.length - p.1) ?_ ?_
  · refine (lead_box 8 2 49 95 1 [.d (.str nm), .d (.int .i64 ra), .d (.sl none none []), .d (.int .i64 ra), .d (.sl none none [])] (by omega) (by omega) (by omega) (by simp) rfl).bind ?_
    rintro _ rfl
    exact Lead.of ⟨(0, []), .zero (by simp [norI]), rfl, rfl, Nat.le_refl _, by simp [dSl], by simp [cP, cI]⟩
  rintro ⟨i, ys⟩ hs t m hI hh
  have hile := hI.le
  simp only [List.length_map] at hile
  have hyl : ys.length ≤ i := by
    have e := congrArg List.length hI.pl
    have h2 := norI_len ⟨ra, rl⟩ ((il.map (plS plI)).take i)
    simp only [List.length_map] at e
    rw [List.length_take] at h2
    omega
  by_cases hlt : i < il.length
  · have hwi := wr1 (i := i) (by omega)
    have hlt' : i < (il.map (plS plI)).length := by simpa using hlt
    have hst := norI_step (r := ⟨ra, rl⟩) hlt'
    have hge : (il.map (plS plI))[i] = plS plI il[i] := by simp
    rw [hge] at hst
    have hmem := List.getElem_mem hlt
    have hL : LenOk 24 (ys.length + 1) := ⟨by omega, by simp only [maxLen]; omega⟩
    refine anyQ2 fun Q => ?_
    simp [hlt, cS, cI, s66_9, s66_15, ]
    refine call_f (w_impl_ContainsRow ⟨ra, rl⟩ (plS plI il[i]) (by show rl.length ≤ _; omega)) (by simp [eReln, pS, cP, cI, plS, erLL_map er_cI, map_plI, dSl]) rfl fun hs2 hh2 => ?_
    simp at hh2
    cases h2 : hasR ⟨ra, rl⟩ (plS plI il[i])
    · rw [h2] at hst
      simp only [Bool.false_eq_true, if_false] at hst
      simp [hlt, s66_9, s66_15, ]
      refine call_some (w_impl_copyInts il[i] (hx.2.1.2.2 _ hmem) (hi5 _ hmem)) (by simp [dSl]) (by simp) fun n3 hs3 r3 hn3 hm3 hp3 hr3 => ?_
      obtain ⟨y, rfl, hy1, hy2, hy3⟩ := hp3
      simp at hn3
      have hr3' : ∀ g ∈ idsL (cS cI y), g < hs3 := fun g hg => hr3 g (by rw [idsL_cS] at hg; exact hg)
      simp [cS, cI, dSl, hL, hwi, s66_9, s66_15, ]
      exact back2 (i + 1, ys ++ [y]) (hI.snoc hlt' (by rw [hst, hge]) (by rw [hy1, hge]) hy2 (by omega) hm3 hy3 hr3') (by simp only; omega) rfl (by simp <;> omega) (by simp) (by simp [cS, cI, dSl])
    · rw [h2] at hst
      simp only [if_true, List.append_nil] at hst
      simp [hwi, s66_9, s66_15, ]
      exact back2 (i + 1, ys) (hI.skip hlt' hst (by omega)) (by simp only; omega) rfl (by simp <;> omega) (by simp) (by simp [cS, cI, dSl])
  have hia : i = il.length := by omega
  have hpl1 : ys.map (plS plI) = norI ⟨ra, rl⟩ (il.map (plS plI)) := by
    have := hI.pl
    simp only at this
    rwa [List.take_of_length_le (by simp; omega)] at this
  simp [hlt, s66_9, s66_15, ]
  obtain ⟨H, hH⟩ : ∃ H, H = hs := ⟨_, rfl⟩
  have hhi : ∀ g ∈ idsLL (ys.map (cS cI)), g < H := fun g hg => by rw [hH]; exact hI.good.hi g hg
  have hHB : B ≤ H := by omega
  refine loop_ruleL (X := Nat × List Ints) (NorI (norD ⟨ra, rl⟩ X.ins) (dl.map (plS plI)) H) (fun p => [(3, .ptr 3 0 0), (4, .ptr 4 0 0), (6, .ptr 6 0 0), (8, .ptr 8 0 0), (55, .d (.sl did dT (dl.map (cS cI)))), (56, .d (.int .i64 dl.length)), (57, .d (.int .i64 p.1))])
    (fun p => [(3, some (.box [.d (.str nm), .d (.int .i64 ia), .d (.sl iid iT (il.map (cS cI))), .d (.int .i64 da), .d (.sl did dT (dl.map (cS cI)))])), (4, some (.box [.d (.str []), .d (.int .i64 0), .d (.sl none none []), .d (.int .i64 0), .d (.sl none none [])])), (6, some (.box [.d (.int .i64 ra), .d (.pl (rl.map (cP cI)))])),
      (8, some (.box [.d (.str nm), .d (.int .i64 ra), .own 49 0 ys.length, .d (.int .i64 ra), .own 77 0 p.2.length])), (49, some (.row 95 1 (ys.map (cS cI)))), (77, some (.row 95 1 (p.2.map (cS cI))))]) (fun p => dl.length - p.1) ?_ ?_
  · refine (lead_box 8 4 77 95 1 [.d (.str nm), .d (.int .i64 ra), .own 49 0 ys.length, .d (.int .i64 ra), .d (.sl none none [])] (by omega) (by omega) (by omega) (by simp) rfl).bind ?_
    rintro _ rfl
    exact Lead.of ⟨(0, []), .zero (by simp [norD]), rfl, rfl, Nat.le_refl _, by simp, by simp [cP, cI]⟩
  rintro ⟨k, zs⟩ hs t m hJ hh
  have hkle := hJ.le
  simp only [List.length_map] at hkle
  have hzl : zs.length ≤ k := by
    have e := congrArg List.length hJ.pl
    have h2 := norD_len ⟨ra, rl⟩ X.ins ((dl.map (plS plI)).take k)
    simp only [List.length_map] at e
    rw [List.length_take] at h2
    omega
  by_cases hkt : k < dl.length
  · have hwk := wr1 (i := k) (by omega)
    have hkt' : k < (dl.map (plS plI)).length := by simpa using hkt
    have hst := norD_step (r := ⟨ra, rl⟩) (s := X.ins) hkt'
    have hge : (dl.map (plS plI))[k] = plS plI dl[k] := by simp
    rw [hge] at hst
    have hmem := List.getElem_mem hkt
    have hL : LenOk 24 (zs.length + 1) := ⟨by omega, by simp only [maxLen]; omega⟩
    refine anyQ2 fun Q => ?_
    simp [hkt, cS, cI, s66_9, s66_15, ]
    refine call_f (w_impl_ContainsRow ⟨ra, rl⟩ (plS plI dl[k]) (by show rl.length ≤ _; omega)) (by simp [eReln, pS, cP, cI, plS, erLL_map er_cI, map_plI, dSl]) rfl fun hs2 hh2 => ?_
    simp at hh2
    cases h2 : hasR ⟨ra, rl⟩ (plS plI dl[k])
    · rw [h2, Bool.false_and] at hst
      simp only [Bool.false_eq_true, if_false, List.append_nil] at hst
      simp [hwk, s66_9, s66_15, ]
      exact back2 (k + 1, zs) (hJ.skip hkt' hst (by omega)) (by simp only; omega) rfl (by simp <;> omega) (by simp) (by simp [cS, cI, dSl])
    rw [h2, Bool.true_and] at hst
    simp [hkt, cS, cI, dSl, s66_9, s66_15, ]
    refine call_f (w_impl_ContainsRow X.ins (plS plI dl[k]) (by rw [hXi]; simp; omega)) (by simp [hXi, eReln, pS, cP, cI, plS, erLL_map er_cI, erLL_map (er_cS er_cI), map_plI, dSl]) rfl fun hs4 hh4 => ?_
    simp at hh4
    cases h4 : hasR X.ins (plS plI dl[k])
    · rw [h4] at hst
      simp only [Bool.not_false, if_true] at hst
      simp [hkt, s66_9, s66_15, ]
      refine call_some (w_impl_copyInts dl[k] (hx.2.2.2.2 _ hmem) (hd5 _ hmem)) (by simp [dSl]) (by simp) fun n3 hs3 r3 hn3 hm3 hp3 hr3 => ?_
      obtain ⟨y, rfl, hy1, hy2, hy3⟩ := hp3
      simp at hn3
      have hr3' : ∀ g ∈ idsL (cS cI y), g < hs3 := fun g hg => hr3 g (by rw [idsL_cS] at hg; exact hg)
      simp [cS, cI, dSl, hL, hwk, s66_9, s66_15, ]
      exact back2 (k + 1, zs ++ [y]) (hJ.snoc hkt' (by rw [hst, hge]) (by rw [hy1, hge]) hy2 (by omega) hm3 hy3 hr3') (by simp only; omega) rfl (by simp <;> omega) (by simp) (by simp [cS, cI, dSl])
    · rw [h4] at hst
      simp only [Bool.not_true, Bool.false_eq_true, if_false, List.append_nil] at hst
      simp [hwk, s66_9, s66_15, ]
      exact back2 (k + 1, zs) (hJ.skip hkt' hst (Nat.le_trans hh2 hh4)) (by simp only; omega) rfl (by simp <;> omega) (by simp) (by simp [cS, cI, dSl])
  have hpl2 : zs.map (plS plI) = norD ⟨ra, rl⟩ X.ins (dl.map (plS plI)) := by
    have := hJ.pl
    simp only at this
    rwa [List.take_of_length_le (by simp; omega)] at this
  simp [hkt, s66_9, s66_15, ]
  intro γ hs' h2' hg
  obtain ⟨q1, q2⟩ := gam_at hg (k := 49) (T := 95) (sz := 1) (es := ys.map (cS cI)) (by simp)
  obtain ⟨q3, q4⟩ := gam_at hg (k := 77) (T := 95) (sz := 1) (es := zs.map (cS cI)) (by simp)
  have r1 := gam_row hg (k := 49) (T := 95) (sz := 1) (es := ys.map (cS cI)) (by simp)
  have r2 := gam_row hg (k := 77) (T := 95) (sz := 1) (es := zs.map (cS cI)) (by simp)
  have r3 := gam_row2 hg (k := 49) (T := 95) (sz := 1) (es := ys.map (cS cI)) (k2 := 77) (T2 := 95) (sz2 := 1) (es2 := zs.map (cS cI)) (by simp) (by simp)
  have r4 := gam_row2 hg (k := 77) (T := 95) (sz := 1) (es := zs.map (cS cI)) (k2 := 49) (T2 := 95) (sz2 := 1) (es2 := ys.map (cS cI)) (by simp) (by simp)
  have r5 : ∀ g, γ 49 = some g → γ 77 = some g → False := fun g h h' => by
    have := hg.ne 49 77 (.row 95 1 (ys.map (cS cI))) (.row 95 1 (zs.map (cS cI))) g (by simp) (by simp) h h'
    omega
  clear hg
  have hp1 : ∀ l : List Ints, hpLL (l.map (cS cI)) = false := fun l => hpLL_map (fun a => by simp) _
  simp [hp1, List.take_of_length_le]
  refine ⟨⟨nm, ⟨ra, ⟨γ 49, some (95, 1), ys⟩⟩, ⟨ra, ⟨γ 77, some (95, 1), zs⟩⟩⟩, by simp, ?_, ⟨hx.1, ⟨trivial, ⟨by simp only [maxLen]; show ys.length ≤ _; omega, hI.ok⟩⟩, ⟨trivial, ⟨by simp only [maxLen]; show zs.length ≤ _; omega, hJ.ok⟩⟩⟩, ?_⟩
  · have e : norP (plDb d) X = ⟨X.name, ⟨ra, norI ⟨ra, rl⟩ X.ins.rows⟩, ⟨ra, norD ⟨ra, rl⟩ X.ins X.del.rows⟩⟩ := by
      simp only [norP, h1, if_true, ← hr]
    have e2 : plDelta ⟨nm, ⟨ra, ⟨γ 49, some (95, 1), ys⟩⟩, ⟨ra, ⟨γ 77, some (95, 1), zs⟩⟩⟩ = ⟨nm, ⟨ra, ys.map (plS plI)⟩, ⟨ra, zs.map (plS plI)⟩⟩ := rfl
    rw [e, e2, hXn, hXi, hXd, hpl1, hpl2, hXi]
  · have := good_Delta2 (nm := nm) (a1 := ra) (a2 := ra) (T1 := (95, 1)) (T2 := (95, 1)) hI.good.nd (hI.good.lo) hI.good.wh hJ.good.nd (fun g hg => by have := hJ.good.lo g hg; omega) hJ.good.wh
      (fun g hg hg' => by have a1 := hhi g hg; have a2 := hJ.good.lo g hg'; omega) (fun g h => ⟨(q1 g h).1, r1 g h, r3 g h⟩) (by simpa using q2) (fun g h => ⟨(q3 g h).1, r2 g h, r4 g h⟩) (by simpa using q4) r5
    exact this

end Go.Proofs.Ytlmnjomekklnkaa

namespace Go.Proofs.Ytlmnjomekklnkaa
open Go.Vs Go.Proofs Go
set_option maxRecDepth 100000
set_option maxHeartbeats 1000000

section
attribute [local simp] plI_id plStr_id map_plI map_plStr
theorem e_impl_copyInts (l : List Int) (hb : l.length ≤ 4294967296) :
   VC Try.prog 133 [.d (pS cI l)] (fun n r => ∃ y : Ints, r = .d (dSl cI y) ∧ plS plI y = l ∧ okS okI y ∧ Good (cS cI y) (whS whI y) n) := by
  refine VC.of E s133 (by kernel_rfl) Try.func133 (by rfl) (by kernel_rfl) (by simp [Try.f133]) (by simp [Try.f133]) s133_ok fun B => ?_
  have hL : LenOk 8 l.length := ⟨by omega, by simp only [maxLen]; omega⟩
  simp [Try.f133, pS, hL, cI]
  intro γ hs' h1 hg
  obtain ⟨q1, q2⟩ := gam_at hg (k := 3) (T := 3) (sz := 1) (es := l.map cI) (by simp [cI])
  have q3 := gam_row hg (k := 3) (T := 3) (sz := 1) (es := l.map cI) (by simp [cI])
  clear hg
  have hp : hpLL (l.map cI) = false := hpLL_mapI l
  refine ⟨⟨γ 3, some (3, 1), l⟩, by simp [dSl, List.take_of_length_le, cI], by simp [plS], ⟨by simp only [maxLen]; omega, fun _ _ => trivial⟩, good_row (fun g hg => (q1 g hg).1) (by simpa using q2) q3 ⟨by simp, by simp⟩ (by simp [whI])⟩
theorem e_impl_copyRowsT (l : List (List Int)) (hb : l.length ≤ 4294967296) (hb2 : ∀ r ∈ l, r.length ≤ 4294967296) :
   VC Try.prog 152 [.d (pS (cP cI) l)] (fun n r => ∃ y : Sl Ints, r = .d (dSl (cS cI) y) ∧ plS (plS plI) y = l ∧ okS (okS okI) y ∧ Good (cS (cS cI) y) (whS (whS whI) y) n ∧ y.T = some (95, 1)) := by
  refine VC.of E s152 (by kernel_rfl) Try.func152 (by rfl) (by kernel_rfl) (by simp [Try.f152]) (by simp [Try.f152]) s152_ok fun B => ?_
  simp [Try.f152, pS]
  refine loop_ruleL (X := Nat × List Ints) (CopI (cS cI) (whS whI) (okS okI) (plS plI) l B) (fun p => [(3, .own 16 0 p.2.length), (6, .d (.pl (l.map (cP cI)))), (7, .d (.int .i64 l.length)), (8, .d (.int .i64 p.1))]) (fun p => [(16, some (.row 95 1 (p.2.map (cS cI))))]) (fun p => l.length - p.1) ?_ ?_
  · refine (lead_slot 3 16 95 1 (by omega) (by omega) (by simp)).bind ?_
    rintro _ rfl
    exact Lead.of ⟨(0, []), .zero, rfl, rfl, Nat.le_refl _, by simp, by simp⟩
  rintro ⟨i, ys⟩ hs t m hI hh
  have hle := hI.le
  have hyl := hI.len
  simp only at hle
  by_cases hlt : i < l.length
  · have hwi := wr1 (i := i) (by omega)
    have hL : LenOk 24 (ys.length + 1) := ⟨by omega, by simp only [maxLen]; omega⟩
    simp [hlt, cP, pS, ]
    refine call_some (e_impl_copyInts l[i] (hb2 _ (List.getElem_mem hlt))) (by simp [pS]) (by simp) fun n hs' r hn hn' hp hr => ?_
    obtain ⟨y, rfl, hy1, hy2, hy3⟩ := hp
    simp at hn
    have hr' : ∀ g ∈ idsL (cS cI y), g < hs' := fun g hg => hr g (by rw [idsL_cS] at hg; exact hg)
    simp [cS, dSl, hL, hwi, ]
    exact back2 (i + 1, ys ++ [y]) (hI.snoc hlt hy1 hy2 (by omega) hn' hy3 hr') (by simp only; omega) rfl (by simp <;> omega) (by simp [cP, pS]) (by simp [cS, dSl])
  · have hall := hI.all (by omega)
    simp [hlt, ]
    intro γ hs' h1 hg
    obtain ⟨q1, q2⟩ := gam_at hg (k := 16) (T := 95) (sz := 1) (es := ys.map (cS cI)) (by simp)
    have q3 := gam_row hg (k := 16) (T := 95) (sz := 1) (es := ys.map (cS cI)) (by simp)
    clear hg
    have hp : hpLL (ys.map (cS cI)) = false := hpLL_mapS ys
    refine ⟨⟨γ 16, some (95, 1), ys⟩, by simp [dSl, List.take_of_length_le], by simpa [plS] using hall, ⟨by simp only [maxLen]; show ys.length ≤ _; omega, hI.ok⟩, good_row (fun g hg => (q1 g hg).1) (by simpa using q2) q3 ⟨hI.good.nd, hI.good.lo⟩ hI.good.wh, rfl⟩
theorem e_impl_copyRows (l : List (List Int)) (hb : l.length ≤ 4294967296) (hb2 : ∀ r ∈ l, r.length ≤ 4294967296) :
   VC Try.prog 152 [.d (pS (cP cI) l)] (fun n r => ∃ y : Sl Ints, r = .d (dSl (cS cI) y) ∧ plS (plS plI) y = l ∧ okS (okS okI) y ∧ Good (cS (cS cI) y) (whS (whS whI) y) n) :=
  (e_impl_copyRowsT l hb hb2).weak fun _ _ ⟨y, h1, h2, h3, h4, _⟩ => ⟨y, h1, h2, h3, h4⟩
theorem e_impl_copyRows0 : VC Try.prog 152 [.d (pS (cP cI) [])] (fun _ r => r = .d (.sl none none [])) := by
  refine VC.of E s152 (by kernel_rfl) Try.func152 (by rfl) (by kernel_rfl) (by simp [Try.f152]) (by simp [Try.f152]) s152_ok fun B => ?_
  simp [Try.f152, pS]
  refine loop_rule (X := Unit) (fun _ => True) (fun _ => [(3, .d (.sl none none [])), (6, .d (.pl [])), (7, .d (.int .i64 0)), (8, .d (.int .i64 0))]) (fun _ => []) (fun _ => 0) () trivial (by simp) (by simp) ?_
  intro i hs t m hi hh
  simp []
theorem e_impl_copyRelation (r : PReln) (hb : r.rows.length ≤ 4294967296) (hb2 : ∀ x ∈ r.rows, x.length ≤ 4294967296) :
   VC Try.prog 123 [.agg ((eReln r).map V.d)] (fun n v => ∃ y : Reln, v = .agg ((cReln y).map V.d) ∧ plReln y = r ∧ okReln y ∧ Good (cReln y) (whReln y) n) := by
  refine VC.of E s123 (by kernel_rfl) Try.func123 (by rfl) (by kernel_rfl) (by simp [Try.f123]) (by simp [Try.f123]) s123_ok fun B => ?_
  simp [Try.f123, s123_1, s123_1, eReln, cI, cP]
  refine call_some (e_impl_copyRows r.rows hb hb2) (by simp [pS]) (by simp) fun n1 hs1 r1 hn1 hm1 hp1 hr1 => ?_
  obtain ⟨y, rfl, p1, k1, G1⟩ := hp1
  simp at hn1
  simp [s123_1, ]
  exact ⟨⟨r.ar, y⟩, by simp [cReln, cI, cS], by rw [plReln]; simp only; rw [p1]; rfl, ⟨trivial, k1⟩, good_Reln G1 (by omega)⟩
end

end Go.Proofs.Ytlmnjomekklnkaa

namespace Go.Proofs.Ytlmnjomekklnkaa
open Go.Vs Go.Proofs Go
set_option maxRecDepth 100000
set_option maxHeartbeats 1000000

section
attribute [local simp] plI_id plStr_id map_plI map_plStr
theorem e_impl_parseList (s : List UInt8) (hb : s.length ≤ 1000000000) : VC Try.prog 186 [.d (.str s), .d (.int .u8 44)]
   (fun n r => ∃ y : Ints, r = .tup [.d (dSl cI y), .d (.bool (plsB s))] ∧ (plsB s = true → plS plI y = plsL s) ∧ okS okI y ∧ Good (cS cI y) (whS whI y) n) := by
  refine VC.of E s186 (by kernel_rfl) Try.func186 (by rfl) (by kernel_rfl) (by simp [Try.f186]) (by simp [Try.f186]) s186_ok fun B => ?_
  by_cases h0 : s = []
  · simp [Try.f186, h0]
    exact ⟨nilS, by simp [nilS, dSl, plsB], by simp [plsL, nilS, plS], ok_nilS, good_nilS B⟩
  simp [Try.f186, h0]
  refine call_p (w_impl_split s 44 hb) (by simp) fun hs1 hh1 hl1 => ?_
  simp at hh1
  have hll := cutB_len 44 s
  have hB : plsB s = (cutB 44 s).all fun v => (prsZ v).isSome := by simp [plsB, h0]
  have hP : plsL s = (cutB 44 s).map prsN := by simp [plsL, h0]
  obtain ⟨v, hv⟩ : ∃ v, v = cutB 44 s := ⟨_, rfl⟩
  rw [← hv] at hll hB hP ⊢
  simp [pS, ]
  refine loop_ruleL (X := Nat) (fun k _ => k ≤ v.length ∧ ∀ x ∈ v.take k, (prsZ x).isSome = true) (fun k => [(6, .own 900 0 k), (15, .d (.pl (v.map cStr))), (16, .d (.int .i64 v.length)), (17, .d (.int .i64 k))]) (fun k => [(900, some (.row 3 1 (((v.take k).map prsN).map cI)))]) (fun k => v.length - k) ?_ ?_
  · refine (lead_slot 6 900 3 1 (by omega) (by omega) (by simp)).bind ?_
    rintro _ rfl
    exact Lead.of ⟨0, ⟨by omega, by simp⟩, rfl, rfl, Nat.le_refl _, by simp, by simp⟩
  rintro k hs t m ⟨hk, hall⟩ hh
  by_cases hkl : k < v.length
  · have hwk := wr1 (i := k) (by omega)
    have hmk : min k v.length = k := by omega
    have hLk : LenOk 8 (k + 1) := ⟨by omega, by simp only [maxLen]; omega⟩
    have hst3 : List.take (k + 1) (List.map (cI ∘ prsN) v) = List.take k (List.map (cI ∘ prsN) v) ++ [cI (prsN v[k])] := by
      rw [List.take_succ_eq_append_getElem (by simpa using hkl)]; simp
    simp [hkl, cStr, ]
    refine call_f (w_impl_ParseInt v[k]) (by simp) rfl fun hs6 hh6 => ?_
    simp at hh6
    cases hz : (prsZ v[k]).isSome
    · have hbf : plsB s = false := by
        rw [hB, List.all_eq_false]
        exact ⟨_, List.getElem_mem hkl, by rw [hz]; simp⟩
      simp [hz, hbf, ]
      exact ⟨nilS, by simp [nilS, dSl], ok_nilS, good_nilS B⟩
    · simp [hz, hkl, hwk, hLk, hmk, ]
      refine back2 (k + 1) ⟨by omega, fun x hx => ?_⟩ (by omega) rfl (by simp <;> omega) (by simp [cStr]) (by simp [hst3, cI])
      rw [List.take_succ_eq_append_getElem hkl] at hx
      rcases List.mem_append.1 hx with hx | hx
      · exact hall x hx
      · rw [List.mem_singleton.1 hx]; exact hz
  · have hkn : k = v.length := by omega
    subst hkn
    have hbt : plsB s = true := by
      rw [hB, List.all_eq_true]
      intro x hx
      exact hall x (by rw [List.take_of_length_le (Nat.le_refl _)]; exact hx)
    simp [hbt, hP, ]
    intro γ hs' h1 hg
    obtain ⟨q1, q2⟩ := gam_at hg (k := 900) (T := 3) (sz := 1) (es := (v.map prsN).map cI) (by simp [List.take_of_length_le])
    have q3 := gam_row hg (k := 900) (T := 3) (sz := 1) (es := (v.map prsN).map cI) (by simp [List.take_of_length_le])
    clear hg
    have hid : ∀ L : List Int, idsLL (L.map cI) = [] := fun L => by simp
    have hp : hpLL ((v.map prsN).map cI) = false := hpLL_mapI _
    simp only [List.map_map] at hp
    simp [hp, List.take_of_length_le]
    exact ⟨⟨γ 900, some (3, 1), v.map prsN⟩, by simp [dSl, List.take_of_length_le], by simp [plS], ⟨by simp only [maxLen, List.length_map]; omega, fun _ _ => trivial⟩, good_row (fun g hg => (q1 g hg).1) (by simpa using q2) q3 ⟨by rw [hid]; simp, by rw [hid]; simp⟩ (by simp [whI])⟩
theorem e_impl_ParseRelation (s : List UInt8) (hb : s.length ≤ 1000000000) : VC Try.prog 160 [.d (.str s)]
   (fun n r => ∃ y : Reln, r = .tup [.agg ((cReln y).map V.d), .d (.bool (prsB s))] ∧ plReln y = prsR s ∧ okReln y ∧ Good (cReln y) (whReln y) n) := by
  refine VC.of E s160 (by kernel_rfl) Try.func160 (by rfl) (by kernel_rfl) (by simp [Try.f160]) (by simp [Try.f160]) s160_ok fun B => ?_
  have hnil : plReln (⟨0, nilS⟩ : Reln) = ⟨0, []⟩ := by simp [plReln, nilS, plS, plI]
  have hokn : okReln (⟨0, nilS⟩ : Reln) := ⟨trivial, ok_nilS⟩
  have hgn : Good (cReln (⟨0, nilS⟩ : Reln)) (whReln ⟨0, nilS⟩) B := good_Reln0 B
  have hbad : prsB s = false → prsR s = ⟨0, []⟩ := fun h => by rw [prsR, if_neg (by rw [h]; simp)]
  have hform := fun h => prsB_form (s := s) h
  have hpos := cutB_pos 58 s
  have hcl := cutB_len 58 s
  have hpre : preRel s = ⟨prsN ((cutB 58 s).getD 0 []), if (cutB 58 s).length = 2 ∧ (cutB 58 s).getD 1 [] ≠ [] then (cutB 32 ((cutB 58 s).getD 1 [])).map rowTx else []⟩ := rfl
  have hml : ∀ x ∈ cutB 58 s, x.length ≤ s.length := fun x hx => cutB_mem hx
  have hs0 : (prsZ ((cutB 58 s).getD 0 [])).isSome = true → s ≠ [] := fun h e => by
    subst e
    simp [cutB, cutA, prsZ_nil] at h
  simp [Try.f160, ]
  refine call_p (w_impl_split s 58 hb) (by simp) fun hs1 hh1 hl1 => ?_
  simp at hh1
  obtain ⟨W, hW⟩ : ∃ W, W = cutB 58 s := ⟨_, rfl⟩
  rw [← hW] at hpos hpre hml hform hs0 ⊢
  simp [hpos, pS, cStr, ]
  refine call_f (w_impl_ParseInt W[0]) (by simp) rfl fun hs2 hh2 => ?_
  simp at hh2
  rw [getD_el _ hpos] at hpre hform hs0
  have fail : ∀ (hh : prsB s = false), ∃ y : Reln, V.tup [V.agg [V.d (D.int IntKind.i64 0), V.d (D.sl none none [])], V.d (D.bool false)] = .tup [.agg ((cReln y).map V.d), .d (.bool (prsB s))] ∧ plReln y = prsR s ∧ okReln y ∧ Good (cReln y) (whReln y) B := fun hh =>
    ⟨⟨0, nilS⟩, by simp [cReln, cI, cS, dSl, nilS, hh], by rw [hbad hh, hnil], hokn, hgn⟩
  cases hz0 : (prsZ W[0]).isSome
  · have hf : prsB s = false := by
      cases h : prsB s
      · rfl
      · rw [(hform h).1] at hz0; cases hz0
    simp [hz0, ]
    simpa using fail hf
  by_cases c2 : W.length = 2
  case neg =>
    have c2' : ¬ (W.length : Int) = 2 := by omega
    have hf : prsB s = false := by
      cases h : prsB s
      · rfl
      · exact absurd (hform h).2.1 c2
    simp [hz0, c2', ]
    simpa using fail hf
  have c2' : (W.length : Int) = 2 := by omega
  have h1W : 1 < W.length := by omega
  rw [getD_el _ h1W] at hpre hform
  have hsn := hs0 hz0
  have hJl : W[1].length ≤ 1000000000 := Nat.le_trans (hml _ (List.getElem_mem h1W)) hb
  obtain ⟨J, hJ⟩ : ∃ J, J = W[1] := ⟨_, rfl⟩
  obtain ⟨ar, har⟩ : ∃ ar, ar = prsN W[0] := ⟨_, rfl⟩
  have hB : prsB s = decide (fmtRel (preRel s) = s) := by simp [prsB, hsn]
  rw [← hJ] at hpre hform hJl
  rw [← har] at hpre ⊢
  by_cases c3 : J = []
  case pos =>
    rw [if_neg fun h => h.2 c3] at hpre
    simp [hz0, c2', h1W, ← hJ, c3, ]
    refine call_f (w_impl_FormatRelation (preRel s)) (by simp [hpre, eReln, pS, cP]) rfl fun hs9 hh9 => ?_
    simp at hh9
    by_cases e : fmtRel (preRel s) = s
    · have hR : prsR s = preRel s := by rw [prsR, if_pos (by rw [hB]; simpa using e)]
      simp [e, hB, ]
      refine ⟨⟨ar, nilS⟩, by simp [cReln, cI, cS, dSl, nilS], ?_, ⟨trivial, ok_nilS⟩, good_Reln (good_nilS B) (Nat.le_refl _)⟩
      rw [hR, hpre]; simp [plReln, nilS, plS, plI]
    · have hf : prsB s = false := by rw [hB]; simpa using e
      simp [e, ]
      simpa using fail hf
  rw [if_pos ⟨c2, c3⟩] at hpre
  simp [hz0, c2', h1W, ← hJ, c3, ]
  refine call_p (w_impl_split J 32 hJl) (by simp) fun hs3 hh3 hl3 => ?_
  simp at hh3
  have hLl := cutB_len 32 J
  have hLm : ∀ x ∈ cutB 32 J, x.length ≤ J.length := fun x hx => cutB_mem hx
  obtain ⟨l, hl⟩ : ∃ l, l = cutB 32 J := ⟨_, rfl⟩
  rw [← hl] at hpre hLl hLm hform ⊢
  simp [pS, ]
  refine loop_ruleL (X := Nat × List Ints) (fun p h => CopI (cS cI) (whS whI) (okS okI) (plS plI) (l.map rowTx) B p h) (fun p => [(0, .d (.str s)), (2, .ptr 2 0 0), (7, .ptr 7 0 0), (38, .d (.pl (l.map cStr))), (39, .d (.int .i64 l.length)), (40, .d (.int .i64 p.1))]) (fun p => [(2, some (.box [.d (.int .i64 0), .d (.sl none none [])])), (7, some (.box [.d (.int .i64 ar), .own 900 0 p.2.length])), (900, some (.row 95 1 (p.2.map (cS cI))))]) (fun p => l.length - p.1) ?_ ?_
  · refine (lead_box 7 1 900 95 1 [.d (.int .i64 ar), .d (.sl none none [])] (by omega) (by omega) (by omega) (by simp) rfl).bind ?_
    rintro _ rfl
    exact Lead.of ⟨(0, []), .zero, rfl, rfl, Nat.le_refl _, by simp, by simp⟩
  rintro ⟨i, ys⟩ hs t m hI hh
  have hle := hI.le
  have hyl := hI.len
  simp only [List.length_map] at hle
  by_cases hlt : i < l.length
  · have hwi := wr1 (i := i) (by omega)
    have hL : LenOk 24 (i + 1) := ⟨by omega, by simp only [maxLen]; omega⟩
    have hxl := hLm _ (List.getElem_mem hlt)
    have hfx : prsB s = true → 2 ≤ l[i].length ∧ (inTx l[i] ≠ [] → ∀ v ∈ cutB 44 (inTx l[i]), (prsZ v).isSome = true) := fun h => (hform h).2.2 c3 _ (List.getElem_mem hlt)
    obtain ⟨x, hx⟩ : ∃ x, x = l[i] := ⟨_, rfl⟩
    rw [← hx] at hxl hfx
    by_cases h2 : (x.length : Int) < 2
    · have hf : prsB s = false := by
        cases h : prsB s
        · rfl
        · have := (hfx h).1; omega
      simp [hlt, ← hx, h2, cStr, ]
      simpa using fail hf
    have hwm : IntKind.i64.wrap ((x.length : Int) - 1) = ((x.length - 1 : Nat) : Int) := by rw [wrap64_of (by omega) (by omega)]; omega
    have hsub : x.length - 1 - 1 = x.length - 2 := by omega
    have hxi : inTx x = x.tail.take (x.length - 2) := by simp [inTx]
    have hil : (inTx x).length ≤ 1000000000 := by rw [hxi, List.length_take, List.length_tail]; omega
    simp [hlt, ← hx, h2, hwm, hsub, cStr, ]
    refine ⟨by omega, ?_⟩
    rw [← hxi]
    refine call_some (e_impl_parseList (inTx x) hil) (by simp) (by simp) fun n4 hs4 r4 hn4 hm4 hp4 hr4 => ?_
    obtain ⟨y, rfl, hy1, hy2, hy3⟩ := hp4
    simp at hn4
    cases hpb : plsB (inTx x)
    · have hf : prsB s = false := by
        cases h : prsB s
        · rfl
        · have := plsB_of (hfx h).2
          rw [hpb] at this; cases this
      simp []
      simpa using fail hf
    have hr' : ∀ g ∈ idsL (cS cI y), g < hs4 := fun g hg => hr4 g (by rw [idsL_cS] at hg; simpa using hg)
    have hyr : plS plI y = rowTx x := by rw [hy1 hpb, plsL_row (by omega)]
    simp [cS, dSl, hL, hwi, hyl, ]
    exact back2 (i + 1, ys ++ [y]) (hI.snoc (by simpa using hlt) (by rw [hyr]; simp [hx]) hy2 (by omega) hm4 hy3 hr') (by simp only; omega) rfl (by simp <;> omega) (by simp [cStr]) (by simp [cS, dSl, hyl])
  · have hall := hI.all (by simp; omega)
    simp [hlt, ]
    have hpr : preRel s = ⟨ar, ys.map (plS plI)⟩ := by rw [hpre, hall]
    have hpS : hpLL (ys.map (cS cI)) = false := hpLL_mapS ys
    refine call_own (by simp) (fun γ n hn hg => ⟨[.agg [.d (.int .i64 ar), .d (.sl (γ 900) (some (95, 1)) (ys.map (cS cI)))]], by simp [hpS, List.take_of_length_le], (w_impl_FormatRelation (preRel s)).er (by simp [hpr, eReln, cP, pS, cI, erLL_map (er_cS er_cI)])⟩) (by rintro n _ rfl; simp [V.ids, D.ids, V.hp, D.hp]) fun n9 hs9 r9 hn9 hm9 hp9 hr9 => ?_
    subst hp9
    clear hr9
    simp at hn9
    by_cases e : fmtRel (preRel s) = s
    · have hR : prsR s = preRel s := by rw [prsR, if_pos (by rw [hB]; simpa using e)]
      simp [e, hB, ]
      intro γ hs' h1 hg
      obtain ⟨q1, q2⟩ := gam_at hg (k := 900) (T := 95) (sz := 1) (es := ys.map (cS cI)) (by simp)
      have q3 := gam_row hg (k := 900) (T := 95) (sz := 1) (es := ys.map (cS cI)) (by simp)
      clear hg
      have hp : hpLL (ys.map (cS cI)) = false := hpLL_mapS ys
      simp [hp, List.take_of_length_le]
      refine ⟨⟨ar, ⟨γ 900, some (95, 1), ys⟩⟩, by simp [cReln, cI, cS, dSl, List.take_of_length_le], ?_, ⟨trivial, ⟨by simp only [maxLen]; show ys.length ≤ _; omega, hI.ok⟩⟩, good_Reln (good_row (fun g hg => (q1 g hg).1) (by simpa using q2) q3 ⟨hI.good.nd, hI.good.lo⟩ hI.good.wh) (Nat.le_refl _)⟩
      rw [hR, hpr]; simp [plReln, plS]
    · have hf : prsB s = false := by rw [hB]; simpa using e
      simp [e, ]
      simpa using fail hf
end

end Go.Proofs.Ytlmnjomekklnkaa

namespace Go.Proofs.Ytlmnjomekklnkaa
open Go.Vs Go.Proofs Go
set_option maxRecDepth 100000
set_option maxHeartbeats 1000000

section
attribute [local simp] plI_id plStr_id map_plI map_plStr pS cP cI cStr cU8 cB
theorem w_spec_VersionFiles (d : PDb) (v : Int) (hst : ∀ t ∈ d.tabs, t.name.length ≤ maxLen) : VC Try.prog 42 [.agg ((eDb d).map V.d), .d (.int .i64 v)] (fun _ r => r = .d (pS eFile (verFs d v))) := by
  refine VC.ofL EP s42 (by kernel_rfl) Try.func42 (by rfl) (by kernel_rfl) (by simp [Try.f42]) (by simp [Try.f42]) s42_ok fun B hl => ?_
  obtain ⟨l⟩ := d
  simp [Try.f42, s42_10, s42_10, eDb]
  refine call_f (w_spec_IsValidDatabase ⟨l⟩ hst) (by simp [eDb]) rfl fun hs1 hh1 => ?_
  simp at hh1
  cases h1 : dbOk ⟨l⟩
  · simp [verFs, verB, h1, s42_10, ]
  simp [s42_10, ]
  refine call_f (w_spec_l1In v 1 99) (by simp) rfl fun hs2 hh2 => ?_
  simp at hh2
  cases h2 : inR v 1 99
  · simp [verFs, verB, h1, h2, s42_10, ]
  have hvz : inZ v := by simp only [inR, Bool.and_eq_true, decide_eq_true_eq] at h2; simp only [inZ]; omega
  have hdl := decZ_len hvz
  have hl6 : l.length ≤ 6 := dbOk_len h1
  have hnm : ∀ t ∈ l, t.name.length ≤ 4 := fun t ht => tabOk_name (dbOk_tab h1 ht)
  have hV : verFs ⟨l⟩ v = runs v l ++ [⟨[109] ++ decZ v, headTx l ++ decZ (ckS (headTx l))⟩] := by simp only [verFs, verB, h1, h2]; rfl
  simp [s42_10, ]
  refine loop_rule (X := Nat) (fun i => i ≤ l.length) (fun i => [(2, .ptr 2 0 0), (1, .d (.int .i64 v)), (5, .own 9 0 i), (6, .d (.str (headTx (l.take i)))), (7, .d (.int .i64 i))]) (fun i => [(2, some (.box [.d (.pl (l.map eTab))])), (9, some (.row 59 2 ((runs v (l.take i)).map eFile)))]) (fun i => l.length - i) 0 (by simp) (by simp [headTx]) (by simp [runs]) ?_
  intro i hs t m hi hh
  by_cases hlt : i < l.length
  · have hwi := wr1 (i := i) (by omega)
    have hL : LenOk 32 (i + 1) := ⟨by omega, by simp only [maxLen]; omega⟩
    have hT := List.getElem_mem hlt
    have hn4 := hnm _ hT
    obtain ⟨nm, ar, rows, hTe⟩ : ∃ nm ar rows, l[i] = ⟨nm, ⟨ar, rows⟩⟩ := ⟨_, _, _, rfl⟩
    have hst1 := headTx_step hlt
    have hst2 := runs_step (v := v) hlt
    have hhl := headTx_len (l := l.take i) fun t ht => hnm t (List.mem_of_mem_take ht)
    rw [List.length_take] at hhl
    rw [hTe] at hst1 hst2 hn4
    simp only at hn4
    have hfl := fmtRel_len ⟨ar, rows⟩
    have hck := ckS_in (fmtRel ⟨ar, rows⟩)
    have hckz : inZ (ckS (fmtRel ⟨ar, rows⟩)) := by simp only [inZ]; omega
    have hckl := decZ_len hckz
    simp [hlt, hTe, eTab, eReln, s42_10, ]
    refine call_f (w_spec_FormatRelation ⟨ar, rows⟩) (by simp [eReln]) rfl fun hs3 hh3 => ?_
    simp at hh3
    simp [hlt, hTe, eTab, eReln, s42_10, ]
    refine call_f (w_spec_l32Run v nm hvz (by omega)) (by simp) rfl fun hs4 hh4 => ?_
    simp at hh4
    simp [hlt, hTe, eTab, eReln, hL, show min i l.length = i by omega, s42_10, ]
    refine ⟨by omega, by omega, ?_⟩
    refine call_f (w_spec_ChecksumOf (fmtRel ⟨ar, rows⟩) (by omega)) (by simp) rfl fun hs5 hh5 => ?_
    simp at hh5
    simp [s42_10, ]
    refine call_f (w_spec_FormatInt (ckS (fmtRel ⟨ar, rows⟩)) hckz) (by simp) rfl fun hs6 hh6 => ?_
    simp at hh6
    simp [hwi, s42_10, ]
    refine ⟨by omega, by omega, ?_⟩
    exact back (i + 1) (by omega) (by omega) rfl (by simp <;> omega) (by simp [hst1, headLn]) (by simp [hst2, eFile])
  · have hn : i = l.length := by omega
    subst hn
    have hT := headTx_len hnm
    have hck := ckS_in (headTx l)
    have hckz : inZ (ckS (headTx l)) := by simp only [inZ]; omega
    have hckl := decZ_len hckz
    have hL : LenOk 32 (l.length + 1) := ⟨by omega, by simp only [maxLen]; omega⟩
    simp [List.take_of_length_le, s42_10, ]
    refine call_f (w_spec_l32Head v hvz) (by simp) rfl fun hs3 hh3 => ?_
    simp at hh3
    simp [s42_10, ]
    refine call_f (w_spec_ChecksumOf (headTx l) (by omega)) (by simp) rfl fun hs5 hh5 => ?_
    simp at hh5
    simp [s42_10, ]
    refine call_f (w_spec_FormatInt (ckS (headTx l)) hckz) (by simp) rfl fun hs6 hh6 => ?_
    simp at hh6
    simp [hL, hV, eFile, s42_10, ]
    exact ⟨by omega, List.take_of_length_le (by simp)⟩
end
theorem t_impl_VersionFiles (d : Db) (v : Int) (hd : okDb d) : VC Try.prog 41 [.agg ((cDb d).map V.d), .d (.int .i64 v)]
   (fun n r => ∃ y : Sl File, r = .d (dSl cFile y) ∧ plS plFile y = verFs (plDb d) v ∧ okS okFile y ∧ Good (cS cFile y) (whS whFile y) n) := by
  refine VC.of E s41 (by kernel_rfl) Try.func41 (by rfl) (by kernel_rfl) (by simp [Try.f41]) (by simp [Try.f41]) s41_ok fun B => ?_
  simp [Try.f41, s41_11, s41_11, cDb, cS]
  refine call_f (w_impl_IsValidDatabase (plDb d)) (by simp [eDb, plDb, er_Tab, pS, cP]) rfl fun hs1 hh1 => ?_
  simp at hh1
  cases h1 : dbOk (plDb d)
  · simp [s41_11, ]
    exact ⟨nilS, by simp [nilS, dSl], by simp [verFs, verB, h1, nilS, plS], ok_nilS, good_nilF B⟩
  simp [s41_11, ]
  refine call_f (w_impl_within v 1 99) (by simp) rfl fun hs2 hh2 => ?_
  simp at hh2
  cases h2 : inR v 1 99
  · simp [s41_11, ]
    exact ⟨nilS, by simp [nilS, dSl], by simp [verFs, verB, h1, h2, nilS, plS], ok_nilS, good_nilF B⟩
  have hvz : inZ v := by simp only [inR, Bool.and_eq_true, decide_eq_true_eq] at h2; simp only [inZ]; omega
  have hdl := decZ_len hvz
  obtain ⟨⟨tid, tT, tabs⟩⟩ := d
  obtain ⟨l, hl⟩ : ∃ l, l = tabs.map plTab := ⟨_, rfl⟩
  have hp : plDb ⟨⟨tid, tT, tabs⟩⟩ = ⟨l⟩ := by rw [hl]; rfl
  rw [hp] at h1
  have hll : l.length = tabs.length := by rw [hl]; simp
  have hl6 : l.length ≤ 6 := dbOk_len h1
  have hnm : ∀ t ∈ l, t.name.length ≤ 4 := fun t ht => tabOk_name (dbOk_tab h1 ht)
  have hV : verFs ⟨l⟩ v = runs v l ++ [⟨[109] ++ decZ v, headTx l ++ decZ (ckS (headTx l))⟩] := by simp only [verFs, verB, h1, h2]; rfl
  rw [hp]
  simp [dSl, s41_11, ]
  refine call_f (w_impl_FormatInt v hvz) (by simp) rfl fun hs3 hh3 => ?_
  simp at hh3
  simp [dSl, s41_11, ]
  refine loop_ruleL (X := Nat) (fun i _ => i ≤ tabs.length) (fun i => [(2, .ptr 2 0 0), (5, .own 41 0 i), (6, .d (.str (headTx (l.take i)))), (7, .d (.str (decZ v))), (22, .d (.sl tid tT (tabs.map cTab))), (23, .d (.int .i64 tabs.length)), (24, .d (.int .i64 i))])
    (fun i => [(2, some (.box [.d (.sl tid tT (tabs.map cTab))])), (41, some (.row 59 2 ((runs v (l.take i)).map eFile)))]) (fun i => tabs.length - i) ?_ ?_
  · refine (lead_slot 5 41 59 2 (by omega) (by omega) (by simp)).bind ?_
    rintro _ rfl
    exact Lead.of ⟨0, by omega, rfl, rfl, Nat.le_refl _, by simp [headTx], by simp [runs]⟩
  intro i hs t m hi hh
  by_cases hlt : i < tabs.length
  · have hlt' : i < l.length := by omega
    have hwi := wr1 (i := i) (by omega)
    have hL : LenOk 32 (i + 1) := ⟨by omega, by simp only [maxLen]; omega⟩
    have hT := List.getElem_mem hlt'
    have hn4 := hnm _ hT
    have hTe : l[i] = ⟨tabs[i].name, plReln tabs[i].rel⟩ := by simp [hl, plTab, plStr]
    have hst1 := headTx_step hlt'
    have hst2 := runs_step (v := v) hlt'
    have hhl := headTx_len (l := l.take i) fun t ht => hnm t (List.mem_of_mem_take ht)
    rw [List.length_take] at hhl
    rw [hTe] at hst1 hst2 hn4
    simp only at hn4
    obtain ⟨nm, hnme⟩ : ∃ nm, nm = tabs[i].name := ⟨_, rfl⟩
    obtain ⟨r, hre⟩ : ∃ r, r = tabs[i].rel := ⟨_, rfl⟩
    rw [← hnme] at hst1 hst2 hn4
    rw [← hre] at hst1 hst2
    have hTc : cTab tabs[i] = cStr nm ++ cReln r := by rw [hnme, hre]; rfl
    have hfl := fmtRel_len (plReln r)
    have hck := ckS_in (fmtRel (plReln r))
    have hckz : inZ (ckS (fmtRel (plReln r))) := by simp only [inZ]; omega
    have hckl := decZ_len hckz
    have hmn : min i l.length = i := by omega
    simp [hlt, hTc, cStr, cReln, cS, cI, s41_11, ]
    refine call_f (w_impl_FormatRelation (plReln r)) (by simp [eReln, plReln, er_SI, pS, cP, cI, plI]) rfl fun hs3 hh3 => ?_
    simp at hh3
    simp [hlt, cStr, cReln, cS, cI, hL, hmn, s41_11, ]
    refine ⟨by omega, by omega, by omega, by omega, ?_⟩
    refine call_f (w_impl_ChecksumOf (fmtRel (plReln r)) (by omega)) (by simp) rfl fun hs5 hh5 => ?_
    simp at hh5
    simp [s41_11, ]
    refine call_f (w_impl_FormatInt (ckS (fmtRel (plReln r))) hckz) (by simp) rfl fun hs6 hh6 => ?_
    simp at hh6
    simp [hwi, s41_11, ]
    refine ⟨by omega, by omega, by omega, ?_⟩
    exact back2 (i + 1) (by omega) (by omega) rfl (by simp <;> omega) (by simp [hst1, headLn, runNm]) (by simp [hst2, eFile, runNm, cStr])
  · have hn : i = tabs.length := by omega
    have htl : l.take i = l := List.take_of_length_le (by omega)
    have hT := headTx_len hnm
    have hck := ckS_in (headTx l)
    have hckz : inZ (ckS (headTx l)) := by simp only [inZ]; omega
    have hckl := decZ_len hckz
    have hL : LenOk 32 (l.length + 1) := ⟨by omega, by simp only [maxLen]; omega⟩
    subst hn
    rw [htl]
    rw [← hll]
    simp [s41_11, ]
    refine ⟨by omega, ?_⟩
    refine call_f (w_impl_ChecksumOf (headTx l) (by omega)) (by simp) rfl fun hs5 hh5 => ?_
    simp at hh5
    simp [s41_11, ]
    refine call_f (w_impl_FormatInt (ckS (headTx l)) hckz) (by simp) rfl fun hs6 hh6 => ?_
    simp at hh6
    simp [hL, s41_11, ]
    refine ⟨by omega, ?_⟩
    intro γ hs' h2' hg
    obtain ⟨fs, hfs⟩ : ∃ fs : List File, fs = (verFs ⟨l⟩ v).map toF := ⟨_, rfl⟩
    have hfe : fs.map cFile = (runs v l).map eFile ++ [[.str (109 :: decZ v), .str (headTx l ++ decZ (ckS (headTx l)))]] := by
      rw [hfs, hV, List.map_map]
      have : (cFile ∘ toF) = eFile := by funext p; rfl
      rw [this]; simp [eFile, cStr]
    have hfl : fs.length = l.length + 1 := by rw [hfs, hV]; simp
    obtain ⟨q1, q2⟩ := gam_at hg (k := 41) (T := 59) (sz := 2) (es := fs.map cFile) (by simp [hfe])
    have r1 := gam_row hg (k := 41) (T := 59) (sz := 2) (es := fs.map cFile) (by simp [hfe])
    clear hg
    have hok : ∀ f ∈ fs, okFile f := fun f hf => by
      rw [hfs, hV, List.map_append, List.mem_append] at hf
      rcases hf with hf | hf
      · simp only [runs, List.map_map, List.mem_map] at hf
        obtain ⟨t, ht, rfl⟩ := hf
        have h4 := hnm t ht
        have h5 := fmtRel_len t.rel
        refine ⟨?_, ?_⟩
        · show (runNm v t.name).length ≤ maxLen
          simp only [runNm, maxLen, List.length_append, List.length_singleton]; omega
        · show (fmtRel t.rel).length ≤ maxLen
          simp only [maxLen]; omega
      · simp only [List.map_cons, List.map_nil, List.mem_singleton] at hf
        subst hf
        refine ⟨?_, ?_⟩
        · show ([109] ++ decZ v).length ≤ maxLen
          simp only [maxLen, List.length_append, List.length_singleton]; omega
        · show (headTx l ++ decZ (ckS (headTx l))).length ≤ maxLen
          simp only [maxLen, List.length_append]; omega
    have hids : ∀ fs : List File, idsLL (fs.map cFile) = [] := fun fs => by
      induction fs with
      | nil => simp [idsLL]
      | cons a r ih => simp only [List.map_cons, idsLL, ih]; simp [cFile, cStr, idsL, D.ids]
    have hp0 : hpLL (List.map eFile (runs v l)) = false := hpLL_map (fun a => by simp [eFile, cStr]) _
    simp [hp0, List.take_of_length_le]
    refine ⟨⟨γ 41, some (59, 2), fs⟩, ?_, ?_, ⟨by simp only [maxLen]; show fs.length ≤ _; omega, hok⟩, good_row (fun g hg => (q1 g hg).1) (by simpa using q2) r1 ⟨by rw [hids]; simp, by rw [hids]; simp⟩ (fun a _ => by simp [whFile, whStr])⟩
    · simp [dSl, hfe, List.take_of_length_le]
    · have : plS plFile (⟨γ 41, some (59, 2), fs⟩ : Sl File) = fs.map plFile := rfl
      rw [this, hfs, List.map_map]
      have : (plFile ∘ toF) = id := by funext p; rfl
      rw [this, List.map_id]

end Go.Proofs.Ytlmnjomekklnkaa

namespace Go.Proofs.Ytlmnjomekklnkaa
open Go.Vs Go.Proofs Go
set_option maxRecDepth 100000
set_option maxHeartbeats 1000000

section
attribute [local simp] plI_id plStr_id map_plI map_plStr pS cP cI cStr cU8 cB eDisk eFile eTab eReln eDb
theorem w_spec_ReadFile (k : List PFile) (nm : List UInt8) : VC Try.prog 39 [.agg ((eDisk ⟨k⟩).map V.d), .d (.str nm)] (fun _ r => r = .tup [.d (.str (rdD k nm)), .d (.bool (rdB k nm))]) := by
  refine VC.ofL EP s39 (by kernel_rfl) Try.func39 (by rfl) (by kernel_rfl) (by simp [Try.f39]) (by simp [Try.f39]) s39_ok fun B hl => ?_
  simp [maxLen] at hl
  simp [Try.f39, ]
  refine loop_rule (X := Nat) (RdI k nm) (fun i => [(1, .d (.str nm)), (2, .ptr 2 0 0), (6, .d (.int .i64 i))]) (fun i => [(2, some (.box [.d (.pl (k.map eFile))]))]) (fun i => k.length - i) 0 .zero (by simp) (by simp) ?_
  intro i hs t m hI hh
  have hle := hI.le
  by_cases hlt : i < k.length
  · have hwi := wr1 (i := i) (by omega)
    obtain ⟨fn, fd, hf⟩ : ∃ fn fd, k[i] = ⟨fn, fd⟩ := ⟨_, _, rfl⟩
    by_cases e : fn = nm
    · have h := hI.hit hlt (by rw [hf]; exact e)
      rw [hf] at h
      simp [hlt, hf, e, rdD, rdB, h, ]
    · have h := hI.miss hlt (by rw [hf]; exact e)
      simp [hlt, hf, e, hwi, ]
      exact back (i + 1) h (by omega) rfl (by simp <;> omega) (by simp) (by simp)
  · have h := hI.done (by omega)
    simp [hlt, rdD, rdB, h, ]
theorem w_impl_ReadFile (k : List PFile) (nm : List UInt8) : VC Try.prog 36 [.agg ((eDisk ⟨k⟩).map V.d), .d (.str nm)] (fun _ r => r = .tup [.d (.str (rdD k nm)), .d (.bool (rdB k nm))]) := by
  refine VC.ofL EP s36 (by kernel_rfl) Try.func36 (by rfl) (by kernel_rfl) (by simp [Try.f36]) (by simp [Try.f36]) s36_ok fun B hl => ?_
  simp [maxLen] at hl
  simp [Try.f36, ]
  refine loop_rule (X := Nat) (RdI k nm) (fun i => [(1, .d (.str nm)), (9, .d (.pl (k.map eFile))), (10, .d (.int .i64 k.length)), (11, .d (.int .i64 i))]) (fun i => []) (fun i => k.length - i) 0 .zero (by simp) (by simp) ?_
  intro i hs t m hI hh
  have hle := hI.le
  by_cases hlt : i < k.length
  · have hwi := wr1 (i := i) (by omega)
    obtain ⟨fn, fd, hf⟩ : ∃ fn fd, k[i] = ⟨fn, fd⟩ := ⟨_, _, rfl⟩
    by_cases e : fn = nm
    · have h := hI.hit hlt (by rw [hf]; exact e)
      rw [hf] at h
      simp [hlt, hf, e, rdD, rdB, h, ]
    · have h := hI.miss hlt (by rw [hf]; exact e)
      simp [hlt, hf, e, hwi, ]
      exact back (i + 1) h (by omega) rfl (by simp <;> omega) (by simp) (by simp)
  · have h := hI.done (by omega)
    simp [hlt, rdD, rdB, h, ]
theorem w_spec_IsValidDisk (k : List PFile) : VC Try.prog 37 [.agg ((eDisk ⟨k⟩).map V.d)] (fun _ r => r = .d (.bool (dskOk k))) := by
  refine VC.ofL EP s37 (by kernel_rfl) Try.func37 (by rfl) (by kernel_rfl) (by simp [Try.f37]) (by simp [Try.f37]) s37_ok fun B hl => ?_
  simp [maxLen] at hl
  simp [Try.f37, s37_4, s37_4, ]
  refine loop_rule (X := Nat) (DskI k) (fun i => [(1, .ptr 1 0 0), (3, .d (.int .i64 i))]) (fun i => [(1, some (.box [.d (.pl (k.map eFile))]))]) (fun i => k.length - i) 1 .one (by simp) (by simp) ?_
  intro i hs t m hI hh
  have hlo := hI.lo
  by_cases hlt : i < k.length
  · have hwi := wr1 (i := i) (by omega)
    have hwm : IntKind.i64.wrap ((i : Int) - 1) = ((i - 1 : Nat) : Int) := by rw [wrap64_of (by omega) (by omega)]; omega
    have him : i - 1 < k.length := by omega
    have hat := dskAt_eq hlo hlt
    obtain ⟨fn, fd, hf⟩ : ∃ fn fd, k[i] = ⟨fn, fd⟩ := ⟨_, _, rfl⟩
    obtain ⟨gn, gd, hg⟩ : ∃ gn gd, k[i - 1] = ⟨gn, gd⟩ := ⟨_, _, rfl⟩
    rw [hf, hg] at hat
    simp only at hat
    cases e : Op.bytesLess gn fn
    · have hb := dskOk_bad hlt (by rw [hat, e])
      simp [hlt, him, hwm, hf, hg, e, hb, s37_4, ]
    · have h := hI.step (by rw [hat, e])
      simp [hlt, him, hwm, hf, hg, e, hwi, s37_4, ]
      exact back (i + 1) h (by omega) rfl (by simp <;> omega) (by simp) (by simp)
  · have h := hI.done (by omega)
    simp [hlt, h, s37_4, ]
theorem w_impl_IsValidDisk (k : List PFile) : VC Try.prog 38 [.agg ((eDisk ⟨k⟩).map V.d)] (fun _ r => r = .d (.bool (dskOk k))) := by
  refine VC.ofL EP s38 (by kernel_rfl) Try.func38 (by rfl) (by kernel_rfl) (by simp [Try.f38]) (by simp [Try.f38]) s38_ok fun B hl => ?_
  simp [maxLen] at hl
  simp [Try.f38, s38_4, s38_4, ]
  refine loop_rule (X := Nat) (DskI k) (fun i => [(1, .ptr 1 0 0), (3, .d (.int .i64 i))]) (fun i => [(1, some (.box [.d (.pl (k.map eFile))]))]) (fun i => k.length - i) 1 .one (by simp) (by simp) ?_
  intro i hs t m hI hh
  have hlo := hI.lo
  by_cases hlt : i < k.length
  · have hwi := wr1 (i := i) (by omega)
    have hwm : IntKind.i64.wrap ((i : Int) - 1) = ((i - 1 : Nat) : Int) := by rw [wrap64_of (by omega) (by omega)]; omega
    have him : i - 1 < k.length := by omega
    have hat := dskAt_eq hlo hlt
    obtain ⟨fn, fd, hf⟩ : ∃ fn fd, k[i] = ⟨fn, fd⟩ := ⟨_, _, rfl⟩
    obtain ⟨gn, gd, hg⟩ : ∃ gn gd, k[i - 1] = ⟨gn, gd⟩ := ⟨_, _, rfl⟩
    rw [hf, hg] at hat
    simp only at hat
    cases e : Op.bytesLess gn fn
    · have hb := dskOk_bad hlt (by rw [hat, e])
      simp [hlt, him, hwm, hf, hg, e, hb, s38_4, ]
    · have h := hI.step (by rw [hat, e])
      simp [hlt, him, hwm, hf, hg, e, hwi, s38_4, ]
      exact back (i + 1) h (by omega) rfl (by simp <;> omega) (by simp) (by simp)
  · have h := hI.done (by omega)
    simp [hlt, h, s38_4, ]
theorem w_spec_WriteFile (k : List PFile) (nm data : List UInt8) (hb : k.length ≤ 4294967296) : VC Try.prog 96 [.agg ((eDisk ⟨k⟩).map V.d), .d (.str nm), .d (.str data)] (fun _ r => r = .agg ((eDisk ⟨wrF k ⟨nm, data⟩⟩).map V.d)) := by
  refine VC.ofL EP s96 (by kernel_rfl) Try.func96 (by rfl) (by kernel_rfl) (by simp [Try.f96]) (by simp [Try.f96]) s96_ok fun B hl => ?_
  simp [Try.f96, ]
  refine loop_ruleL (X := Nat × Bool × List PFile) (fun p _ => WrI k ⟨nm, data⟩ p) (fun p => [(1, .d (.str nm)), (2, .d (.str data)), (3, .ptr 3 0 0), (6, .ptr 6 0 0), (7, .ptr 7 0 0), (8, .d (.bool p.2.1)), (9, .d (.int .i64 p.1))]) (fun p => [(3, some (.box [.d (.pl (k.map eFile))])), (6, some (.box [.d (.sl none none [])])), (7, some (.box [.own 900 0 p.2.2.length])), (900, some (.row 59 2 (p.2.2.map eFile)))]) (fun p => k.length - p.1) ?_ ?_
  · refine (lead_box 7 0 900 59 2 [.d (.sl none none [])] (by omega) (by omega) (by omega) (by simp) rfl).bind ?_
    rintro _ rfl
    exact Lead.of ⟨(0, false, []), .zero, rfl, rfl, Nat.le_refl _, by simp, by simp⟩
  rintro ⟨i, b, out⟩ hs t m hI hh
  have hle := hI.le
  have hol := hI.len
  simp only at hle hol
  have hol2 : out.length ≤ i + 1 := by cases b <;> simp at hol <;> omega
  by_cases hlt : i < k.length
  · have hwi := wr1 (i := i) (by omega)
    have hstp := hI.step hlt
    have hL1 : LenOk 32 (out.length + 1) := ⟨by omega, by simp only [maxLen]; omega⟩
    have hL2 : LenOk 32 (out.length + 1 + 1) := ⟨by omega, by simp only [maxLen]; omega⟩
    obtain ⟨fn, fd, hf⟩ : ∃ fn fd, k[i] = ⟨fn, fd⟩ := ⟨_, _, rfl⟩
    rw [hf] at hstp
    simp only at hstp
    refine anyQ2 fun Q => ?_
    cases b <;> cases e : Op.bytesLess fn nm <;> by_cases e2 : fn = nm <;> (try rw [e2] at hf e hstp) <;> simp only [e, e2, if_true, if_false, Bool.not_true, Bool.not_false, Bool.and_true, Bool.and_false, Bool.true_and, Bool.false_and, Bool.or_true, Bool.or_false, Bool.true_or, Bool.false_or, List.nil_append, List.append_nil, reduceCtorEq, List.append_assoc, List.cons_append] at hstp
    all_goals
      simp [hlt, hf, e, e2, hwi, hL1, hL2, List.take_of_length_le, ]
      first
      | exact back2 (_, _, _) hstp (by simp only; omega) rfl (by simp <;> omega) (by simp) (by simp [List.take_of_length_le])
      | trace_state
  · have hd := hI.done (by omega)
    have hL1 : LenOk 32 (out.length + 1) := ⟨by omega, by simp only [maxLen]; omega⟩
    cases b
    · simp [hlt, hd, hL1, List.take_of_length_le, ]
    · simp [hlt, hd, List.take_of_length_le, ]
theorem w_spec_l32Without (k : List PFile) (nm : List UInt8) (hb : k.length ≤ 4294967296) : VC Try.prog 95 [.agg ((eDisk ⟨k⟩).map V.d), .d (.str nm)] (fun _ r => r = .agg ((eDisk ⟨wout k nm⟩).map V.d)) := by
  refine VC.ofL EP s95 (by kernel_rfl) Try.func95 (by rfl) (by kernel_rfl) (by simp [Try.f95]) (by simp [Try.f95]) s95_ok fun B hl => ?_
  simp [Try.f95, s95_6, s95_6, ]
  refine loop_ruleL (X := Nat) (fun i _ => i ≤ k.length) (fun i => [(1, .d (.str nm)), (2, .ptr 2 0 0), (4, .ptr 4 0 0), (5, .ptr 5 0 0), (6, .d (.int .i64 i))]) (fun i => [(2, some (.box [.d (.pl (k.map eFile))])), (4, some (.box [.d (.sl none none [])])), (5, some (.box [.own 900 0 (wout (k.take i) nm).length])), (900, some (.row 59 2 ((wout (k.take i) nm).map eFile)))]) (fun i => k.length - i) ?_ ?_
  · refine (lead_box 5 0 900 59 2 [.d (.sl none none [])] (by omega) (by omega) (by omega) (by simp) rfl).bind ?_
    rintro _ rfl
    exact Lead.of ⟨0, by omega, rfl, rfl, Nat.le_refl _, by simp, by simp [wout]⟩
  intro i hs t m hi hh
  by_cases hlt : i < k.length
  · have hwi := wr1 (i := i) (by omega)
    have hol := wout_len (k.take i) nm
    rw [List.length_take] at hol
    have hstp := wout_step (nm := nm) hlt
    obtain ⟨out, ho⟩ : ∃ out, out = wout (k.take i) nm := ⟨_, rfl⟩
    rw [← ho] at hstp hol ⊢
    have hL1 : LenOk 32 (out.length + 1) := ⟨by omega, by simp only [maxLen]; omega⟩
    obtain ⟨fn, fd, hf⟩ : ∃ fn fd, k[i] = ⟨fn, fd⟩ := ⟨_, _, rfl⟩
    rw [hf] at hstp
    simp only at hstp
    by_cases e : fn = nm
    · rw [if_pos e, List.append_nil] at hstp
      simp [hlt, hf, e, hwi, s95_6, ]
      exact back2 (i + 1) (by omega) (by omega) rfl (by simp <;> omega) (by simp) (by simp [hstp])
    · rw [if_neg e] at hstp
      simp [hlt, hf, e, hwi, hL1, List.take_of_length_le, s95_6, ]
      exact back2 (i + 1) (by omega) (by omega) rfl (by simp <;> omega) (by simp) (by simp [hstp, List.take_of_length_le])
  · have hn : i = k.length := by omega
    subst hn
    simp [hlt, List.take_of_length_le, s95_6, ]
end

end Go.Proofs.Ytlmnjomekklnkaa

namespace Go.Proofs.Ytlmnjomekklnkaa
open Go.Vs Go.Proofs Go
set_option maxRecDepth 100000
set_option maxHeartbeats 1000000

section
attribute [local simp] plI_id plStr_id map_plI map_plStr pS cP eDisk
theorem e_impl_copyDisk (k : List PFile) (hk : ∀ f ∈ k, fOk f) (hb : k.length ≤ 1000000000) : VC Try.prog 98 [.agg ((eDisk ⟨k⟩).map V.d)] (fun n v => ∃ y : Disk, v = .agg ((cDisk y).map V.d) ∧ plDisk y = ⟨k⟩ ∧ okDisk y ∧ Good (cDisk y) (whDisk y) n) := by
  refine VC.of E s98 (by kernel_rfl) Try.func98 (by rfl) (by kernel_rfl) (by simp [Try.f98]) (by simp [Try.f98]) s98_ok fun B => ?_
  have hL : LenOk 32 k.length := ⟨by omega, by simp only [maxLen]; omega⟩
  simp [Try.f98, hL]
  refine ⟨fun a _ => by simp [eFile, cStr], ?_⟩
  intro γ hs' h1 hg
  obtain ⟨q1, q2⟩ := gam_at hg (k := 3) (T := 59) (sz := 2) (es := (k).map eFile) (by simp [List.take_of_length_le, eFile, cStr])
  clear hg
  have hp := hp_files (k)
  simp [hp, List.take_of_length_le]
  exact ⟨dskT (γ 3) (59) (k), by simp [dskT_cells, List.take_of_length_le, eFile, cStr], by rw [pl_dskT], ok_dskT (hk) (by omega), good_dskT (fun g hg => (q1 g hg).1) q2⟩
theorem e_impl_removed (k : List PFile) (nm : List UInt8) (hk : ∀ f ∈ k, fOk f) (hb : k.length ≤ 1000000000) : VC Try.prog 99 [.agg ((eDisk ⟨k⟩).map V.d), .d (.str nm)] (fun n v => ∃ y : Disk, v = .agg ((cDisk y).map V.d) ∧ plDisk y = ⟨wout k nm⟩ ∧ okDisk y ∧ Good (cDisk y) (whDisk y) n) := by
  refine VC.of E s99 (by kernel_rfl) Try.func99 (by rfl) (by kernel_rfl) (by simp [Try.f99]) (by simp [Try.f99]) s99_ok fun B => ?_
  simp [Try.f99, ]
  refine loop_ruleL (X := Nat) (fun i _ => i ≤ k.length) (fun i => [(1, .d (.str nm)), (4, .ptr 4 0 0), (5, .ptr 5 0 0), (9, .d (.pl (k.map eFile))), (10, .d (.int .i64 k.length)), (11, .d (.int .i64 i))]) (fun i => [(4, some (.box [.d (.sl none none [])])), (5, some (.box [.own 900 0 (wout (k.take i) nm).length])), (900, some (.row 59 2 ((wout (k.take i) nm).map eFile)))]) (fun i => k.length - i) ?_ ?_
  · refine (lead_box 5 0 900 59 2 [.d (.sl none none [])] (by omega) (by omega) (by omega) (by simp) rfl).bind ?_
    rintro _ rfl
    exact Lead.of ⟨0, by omega, rfl, rfl, Nat.le_refl _, by simp, by simp [wout]⟩
  intro i hs t m hi hh
  by_cases hlt : i < k.length
  · have hwi := wr1 (i := i) (by omega)
    have hol := wout_len (k.take i) nm
    rw [List.length_take] at hol
    have hstp := wout_step (nm := nm) hlt
    obtain ⟨out, ho⟩ : ∃ out, out = wout (k.take i) nm := ⟨_, rfl⟩
    rw [← ho] at hstp hol ⊢
    have hL1 : LenOk 32 (out.length + 1) := ⟨by omega, by simp only [maxLen]; omega⟩
    obtain ⟨fn, fd, hf⟩ : ∃ fn fd, k[i] = ⟨fn, fd⟩ := ⟨_, _, rfl⟩
    rw [hf] at hstp
    simp only at hstp
    by_cases e : fn = nm
    · rw [if_pos e, List.append_nil] at hstp
      simp [hlt, hf, eFile, cStr, e, hwi, ]
      exact back2 (i + 1) (by omega) (by omega) rfl (by simp <;> omega) (by simp [eFile, cStr]) (by simp [hstp])
    · rw [if_neg e] at hstp
      simp [hlt, hf, eFile, cStr, e, hwi, hL1, List.take_of_length_le, ]
      exact back2 (i + 1) (by omega) (by omega) rfl (by simp <;> omega) (by simp [eFile, cStr]) (by simp [hstp, eFile, cStr, List.take_of_length_le])
  · have hn : i = k.length := by omega
    subst hn
    have hwl := wout_len k nm
    simp [hlt, List.take_of_length_le, ]
    intro γ hs' h1 hg
    obtain ⟨q1, q2⟩ := gam_at hg (k := 900) (T := 59) (sz := 2) (es := (wout k nm).map eFile) (by simp [List.take_of_length_le, eFile, cStr])
    clear hg
    have hp := hp_files (wout k nm)
    simp [hp, List.take_of_length_le]
    exact ⟨dskT (γ 900) (59) (wout k nm), by simp [dskT_cells, List.take_of_length_le, eFile, cStr], by rw [pl_dskT], ok_dskT (wout_ok hk) (by omega), good_dskT (fun g hg => (q1 g hg).1) q2⟩
theorem e_impl_WriteFile (k : List PFile) (nm data : List UInt8) (hk : ∀ f ∈ k, fOk f) (hn : fOk ⟨nm, data⟩) (hb : k.length ≤ 4294967296) : VC Try.prog 35 [.agg ((eDisk ⟨k⟩).map V.d), .d (.str nm), .d (.str data)] (fun n v => ∃ y : Disk, v = .agg ((cDisk y).map V.d) ∧ plDisk y = ⟨wrF k ⟨nm, data⟩⟩ ∧ okDisk y ∧ Good (cDisk y) (whDisk y) n) := by
  refine VC.of E s35 (by kernel_rfl) Try.func35 (by rfl) (by kernel_rfl) (by simp [Try.f35]) (by simp [Try.f35]) s35_ok fun B => ?_
  simp [Try.f35, ]
  refine loop_ruleL (X := Nat × Bool × List PFile) (fun p _ => WrI k ⟨nm, data⟩ p) (fun p => [(1, .d (.str nm)), (2, .d (.str data)), (6, .ptr 6 0 0), (7, .ptr 7 0 0), (8, .d (.bool p.2.1)), (12, .d (.pl (k.map eFile))), (13, .d (.int .i64 k.length)), (14, .d (.int .i64 p.1))]) (fun p => [(6, some (.box [.d (.sl none none [])])), (7, some (.box [.own 900 0 p.2.2.length])), (900, some (.row 59 2 (p.2.2.map eFile)))]) (fun p => k.length - p.1) ?_ ?_
  · refine (lead_box 7 0 900 59 2 [.d (.sl none none [])] (by omega) (by omega) (by omega) (by simp) rfl).bind ?_
    rintro _ rfl
    exact Lead.of ⟨(0, false, []), .zero, rfl, rfl, Nat.le_refl _, by simp, by simp⟩
  rintro ⟨i, b, out⟩ hs t m hI hh
  have hle := hI.le
  have hol := hI.len
  simp only at hle hol
  have hol2 : out.length ≤ i + 1 := by cases b <;> simp at hol <;> omega
  by_cases hlt : i < k.length
  · have hwi := wr1 (i := i) (by omega)
    have hstp := hI.step hlt
    have hL1 : LenOk 32 (out.length + 1) := ⟨by omega, by simp only [maxLen]; omega⟩
    have hL2 : LenOk 32 (out.length + 1 + 1) := ⟨by omega, by simp only [maxLen]; omega⟩
    obtain ⟨fn, fd, hf⟩ : ∃ fn fd, k[i] = ⟨fn, fd⟩ := ⟨_, _, rfl⟩
    rw [hf] at hstp
    simp only at hstp
    refine anyQ2 fun Q => ?_
    cases b <;> cases e : Op.bytesLess fn nm <;> by_cases e2 : fn = nm <;> (try rw [e2] at hf e hstp) <;> simp only [e, e2, if_true, if_false, Bool.not_true, Bool.not_false, Bool.and_true, Bool.and_false, Bool.true_and, Bool.false_and, Bool.or_true, Bool.or_false, Bool.true_or, Bool.false_or, List.nil_append, List.append_nil, reduceCtorEq, List.append_assoc, List.cons_append] at hstp
    all_goals
      simp [hlt, hf, eFile, cStr, e, e2, hwi, hL1, hL2, List.take_of_length_le, ]
      exact back2 (_, _, _) hstp (by simp only; omega) rfl (by simp <;> omega) (by simp [eFile, cStr]) (by simp [eFile, cStr, List.take_of_length_le])
  · have hd := hI.done (by omega)
    have hwl := wrF_len k ⟨nm, data⟩
    have hL1 : LenOk 32 (out.length + 1) := ⟨by omega, by simp only [maxLen]; omega⟩
    have hwok := wrF_ok hk hn
    cases b
    · simp only [Bool.false_eq_true, if_false] at hd
      simp [hlt, hL1, List.take_of_length_le, ]
      rw [hd] at hwl hwok ⊢
      intro γ hs' h1 hg
      obtain ⟨q1, q2⟩ := gam_at hg (k := 900) (T := 59) (sz := 2) (es := (out ++ [(⟨nm, data⟩ : PFile)]).map eFile) (by simp [List.take_of_length_le, eFile, cStr])
      clear hg
      have hp := hp_files (out ++ [(⟨nm, data⟩ : PFile)])
      replace hp := hp_files out
      simp [hp, List.take_of_length_le]
      exact ⟨dskT (γ 900) (59) (out ++ [(⟨nm, data⟩ : PFile)]), by simp [dskT_cells, List.take_of_length_le, eFile, cStr], by rw [pl_dskT], ok_dskT (hwok) (by omega), good_dskT (fun g hg => (q1 g hg).1) q2⟩
    · simp only [if_true, List.append_nil] at hd
      simp [hlt, List.take_of_length_le, ]
      rw [hd] at hwl hwok ⊢
      intro γ hs' h1 hg
      obtain ⟨q1, q2⟩ := gam_at hg (k := 900) (T := 59) (sz := 2) (es := (out).map eFile) (by simp [List.take_of_length_le, eFile, cStr])
      clear hg
      have hp := hp_files (out)
      simp [hp, List.take_of_length_le]
      exact ⟨dskT (γ 900) (59) (out), by simp [dskT_cells, List.take_of_length_le, eFile, cStr], by rw [pl_dskT], ok_dskT (hwok) (by omega), good_dskT (fun g hg => (q1 g hg).1) q2⟩
end

end Go.Proofs.Ytlmnjomekklnkaa

namespace Go.Proofs.Ytlmnjomekklnkaa
open Go.Vs Go.Proofs Go
set_option maxRecDepth 100000
set_option maxHeartbeats 1000000

theorem w_spec_l5Sort : ∀ (n : Nat) (l : List (List Int)), l.length ≤ n → l.length ≤ 4294967296 → VC Try.prog 196 [.d (pS (cP cI) l)] (fun _ r => r = .d (pS (cP cI) (srtU l))) := by
  intro n
  induction n with
  | zero =>
    intro l hn hb
    have : l = [] := List.length_eq_zero_iff.1 (by omega)
    subst this
    refine VC.ofL EP s196 (by kernel_rfl) Try.func196 (by rfl) (by kernel_rfl) (by simp [Try.f196]) (by simp [Try.f196]) s196_ok fun B hl => ?_
    simp [Try.f196, s196_13, srtU]
  | succ n ih =>
  intro l hn hb
  refine VC.ofL EP s196 (by kernel_rfl) Try.func196 (by rfl) (by kernel_rfl) (by simp [Try.f196]) (by simp [Try.f196]) s196_ok fun B hl => ?_
  by_cases h2 : l.length < 2
  · have e : srtU l = l := srtU_id (by
      match l, h2 with
      | [], _ => exact .nil
      | [_], _ => simp
      | _ :: _ :: _, h => simp only [List.length_cons] at h; omega)
    simp [Try.f196, s196_13, show ((l.length : Int) < 2) by omega, e]
  obtain ⟨k, hk⟩ : ∃ k, k = l.length / 2 := ⟨_, rfl⟩
  have hm : IntKind.i64.wrap ((l.length : Int) / 2) = (k : Int) := by rw [wrap64_of (by omega) (by omega)]; omega
  simp [Try.f196, s196_13, show ¬ ((l.length : Int) < 2) by omega, hm, show k ≤ l.length by omega]
  refine call_p (ih (l.take k) (by simp; omega) (by simp; omega)) (by simp [List.map_take]) fun hs1 hh1 _ => ?_
  simp at hh1
  simp [hm, show k ≤ l.length by omega, List.take_of_length_le]
  refine call_p (ih (l.drop k) (by simp; omega) (by simp; omega)) (by simp [List.map_drop]) fun hs2 hh2 _ => ?_
  simp at hh2
  simp
  have hst := MI.start l k
  generalize srtU (l.take k) = a0 at hst
  generalize srtU (l.drop k) = b0 at hst
  refine loop_rule (X := List (List Int) × List (List Int) × List (List Int)) (fun p => MI l p.1 p.2.1 p.2.2)
    (fun p => [(4, .d (.pl (p.1.map (cP cI)))), (5, .d (.pl (p.2.1.map (cP cI)))), (6, .own 24 0 p.2.2.length)]) (fun p => [(24, some (.row 95 1 (p.2.2.map (cP cI))))]) (fun p => p.1.length + p.2.1.length) (a0, b0, []) hst (by simp) (by simp) ?_
  rintro ⟨a, b, out⟩ hs t m hI hh
  simp only at hI
  have hlen := hI.len
  have hL24 : LenOk 24 1 := ⟨by omega, by simp only [maxLen]; omega⟩
  have hpa : ∀ a : List (List Int), (0 : Int) < (a.length : Int) + 1 := fun a => by omega
  have hpb : ∀ a : List (List Int), ¬ (a.length : Int) + 1 = 0 := fun a => by omega
  have hqa : (0 : Int) < 1 := by omega
  have hqb : ¬ (0 : Int) < -1 := by omega
  rcases a with _ | ⟨x, a⟩
  · rcases b with _ | ⟨y, b⟩
    · have hd := hI.done
      subst hd
      simp [List.take_of_length_le]
    · refine anyQ fun Q => ?_
      have hc0 : True := trivial
      have hI' := hI.swap
      have hL := hI'.left (by simp)
      rcases nil_or_snoc out with rfl | ⟨o, z, rfl⟩
      · simp [hc0, hpa, hpb, hqa, hqb, List.take_of_length_le, cP, hL24, s196_13, ]
        exact back ([], b, [y]) (MI.swap (hL.2 (by simp))) (by simp <;> omega) rfl (by simp <;> omega) (by simp) (by simp)
      · simp only [List.length_append, List.length_cons, List.length_nil] at hlen
        have hw : IntKind.i64.wrap (o.length : Int) = o.length := wrap64_of (by omega) (by omega)
        have hix : (o.map (cP cI) ++ [[D.pl (z.map cI)]])[o.length]? = some [D.pl (z.map cI)] := by rw [List.getElem?_append_right (by simp)]; simp
        simp [hc0, hpa, hpb, hqa, hqb, List.take_of_length_le, hw, hix, cP, s196_13, ]
        refine call_f (w_spec_CompareRows z y) (by simp) rfl fun hs3 hh3 => ?_
        simp at hh3
        by_cases e : z = y
        · subst e
          simp [cmpL_self]
          exact back ([], b, o ++ [z]) (MI.swap (hL.1 (hI'.last.2 rfl))) (by simp <;> omega) rfl (by simp <;> omega) (by simp) (by simp)
        · have e' : ¬ cmpL z y = 0 := fun h => e ((cmpL_zero _ _).1 h)
          simp [e', show LenOk 24 (o.length + 1 + 1) from ⟨by omega, by simp only [maxLen]; omega⟩, cP]
          exact back ([], b, o ++ [z] ++ [y]) (MI.swap (hL.2 fun h => e (hI'.last.1 h))) (by simp <;> omega) rfl (by simp <;> omega) (by simp) (by simp)
  · rcases b with _ | ⟨y, b⟩
    · refine anyQ fun Q => ?_
      have hc0 : True := trivial
      have hL := hI.left (by simp)
      rcases nil_or_snoc out with rfl | ⟨o, z, rfl⟩
      · simp [hc0, hpa, hpb, hqa, hqb, List.take_of_length_le, cP, hL24, s196_13, ]
        exact back (a, [], [x]) ((hL.2 (by simp))) (by simp <;> omega) rfl (by simp <;> omega) (by simp) (by simp)
      · simp only [List.length_append, List.length_cons, List.length_nil] at hlen
        have hw : IntKind.i64.wrap (o.length : Int) = o.length := wrap64_of (by omega) (by omega)
        have hix : (o.map (cP cI) ++ [[D.pl (z.map cI)]])[o.length]? = some [D.pl (z.map cI)] := by rw [List.getElem?_append_right (by simp)]; simp
        simp [hc0, hpa, hpb, hqa, hqb, List.take_of_length_le, hw, hix, cP, s196_13, ]
        refine call_f (w_spec_CompareRows z x) (by simp) rfl fun hs3 hh3 => ?_
        simp at hh3
        by_cases e : z = x
        · subst e
          simp [cmpL_self]
          exact back (a, [], o ++ [z]) ((hL.1 (hI.last.2 rfl))) (by simp <;> omega) rfl (by simp <;> omega) (by simp) (by simp)
        · have e' : ¬ cmpL z x = 0 := fun h => e ((cmpL_zero _ _).1 h)
          simp [e', show LenOk 24 (o.length + 1 + 1) from ⟨by omega, by simp only [maxLen]; omega⟩, cP]
          exact back (a, [], o ++ [z] ++ [x]) ((hL.2 fun h => e (hI.last.1 h))) (by simp <;> omega) rfl (by simp <;> omega) (by simp) (by simp)
    · refine anyQ fun Q => ?_
      simp [cP, hpa, hpb, s196_13, ]
      refine call_f (w_spec_CompareRows x y) (by simp) rfl fun hs0 hh0 => ?_
      simp at hh0
      by_cases hc0 : 0 < cmpL x y
      · have hI' := hI.swap
        have hL := hI'.left (hI.hr hc0)
        rcases nil_or_snoc out with rfl | ⟨o, z, rfl⟩
        · simp [hc0, hpa, hpb, hqa, hqb, List.take_of_length_le, cP, hL24, s196_13, ]
          exact back ((x :: a), b, [y]) (MI.swap (hL.2 (by simp))) (by simp <;> omega) rfl (by simp <;> omega) (by simp) (by simp)
        · simp only [List.length_append, List.length_cons, List.length_nil] at hlen
          have hw : IntKind.i64.wrap (o.length : Int) = o.length := wrap64_of (by omega) (by omega)
          have hix : (o.map (cP cI) ++ [[D.pl (z.map cI)]])[o.length]? = some [D.pl (z.map cI)] := by rw [List.getElem?_append_right (by simp)]; simp
          simp [hc0, hpa, hpb, hqa, hqb, List.take_of_length_le, hw, hix, cP, s196_13, ]
          refine call_f (w_spec_CompareRows z y) (by simp) rfl fun hs3 hh3 => ?_
          simp at hh3
          by_cases e : z = y
          · subst e
            simp [cmpL_self]
            exact back ((x :: a), b, o ++ [z]) (MI.swap (hL.1 (hI'.last.2 rfl))) (by simp <;> omega) rfl (by simp <;> omega) (by simp) (by simp)
          · have e' : ¬ cmpL z y = 0 := fun h => e ((cmpL_zero _ _).1 h)
            simp [e', show LenOk 24 (o.length + 1 + 1) from ⟨by omega, by simp only [maxLen]; omega⟩, cP]
            exact back ((x :: a), b, o ++ [z] ++ [y]) (MI.swap (hL.2 fun h => e (hI'.last.1 h))) (by simp <;> omega) rfl (by simp <;> omega) (by simp) (by simp)
      · 
        have hL := hI.left (hI.hl hc0)
        rcases nil_or_snoc out with rfl | ⟨o, z, rfl⟩
        · simp [hc0, hpa, hpb, hqa, hqb, List.take_of_length_le, cP, hL24, s196_13, ]
          exact back (a, (y :: b), [x]) ((hL.2 (by simp))) (by simp <;> omega) rfl (by simp <;> omega) (by simp) (by simp)
        · simp only [List.length_append, List.length_cons, List.length_nil] at hlen
          have hw : IntKind.i64.wrap (o.length : Int) = o.length := wrap64_of (by omega) (by omega)
          have hix : (o.map (cP cI) ++ [[D.pl (z.map cI)]])[o.length]? = some [D.pl (z.map cI)] := by rw [List.getElem?_append_right (by simp)]; simp
          simp [hc0, hpa, hpb, hqa, hqb, List.take_of_length_le, hw, hix, cP, s196_13, ]
          refine call_f (w_spec_CompareRows z x) (by simp) rfl fun hs3 hh3 => ?_
          simp at hh3
          by_cases e : z = x
          · subst e
            simp [cmpL_self]
            exact back (a, (y :: b), o ++ [z]) ((hL.1 (hI.last.2 rfl))) (by simp <;> omega) rfl (by simp <;> omega) (by simp) (by simp)
          · have e' : ¬ cmpL z x = 0 := fun h => e ((cmpL_zero _ _).1 h)
            simp [e', show LenOk 24 (o.length + 1 + 1) from ⟨by omega, by simp only [maxLen]; omega⟩, cP]
            exact back (a, (y :: b), o ++ [z] ++ [x]) ((hL.2 fun h => e (hI.last.1 h))) (by simp <;> omega) rfl (by simp <;> omega) (by simp) (by simp)

end Go.Proofs.Ytlmnjomekklnkaa

namespace Go.Proofs.Ytlmnjomekklnkaa
open Go.Vs Go.Proofs Go
set_option maxRecDepth 100000
set_option maxHeartbeats 1000000

theorem w_spec_NewRelation (ar : Int) (l : List (List Int)) (hb : l.length ≤ 4294967296) (hn : ∀ x ∈ l, x.length ≤ 4294967296) : VC Try.prog 179 [.d (.int .i64 ar), .d (pS (cP cI) l)] (fun _ v => v = .tup [.agg ((eReln (newR ar l)).map .d), .d (.bool (newB ar l))]) := by
  refine VC.ofL EP s179 (by kernel_rfl) Try.func179 (by rfl) (by kernel_rfl) (by simp [Try.f179]) (by simp [Try.f179]) s179_ok fun B hl => ?_
  simp [Try.f179, eReln]
  refine loop_rule (X := Nat) (fun i => i ≤ l.length ∧ AllTo (fun r : List Int => decide ((r.length : Int) = ar) && valsOk r) l i) (fun i => [(0, .d (.int .i64 ar)), (1, .d (.pl (l.map (cP cI)))), (4, .ptr 4 0 0), (6, .d (.int .i64 i))])
    (fun i => [(4, some (.box [.d (.int .i64 0), .d (.sl none none [])]))]) (fun i => l.length - i) 0 ⟨by simp, allTo_zero⟩ (by simp) (by simp) ?_
  intro i hs t m hi hh
  by_cases hlt : i < l.length
  · have hwi := wr1 (i := i) (by omega)
    by_cases hln : (l[i].length : Int) = ar
    · simp [hlt, hln, cP, ]
      refine call_f (w_spec_AreValidValues l[i]) (by simp) rfl fun hs1 hh1 => ?_
      simp at hh1
      cases hv : valsOk l[i]
      · have hbad := all_bad (p := fun r : List Int => decide ((r.length : Int) = ar) && valsOk r) hlt (by simp [hv])
        simp [newR, newB, hbad, eReln]
      · simp [hwi]
        exact back (i + 1) ⟨by omega, allTo_step hi.2 hlt (by simp [hv, hln])⟩ (by omega) rfl (by simp <;> omega) (by simp) (by simp)
    · have hbad := all_bad (p := fun r : List Int => decide ((r.length : Int) = ar) && valsOk r) hlt (by simp [hln])
      simp [hlt, hln, newR, newB, hbad, eReln, ]
  · have hd := allTo_done hi.2 (by omega)
    have hsl := srtU_len l
    simp [hlt, ]
    refine call_p (w_spec_l5Sort _ l (Nat.le_refl _) hb) (by simp) fun hs1 hh1 _ => ?_
    simp at hh1
    simp []
    refine call_p (w_spec_l5Copy ⟨ar, srtU l⟩ (by simp; omega) (fun x hx => hn x ((srtU_mem l x).1 hx))) (by simp [eReln]) fun hs2 hh2 _ => ?_
    simp at hh2
    simp [eReln]
    refine call_f (w_spec_IsValidRelation ⟨ar, srtU l⟩) (by simp [eReln]) rfl fun hs3 hh3 => ?_
    simp at hh3
    cases h1 : rowsOk ar (srtU l)
    · simp [newR, newB, h1, eReln]
    · simp [newR, newB, h1, hd, eReln]

end Go.Proofs.Ytlmnjomekklnkaa

namespace Go.Proofs.Ytlmnjomekklnkaa
open Go.Vs Go.Proofs Go
set_option maxRecDepth 100000
set_option maxHeartbeats 1000000

section
attribute [local simp] plI_id plStr_id map_plI map_plStr pS cP cI cStr cU8 cB
theorem q_impl_Difference (a b : PReln) : VC Try.prog 118 [.agg ((eReln a).map V.d), .agg ((eReln b).map V.d)] (fun _ v => v = .tup [.agg ((eReln (difR a b)).map V.d), .d (.bool (difB a b))]) := by
  refine VC.ofL EP s118 (by kernel_rfl) Try.func118 (by rfl) (by kernel_rfl) (by simp [Try.f118]) (by simp [Try.f118]) s118_ok fun B hl => ?_
  obtain ⟨aa, al⟩ := a
  obtain ⟨ba, bl⟩ := b
  simp [Try.f118, s118_8, eReln]
  refine call_f (w_impl_IsValidRelation ⟨aa, al⟩) (by simp [eReln]) rfl fun hs1 hh1 => ?_
  simp at hh1
  cases h1 : rowsOk aa al
  · simp [difR, difB, h1, eReln]
  simp
  refine call_f (w_impl_IsValidRelation ⟨ba, bl⟩) (by simp [eReln]) rfl fun hs2 hh2 => ?_
  simp at hh2
  cases h2 : rowsOk ba bl
  · simp [difR, difB, h1, h2, eReln]
  by_cases h3 : aa = ba
  case neg => simp [difR, difB, h1, h2, h3, eReln]
  subst h3
  have hdb : difB ⟨aa, al⟩ ⟨aa, bl⟩ = true := by simp [difB, h1, h2]
  have hdr : difR ⟨aa, al⟩ ⟨aa, bl⟩ = ⟨aa, difL al bl⟩ := by simp only [difR, hdb, if_true]
  rw [hdb, hdr]
  have hal := rowsOk_len h1
  have hbl := rowsOk_len h2
  have hrow := rowsOk_row h1
  simp
  refine loop_ruleL (X := Nat) (fun i _ => i ≤ al.length) (fun i => [(2, .ptr 2 0 0), (3, .ptr 3 0 0), (4, .ptr 4 0 0), (6, .ptr 6 0 0), (29, .d (.pl (al.map (cP cI)))), (30, .d (.int .i64 al.length)), (31, .d (.int .i64 i))])
    (fun i => [(2, some (.box [.d (.int .i64 aa), .d (.pl (al.map (cP cI)))])), (3, some (.box [.d (.int .i64 aa), .d (.pl (bl.map (cP cI)))])), (4, some (.box [.d (.int .i64 0), .d (.sl none none [])])), (6, some (.box [.d (.int .i64 aa), .own 44 0 (difL (al.take i) bl).length])), (44, some (.row 95 1 ((difL (al.take i) bl).map (cP cI))))]) (fun i => al.length - i) ?_ ?_
  · refine (lead_box 6 1 44 95 1 [.d (.int .i64 aa), .d (.sl none none [])] (by omega) (by omega) (by omega) (by simp) rfl).bind ?_
    rintro _ rfl
    exact Lead.of ⟨0, by omega, rfl, rfl, Nat.le_refl _, by simp, by simp [difL]⟩
  intro i hs t m hi hh
  by_cases hlt : i < al.length
  · have hwi := wr1 (i := i) (by omega)
    have hst := difL_step (b := bl) hlt
    have hdl := difL_len (al.take i) bl
    rw [List.length_take] at hdl
    have hL1 : LenOk 8 al[i].length := by
      have := hrow _ (List.getElem_mem hlt)
      exact ⟨by omega, by simp only [maxLen]; omega⟩
    have hL2 : LenOk 24 ((difL (al.take i) bl).length + 1) := ⟨by omega, by simp only [maxLen]; omega⟩
    simp [hlt, s118_8, ]
    refine call_f (VC.to (w_impl_ContainsRow ⟨aa, bl⟩ al[i] (by show bl.length ≤ _; omega)) (show _ = V.d (.bool (placeB bl al[i])) by simp [hasR, h2])) (by simp [eReln]) rfl fun hs3 hh3 => ?_
    simp at hh3
    cases h4 : placeB bl al[i]
    · rw [h4] at hst
      simp only [Bool.false_eq_true, if_false] at hst
      simp [hlt, s118_8, ]
      refine call_p (q_impl_copyInts al[i] (by have := hrow _ (List.getElem_mem hlt); omega)) (by simp) fun hs4 hh4 hl4 => ?_
      simp at hh4
      simp [hwi, hL2, s118_8, ]
      exact back2 (i + 1) (by omega) (by omega) rfl (by simp <;> omega) (by simp) (by simp [hst])
    · rw [h4] at hst
      simp only [if_true, List.append_nil] at hst
      simp [hwi, s118_8, ]
      exact back2 (i + 1) (by omega) (by omega) rfl (by simp <;> omega) (by simp) (by simp [hst])
  · have hn : i = al.length := by omega
    subst hn
    simp [List.take_of_length_le]
theorem w_spec_Union (a b : PReln) : VC Try.prog 131 [.agg ((eReln a).map V.d), .agg ((eReln b).map V.d)] (fun _ v => v = .tup [.agg ((eReln (uniR a b)).map V.d), .d (.bool (uniB a b))]) := by
  refine VC.ofL EP s131 (by kernel_rfl) Try.func131 (by rfl) (by kernel_rfl) (by simp [Try.f131]) (by simp [Try.f131]) s131_ok fun B hl => ?_
  obtain ⟨aa, al⟩ := a
  obtain ⟨ba, bl⟩ := b
  simp [Try.f131, s131_3, eReln]
  refine call_f (w_spec_IsValidRelation ⟨aa, al⟩) (by simp [eReln]) rfl fun hs1 hh1 => ?_
  simp at hh1
  cases h1 : rowsOk aa al
  · simp [uniR, uniB, difB, h1, eReln]
  simp
  refine call_f (w_spec_IsValidRelation ⟨ba, bl⟩) (by simp [eReln]) rfl fun hs2 hh2 => ?_
  simp at hh2
  cases h2 : rowsOk ba bl
  · simp [uniR, uniB, difB, h1, h2, eReln]
  by_cases h3 : aa = ba
  case neg => simp [uniR, uniB, difB, h1, h2, h3, eReln]
  subst h3
  have hdb : difB ⟨aa, al⟩ ⟨aa, bl⟩ = true := by simp [difB, h1, h2]
  obtain ⟨z1, z2, z3, z4⟩ := difB_len hdb
  simp only at z3 z4
  have hL1 : LenOk 24 al.length := ⟨by omega, by simp only [maxLen]; omega⟩
  have hL2 : LenOk 24 (al.length + bl.length) := ⟨by omega, by simp only [maxLen]; omega⟩
  have hN := w_spec_NewRelation aa (al ++ bl) (by simp; omega) (fun x hx => by
    rcases List.mem_append.1 hx with h | h
    · exact z1.2 x h
    · exact z2.2 x h)
  simp [hL1, hL2, List.take_of_length_le, s131_3, ]
  repeat' apply And.intro
  all_goals
    refine call_p hN (by simp [List.take_of_length_le]) fun hs3 hh3 hl3 => ?_
    simp [uniR, uniB, hdb, eReln, s131_3, ]
end

end Go.Proofs.Ytlmnjomekklnkaa

namespace Go.Proofs.Ytlmnjomekklnkaa
open Go.Vs Go.Proofs Go
set_option maxRecDepth 100000
set_option maxHeartbeats 1000000

theorem e_impl_sorted : ∀ (n : Nat) (l : List (List Int)), l.length ≤ n → l.length ≤ 4294967296 → (∀ r ∈ l, r.length ≤ 4294967296) →
   VC Try.prog 195 [.d (pS (cP cI) l)] (fun m r => ∃ y : Sl Ints, r = .d (dSl (cS cI) y) ∧ plS (plS plI) y = srtU l ∧ okS (okS okI) y ∧ Good (cS (cS cI) y) (whS (whS whI) y) m) := by
  intro n
  induction n with
  | zero =>
    intro l hn hb hb2
    have : l = [] := List.length_eq_zero_iff.1 (by omega)
    subst this
    refine VC.of E s195 (by kernel_rfl) Try.func195 (by rfl) (by kernel_rfl) (by simp [Try.f195]) (by simp [Try.f195]) s195_ok fun B => ?_
    simp [Try.f195, s195_4, s195_11, s195_4, s195_11, pS]
    refine call_some (e_impl_copyRows [] (by simp) (by simp)) (by simp [pS]) (by simp) fun n1 hs1 r1 hn1 hm1 hp1 hr1 => ?_
    obtain ⟨y, rfl, p1, k1, G1⟩ := hp1
    simp at hn1
    simp
    exact ⟨y, rfl, by rw [p1]; rfl, k1, G1.le (by omega)⟩
  | succ n ih =>
  intro l hn hb hb2
  refine VC.of E s195 (by kernel_rfl) Try.func195 (by rfl) (by kernel_rfl) (by simp [Try.f195]) (by simp [Try.f195]) s195_ok fun B => ?_
  by_cases h2 : l.length < 2
  · have e : srtU l = l := srtU_id (by
      match l, h2 with
      | [], _ => exact .nil
      | [_], _ => simp
      | _ :: _ :: _, h => simp only [List.length_cons] at h; omega)
    simp [Try.f195, s195_4, s195_11, s195_4, s195_11, pS, show ((l.length : Int) < 2) by omega]
    refine call_some (e_impl_copyRows l hb hb2) (by simp [pS]) (by simp) fun n1 hs1 r1 hn1 hm1 hp1 hr1 => ?_
    obtain ⟨y, rfl, p1, k1, G1⟩ := hp1
    simp at hn1
    simp
    exact ⟨y, rfl, by rw [p1, e], k1, G1.le (by omega)⟩
  obtain ⟨k, hk⟩ : ∃ k, k = l.length / 2 := ⟨_, rfl⟩
  have hm : IntKind.i64.wrap ((l.length : Int) / 2) = (k : Int) := by rw [wrap64_of (by omega) (by omega)]; omega
  have hkl : k ≤ l.length := by omega
  simp [Try.f195, s195_4, s195_11, s195_4, s195_11, pS, show ¬ ((l.length : Int) < 2) by omega, hm, hkl]
  have hA := ih (l.take k) (by simp; omega) (by simp; omega) (fun r hr => hb2 r (List.mem_of_mem_take hr))
  have hB' := ih (l.drop k) (by simp; omega) (by simp; omega) (fun r hr => hb2 r (List.mem_of_mem_drop hr))
  simp only [pS, List.map_take] at hA
  simp only [pS, List.map_drop] at hB'
  refine call_some hA (by simp) (by simp) fun n1 hs1 r1 hn1 hm1 hp1 hr1 => ?_
  obtain ⟨ya, rfl, p1, k1, G1⟩ := hp1
  simp at hn1
  simp [hm, hkl, List.take_of_length_le, s195_4, s195_11, ]
  refine call_some hB' (by simp) (by simp) fun n2 hs2 r2 hn2 hm2 hp2 hr2 => ?_
  obtain ⟨yb, rfl, p2, k2, G2⟩ := hp2
  simp at hn2
  have hst := MJ.start l k
  rw [← p1, ← p2] at hst
  obtain ⟨aid, aT, as_⟩ := ya
  obtain ⟨bid, bT, bs_⟩ := yb
  have u1 : ∀ g ∈ idsLL (as_.map (cS cI)), g < hs1 := fun g hg => hr1 g (by rw [V.ids]; exact mem_sl_ids.2 (.inr hg))
  have own0 : OwnR B ([] ++ (as_ ++ bs_)) := by
    have g1 := G1.nd
    have g2 := G2.nd
    rw [idsL_cS] at g1 g2
    have h1 := (sl_nd g1).1
    have h2 := (sl_nd g2).1
    have e : idsLL ((as_ ++ bs_).map (cS cI)) = idsLL (as_.map (cS cI)) ++ idsLL (bs_.map (cS cI)) := by rw [List.map_append, idsLL_append]
    have l1 : ∀ g ∈ idsLL (as_.map (cS cI)), B ≤ g := fun g hg => by have := G1.lo g (by rw [idsL_cS]; exact mem_sl_ids.2 (.inr hg)); omega
    have l2 : ∀ g ∈ idsLL (bs_.map (cS cI)), n2 ≤ g := fun g hg => G2.lo g (by rw [idsL_cS]; exact mem_sl_ids.2 (.inr hg))
    refine ⟨?_, ?_, fun r hr => ?_, fun r hr => ?_⟩
    · rw [List.nil_append, e]
      exact List.nodup_append.2 ⟨h1, h2, fun x hx y hy hxy => by subst hxy; have := u1 x hx; have := l2 x hy; omega⟩
    · intro g hg
      rw [List.nil_append, e] at hg
      rcases List.mem_append.1 hg with h | h
      · exact l1 g h
      · have := l2 g h; omega
    · rcases (by simpa using hr : r ∈ as_ ∨ r ∈ bs_) with h | h
      · exact G1.wh.2 r h
      · exact G2.wh.2 r h
    · rcases (by simpa using hr : r ∈ as_ ∨ r ∈ bs_) with h | h
      · exact k1.2 r h
      · exact k2.2 r h
  clear hr1 hr2 u1
  simp [dSl, s195_4, s195_11, ]
  refine loop_ruleL (X := List Ints × List Ints × List Ints × Option (TypeId × Nat) × Option (TypeId × Nat)) (fun p _ => SrtI l B p) (fun p => [(4, .d (.sl aid p.2.2.2.1 (p.1.map (cS cI)))), (5, .d (.sl bid p.2.2.2.2 (p.2.1.map (cS cI)))), (6, .own 52 0 p.2.2.1.length)])
    (fun p => [(52, some (.row 95 1 (p.2.2.1.map (cS cI))))]) (fun p => p.1.length + p.2.1.length) ?_ ?_
  · refine (lead_slot 6 52 95 1 (by omega) (by omega) (by simp)).bind ?_
    rintro _ rfl
    exact Lead.of ⟨(as_, bs_, [], aT, bT), ⟨hst, own0⟩, rfl, rfl, Nat.le_refl _, by simp, by simp⟩
  rintro ⟨a, b, o, Ta, Tb⟩ hs t m hI hh
  have hlen := hI.mj.len
  simp only [List.length_map] at hlen
  have hpa : ∀ a : List Ints, (0 : Int) < (a.length : Int) + 1 := fun a => by omega
  have hpb : ∀ a : List Ints, ¬ (a.length : Int) + 1 = 0 := fun a => by omega
  rcases a with _ | ⟨x, a⟩
  · rcases b with _ | ⟨y, b⟩
    · have hd := hI.mj.done
      simp only at hd
      simp [s195_4, s195_11, ]
      intro γ hs' h1 hg
      obtain ⟨q1, q2⟩ := gam_at hg (k := 52) (T := 95) (sz := 1) (es := o.map (cS cI)) (by simp)
      have q3 := gam_row hg (k := 52) (T := 95) (sz := 1) (es := o.map (cS cI)) (by simp)
      clear hg
      have hown : OwnR B o := by have := hI.own; simpa using this
      have hp : hpLL (o.map (cS cI)) = false := hpLL_mapS o
      simp only [List.length_nil] at hlen
      exact ⟨⟨γ 52, some (95, 1), o⟩, by simp [dSl, List.take_of_length_le], by simpa [plS] using hd, ⟨by simp only [maxLen]; show o.length ≤ _; omega, hown.ok⟩, good_row (fun g hg => (q1 g hg).1) (by simpa using q2) q3 ⟨hown.nd, hown.lo⟩ hown.wh⟩
    · simp only [List.length_cons, List.length_nil] at hlen
      have hL : LenOk 24 (o.length + 1) := ⟨by omega, by simp only [maxLen]; omega⟩
      refine anyQ2 fun Q => ?_
      simp [hpa, hpb, hL, cS, dSl, s195_4, s195_11, ]
      exact back2 ([], b, o ++ [y], Ta, (if bid.isSome = true then none else Tb)) (hI.right (by simp)) (by simp <;> omega) rfl (by simp <;> omega) (by simp [cS, dSl, List.take_of_length_le]) (by simp [cS, dSl])
  · rcases b with _ | ⟨y, b⟩
    · simp only [List.length_cons, List.length_nil] at hlen
      have hL : LenOk 24 (o.length + 1) := ⟨by omega, by simp only [maxLen]; omega⟩
      refine anyQ2 fun Q => ?_
      simp [hpa, hpb, hL, cS, dSl, s195_4, s195_11, ]
      exact back2 (a, [], o ++ [x], (if aid.isSome = true then none else Ta), Tb) (hI.left (by simp)) (by simp <;> omega) rfl (by simp <;> omega) (by simp [cS, dSl, List.take_of_length_le]) (by simp [cS, dSl])
    · simp only [List.length_cons] at hlen
      have hL : LenOk 24 (o.length + 1) := ⟨by omega, by simp only [maxLen]; omega⟩
      have hM := hI.mj
      simp only [List.map_cons] at hM
      refine anyQ2 fun Q => ?_
      simp [hpa, hpb, cS, dSl, s195_4, s195_11, ]
      refine call_f (w_impl_CompareRows (plS plI x) (plS plI y)) (by simp [plS, pS, erLL_map er_cI, map_plI]) rfl fun hs3 hh3 => ?_
      simp at hh3
      by_cases c1 : cmpL (plS plI x) (plS plI y) < 0
      · have c2 : cmpL (plS plI x) (plS plI y) ≤ 0 := by omega
        have c3 : ¬ 0 ≤ cmpL (plS plI x) (plS plI y) := by omega
        simp [c2, c3, hL, cS, dSl, s195_4, s195_11, ]
        exact back2 (a, y :: b, o ++ [x], (if aid.isSome = true then none else Ta), Tb) (hI.left (hM.less c1)) (by simp <;> omega) rfl (by simp <;> omega) (by simp [cS, dSl, List.take_of_length_le]) (by simp [cS, dSl])
      by_cases c4 : cmpL (plS plI x) (plS plI y) = 0
      · have e := (cmpL_zero _ _).1 c4
        simp [c4, hL, cS, dSl, s195_4, s195_11, ]
        exact back2 (a, b, o ++ [x], (if aid.isSome = true then none else Ta), (if bid.isSome = true then none else Tb)) (hI.both e) (by simp <;> omega) rfl (by simp <;> omega) (by simp [cS, dSl, List.take_of_length_le]) (by simp [cS, dSl])
      · have c2 : ¬ cmpL (plS plI x) (plS plI y) ≤ 0 := by omega
        have c3 : 0 ≤ cmpL (plS plI x) (plS plI y) := by omega
        have c5 : 0 < cmpL (plS plI x) (plS plI y) := by omega
        have c6 : cmpL (plS plI y) (plS plI x) < 0 := by have := cmpL_swap (plS plI x) (plS plI y); omega
        simp [c2, c3, c5, hL, cS, dSl, s195_4, s195_11, ]
        exact back2 (x :: a, b, o ++ [y], Ta, (if bid.isSome = true then none else Tb)) (hI.right (hM.swap.less c6)) (by simp <;> omega) rfl (by simp <;> omega) (by simp [cS, dSl, List.take_of_length_le]) (by simp [cS, dSl])

end Go.Proofs.Ytlmnjomekklnkaa

namespace Go.Proofs.Ytlmnjomekklnkaa
open Go.Vs Go.Proofs Go
set_option maxRecDepth 100000
set_option maxHeartbeats 1000000

theorem e_impl_NewRelation (ar : Int) (l : List (List Int)) (hb : l.length ≤ 4294967296) (hb2 : ∀ r ∈ l, r.length ≤ 4294967296) :
   VC Try.prog 177 [.d (.int .i64 ar), .d (pS (cP cI) l)] (fun m r => ∃ y : Reln, r = .tup [.agg ((cReln y).map V.d), .d (.bool (newB ar l))] ∧ plReln y = newR ar l ∧ okReln y ∧ Good (cReln y) (whReln y) m) := by
  refine VC.of E s177 (by kernel_rfl) Try.func177 (by rfl) (by kernel_rfl) (by simp [Try.f177]) (by simp [Try.f177]) s177_ok fun B => ?_
  have hno : newB ar l = false → ∃ y : Reln, V.tup [.agg ((cReln ⟨0, nilS⟩).map V.d), .d (.bool false)] = .tup [.agg ((cReln y).map V.d), .d (.bool (newB ar l))] ∧ plReln y = newR ar l ∧ okReln y ∧ Good (cReln y) (whReln y) B := fun h =>
    ⟨⟨0, nilS⟩, by rw [h], by simp [newR, h, plReln, plI, nilS, plS], ⟨trivial, ok_nilS⟩, good_Reln0 B⟩
  simp only [cReln, cS, cI, nilS, dSl] at hno
  simp at hno
  simp [Try.f177, pS]
  refine loop_rule (X := Nat) (ToN ar l) (fun i => [(0, .d (.int .i64 ar)), (1, .d (.pl (l.map (cP cI)))), (4, .ptr 4 0 0), (9, .d (.pl (l.map (cP cI)))), (10, .d (.int .i64 l.length)), (11, .d (.int .i64 i))])
    (fun i => [(4, some (.box [.d (.int .i64 0), .d (.sl none none [])]))]) (fun i => l.length - i) 0 .zero (by simp [cP, cI, pS]) (by simp) ?_
  intro i hs t m hi hh
  have hle := hi.le
  by_cases hlt : i < l.length
  · have hwi := wr1 (i := i) (by omega)
    by_cases hln : (l[i].length : Int) = ar
    · simp [hlt, hln, cP, pS, ]
      refine call_f (w_impl_AreValidValues l[i]) (by simp [pS]) rfl fun hs1 hh1 => ?_
      simp at hh1
      cases hv : valsOk l[i]
      · have hB0 : newB ar l = false := hi.bad hlt (by simp [hv])
        simp
        simpa [hB0, cReln, cS, cI, dSl] using hno hB0
      · simp [hwi]
        exact back (i + 1) (hi.step hlt (by simp [hv, hln])) (by omega) rfl (by simp <;> omega) (by simp [cP, cI, pS]) (by simp)
    · have hB0 : newB ar l = false := hi.bad hlt (by simp [hln])
      simp [hlt, hln, cP, pS, ]
      simpa [hB0, cReln, cS, cI, dSl] using hno hB0
  · have hd := hi.done (by omega)
    have hsl := srtU_len l
    simp [hlt, ]
    refine call_some (e_impl_sorted _ l (Nat.le_refl _) hb hb2) (by simp [pS]) (by simp) fun n1 hs1 r1 hn1 hm1 hp1 hr1 => ?_
    obtain ⟨y, rfl, p1, k1, G1⟩ := hp1
    simp at hn1
    clear hr1
    simp []
    refine call_f (w_impl_IsValidRelation ⟨ar, srtU l⟩) (by simp [← p1, eReln, er_SI, cI]) rfl fun hs3 hh3 => ?_
    simp at hh3
    cases h1 : rowsOk ar (srtU l)
    · have hB0 : newB ar l = false := by rw [newB, h1, Bool.and_false]
      simp
      simpa [hB0, cReln, cS, cI, dSl] using hno hB0
    · have hB1 : newB ar l = true := by rw [newB, h1, hd]; rfl
      simp [hB1]
      exact ⟨⟨ar, y⟩, by simp [cReln, cS, cI], by simp only [newR, hB1, if_true, plReln, plI]; rw [p1], ⟨trivial, k1⟩, good_Reln G1 (by omega)⟩
theorem e_impl_Union (a : PReln) (b : Reln) (kb : okReln b) :
   VC Try.prog 121 [.agg ((eReln a).map V.d), .agg ((cReln b).map V.d)] (fun m r => ∃ y : Reln, r = .tup [.agg ((cReln y).map V.d), .d (.bool (uniB a (plReln b)))] ∧ plReln y = uniR a (plReln b) ∧ okReln y ∧ Good (cReln y) (whReln y) m) := by
  refine VC.ofB E s121 (by kernel_rfl) Try.func121 (by rfl) (by kernel_rfl) (by simp [Try.f121]) (by simp [Try.f121]) s121_ok fun B hB => ?_
  have hbB : ∀ g ∈ idsL (cReln b), g < B := fun g hg => hB g (by simp only [idsVL, V.ids, idsVL_map_d, List.mem_append]; simp [hg])
  obtain ⟨aa, al⟩ := a
  obtain ⟨ba, ⟨bid, bT, bl⟩⟩ := b
  obtain ⟨L, hL⟩ : ∃ L, L = bl.map (plS plI) := ⟨_, rfl⟩
  have hp : plReln ⟨ba, ⟨bid, bT, bl⟩⟩ = ⟨ba, L⟩ := by rw [hL]; rfl
  rw [hp]
  have hno : difB ⟨aa, al⟩ ⟨ba, L⟩ = false → ∃ y : Reln, V.tup [.agg ((cReln ⟨0, nilS⟩).map V.d), .d (.bool false)] = .tup [.agg ((cReln y).map V.d), .d (.bool (uniB ⟨aa, al⟩ ⟨ba, L⟩))] ∧ plReln y = uniR ⟨aa, al⟩ ⟨ba, L⟩ ∧ okReln y ∧ Good (cReln y) (whReln y) B := fun h =>
    ⟨⟨0, nilS⟩, by simp [uniB, h], by simp [uniR, h, plReln, plI, nilS, plS], ⟨trivial, ok_nilS⟩, good_Reln0 B⟩
  simp only [cReln, cS, cI, nilS, dSl] at hno
  simp at hno
  simp [Try.f121, s121_3, eReln, cReln, cI, cP, cS, dSl]
  refine call_f (w_impl_IsValidRelation ⟨aa, al⟩) (by simp [eReln, cI, cP]) rfl fun hs1 hh1 => ?_
  simp at hh1
  cases h1 : rowsOk aa al
  · have hd : difB ⟨aa, al⟩ ⟨ba, L⟩ = false := by simp [difB, h1]
    simp
    simpa [uniB, hd] using hno hd
  simp
  refine call_f (w_impl_IsValidRelation ⟨ba, L⟩) (by simp [hL, eReln, cI, cP, pS, erLL_map (er_cS er_cI)]) rfl fun hs2 hh2 => ?_
  simp at hh2
  cases h2 : rowsOk ba L
  · have hd : difB ⟨aa, al⟩ ⟨ba, L⟩ = false := by simp [difB, h1, h2]
    simp
    simpa [uniB, hd] using hno hd
  by_cases h3 : aa = ba
  case neg =>
    have hd : difB ⟨aa, al⟩ ⟨ba, L⟩ = false := by simp [difB, h1, h2, h3]
    simp [h3]
    simpa [uniB, hd] using hno hd
  subst h3
  have hdb : difB ⟨aa, al⟩ ⟨aa, L⟩ = true := by simp [difB, h1, h2]
  obtain ⟨z1, z2, z3, z4⟩ := difB_len hdb
  simp only at z3 z4
  have hlb : bl.length = L.length := by rw [hL]; simp
  have uS : uniB ⟨aa, al⟩ ⟨aa, L⟩ = newB aa (al ++ L) := by simp [uniB, hdb]
  have uR : uniR ⟨aa, al⟩ ⟨aa, L⟩ = newR aa (al ++ L) := by simp only [uniR, hdb, if_true]
  rw [uS, uR]
  have hN := e_impl_NewRelation aa (al ++ L) (by simp; omega) (fun x hx => by
    rcases List.mem_append.1 hx with h | h
    · exact z1.2 x h
    · exact z2.2 x h)
  have hid : ∀ n r, (∃ y : Reln, r = V.tup [.agg ((cReln y).map V.d), .d (.bool (newB aa (al ++ L)))] ∧ plReln y = newR aa (al ++ L) ∧ okReln y ∧ Good (cReln y) (whReln y) n) → (∀ i ∈ r.ids, n ≤ i) ∧ r.hp = false := by
    rintro n _ ⟨y, rfl, _, _, G⟩
    refine ⟨fun i hi => G.lo i ?_, by simp [V.hp, hpVL, cReln, cI, cS, dSl, D.hp]⟩
    simpa [V.ids, idsVL, ids_agg, idsVL_map_d, D.ids] using hi
  simp [s121_3, ]
  by_cases hal : al = []
  · subst hal
    have hL2 : LenOk 24 L.length := ⟨by omega, by simp only [maxLen]; omega⟩
    refine call_pure e_impl_copyRows0 (by simp) (by simp [pS, cP]) (by simp [V.ids, D.ids, idsLL]) fun hs3 hh3 => ?_
    simp at hh3
    simp [cS, cI, dSl, hlb, hL2, s121_3, ]
    refine call_own (by simp) (fun γ n hn hg => ⟨[.d (.int .i64 aa), .d (.sl (γ 29) (some (95, 1)) (bl.map (cS cI)))], by simp [← hlb, hpLL_mapS, List.take_of_length_le, cS, dSl], hN.er (by simp [hL, pS, cP, erLL_map (er_cS er_cI)])⟩) hid fun n3 hs4 r3 hn3 hm3 hp3 hr3 => ?_
    obtain ⟨z, rfl, pz, kz, Gz⟩ := hp3
    simp at hn3
    clear hr3
    simp [cReln, cI, cS, dSl, s121_3, ]
    exact ⟨z, by simp [cReln, cI, cS, dSl], pz, kz, Gz.le (by omega)⟩
  · have hL2 : LenOk 24 (al.length + L.length) := ⟨by omega, by simp only [maxLen]; omega⟩
    refine call_some (e_impl_copyRowsT al (z1.1) z1.2) (by simp [pS]) (by simp) fun n1 hs3 r1 hn1 hm1 hp1 hr1 => ?_
    obtain ⟨⟨yid, yT, ys⟩, rfl, p1, k1, G1, hT⟩ := hp1
    simp only at hT
    subst hT
    simp at hn1
    have hyl : ys.length = al.length := by rw [← p1]; simp [plS]
    have hy0 : ys ≠ [] := fun h => hal (by rw [← p1, h]; rfl)
    obtain ⟨g, rfl⟩ : ∃ g, yid = some g := by
      cases yid with
      | none => exact absurd (G1.wh.1.nil rfl) hy0
      | some g => exact ⟨g, rfl⟩
    have hgn : n1 ≤ g := G1.lo g (by rw [idsL_cS]; exact mem_sl_ids.2 (.inl rfl))
    have hgB : B ≤ g := by omega
    have hbi : ∀ i ∈ (dSl (cS cI) ⟨bid, bT, bl⟩).ids, i < B := fun i hi => hbB i (by rw [cReln, idsL_app, idsL_cS]; simp [hi])
    have hg1 : g ∉ (D.sl bid bT (bl.map (cS cI))).ids := fun h => by have := hbi g h; omega
    have hg2 : g ∉ idsLL (bl.map (cS cI)) := fun h => hg1 (mem_sl_ids (s := ⟨bid, bT, bl⟩).2 (.inr h))
    have hg3 : g ∉ idsLL (ys.map (cS cI)) := by
      have := G1.nd
      rw [idsL_cS] at this
      exact (sl_nd this).2 g rfl
    have kg : ∀ i, i < B → kphi (some g) i = none := fun i hi => by simp only [kphi]; rw [if_neg (by simp; omega)]
    have eb : reV (kphi (some g)) (.d (.sl bid bT (bl.map (cS cI)))) = .d (.sl bid bT (bl.map (cS cI))) := reV_id (.d (dSl (cS cI) ⟨bid, bT, bl⟩)) fun i hi => kg i (hbi i hi)
    have hp1 : hpLL (bl.map (cS cI)) = false := hpLL_mapS bl
    simp [cS, cI, dSl, St.kill, eb, hgB, hg1, hg2, hg3, hp1, hyl, hlb, hL2, s121_3, ]
    have hg4 : ¬ bid = some g := fun h => hg1 (by rw [h]; simp [D.ids])
    refine ⟨hg4, ?_⟩
    have hp2 : hpLL (ys.map (cS cI)) = false := hpLL_mapS ys
    have ep : ys.map (plS plI) = al := by simpa [plS] using p1
    have eq1 : (ys.map (cS cI) ++ bl.map (cS cI)).length = al.length + L.length := by simp [hyl, hlb]
    refine call_own (by simp) (fun γ n hn hg => ⟨[.d (.int .i64 aa), .d (.sl (γ 29) (some (95, 1)) (ys.map (cS cI) ++ bl.map (cS cI)))], by simp [hp1, hp2, hyl, hlb, List.take_of_length_le], hN.er ?_⟩) hid fun n3 hs4 r3 hn3 hm3 hp3 hr3 => ?_
    · have e3 : erLL (ys.map (cS cI) ++ bl.map (cS cI)) = (al ++ L).map (cP cI) := by rw [← List.map_append, erLL_map (er_cS er_cI), List.map_append, ep, hL]
      simp [pS, e3]
    obtain ⟨z, rfl, pz, kz, Gz⟩ := hp3
    simp at hn3
    clear hr3
    simp [cReln, cI, cS, dSl, s121_3, ]
    exact ⟨z, by simp [cReln, cI, cS, dSl], pz, kz, Gz.le (by omega)⟩

end Go.Proofs.Ytlmnjomekklnkaa

namespace Go.Proofs.Ytlmnjomekklnkaa
open Go.Vs Go.Proofs Go
set_option maxRecDepth 100000
set_option maxHeartbeats 1000000

section
attribute [local simp] plI_id plStr_id map_plI map_plStr pS cP cI cStr cU8 cB eTab eReln
theorem w_spec_l6Copy (d : PDb) (hz : szDb d) : VC Try.prog 129 [.agg ((eDb d).map V.d)] (fun _ v => v = .agg ((eDb d).map V.d)) := by
  refine VC.ofL EP s129 (by kernel_rfl) Try.func129 (by rfl) (by kernel_rfl) (by simp [Try.f129]) (by simp [Try.f129]) s129_ok fun B hl => ?_
  obtain ⟨l⟩ := d
  simp only [szDb] at hz
  simp [Try.f129, s129_6, s129_6, eDb]
  refine loop_ruleL (X := Nat) (fun i _ => i ≤ l.length) (fun i => [(1, .ptr 1 0 0), (2, .ptr 2 0 0), (3, .ptr 3 0 0), (4, .d (.int .i64 i))]) (fun i => [(1, some (.box [.d (.pl (l.map eTab))])), (2, some (.box [.d (.sl none none [])])), (3, some (.box [.own 32 0 i])), (32, some (.row 131 3 ((l.take i).map eTab)))]) (fun i => l.length - i) ?_ ?_
  · refine (lead_box 3 0 32 131 3 [.d (.sl none none [])] (by omega) (by omega) (by omega) (by simp) rfl).bind ?_
    rintro _ rfl
    exact Lead.of ⟨0, by omega, rfl, rfl, Nat.le_refl _, by simp, by simp⟩
  intro i hs t m hi hh
  by_cases hlt : i < l.length
  · have hwi := wr1 (i := i) (by omega)
    have hL : LenOk 48 (i + 1) := ⟨by omega, by simp only [maxLen]; omega⟩
    have hmn : min i l.length = i := by omega
    have hr := hz.2 _ (List.getElem_mem hlt)
    obtain ⟨nm, ar, rows, hT⟩ : ∃ nm ar rows, l[i] = ⟨nm, ⟨ar, rows⟩⟩ := ⟨_, _, _, rfl⟩
    have hst2 : List.take (i + 1) (List.map eTab l) = List.take i (List.map eTab l) ++ [[.str nm, .int .i64 ar, .pl (rows.map (cP cI))]] := by
      rw [List.take_succ_eq_append_getElem (by simpa using hlt)]; simp [hT]
    rw [hT] at hr
    simp [hlt, hT, s129_6, ]
    refine call_p (w_spec_l5Copy ⟨ar, rows⟩ hr.1 hr.2) (by simp) fun hs1 hh1 hl1 => ?_
    simp at hh1
    simp [hlt, hT, hL, hwi, hmn, s129_6, ]
    exact back2 (i + 1) (by omega) (by omega) rfl (by simp <;> omega) (by simp) (by simp [hst2])
  · have hn : i = l.length := by omega
    subst hn
    simp [List.take_of_length_le]
end
theorem e_impl_copyDatabase (d : PDb) (hz : szDb d) (hst : ∀ t ∈ d.tabs, t.name.length ≤ maxLen) : VC Try.prog 120 [.agg ((eDb d).map V.d)] (fun n v => ∃ y : Db, v = .agg ((cDb y).map V.d) ∧ plDb y = d ∧ okDb y ∧ Good (cDb y) (whDb y) n) := by
  refine VC.of E s120 (by kernel_rfl) Try.func120 (by rfl) (by kernel_rfl) (by simp [Try.f120]) (by simp [Try.f120]) s120_ok fun B => ?_
  obtain ⟨l⟩ := d
  simp only [szDb] at hz hst
  simp [Try.f120, s120_5, s120_5, eDb, pS]
  refine loop_ruleL (X := Nat × List Tab) (CopI cTab whTab okTab plTab l B) (fun p => [(1, .ptr 1 0 0), (2, .ptr 2 0 0), (3, .ptr 3 0 0), (7, .d (.pl (l.map eTab))), (8, .d (.int .i64 l.length)), (9, .d (.int .i64 p.1))]) (fun p => [(2, some (.box [.d (.sl none none [])])), (3, some (.box [.own 22 0 p.2.length])), (22, some (.row 131 3 (p.2.map cTab)))]) (fun p => l.length - p.1) ?_ ?_
  · refine (lead_box 3 0 22 131 3 [.d (.sl none none [])] (by omega) (by omega) (by omega) (by simp) rfl).bind ?_
    rintro _ rfl
    exact Lead.of ⟨(0, []), .zero, rfl, rfl, Nat.le_refl _, by simp, by simp⟩
  rintro ⟨i, ys⟩ hs t m hI hh
  have hle := hI.le
  have hyl := hI.len
  simp only at hle
  by_cases hlt : i < l.length
  · have hwi := wr1 (i := i) (by omega)
    have hL : LenOk 48 (ys.length + 1) := ⟨by omega, by simp only [maxLen]; omega⟩
    have hr := hz.2 _ (List.getElem_mem hlt)
    have hn := hst _ (List.getElem_mem hlt)
    obtain ⟨nm, ar, rows, hT⟩ : ∃ nm ar rows, l[i] = ⟨nm, ⟨ar, rows⟩⟩ := ⟨_, _, _, rfl⟩
    rw [hT] at hr hn
    simp [hlt, hT, eTab, eReln, cStr, cI, cP, s120_5, ]
    refine call_some (e_impl_copyRelation ⟨ar, rows⟩ hr.1 hr.2) (by simp [eReln, cI, cP]) (by simp) fun n1 hs1 r1 hn1 hm1 hp1 hr1 => ?_
    obtain ⟨y, rfl, p1, k1, G1⟩ := hp1
    simp at hn1
    have u1 : ∀ g ∈ idsL (cTab ⟨nm, y⟩), g < hs1 := fun g hg => hr1 g (by
      rw [ids_agg]
      rw [cTab, idsL_app] at hg
      exact (List.mem_append.1 hg).resolve_left (by simp [cStr, idsL, D.ids]))
    simp [cReln, cI, cS, hL, hwi, s120_5, ]
    exact back2 (i + 1, ys ++ [⟨nm, y⟩]) (hI.snoc hlt (by rw [hT]; simp only [plTab, p1]; rfl) (show okTab (⟨nm, y⟩ : Tab) from ⟨hn, k1⟩) (by omega) hm1 (good_Tab G1) u1) (by simp only; omega) rfl (by simp <;> omega) (by simp) (by simp [cTab, cStr, cReln, cI, cS])
  · have hall := hI.all (by omega)
    simp [hlt, s120_5, ]
    intro γ hs' h1 hg
    obtain ⟨q1, q2⟩ := gam_at hg (k := 22) (T := 131) (sz := 3) (es := ys.map cTab) (by simp)
    have q3 := gam_row hg (k := 22) (T := 131) (sz := 3) (es := ys.map cTab) (by simp)
    clear hg
    have hp : hpLL (ys.map cTab) = false := hpLL_map (fun a => by simp) ys
    simp [hp, List.take_of_length_le]
    exact ⟨⟨⟨γ 22, some (131, 3), ys⟩⟩, by simp [cDb, cS, dSl], by simp only [plDb, plS, hall], ⟨by simp only [maxLen]; show ys.length ≤ _; omega, hI.ok⟩, good_row (fun g hg => (q1 g hg).1) (by simpa using q2) q3 ⟨hI.good.nd, hI.good.lo⟩ hI.good.wh⟩

end Go.Proofs.Ytlmnjomekklnkaa

namespace Go.Proofs.Ytlmnjomekklnkaa
open Go.Vs Go.Proofs Go
set_option maxRecDepth 100000
set_option maxHeartbeats 1000000

section
attribute [local simp] plI_id plStr_id map_plI map_plStr pS cP eDisk
theorem e_impl_readVersion (k : List PFile) (v : Int) (hk : ∀ f ∈ k, f.data.length ≤ 1000000000) (hv : inZ v) : VC Try.prog 90 [.agg ((eDisk ⟨k⟩).map V.d), .d (.int .i64 v)]
   (fun n r => ∃ y : Db, r = .tup [.agg ((cDb y).map V.d), .d (.bool (loadI k v).isSome)] ∧ (∀ d, loadI k v = some d → plDb y = d) ∧ okDb y ∧ Good (cDb y) (whDb y) n) := by
  refine VC.of E s90 (by kernel_rfl) Try.func90 (by rfl) (by kernel_rfl) (by simp [Try.f90]) (by simp [Try.f90]) s90_ok fun B => ?_
  have hrd : ∀ nm, (rdD k nm).length ≤ 1000000000 := fun nm => rdD_len hk
  have hdl := decZ_len hv
  have hdef : loadI k v = if rdB k (hdNm v) then match tabsM (tabO k v) (lns (rdD k (hdNm v))) with
    | none => none
    | some ts => if verB ⟨ts⟩ v && (verFs ⟨ts⟩ v).all (fileOk k) then some ⟨ts⟩ else none
  else none := rfl
  have fail : loadI k v = none → ∃ y : Db, V.tup [V.agg [V.d (D.sl none none [])], V.d (D.bool false)] = .tup [.agg ((cDb y).map V.d), .d (.bool (loadI k v).isSome)] ∧ (∀ d, loadI k v = some d → plDb y = d) ∧ okDb y ∧ Good (cDb y) (whDb y) B := fun hn =>
    ⟨⟨nilS⟩, by simp [hn, cDb, cS, dSl, nilS], fun d h => by rw [hn] at h; simp at h, ok_nilS, good_nilS B⟩
  simp [Try.f90, ]
  refine call_f (w_impl_FormatInt v hv) (by simp) rfl fun hs1 hh1 => ?_
  simp at hh1
  simp []
  refine ⟨by omega, ?_⟩
  refine call_f (w_impl_ReadFile k (hdNm v)) (by simp [hdNm]) rfl fun hs2 hh2 => ?_
  simp at hh2
  obtain ⟨H, hH⟩ : ∃ H, H = rdD k (hdNm v) := ⟨_, rfl⟩
  have hHl : H.length ≤ 1000000000 := by rw [hH]; exact hrd _
  rw [← hH] at hdef ⊢
  cases his : rdB k (hdNm v)
  · have hn : loadI k v = none := by rw [hdef, his]; rfl
    simp []
    simpa using fail hn
  rw [his, if_pos rfl] at hdef
  simp []
  refine call_p (w_impl_split H 10 hHl) (by simp) fun hs3 hh3 hl3 => ?_
  simp at hh3
  have hcl := cutB_len 10 H
  have hcm : ∀ x ∈ cutB 10 H, x.length ≤ H.length := fun x hx => cutB_mem hx
  have hll := lns_len H
  have hLt : lns H = (cutB 10 H).take ((cutB 10 H).length - 1) := by rw [lns, List.dropLast_eq_take]
  have hLm : ∀ x ∈ lns H, x.length ≤ H.length := fun x hx => hcm x (List.dropLast_subset _ hx)
  obtain ⟨l, hl⟩ : ∃ l, l = cutB 10 H := ⟨_, rfl⟩
  obtain ⟨L, hL⟩ : ∃ L, L = lns H := ⟨_, rfl⟩
  simp only [← hl, ← hL] at hcl hcm hll hLt hLm hdef ⊢
  have hwl : IntKind.i64.wrap ((l.length : Int) - 1) = ((l.length - 1 : Nat) : Int) := by rw [wrap64_of (by omega) (by omega)]; omega
  have hcut : List.take (l.length - 1) (List.map cStr l) = List.map cStr L := by rw [hLt, List.map_take]
  have hLn : l.length - 1 = L.length := by omega
  have hmm : min L.length l.length = L.length := by omega
  simp [hwl, hcut, hLn, hmm, ]
  refine ⟨by omega, ?_⟩
  rw [← hLn, hcut, hLn]
  refine loop_ruleL (X := Nat × List Tab) (fun p h => TbI (tabO k v) L p.1 (p.2.map plTab) ∧ (∀ t ∈ p.2, okTab t) ∧ GoodL cTab whTab B h p.2) (fun p => [(1, .d (.int .i64 v)), (2, .ptr 2 0 0), (4, .ptr 4 0 0), (6, .d (.str (decZ v))), (9, .ptr 9 0 0), (41, .d (.pl (L.map cStr))), (42, .d (.int .i64 L.length)), (43, .d (.int .i64 p.1))]) (fun p => [(2, some (.box [.d (.pl (k.map eFile))])), (4, some (.box [.d (.sl none none [])])), (9, some (.box [.own 900 0 p.2.length])), (900, some (.row 131 3 (p.2.map cTab)))]) (fun p => L.length - p.1) ?_ ?_
  · refine (lead_box 9 0 900 131 3 [.d (.sl none none [])] (by omega) (by omega) (by omega) (by simp) rfl).bind ?_
    rintro _ rfl
    exact Lead.of ⟨(0, []), ⟨.zero, by simp, .nil⟩, rfl, rfl, Nat.le_refl _, by simp, by simp⟩
  rintro ⟨i, ys⟩ hs t m ⟨hI, hok, hgd⟩ hh
  have hle := hI.le
  have hal := hI.len
  simp only [List.length_map] at hle hal hok hgd
  have hwi := wr1 (i := i) (by omega)
  by_cases hlt : i < L.length
  · have hxl := hLm _ (List.getElem_mem hlt)
    have hstp := fun t e => hI.step hlt (t := t) e
    have hbad := hI.bad hlt
    obtain ⟨x, hx⟩ : ∃ x, x = L[i] := ⟨_, rfl⟩
    rw [← hx] at hxl hstp hbad
    have hnone : tabO k v x = none → loadI k v = none := fun h => by rw [hdef, hbad h]
    simp [hlt, ← hx, cStr, ]
    refine call_p (w_impl_split x 61 (by omega)) (by simp) fun hs4 hh4 hl4 => ?_
    simp at hh4
    have hwp := cutB_pos 61 x
    have hwm : ∀ y ∈ cutB 61 x, y.length ≤ x.length := fun y hy => cutB_mem hy
    have hlm : lnNm x = (cutB 61 x)[0] := getD_el _ hwp
    have hw0l := hwm _ (List.getElem_mem hwp)
    rw [← hlm] at hw0l
    obtain ⟨ws, hws⟩ : ∃ ws, ws = cutB 61 x := ⟨_, rfl⟩
    simp only [← hws] at hwp hlm ⊢
    have htO : tabO k v x = if rdB k (runNm v (lnNm x)) && prsB (rdD k (runNm v (lnNm x))) then some ⟨lnNm x, prsR (rdD k (runNm v (lnNm x)))⟩ else none := rfl
    simp [hwp, cStr, ← hlm, ]
    refine ⟨by omega, by omega, by omega, ?_⟩
    refine call_f (w_impl_ReadFile k (runNm v (lnNm x))) (by simp [runNm]) rfl fun hs6 hh6 => ?_
    simp at hh6
    have hsl := hrd (runNm v (lnNm x))
    obtain ⟨s, hs_⟩ : ∃ s, s = rdD k (runNm v (lnNm x)) := ⟨_, rfl⟩
    obtain ⟨fb, hfb⟩ : ∃ b, b = rdB k (runNm v (lnNm x)) := ⟨_, rfl⟩
    rw [← hs_] at hsl htO ⊢
    rw [← hfb] at htO ⊢
    simp []
    refine call_some (e_impl_ParseRelation s hsl) (by simp) (by simp) fun n7 hs7 r7 hn7 hm7 hp7 hr7 => ?_
    obtain ⟨r, rfl, pr, kr, Gr⟩ := hp7
    simp at hn7
    cases g2 : fb
    · have hn := hnone (by rw [htO]; simp [g2])
      simp [cReln, cI, cS, dSl, ]
      simpa using fail hn
    cases g3 : prsB s
    · have hn := hnone (by rw [htO]; simp [g3])
      simp [cReln, cI, cS, dSl, ]
      simpa using fail hn
    have hnx := hstp ⟨lnNm x, prsR s⟩ (by rw [htO]; simp [g2, g3])
    have hL1 : LenOk 48 (ys.length + 1) := ⟨by omega, by simp only [maxLen]; omega⟩
    have u1 : ∀ g ∈ idsL (cTab ⟨lnNm x, r⟩), g < hs7 := fun g hg => hr7 g (by
      simp only [V.ids, idsVL, ids_agg, List.mem_append]
      left
      rw [cTab, idsL_app] at hg
      exact (List.mem_append.1 hg).resolve_left (by simp [cStr, idsL, D.ids]))
    rw [hal] at hL1
    simp [cReln, cI, cS, dSl, hL1, hal, hwi, ]
    refine back2 (i + 1, ys ++ [⟨lnNm x, r⟩]) ⟨?_, fun t ht => ?_, GoodL.snoc hgd (by omega) hm7 (good_Tab Gr) u1⟩ (by simp only; omega) rfl (by simp <;> omega) (by simp [cStr]) (by simp [hal, cTab, cStr, cReln, cI, cS, dSl])
    · simp only [List.map_append, List.map_cons, List.map_nil]
      have : plTab (⟨lnNm x, r⟩ : Tab) = ⟨lnNm x, prsR s⟩ := by rw [← pr]; simp [plTab]
      rw [this]; exact hnx
    · rcases List.mem_append.1 ht with ht | ht
      · exact hok t ht
      · rw [List.mem_singleton.1 ht]
        exact ⟨by simp only [okStr, maxLen]; omega, kr⟩
  have hd := hI.done (by omega)
  simp only at hd
  rw [hd] at hdef
  simp only at hdef
  have hpT : hpLL (ys.map cTab) = false := hpLL_map (fun a => by simp) ys
  have hyl : ys.length ≤ 1000000001 := by omega
  have hVF := fun (g : Option Nat) => t_impl_VersionFiles ⟨⟨g, some (131, 3), ys⟩⟩ v ⟨by simp only [maxLen]; omega, hok⟩
  have hpl : ∀ g, plDb ⟨⟨g, some (131, 3), ys⟩⟩ = ⟨ys.map plTab⟩ := fun g => rfl
  simp only [hpl] at hVF
  have hvl := verFs_len ⟨ys.map plTab⟩ v
  have hvp : verFs ⟨ys.map plTab⟩ v ≠ [] ↔ verB ⟨ys.map plTab⟩ v = true := by
    constructor
    · intro h
      unfold verFs at h
      split at h
      · assumption
      · exact absurd rfl h
    · intro h; rw [verFs_eq h]; simp
  simp [hlt, ]
  refine call_own (by simp) (fun γ n hn hg => ⟨[.agg [.d (.sl (γ 900) (some (131, 3)) (ys.map cTab))], .d (.int .i64 v)], by simp [hal, hpT, List.take_of_length_le], by simpa [cDb, cS, dSl] using hVF (γ 900)⟩) (fun n r hp => by
    obtain ⟨y, rfl, _, _, G⟩ := hp
    exact ⟨fun i hi => G.lo i (by simp only [idsL, List.append_nil]; exact hi), by simp [V.hp]⟩) fun n8 hs8 r8 hn8 hm8 hp8 hr8 => ?_
  obtain ⟨⟨yid, yT, yf⟩, rfl, py, ky, Gy⟩ := hp8
  simp at hn8
  clear hr8 Gy
  obtain ⟨fs, hfs⟩ : ∃ fs, fs = verFs ⟨ys.map plTab⟩ v := ⟨_, rfl⟩
  rw [← hfs] at py hvl hvp hdef
  have hyf : yf.map plFile = fs := py
  have hfl : yf.length = fs.length := by rw [← hyf]; simp
  simp [dSl, ]
  have hgd2 := hgd.le (h' := hs8) (by omega)
  refine loop_rule (X := Nat) (fun j => AllTo (fileOk k) fs j) (fun j => [(2, .ptr 2 0 0), (4, .ptr 4 0 0), (9, .ptr 9 0 0), (18, .d (.sl yid yT (yf.map cFile))), (85, .d (.sl yid yT (yf.map cFile))), (86, .d (.int .i64 yf.length)), (87, .d (.int .i64 j))]) (fun j => [(2, some (.box [.d (.pl (k.map eFile))])), (4, some (.box [.d (.sl none none [])])), (9, some (.box [.own 900 0 ys.length])), (900, some (.row 131 3 (ys.map cTab)))]) (fun j => fs.length - j) 0 allTo_zero (by simp) (by simp [hal]) ?_
  intro j hs9 t9 m9 hJ hh9
  by_cases hjl : j < fs.length
  · have hwj := wr1 (i := j) (by omega)
    have hjy : j < yf.length := by omega
    have hfj : fs[j] = plFile yf[j] := by simp [← hyf]
    have hst := fun h => allTo_step hJ hjl h
    have hbd := fun h => all_bad (p := fileOk k) (l := fs) (i := j) hjl h
    rw [hfj] at hst hbd
    obtain ⟨⟨fn, fd⟩, hf⟩ : ∃ f, f = yf[j] := ⟨_, rfl⟩
    rw [← hf] at hst hbd
    have hfo : fileOk k (plFile ⟨fn, fd⟩) = (rdB k fn && decide (rdD k fn = fd)) := rfl
    rw [hfo] at hst hbd
    have hnone : fs.all (fileOk k) = false → loadI k v = none := fun h => by rw [hdef, h]; simp
    simp [hjl, hjy, hfl, ← hf, cFile, cStr, ]
    refine call_f (w_impl_ReadFile k fn) (by simp) rfl fun hs10 hh10 => ?_
    simp at hh10
    cases g1 : rdB k fn
    · have hn := hnone (hbd (by rw [g1]; rfl))
      simp []
      simpa using fail hn
    by_cases g2 : rdD k fn = fd
    · simp [g2, hwj, ]
      exact back (j + 1) (hst (by rw [g1, g2]; simp)) (by omega) rfl (by simp <;> omega) (by simp [hfl, cFile, cStr]) (by simp [hal])
    · have hn := hnone (hbd (by rw [g1]; simpa using g2))
      simp [g2, ]
      simpa using fail hn
  · have hall := allTo_done hJ (by omega)
    rw [hall, Bool.and_true] at hdef
    have hres : (loadI k v).isSome = decide (0 < fs.length) ∧ ∀ d, loadI k v = some d → (⟨ys.map plTab⟩ : PDb) = d := by
      rw [hdef]
      by_cases hb : verB ⟨ys.map plTab⟩ v = true
      · have := List.length_pos_iff.2 (hvp.2 hb)
        rw [if_pos hb]
        exact ⟨by simp [this], fun d h => by simpa using h⟩
      · rw [if_neg hb]
        have h0 : fs = [] := Classical.byContradiction fun h => hb (hvp.1 h)
        exact ⟨by simp [h0], fun d h => by simp at h⟩
    simp [hjl, hfl, ]
    intro γ hs' h1 hg
    obtain ⟨q1, q2⟩ := gam_at hg (k := 900) (T := 131) (sz := 3) (es := ys.map cTab) (by simp)
    have q3 := gam_row hg (k := 900) (T := 131) (sz := 3) (es := ys.map cTab) (by simp)
    clear hg
    simp [hal, hpT, List.take_of_length_le]
    exact ⟨⟨⟨γ 900, some (131, 3), ys⟩⟩, by simp [cDb, cS, dSl, hres.1, List.take_of_length_le], hres.2, ⟨by simp only [maxLen]; show ys.length ≤ _; omega, hok⟩, good_row (fun g hg => (q1 g hg).1) (by simpa using q2) q3 ⟨hgd2.nd, hgd2.lo⟩ hgd2.wh⟩
theorem e_impl_RecoverDatabase (k : List PFile) (hk : ∀ f ∈ k, f.data.length ≤ 1000000000) : VC Try.prog 25 [.agg ((eDisk ⟨k⟩).map V.d)]
   (fun n r => ∃ y : Db, r = .tup [.agg ((cDb y).map V.d), .d (.int .i64 (newV k)), .d (.bool (recB k))] ∧ plDb y = recP k ∧ okDb y ∧ Good (cDb y) (whDb y) n) := by
  refine VC.of E s25 (by kernel_rfl) Try.func25 (by rfl) (by kernel_rfl) (by simp [Try.f25]) (by simp [Try.f25]) s25_ok fun B => ?_
  simp [Try.f25, ]
  refine loop_rule (X := Nat) (fun v => NewI k v) (fun v => [(1, .ptr 1 0 0), (2, .ptr 2 0 0), (5, .d (.int .i64 v))]) (fun v => [(1, some (.box [.d (.pl (k.map eFile))])), (2, some (.box [.d (.sl none none [])]))]) (fun v => v) 99 .top (by simp) (by simp) ?_
  intro v hs t m hI hh
  have hle := hI.le
  cases v with
  | zero =>
    have h := hI.zero
    simp [h.1, h.2.2, ]
    exact ⟨⟨nilS⟩, by simp [cDb, cS, dSl, nilS], by rw [h.2.1]; simp [plDb, nilS, plS], ok_nilS, good_nilS B⟩
  | succ v =>
  have hvz : inZ ((v + 1 : Nat) : Int) := by simp only [inZ]; omega
  obtain ⟨u, hu⟩ : ∃ u : Nat, u = v + 1 := ⟨_, rfl⟩
  have hup : 0 < u := by omega
  have hwm : IntKind.i64.wrap ((u : Int) - 1) = v := by rw [wrap64_of (by omega) (by omega)]; omega
  have hdn := hI.down
  have hht := fun d => hI.hit (d := d)
  rw [← hu] at hvz hdn hht ⊢
  clear hI
  simp [hup, ]
  refine call_some (e_impl_readVersion k u hk hvz) (by simp) (by simp) fun n1 hs1 r1 hn1 hm1 hp1 hr1 => ?_
  obtain ⟨y, rfl, p1, k1, G1⟩ := hp1
  simp at hn1
  rw [load_eq] at p1
  rw [load_eq]
  cases hl : loadS k u with
  | none =>
    have hn := hdn hl
    simp [cDb, cS, dSl, hwm, ]
    exact back v hn (by omega) rfl (by simp <;> omega) (by simp) (by simp)
  | some d =>
    have hn := hht d hl
    simp [cDb, cS, dSl, ]
    exact ⟨y, by simp [cDb, cS, dSl, hn.1, hn.2.2], by rw [hn.2.1]; exact p1 d hl, k1, G1.le (by omega)⟩
theorem w_impl_NewestVersion (k : List PFile) (hk : ∀ f ∈ k, f.data.length ≤ 1000000000) : VC Try.prog 18 [.agg ((eDisk ⟨k⟩).map V.d)] (fun _ r => r = .d (.int .i64 (newV k))) := by
  refine VC.of E s18 (by kernel_rfl) Try.func18 (by rfl) (by kernel_rfl) (by simp [Try.f18]) (by simp [Try.f18]) s18_ok fun B => ?_
  simp [Try.f18, ]
  refine call_some (e_impl_RecoverDatabase k hk) (by simp) (by simp) fun n1 hs1 r1 hn1 hm1 hp1 hr1 => ?_
  obtain ⟨y, rfl, p1, k1, G1⟩ := hp1
  simp [cDb, cS, dSl, ]
end

end Go.Proofs.Ytlmnjomekklnkaa

namespace Go.Proofs.Ytlmnjomekklnkaa
open Go.Vs Go.Proofs Go
set_option maxRecDepth 100000
set_option maxHeartbeats 1000000

section
attribute [local simp] plI_id plStr_id map_plI map_plStr pS cP eDisk
theorem t_impl_CommitDatabase (K : Disk) (d : Db) (n : Int) (k : List PFile) (hKk : plDisk K = ⟨k⟩) (hd : okDb d) (hk : ∀ f ∈ k, fOk f) (hkl : k.length ≤ 1000000000) : VC Try.prog 32 [.agg ((cDisk K).map V.d), .agg ((cDb d).map V.d), .d (.int .i64 n)]
   (fun m r => ∃ y : Disk, r = .tup [.agg ((cDisk y).map V.d), .d (.bool (comB k (plDb d) n))] ∧ plDisk y = ⟨comP k (plDb d) n⟩ ∧ okDisk y ∧ Good (cDisk y) (whDisk y) m) := by
  refine VC.of E s32 (by kernel_rfl) Try.func32 (by rfl) (by kernel_rfl) (by simp [Try.f32]) (by simp [Try.f32]) s32_ok fun B => ?_
  have hkd : ∀ f ∈ k, f.data.length ≤ 1000000000 := fun f hf => (hk f hf).2
  have hnle := newF_le k 99
  have hvw : IntKind.i64.wrap ((newV k : Int) + 1) = ((newV k + 1 : Nat) : Int) := by rw [wrap64_of (by simp only [newV]; omega) (by simp only [newV]; omega)]; simp
  have hvz : inZ ((newV k + 1 : Nat) : Int) := by simp only [inZ, newV]; omega
  have hdl := decZ_len hvz
  have hfl := verFs_len (plDb d) ((newV k + 1 : Nat) : Int)
  have hfo := verFs_ok (d := plDb d) hvz
  have hG : comG k (plDb d) = (decide (verFs (plDb d) ((newV k + 1 : Nat) : Int) ≠ []) && dskOk k) := rfl
  have hP : comP k (plDb d) n = if comG k (plDb d) then wrAll (wout k (hdNm ((newV k + 1 : Nat) : Int))) ((verFs (plDb d) ((newV k + 1 : Nat) : Int)).take n.toNat) else k := rfl
  have hB : comB k (plDb d) n = (comG k (plDb d) && decide (((verFs (plDb d) ((newV k + 1 : Nat) : Int)).length : Int) ≤ n)) := rfl
  have hVF := t_impl_VersionFiles d ((newV k + 1 : Nat) : Int) hd
  have hrK := rp_dsk hKk
  have heK := er_dsk hKk
  obtain ⟨⟨Kid, KT, Kx⟩⟩ := K
  obtain ⟨⟨did, dT, dx⟩⟩ := d
  simp only at heK
  obtain ⟨P, hPe⟩ : ∃ P, P = plDb ⟨⟨did, dT, dx⟩⟩ := ⟨_, rfl⟩
  rw [← hPe] at hfl hfo hG hP hB hVF ⊢
  have copy : ∀ (hh : comG k P = false), VC Try.prog 98 [.agg ((cDisk ⟨⟨Kid, KT, Kx⟩⟩).map V.d)] (fun m v => ∃ y : Disk, v = .agg ((cDisk y).map V.d) ∧ plDisk y = ⟨comP k P n⟩ ∧ okDisk y ∧ Good (cDisk y) (whDisk y) m) := fun hh => by
    have h := (e_impl_copyDisk k hk hkl).er (As := [.agg ((cDisk ⟨⟨Kid, KT, Kx⟩⟩).map V.d)]) (by simp only [rpL, hrK])
    rw [hP, if_neg (by rw [hh]; simp)]
    exact h
  simp [Try.f32, s32_5, s32_5, cDisk, cDb, cS, dSl]
  refine call_f (w_impl_NewestVersion k hkd) (by simp [heK]) rfl fun hs1 hh1 => ?_
  simp at hh1
  simp [hvw, s32_5, ]
  refine call_some hVF (by simp [cDb, cS, dSl]) (by simp) fun n2 hs2 r2 hn2 hm2 hp2 hr2 => ?_
  obtain ⟨⟨yid, yT, yf⟩, rfl, py, ky, Gy⟩ := hp2
  simp at hn2
  clear hr2 Gy
  obtain ⟨u, hu⟩ : ∃ u : Int, u = ((newV k + 1 : Nat) : Int) := ⟨_, rfl⟩
  rw [← hu] at hvw hvz hfl hfo hG hP hB py hdl
  obtain ⟨fs, hfs⟩ : ∃ fs, fs = verFs P u := ⟨_, rfl⟩
  rw [← hfs] at hfl hfo hG hP hB py
  have hyf : yf.map plFile = fs := py
  have hfn : yf.length = fs.length := by rw [← hyf]; simp
  by_cases hf : fs = []
  · have hg : comG k P = false := by rw [hG]; simp [hf]
    have hy0 : yf = [] := by rw [hf] at hfn; simpa using hfn
    rw [hg, Bool.false_and] at hB
    simp [hy0, dSl, s32_5, ]
    refine call_some (copy hg) (by simp [cDisk, cS, dSl]) (by simp [cDisk, cS, dSl]) fun n3 hs3 r3 hn3 hm3 hp3 hr3 => ?_
    obtain ⟨y, rfl, p3, k3, G3⟩ := hp3
    simp at hn3
    simp [cDisk, cS, dSl, hB, s32_5, ]
    exact ⟨y, by simp [cDisk, cS, dSl], p3, k3, G3.le (by omega)⟩
  have hfp : ¬ yf.length = 0 := by rw [hfn]; simpa using hf
  have hyne : ¬ yf = [] := fun h => hfp (by rw [h]; rfl)
  simp [hyne, dSl, s32_5, ]
  refine call_f (w_impl_IsValidDisk k) (by simp [heK]) rfl fun hs3 hh3 => ?_
  simp at hh3
  cases hdk : dskOk k
  · have hg : comG k P = false := by rw [hG]; simp [hdk]
    rw [hg, Bool.false_and] at hB
    simp [s32_5, ]
    refine call_some (copy hg) (by simp [cDisk, cS, dSl]) (by simp [cDisk, cS, dSl]) fun n4 hs4 r4 hn4 hm4 hp4 hr4 => ?_
    obtain ⟨y, rfl, p3, k3, G3⟩ := hp4
    simp at hn4
    simp [cDisk, cS, dSl, hB, s32_5, ]
    exact ⟨y, by simp [cDisk, cS, dSl], p3, k3, G3.le (by omega)⟩
  have hg : comG k P = true := by rw [hG]; simp [hdk, hf]
  rw [if_pos hg] at hP
  rw [hg, Bool.true_and] at hB
  have hu1 : ((newV k : Int) + 1) = u := by rw [hu]; simp
  rw [hu1] at hvw
  simp [hu1, hvw, s32_5, ]
  repeat' apply And.intro
  all_goals
    refine call_f (w_impl_FormatInt u hvz) (by simp) rfl fun hs4 hh4 => ?_
    simp at hh4
    simp [s32_5, ]
    refine ⟨by omega, ?_⟩
  all_goals (repeat' apply And.intro)
  all_goals
    refine call_some ((e_impl_removed k (hdNm u) hk hkl).er (As := [.agg ((cDisk ⟨⟨Kid, KT, Kx⟩⟩).map V.d), .d (.str (hdNm u))]) (by simp only [rpL, hrK]; rfl)) (by simp [cDisk, cS, dSl, hdNm]) (by simp [cDisk, cS, dSl, hdNm]) fun n5 hs5 r5 hn5 hm5 hp5 hr5 => ?_
    obtain ⟨Y0, rfl, p5, k5, G5⟩ := hp5
    simp at hn5
    have hwl := wout_len k (hdNm u)
    have hwo := wout_ok (nm := hdNm u) hk
    obtain ⟨x0, hx0⟩ : ∃ x, x = wout k (hdNm u) := ⟨_, rfl⟩
    rw [← hx0] at hP hwl hwo p5
    simp [cDisk, cS, dSl, s32_5, ]
    refine loop_rule (X := Nat × Disk) (fun p => p.1 ≤ fs.length ∧ plDisk p.2 = ⟨wrAll x0 ((fs.take n.toNat).take p.1)⟩ ∧ okDisk p.2 ∧ Good (cDisk p.2) (whDisk p.2) B) (fun p => [(2, .d (.int .i64 n)), (6, .ptr 6 0 0), (9, .d (.sl yid yT (yf.map cFile))), (10, .ptr 10 0 0), (34, .d (.sl yid yT (yf.map cFile))), (35, .d (.int .i64 yf.length)), (36, .d (.int .i64 p.1))]) (fun p => [(6, some (.box [.d (.sl none none [])])), (10, some (.box ((cDisk p.2).map V.d)))]) (fun p => fs.length - p.1) (0, Y0) ⟨by simp, by simpa [wrAll] using p5, k5, G5.le (by omega)⟩ (by simp) (by simp [cDisk, cS, dSl]) ?_
    rintro ⟨i, ⟨⟨Yid, YT, Yx⟩⟩⟩ hs t m ⟨hi, hp, hok, hgd⟩ hh
    simp only at hi hp hok hgd
    by_cases hlt : i < fs.length
    · have hwi := wr1 (i := i) (by omega)
      have hly : i < yf.length := by omega
      have hfj : fs[i] = plFile yf[i] := by simp [← hyf]
      have hfo1 := hfo _ (List.getElem_mem hlt)
      obtain ⟨⟨fn, fd⟩, hf'⟩ : ∃ f, f = yf[i] := ⟨_, rfl⟩
      have hfe : fs[i] = ⟨fn, fd⟩ := by rw [hfj, ← hf']; rfl
      rw [hfe] at hfo1
      by_cases hin : (i : Int) < n
      · have hst := take2_step hlt hin
        rw [hfe] at hst
        have hXl := wrAll_len ((fs.take n.toNat).take i) x0
        have hXo := wrAll_ok (fs := (fs.take n.toNat).take i) hwo fun f hf => hfo f (List.mem_of_mem_take (List.mem_of_mem_take hf))
        have hl7 : ((fs.take n.toNat).take i).length ≤ 7 := by rw [List.length_take, List.length_take]; omega
        have hsn := wrAll_snoc (k := x0) (fs := (fs.take n.toNat).take i) (f := ⟨fn, fd⟩)
        rw [← hst] at hsn
        obtain ⟨X, hX⟩ : ∃ X, X = wrAll x0 ((fs.take n.toNat).take i) := ⟨_, rfl⟩
        rw [← hX] at hp hXl hXo hsn
        have hrY := rp_dsk hp
        simp [hlt, hly, hfn, hin, ← hf', cDisk, cFile, cStr, cS, dSl, s32_5, ]
        refine call_some ((e_impl_WriteFile X fn fd hXo hfo1 (by omega)).er (As := [.agg ((cDisk ⟨⟨Yid, YT, Yx⟩⟩).map V.d), .d (.str fn), .d (.str fd)]) (by simp only [rpL, hrY]; rfl)) (by simp [cDisk, cS, dSl]) (by simp [cDisk, cS, dSl]) fun n6 hs6 r6 hn6 hm6 hp6 hr6 => ?_
        obtain ⟨Z, rfl, p6, k6, G6⟩ := hp6
        simp at hn6
        simp [cDisk, cS, dSl, hwi, s32_5, ]
        exact back (i + 1, Z) ⟨by simp only; omega, by rw [p6, ← hsn], k6, G6.le (by omega)⟩ (by simp only; omega) rfl (by simp <;> omega) (by simp [hfn, cFile, cStr]) (by simp [cDisk, cS, dSl])
      · have hst := take2_stop (fs := fs) hin
        simp [hlt, hly, hfn, hin, ← hf', hwi, cDisk, cFile, cStr, cS, dSl, s32_5, ]
        exact back (i + 1, ⟨⟨Yid, YT, Yx⟩⟩) ⟨by simp only; omega, by simp only; rw [hst]; exact hp, hok, hgd⟩ (by simp only; omega) rfl (by simp <;> omega) (by simp [hfn, cFile, cStr]) (by simp [cDisk, cS, dSl])
    · have hend : (fs.take n.toNat).take i = fs.take n.toNat := List.take_of_length_le (by rw [List.length_take]; omega)
      rw [hend, ← hP] at hp
      simp [hlt, hfn, hB, cDisk, cS, dSl, s32_5, ]
      exact ⟨⟨⟨Yid, YT, Yx⟩⟩, by simp [cDisk, cS, dSl], hp, hok, hgd⟩
theorem e_impl_DeleteObsoleteFiles (k : List PFile) (hk : ∀ f ∈ k, fOk f) (hkl : k.length ≤ 1000000000) : VC Try.prog 21 [.agg ((eDisk ⟨k⟩).map V.d)]
   (fun n v => ∃ y : Disk, v = .agg ((cDisk y).map V.d) ∧ plDisk y = ⟨delP k⟩ ∧ okDisk y ∧ Good (cDisk y) (whDisk y) n) := by
  refine VC.of E s21 (by kernel_rfl) Try.func21 (by rfl) (by kernel_rfl) (by simp [Try.f21]) (by simp [Try.f21]) s21_ok fun B => ?_
  have hkd : ∀ f ∈ k, f.data.length ≤ 1000000000 := fun f hf => (hk f hf).2
  have hD : delP k = if recB k then keepP k (verFs (recP k) (newV k)) else [] := rfl
  simp [Try.f21, ]
  refine call_some (e_impl_RecoverDatabase k hkd) (by simp) (by simp) fun n1 hs1 r1 hn1 hm1 hp1 hr1 => ?_
  obtain ⟨⟨⟨did, dT, dx⟩⟩, rfl, p1, k1, G1⟩ := hp1
  simp at hn1
  clear hr1 G1
  cases hb : recB k
  · have hDf : delP k = [] := by rw [hD, hb]; rfl
    simp [cDb, cS, dSl, ]
    exact ⟨dskN, by simp [dskN, cDisk, cS, dSl, nilS], by rw [hDf, pl_dskN], ok_dskN, good_dskN B⟩
  rw [hb, if_pos rfl] at hD
  have hVF := t_impl_VersionFiles ⟨⟨did, dT, dx⟩⟩ (newV k) k1
  rw [p1] at hVF
  have hfl := verFs_len (recP k) (newV k)
  obtain ⟨fs, hfs⟩ : ∃ fs, fs = verFs (recP k) (newV k) := ⟨_, rfl⟩
  rw [← hfs] at hVF hfl hD
  simp [cDb, cS, dSl, ]
  refine loop_ruleL (X := Nat) (fun i _ => i ≤ k.length) (fun i => [(2, .ptr 2 0 0), (3, .ptr 3 0 0), (4, .d (.int .i64 (newV k))), (6, .ptr 6 0 0), (21, .d (.pl (k.map eFile))), (22, .d (.int .i64 k.length)), (23, .d (.int .i64 i))]) (fun i => [(2, some (.box [.d (.sl none none [])])), (3, some (.box [.d (.sl did dT (dx.map cTab))])), (6, some (.box [.own 900 0 (keepP (k.take i) fs).length])), (900, some (.row 59 2 ((keepP (k.take i) fs).map eFile)))]) (fun i => k.length - i) ?_ ?_
  · refine (lead_box 6 0 900 59 2 [.d (.sl none none [])] (by omega) (by omega) (by omega) (by simp) rfl).bind ?_
    rintro _ rfl
    exact Lead.of ⟨0, by omega, rfl, rfl, Nat.le_refl _, by simp, by simp [keepP]⟩
  intro i hs t m hi hh
  by_cases hlt : i < k.length
  case neg =>
    have hn : i = k.length := by omega
    subst hn
    have hkp := keepP_len fs k
    have hkl2 : (keepP k fs).length ≤ 7000000000 := by
      have : k.length * fs.length ≤ 1000000000 * 7 := Nat.mul_le_mul (by omega) hfl
      omega
    have hko := keepP_ok (fs := fs) hk
    rw [hD]
    simp [hlt, List.take_of_length_le, ]
    intro γ hs' h1 hg
    obtain ⟨q1, q2⟩ := gam_at hg (k := 900) (T := 59) (sz := 2) (es := (keepP k fs).map eFile) (by simp [List.take_of_length_le])
    clear hg
    have hp := hp_files (keepP k fs)
    simp [hp, List.take_of_length_le]
    exact ⟨dskT (γ 900) (59) (keepP k fs), by simp [dskT_cells, List.take_of_length_le], by rw [pl_dskT], ok_dskT hko (by omega), good_dskT (fun g hg => (q1 g hg).1) q2⟩
  have hwi := wr1 (i := i) (by omega)
  have hkp := keepP_len fs (k.take i)
  have hstp := keepP_step (fs := fs) hlt
  obtain ⟨K0, hK0⟩ : ∃ K0, K0 = keepP (k.take i) fs := ⟨_, rfl⟩
  rw [← hK0] at hstp hkp ⊢
  have hkl2 : K0.length ≤ 7000000000 := by
    rw [List.length_take] at hkp
    have : min i k.length * fs.length ≤ 1000000000 * 7 := Nat.mul_le_mul (by omega) hfl
    omega
  obtain ⟨fn, fd, hf⟩ : ∃ fn fd, k[i] = ⟨fn, fd⟩ := ⟨_, _, rfl⟩
  rw [hf] at hstp
  refine anyQ2 fun Q => ?_
  simp [hlt, hf, eFile, cStr, ]
  refine call_some hVF (by simp [cDb, cS, dSl]) (by simp) fun n2 hs2 r2 hn2 hm2 hp2 hr2 => ?_
  obtain ⟨⟨yid, yT, yf⟩, rfl, py, ky, Gy⟩ := hp2
  simp at hn2
  clear hr2 Gy
  have hyf : yf.map plFile = fs := py
  have hfn : yf.length = fs.length := by rw [← hyf]; simp
  simp [dSl, ]
  refine loop_rule (X := Nat) (fun j => j ≤ fs.length) (fun j => [(2, .ptr 2 0 0), (3, .ptr 3 0 0), (4, .d (.int .i64 (newV k))), (6, .ptr 6 0 0), (8, .ptr 8 0 0), (21, .d (.pl (k.map eFile))), (22, .d (.int .i64 k.length)), (23, .d (.int .i64 i)), (29, .d (.sl yid yT (yf.map cFile))), (30, .d (.int .i64 yf.length)), (31, .d (.int .i64 j))]) (fun j => [(2, some (.box [.d (.sl none none [])])), (3, some (.box [.d (.sl did dT (dx.map cTab))])), (8, some (.box [.d (.str fn), .d (.str fd)])), (6, some (.box [.own 900 0 (K0 ++ keep1 ⟨fn, fd⟩ (fs.take j)).length])), (900, some (.row 59 2 ((K0 ++ keep1 ⟨fn, fd⟩ (fs.take j)).map eFile)))]) (fun j => fs.length - j) 0 (by simp) (by simp [eFile, cStr]) (by simp [keep1]) ?_
  intro j hs5 t5 m5 hj hh5
  by_cases hjl : j < fs.length
  · have hwj := wr1 (i := j) (by omega)
    have hjy : j < yf.length := by omega
    have hk1 := keep1_len ⟨fn, fd⟩ (fs.take j)
    rw [List.length_take] at hk1
    have hst1 := keep1_step (f := ⟨fn, fd⟩) hjl
    obtain ⟨K1, hK1⟩ : ∃ K1, K1 = keep1 ⟨fn, fd⟩ (fs.take j) := ⟨_, rfl⟩
    rw [← hK1] at hst1 hk1 ⊢
    have hfj : fs[j] = plFile yf[j] := by simp [← hyf]
    obtain ⟨⟨gn, gd⟩, hg⟩ : ∃ f, f = yf[j] := ⟨_, rfl⟩
    have hge : fs[j] = ⟨gn, gd⟩ := by rw [hfj, ← hg]; rfl
    rw [hge] at hst1
    simp only at hst1
    have hL1 : LenOk 32 (K0.length + K1.length + 1) := ⟨by omega, by simp only [maxLen]; omega⟩
    refine anyQ fun Q' => ?_
    by_cases e : gn = fn
    · have e' : fn = gn := e.symm
      rw [if_pos e] at hst1
      simp [hlt, hjl, hjy, hfn, ← hg, e, cFile, eFile, cStr, hwj, hL1, List.take_of_length_le, ]
      exact back (j + 1) (by omega) (by omega) rfl (by simp <;> omega) (by simp [hfn, cFile, eFile, cStr]) (by simp [hst1, eFile, cStr, List.take_of_length_le, Nat.add_assoc])
    · have e' : ¬ fn = gn := fun h => e h.symm
      rw [if_neg e, List.append_nil] at hst1
      simp [hlt, hjl, hjy, hfn, ← hg, e', cFile, eFile, cStr, hwj, List.take_of_length_le, ]
      exact back (j + 1) (by omega) (by omega) rfl (by simp <;> omega) (by simp [hfn, cFile, eFile, cStr]) (by simp [hst1])
  · have hjn : j = fs.length := by omega
    subst hjn
    rw [List.take_of_length_le (Nat.le_refl _)]
    rw [← hstp]
    simp [hfn, hwi, ]
    exact back2 (i + 1) (by omega) (by omega) rfl (by simp <;> omega) (by simp [eFile, cStr]) (by simp)
end

end Go.Proofs.Ytlmnjomekklnkaa

namespace Go.Proofs.Ytlmnjomekklnkaa
open Go.Vs Go.Proofs Go
set_option maxRecDepth 100000
set_option maxHeartbeats 1000000

section
attribute [local simp] plI_id plStr_id map_plI map_plStr pS cP cI cStr cU8 cB eDisk eFile eTab eReln eDb
theorem w_spec_l32Load (k : List PFile) (v : Int) (hk : ∀ f ∈ k, f.data.length ≤ 1000000000) (hv : inZ v) : VC Try.prog 85 [.agg ((eDisk ⟨k⟩).map V.d), .d (.int .i64 v)] (fun _ r => r = .tup [.agg ((eDb ((loadS k v).getD ⟨[]⟩)).map V.d), .d (.bool (loadS k v).isSome)]) := by
  refine VC.ofL EP s85 (by kernel_rfl) Try.func85 (by rfl) (by kernel_rfl) (by simp [Try.f85]) (by simp [Try.f85]) s85_ok fun B hl => ?_
  have hrd : ∀ nm, (rdD k nm).length ≤ 1000000000 := fun nm => rdD_len hk
  have hdef : loadS k v = if rdB k (hdNm v) then match tabsM (tabS k v) (lns (rdD k (hdNm v))) with
    | none => none
    | some ts => if verB ⟨ts⟩ v && headEq ts (rdD k (hdNm v)) then some ⟨ts⟩ else none
  else none := rfl
  simp [Try.f85, s85_1, s85_8, s85_10, s85_12, s85_1, s85_8, s85_10, s85_12, ]
  refine call_f (w_spec_l32Head v hv) (by simp) rfl fun hs1 hh1 => ?_
  simp at hh1
  simp [s85_1, s85_8, s85_10, s85_12, ]
  refine call_f (w_spec_ReadFile k ([109] ++ decZ v)) (by simp) rfl fun hs2 hh2 => ?_
  simp at hh2
  have hnm : [109] ++ decZ v = hdNm v := rfl
  rw [hnm]
  obtain ⟨H, hH⟩ : ∃ H, H = rdD k (hdNm v) := ⟨_, rfl⟩
  have hHl : H.length ≤ 1000000000 := by rw [hH]; exact hrd _
  obtain ⟨is, his⟩ : ∃ b, b = rdB k (hdNm v) := ⟨_, rfl⟩
  rw [← hH, ← his] at hdef ⊢
  simp [s85_1, s85_8, s85_10, s85_12, ]
  refine call_p (w_spec_l5Cut H 10 hHl) (by simp) fun hs3 hh3 hl3 => ?_
  simp at hh3
  have hcl := cutB_len 10 H
  have hcm : ∀ x ∈ cutB 10 H, x.length ≤ H.length := fun x hx => cutB_mem hx
  have hll := lns_len H
  have hlg : ∀ (i : Nat) (h : i < (lns H).length), (lns H)[i] = (cutB 10 H)[i]'(by omega) := fun i h => by simp [lns]
  obtain ⟨l, hl⟩ : ∃ l, l = cutB 10 H := ⟨_, rfl⟩
  obtain ⟨L, hL⟩ : ∃ L, L = lns H := ⟨_, rfl⟩
  simp only [← hl, ← hL] at hcl hcm hll hlg hdef ⊢
  simp [s85_1, s85_8, s85_10, s85_12, ]
  refine loop_ruleL (X := Nat × List PTab) (fun p _ => TbI (tabS k v) L p.1 p.2 ∧ (∀ t ∈ p.2, t.name.length ≤ 1000000000) ∧ (is = false → p.1 = 0)) (fun p => [(1, .d (.int .i64 v)), (2, .ptr 2 0 0), (4, .ptr 4 0 0), (6, .d (.str H)), (7, .d (.bool is)), (8, .ptr 8 0 0), (9, .d (.pl (l.map cStr))), (10, .d (.int .i64 p.1))]) (fun p => [(2, some (.box [.d (.pl (k.map eFile))])), (4, some (.box [.d (.sl none none [])])), (8, some (.box [.own 900 0 p.2.length])), (900, some (.row 131 3 (p.2.map eTab)))]) (fun p => L.length - p.1) ?_ ?_
  · refine (lead_box 8 0 900 131 3 [.d (.sl none none [])] (by omega) (by omega) (by omega) (by simp) rfl).bind ?_
    rintro _ rfl
    exact Lead.of ⟨(0, []), ⟨.zero, by simp, by simp⟩, rfl, rfl, Nat.le_refl _, by simp, by simp⟩
  rintro ⟨i, acc⟩ hs t m ⟨hI, hnl, hz0⟩ hh
  have hle := hI.le
  have hal := hI.len
  simp only at hle hal hnl hz0
  have hwi := wr1 (i := i) (by omega)
  cases hisb : is
  · have hn : loadS k v = none := by rw [hdef, hisb]; rfl
    by_cases hlt : (i : Int) + 1 < l.length
    · simp [hwi, hlt, hisb, hn, s85_1, s85_8, s85_10, s85_12, ]
    · simp [hwi, hlt, hisb, hn, s85_1, s85_8, s85_10, s85_12, ]
  rw [hisb, if_pos rfl] at hdef
  by_cases hlt : i < L.length
  case neg =>
    have hlt' : ¬ (i : Int) + 1 < l.length := by omega
    have hd := hI.done (by omega)
    simp only at hd
    rw [hd] at hdef
    simp only at hdef
    have hst : ∀ t ∈ acc, t.name.length ≤ maxLen := fun t ht => by have := hnl t ht; simp only [maxLen]; omega
    simp [hwi, hlt', hisb, List.take_of_length_le, s85_1, s85_8, s85_10, s85_12, ]
    refine call_f (w_spec_IsValidDatabase ⟨acc⟩ hst) (by simp [List.take_of_length_le]) rfl fun hs4 hh4 => ?_
    simp at hh4
    cases h1 : dbOk ⟨acc⟩
    · have hn : loadS k v = none := by rw [hdef]; simp [verB, h1]
      simp [hn, s85_1, s85_8, s85_10, s85_12, ]
    simp [s85_1, s85_8, s85_10, s85_12, ]
    refine call_f (w_spec_l1In v 1 99) (by simp) rfl fun hs5 hh5 => ?_
    simp at hh5
    cases h2 : inR v 1 99
    · have hn : loadS k v = none := by rw [hdef]; simp [verB, h2]
      simp [hn, s85_1, s85_8, s85_10, s85_12, ]
    have hvb : verB ⟨acc⟩ v = true := by simp [verB, h1, h2]
    simp [List.take_of_length_le, s85_1, s85_8, s85_10, s85_12, ]
    refine call_p (w_spec_VersionFiles ⟨acc⟩ v hst) (by simp [List.take_of_length_le]) fun hs6 hh6 hl6 => ?_
    simp at hh6
    have hvf := verFs_eq hvb
    simp only at hvf
    have hrl : (runs v acc).length = acc.length := by simp
    have hwl : IntKind.i64.wrap (acc.length : Int) = acc.length := wrap64_of (by omega) (by omega)
    have hlast : ∀ X, (List.map eFile (runs v acc) ++ [[D.str (hdNm v), D.str X]])[acc.length]? = some [D.str (hdNm v), D.str X] := fun X => by rw [List.getElem?_append_right (by simp)]; simp
    rw [hvf]
    rw [hvb, Bool.true_and] at hdef
    by_cases e : headTx acc ++ decZ (ckS (headTx acc)) = H
    · rw [if_pos (by simpa [headEq] using e)] at hdef
      simp [hwl, hlast, hdef, e, List.take_of_length_le, s85_1, s85_8, s85_10, s85_12, ]
    · rw [if_neg (by simpa [headEq] using e)] at hdef
      simp [hwl, hlast, hdef, e, List.take_of_length_le, s85_1, s85_8, s85_10, s85_12, ]
  have hlt' : (i : Int) + 1 < l.length := by omega
  have hil : i < l.length := by omega
  have hxl := hcm _ (List.getElem_mem hil)
  have hstp := fun t e => hI.step hlt (t := t) e
  have hbad := hI.bad hlt
  rw [hlg i hlt] at hstp hbad
  obtain ⟨x, hx⟩ : ∃ x, x = l[i] := ⟨_, rfl⟩
  rw [← hx] at hxl hstp hbad
  simp [hwi, hlt', hil, hisb, ← hx, s85_1, s85_8, s85_10, s85_12, ]
  refine call_p (w_spec_l5Cut x 61 (by omega)) (by simp) fun hs4 hh4 hl4 => ?_
  simp at hh4
  have hwp := cutB_pos 61 x
  have hwm : ∀ y ∈ cutB 61 x, y.length ≤ x.length := fun y hy => cutB_mem hy
  have hw0 : (cutB 61 x).getD 0 [] = (cutB 61 x)[0] := getD_el _ hwp
  have hlm : lnNm x = (cutB 61 x)[0] := hw0
  have hw0l := hwm _ (List.getElem_mem hwp)
  have hck : ∀ s, lnCk x s = (decide ((cutB 61 x).length = 2) && decide (decZ (ckS s) = (cutB 61 x).getD 1 [])) := fun s => rfl
  obtain ⟨ws, hws⟩ : ∃ ws, ws = cutB 61 x := ⟨_, rfl⟩
  simp only [← hws] at hwp hwm hlm hw0l hck ⊢
  have htS : tabS k v x = if lnCk x (rdD k (runNm v (lnNm x))) then tabO k v x else none := rfl
  have htO : tabO k v x = if rdB k (runNm v (lnNm x)) && prsB (rdD k (runNm v (lnNm x))) then some ⟨lnNm x, prsR (rdD k (runNm v (lnNm x)))⟩ else none := rfl
  simp [hwp, s85_1, s85_8, s85_10, s85_12, ]
  refine call_f (w_spec_l32Run v ws[0] hv (by omega)) (by simp) rfl fun hs5 hh5 => ?_
  simp at hh5
  simp [hwp, s85_1, s85_8, s85_10, s85_12, ]
  refine call_f (w_spec_ReadFile k (runNm v ws[0])) (by simp) rfl fun hs6 hh6 => ?_
  simp at hh6
  rw [← hlm]
  have hsl := hrd (runNm v (lnNm x))
  obtain ⟨s, hs_⟩ : ∃ s, s = rdD k (runNm v (lnNm x)) := ⟨_, rfl⟩
  obtain ⟨fb, hfb⟩ : ∃ b, b = rdB k (runNm v (lnNm x)) := ⟨_, rfl⟩
  rw [← hs_] at hsl htS htO ⊢
  rw [← hfb] at htO ⊢
  simp [s85_1, s85_8, s85_10, s85_12, ]
  refine call_p (w_spec_ParseRelation s hsl) (by simp) fun hs7 hh7 hl7 => ?_
  simp at hh7
  have hckz : inZ (ckS s) := by have := ckS_in s; simp only [inZ]; omega
  have hnone : tabS k v x = none → loadS k v = none := fun h => by rw [hdef, hbad h]
  have g1i : ∀ (_ : ws.length ≠ 2), ((ws.length : Int) = 2) = False := fun h => by simp; omega
  have g1t : ∀ (_ : ws.length = 2), ((ws.length : Int) = 2) = True := fun h => by simp; omega
  by_cases g1 : ws.length = 2
  case neg =>
    have g1' := g1i g1
    have hn := hnone (by rw [htS, hck]; simp [g1])
    simp [hwp, g1', hn, s85_1, s85_8, s85_10, s85_12, ]
  have g1' := g1t g1
  have h1w : 1 < ws.length := by omega
  cases g2 : fb
  · have hn := hnone (by rw [htS, htO]; simp [g2])
    simp [hwp, g1', hn, s85_1, s85_8, s85_10, s85_12, ]
  cases g3 : prsB s
  · have hn := hnone (by rw [htS, htO]; simp [g3])
    simp [hwp, g1', hn, s85_1, s85_8, s85_10, s85_12, ]
  simp [hwp, g1', h1w, s85_1, s85_8, s85_10, s85_12, ]
  refine call_f (w_spec_ChecksumOf s (by omega)) (by simp) rfl fun hs8 hh8 => ?_
  simp at hh8
  simp [s85_1, s85_8, s85_10, s85_12, ]
  refine call_f (w_spec_FormatInt (ckS s) hckz) (by simp) rfl fun hs9 hh9 => ?_
  simp at hh9
  by_cases g4 : decZ (ckS s) = ws[1]
  case neg =>
    have hn := hnone (by rw [htS, hck, getD_el _ h1w]; simp [g4])
    simp [h1w, g4, hn, s85_1, s85_8, s85_10, s85_12, ]
  have hsome : tabS k v x = some ⟨lnNm x, prsR s⟩ := by
    rw [htS, hck, getD_el _ h1w, htO]; simp [g1, g2, g3, g4]
  have hnx := hstp _ hsome
  have hL1 : LenOk 48 (acc.length + 1) := ⟨by omega, by simp only [maxLen]; omega⟩
  rw [hal] at hL1
  simp [h1w, g4, hwp, ← hlm, hL1, hwi, hal, s85_1, s85_8, s85_10, s85_12, ]
  refine back2 (i + 1, acc ++ [⟨lnNm x, prsR s⟩]) ⟨hnx, fun t ht => ?_⟩ (by simp only; omega) rfl (by simp <;> omega) (by simp [hisb]) (by simp [hal, List.take_of_length_le])
  rcases List.mem_append.1 ht with ht | ht
  · exact hnl t ht
  · rw [List.mem_singleton.1 ht, hlm]; simp only; omega
theorem w_spec_NewestVersion (k : List PFile) (hk : ∀ f ∈ k, f.data.length ≤ 1000000000) : VC Try.prog 16 [.agg ((eDisk ⟨k⟩).map V.d)] (fun _ r => r = .d (.int .i64 (newV k))) := by
  refine VC.ofL EP s16 (by kernel_rfl) Try.func16 (by rfl) (by kernel_rfl) (by simp [Try.f16]) (by simp [Try.f16]) s16_ok fun B hl => ?_
  simp [Try.f16, s16_4, s16_4, ]
  refine loop_rule (X := Nat) (fun v => NewI k v) (fun v => [(1, .ptr 1 0 0), (3, .d (.int .i64 v))]) (fun v => [(1, some (.box [.d (.pl (k.map eFile))]))]) (fun v => v) 99 .top (by simp) (by simp) ?_
  intro v hs t m hI hh
  have hle := hI.le
  cases v with
  | zero =>
    have := hI.zero
    simp [this.1, s16_4, ]
  | succ v =>
  have hvz : inZ ((v + 1 : Nat) : Int) := by simp only [inZ]; omega
  obtain ⟨u, hu⟩ : ∃ u : Nat, u = v + 1 := ⟨_, rfl⟩
  have hup : 0 < u := by omega
  have hwm : IntKind.i64.wrap ((u : Int) - 1) = v := by rw [wrap64_of (by omega) (by omega)]; omega
  have hdn := hI.down
  have hht := fun d => hI.hit (d := d)
  rw [← hu] at hvz hdn hht ⊢
  clear hI
  simp [hup, s16_4, ]
  refine call_f (w_spec_l32Head u hvz) (by simp) rfl fun hs1 hh1 => ?_
  simp at hh1
  simp [s16_4, ]
  refine call_f (w_spec_ReadFile k ([109] ++ decZ u)) (by simp) rfl fun hs2 hh2 => ?_
  simp at hh2
  have hnm : [109] ++ decZ u = hdNm u := rfl
  rw [hnm]
  cases hb : rdB k (hdNm u)
  · have hn := hdn (loadS_no hb)
    simp [hwm, s16_4, ]
    exact back v hn (by omega) rfl (by simp <;> omega) (by simp) (by simp)
  simp [s16_4, ]
  refine call_p (w_spec_l32Load k u hk hvz) (by simp) fun hs3 hh3 hl3 => ?_
  simp at hh3
  cases hl : loadS k u with
  | none =>
    have hn := hdn hl
    simp [hwm, s16_4, ]
    exact back v hn (by omega) rfl (by simp <;> omega) (by simp) (by simp)
  | some d =>
    have hn := hht d hl
    simp [hn.1, s16_4, ]
theorem w_spec_RecoverDatabase (k : List PFile) (hk : ∀ f ∈ k, f.data.length ≤ 1000000000) : VC Try.prog 24 [.agg ((eDisk ⟨k⟩).map V.d)] (fun _ r => r = .tup [.agg ((eDb (recP k)).map V.d), .d (.int .i64 (newV k)), .d (.bool (recB k))]) := by
  refine VC.ofL EP s24 (by kernel_rfl) Try.func24 (by rfl) (by kernel_rfl) (by simp [Try.f24]) (by simp [Try.f24]) s24_ok fun B hl => ?_
  have hvz : inZ (newV k : Int) := by have := newF_le k 99; simp only [inZ, newV]; omega
  simp [Try.f24, ]
  refine call_f (w_spec_NewestVersion k hk) (by simp) rfl fun hs1 hh1 => ?_
  simp at hh1
  have hl := load_new (k := k)
  by_cases h0 : newV k = 0
  · have hr : recP k = ⟨[]⟩ := by rw [recP, if_pos h0]
    simp [h0, hr, recB, ]
  have hb : recB k = true := by simp [recB, h0]
  have h0' : ((newV k : Int) = 0) = False := by simp; exact h0
  simp [h0', h0, hb, ]
  refine call_p (w_spec_l32Load k (newV k) hk hvz) (by simp) fun hs2 hh2 hl2 => ?_
  simp at hh2
  simp [hl.1 hb, ]
theorem w_spec_CommitDatabase (k : List PFile) (d : PDb) (n : Int) (hk : ∀ f ∈ k, f.data.length ≤ 1000000000) (hkl : k.length ≤ 1000000000) (hst : ∀ t ∈ d.tabs, t.name.length ≤ maxLen) : VC Try.prog 30 [.agg ((eDisk ⟨k⟩).map V.d), .agg ((eDb d).map V.d), .d (.int .i64 n)] (fun _ r => r = .tup [.agg ((eDisk ⟨comP k d n⟩).map V.d), .d (.bool (comB k d n))]) := by
  refine VC.ofL EP s30 (by kernel_rfl) Try.func30 (by rfl) (by kernel_rfl) (by simp [Try.f30]) (by simp [Try.f30]) s30_ok fun B hl => ?_
  obtain ⟨ts⟩ := d
  have hnle := newF_le k 99
  have hvw : IntKind.i64.wrap ((newV k : Int) + 1) = ((newV k + 1 : Nat) : Int) := by rw [wrap64_of (by simp only [newV]; omega) (by simp only [newV]; omega)]; simp
  have hvz : inZ ((newV k + 1 : Nat) : Int) := by simp only [inZ, newV]; omega
  have hfl := verFs_len ⟨ts⟩ ((newV k + 1 : Nat) : Int)
  have hG : comG k ⟨ts⟩ = (decide (verFs ⟨ts⟩ ((newV k + 1 : Nat) : Int) ≠ []) && dskOk k) := rfl
  have hP : comP k ⟨ts⟩ n = if comG k ⟨ts⟩ then wrAll (wout k (hdNm ((newV k + 1 : Nat) : Int))) ((verFs ⟨ts⟩ ((newV k + 1 : Nat) : Int)).take n.toNat) else k := rfl
  have hB : comB k ⟨ts⟩ n = (comG k ⟨ts⟩ && decide (((verFs ⟨ts⟩ ((newV k + 1 : Nat) : Int)).length : Int) ≤ n)) := rfl
  have hL : LenOk 32 k.length := ⟨by omega, by simp only [maxLen]; omega⟩
  simp [Try.f30, s30_6, s30_10, s30_6, s30_10, ]
  refine call_f (w_spec_NewestVersion k hk) (by simp) rfl fun hs1 hh1 => ?_
  simp at hh1
  simp [hvw, s30_6, s30_10, ]
  refine call_p (w_spec_VersionFiles ⟨ts⟩ ((newV k + 1 : Nat) : Int) hst) (by simp) fun hs2 hh2 hl2 => ?_
  simp at hh2
  obtain ⟨u, hu⟩ : ∃ u : Int, u = ((newV k + 1 : Nat) : Int) := ⟨_, rfl⟩
  rw [← hu] at hvw hvz hfl hG hP hB
  simp only [← hu]
  by_cases hf : verFs ⟨ts⟩ u = []
  · have hg : comG k ⟨ts⟩ = false := by rw [hG]; simp [hf]
    rw [if_neg (by rw [hg]; simp)] at hP
    rw [hg, Bool.false_and] at hB
    simp [hf, hL, hP, hB, List.take_of_length_le, s30_6, s30_10, ]
  have hfp : ((verFs ⟨ts⟩ u).length : Int) ≠ 0 := by
    have := List.length_pos_iff.2 hf; omega
  obtain ⟨fs, hfs⟩ : ∃ fs, fs = verFs ⟨ts⟩ u := ⟨_, rfl⟩
  rw [← hfs] at hf hfp hfl hG hP hB ⊢
  simp [hf, hfp, hL, s30_6, s30_10, ]
  refine call_f (w_spec_IsValidDisk k) (by simp) rfl fun hs3 hh3 => ?_
  simp at hh3
  cases hd : dskOk k
  · have hg : comG k ⟨ts⟩ = false := by rw [hG]; simp [hd]
    rw [if_neg (by rw [hg]; simp)] at hP
    rw [hg, Bool.false_and] at hB
    simp [hP, hB, List.take_of_length_le, s30_6, s30_10, ]
  have hg : comG k ⟨ts⟩ = true := by rw [hG]; simp [hd, hf]
  rw [if_pos hg] at hP
  rw [hg, Bool.true_and] at hB
  simp [hvw, s30_6, s30_10, ]
  refine call_f (w_spec_l32Head u hvz) (by simp) rfl fun hs4 hh4 => ?_
  simp at hh4
  simp [List.take_of_length_le, s30_6, s30_10, ]
  have hnm : [109] ++ decZ u = hdNm u := rfl
  refine call_p (w_spec_l32Without k (hdNm u) (by omega)) (by simp [hdNm, List.take_of_length_le]) fun hs5 hh5 hl5 => ?_
  simp at hh5
  have hwl := wout_len k (hdNm u)
  obtain ⟨x0, hx0⟩ : ∃ x, x = wout k (hdNm u) := ⟨_, rfl⟩
  rw [← hx0] at hP hwl ⊢
  simp [s30_6, s30_10, ]
  refine loop_rule (X := Nat) (fun i => i ≤ fs.length ∧ (i : Int) ≤ max n 0) (fun i => [(2, .d (.int .i64 n)), (6, .ptr 6 0 0), (9, .d (.pl (fs.map eFile))), (10, .ptr 10 0 0), (11, .d (.int .i64 i))]) (fun i => [(6, some (.box [.d (.sl none none [])])), (10, some (.box [.d (.pl ((wrAll x0 (fs.take i)).map eFile))]))]) (fun i => fs.length - i) 0 (by simp; omega) (by simp) (by simp [wrAll]) ?_
  intro i hs t m hi hh
  have hal := wrAll_len (fs.take i) x0
  rw [List.length_take] at hal
  by_cases hlt : i < fs.length ∧ (i : Int) < n
  · have hwi := wr1 (i := i) (by omega)
    have h1 := hlt.1
    have h2 := hlt.2
    have hstp := wrAll_step (k := x0) h1
    obtain ⟨fn, fd, hf'⟩ : ∃ fn fd, fs[i] = ⟨fn, fd⟩ := ⟨_, _, rfl⟩
    rw [hf'] at hstp
    obtain ⟨X, hX⟩ : ∃ X, X = wrAll x0 (fs.take i) := ⟨_, rfl⟩
    rw [← hX] at hstp hal ⊢
    simp [h1, h2, hf', s30_6, s30_10, ]
    refine call_p (w_spec_WriteFile X fn fd (by omega)) (by simp) fun hs6 hh6 hl6 => ?_
    simp at hh6
    simp [hwi, s30_6, s30_10, ]
    exact back (i + 1) (by omega) (by omega) rfl (by simp <;> omega) (by simp) (by simp [hstp])
  · have hend : fs.take i = fs.take n.toNat := by
      by_cases h : i < fs.length
      · have : i = n.toNat := by omega
        rw [this]
      · rw [List.take_of_length_le (by omega), List.take_of_length_le (by omega)]
    rw [hend, ← hP]
    by_cases h1 : i < fs.length
    · have h2 : ¬ (i : Int) < n := fun h => hlt ⟨h1, h⟩
      simp [h1, h2, hB, s30_6, s30_10, ]
    · simp [h1, hB, s30_6, s30_10, ]
theorem w_spec_DeleteObsoleteFiles (k : List PFile) (hk : ∀ f ∈ k, f.data.length ≤ 1000000000) (hkl : k.length ≤ 1000000000) : VC Try.prog 20 [.agg ((eDisk ⟨k⟩).map V.d)] (fun _ r => r = .agg ((eDisk ⟨delP k⟩).map V.d)) := by
  refine VC.ofL EP s20 (by kernel_rfl) Try.func20 (by rfl) (by kernel_rfl) (by simp [Try.f20]) (by simp [Try.f20]) s20_ok fun B hl => ?_
  have hnle := newF_le k 99
  have hvz : inZ (newV k : Int) := by simp only [inZ, newV]; omega
  have hl := load_new (k := k)
  have hD : delP k = if recB k then keepP k (verFs (recP k) (newV k)) else [] := rfl
  simp [Try.f20, s20_11, s20_12, s20_11, s20_12, ]
  refine call_f (w_spec_NewestVersion k hk) (by simp) rfl fun hs1 hh1 => ?_
  simp at hh1
  simp [s20_11, s20_12, ]
  refine call_p (w_spec_l32Load k (newV k) hk hvz) (by simp) fun hs2 hh2 hl2 => ?_
  simp at hh2
  obtain ⟨bb, hbb⟩ : ∃ b, b = recB k := ⟨_, rfl⟩
  have hlo : loadS k (newV k) = if bb then some (recP k) else none := by
    cases h : recB k
    · rw [hl.2 h, hbb, h]; rfl
    · rw [hl.1 h, hbb, h]; rfl
  rw [← hbb] at hD
  rw [hlo]
  obtain ⟨dd, hdd⟩ : ∃ d : PDb, d = ((if bb then some (recP k) else none).getD ⟨[]⟩) := ⟨_, rfl⟩
  have hsm : (if bb then some (recP k) else none).isSome = bb := by cases bb <;> rfl
  rw [← hdd, hsm]
  have hst : ∀ t ∈ dd.tabs, t.name.length ≤ maxLen := by
    rw [hdd]
    cases bb
    · simp
    · exact dbOk_st (recP_ok k)
  have hDD : delP k = if bb then keepP k (verFs dd (newV k)) else [] := by
    rw [hD, hdd]; cases bb <;> rfl
  obtain ⟨ts⟩ := dd
  simp [s20_11, s20_12, ]
  refine call_p (w_spec_VersionFiles ⟨ts⟩ (newV k) hst) (by simp) fun hs3 hh3 hl3 => ?_
  simp at hh3
  have hfl := verFs_len ⟨ts⟩ (newV k)
  obtain ⟨fs, hfs⟩ : ∃ fs, fs = verFs ⟨ts⟩ (newV k) := ⟨_, rfl⟩
  rw [← hfs] at hfl hDD ⊢
  simp [s20_11, s20_12, ]
  clear hbb hsm hlo hdd
  cases bb
  · refine loop_rule (X := Unit) (fun _ => True) (fun _ => [(1, .ptr 1 0 0), (2, .ptr 2 0 0), (4, .ptr 4 0 0), (6, .d (.bool false)), (7, .d (.pl (fs.map eFile))), (8, .d (.int .i64 0))]) (fun _ => [(1, some (.box [.d (.pl (k.map eFile))])), (2, some (.box [.d (.sl none none [])])), (4, some (.box [.d (.sl none none [])]))]) (fun _ => 0) () trivial (by simp) (by simp) ?_
    intro _ hs t m _ hh
    have hDf : delP k = [] := by rw [hDD]; rfl
    by_cases hlt : 0 < k.length
    · simp [hlt, hDf, s20_11, s20_12, ]
    · simp [hlt, hDf, s20_11, s20_12, ]
  rw [if_pos rfl] at hDD
  refine loop_ruleL (X := Nat) (fun i _ => i ≤ k.length) (fun i => [(1, .ptr 1 0 0), (2, .ptr 2 0 0), (4, .ptr 4 0 0), (6, .d (.bool true)), (7, .d (.pl (fs.map eFile))), (8, .d (.int .i64 i))]) (fun i => [(1, some (.box [.d (.pl (k.map eFile))])), (2, some (.box [.d (.sl none none [])])), (4, some (.box [.own 900 0 (keepP (k.take i) fs).length])), (900, some (.row 59 2 ((keepP (k.take i) fs).map eFile)))]) (fun i => k.length - i) ?_ ?_
  · refine (lead_box 4 0 900 59 2 [.d (.sl none none [])] (by omega) (by omega) (by omega) (by simp) rfl).bind ?_
    rintro _ rfl
    exact Lead.of ⟨0, by omega, rfl, rfl, Nat.le_refl _, by simp, by simp [keepP]⟩
  intro i hs t m hi hh
  by_cases hlt : i < k.length
  case neg =>
    have hn : i = k.length := by omega
    subst hn
    simp [hDD, List.take_of_length_le, s20_11, s20_12, ]
  have hwi := wr1 (i := i) (by omega)
  have hkp := keepP_len fs (k.take i)
  have hstp := keepP_step (fs := fs) hlt
  obtain ⟨K0, hK0⟩ : ∃ K0, K0 = keepP (k.take i) fs := ⟨_, rfl⟩
  rw [← hK0] at hstp hkp ⊢
  have hkl2 : K0.length ≤ 7000000000 := by
    rw [List.length_take] at hkp
    have : min i k.length * fs.length ≤ 1000000000 * 7 := Nat.mul_le_mul (by omega) hfl
    omega
  obtain ⟨fn, fd, hf⟩ : ∃ fn fd, k[i] = ⟨fn, fd⟩ := ⟨_, _, rfl⟩
  rw [hf] at hstp
  refine anyQ2 fun Q => ?_
  simp [hlt, s20_11, s20_12, ]
  refine loop_rule (X := Nat) (fun j => j ≤ fs.length) (fun j => [(1, .ptr 1 0 0), (2, .ptr 2 0 0), (4, .ptr 4 0 0), (6, .d (.bool true)), (7, .d (.pl (fs.map eFile))), (8, .d (.int .i64 i)), (9, .d (.int .i64 j))]) (fun j => [(1, some (.box [.d (.pl (k.map eFile))])), (2, some (.box [.d (.sl none none [])])), (4, some (.box [.own 900 0 (K0 ++ keep1 ⟨fn, fd⟩ (fs.take j)).length])), (900, some (.row 59 2 ((K0 ++ keep1 ⟨fn, fd⟩ (fs.take j)).map eFile)))]) (fun j => fs.length - j) 0 (by simp) (by simp) (by simp [keep1]) ?_
  intro j hs5 t5 m5 hj hh5
  by_cases hjl : j < fs.length
  · have hwj := wr1 (i := j) (by omega)
    have hk1 := keep1_len ⟨fn, fd⟩ (fs.take j)
    rw [List.length_take] at hk1
    have hst1 := keep1_step (f := ⟨fn, fd⟩) hjl
    obtain ⟨K1, hK1⟩ : ∃ K1, K1 = keep1 ⟨fn, fd⟩ (fs.take j) := ⟨_, rfl⟩
    rw [← hK1] at hst1 hk1 ⊢
    obtain ⟨gn, gd, hg⟩ : ∃ gn gd, fs[j] = ⟨gn, gd⟩ := ⟨_, _, rfl⟩
    rw [hg] at hst1
    simp only at hst1
    have hL1 : LenOk 32 (K0.length + K1.length + 1) := ⟨by omega, by simp only [maxLen]; omega⟩
    refine anyQ fun Q' => ?_
    by_cases e : gn = fn
    · rw [if_pos e] at hst1
      simp [hlt, hjl, hf, hg, e, hwj, hL1, List.take_of_length_le, s20_11, s20_12, ]
      exact back (j + 1) (by omega) (by omega) rfl (by simp <;> omega) (by simp) (by simp [hst1, List.take_of_length_le, Nat.add_assoc])
    · rw [if_neg e, List.append_nil] at hst1
      simp [hlt, hjl, hf, hg, e, hwj, List.take_of_length_le, s20_11, s20_12, ]
      exact back (j + 1) (by omega) (by omega) rfl (by simp <;> omega) (by simp) (by simp [hst1])
  · have hjn : j = fs.length := by omega
    subst hjn
    rw [List.take_of_length_le (Nat.le_refl _)]
    rw [← hstp]
    simp [hwi, s20_11, s20_12, ]
    exact back2 (i + 1) (by omega) (by omega) rfl (by simp <;> omega) (by simp) (by simp)
end

end Go.Proofs.Ytlmnjomekklnkaa

namespace Go.Proofs.Ytlmnjomekklnkaa
open Go.Vs Go.Proofs Go
set_option maxRecDepth 100000
set_option maxHeartbeats 1000000

theorem v_spec_NewestVersion (K : PDisk) (h : szDk K) : VC Try.prog 16 [.agg ((eDisk K).map V.d)] (fun _ r => r = .d (.int .i64 (newV K.files))) :=
  w_spec_NewestVersion K.files fun f hf => (h.2 f hf).2
theorem v_impl_NewestVersion (K : PDisk) (h : szDk K) : VC Try.prog 18 [.agg ((eDisk K).map V.d)] (fun _ r => r = .d (.int .i64 (newV K.files))) :=
  w_impl_NewestVersion K.files fun f hf => (h.2 f hf).2
theorem v_spec_RecoverDatabase (K : PDisk) (h : szDk K) : VC Try.prog 24 [.agg ((eDisk K).map V.d)] (fun _ r => r = .tup [.agg ((eDb (recP K.files)).map V.d), .d (.int .i64 (newV K.files)), .d (.bool (recB K.files))]) :=
  w_spec_RecoverDatabase K.files fun f hf => (h.2 f hf).2
theorem t_impl_RecoverDatabase (y : Disk) (h : szDk (plDisk y)) : VC Try.prog 25 [.agg ((cDisk y).map V.d)]
   (fun n r => ∃ z : Db, r = .tup [.agg ((cDb z).map V.d), .d (.int .i64 (newV (plDisk y).files)), .d (.bool (recB (plDisk y).files))] ∧ plDb z = recP (plDisk y).files ∧ okDb z ∧ Good (cDb z) (whDb z) n) :=
  (e_impl_RecoverDatabase (plDisk y).files fun f hf => (h.2 f hf).2).er (by simp only [rpL, rp_dsk (Y := y) rfl]; rfl)
theorem v_spec_CommitDatabase (K : PDisk) (d : PDb) (n : Int) (h : szDk K) (hst : ∀ t ∈ d.tabs, t.name.length ≤ maxLen) : VC Try.prog 30 [.agg ((eDisk K).map V.d), .agg ((eDb d).map V.d), .d (.int .i64 n)] (fun _ r => r = .tup [.agg ((eDisk ⟨comP K.files d n⟩).map V.d), .d (.bool (comB K.files d n))]) :=
  w_spec_CommitDatabase K.files d n (fun f hf => (h.2 f hf).2) h.1 hst
theorem u_impl_CommitDatabase (y : Disk) (d : Db) (n : Int) (h : szDk (plDisk y)) (hd : okDb d) : VC Try.prog 32 [.agg ((cDisk y).map V.d), .agg ((cDb d).map V.d), .d (.int .i64 n)]
   (fun m r => ∃ z : Disk, r = .tup [.agg ((cDisk z).map V.d), .d (.bool (comB (plDisk y).files (plDb d) n))] ∧ plDisk z = ⟨comP (plDisk y).files (plDb d) n⟩ ∧ okDisk z ∧ Good (cDisk z) (whDisk z) m) :=
  t_impl_CommitDatabase y d n (plDisk y).files rfl hd h.2 h.1
theorem v_spec_DeleteObsoleteFiles (K : PDisk) (h : szDk K) : VC Try.prog 20 [.agg ((eDisk K).map V.d)] (fun _ r => r = .agg ((eDisk ⟨delP K.files⟩).map V.d)) :=
  w_spec_DeleteObsoleteFiles K.files (fun f hf => (h.2 f hf).2) h.1
theorem t_impl_DeleteObsoleteFiles (y : Disk) (h : szDk (plDisk y)) : VC Try.prog 21 [.agg ((cDisk y).map V.d)]
   (fun n v => ∃ z : Disk, v = .agg ((cDisk z).map V.d) ∧ plDisk z = ⟨delP (plDisk y).files⟩ ∧ okDisk z ∧ Good (cDisk z) (whDisk z) n) :=
  (e_impl_DeleteObsoleteFiles (plDisk y).files h.2 h.1).er (by simp only [rpL, rp_dsk (Y := y) rfl]; rfl)

end Go.Proofs.Ytlmnjomekklnkaa

namespace Go.Proofs.Ytlmnjomekklnkaa
open Go.Vs Go.Proofs Go
set_option maxRecDepth 100000
set_option maxHeartbeats 1000000

theorem w_laws_FnExactNewestVersion (a : Disk) (k_a : okDisk a) :
   VC Try.prog 3 [.agg ((cDisk a).map V.d)] (fun _ r => r = .d (.bool true)) := by
  refine VC.of E s3 (by kernel_rfl) Try.func3 (by rfl) (by kernel_rfl) (by simp [Try.f3]) (by simp [Try.f3]) s3_ok fun B => ?_
  simp [Try.f3, s3_10, s3_10, cDisk, cS, cI, cS]
  refine call_pure (w_laws_szDisk a _ (by omega) (by omega) k_a) rfl (by simp) rfl fun hz_a zz_a => ?_
  simp at zz_a
  by_cases s_a : (swDisk a : Int) ≤ 1048576
  case neg =>
    rw [szv_neg (by omega)]; simp
    all_goals exact fun h => absurd h (by decide)
  rw [szv_pos s_a]
  simp [show ¬ (1048576 : Int) - swDisk a < 0 by omega, show ¬ (1048576 : Int) < swDisk a by omega, s_a, s3_10, cDisk, cS, cI, cS]
  have hsz : ∀ y : Disk, plDisk y = plDisk a → szDk (plDisk y) := fun y h => by rw [h]; exact szDk_sw a (by omega)
  refine call_some (w_laws_toDisk a k_a (by omega)) rfl (by simp) fun n1 hs1 r1 hn1 hm1 hp1 hr1 => ?_
  obtain ⟨y1, rfl, p1, k1, G1⟩ := hp1
  clear G1 hr1
  simp at hn1
  simp [s3_10, cDisk, cS, cI, cS]
  refine call_f (VC.to (v_spec_NewestVersion (plDisk y1) (hsz _ p1)) (show _ = V.d (.int .i64 (newV ((plDisk a)).files)) by rw [p1])) (by simp [er_I, er_SI, er_Str, er_File, er_Tab, er_Db, er_Delta, er_Atom, er_VRel, eDisk, plDisk, cP, pS, plI]) rfl fun hs2 hh2 => ?_
  simp at hh2
  simp [s3_10, cDisk, cS, cI, cS]
  refine call_some (w_laws_toDisk a k_a (by omega)) rfl (by simp) fun n3 hs3 r3 hn3 hm3 hp3 hr3 => ?_
  obtain ⟨y3, rfl, p3, k3, G3⟩ := hp3
  clear G3 hr3
  simp at hn3
  simp [s3_10, cDisk, cS, cI, cS]
  refine call_f (VC.to (v_impl_NewestVersion (plDisk y3) (hsz _ p3)) (show _ = V.d (.int .i64 (newV ((plDisk a)).files)) by rw [p3])) (by simp [er_I, er_SI, er_Str, er_File, er_Tab, er_Db, er_Delta, er_Atom, er_VRel, eDisk, plDisk, cP, pS, plI]) rfl fun hs4 hh4 => ?_
  simp at hh4
  simp [s3_10, cDisk, cS, cI, cS]
  refine call_some (w_laws_toDisk a k_a (by omega)) rfl (by simp) fun n5 hs5 r5 hn5 hm5 hp5 hr5 => ?_
  obtain ⟨y5, rfl, p5, k5, G5⟩ := hp5
  clear G5 hr5
  simp at hn5
  simp [s3_10, cDisk, cS, cI, cS]
  refine call_pure (w_laws_eqDisk y3 y5 k3) rfl (by simp) rfl fun hs6 hh6 => ?_
  simp at hh6
  simp [s3_10, cDisk, cS, cI, cS, p3, p5]

end Go.Proofs.Ytlmnjomekklnkaa

namespace Go.Proofs.Ytlmnjomekklnkaa
open Go.Vs Go.Proofs Go
set_option maxRecDepth 100000
set_option maxHeartbeats 1000000

theorem w_laws_FnExactRecoverDatabase (a : Disk) (k_a : okDisk a) :
   VC Try.prog 5 [.agg ((cDisk a).map V.d)] (fun _ r => r = .d (.bool true)) := by
  refine VC.ofB E s5 (by kernel_rfl) Try.func5 (by rfl) (by kernel_rfl) (by simp [Try.f5]) (by simp [Try.f5]) s5_ok fun B hB => ?_
  have ua_a : ∀ g ∈ idsL (cDisk a), g < B := fun g hg => hB g (by simp only [idsVL, ids_agg, idsVL_map_d, V.ids, idsL_cS, List.mem_append] at hg ⊢; simp [hg])
  simp [Try.f5, s5_10, s5_10, cDb, cDisk, cS, cI, cS]
  refine call_pure (w_laws_szDisk a _ (by omega) (by omega) k_a) rfl (by simp) rfl fun hz_a zz_a => ?_
  simp at zz_a
  by_cases s_a : (swDisk a : Int) ≤ 1048576
  case neg =>
    rw [szv_neg (by omega)]; simp
    all_goals exact fun h => absurd h (by decide)
  rw [szv_pos s_a]
  simp [show ¬ (1048576 : Int) - swDisk a < 0 by omega, show ¬ (1048576 : Int) < swDisk a by omega, s_a]
  have hw_a := wbT_Disk a
  have hsz : ∀ y : Disk, plDisk y = plDisk a → szDk (plDisk y) := fun y h => by rw [h]; exact szDk_sw a (by omega)
  refine call_some (w_laws_toDisk a k_a (by omega)) rfl (by simp) fun n1 hs1 r1 hn1 hm1 hp1 hr1 => ?_
  obtain ⟨y1, rfl, p1, k1, G1⟩ := hp1
  have u1 : ∀ g ∈ idsL (cDisk y1), g < hs1 := fun g hg => hr1 g (by first | (rw [ids_agg]; exact hg) | (simpa only [V.ids, idsL_cS] using hg))
  simp at hn1
  have e1 : wtTDisk y1 = wtTDisk a := by rw [wtTDisk_pl, wtTDisk_pl, p1]
  simp [s5_10, cDb, cDisk, cS, cI, cS]
  refine call_some (VC.track (VC.to (v_spec_RecoverDatabase (plDisk y1) (hsz _ p1)) (show _ = V.tup [.agg ((eDb (recP ((plDisk a)).files)).map V.d), .d (.int .i64 (newV ((plDisk a)).files)), .d (.bool (recB ((plDisk a)).files))] by rw [p1])) (by simp [er_I, er_SI, er_Str, er_File, er_Tab, er_Db, er_Delta, er_Atom, er_VRel, eDb, eDisk, plDb, plDisk, cP, pS, plI]) (by simp [V.pn, pnVL])) rfl (by simp) fun n2 hs2 r2 hn2 hm2 hp2 hr2 => ?_
  obtain ⟨hq2, ht2⟩ := hp2
  obtain ⟨x20, x21, x22, rfl, q20, q21, q22, t20, t21, t22⟩ := rp_tup3 hq2 ht2
  obtain ⟨w0, rfl, pw0⟩ := rp_agg tk_Db q20 t20
  obtain rfl := rp_flat q21 rfl
  obtain rfl := rp_flat q22 rfl
  have uw0 : ∀ g ∈ idsL (cDb w0), g < hs2 := fun g hg => hr2 g (by simp only [V.ids, idsVL, ids_agg, idsVL_map_d, idsL_cS, List.mem_append] at hg ⊢; simp [hg])
  simp at hn2
  clear hr2
  simp [s5_10, cDb, cDisk, cS, cI, cS]
  refine call_some (w_laws_toDisk a k_a (by omega)) rfl (by simp) fun n3 hs3 r3 hn3 hm3 hp3 hr3 => ?_
  obtain ⟨y3, rfl, p3, k3, G3⟩ := hp3
  have u3 : ∀ g ∈ idsL (cDisk y3), g < hs3 := fun g hg => hr3 g (by first | (rw [ids_agg]; exact hg) | (simpa only [V.ids, idsL_cS] using hg))
  simp at hn3
  have e3 : wtTDisk y3 = wtTDisk a := by rw [wtTDisk_pl, wtTDisk_pl, p3]
  simp [s5_10, cDb, cDisk, cS, cI, cS]
  refine call_some (t_impl_RecoverDatabase y3 (hsz _ p3)) rfl (by simp) fun n4 hs4 r4 hn4 hm4 hp4 hr4 => ?_
  obtain ⟨g0, rfl, pg0, kg0, Gg0⟩ := hp4
  have ug0 : ∀ g ∈ idsL (cDb g0), g < hs4 := fun g hg => hr4 g (by simp only [V.ids, idsVL, ids_agg, idsVL_map_d, idsL_cS, List.mem_append] at hg ⊢; simp [hg])
  have lg0 := Gg0.lo
  simp only [p3] at pg0
  simp at hn4
  simp [s5_10, cDb, cDisk, cS, cI, cS, p3]
  have hbg0 : 1 + (wtTDb g0 : Int) ≤ 4611686018427387904 := by
    rw [wtTDb_pl, pg0]
    have := wp_db (recP_ok (plDisk a).files); omega
  refine call_pure (w_laws_eqDatabase g0 w0 kg0) rfl (by simp) rfl fun hs5 hh5 => ?_
  simp at hh5
  simp [s5_10, cDb, cDisk, cS, cI, cS, pg0, pw0]
  refine call_some (w_laws_toDisk a k_a (by omega)) rfl (by simp) fun n6 hs6 r6 hn6 hm6 hp6 hr6 => ?_
  obtain ⟨y6, rfl, p6, k6, G6⟩ := hp6
  have u6 : ∀ g ∈ idsL (cDisk y6), g < hs6 := fun g hg => hr6 g (by first | (rw [ids_agg]; exact hg) | (simpa only [V.ids, idsL_cS] using hg))
  simp at hn6
  have e6 : wtTDisk y6 = wtTDisk a := by rw [wtTDisk_pl, wtTDisk_pl, p6]
  simp [s5_10, cDb, cDisk, cS, cI, cS]
  refine call_pure (w_laws_eqDisk y3 y6 k3) rfl (by simp) rfl fun hs7 hh7 => ?_
  simp at hh7
  simp [s5_10, cDb, cDisk, cS, cI, cS, p3, p6]
  refine call_x (E22) (by simp) (by simp) (by simp) (fun q hq => .inl ?_) (w_laws_markDisk y3 (1) (by omega) (by omega) G3.wh k3 G3.nd) fun n8 hs8 r8 cs8 ws8 hn8 hm8 hp8 hr8 hw8 => ?_
  · have := G3.lo q (by simpa only [idsL_cS] using hq)
    show B ≤ q
    omega
  obtain ⟨rfl, rfl⟩ := hp8
  simp at hn8
  have hre8 : reL (phi (idsL (cDisk y3)) (cDisk (mkTDisk y3 (1)))) (cDisk y3) = some (cDisk (mkTDisk y3 (1))) := re_sim (simT_Disk G3.wh _) (marksTDisk.ids _ _) G3.nd
  have ho8_a : reL (phi (idsL (cDisk y3)) (cDisk (mkTDisk y3 (1)))) (cDisk a) = some (cDisk a) := re_same fun g hg h => by
    skip
    have h1 := G3.lo g (by simpa only [idsL_cS] using hg); have h2 := ua_a g h; omega
  have ho8_w0 : reL (phi (idsL (cDisk y3)) (cDisk (mkTDisk y3 (1)))) (cDb w0) = some (cDb w0) := re_same fun g hg h => by
    skip
    have h1 := G3.lo g (by simpa only [idsL_cS] using hg); have h2 := uw0 g h; omega
  have ho8_g0 : reL (phi (idsL (cDisk y3)) (cDisk (mkTDisk y3 (1)))) (cDb g0) = some (cDb g0) := re_same fun g hg h => by
    skip
    have h1 := u3 g (by simpa only [idsL_cS] using hg); have h2 := lg0 g h; omega
  replace hre8 := reVL_map hre8
  replace ho8_a := reVL_map ho8_a
  replace ho8_w0 := reVL_map ho8_w0
  replace ho8_g0 := reVL_map ho8_g0
  simp only [s5_10, cDb, cDisk, cS, cI, cS, List.cons_append, List.nil_append, List.map_cons, List.map_nil, reVL_cons, reVL_nil, List.cons.injEq, and_true, reV_int, reV_str, true_and, mkTDb, mkTDisk, mkTReln, mkTTab] at hre8 ho8_a ho8_w0 ho8_g0
  simp [hre8, ho8_a, ho8_w0, ho8_g0, s5_10, cDb, cDisk, cS, cI, cS, mkTDb, mkTDisk, mkTReln, mkTTab, show ¬ (1 + wtTDisk y3 : Int) < 0 by omega, show (0 : Int) ≤ 1 + wtTDisk y3 by omega]
  try simp [show ¬ (1 + wtTDisk y3 : Int) < 0 by omega, show (0 : Int) ≤ 1 + wtTDisk y3 by omega]
  refine call_pure (w_laws_eqDatabase g0 w0 kg0) rfl (by simp) rfl fun hs9 hh9 => ?_
  simp at hh9
  simp [s5_10, cDb, cDisk, cS, cI, cS, pg0, pw0]
  refine call_x (E27) (by simp) (by simp) (by simp) (fun q hq => .inl ?_) (w_laws_markDatabase g0 (1) (by omega) (by omega) Gg0.wh kg0 Gg0.nd) fun n10 hs10 r10 cs10 ws10 hn10 hm10 hp10 hr10 hw10 => ?_
  · have := Gg0.lo q (by simpa only [idsL_cS] using hq)
    show B ≤ q
    omega
  obtain ⟨rfl, rfl⟩ := hp10
  simp at hn10
  have hre10 : reL (phi (idsL (cDb g0)) (cDb (mkTDb g0 (1)))) (cDb g0) = some (cDb (mkTDb g0 (1))) := re_sim (simT_Db Gg0.wh _) (marksTDb.ids _ _) Gg0.nd
  have ho10_a : reL (phi (idsL (cDb g0)) (cDb (mkTDb g0 (1)))) (cDisk a) = some (cDisk a) := re_same fun g hg h => by
    skip
    have h1 := Gg0.lo g (by simpa only [idsL_cS] using hg); have h2 := ua_a g h; omega
  have ho10_w0 : reL (phi (idsL (cDb g0)) (cDb (mkTDb g0 (1)))) (cDb w0) = some (cDb w0) := re_same fun g hg h => by
    skip
    have h1 := Gg0.lo g (by simpa only [idsL_cS] using hg); have h2 := uw0 g h; omega
  have ho10_y3 : reL (phi (idsL (cDb g0)) (cDb (mkTDb g0 (1)))) (cDisk (mkTDisk y3 (1))) = some (cDisk (mkTDisk y3 (1))) := re_same fun g hg h => by
    rw [marksTDisk.ids] at h
    have h1 := Gg0.lo g (by simpa only [idsL_cS] using hg); have h2 := u3 g h; omega
  replace hre10 := reVL_map hre10
  replace ho10_a := reVL_map ho10_a
  replace ho10_w0 := reVL_map ho10_w0
  replace ho10_y3 := reVL_map ho10_y3
  simp only [s5_10, cDb, cDisk, cS, cI, cS, List.cons_append, List.nil_append, List.map_cons, List.map_nil, reVL_cons, reVL_nil, List.cons.injEq, and_true, reV_int, reV_str, true_and, mkTDb, mkTDisk, mkTReln, mkTTab] at hre10 ho10_a ho10_w0 ho10_y3
  simp [hre10, ho10_a, ho10_w0, ho10_y3, s5_10, cDb, cDisk, cS, cI, cS, mkTDb, mkTDisk, mkTReln, mkTTab, show ¬ (1 + wtTDb g0 : Int) < 0 by omega, show (0 : Int) ≤ 1 + wtTDb g0 by omega]
  refine call_pure (w_laws_heldDatabase (mkTDb g0 (1)) (1) (by omega) (by rw [marksTDb.wt]; omega) (ok_mkTDb _ _ kg0)) rfl (by simp) rfl fun hs11 hh11 => ?_
  simp at hh11
  rw [marksTDb.hl, marksTDb.wt]
  simp [show ¬ (1 + wtTDb g0 : Int) < 0 by omega]
  refine call_some (w_laws_toDisk a k_a (by omega)) rfl (by simp) fun n12 hs12 r12 hn12 hm12 hp12 hr12 => ?_
  obtain ⟨y12, rfl, p12, k12, G12⟩ := hp12
  have u12 : ∀ g ∈ idsL (cDisk y12), g < hs12 := fun g hg => hr12 g (by first | (rw [ids_agg]; exact hg) | (simpa only [V.ids, idsL_cS] using hg))
  simp at hn12
  have e12 : wtTDisk y12 = wtTDisk a := by rw [wtTDisk_pl, wtTDisk_pl, p12]
  simp [s5_10, cDb, cDisk, cS, cI, cS]
  refine call_some (t_impl_RecoverDatabase y12 (hsz _ p12)) rfl (by simp) fun n13 hs13 r13 hn13 hm13 hp13 hr13 => ?_
  obtain ⟨h0, rfl, ph0, kh0, Gh0⟩ := hp13
  have uh0 : ∀ g ∈ idsL (cDb h0), g < hs13 := fun g hg => hr13 g (by simp only [V.ids, idsVL, ids_agg, idsVL_map_d, idsL_cS, List.mem_append] at hg ⊢; simp [hg])
  have lh0 := Gh0.lo
  simp only [p12] at ph0
  simp at hn13
  simp [s5_10, cDb, cDisk, cS, cI, cS, p12]
  refine call_pure (w_laws_eqDatabase h0 w0 kh0) rfl (by simp) rfl fun hs14 hh14 => ?_
  simp at hh14
  simp [s5_10, cDb, cDisk, cS, cI, cS, ph0, pw0]
  refine call_pure (w_laws_heldDatabase (mkTDb g0 (1)) (1) (by omega) (by rw [marksTDb.wt]; omega) (ok_mkTDb _ _ kg0)) rfl (by simp) rfl fun hs15 hh15 => ?_
  simp at hh15
  rw [marksTDb.hl, marksTDb.wt]
  simp [show ¬ (1 + wtTDb g0 : Int) < 0 by omega]
theorem w_laws_FnExactDeleteObsoleteFiles (a : Disk) (k_a : okDisk a) :
   VC Try.prog 4 [.agg ((cDisk a).map V.d)] (fun _ r => r = .d (.bool true)) := by
  refine VC.ofB E s4 (by kernel_rfl) Try.func4 (by rfl) (by kernel_rfl) (by simp [Try.f4]) (by simp [Try.f4]) s4_ok fun B hB => ?_
  have ua_a : ∀ g ∈ idsL (cDisk a), g < B := fun g hg => hB g (by simp only [idsVL, ids_agg, idsVL_map_d, V.ids, idsL_cS, List.mem_append] at hg ⊢; simp [hg])
  simp [Try.f4, s4_10, s4_10, cDisk, cS, cI, cS]
  refine call_pure (w_laws_szDisk a _ (by omega) (by omega) k_a) rfl (by simp) rfl fun hz_a zz_a => ?_
  simp at zz_a
  by_cases s_a : (swDisk a : Int) ≤ 1048576
  case neg =>
    rw [szv_neg (by omega)]; simp
    all_goals exact fun h => absurd h (by decide)
  rw [szv_pos s_a]
  simp [show ¬ (1048576 : Int) - swDisk a < 0 by omega, show ¬ (1048576 : Int) < swDisk a by omega, s_a]
  have hw_a := wbT_Disk a
  have hsz : ∀ y : Disk, plDisk y = plDisk a → szDk (plDisk y) := fun y h => by rw [h]; exact szDk_sw a (by omega)
  refine call_some (w_laws_toDisk a k_a (by omega)) rfl (by simp) fun n1 hs1 r1 hn1 hm1 hp1 hr1 => ?_
  obtain ⟨y1, rfl, p1, k1, G1⟩ := hp1
  have u1 : ∀ g ∈ idsL (cDisk y1), g < hs1 := fun g hg => hr1 g (by first | (rw [ids_agg]; exact hg) | (simpa only [V.ids, idsL_cS] using hg))
  simp at hn1
  have e1 : wtTDisk y1 = wtTDisk a := by rw [wtTDisk_pl, wtTDisk_pl, p1]
  simp [s4_10, cDisk, cS, cI, cS]
  refine call_some (VC.track (VC.to (v_spec_DeleteObsoleteFiles (plDisk y1) (hsz _ p1)) (show _ = V.agg ((eDisk (⟨delP ((plDisk a)).files⟩)).map V.d) by rw [p1])) (by simp [er_I, er_SI, er_Str, er_File, er_Tab, er_Db, er_Delta, er_Atom, er_VRel, eDisk, plDisk, cP, pS, plI]) (by simp [V.pn, pnVL])) rfl (by simp) fun n2 hs2 r2 hn2 hm2 hp2 hr2 => ?_
  obtain ⟨hq2, ht2⟩ := hp2
  obtain ⟨w0, rfl, pw0⟩ := rp_agg tk_Disk hq2 ht2
  have uw0 : ∀ g ∈ idsL (cDisk w0), g < hs2 := fun g hg => hr2 g (by simp only [V.ids, idsVL, ids_agg, idsVL_map_d, idsL_cS, List.mem_append] at hg ⊢; simp [hg])
  simp at hn2
  clear hr2
  simp [s4_10, cDisk, cS, cI, cS]
  refine call_some (w_laws_toDisk a k_a (by omega)) rfl (by simp) fun n3 hs3 r3 hn3 hm3 hp3 hr3 => ?_
  obtain ⟨y3, rfl, p3, k3, G3⟩ := hp3
  have u3 : ∀ g ∈ idsL (cDisk y3), g < hs3 := fun g hg => hr3 g (by first | (rw [ids_agg]; exact hg) | (simpa only [V.ids, idsL_cS] using hg))
  simp at hn3
  have e3 : wtTDisk y3 = wtTDisk a := by rw [wtTDisk_pl, wtTDisk_pl, p3]
  simp [s4_10, cDisk, cS, cI, cS]
  refine call_some (t_impl_DeleteObsoleteFiles y3 (hsz _ p3)) rfl (by simp) fun n4 hs4 r4 hn4 hm4 hp4 hr4 => ?_
  obtain ⟨g0, rfl, pg0, kg0, Gg0⟩ := hp4
  have ug0 : ∀ g ∈ idsL (cDisk g0), g < hs4 := fun g hg => hr4 g (by simp only [V.ids, idsVL, ids_agg, idsVL_map_d, idsL_cS, List.mem_append] at hg ⊢; simp [hg])
  have lg0 := Gg0.lo
  simp only [p3] at pg0
  simp at hn4
  simp [s4_10, cDisk, cS, cI, cS, p3]
  have hbg0 : 1 + (wtTDisk g0 : Int) ≤ 4611686018427387904 := by
    rw [wtTDisk_pl, pg0]
    have := wp_files (delP (plDisk a).files); have := delP_len (plDisk a).files; have := (hsz a rfl).1; omega
  refine call_pure (w_laws_eqDisk g0 w0 kg0) rfl (by simp) rfl fun hs5 hh5 => ?_
  simp at hh5
  simp [s4_10, cDisk, cS, cI, cS, pg0, pw0]
  refine call_some (w_laws_toDisk a k_a (by omega)) rfl (by simp) fun n6 hs6 r6 hn6 hm6 hp6 hr6 => ?_
  obtain ⟨y6, rfl, p6, k6, G6⟩ := hp6
  have u6 : ∀ g ∈ idsL (cDisk y6), g < hs6 := fun g hg => hr6 g (by first | (rw [ids_agg]; exact hg) | (simpa only [V.ids, idsL_cS] using hg))
  simp at hn6
  have e6 : wtTDisk y6 = wtTDisk a := by rw [wtTDisk_pl, wtTDisk_pl, p6]
  simp [s4_10, cDisk, cS, cI, cS]
  refine call_pure (w_laws_eqDisk y3 y6 k3) rfl (by simp) rfl fun hs7 hh7 => ?_
  simp at hh7
  simp [s4_10, cDisk, cS, cI, cS, p3, p6]
  refine call_x (E22) (by simp) (by simp) (by simp) (fun q hq => .inl ?_) (w_laws_markDisk y3 (1) (by omega) (by omega) G3.wh k3 G3.nd) fun n8 hs8 r8 cs8 ws8 hn8 hm8 hp8 hr8 hw8 => ?_
  · have := G3.lo q (by simpa only [idsL_cS] using hq)
    show B ≤ q
    omega
  obtain ⟨rfl, rfl⟩ := hp8
  simp at hn8
  have hre8 : reL (phi (idsL (cDisk y3)) (cDisk (mkTDisk y3 (1)))) (cDisk y3) = some (cDisk (mkTDisk y3 (1))) := re_sim (simT_Disk G3.wh _) (marksTDisk.ids _ _) G3.nd
  have ho8_a : reL (phi (idsL (cDisk y3)) (cDisk (mkTDisk y3 (1)))) (cDisk a) = some (cDisk a) := re_same fun g hg h => by
    skip
    have h1 := G3.lo g (by simpa only [idsL_cS] using hg); have h2 := ua_a g h; omega
  have ho8_w0 : reL (phi (idsL (cDisk y3)) (cDisk (mkTDisk y3 (1)))) (cDisk w0) = some (cDisk w0) := re_same fun g hg h => by
    skip
    have h1 := G3.lo g (by simpa only [idsL_cS] using hg); have h2 := uw0 g h; omega
  have ho8_g0 : reL (phi (idsL (cDisk y3)) (cDisk (mkTDisk y3 (1)))) (cDisk g0) = some (cDisk g0) := re_same fun g hg h => by
    skip
    have h1 := u3 g (by simpa only [idsL_cS] using hg); have h2 := lg0 g h; omega
  replace hre8 := reVL_map hre8
  replace ho8_a := reVL_map ho8_a
  replace ho8_w0 := reVL_map ho8_w0
  replace ho8_g0 := reVL_map ho8_g0
  simp only [s4_10, cDisk, cS, cI, cS, List.cons_append, List.nil_append, List.map_cons, List.map_nil, reVL_cons, reVL_nil, List.cons.injEq, and_true, reV_int, reV_str, true_and, mkTDisk] at hre8 ho8_a ho8_w0 ho8_g0
  simp [hre8, ho8_a, ho8_w0, ho8_g0, s4_10, cDisk, cS, cI, cS, mkTDisk, show ¬ (1 + wtTDisk y3 : Int) < 0 by omega, show (0 : Int) ≤ 1 + wtTDisk y3 by omega]
  try simp [show ¬ (1 + wtTDisk y3 : Int) < 0 by omega, show (0 : Int) ≤ 1 + wtTDisk y3 by omega]
  refine call_pure (w_laws_eqDisk g0 w0 kg0) rfl (by simp) rfl fun hs9 hh9 => ?_
  simp at hh9
  simp [s4_10, cDisk, cS, cI, cS, pg0, pw0]
  refine call_x (E22) (by simp) (by simp) (by simp) (fun q hq => .inl ?_) (w_laws_markDisk g0 (1) (by omega) (by omega) Gg0.wh kg0 Gg0.nd) fun n10 hs10 r10 cs10 ws10 hn10 hm10 hp10 hr10 hw10 => ?_
  · have := Gg0.lo q (by simpa only [idsL_cS] using hq)
    show B ≤ q
    omega
  obtain ⟨rfl, rfl⟩ := hp10
  simp at hn10
  have hre10 : reL (phi (idsL (cDisk g0)) (cDisk (mkTDisk g0 (1)))) (cDisk g0) = some (cDisk (mkTDisk g0 (1))) := re_sim (simT_Disk Gg0.wh _) (marksTDisk.ids _ _) Gg0.nd
  have ho10_a : reL (phi (idsL (cDisk g0)) (cDisk (mkTDisk g0 (1)))) (cDisk a) = some (cDisk a) := re_same fun g hg h => by
    skip
    have h1 := Gg0.lo g (by simpa only [idsL_cS] using hg); have h2 := ua_a g h; omega
  have ho10_w0 : reL (phi (idsL (cDisk g0)) (cDisk (mkTDisk g0 (1)))) (cDisk w0) = some (cDisk w0) := re_same fun g hg h => by
    skip
    have h1 := Gg0.lo g (by simpa only [idsL_cS] using hg); have h2 := uw0 g h; omega
  have ho10_y3 : reL (phi (idsL (cDisk g0)) (cDisk (mkTDisk g0 (1)))) (cDisk (mkTDisk y3 (1))) = some (cDisk (mkTDisk y3 (1))) := re_same fun g hg h => by
    rw [marksTDisk.ids] at h
    have h1 := Gg0.lo g (by simpa only [idsL_cS] using hg); have h2 := u3 g h; omega
  replace hre10 := reVL_map hre10
  replace ho10_a := reVL_map ho10_a
  replace ho10_w0 := reVL_map ho10_w0
  replace ho10_y3 := reVL_map ho10_y3
  simp only [s4_10, cDisk, cS, cI, cS, List.cons_append, List.nil_append, List.map_cons, List.map_nil, reVL_cons, reVL_nil, List.cons.injEq, and_true, reV_int, reV_str, true_and, mkTDisk] at hre10 ho10_a ho10_w0 ho10_y3
  simp [hre10, ho10_a, ho10_w0, ho10_y3, s4_10, cDisk, cS, cI, cS, mkTDisk, show ¬ (1 + wtTDisk g0 : Int) < 0 by omega, show (0 : Int) ≤ 1 + wtTDisk g0 by omega]
  refine call_pure (w_laws_heldDisk (mkTDisk g0 (1)) (1) (by omega) (by rw [marksTDisk.wt]; omega) (ok_mkTDisk _ _ kg0)) rfl (by simp) rfl fun hs11 hh11 => ?_
  simp at hh11
  rw [marksTDisk.hl, marksTDisk.wt]
  simp [show ¬ (1 + wtTDisk g0 : Int) < 0 by omega]
  refine call_some (w_laws_toDisk a k_a (by omega)) rfl (by simp) fun n12 hs12 r12 hn12 hm12 hp12 hr12 => ?_
  obtain ⟨y12, rfl, p12, k12, G12⟩ := hp12
  have u12 : ∀ g ∈ idsL (cDisk y12), g < hs12 := fun g hg => hr12 g (by first | (rw [ids_agg]; exact hg) | (simpa only [V.ids, idsL_cS] using hg))
  simp at hn12
  have e12 : wtTDisk y12 = wtTDisk a := by rw [wtTDisk_pl, wtTDisk_pl, p12]
  simp [s4_10, cDisk, cS, cI, cS]
  refine call_some (t_impl_DeleteObsoleteFiles y12 (hsz _ p12)) rfl (by simp) fun n13 hs13 r13 hn13 hm13 hp13 hr13 => ?_
  obtain ⟨h0, rfl, ph0, kh0, Gh0⟩ := hp13
  have uh0 : ∀ g ∈ idsL (cDisk h0), g < hs13 := fun g hg => hr13 g (by simp only [V.ids, idsVL, ids_agg, idsVL_map_d, idsL_cS, List.mem_append] at hg ⊢; simp [hg])
  have lh0 := Gh0.lo
  simp only [p12] at ph0
  simp at hn13
  simp [s4_10, cDisk, cS, cI, cS, p12]
  refine call_pure (w_laws_eqDisk h0 w0 kh0) rfl (by simp) rfl fun hs14 hh14 => ?_
  simp at hh14
  simp [s4_10, cDisk, cS, cI, cS, ph0, pw0]
  refine call_pure (w_laws_heldDisk (mkTDisk g0 (1)) (1) (by omega) (by rw [marksTDisk.wt]; omega) (ok_mkTDisk _ _ kg0)) rfl (by simp) rfl fun hs15 hh15 => ?_
  simp at hh15
  rw [marksTDisk.hl, marksTDisk.wt]
  simp [show ¬ (1 + wtTDisk g0 : Int) < 0 by omega]

end Go.Proofs.Ytlmnjomekklnkaa

namespace Go.Proofs.Ytlmnjomekklnkaa
open Go.Vs Go.Proofs Go
set_option maxRecDepth 100000
set_option maxHeartbeats 1000000

theorem w_laws_FnExactCommitDatabase (a : Disk) (b : Db) (n : Int) (k_a : okDisk a) (k_b : okDb b) :
   VC Try.prog 6 [.agg ((cDisk a).map V.d), .agg ((cDb b).map V.d), .d (.int .i64 n)] (fun _ r => r = .d (.bool true)) := by
  refine VC.ofB E s6 (by kernel_rfl) Try.func6 (by rfl) (by kernel_rfl) (by simp [Try.f6]) (by simp [Try.f6]) s6_ok fun B hB => ?_
  have ua_a : ∀ g ∈ idsL (cDisk a), g < B := fun g hg => hB g (by simp only [idsVL, ids_agg, idsVL_map_d, V.ids, idsL_cS, List.mem_append] at hg ⊢; simp [hg])
  have ua_b : ∀ g ∈ idsL (cDb b), g < B := fun g hg => hB g (by simp only [idsVL, ids_agg, idsVL_map_d, V.ids, idsL_cS, List.mem_append] at hg ⊢; simp [hg])
  simp [Try.f6, s6_14, s6_16, s6_14, s6_16, cDb, cDisk, cS, cI, cS]
  refine call_pure (w_laws_szDisk a _ (by omega) (by omega) k_a) rfl (by simp) rfl fun hz_a zz_a => ?_
  simp at zz_a
  by_cases s_a : (swDisk a : Int) ≤ 1048576
  case neg =>
    rw [szv_neg (by omega)]; simp
    all_goals exact fun h => absurd h (by decide)
  rw [szv_pos s_a]
  simp [show ¬ (1048576 : Int) - swDisk a < 0 by omega, show ¬ (1048576 : Int) < swDisk a by omega, s_a]
  refine call_pure (w_laws_szDatabase b _ (by omega) (by omega) k_b) rfl (by simp) rfl fun hz_b zz_b => ?_
  simp at zz_b
  by_cases s_b : (swDb b : Int) ≤ 1048576 - swDisk a
  case neg =>
    rw [szv_neg (by omega)]; simp
    all_goals exact fun h => absurd h (by decide)
  rw [szv_pos s_b]
  simp [show ¬ (1048576 - swDisk a : Int) - swDb b < 0 by omega, show ¬ (1048576 - swDisk a : Int) < swDb b by omega, s_b]
  have hw_a := wbT_Disk a
  have hw_b := wbT_Db b
  have hsz : ∀ y : Disk, plDisk y = plDisk a → szDk (plDisk y) := fun y h => by rw [h]; exact szDk_sw a (by omega)
  refine cutT (X := Disk) (fun w0 hs => plDisk w0 = ⟨comP ((plDisk a)).files (plDb b) n⟩ ∧ ∀ g ∈ idsL (cDisk w0), g < hs) (fun w0 => [(3, .ptr 3 0 0), (4, .ptr 4 0 0), (2, .d (.int .i64 n)), (8, .ptr 8 0 0), (9, .d (.bool (comB ((plDisk a)).files (plDb b) n)))]) (fun w0 => [(3, some (.box ((cDisk a).map V.d))), (4, some (.box ((cDb b).map V.d))), (8, some (.box ((cDisk w0).map V.d)))]) ?_ ?_
  · intro K hK
    simp [s6_8, cDb, cDisk, cS, cI, cS]
    repeat' apply And.intro
    all_goals
      refine call_some (w_laws_toDisk a k_a (by omega)) rfl (by simp) fun n1 hs1 r1 hn1 hm1 hp1 hr1 => ?_
      obtain ⟨y1, rfl, p1, k1, G1⟩ := hp1
      have u1 : ∀ g ∈ idsL (cDisk y1), g < hs1 := fun g hg => hr1 g (by first | (rw [ids_agg]; exact hg) | (simpa only [V.ids, idsL_cS] using hg))
      simp at hn1
      have e1 : wtTDisk y1 = wtTDisk a := by rw [wtTDisk_pl, wtTDisk_pl, p1]
      simp [s6_14, s6_16, cDb, cDisk, cS, cI, cS]
      repeat' apply And.intro
      all_goals
        refine call_some (w_laws_toDatabase b k_b (by omega)) rfl (by simp) fun n2 hs2 r2 hn2 hm2 hp2 hr2 => ?_
        obtain ⟨y2, rfl, p2, k2, G2⟩ := hp2
        have u2 : ∀ g ∈ idsL (cDb y2), g < hs2 := fun g hg => hr2 g (by first | (rw [ids_agg]; exact hg) | (simpa only [V.ids, idsL_cS] using hg))
        simp at hn2
        have e2 : wtTDb y2 = wtTDb b := by rw [wtTDb_pl, wtTDb_pl, p2]
        simp [s6_14, s6_16, cDb, cDisk, cS, cI, cS]
        repeat' apply And.intro
        all_goals
          refine call_some (VC.track (VC.to (v_spec_CommitDatabase (plDisk y1) (plDb y2) n (hsz _ p1) (okDb_strs k2)) (show _ = V.tup [.agg ((eDisk (⟨comP ((plDisk a)).files (plDb b) n⟩)).map V.d), .d (.bool (comB ((plDisk a)).files (plDb b) n))] by rw [p1, p2])) (by simp [er_I, er_SI, er_Str, er_File, er_Tab, er_Db, er_Delta, er_Atom, er_VRel, eDb, eDisk, plDb, plDisk, cP, pS, plI]) (by simp [V.pn, pnVL])) rfl (by simp) fun n3 hs3 r3 hn3 hm3 hp3 hr3 => ?_
          obtain ⟨hq3, ht3⟩ := hp3
          obtain ⟨x30, x31, rfl, q30, q31, t30, t31⟩ := rp_tup2 hq3 ht3
          obtain ⟨w0, rfl, pw0⟩ := rp_agg tk_Disk q30 t30
          obtain rfl := rp_flat q31 rfl
          have uw0 : ∀ g ∈ idsL (cDisk w0), g < hs3 := fun g hg => hr3 g (by simp only [V.ids, idsVL, ids_agg, idsVL_map_d, idsL_cS, List.mem_append] at hg ⊢; simp [hg])
          simp at hn3
          clear hr3
          simp [s6_14, s6_16, cDb, cDisk, cS, cI, cS]
          exact hK w0 _ ⟨pw0, uw0⟩ rfl rfl (by simp <;> omega) (by simp [cDb, cDisk, cS, cI, cS]) (by simp [cDb, cDisk, cS, cI, cS])
  intro w0 hsw tw mw hw hhw
  obtain ⟨pw0, uw0⟩ := hw
  simp [s6_14, s6_16, cDb, cDisk, cS, cI, cS]
  refine call_some (w_laws_toDisk a k_a (by omega)) rfl (by simp) fun n4 hs4 r4 hn4 hm4 hp4 hr4 => ?_
  obtain ⟨y4, rfl, p4, k4, G4⟩ := hp4
  have u4 : ∀ g ∈ idsL (cDisk y4), g < hs4 := fun g hg => hr4 g (by first | (rw [ids_agg]; exact hg) | (simpa only [V.ids, idsL_cS] using hg))
  simp at hn4
  have e4 : wtTDisk y4 = wtTDisk a := by rw [wtTDisk_pl, wtTDisk_pl, p4]
  simp [s6_14, s6_16, cDb, cDisk, cS, cI, cS]
  refine call_some (w_laws_toDatabase b k_b (by omega)) rfl (by simp) fun n5 hs5 r5 hn5 hm5 hp5 hr5 => ?_
  obtain ⟨y5, rfl, p5, k5, G5⟩ := hp5
  have u5 : ∀ g ∈ idsL (cDb y5), g < hs5 := fun g hg => hr5 g (by first | (rw [ids_agg]; exact hg) | (simpa only [V.ids, idsL_cS] using hg))
  simp at hn5
  have e5 : wtTDb y5 = wtTDb b := by rw [wtTDb_pl, wtTDb_pl, p5]
  simp [s6_14, s6_16, cDb, cDisk, cS, cI, cS]
  refine call_some (u_impl_CommitDatabase y4 y5 n (hsz _ p4) k5) rfl (by simp) fun n6 hs6 r6 hn6 hm6 hp6 hr6 => ?_
  obtain ⟨g0, rfl, pg0, kg0, Gg0⟩ := hp6
  have ug0 : ∀ g ∈ idsL (cDisk g0), g < hs6 := fun g hg => hr6 g (by simp only [V.ids, idsVL, ids_agg, idsVL_map_d, idsL_cS, List.mem_append] at hg ⊢; simp [hg])
  have lg0 := Gg0.lo
  simp only [p4] at pg0
  simp only [p5] at pg0
  simp at hn6
  simp [s6_14, s6_16, cDb, cDisk, cS, cI, cS, p4, p5]
  have hbg0 : 1 + (wtTDisk g0 : Int) ≤ 4611686018427387904 := by
    rw [wtTDisk_pl, pg0]
    have := wp_files (comP (plDisk a).files (plDb b) n); have := comP_len (plDisk a).files (plDb b) n; have := (hsz a rfl).1; omega
  refine call_pure (w_laws_eqDisk g0 w0 kg0) rfl (by simp) rfl fun hs7 hh7 => ?_
  simp at hh7
  simp [s6_14, s6_16, cDb, cDisk, cS, cI, cS, pg0, pw0]
  refine call_some (w_laws_toDisk a k_a (by omega)) rfl (by simp) fun n8 hs8 r8 hn8 hm8 hp8 hr8 => ?_
  obtain ⟨y8, rfl, p8, k8, G8⟩ := hp8
  have u8 : ∀ g ∈ idsL (cDisk y8), g < hs8 := fun g hg => hr8 g (by first | (rw [ids_agg]; exact hg) | (simpa only [V.ids, idsL_cS] using hg))
  simp at hn8
  have e8 : wtTDisk y8 = wtTDisk a := by rw [wtTDisk_pl, wtTDisk_pl, p8]
  simp [s6_14, s6_16, cDb, cDisk, cS, cI, cS]
  refine call_pure (w_laws_eqDisk y4 y8 k4) rfl (by simp) rfl fun hs9 hh9 => ?_
  simp at hh9
  simp [s6_14, s6_16, cDb, cDisk, cS, cI, cS, p4, p8]
  refine call_some (w_laws_toDatabase b k_b (by omega)) rfl (by simp) fun n10 hs10 r10 hn10 hm10 hp10 hr10 => ?_
  obtain ⟨y10, rfl, p10, k10, G10⟩ := hp10
  have u10 : ∀ g ∈ idsL (cDb y10), g < hs10 := fun g hg => hr10 g (by first | (rw [ids_agg]; exact hg) | (simpa only [V.ids, idsL_cS] using hg))
  simp at hn10
  have e10 : wtTDb y10 = wtTDb b := by rw [wtTDb_pl, wtTDb_pl, p10]
  simp [s6_14, s6_16, cDb, cDisk, cS, cI, cS]
  refine call_pure (w_laws_eqDatabase y5 y10 k5) rfl (by simp) rfl fun hs11 hh11 => ?_
  simp at hh11
  simp [s6_14, s6_16, cDb, cDisk, cS, cI, cS, p5, p10]
  refine call_x (E22) (by simp) (by simp) (by simp) (fun q hq => .inl ?_) (w_laws_markDisk y4 (1) (by omega) (by omega) G4.wh k4 G4.nd) fun n12 hs12 r12 cs12 ws12 hn12 hm12 hp12 hr12 hw12 => ?_
  · have := G4.lo q (by simpa only [idsL_cS] using hq)
    show B ≤ q
    omega
  obtain ⟨rfl, rfl⟩ := hp12
  simp at hn12
  have hre12 : reL (phi (idsL (cDisk y4)) (cDisk (mkTDisk y4 (1)))) (cDisk y4) = some (cDisk (mkTDisk y4 (1))) := re_sim (simT_Disk G4.wh _) (marksTDisk.ids _ _) G4.nd
  have ho12_a : reL (phi (idsL (cDisk y4)) (cDisk (mkTDisk y4 (1)))) (cDisk a) = some (cDisk a) := re_same fun g hg h => by
    skip
    have h1 := G4.lo g (by simpa only [idsL_cS] using hg); have h2 := ua_a g h; omega
  have ho12_b : reL (phi (idsL (cDisk y4)) (cDisk (mkTDisk y4 (1)))) (cDb b) = some (cDb b) := re_same fun g hg h => by
    skip
    have h1 := G4.lo g (by simpa only [idsL_cS] using hg); have h2 := ua_b g h; omega
  have ho12_w0 : reL (phi (idsL (cDisk y4)) (cDisk (mkTDisk y4 (1)))) (cDisk w0) = some (cDisk w0) := re_same fun g hg h => by
    skip
    have h1 := G4.lo g (by simpa only [idsL_cS] using hg); have h2 := uw0 g h; omega
  have ho12_g0 : reL (phi (idsL (cDisk y4)) (cDisk (mkTDisk y4 (1)))) (cDisk g0) = some (cDisk g0) := re_same fun g hg h => by
    skip
    have h1 := u4 g (by simpa only [idsL_cS] using hg); have h2 := lg0 g h; omega
  have ho12_y5 : reL (phi (idsL (cDisk y4)) (cDisk (mkTDisk y4 (1)))) (cDb y5) = some (cDb y5) := re_same fun g hg h => by
    skip
    have h1 := u4 g (by simpa only [idsL_cS] using hg); have h2 := (G5.lo) g h; omega
  replace hre12 := reVL_map hre12
  replace ho12_a := reVL_map ho12_a
  replace ho12_b := reVL_map ho12_b
  replace ho12_w0 := reVL_map ho12_w0
  replace ho12_g0 := reVL_map ho12_g0
  replace ho12_y5 := reVL_map ho12_y5
  simp only [s6_14, s6_16, cDb, cDisk, cS, cI, cS, List.cons_append, List.nil_append, List.map_cons, List.map_nil, reVL_cons, reVL_nil, List.cons.injEq, and_true, reV_int, reV_str, true_and, mkTDb, mkTDisk, mkTReln, mkTTab] at hre12 ho12_a ho12_b ho12_w0 ho12_g0 ho12_y5
  simp [hre12, ho12_a, ho12_b, ho12_w0, ho12_g0, ho12_y5, s6_14, s6_16, cDb, cDisk, cS, cI, cS, mkTDb, mkTDisk, mkTReln, mkTTab, show ¬ (1 + wtTDisk y4 : Int) < 0 by omega, show (0 : Int) ≤ 1 + wtTDisk y4 by omega]
  refine call_x (E27) (by simp) (by simp) (by simp) (fun q hq => .inl ?_) (w_laws_markDatabase y5 (1 + wtTDisk y4) (by omega) (by omega) G5.wh k5 G5.nd) fun n13 hs13 r13 cs13 ws13 hn13 hm13 hp13 hr13 hw13 => ?_
  · have := G5.lo q (by simpa only [idsL_cS] using hq)
    show B ≤ q
    omega
  obtain ⟨rfl, rfl⟩ := hp13
  simp at hn13
  have hre13 : reL (phi (idsL (cDb y5)) (cDb (mkTDb y5 (1 + wtTDisk y4)))) (cDb y5) = some (cDb (mkTDb y5 (1 + wtTDisk y4))) := re_sim (simT_Db G5.wh _) (marksTDb.ids _ _) G5.nd
  have ho13_a : reL (phi (idsL (cDb y5)) (cDb (mkTDb y5 (1 + wtTDisk y4)))) (cDisk a) = some (cDisk a) := re_same fun g hg h => by
    skip
    have h1 := G5.lo g (by simpa only [idsL_cS] using hg); have h2 := ua_a g h; omega
  have ho13_b : reL (phi (idsL (cDb y5)) (cDb (mkTDb y5 (1 + wtTDisk y4)))) (cDb b) = some (cDb b) := re_same fun g hg h => by
    skip
    have h1 := G5.lo g (by simpa only [idsL_cS] using hg); have h2 := ua_b g h; omega
  have ho13_w0 : reL (phi (idsL (cDb y5)) (cDb (mkTDb y5 (1 + wtTDisk y4)))) (cDisk w0) = some (cDisk w0) := re_same fun g hg h => by
    skip
    have h1 := G5.lo g (by simpa only [idsL_cS] using hg); have h2 := uw0 g h; omega
  have ho13_g0 : reL (phi (idsL (cDb y5)) (cDb (mkTDb y5 (1 + wtTDisk y4)))) (cDisk g0) = some (cDisk g0) := re_same fun g hg h => by
    skip
    have h1 := u5 g (by simpa only [idsL_cS] using hg); have h2 := lg0 g h; omega
  have ho13_y4 : reL (phi (idsL (cDb y5)) (cDb (mkTDb y5 (1 + wtTDisk y4)))) (cDisk (mkTDisk y4 (1))) = some (cDisk (mkTDisk y4 (1))) := re_same fun g hg h => by
    rw [marksTDisk.ids] at h
    have h1 := G5.lo g (by simpa only [idsL_cS] using hg); have h2 := u4 g h; omega
  replace hre13 := reVL_map hre13
  replace ho13_a := reVL_map ho13_a
  replace ho13_b := reVL_map ho13_b
  replace ho13_w0 := reVL_map ho13_w0
  replace ho13_g0 := reVL_map ho13_g0
  replace ho13_y4 := reVL_map ho13_y4
  simp only [s6_14, s6_16, cDb, cDisk, cS, cI, cS, List.cons_append, List.nil_append, List.map_cons, List.map_nil, reVL_cons, reVL_nil, List.cons.injEq, and_true, reV_int, reV_str, true_and, mkTDb, mkTDisk, mkTReln, mkTTab] at hre13 ho13_a ho13_b ho13_w0 ho13_g0 ho13_y4
  simp [hre13, ho13_a, ho13_b, ho13_w0, ho13_g0, ho13_y4, s6_14, s6_16, cDb, cDisk, cS, cI, cS, mkTDb, mkTDisk, mkTReln, mkTTab, show ¬ (1 + wtTDisk y4 + wtTDb y5 : Int) < 0 by omega, show (0 : Int) ≤ 1 + wtTDisk y4 + wtTDb y5 by omega]
  try simp [show ¬ (1 + wtTDisk y4 + wtTDb y5 : Int) < 0 by omega, show (0 : Int) ≤ 1 + wtTDisk y4 + wtTDb y5 by omega]
  refine call_pure (w_laws_eqDisk g0 w0 kg0) rfl (by simp) rfl fun hs14 hh14 => ?_
  simp at hh14
  simp [s6_14, s6_16, cDb, cDisk, cS, cI, cS, pg0, pw0]
  refine call_x (E22) (by simp) (by simp) (by simp) (fun q hq => .inl ?_) (w_laws_markDisk g0 (1) (by omega) (by omega) Gg0.wh kg0 Gg0.nd) fun n15 hs15 r15 cs15 ws15 hn15 hm15 hp15 hr15 hw15 => ?_
  · have := Gg0.lo q (by simpa only [idsL_cS] using hq)
    show B ≤ q
    omega
  obtain ⟨rfl, rfl⟩ := hp15
  simp at hn15
  have hre15 : reL (phi (idsL (cDisk g0)) (cDisk (mkTDisk g0 (1)))) (cDisk g0) = some (cDisk (mkTDisk g0 (1))) := re_sim (simT_Disk Gg0.wh _) (marksTDisk.ids _ _) Gg0.nd
  have ho15_a : reL (phi (idsL (cDisk g0)) (cDisk (mkTDisk g0 (1)))) (cDisk a) = some (cDisk a) := re_same fun g hg h => by
    skip
    have h1 := Gg0.lo g (by simpa only [idsL_cS] using hg); have h2 := ua_a g h; omega
  have ho15_b : reL (phi (idsL (cDisk g0)) (cDisk (mkTDisk g0 (1)))) (cDb b) = some (cDb b) := re_same fun g hg h => by
    skip
    have h1 := Gg0.lo g (by simpa only [idsL_cS] using hg); have h2 := ua_b g h; omega
  have ho15_w0 : reL (phi (idsL (cDisk g0)) (cDisk (mkTDisk g0 (1)))) (cDisk w0) = some (cDisk w0) := re_same fun g hg h => by
    skip
    have h1 := Gg0.lo g (by simpa only [idsL_cS] using hg); have h2 := uw0 g h; omega
  have ho15_y4 : reL (phi (idsL (cDisk g0)) (cDisk (mkTDisk g0 (1)))) (cDisk (mkTDisk y4 (1))) = some (cDisk (mkTDisk y4 (1))) := re_same fun g hg h => by
    rw [marksTDisk.ids] at h
    have h1 := Gg0.lo g (by simpa only [idsL_cS] using hg); have h2 := u4 g h; omega
  have ho15_y5 : reL (phi (idsL (cDisk g0)) (cDisk (mkTDisk g0 (1)))) (cDb (mkTDb y5 (1 + wtTDisk y4))) = some (cDb (mkTDb y5 (1 + wtTDisk y4))) := re_same fun g hg h => by
    rw [marksTDb.ids] at h
    have h1 := Gg0.lo g (by simpa only [idsL_cS] using hg); have h2 := u5 g h; omega
  replace hre15 := reVL_map hre15
  replace ho15_a := reVL_map ho15_a
  replace ho15_b := reVL_map ho15_b
  replace ho15_w0 := reVL_map ho15_w0
  replace ho15_y4 := reVL_map ho15_y4
  replace ho15_y5 := reVL_map ho15_y5
  simp only [s6_14, s6_16, cDb, cDisk, cS, cI, cS, List.cons_append, List.nil_append, List.map_cons, List.map_nil, reVL_cons, reVL_nil, List.cons.injEq, and_true, reV_int, reV_str, true_and, mkTDb, mkTDisk, mkTReln, mkTTab] at hre15 ho15_a ho15_b ho15_w0 ho15_y4 ho15_y5
  simp [hre15, ho15_a, ho15_b, ho15_w0, ho15_y4, ho15_y5, s6_14, s6_16, cDb, cDisk, cS, cI, cS, mkTDb, mkTDisk, mkTReln, mkTTab, show ¬ (1 + wtTDisk g0 : Int) < 0 by omega, show (0 : Int) ≤ 1 + wtTDisk g0 by omega]
  refine call_pure (w_laws_heldDisk (mkTDisk g0 (1)) (1) (by omega) (by rw [marksTDisk.wt]; omega) (ok_mkTDisk _ _ kg0)) rfl (by simp) rfl fun hs16 hh16 => ?_
  simp at hh16
  rw [marksTDisk.hl, marksTDisk.wt]
  simp [show ¬ (1 + wtTDisk g0 : Int) < 0 by omega]
  refine cutT (X := Disk) (fun h0 _ => plDisk h0 = ⟨comP ((plDisk a)).files (plDb b) n⟩ ∧ okDisk h0) (fun h0 => [(8, .ptr 8 0 0), (12, .ptr 12 0 0), (17, .ptr 17 0 0), (9, .d (.bool (comB ((plDisk a)).files (plDb b) n))), (13, .d (.bool (comB ((plDisk a)).files (plDb b) n))), (18, .d (.bool (comB ((plDisk a)).files (plDb b) n))), (15, .d (.int .i64 (1 + wtTDisk g0)))]) (fun h0 => [(8, some (.box ((cDisk w0).map V.d))), (12, some (.box ((cDisk (mkTDisk g0 (1))).map V.d))), (17, some (.box ((cDisk h0).map V.d)))]) ?_ ?_
  · intro K hK
    simp [s6_31, cDb, cDisk, cS, cI, cS]
    repeat' apply And.intro
    all_goals
      refine call_some (w_laws_toDisk a k_a (by omega)) rfl (by simp) fun n17 hs17 r17 hn17 hm17 hp17 hr17 => ?_
      obtain ⟨y17, rfl, p17, k17, G17⟩ := hp17
      have u17 : ∀ g ∈ idsL (cDisk y17), g < hs17 := fun g hg => hr17 g (by first | (rw [ids_agg]; exact hg) | (simpa only [V.ids, idsL_cS] using hg))
      simp at hn17
      have e17 : wtTDisk y17 = wtTDisk a := by rw [wtTDisk_pl, wtTDisk_pl, p17]
      simp [s6_14, s6_16, cDb, cDisk, cS, cI, cS]
      repeat' apply And.intro
      all_goals
        refine call_some (w_laws_toDatabase b k_b (by omega)) rfl (by simp) fun n18 hs18 r18 hn18 hm18 hp18 hr18 => ?_
        obtain ⟨y18, rfl, p18, k18, G18⟩ := hp18
        have u18 : ∀ g ∈ idsL (cDb y18), g < hs18 := fun g hg => hr18 g (by first | (rw [ids_agg]; exact hg) | (simpa only [V.ids, idsL_cS] using hg))
        simp at hn18
        have e18 : wtTDb y18 = wtTDb b := by rw [wtTDb_pl, wtTDb_pl, p18]
        simp [s6_14, s6_16, cDb, cDisk, cS, cI, cS]
        repeat' apply And.intro
        all_goals
          refine call_some (u_impl_CommitDatabase y17 y18 n (hsz _ p17) k18) rfl (by simp) fun n19 hs19 r19 hn19 hm19 hp19 hr19 => ?_
          obtain ⟨h0, rfl, ph0, kh0, Gh0⟩ := hp19
          have uh0 : ∀ g ∈ idsL (cDisk h0), g < hs19 := fun g hg => hr19 g (by simp only [V.ids, idsVL, ids_agg, idsVL_map_d, idsL_cS, List.mem_append] at hg ⊢; simp [hg])
          have lh0 := Gh0.lo
          simp only [p17] at ph0
          simp only [p18] at ph0
          simp at hn19
          simp [s6_14, s6_16, cDb, cDisk, cS, cI, cS, p17, p18]
          exact hK h0 _ ⟨ph0, kh0⟩ rfl rfl (by simp <;> omega) (by simp [cDb, cDisk, cS, cI, cS, mkTDb, mkTDisk, mkTReln, mkTTab, p17, p18]) (by simp [cDb, cDisk, cS, cI, cS, mkTDb, mkTDisk, mkTReln, mkTTab])
  intro h0 hsh th mh hh hhh
  obtain ⟨ph0, kh0⟩ := hh
  simp [s6_14, s6_16, cDb, cDisk, cS, cI, cS, mkTDb, mkTDisk, mkTReln, mkTTab]
  refine call_pure (w_laws_eqDisk h0 w0 kh0) rfl (by simp) rfl fun hs20 hh20 => ?_
  simp at hh20
  simp [s6_14, s6_16, cDb, cDisk, cS, cI, cS, ph0, pw0]
  refine call_pure (w_laws_heldDisk (mkTDisk g0 (1)) (1) (by omega) (by rw [marksTDisk.wt]; omega) (ok_mkTDisk _ _ kg0)) rfl (by simp) rfl fun hs21 hh21 => ?_
  simp at hh21
  rw [marksTDisk.hl, marksTDisk.wt]
  simp [show ¬ (1 + wtTDisk g0 : Int) < 0 by omega]

end Go.Proofs.Ytlmnjomekklnkaa
