/-
  Q1B2: a part of a proof of this seat: the value-level semantics of Go code without maps, its walk rules, the frame of a row, facts of types, schedules, walks, plain lemmas (P5 P5b M2 M3 M4 M5 M6 M7 M8 M9 M10 S6 S9 S10 S11 S12 S13 P5c P5d P5e E1 K1 K2 K3 K4 K5 K13 K14 K15 K16 K17 K18 K20 K19 K10 K11 W1 W2 W3 W4 W5 W6 W7 W8 W9 M11 M12 W10 X1 X2 X3 X4). It holds of every program and state that its hypotheses name.
-/
import Derived.Test.YtdnbigokdclclaaGreatQ1B1
set_option linter.unusedSimpArgs false
set_option linter.unusedVariables false
set_option linter.unnecessarySimpa false
namespace Go.Proofs.YtdnbigokdclclaaGreat
open Go.Vs Go.Proofs Go
set_option maxRecDepth 100000
set_option maxHeartbeats 1000000

theorem w_spec_l5Sort : ∀ (n : Nat) (l : List (List Int)), l.length ≤ n → l.length ≤ 4294967296 → VC Tryz.prog 168 [.d (pS (cP cI) l)] (fun _ r => r = .d (pS (cP cI) (srtU l))) := by
  intro n
  induction n with
  | zero =>
    intro l hn hb
    have : l = [] := List.length_eq_zero_iff.1 (by omega)
    subst this
    refine VC.ofL EP s168 (by kernel_rfl) Tryz.func168 (by rfl) (by kernel_rfl) (by simp [Tryz.f168]) (by simp [Tryz.f168]) s168_ok fun B hl => ?_
    simp [Tryz.f168, s168_13, srtU]
  | succ n ih =>
  intro l hn hb
  refine VC.ofL EP s168 (by kernel_rfl) Tryz.func168 (by rfl) (by kernel_rfl) (by simp [Tryz.f168]) (by simp [Tryz.f168]) s168_ok fun B hl => ?_
  by_cases h2 : l.length < 2
  · have e : srtU l = l := srtU_id (by
      match l, h2 with
      | [], _ => exact .nil
      | [_], _ => simp
      | _ :: _ :: _, h => simp only [List.length_cons] at h; omega)
    simp [Tryz.f168, s168_13, show ((l.length : Int) < 2) by omega, e]
  obtain ⟨k, hk⟩ : ∃ k, k = l.length / 2 := ⟨_, rfl⟩
  have hm : IntKind.i64.wrap ((l.length : Int) / 2) = (k : Int) := by rw [wrap64_of (by omega) (by omega)]; omega
  simp [Tryz.f168, s168_13, show ¬ ((l.length : Int) < 2) by omega, hm, show k ≤ l.length by omega]
  refine call_p (ih (l.take k) (by simp; omega) (by simp; omega)) (by simp [List.map_take]) fun hs1 hh1 _ => ?_
  simp at hh1
  simp [hm, show k ≤ l.length by omega, List.take_of_length_le]
  refine call_p (ih (l.drop k) (by simp; omega) (by simp; omega)) (by simp [List.map_drop]) fun hs2 hh2 _ => ?_
  simp at hh2
  simp
  have hst := MI.start l k
  generalize srtU (l.take k) = a0 at hst
  generalize srtU (l.drop k) = b0 at hst
  refine loop_rule (X := List (List Int) × List (List Int) × List (List Int)) (fun p => MI l p.1 p.2.1 p.2.2)
    (fun p => [(4, .d (.pl (p.1.map (cP cI)))), (5, .d (.pl (p.2.1.map (cP cI)))), (6, .own 24 0 p.2.2.length)]) (fun p => [(24, some (.row 26 1 (p.2.2.map (cP cI))))]) (fun p => p.1.length + p.2.1.length) (a0, b0, []) hst (by simp) (by simp) ?_
  rintro ⟨a, b, out⟩ hs t m hI hh
  simp only at hI
  have hlen := hI.len
  have hL24 : LenOk 24 1 := ⟨by omega, by simp only [maxLen]; omega⟩
  have hpa : ∀ a : List (List Int), (0 : Int) < (a.length : Int) + 1 := fun a => by omega
  have hpb : ∀ a : List (List Int), ¬ (a.length : Int) + 1 = 0 := fun a => by omega
  have hqa : (0 : Int) < 1 := by omega
  have hqb : ¬ (0 : Int) < -1 := by omega
  rcases a with _ | ⟨x, a⟩
  · rcases b with _ | ⟨y, b⟩
    · have hd := hI.done
      subst hd
      simp [List.take_of_length_le]
    · refine anyQ fun Q => ?_
      have hc0 : True := trivial
      have hI' := hI.swap
      have hL := hI'.left (by simp)
      rcases nil_or_snoc out with rfl | ⟨o, z, rfl⟩
      · simp [hc0, hpa, hpb, hqa, hqb, List.take_of_length_le, cP, hL24, s168_13, ]
        exact back ([], b, [y]) (MI.swap (hL.2 (by simp))) (by simp <;> omega) rfl (by simp <;> omega) (by simp) (by simp)
      · simp only [List.length_append, List.length_cons, List.length_nil] at hlen
        have hw : IntKind.i64.wrap (o.length : Int) = o.length := wrap64_of (by omega) (by omega)
        have hix : (o.map (cP cI) ++ [[D.pl (z.map cI)]])[o.length]? = some [D.pl (z.map cI)] := by rw [List.getElem?_append_right (by simp)]; simp
        simp [hc0, hpa, hpb, hqa, hqb, List.take_of_length_le, hw, hix, cP, s168_13, ]
        refine call_f (w_spec_CompareRows z y) (by simp) rfl fun hs3 hh3 => ?_
        simp at hh3
        by_cases e : z = y
        · subst e
          simp [cmpL_self]
          exact back ([], b, o ++ [z]) (MI.swap (hL.1 (hI'.last.2 rfl))) (by simp <;> omega) rfl (by simp <;> omega) (by simp) (by simp)
        · have e' : ¬ cmpL z y = 0 := fun h => e ((cmpL_zero _ _).1 h)
          simp [e', show LenOk 24 (o.length + 1 + 1) from ⟨by omega, by simp only [maxLen]; omega⟩, cP]
          exact back ([], b, o ++ [z] ++ [y]) (MI.swap (hL.2 fun h => e (hI'.last.1 h))) (by simp <;> omega) rfl (by simp <;> omega) (by simp) (by simp)
  · rcases b with _ | ⟨y, b⟩
    · refine anyQ fun Q => ?_
      have hc0 : True := trivial
      have hL := hI.left (by simp)
      rcases nil_or_snoc out with rfl | ⟨o, z, rfl⟩
      · simp [hc0, hpa, hpb, hqa, hqb, List.take_of_length_le, cP, hL24, s168_13, ]
        exact back (a, [], [x]) ((hL.2 (by simp))) (by simp <;> omega) rfl (by simp <;> omega) (by simp) (by simp)
      · simp only [List.length_append, List.length_cons, List.length_nil] at hlen
        have hw : IntKind.i64.wrap (o.length : Int) = o.length := wrap64_of (by omega) (by omega)
        have hix : (o.map (cP cI) ++ [[D.pl (z.map cI)]])[o.length]? = some [D.pl (z.map cI)] := by rw [List.getElem?_append_right (by simp)]; simp
        simp [hc0, hpa, hpb, hqa, hqb, List.take_of_length_le, hw, hix, cP, s168_13, ]
        refine call_f (w_spec_CompareRows z x) (by simp) rfl fun hs3 hh3 => ?_
        simp at hh3
        by_cases e : z = x
        · subst e
          simp [cmpL_self]
          exact back (a, [], o ++ [z]) ((hL.1 (hI.last.2 rfl))) (by simp <;> omega) rfl (by simp <;> omega) (by simp) (by simp)
        · have e' : ¬ cmpL z x = 0 := fun h => e ((cmpL_zero _ _).1 h)
          simp [e', show LenOk 24 (o.length + 1 + 1) from ⟨by omega, by simp only [maxLen]; omega⟩, cP]
          exact back (a, [], o ++ [z] ++ [x]) ((hL.2 fun h => e (hI.last.1 h))) (by simp <;> omega) rfl (by simp <;> omega) (by simp) (by simp)
    · refine anyQ fun Q => ?_
      simp [cP, hpa, hpb, s168_13, ]
      refine call_f (w_spec_CompareRows x y) (by simp) rfl fun hs0 hh0 => ?_
      simp at hh0
      by_cases hc0 : 0 < cmpL x y
      · have hI' := hI.swap
        have hL := hI'.left (hI.hr hc0)
        rcases nil_or_snoc out with rfl | ⟨o, z, rfl⟩
        · simp [hc0, hpa, hpb, hqa, hqb, List.take_of_length_le, cP, hL24, s168_13, ]
          exact back ((x :: a), b, [y]) (MI.swap (hL.2 (by simp))) (by simp <;> omega) rfl (by simp <;> omega) (by simp) (by simp)
        · simp only [List.length_append, List.length_cons, List.length_nil] at hlen
          have hw : IntKind.i64.wrap (o.length : Int) = o.length := wrap64_of (by omega) (by omega)
          have hix : (o.map (cP cI) ++ [[D.pl (z.map cI)]])[o.length]? = some [D.pl (z.map cI)] := by rw [List.getElem?_append_right (by simp)]; simp
          simp [hc0, hpa, hpb, hqa, hqb, List.take_of_length_le, hw, hix, cP, s168_13, ]
          refine call_f (w_spec_CompareRows z y) (by simp) rfl fun hs3 hh3 => ?_
          simp at hh3
          by_cases e : z = y
          · subst e
            simp [cmpL_self]
            exact back ((x :: a), b, o ++ [z]) (MI.swap (hL.1 (hI'.last.2 rfl))) (by simp <;> omega) rfl (by simp <;> omega) (by simp) (by simp)
          · have e' : ¬ cmpL z y = 0 := fun h => e ((cmpL_zero _ _).1 h)
            simp [e', show LenOk 24 (o.length + 1 + 1) from ⟨by omega, by simp only [maxLen]; omega⟩, cP]
            exact back ((x :: a), b, o ++ [z] ++ [y]) (MI.swap (hL.2 fun h => e (hI'.last.1 h))) (by simp <;> omega) rfl (by simp <;> omega) (by simp) (by simp)
      · 
        have hL := hI.left (hI.hl hc0)
        rcases nil_or_snoc out with rfl | ⟨o, z, rfl⟩
        · simp [hc0, hpa, hpb, hqa, hqb, List.take_of_length_le, cP, hL24, s168_13, ]
          exact back (a, (y :: b), [x]) ((hL.2 (by simp))) (by simp <;> omega) rfl (by simp <;> omega) (by simp) (by simp)
        · simp only [List.length_append, List.length_cons, List.length_nil] at hlen
          have hw : IntKind.i64.wrap (o.length : Int) = o.length := wrap64_of (by omega) (by omega)
          have hix : (o.map (cP cI) ++ [[D.pl (z.map cI)]])[o.length]? = some [D.pl (z.map cI)] := by rw [List.getElem?_append_right (by simp)]; simp
          simp [hc0, hpa, hpb, hqa, hqb, List.take_of_length_le, hw, hix, cP, s168_13, ]
          refine call_f (w_spec_CompareRows z x) (by simp) rfl fun hs3 hh3 => ?_
          simp at hh3
          by_cases e : z = x
          · subst e
            simp [cmpL_self]
            exact back (a, (y :: b), o ++ [z]) ((hL.1 (hI.last.2 rfl))) (by simp <;> omega) rfl (by simp <;> omega) (by simp) (by simp)
          · have e' : ¬ cmpL z x = 0 := fun h => e ((cmpL_zero _ _).1 h)
            simp [e', show LenOk 24 (o.length + 1 + 1) from ⟨by omega, by simp only [maxLen]; omega⟩, cP]
            exact back (a, (y :: b), o ++ [z] ++ [x]) ((hL.2 fun h => e (hI.last.1 h))) (by simp <;> omega) rfl (by simp <;> omega) (by simp) (by simp)

end Go.Proofs.YtdnbigokdclclaaGreat


namespace Go.Proofs.YtdnbigokdclclaaGreat
open Go.Vs Go.Proofs Go
set_option maxRecDepth 100000
set_option maxHeartbeats 1000000

theorem w_spec_NewRelation (ar : Int) (l : List (List Int)) (hb : l.length ≤ 4294967296) (hn : ∀ x ∈ l, x.length ≤ 4294967296) : VC Tryz.prog 124 [.d (.int .i64 ar), .d (pS (cP cI) l)] (fun _ v => v = .tup [.agg ((eReln (newR ar l)).map .d), .d (.bool (newB ar l))]) := by
  refine VC.ofL EP s124 (by kernel_rfl) Tryz.func124 (by rfl) (by kernel_rfl) (by simp [Tryz.f124]) (by simp [Tryz.f124]) s124_ok fun B hl => ?_
  simp [Tryz.f124, eReln]
  refine loop_rule (X := Nat) (fun i => i ≤ l.length ∧ AllTo (fun r : List Int => decide ((r.length : Int) = ar) && valsOk r) l i) (fun i => [(0, .d (.int .i64 ar)), (1, .d (.pl (l.map (cP cI)))), (4, .ptr 4 0 0), (6, .d (.int .i64 i))])
    (fun i => [(4, some (.box [.d (.int .i64 0), .d (.sl none none [])]))]) (fun i => l.length - i) 0 ⟨by simp, allTo_zero⟩ (by simp) (by simp) ?_
  intro i hs t m hi hh
  by_cases hlt : i < l.length
  · have hwi := wr1 (i := i) (by omega)
    by_cases hln : (l[i].length : Int) = ar
    · simp [hlt, hln, cP, ]
      refine call_f (w_spec_AreValidValues l[i]) (by simp) rfl fun hs1 hh1 => ?_
      simp at hh1
      cases hv : valsOk l[i]
      · have hbad := all_bad (p := fun r : List Int => decide ((r.length : Int) = ar) && valsOk r) hlt (by simp [hv])
        simp [newR, newB, hbad, eReln]
      · simp [hwi]
        exact back (i + 1) ⟨by omega, allTo_step hi.2 hlt (by simp [hv, hln])⟩ (by omega) rfl (by simp <;> omega) (by simp) (by simp)
    · have hbad := all_bad (p := fun r : List Int => decide ((r.length : Int) = ar) && valsOk r) hlt (by simp [hln])
      simp [hlt, hln, newR, newB, hbad, eReln, ]
  · have hd := allTo_done hi.2 (by omega)
    have hsl := srtU_len l
    simp [hlt, ]
    refine call_p (w_spec_l5Sort _ l (Nat.le_refl _) hb) (by simp) fun hs1 hh1 _ => ?_
    simp at hh1
    simp []
    refine call_p (w_spec_l5Copy ⟨ar, srtU l⟩ (by simp; omega) (fun x hx => hn x ((srtU_mem l x).1 hx))) (by simp [eReln]) fun hs2 hh2 _ => ?_
    simp at hh2
    simp [eReln]
    refine call_f (w_spec_IsValidRelation ⟨ar, srtU l⟩) (by simp [eReln]) rfl fun hs3 hh3 => ?_
    simp at hh3
    cases h1 : rowsOk ar (srtU l)
    · simp [newR, newB, h1, eReln]
    · simp [newR, newB, h1, hd, eReln]

end Go.Proofs.YtdnbigokdclclaaGreat


namespace Go.Proofs.YtdnbigokdclclaaGreat
open Go.Vs Go.Proofs Go
set_option maxRecDepth 100000
set_option maxHeartbeats 1000000

section
attribute [local simp] plI_id plStr_id map_plI map_plStr pS cP cI cStr cU8 cB
theorem q_impl_Difference (a b : PReln) : VC Tryz.prog 131 [.agg ((eReln a).map V.d), .agg ((eReln b).map V.d)] (fun _ v => v = .tup [.agg ((eReln (difR a b)).map V.d), .d (.bool (difB a b))]) := by
  refine VC.ofL EP s131 (by kernel_rfl) Tryz.func131 (by rfl) (by kernel_rfl) (by simp [Tryz.f131]) (by simp [Tryz.f131]) s131_ok fun B hl => ?_
  obtain ⟨aa, al⟩ := a
  obtain ⟨ba, bl⟩ := b
  simp [Tryz.f131, s131_8, eReln]
  refine call_f (w_impl_IsValidRelation ⟨aa, al⟩) (by simp [eReln]) rfl fun hs1 hh1 => ?_
  simp at hh1
  cases h1 : rowsOk aa al
  · simp [difR, difB, h1, eReln]
  simp
  refine call_f (w_impl_IsValidRelation ⟨ba, bl⟩) (by simp [eReln]) rfl fun hs2 hh2 => ?_
  simp at hh2
  cases h2 : rowsOk ba bl
  · simp [difR, difB, h1, h2, eReln]
  by_cases h3 : aa = ba
  case neg => simp [difR, difB, h1, h2, h3, eReln]
  subst h3
  have hdb : difB ⟨aa, al⟩ ⟨aa, bl⟩ = true := by simp [difB, h1, h2]
  have hdr : difR ⟨aa, al⟩ ⟨aa, bl⟩ = ⟨aa, difL al bl⟩ := by simp only [difR, hdb, if_true]
  rw [hdb, hdr]
  have hal := rowsOk_len h1
  have hbl := rowsOk_len h2
  have hrow := rowsOk_row h1
  simp
  refine loop_ruleL (X := Nat) (fun i _ => i ≤ al.length) (fun i => [(2, .ptr 2 0 0), (3, .ptr 3 0 0), (4, .ptr 4 0 0), (6, .ptr 6 0 0), (29, .d (.pl (al.map (cP cI)))), (30, .d (.int .i64 al.length)), (31, .d (.int .i64 i))])
    (fun i => [(2, some (.box [.d (.int .i64 aa), .d (.pl (al.map (cP cI)))])), (3, some (.box [.d (.int .i64 aa), .d (.pl (bl.map (cP cI)))])), (4, some (.box [.d (.int .i64 0), .d (.sl none none [])])), (6, some (.box [.d (.int .i64 aa), .own 44 0 (difL (al.take i) bl).length])), (44, some (.row 26 1 ((difL (al.take i) bl).map (cP cI))))]) (fun i => al.length - i) ?_ ?_
  · refine (lead_box 6 1 44 26 1 [.d (.int .i64 aa), .d (.sl none none [])] (by omega) (by omega) (by omega) (by simp) rfl).bind ?_
    rintro _ rfl
    exact Lead.of ⟨0, by omega, rfl, rfl, Nat.le_refl _, by simp, by simp [difL]⟩
  intro i hs t m hi hh
  by_cases hlt : i < al.length
  · have hwi := wr1 (i := i) (by omega)
    have hst := difL_step (b := bl) hlt
    have hdl := difL_len (al.take i) bl
    rw [List.length_take] at hdl
    have hL1 : LenOk 8 al[i].length := by
      have := hrow _ (List.getElem_mem hlt)
      exact ⟨by omega, by simp only [maxLen]; omega⟩
    have hL2 : LenOk 24 ((difL (al.take i) bl).length + 1) := ⟨by omega, by simp only [maxLen]; omega⟩
    simp [hlt, s131_8, ]
    refine call_f (VC.to (w_impl_ContainsRow ⟨aa, bl⟩ al[i] (by show bl.length ≤ _; omega)) (show _ = V.d (.bool (placeB bl al[i])) by simp [hasR, h2])) (by simp [eReln]) rfl fun hs3 hh3 => ?_
    simp at hh3
    cases h4 : placeB bl al[i]
    · rw [h4] at hst
      simp only [Bool.false_eq_true, if_false] at hst
      simp [hlt, s131_8, ]
      refine call_p (q_impl_copyInts al[i] (by have := hrow _ (List.getElem_mem hlt); omega)) (by simp) fun hs4 hh4 hl4 => ?_
      simp at hh4
      simp [hwi, hL2, s131_8, ]
      exact back2 (i + 1) (by omega) (by omega) rfl (by simp <;> omega) (by simp) (by simp [hst])
    · rw [h4] at hst
      simp only [if_true, List.append_nil] at hst
      simp [hwi, s131_8, ]
      exact back2 (i + 1) (by omega) (by omega) rfl (by simp <;> omega) (by simp) (by simp [hst])
  · have hn : i = al.length := by omega
    subst hn
    simp [List.take_of_length_le]
theorem w_spec_Union (a b : PReln) : VC Tryz.prog 103 [.agg ((eReln a).map V.d), .agg ((eReln b).map V.d)] (fun _ v => v = .tup [.agg ((eReln (uniR a b)).map V.d), .d (.bool (uniB a b))]) := by
  refine VC.ofL EP s103 (by kernel_rfl) Tryz.func103 (by rfl) (by kernel_rfl) (by simp [Tryz.f103]) (by simp [Tryz.f103]) s103_ok fun B hl => ?_
  obtain ⟨aa, al⟩ := a
  obtain ⟨ba, bl⟩ := b
  simp [Tryz.f103, s103_3, eReln]
  refine call_f (w_spec_IsValidRelation ⟨aa, al⟩) (by simp [eReln]) rfl fun hs1 hh1 => ?_
  simp at hh1
  cases h1 : rowsOk aa al
  · simp [uniR, uniB, difB, h1, eReln]
  simp
  refine call_f (w_spec_IsValidRelation ⟨ba, bl⟩) (by simp [eReln]) rfl fun hs2 hh2 => ?_
  simp at hh2
  cases h2 : rowsOk ba bl
  · simp [uniR, uniB, difB, h1, h2, eReln]
  by_cases h3 : aa = ba
  case neg => simp [uniR, uniB, difB, h1, h2, h3, eReln]
  subst h3
  have hdb : difB ⟨aa, al⟩ ⟨aa, bl⟩ = true := by simp [difB, h1, h2]
  obtain ⟨z1, z2, z3, z4⟩ := difB_len hdb
  simp only at z3 z4
  have hL1 : LenOk 24 al.length := ⟨by omega, by simp only [maxLen]; omega⟩
  have hL2 : LenOk 24 (al.length + bl.length) := ⟨by omega, by simp only [maxLen]; omega⟩
  have hN := w_spec_NewRelation aa (al ++ bl) (by simp; omega) (fun x hx => by
    rcases List.mem_append.1 hx with h | h
    · exact z1.2 x h
    · exact z2.2 x h)
  simp [hL1, hL2, List.take_of_length_le, s103_3, ]
  repeat' apply And.intro
  all_goals
    refine call_p hN (by simp [List.take_of_length_le]) fun hs3 hh3 hl3 => ?_
    simp [uniR, uniB, hdb, eReln, s103_3, ]
end

end Go.Proofs.YtdnbigokdclclaaGreat


namespace Go.Proofs.YtdnbigokdclclaaGreat
open Go.Vs Go.Proofs Go
set_option maxRecDepth 100000
set_option maxHeartbeats 1000000

theorem e_impl_sorted : ∀ (n : Nat) (l : List (List Int)), l.length ≤ n → l.length ≤ 4294967296 → (∀ r ∈ l, r.length ≤ 4294967296) →
   VC Tryz.prog 141 [.d (pS (cP cI) l)] (fun m r => ∃ y : Sl Ints, r = .d (dSl (cS cI) y) ∧ plS (plS plI) y = srtU l ∧ okS (okS okI) y ∧ Good (cS (cS cI) y) (whS (whS whI) y) m) := by
  intro n
  induction n with
  | zero =>
    intro l hn hb hb2
    have : l = [] := List.length_eq_zero_iff.1 (by omega)
    subst this
    refine VC.of E s141 (by kernel_rfl) Tryz.func141 (by rfl) (by kernel_rfl) (by simp [Tryz.f141]) (by simp [Tryz.f141]) s141_ok fun B => ?_
    simp [Tryz.f141, s141_4, s141_11, s141_4, s141_11, pS]
    refine call_some (e_impl_copyRows [] (by simp) (by simp)) (by simp [pS]) (by simp) fun n1 hs1 r1 hn1 hm1 hp1 hr1 => ?_
    obtain ⟨y, rfl, p1, k1, G1⟩ := hp1
    simp at hn1
    simp
    exact ⟨y, rfl, by rw [p1]; rfl, k1, G1.le (by omega)⟩
  | succ n ih =>
  intro l hn hb hb2
  refine VC.of E s141 (by kernel_rfl) Tryz.func141 (by rfl) (by kernel_rfl) (by simp [Tryz.f141]) (by simp [Tryz.f141]) s141_ok fun B => ?_
  by_cases h2 : l.length < 2
  · have e : srtU l = l := srtU_id (by
      match l, h2 with
      | [], _ => exact .nil
      | [_], _ => simp
      | _ :: _ :: _, h => simp only [List.length_cons] at h; omega)
    simp [Tryz.f141, s141_4, s141_11, s141_4, s141_11, pS, show ((l.length : Int) < 2) by omega]
    refine call_some (e_impl_copyRows l hb hb2) (by simp [pS]) (by simp) fun n1 hs1 r1 hn1 hm1 hp1 hr1 => ?_
    obtain ⟨y, rfl, p1, k1, G1⟩ := hp1
    simp at hn1
    simp
    exact ⟨y, rfl, by rw [p1, e], k1, G1.le (by omega)⟩
  obtain ⟨k, hk⟩ : ∃ k, k = l.length / 2 := ⟨_, rfl⟩
  have hm : IntKind.i64.wrap ((l.length : Int) / 2) = (k : Int) := by rw [wrap64_of (by omega) (by omega)]; omega
  have hkl : k ≤ l.length := by omega
  simp [Tryz.f141, s141_4, s141_11, s141_4, s141_11, pS, show ¬ ((l.length : Int) < 2) by omega, hm, hkl]
  have hA := ih (l.take k) (by simp; omega) (by simp; omega) (fun r hr => hb2 r (List.mem_of_mem_take hr))
  have hB' := ih (l.drop k) (by simp; omega) (by simp; omega) (fun r hr => hb2 r (List.mem_of_mem_drop hr))
  simp only [pS, List.map_take] at hA
  simp only [pS, List.map_drop] at hB'
  refine call_some hA (by simp) (by simp) fun n1 hs1 r1 hn1 hm1 hp1 hr1 => ?_
  obtain ⟨ya, rfl, p1, k1, G1⟩ := hp1
  simp at hn1
  simp [hm, hkl, List.take_of_length_le, s141_4, s141_11, ]
  refine call_some hB' (by simp) (by simp) fun n2 hs2 r2 hn2 hm2 hp2 hr2 => ?_
  obtain ⟨yb, rfl, p2, k2, G2⟩ := hp2
  simp at hn2
  have hst := MJ.start l k
  rw [← p1, ← p2] at hst
  obtain ⟨aid, aT, as_⟩ := ya
  obtain ⟨bid, bT, bs_⟩ := yb
  have u1 : ∀ g ∈ idsLL (as_.map (cS cI)), g < hs1 := fun g hg => hr1 g (by rw [V.ids]; exact mem_sl_ids.2 (.inr hg))
  have own0 : OwnR B ([] ++ (as_ ++ bs_)) := by
    have g1 := G1.nd
    have g2 := G2.nd
    rw [idsL_cS] at g1 g2
    have h1 := (sl_nd g1).1
    have h2 := (sl_nd g2).1
    have e : idsLL ((as_ ++ bs_).map (cS cI)) = idsLL (as_.map (cS cI)) ++ idsLL (bs_.map (cS cI)) := by rw [List.map_append, idsLL_append]
    have l1 : ∀ g ∈ idsLL (as_.map (cS cI)), B ≤ g := fun g hg => by have := G1.lo g (by rw [idsL_cS]; exact mem_sl_ids.2 (.inr hg)); omega
    have l2 : ∀ g ∈ idsLL (bs_.map (cS cI)), n2 ≤ g := fun g hg => G2.lo g (by rw [idsL_cS]; exact mem_sl_ids.2 (.inr hg))
    refine ⟨?_, ?_, fun r hr => ?_, fun r hr => ?_⟩
    · rw [List.nil_append, e]
      exact List.nodup_append.2 ⟨h1, h2, fun x hx y hy hxy => by subst hxy; have := u1 x hx; have := l2 x hy; omega⟩
    · intro g hg
      rw [List.nil_append, e] at hg
      rcases List.mem_append.1 hg with h | h
      · exact l1 g h
      · have := l2 g h; omega
    · rcases (by simpa using hr : r ∈ as_ ∨ r ∈ bs_) with h | h
      · exact G1.wh.2 r h
      · exact G2.wh.2 r h
    · rcases (by simpa using hr : r ∈ as_ ∨ r ∈ bs_) with h | h
      · exact k1.2 r h
      · exact k2.2 r h
  clear hr1 hr2 u1
  simp [dSl, s141_4, s141_11, ]
  refine loop_ruleL (X := List Ints × List Ints × List Ints × Option (TypeId × Nat) × Option (TypeId × Nat)) (fun p _ => SrtI l B p) (fun p => [(4, .d (.sl aid p.2.2.2.1 (p.1.map (cS cI)))), (5, .d (.sl bid p.2.2.2.2 (p.2.1.map (cS cI)))), (6, .own 52 0 p.2.2.1.length)])
    (fun p => [(52, some (.row 26 1 (p.2.2.1.map (cS cI))))]) (fun p => p.1.length + p.2.1.length) ?_ ?_
  · refine (lead_slot 6 52 26 1 (by omega) (by omega) (by simp)).bind ?_
    rintro _ rfl
    exact Lead.of ⟨(as_, bs_, [], aT, bT), ⟨hst, own0⟩, rfl, rfl, Nat.le_refl _, by simp, by simp⟩
  rintro ⟨a, b, o, Ta, Tb⟩ hs t m hI hh
  have hlen := hI.mj.len
  simp only [List.length_map] at hlen
  have hpa : ∀ a : List Ints, (0 : Int) < (a.length : Int) + 1 := fun a => by omega
  have hpb : ∀ a : List Ints, ¬ (a.length : Int) + 1 = 0 := fun a => by omega
  rcases a with _ | ⟨x, a⟩
  · rcases b with _ | ⟨y, b⟩
    · have hd := hI.mj.done
      simp only at hd
      simp [s141_4, s141_11, ]
      intro γ hs' h1 hg
      obtain ⟨q1, q2⟩ := gam_at hg (k := 52) (T := 26) (sz := 1) (es := o.map (cS cI)) (by simp)
      have q3 := gam_row hg (k := 52) (T := 26) (sz := 1) (es := o.map (cS cI)) (by simp)
      clear hg
      have hown : OwnR B o := by have := hI.own; simpa using this
      have hp : hpLL (o.map (cS cI)) = false := hpLL_mapS o
      simp only [List.length_nil] at hlen
      exact ⟨⟨γ 52, some (26, 1), o⟩, by simp [dSl, List.take_of_length_le], by simpa [plS] using hd, ⟨by simp only [maxLen]; show o.length ≤ _; omega, hown.ok⟩, good_row (fun g hg => (q1 g hg).1) (by simpa using q2) q3 ⟨hown.nd, hown.lo⟩ hown.wh⟩
    · simp only [List.length_cons, List.length_nil] at hlen
      have hL : LenOk 24 (o.length + 1) := ⟨by omega, by simp only [maxLen]; omega⟩
      refine anyQ2 fun Q => ?_
      simp [hpa, hpb, hL, cS, dSl, s141_4, s141_11, ]
      exact back2 ([], b, o ++ [y], Ta, (if bid.isSome = true then none else Tb)) (hI.right (by simp)) (by simp <;> omega) rfl (by simp <;> omega) (by simp [cS, dSl, List.take_of_length_le]) (by simp [cS, dSl])
  · rcases b with _ | ⟨y, b⟩
    · simp only [List.length_cons, List.length_nil] at hlen
      have hL : LenOk 24 (o.length + 1) := ⟨by omega, by simp only [maxLen]; omega⟩
      refine anyQ2 fun Q => ?_
      simp [hpa, hpb, hL, cS, dSl, s141_4, s141_11, ]
      exact back2 (a, [], o ++ [x], (if aid.isSome = true then none else Ta), Tb) (hI.left (by simp)) (by simp <;> omega) rfl (by simp <;> omega) (by simp [cS, dSl, List.take_of_length_le]) (by simp [cS, dSl])
    · simp only [List.length_cons] at hlen
      have hL : LenOk 24 (o.length + 1) := ⟨by omega, by simp only [maxLen]; omega⟩
      have hM := hI.mj
      simp only [List.map_cons] at hM
      refine anyQ2 fun Q => ?_
      simp [hpa, hpb, cS, dSl, s141_4, s141_11, ]
      refine call_f (w_impl_CompareRows (plS plI x) (plS plI y)) (by simp [plS, pS, erLL_map er_cI, map_plI]) rfl fun hs3 hh3 => ?_
      simp at hh3
      by_cases c1 : cmpL (plS plI x) (plS plI y) < 0
      · have c2 : cmpL (plS plI x) (plS plI y) ≤ 0 := by omega
        have c3 : ¬ 0 ≤ cmpL (plS plI x) (plS plI y) := by omega
        simp [c2, c3, hL, cS, dSl, s141_4, s141_11, ]
        exact back2 (a, y :: b, o ++ [x], (if aid.isSome = true then none else Ta), Tb) (hI.left (hM.less c1)) (by simp <;> omega) rfl (by simp <;> omega) (by simp [cS, dSl, List.take_of_length_le]) (by simp [cS, dSl])
      by_cases c4 : cmpL (plS plI x) (plS plI y) = 0
      · have e := (cmpL_zero _ _).1 c4
        simp [c4, hL, cS, dSl, s141_4, s141_11, ]
        exact back2 (a, b, o ++ [x], (if aid.isSome = true then none else Ta), (if bid.isSome = true then none else Tb)) (hI.both e) (by simp <;> omega) rfl (by simp <;> omega) (by simp [cS, dSl, List.take_of_length_le]) (by simp [cS, dSl])
      · have c2 : ¬ cmpL (plS plI x) (plS plI y) ≤ 0 := by omega
        have c3 : 0 ≤ cmpL (plS plI x) (plS plI y) := by omega
        have c5 : 0 < cmpL (plS plI x) (plS plI y) := by omega
        have c6 : cmpL (plS plI y) (plS plI x) < 0 := by have := cmpL_swap (plS plI x) (plS plI y); omega
        simp [c2, c3, c5, hL, cS, dSl, s141_4, s141_11, ]
        exact back2 (x :: a, b, o ++ [y], Ta, (if bid.isSome = true then none else Tb)) (hI.right (hM.swap.less c6)) (by simp <;> omega) rfl (by simp <;> omega) (by simp [cS, dSl, List.take_of_length_le]) (by simp [cS, dSl])

end Go.Proofs.YtdnbigokdclclaaGreat


namespace Go.Proofs.YtdnbigokdclclaaGreat
open Go.Vs Go.Proofs Go
set_option maxRecDepth 100000
set_option maxHeartbeats 1000000

theorem e_impl_NewRelation (ar : Int) (l : List (List Int)) (hb : l.length ≤ 4294967296) (hb2 : ∀ r ∈ l, r.length ≤ 4294967296) :
   VC Tryz.prog 170 [.d (.int .i64 ar), .d (pS (cP cI) l)] (fun m r => ∃ y : Reln, r = .tup [.agg ((cReln y).map V.d), .d (.bool (newB ar l))] ∧ plReln y = newR ar l ∧ okReln y ∧ Good (cReln y) (whReln y) m) := by
  refine VC.of E s170 (by kernel_rfl) Tryz.func170 (by rfl) (by kernel_rfl) (by simp [Tryz.f170]) (by simp [Tryz.f170]) s170_ok fun B => ?_
  have hno : newB ar l = false → ∃ y : Reln, V.tup [.agg ((cReln ⟨0, nilS⟩).map V.d), .d (.bool false)] = .tup [.agg ((cReln y).map V.d), .d (.bool (newB ar l))] ∧ plReln y = newR ar l ∧ okReln y ∧ Good (cReln y) (whReln y) B := fun h =>
    ⟨⟨0, nilS⟩, by rw [h], by simp [newR, h, plReln, plI, nilS, plS], ⟨trivial, ok_nilS⟩, good_Reln0 B⟩
  simp only [cReln, cS, cI, nilS, dSl] at hno
  simp at hno
  simp [Tryz.f170, pS]
  refine loop_rule (X := Nat) (ToN ar l) (fun i => [(0, .d (.int .i64 ar)), (1, .d (.pl (l.map (cP cI)))), (4, .ptr 4 0 0), (9, .d (.pl (l.map (cP cI)))), (10, .d (.int .i64 l.length)), (11, .d (.int .i64 i))])
    (fun i => [(4, some (.box [.d (.int .i64 0), .d (.sl none none [])]))]) (fun i => l.length - i) 0 .zero (by simp [cP, cI, pS]) (by simp) ?_
  intro i hs t m hi hh
  have hle := hi.le
  by_cases hlt : i < l.length
  · have hwi := wr1 (i := i) (by omega)
    by_cases hln : (l[i].length : Int) = ar
    · simp [hlt, hln, cP, pS, ]
      refine call_f (w_impl_AreValidValues l[i]) (by simp [pS]) rfl fun hs1 hh1 => ?_
      simp at hh1
      cases hv : valsOk l[i]
      · have hB0 : newB ar l = false := hi.bad hlt (by simp [hv])
        simp
        simpa [hB0, cReln, cS, cI, dSl] using hno hB0
      · simp [hwi]
        exact back (i + 1) (hi.step hlt (by simp [hv, hln])) (by omega) rfl (by simp <;> omega) (by simp [cP, cI, pS]) (by simp)
    · have hB0 : newB ar l = false := hi.bad hlt (by simp [hln])
      simp [hlt, hln, cP, pS, ]
      simpa [hB0, cReln, cS, cI, dSl] using hno hB0
  · have hd := hi.done (by omega)
    have hsl := srtU_len l
    simp [hlt, ]
    refine call_some (e_impl_sorted _ l (Nat.le_refl _) hb hb2) (by simp [pS]) (by simp) fun n1 hs1 r1 hn1 hm1 hp1 hr1 => ?_
    obtain ⟨y, rfl, p1, k1, G1⟩ := hp1
    simp at hn1
    clear hr1
    simp []
    refine call_f (w_impl_IsValidRelation ⟨ar, srtU l⟩) (by simp [← p1, eReln, er_SI, cI]) rfl fun hs3 hh3 => ?_
    simp at hh3
    cases h1 : rowsOk ar (srtU l)
    · have hB0 : newB ar l = false := by rw [newB, h1, Bool.and_false]
      simp
      simpa [hB0, cReln, cS, cI, dSl] using hno hB0
    · have hB1 : newB ar l = true := by rw [newB, h1, hd]; rfl
      simp [hB1]
      exact ⟨⟨ar, y⟩, by simp [cReln, cS, cI], by simp only [newR, hB1, if_true, plReln, plI]; rw [p1], ⟨trivial, k1⟩, good_Reln G1 (by omega)⟩
theorem e_impl_Union (a : PReln) (b : Reln) (kb : okReln b) :
   VC Tryz.prog 132 [.agg ((eReln a).map V.d), .agg ((cReln b).map V.d)] (fun m r => ∃ y : Reln, r = .tup [.agg ((cReln y).map V.d), .d (.bool (uniB a (plReln b)))] ∧ plReln y = uniR a (plReln b) ∧ okReln y ∧ Good (cReln y) (whReln y) m) := by
  refine VC.ofB E s132 (by kernel_rfl) Tryz.func132 (by rfl) (by kernel_rfl) (by simp [Tryz.f132]) (by simp [Tryz.f132]) s132_ok fun B hB => ?_
  have hbB : ∀ g ∈ idsL (cReln b), g < B := fun g hg => hB g (by simp only [idsVL, V.ids, idsVL_map_d, List.mem_append]; simp [hg])
  obtain ⟨aa, al⟩ := a
  obtain ⟨ba, ⟨bid, bT, bl⟩⟩ := b
  obtain ⟨L, hL⟩ : ∃ L, L = bl.map (plS plI) := ⟨_, rfl⟩
  have hp : plReln ⟨ba, ⟨bid, bT, bl⟩⟩ = ⟨ba, L⟩ := by rw [hL]; rfl
  rw [hp]
  have hno : difB ⟨aa, al⟩ ⟨ba, L⟩ = false → ∃ y : Reln, V.tup [.agg ((cReln ⟨0, nilS⟩).map V.d), .d (.bool false)] = .tup [.agg ((cReln y).map V.d), .d (.bool (uniB ⟨aa, al⟩ ⟨ba, L⟩))] ∧ plReln y = uniR ⟨aa, al⟩ ⟨ba, L⟩ ∧ okReln y ∧ Good (cReln y) (whReln y) B := fun h =>
    ⟨⟨0, nilS⟩, by simp [uniB, h], by simp [uniR, h, plReln, plI, nilS, plS], ⟨trivial, ok_nilS⟩, good_Reln0 B⟩
  simp only [cReln, cS, cI, nilS, dSl] at hno
  simp at hno
  simp [Tryz.f132, s132_3, eReln, cReln, cI, cP, cS, dSl]
  refine call_f (w_impl_IsValidRelation ⟨aa, al⟩) (by simp [eReln, cI, cP]) rfl fun hs1 hh1 => ?_
  simp at hh1
  cases h1 : rowsOk aa al
  · have hd : difB ⟨aa, al⟩ ⟨ba, L⟩ = false := by simp [difB, h1]
    simp
    simpa [uniB, hd] using hno hd
  simp
  refine call_f (w_impl_IsValidRelation ⟨ba, L⟩) (by simp [hL, eReln, cI, cP, pS, erLL_map (er_cS er_cI)]) rfl fun hs2 hh2 => ?_
  simp at hh2
  cases h2 : rowsOk ba L
  · have hd : difB ⟨aa, al⟩ ⟨ba, L⟩ = false := by simp [difB, h1, h2]
    simp
    simpa [uniB, hd] using hno hd
  by_cases h3 : aa = ba
  case neg =>
    have hd : difB ⟨aa, al⟩ ⟨ba, L⟩ = false := by simp [difB, h1, h2, h3]
    simp [h3]
    simpa [uniB, hd] using hno hd
  subst h3
  have hdb : difB ⟨aa, al⟩ ⟨aa, L⟩ = true := by simp [difB, h1, h2]
  obtain ⟨z1, z2, z3, z4⟩ := difB_len hdb
  simp only at z3 z4
  have hlb : bl.length = L.length := by rw [hL]; simp
  have uS : uniB ⟨aa, al⟩ ⟨aa, L⟩ = newB aa (al ++ L) := by simp [uniB, hdb]
  have uR : uniR ⟨aa, al⟩ ⟨aa, L⟩ = newR aa (al ++ L) := by simp only [uniR, hdb, if_true]
  rw [uS, uR]
  have hN := e_impl_NewRelation aa (al ++ L) (by simp; omega) (fun x hx => by
    rcases List.mem_append.1 hx with h | h
    · exact z1.2 x h
    · exact z2.2 x h)
  have hid : ∀ n r, (∃ y : Reln, r = V.tup [.agg ((cReln y).map V.d), .d (.bool (newB aa (al ++ L)))] ∧ plReln y = newR aa (al ++ L) ∧ okReln y ∧ Good (cReln y) (whReln y) n) → (∀ i ∈ r.ids, n ≤ i) ∧ r.hp = false := by
    rintro n _ ⟨y, rfl, _, _, G⟩
    refine ⟨fun i hi => G.lo i ?_, by simp [V.hp, hpVL, cReln, cI, cS, dSl, D.hp]⟩
    simpa [V.ids, idsVL, ids_agg, idsVL_map_d, D.ids] using hi
  simp [s132_3, ]
  by_cases hal : al = []
  · subst hal
    have hL2 : LenOk 24 L.length := ⟨by omega, by simp only [maxLen]; omega⟩
    refine call_pure e_impl_copyRows0 (by simp) (by simp [pS, cP]) (by simp [V.ids, D.ids, idsLL]) fun hs3 hh3 => ?_
    simp at hh3
    simp [cS, cI, dSl, hlb, hL2, s132_3, ]
    refine call_own (by simp) (fun γ n hn hg => ⟨[.d (.int .i64 aa), .d (.sl (γ 29) (some (26, 1)) (bl.map (cS cI)))], by simp [← hlb, hpLL_mapS, List.take_of_length_le, cS, dSl], hN.er (by simp [hL, pS, cP, erLL_map (er_cS er_cI)])⟩) hid fun n3 hs4 r3 hn3 hm3 hp3 hr3 => ?_
    obtain ⟨z, rfl, pz, kz, Gz⟩ := hp3
    simp at hn3
    clear hr3
    simp [cReln, cI, cS, dSl, s132_3, ]
    exact ⟨z, by simp [cReln, cI, cS, dSl], pz, kz, Gz.le (by omega)⟩
  · have hL2 : LenOk 24 (al.length + L.length) := ⟨by omega, by simp only [maxLen]; omega⟩
    refine call_some (e_impl_copyRowsT al (z1.1) z1.2) (by simp [pS]) (by simp) fun n1 hs3 r1 hn1 hm1 hp1 hr1 => ?_
    obtain ⟨⟨yid, yT, ys⟩, rfl, p1, k1, G1, hT⟩ := hp1
    simp only at hT
    subst hT
    simp at hn1
    have hyl : ys.length = al.length := by rw [← p1]; simp [plS]
    have hy0 : ys ≠ [] := fun h => hal (by rw [← p1, h]; rfl)
    obtain ⟨g, rfl⟩ : ∃ g, yid = some g := by
      cases yid with
      | none => exact absurd (G1.wh.1.nil rfl) hy0
      | some g => exact ⟨g, rfl⟩
    have hgn : n1 ≤ g := G1.lo g (by rw [idsL_cS]; exact mem_sl_ids.2 (.inl rfl))
    have hgB : B ≤ g := by omega
    have hbi : ∀ i ∈ (dSl (cS cI) ⟨bid, bT, bl⟩).ids, i < B := fun i hi => hbB i (by rw [cReln, idsL_app, idsL_cS]; simp [hi])
    have hg1 : g ∉ (D.sl bid bT (bl.map (cS cI))).ids := fun h => by have := hbi g h; omega
    have hg2 : g ∉ idsLL (bl.map (cS cI)) := fun h => hg1 (mem_sl_ids (s := ⟨bid, bT, bl⟩).2 (.inr h))
    have hg3 : g ∉ idsLL (ys.map (cS cI)) := by
      have := G1.nd
      rw [idsL_cS] at this
      exact (sl_nd this).2 g rfl
    have kg : ∀ i, i < B → kphi (some g) i = none := fun i hi => by simp only [kphi]; rw [if_neg (by simp; omega)]
    have eb : reV (kphi (some g)) (.d (.sl bid bT (bl.map (cS cI)))) = .d (.sl bid bT (bl.map (cS cI))) := reV_id (.d (dSl (cS cI) ⟨bid, bT, bl⟩)) fun i hi => kg i (hbi i hi)
    have hp1 : hpLL (bl.map (cS cI)) = false := hpLL_mapS bl
    simp [cS, cI, dSl, St.kill, eb, hgB, hg1, hg2, hg3, hp1, hyl, hlb, hL2, s132_3, ]
    have hg4 : ¬ bid = some g := fun h => hg1 (by rw [h]; simp [D.ids])
    refine ⟨hg4, ?_⟩
    have hp2 : hpLL (ys.map (cS cI)) = false := hpLL_mapS ys
    have ep : ys.map (plS plI) = al := by simpa [plS] using p1
    have eq1 : (ys.map (cS cI) ++ bl.map (cS cI)).length = al.length + L.length := by simp [hyl, hlb]
    refine call_own (by simp) (fun γ n hn hg => ⟨[.d (.int .i64 aa), .d (.sl (γ 29) (some (26, 1)) (ys.map (cS cI) ++ bl.map (cS cI)))], by simp [hp1, hp2, hyl, hlb, List.take_of_length_le], hN.er ?_⟩) hid fun n3 hs4 r3 hn3 hm3 hp3 hr3 => ?_
    · have e3 : erLL (ys.map (cS cI) ++ bl.map (cS cI)) = (al ++ L).map (cP cI) := by rw [← List.map_append, erLL_map (er_cS er_cI), List.map_append, ep, hL]
      simp [pS, e3]
    obtain ⟨z, rfl, pz, kz, Gz⟩ := hp3
    simp at hn3
    clear hr3
    simp [cReln, cI, cS, dSl, s132_3, ]
    exact ⟨z, by simp [cReln, cI, cS, dSl], pz, kz, Gz.le (by omega)⟩

end Go.Proofs.YtdnbigokdclclaaGreat


namespace Go.Proofs.YtdnbigokdclclaaGreat
open Go.Vs Go.Proofs Go
set_option maxRecDepth 100000
set_option maxHeartbeats 1000000

section
attribute [local simp] plI_id plStr_id map_plI map_plStr pS cP cI cStr cU8 cB eTab eReln
theorem w_spec_l6Copy (d : PDb) (hz : szDb d) : VC Tryz.prog 101 [.agg ((eDb d).map V.d)] (fun _ v => v = .agg ((eDb d).map V.d)) := by
  refine VC.ofL EP s101 (by kernel_rfl) Tryz.func101 (by rfl) (by kernel_rfl) (by simp [Tryz.f101]) (by simp [Tryz.f101]) s101_ok fun B hl => ?_
  obtain ⟨l⟩ := d
  simp only [szDb] at hz
  simp [Tryz.f101, s101_6, s101_6, eDb]
  refine loop_ruleL (X := Nat) (fun i _ => i ≤ l.length) (fun i => [(1, .ptr 1 0 0), (2, .ptr 2 0 0), (3, .ptr 3 0 0), (4, .d (.int .i64 i))]) (fun i => [(1, some (.box [.d (.pl (l.map eTab))])), (2, some (.box [.d (.sl none none [])])), (3, some (.box [.own 32 0 i])), (32, some (.row 159 3 ((l.take i).map eTab)))]) (fun i => l.length - i) ?_ ?_
  · refine (lead_box 3 0 32 159 3 [.d (.sl none none [])] (by omega) (by omega) (by omega) (by simp) rfl).bind ?_
    rintro _ rfl
    exact Lead.of ⟨0, by omega, rfl, rfl, Nat.le_refl _, by simp, by simp⟩
  intro i hs t m hi hh
  by_cases hlt : i < l.length
  · have hwi := wr1 (i := i) (by omega)
    have hL : LenOk 48 (i + 1) := ⟨by omega, by simp only [maxLen]; omega⟩
    have hmn : min i l.length = i := by omega
    have hr := hz.2 _ (List.getElem_mem hlt)
    obtain ⟨nm, ar, rows, hT⟩ : ∃ nm ar rows, l[i] = ⟨nm, ⟨ar, rows⟩⟩ := ⟨_, _, _, rfl⟩
    have hst2 : List.take (i + 1) (List.map eTab l) = List.take i (List.map eTab l) ++ [[.str nm, .int .i64 ar, .pl (rows.map (cP cI))]] := by
      rw [List.take_succ_eq_append_getElem (by simpa using hlt)]; simp [hT]
    rw [hT] at hr
    simp [hlt, hT, s101_6, ]
    refine call_p (w_spec_l5Copy ⟨ar, rows⟩ hr.1 hr.2) (by simp) fun hs1 hh1 hl1 => ?_
    simp at hh1
    simp [hlt, hT, hL, hwi, hmn, s101_6, ]
    exact back2 (i + 1) (by omega) (by omega) rfl (by simp <;> omega) (by simp) (by simp [hst2])
  · have hn : i = l.length := by omega
    subst hn
    simp [List.take_of_length_le]
end
theorem e_impl_copyDatabase (d : PDb) (hz : szDb d) (hst : ∀ t ∈ d.tabs, t.name.length ≤ maxLen) : VC Tryz.prog 129 [.agg ((eDb d).map V.d)] (fun n v => ∃ y : Db, v = .agg ((cDb y).map V.d) ∧ plDb y = d ∧ okDb y ∧ Good (cDb y) (whDb y) n) := by
  refine VC.of E s129 (by kernel_rfl) Tryz.func129 (by rfl) (by kernel_rfl) (by simp [Tryz.f129]) (by simp [Tryz.f129]) s129_ok fun B => ?_
  obtain ⟨l⟩ := d
  simp only [szDb] at hz hst
  simp [Tryz.f129, s129_5, s129_5, eDb, pS]
  refine loop_ruleL (X := Nat × List Tab) (CopI cTab whTab okTab plTab l B) (fun p => [(1, .ptr 1 0 0), (2, .ptr 2 0 0), (3, .ptr 3 0 0), (7, .d (.pl (l.map eTab))), (8, .d (.int .i64 l.length)), (9, .d (.int .i64 p.1))]) (fun p => [(2, some (.box [.d (.sl none none [])])), (3, some (.box [.own 22 0 p.2.length])), (22, some (.row 159 3 (p.2.map cTab)))]) (fun p => l.length - p.1) ?_ ?_
  · refine (lead_box 3 0 22 159 3 [.d (.sl none none [])] (by omega) (by omega) (by omega) (by simp) rfl).bind ?_
    rintro _ rfl
    exact Lead.of ⟨(0, []), .zero, rfl, rfl, Nat.le_refl _, by simp, by simp⟩
  rintro ⟨i, ys⟩ hs t m hI hh
  have hle := hI.le
  have hyl := hI.len
  simp only at hle
  by_cases hlt : i < l.length
  · have hwi := wr1 (i := i) (by omega)
    have hL : LenOk 48 (ys.length + 1) := ⟨by omega, by simp only [maxLen]; omega⟩
    have hr := hz.2 _ (List.getElem_mem hlt)
    have hn := hst _ (List.getElem_mem hlt)
    obtain ⟨nm, ar, rows, hT⟩ : ∃ nm ar rows, l[i] = ⟨nm, ⟨ar, rows⟩⟩ := ⟨_, _, _, rfl⟩
    rw [hT] at hr hn
    simp [hlt, hT, eTab, eReln, cStr, cI, cP, s129_5, ]
    refine call_some (e_impl_copyRelation ⟨ar, rows⟩ hr.1 hr.2) (by simp [eReln, cI, cP]) (by simp) fun n1 hs1 r1 hn1 hm1 hp1 hr1 => ?_
    obtain ⟨y, rfl, p1, k1, G1⟩ := hp1
    simp at hn1
    have u1 : ∀ g ∈ idsL (cTab ⟨nm, y⟩), g < hs1 := fun g hg => hr1 g (by
      rw [ids_agg]
      rw [cTab, idsL_app] at hg
      exact (List.mem_append.1 hg).resolve_left (by simp [cStr, idsL, D.ids]))
    simp [cReln, cI, cS, hL, hwi, s129_5, ]
    exact back2 (i + 1, ys ++ [⟨nm, y⟩]) (hI.snoc hlt (by rw [hT]; simp only [plTab, p1]; rfl) (show okTab (⟨nm, y⟩ : Tab) from ⟨hn, k1⟩) (by omega) hm1 (good_Tab G1) u1) (by simp only; omega) rfl (by simp <;> omega) (by simp) (by simp [cTab, cStr, cReln, cI, cS])
  · have hall := hI.all (by omega)
    simp [hlt, s129_5, ]
    intro γ hs' h1 hg
    obtain ⟨q1, q2⟩ := gam_at hg (k := 22) (T := 159) (sz := 3) (es := ys.map cTab) (by simp)
    have q3 := gam_row hg (k := 22) (T := 159) (sz := 3) (es := ys.map cTab) (by simp)
    clear hg
    have hp : hpLL (ys.map cTab) = false := hpLL_map (fun a => by simp) ys
    simp [hp, List.take_of_length_le]
    exact ⟨⟨⟨γ 22, some (159, 3), ys⟩⟩, by simp [cDb, cS, dSl], by simp only [plDb, plS, hall], ⟨by simp only [maxLen]; show ys.length ≤ _; omega, hI.ok⟩, good_row (fun g hg => (q1 g hg).1) (by simpa using q2) q3 ⟨hI.good.nd, hI.good.lo⟩ hI.good.wh⟩

end Go.Proofs.YtdnbigokdclclaaGreat


namespace Go.Proofs.YtdnbigokdclclaaGreat
open Go.Vs Go.Proofs Go
set_option maxRecDepth 100000
set_option maxHeartbeats 1000000

section
attribute [local simp] plI_id plStr_id map_plI map_plStr pS cP cI cStr cU8 cB eTab eReln
theorem w_spec_SetRelation (d : PDb) (nm : List UInt8) (r : PReln) (hz : szDb d) (hst : ∀ t ∈ d.tabs, t.name.length ≤ maxLen) (hnm : nm.length ≤ maxLen) :
   VC Tryz.prog 104 [.agg ((eDb d).map V.d), .d (.str nm), .agg ((eReln r).map V.d)] (fun _ v => v = .tup [.agg ((eDb (setP d nm r)).map V.d), .d (.bool (setB d nm r))]) := by
  refine VC.ofL EP s104 (by kernel_rfl) Tryz.func104 (by rfl) (by kernel_rfl) (by simp [Tryz.f104]) (by simp [Tryz.f104]) s104_ok fun B hl => ?_
  obtain ⟨l⟩ := d
  obtain ⟨ar, rows⟩ := r
  have hl := hz.1
  simp only at hl hst
  simp [Tryz.f104, eDb]
  refine loop_ruleL (X := Nat × List PTab × Bool) (fun p _ => StI nm ⟨ar, rows⟩ l p) (fun p => [(1, .d (.str nm)), (3, .ptr 3 0 0), (5, .ptr 5 0 0), (6, .ptr 6 0 0), (8, .ptr 8 0 0), (9, .d (.bool p.2.2)), (10, .d (.int .i64 p.1))])
    (fun p => [(3, some (.box [.d (.pl (l.map eTab))])), (5, some (.box [.d (.int .i64 ar), .d (.pl (rows.map (cP cI)))])), (6, some (.box [.d (.sl none none [])])), (8, some (.box [.own 39 0 p.2.1.length])), (39, some (.row 159 3 (p.2.1.map eTab)))]) (fun p => l.length - p.1) ?_ ?_
  · refine (lead_box 8 0 39 159 3 [.d (.sl none none [])] (by omega) (by omega) (by omega) (by simp) rfl).bind ?_
    rintro _ rfl
    exact Lead.of ⟨(0, [], false), .zero, rfl, rfl, Nat.le_refl _, by simp, by simp⟩
  rintro ⟨i, o, b⟩ hs t m hI hh
  have hle := hI.le
  have hol := hI.len
  simp only at hle hol
  by_cases hlt : i < l.length
  · have hwi := wr1 (i := i) (by omega)
    have hL1 : LenOk 48 (o.length + 1) := ⟨by omega, by simp only [maxLen]; omega⟩
    have hL2 : LenOk 48 (o.length + 1 + 1) := ⟨by omega, by simp only [maxLen]; omega⟩
    obtain ⟨tn, ta, tr, hT⟩ : ∃ tn ta tr, l[i] = ⟨tn, ⟨ta, tr⟩⟩ := ⟨_, _, _, rfl⟩
    have hs1 := fun s' => hI.step (s' := s') hlt
    rw [hT] at hs1
    simp only [stS] at hs1
    refine anyQ2 fun Q => ?_
    cases b
    · cases hb : Op.bytesLess tn nm
      · by_cases he : tn = nm
        · subst he
          simp [hb] at hs1
          simp [hlt, hT, hb, hL1, hwi, ]
          exact back2 (i + 1, _, true) hs1 (by simp only; omega) rfl (by simp <;> omega) (by simp) (by simp)
        · simp [hb, he] at hs1
          simp [hlt, hT, hb, he, hL1, hL2, hwi, ]
          exact back2 (i + 1, _, true) hs1 (by simp only; omega) rfl (by simp <;> omega) (by simp) (by simp)
      · have he : ¬ tn = nm := fun e => by rw [e, bl_irr] at hb; cases hb
        simp [hb, he] at hs1
        simp [hlt, hT, hb, he, hL1, hwi, ]
        exact back2 (i + 1, _, false) hs1 (by simp only; omega) rfl (by simp <;> omega) (by simp) (by simp)
    · by_cases he : tn = nm
      · simp [he] at hs1
        simp [hlt, hT, he, hwi, ]
        exact back2 (i + 1, _, true) hs1 (by simp only; omega) rfl (by simp <;> omega) (by simp) (by simp)
      · simp [he] at hs1
        simp [hlt, hT, he, hL1, hwi, ]
        exact back2 (i + 1, _, true) hs1 (by simp only; omega) rfl (by simp <;> omega) (by simp) (by simp)
  have hd := hI.done (by omega)
  have hL1 : LenOk 48 (o.length + 1) := ⟨by omega, by simp only [maxLen]; omega⟩
  obtain ⟨x, hx⟩ : ∃ x, x = setS l nm ⟨ar, rows⟩ := ⟨_, rfl⟩
  have hxm : ∀ t ∈ x, t.name.length ≤ maxLen := fun t ht => by
    rw [hx] at ht
    rcases setS_mem ht with h | h
    · exact hst t h
    · rw [h]; exact hnm
  rw [← hx] at hd
  cases b
  · simp at hd
    simp [hlt, hL1, ]
    refine call_f (w_spec_IsValidDatabase ⟨l⟩ hst) (by simp [eDb]) rfl fun hs1 hh1 => ?_
    simp at hh1
    cases h1 : dbOk ⟨l⟩
    · have hB : setB ⟨l⟩ nm ⟨ar, rows⟩ = false := by simp [setB, h1]
      simp []
      refine call_p (w_spec_l6Copy ⟨l⟩ hz) (by simp [eDb]) fun hs2 hh2 hl2 => ?_
      simp [eDb, hB, setP]
    · simp [h1, ]
      refine call_f (w_spec_IsValidDatabase ⟨x⟩ hxm) (by simp [eDb, hd, List.take_of_length_le]) rfl fun hs2 hh2 => ?_
      simp at hh2
      have hxL : setL l nm ⟨ar, rows⟩ = x := by rw [hx, setS_L h1]
      cases h2 : dbOk ⟨x⟩
      · have hB : setB ⟨l⟩ nm ⟨ar, rows⟩ = false := by simp [setB, h1, hxL, h2]
        simp []
        refine call_p (w_spec_l6Copy ⟨l⟩ hz) (by simp [eDb]) fun hs2 hh2 hl2 => ?_
        simp [eDb, hB, setP]
      · have hB : setB ⟨l⟩ nm ⟨ar, rows⟩ = true := by simp [setB, h1, hxL, h2]
        simp []
        refine call_p (w_spec_l6Copy ⟨x⟩ (szDb_ok h2)) (by simp [eDb, hd, List.take_of_length_le]) fun hs2 hh2 hl2 => ?_
        simp [eDb, hB, setP, hxL]
  · simp at hd
    simp [hlt, ]
    refine call_f (w_spec_IsValidDatabase ⟨l⟩ hst) (by simp [eDb]) rfl fun hs1 hh1 => ?_
    simp at hh1
    cases h1 : dbOk ⟨l⟩
    · have hB : setB ⟨l⟩ nm ⟨ar, rows⟩ = false := by simp [setB, h1]
      simp []
      refine call_p (w_spec_l6Copy ⟨l⟩ hz) (by simp [eDb]) fun hs2 hh2 hl2 => ?_
      simp [eDb, hB, setP]
    · simp [h1, ]
      refine call_f (w_spec_IsValidDatabase ⟨x⟩ hxm) (by simp [eDb, hd, List.take_of_length_le]) rfl fun hs2 hh2 => ?_
      simp at hh2
      have hxL : setL l nm ⟨ar, rows⟩ = x := by rw [hx, setS_L h1]
      cases h2 : dbOk ⟨x⟩
      · have hB : setB ⟨l⟩ nm ⟨ar, rows⟩ = false := by simp [setB, h1, hxL, h2]
        simp []
        refine call_p (w_spec_l6Copy ⟨l⟩ hz) (by simp [eDb]) fun hs2 hh2 hl2 => ?_
        simp [eDb, hB, setP]
      · have hB : setB ⟨l⟩ nm ⟨ar, rows⟩ = true := by simp [setB, h1, hxL, h2]
        simp []
        refine call_p (w_spec_l6Copy ⟨x⟩ (szDb_ok h2)) (by simp [eDb, hd, List.take_of_length_le]) fun hs2 hh2 hl2 => ?_
        simp [eDb, hB, setP, hxL]
end

end Go.Proofs.YtdnbigokdclclaaGreat


namespace Go.Proofs.YtdnbigokdclclaaGreat
open Go.Vs Go.Proofs Go
set_option maxRecDepth 100000
set_option maxHeartbeats 1000000

section
attribute [local simp] plI_id plStr_id map_plI map_plStr
theorem t_impl_copyDatabase (d : Db) (hd : okDb d) (hz : szDb (plDb d)) : VC Tryz.prog 129 [.agg ((cDb d).map V.d)] (fun n v => ∃ y : Db, v = .agg ((cDb y).map V.d) ∧ plDb y = plDb d ∧ okDb y ∧ Good (cDb y) (whDb y) n) :=
  (e_impl_copyDatabase (plDb d) hz (okDb_st hd)).er (by simp [cDb, cS, dSl, eDb, pS, cP, plDb, plS, erLL_map er_cTab])
theorem t_impl_SetRelation (d : Db) (nm : List UInt8) (r : Reln) (hd : okDb d) (hz : szDb (plDb d)) (hnm : nm.length ≤ maxLen) (hr : szRel (plReln r)) :
   VC Tryz.prog 133 [.agg ((cDb d).map V.d), .d (.str nm), .agg ((cReln r).map V.d)]
   (fun n v => ∃ y : Db, v = .tup [.agg ((cDb y).map V.d), .d (.bool (setB (plDb d) nm (plReln r)))] ∧ plDb y = setP (plDb d) nm (plReln r) ∧ okDb y ∧ Good (cDb y) (whDb y) n) := by
  refine VC.ofB E s133 (by kernel_rfl) Tryz.func133 (by rfl) (by kernel_rfl) (by simp [Tryz.f133]) (by simp [Tryz.f133]) s133_ok fun B hB => ?_
  have hdB : ∀ g ∈ idsL (cDb d), g < B := fun g hg => hB g (by simp only [idsVL, V.ids, idsVL_map_d, List.mem_append]; simp [hg])
  have hcopy := t_impl_copyDatabase d hd hz
  have hdp : ∃ l, plDb d = ⟨l⟩ := ⟨_, rfl⟩
  obtain ⟨l, hdp⟩ := hdp
  rw [hdp] at hz
  rw [hdp]
  have hdl : erLL (d.tabs.xs.map cTab) = l.map eTab := by
    rw [erLL_map er_cTab]
    have := congrArg PDb.tabs hdp
    simp only [plDb, plS] at this
    rw [this]
  obtain ⟨⟨did, dT, dts⟩⟩ := d
  simp only at hdl
  rw [hdp] at hcopy
  have hdB2 : ∀ φ : Nat → Option D, (∀ i, i < B → φ i = none) → reV φ (.d (.sl did dT (dts.map cTab))) = .d (.sl did dT (dts.map cTab)) := fun φ h => reV_id (.d (dSl cTab ⟨did, dT, dts⟩)) fun i hi => h i (hdB i (by rw [cDb, idsL_cS]; exact hi))
  have hrB : ∀ g ∈ idsL (cReln r), g < B := fun g hg => hB g (by simp only [idsVL, V.ids, idsVL_map_d, List.mem_append]; simp [hg])
  have hcR := (e_impl_copyRelation (plReln r) hr.1 hr.2).er (As := [.agg ((cReln r).map V.d)]) (by simp [cReln, cS, cI, dSl, eReln, pS, cP, plReln, plS, plI, erLL_map (er_cS er_cI)])
  have hrp : ∃ rows, plReln r = ⟨r.ar, rows⟩ := ⟨_, rfl⟩
  obtain ⟨rows, hrp⟩ := hrp
  rw [hrp] at hr hcR
  rw [hrp]
  obtain ⟨ar, ⟨rid, rT, rxs⟩⟩ := r
  simp only at hrp hr hcR ⊢
  have hrB2 : ∀ φ : Nat → Option D, (∀ i, i < B → φ i = none) → reV φ (.d (.sl rid rT (rxs.map (cS cI)))) = .d (.sl rid rT (rxs.map (cS cI))) := fun φ h => reV_id (.d (dSl (cS cI) ⟨rid, rT, rxs⟩)) fun i hi => h i (hrB i (by rw [cReln, idsL_app, idsL_cS]; exact List.mem_append.2 (.inr hi)))
  simp [Tryz.f133, s133_10, s133_10, cDb, cReln, cS, dSl, pS, cI]
  refine call_f (w_impl_IsValidDatabase ⟨l⟩) (by simp [eDb, cP, pS, hdl]) rfl fun hs1 hh1 => ?_
  simp at hh1
  cases h1 : dbOk ⟨l⟩
  · have hB0 : setB ⟨l⟩ nm ⟨ar, rows⟩ = false := by simp [setB, h1]
    simp [s133_10, ]
    refine call_some hcopy (by simp [cDb, cS, dSl]) (by simp) fun n2 hs2 r2 hn2 hm2 hp2 hr2 => ?_
    obtain ⟨⟨⟨yid, yT, ys⟩⟩, rfl, p2, k2, G2⟩ := hp2
    simp at hn2
    simp [cDb, cS, dSl, hB0, s133_10, ]
    exact ⟨⟨⟨yid, yT, ys⟩⟩, by simp [cDb, cS, dSl], by simp [setP, hB0, p2], k2, G2.le (by omega)⟩
  have hl6 : l.length ≤ 6 := dbOk_len h1
  simp [s133_10, ]
  refine call_some hcopy (by simp [cDb, cS, dSl]) (by simp) fun n2 hs2 r2 hn2 hm2 hp2 hr2 => ?_
  obtain ⟨⟨⟨yid, yT, ys⟩⟩, rfl, p2, k2, G2⟩ := hp2
  simp at hn2
  have hys : ys.map plTab = l := by
    have := congrArg PDb.tabs p2
    simpa [plDb, plS] using this
  have hyl : ys.length = l.length := by rw [← hys]; simp
  have hr2' : ∀ g ∈ idsL (cDb ⟨⟨yid, yT, ys⟩⟩), g < hs2 := fun g hg => hr2 g (by rw [ids_agg]; exact hg)
  have hkl := setK_le l nm
  simp [cDb, cS, dSl, s133_10, ]
  refine loop_rule (X := Nat) (fun i => KTo l nm i) (fun i => [(1, .d (.str nm)), (3, .ptr 3 0 0), (5, .ptr 5 0 0), (6, .ptr 6 0 0), (8, .ptr 8 0 0), (9, .d (.int .i64 i))])
    (fun i => [(3, some (.box [.d (.sl did dT (dts.map cTab))])), (5, some (.box [.d (.int .i64 ar), .d (.sl rid rT (rxs.map (cS cI)))])), (6, some (.box [.d (.sl none none [])])), (8, some (.box [.d (.sl yid yT (ys.map cTab))]))]) (fun i => l.length - i) 0 .zero (by simp) (by simp) ?_
  intro i hs t m hi hh
  have hik := hi.le
  by_cases hlt : i < setK l nm
  · have hil : i < l.length := by omega
    have hiy : i < ys.length := by omega
    have hwi := wr1 (i := i) (by omega)
    have hb := setK_lt hil hlt
    obtain ⟨⟨tn, ⟨ta, ⟨tid, tT, tr⟩⟩⟩, hT⟩ : ∃ y, y = ys[i] := ⟨_, rfl⟩
    have hTn : l[i].name = tn := by
      have : l[i] = plTab ys[i] := by simp [← hys]
      rw [this, ← hT]; rfl
    rw [hTn] at hb
    simp [hiy, hil, ← hT, hb, hwi, cTab, cReln, cStr, cI, cS, dSl, s133_10, ]
    exact back (i + 1) ⟨by omega⟩ (by omega) rfl (by simp <;> omega) (by simp) (by simp)
  have hik2 : i = setK l nm := by omega
  subst hik2
  by_cases hkt : setK l nm < l.length
  · have hb := setK_at hkt
    have hky : setK l nm < ys.length := by omega
    have hwY : Sl.wh (⟨yid, yT, ys⟩ : Sl Tab) := G2.wh.1
    obtain ⟨gg, hgg, T, hTT⟩ := hwY.id hky
    simp only at hgg hTT
    subst hgg hTT
    have hgn : n2 ≤ gg := G2.lo gg (by rw [cDb, idsL_cS]; exact mem_sl_ids.2 (.inl rfl))
    have hgh : gg < hs2 := hr2' gg (by rw [cDb, idsL_cS]; exact mem_sl_ids.2 (.inl rfl))
    have hsn := sl_nd (s := (⟨some gg, some T, ys⟩ : Sl Tab)) (c := cTab) (by have := G2.nd; rwa [cDb, idsL_cS] at this)
    have hgB : B ≤ gg := by omega
    have hgy : gg ∉ idsLL (ys.map cTab) := hsn.2 gg rfl
    obtain ⟨⟨tn, ⟨ta, ⟨tid, tT, tr⟩⟩⟩, hT⟩ : ∃ y, y = ys[setK l nm] := ⟨_, rfl⟩
    have hTn : l[setK l nm].name = tn := by
      have : l[setK l nm] = plTab ys[setK l nm] := by simp [← hys]
      rw [this, ← hT]; rfl
    rw [hTn] at hb
    simp [hky, hkt, ← hT, hb, cTab, cReln, cStr, cI, cS, dSl, s133_10, ]
    refine call_some hcR (by simp [cReln, cS, cI, dSl]) (by simp) fun n3 hs3 r3 hn3 hm3 hp3 hr3 => ?_
    obtain ⟨⟨za, ⟨zid, zT, zs⟩⟩, rfl, p3, k3, G3⟩ := hp3
    simp at hn3
    have hr3' : ∀ g ∈ idsL (cReln ⟨za, ⟨zid, zT, zs⟩⟩), g < hs3 := fun g hg => hr3 g (by rw [ids_agg]; exact hg)
    have hgz : gg ∉ idsL (cReln ⟨za, ⟨zid, zT, zs⟩⟩) := fun h => by have := G3.lo gg h; omega
    have hgz2 : ¬ zid = some gg ∧ gg ∉ idsLL (zs.map (cS cI)) := by
      rw [cReln, idsL_app, idsL_cS] at hgz
      exact ⟨fun h => hgz (List.mem_append.2 (.inr (mem_sl_ids.2 (.inl h)))), fun h => hgz (List.mem_append.2 (.inr (mem_sl_ids.2 (.inr h))))⟩
    obtain ⟨w, hw⟩ : ∃ w : Tab, w = ⟨nm, ⟨za, ⟨zid, zT, zs⟩⟩⟩ := ⟨_, rfl⟩
    have hwc : cTab w = [D.str nm, D.int .i64 za, D.sl zid zT (zs.map (cS cI))] := by rw [hw]; simp [cTab, cReln, cStr, cI, cS, dSl]
    have hwp : plTab w = ⟨nm, ⟨ar, rows⟩⟩ := by rw [hw, plTab, p3]; rfl
    have hwG : Good (cTab w) (whTab w) n3 := by rw [hw]; exact good_Tab G3
    have hwk : okTab w := by rw [hw]; exact ⟨hnm, k3⟩
    have hyi : ∀ g ∈ idsLL (ys.map cTab), n2 ≤ g ∧ g < hs2 := fun g hg => by
      have hm : g ∈ idsL (cDb ⟨⟨some gg, some T, ys⟩⟩) := by rw [cDb, idsL_cS]; exact mem_sl_ids.2 (.inr hg)
      exact ⟨G2.lo g hm, hr2' g hm⟩
    have hL1 : LenOk 48 (setK l nm) := ⟨by omega, by simp only [maxLen]; omega⟩
    have hL2 : LenOk 48 (setK l nm + 1) := ⟨by omega, by simp only [maxLen]; omega⟩
    have hL3 : LenOk 48 (setK l nm + 1 + (ys.length - setK l nm)) := ⟨by omega, by simp only [maxLen]; omega⟩
    have hmn : min (setK l nm) ys.length = setK l nm := by omega
    by_cases he : tn = nm
    · have hh1 : hitK l nm = true := by simp [hitK, hkt, hTn, he]
      have hSL : setL l nm ⟨ar, rows⟩ = l.take (setK l nm) ++ ⟨nm, ⟨ar, rows⟩⟩ :: l.drop (setK l nm + 1) := by simp [setL, hh1]
      obtain ⟨vs, hvs⟩ : ∃ vs, vs = ys.take (setK l nm) ++ w :: ys.drop (setK l nm + 1) := ⟨_, rfl⟩
      obtain ⟨P1, P2⟩ := good_put (c := cTab) (wh := whTab) (j := setK l nm + 1) (k := setK l nm) (by omega) hsn.1 (fun g hg => ⟨(hyi g hg).1, by have := (hyi g hg).2; show g < n3; omega⟩) G2.wh.2 hwG (by omega)
      rw [← hvs] at P1 P2
      have hvp : vs.map plTab = setL l nm ⟨ar, rows⟩ := by rw [hvs, map_put, hys, hwp, hSL]
      have hset : (ys.map cTab).set (setK l nm) (cTab w) = vs.map cTab := by
        rw [List.set_eq_take_append_cons_drop, if_pos (by simpa using hky), hvs, map_put]
      have hgv : gg ∉ idsLL (vs.map cTab) := fun h => by
        rw [hvs, List.map_append, List.map_cons, idsLL_append, idsLL] at h
        rcases List.mem_append.1 h with h | h
        · exact hgy ((ids_sub (List.take_sublist _ _)).subset h)
        · rcases List.mem_append.1 h with h | h
          · have := hwG.lo gg h; omega
          · exact hgy ((ids_sub (List.drop_sublist _ _)).subset h)
      have hvk : ∀ t ∈ vs, okTab t := fun t ht => by
        rw [hvs] at ht
        rcases List.mem_append.1 ht with h | h
        · exact k2.2 t (List.mem_of_mem_take h)
        · rcases List.mem_cons.1 h with rfl | h
          · exact hwk
          · exact k2.2 t (List.mem_of_mem_drop h)
      have hvl : vs.length = ys.length := by rw [hvs]; simp; omega
      simp [hky, hkt, ← hT, he, cTab, cReln, cStr, cI, cS, dSl, s133_10, ]
      refine ⟨⟨hgB, hgz2, hgy⟩, ?_⟩
      rw [← hwc, hset]
      have e1 : ∀ d', reV (one gg d') (.d (.sl did dT (dts.map cTab))) = .d (.sl did dT (dts.map cTab)) := fun d' => hdB2 _ fun i hi => one_out (by omega)
      have e2 : ∀ d', reV (one gg d') (.d (.sl zid zT (zs.map (cS cI)))) = .d (.sl zid zT (zs.map (cS cI))) := fun d' => reV_id (.d (dSl (cS cI) ⟨zid, zT, zs⟩)) fun i hi => one_out (fun e => by
        subst e
        rcases mem_sl_ids.1 hi with h | h
        · exact hgz2.1 h
        · exact hgz2.2 h)
      have e3 : ∀ d', reV (one gg d') (.d (.sl rid rT (rxs.map (cS cI)))) = .d (.sl rid rT (rxs.map (cS cI))) := fun d' => hrB2 _ fun i hi => one_out (by omega)
      simp only [e1, e2, e3]
      refine call_f (w_impl_IsValidDatabase ⟨vs.map plTab⟩) (by simp [eDb, cP, pS, erLL_map er_cTab]) rfl fun hs4 hh4 => ?_
      simp at hh4
      rw [hvp]
      cases h4 : dbOk ⟨setL l nm ⟨ar, rows⟩⟩
      · have hB0 : setB ⟨l⟩ nm ⟨ar, rows⟩ = false := by simp [setB, h4]
        simp [s133_10, ]
        refine call_some hcopy (by simp [cDb, cS, dSl]) (by simp) fun n5 hs5 r5 hn5 hm5 hp5 hr5 => ?_
        obtain ⟨⟨⟨uid, uT, us⟩⟩, rfl, p5, k5, G5⟩ := hp5
        simp at hn5
        simp [cDb, cS, dSl, hB0, s133_10, ]
        exact ⟨⟨⟨uid, uT, us⟩⟩, by simp [cDb, cS, dSl], by simp [setP, hB0, p5], k5, G5.le (by omega)⟩
      · have hB1 : setB ⟨l⟩ nm ⟨ar, rows⟩ = true := by simp [setB, h1, h4]
        simp [hB1, s133_10, ]
        refine ⟨⟨⟨some gg, some T, vs⟩⟩, by simp [cDb, cS, dSl], by simp only [setP, hB1, if_true, plDb, plS, hvp], ⟨by simp only [maxLen]; show vs.length ≤ _; omega, hvk⟩, good_row (fun g hg => by obtain rfl := Option.some.inj hg; exact hgB) (by simp) (fun g hg => by obtain rfl := Option.some.inj hg; exact hgv) ⟨P1.1, fun g hg => by have := P1.2 g hg; omega⟩ P2⟩
    · have hh1 : hitK l nm = false := by simp [hitK, hkt, hTn, he]
      have hSL : setL l nm ⟨ar, rows⟩ = l.take (setK l nm) ++ ⟨nm, ⟨ar, rows⟩⟩ :: l.drop (setK l nm) := by simp [setL, hh1]
      obtain ⟨vs, hvs⟩ : ∃ vs, vs = ys.take (setK l nm) ++ w :: ys.drop (setK l nm) := ⟨_, rfl⟩
      simp [hky, hkt, ← hT, he, hmn, hL1, hL2, hL3, cTab, cReln, cStr, cI, cS, dSl, ← List.map_take, ← List.map_drop, List.take_of_length_le, s133_10, ]
      obtain ⟨P1, P2⟩ := good_put (c := cTab) (wh := whTab) (j := setK l nm) (k := setK l nm) (Nat.le_refl _) hsn.1 (fun g hg => ⟨(hyi g hg).1, by have := (hyi g hg).2; show g < n3; omega⟩) G2.wh.2 hwG (by omega)
      rw [← hvs] at P1 P2
      have hvp : vs.map plTab = setL l nm ⟨ar, rows⟩ := by rw [hvs, map_put, hys, hwp, hSL]
      have hvk : ∀ t ∈ vs, okTab t := fun t ht => by
        rw [hvs] at ht
        rcases List.mem_append.1 ht with h | h
        · exact k2.2 t (List.mem_of_mem_take h)
        · rcases List.mem_cons.1 h with rfl | h
          · exact hwk
          · exact k2.2 t (List.mem_of_mem_drop h)
      have hvl : vs.length = ys.length + 1 := by rw [hvs]; simp; omega
      have hpV : hpLL (vs.map cTab) = false := hpLL_map (fun a => by simp) vs
      refine ⟨by omega, ?_⟩
      have hrow : List.map cTab (List.take (setK l nm) ys) ++ [D.str nm, D.int .i64 za, D.sl zid zT (zs.map (cS cI))] :: List.map cTab (List.drop (setK l nm) ys) = vs.map cTab := by rw [hvs, ← hwc]; simp
      have hnum : setK l nm + 1 + (ys.length - setK l nm) = ys.length + 1 := by omega
      repeat' apply And.intro
      all_goals
        simp only [hrow, hnum]
        refine call_own (by simp) (fun γ n hn hg => ⟨[.agg [.d (.sl (γ 59) (some (159, 3)) (vs.map cTab))]], by simp [hvl, hpV, List.take_of_length_le], (w_impl_IsValidDatabase ⟨vs.map plTab⟩).er (by simp [eDb, cP, pS, erLL_map er_cTab])⟩) (by rintro n _ rfl; simp [V.ids, D.ids, V.hp, D.hp]) fun n4 hs4 r4 hh4 hm4 hp4 hr4 => ?_
        subst hp4
        clear hr4
        simp at hh4
        rw [hvp]
        cases h4 : dbOk ⟨setL l nm ⟨ar, rows⟩⟩
        · have hB0 : setB ⟨l⟩ nm ⟨ar, rows⟩ = false := by simp [setB, h4]
          simp [s133_10, ]
          refine call_some hcopy (by simp [cDb, cS, dSl]) (by simp) fun n5 hs5 r5 hn5 hm5 hp5 hr5 => ?_
          obtain ⟨⟨⟨uid, uT, us⟩⟩, rfl, p5, k5, G5⟩ := hp5
          simp at hn5
          simp [cDb, cS, dSl, hB0, s133_10, ]
          exact ⟨⟨⟨uid, uT, us⟩⟩, by simp [cDb, cS, dSl], by simp [setP, hB0, p5], k5, G5.le (by omega)⟩
        · have hB1 : setB ⟨l⟩ nm ⟨ar, rows⟩ = true := by simp [setB, h1, h4]
          simp [hB1, s133_10, ]
          intro γ hs' h1' hg
          obtain ⟨q1, q2⟩ := gam_at hg (k := 59) (T := 159) (sz := 3) (es := vs.map cTab) (by simp)
          have q3 := gam_row hg (k := 59) (T := 159) (sz := 3) (es := vs.map cTab) (by simp)
          clear hg
          have hp : hpLL (vs.map cTab) = false := hpLL_map (fun a => by simp) vs
          simp [hp, hvl, List.take_of_length_le]
          exact ⟨⟨⟨γ 59, some (159, 3), vs⟩⟩, by simp [cDb, cS, dSl], by simp only [setP, hB1, if_true, plDb, plS, hvp], ⟨by simp only [maxLen]; show vs.length ≤ _; omega, hvk⟩, good_row (fun g hg => (q1 g hg).1) (by simpa using q2) q3 ⟨P1.1, fun g hg => by have := P1.2 g hg; omega⟩ P2⟩
  · have hkn : setK l nm = l.length := by omega
    have hL1 : LenOk 48 l.length := ⟨by omega, by simp only [maxLen]; omega⟩
    have hL2 : LenOk 48 (l.length + 1) := ⟨by omega, by simp only [maxLen]; omega⟩
    simp [hkn, hyl, cReln, cI, cS, dSl, s133_10, ]
    refine call_some hcR (by simp [cReln, cS, cI, dSl]) (by simp) fun n3 hs3 r3 hn3 hm3 hp3 hr3 => ?_
    obtain ⟨⟨za, ⟨zid, zT, zs⟩⟩, rfl, p3, k3, G3⟩ := hp3
    simp at hn3
    have hr3' : ∀ g ∈ idsL (cReln ⟨za, ⟨zid, zT, zs⟩⟩), g < hs3 := fun g hg => hr3 g (by rw [ids_agg]; exact hg)
    obtain ⟨w, hw⟩ : ∃ w : Tab, w = ⟨nm, ⟨za, ⟨zid, zT, zs⟩⟩⟩ := ⟨_, rfl⟩
    have hwc : cTab w = [D.str nm, D.int .i64 za, D.sl zid zT (zs.map (cS cI))] := by rw [hw]; simp [cTab, cReln, cStr, cI, cS, dSl]
    have hwp : plTab w = ⟨nm, ⟨ar, rows⟩⟩ := by rw [hw, plTab, p3]; rfl
    have hwG : Good (cTab w) (whTab w) n3 := by rw [hw]; exact good_Tab G3
    have hwk : okTab w := by rw [hw]; exact ⟨hnm, k3⟩
    have hyi : ∀ g ∈ idsLL (ys.map cTab), n2 ≤ g ∧ g < hs2 := fun g hg => by
      have hm : g ∈ idsL (cDb ⟨⟨yid, yT, ys⟩⟩) := by rw [cDb, idsL_cS]; exact mem_sl_ids.2 (.inr hg)
      exact ⟨G2.lo g hm, hr2' g hm⟩
    have hh1 : hitK l nm = false := by simp [hitK, hkt]
    have hSL : setL l nm ⟨ar, rows⟩ = l.take l.length ++ ⟨nm, ⟨ar, rows⟩⟩ :: l.drop l.length := by simp [setL, hh1, hkn]
    obtain ⟨vs, hvs⟩ : ∃ vs, vs = ys.take l.length ++ w :: ys.drop l.length := ⟨_, rfl⟩
    obtain ⟨P1, P2⟩ := good_put (c := cTab) (wh := whTab) (j := l.length) (k := l.length) (Nat.le_refl _) (sl_nd (s := (⟨yid, yT, ys⟩ : Sl Tab)) (c := cTab) (by have := G2.nd; rwa [cDb, idsL_cS] at this)).1 (fun g hg => ⟨(hyi g hg).1, by have := (hyi g hg).2; show g < n3; omega⟩) G2.wh.2 hwG (by omega)
    rw [← hvs] at P1 P2
    have hvp : vs.map plTab = setL l nm ⟨ar, rows⟩ := by rw [hvs, map_put, hys, hwp, hSL]
    have hvk : ∀ t ∈ vs, okTab t := fun t ht => by
      rw [hvs] at ht
      rcases List.mem_append.1 ht with h | h
      · exact k2.2 t (List.mem_of_mem_take h)
      · rcases List.mem_cons.1 h with rfl | h
        · exact hwk
        · exact k2.2 t (List.mem_of_mem_drop h)
    have hvl : vs.length = ys.length + 1 := by rw [hvs]; simp; omega
    have hpV : hpLL (vs.map cTab) = false := hpLL_map (fun a => by simp) vs
    have hrow : List.map cTab (List.take l.length ys) ++ [[D.str nm, D.int .i64 za, D.sl zid zT (zs.map (cS cI))]] = vs.map cTab := by rw [hvs, ← hwc]; simp [← hyl]
    have hnum : l.length + 1 = ys.length + 1 := by omega
    simp [hkn, hyl, hL1, hL2, cTab, cReln, cStr, cI, cS, dSl, ← List.map_take, s133_10, ]
    repeat' apply And.intro
    all_goals
      simp only [hrow, hnum]
      refine call_own (by simp) (fun γ n hn hg => ⟨[.agg [.d (.sl (γ 59) (some (159, 3)) (vs.map cTab))]], by simp [hvl, hpV, List.take_of_length_le], (w_impl_IsValidDatabase ⟨vs.map plTab⟩).er (by simp [eDb, cP, pS, erLL_map er_cTab])⟩) (by rintro n _ rfl; simp [V.ids, D.ids, V.hp, D.hp]) fun n4 hs4 r4 hh4 hm4 hp4 hr4 => ?_
      subst hp4
      clear hr4
      simp at hh4
      rw [hvp]
      cases h4 : dbOk ⟨setL l nm ⟨ar, rows⟩⟩
      · have hB0 : setB ⟨l⟩ nm ⟨ar, rows⟩ = false := by simp [setB, h4]
        simp [s133_10, ]
        refine call_some hcopy (by simp [cDb, cS, dSl]) (by simp) fun n5 hs5 r5 hn5 hm5 hp5 hr5 => ?_
        obtain ⟨⟨⟨uid, uT, us⟩⟩, rfl, p5, k5, G5⟩ := hp5
        simp at hn5
        simp [cDb, cS, dSl, hB0, s133_10, ]
        exact ⟨⟨⟨uid, uT, us⟩⟩, by simp [cDb, cS, dSl], by simp [setP, hB0, p5], k5, G5.le (by omega)⟩
      · have hB1 : setB ⟨l⟩ nm ⟨ar, rows⟩ = true := by simp [setB, h1, h4]
        simp [hB1, s133_10, ]
        intro γ hs' h1' hg
        obtain ⟨q1, q2⟩ := gam_at hg (k := 59) (T := 159) (sz := 3) (es := vs.map cTab) (by simp)
        have q3 := gam_row hg (k := 59) (T := 159) (sz := 3) (es := vs.map cTab) (by simp)
        clear hg
        have hp : hpLL (vs.map cTab) = false := hpLL_map (fun a => by simp) vs
        simp [hp, hvl, List.take_of_length_le]
        exact ⟨⟨⟨γ 59, some (159, 3), vs⟩⟩, by simp [cDb, cS, dSl], by simp only [setP, hB1, if_true, plDb, plS, hvp], ⟨by simp only [maxLen]; show vs.length ≤ _; omega, hvk⟩, good_row (fun g hg => (q1 g hg).1) (by simpa using q2) q3 ⟨P1.1, fun g hg => by have := P1.2 g hg; omega⟩ P2⟩
end

end Go.Proofs.YtdnbigokdclclaaGreat


namespace Go.Proofs.YtdnbigokdclclaaGreat
open Go.Vs Go.Proofs Go
set_option maxRecDepth 100000
set_option maxHeartbeats 1000000

section
attribute [local simp] plI_id plStr_id map_plI map_plStr pS cP cI cStr cU8 cB eTab eReln eDelta
theorem w_spec_ApplyDelta (d : PDb) (x : PDelta) (hz : szDb d) (hst : ∀ t ∈ d.tabs, t.name.length ≤ maxLen) (hnm : x.name.length ≤ maxLen) :
   VC Tryz.prog 34 [.agg ((eDb d).map V.d), .agg ((eDelta x).map V.d)] (fun _ v => v = .tup [.agg ((eDb (appP d x)).map V.d), .d (.bool (appB d x))]) := by
  refine VC.ofL EP s34 (by kernel_rfl) Tryz.func34 (by rfl) (by kernel_rfl) (by simp [Tryz.f34]) (by simp [Tryz.f34]) s34_ok fun B hl => ?_
  obtain ⟨nm, ⟨ia, il⟩, ⟨da, dl⟩⟩ := x
  obtain ⟨X, hX⟩ : ∃ X : PDelta, X = ⟨nm, ⟨ia, il⟩, ⟨da, dl⟩⟩ := ⟨_, rfl⟩
  rw [← hX]
  have hXn : X.name = nm := by rw [hX]
  obtain ⟨l⟩ := d
  simp [Tryz.f34, eDb]
  refine call_p (w_spec_NormalizeDelta ⟨l⟩ X hst) (by simp [eDb, hX]) fun hs1 hh1 hl1 => ?_
  simp at hh1
  obtain ⟨⟨yn, ⟨ya, yi⟩, ⟨yb, yd⟩⟩, hY⟩ : ∃ Y, Y = norP ⟨l⟩ X := ⟨_, rfl⟩
  rw [← hY]
  cases h1 : fitB ⟨l⟩ X
  · have hG : appG ⟨l⟩ X = false := by simp [appG, h1]
    simp []
    refine call_p (w_spec_l6Copy ⟨l⟩ hz) (by simp [eDb]) fun hs2 hh2 hl2 => ?_
    simp [eDb, appP, appB, hG]
  simp []
  refine call_p (w_spec_LookupRelation ⟨l⟩ nm hst) (by simp [eDb, hX]) fun hs2 hh2 hl2 => ?_
  simp at hh2
  obtain ⟨⟨ra, rl⟩, hR⟩ : ∃ R, R = lkR ⟨l⟩ nm := ⟨_, rfl⟩
  rw [← hR]
  simp []
  refine call_p (w_spec_Difference ⟨ra, rl⟩ ⟨yb, yd⟩) (by simp) fun hs3 hh3 hl3 => ?_
  simp at hh3
  have hD : difR ⟨ra, rl⟩ ⟨yb, yd⟩ = difD ⟨l⟩ X := by rw [difD, ← hY, hXn, ← hR]
  rw [hD]
  obtain ⟨⟨ea, el⟩, hE⟩ : ∃ E, E = difD ⟨l⟩ X := ⟨_, rfl⟩
  rw [← hE]
  simp []
  refine call_p (w_spec_Union ⟨ea, el⟩ ⟨ya, yi⟩) (by simp) fun hs4 hh4 hl4 => ?_
  simp at hh4
  have hU : uniR ⟨ea, el⟩ ⟨ya, yi⟩ = appU ⟨l⟩ X := by rw [appU, ← hY, hE]
  rw [hU]
  obtain ⟨⟨ua, ul⟩, hV⟩ : ∃ E, E = appU ⟨l⟩ X := ⟨_, rfl⟩
  rw [← hV]
  have hG : appG ⟨l⟩ X = uniB ⟨ea, el⟩ ⟨ya, yi⟩ := by rw [appG, h1, ← hY, hE, Bool.true_and]
  cases h2 : uniB ⟨ea, el⟩ ⟨ya, yi⟩
  · rw [h2] at hG
    simp []
    refine call_p (w_spec_l6Copy ⟨l⟩ hz) (by simp [eDb]) fun hs5 hh5 hl5 => ?_
    simp [eDb, appP, appB, hG]
  · rw [h2] at hG
    simp []
    refine call_p (w_spec_SetRelation ⟨l⟩ nm ⟨ua, ul⟩ hz hst hnm) (by simp [eDb, hX]) fun hs5 hh5 hl5 => ?_
    simp [eDb, appP, appB, hG, ← hV, hXn]
end
section
attribute [local simp] plI_id plStr_id map_plI map_plStr
theorem t_impl_ApplyDelta (d : Db) (x : Delta) (hd : okDb d) (hx : okDelta x) (hz : szDb (plDb d)) :
   VC Tryz.prog 63 [.agg ((cDb d).map V.d), .agg ((cDelta x).map V.d)]
   (fun n v => ∃ y : Db, v = .tup [.agg ((cDb y).map V.d), .d (.bool (appB (plDb d) (plDelta x)))] ∧ plDb y = appP (plDb d) (plDelta x) ∧ okDb y ∧ Good (cDb y) (whDb y) n) := by
  refine VC.of E s63 (by kernel_rfl) Tryz.func63 (by rfl) (by kernel_rfl) (by simp [Tryz.f63]) (by simp [Tryz.f63]) s63_ok fun B => ?_
  have hcopy := t_impl_copyDatabase d hd hz
  have hnorm := t_impl_NormalizeDelta d x hd hx
  obtain ⟨dp, hdp⟩ : ∃ dp, dp = plDb d := ⟨_, rfl⟩
  have hdl : erLL (d.tabs.xs.map cTab) = dp.tabs.map eTab := by rw [erLL_map er_cTab, hdp]; rfl
  have hset := fun r hr => t_impl_SetRelation d x.name r hd hz hx.1 hr
  obtain ⟨X, hX⟩ : ∃ X, X = plDelta x := ⟨_, rfl⟩
  have hXn : X.name = x.name := by rw [hX]; simp [plDelta]
  rw [← hdp, ← hX] at hnorm ⊢
  rw [← hdp] at hcopy hset
  obtain ⟨⟨did, dT, dts⟩⟩ := d
  obtain ⟨nm, ⟨ia, ⟨iid, iT, il⟩⟩, ⟨da, ⟨did2, dT2, dl⟩⟩⟩ := x
  simp only at hdl hset hXn
  simp [Tryz.f63, cDb, cDelta, cReln, cStr, cS, cI, dSl]
  refine call_some hnorm (by simp [cDb, cDelta, cReln, cStr, cS, cI, dSl]) (by simp) fun n1 hs1 r1 hn1 hm1 hp1 hr1 => ?_
  obtain ⟨⟨yn, yi, ⟨yb, ⟨ydid, ydT, yd⟩⟩⟩, rfl, p1, k1, G1⟩ := hp1
  simp at hn1
  obtain ⟨ya, ⟨yiid, yiT, yil⟩⟩ := yi
  cases h1 : fitB dp X
  · have hG : appG dp X = false := by simp [appG, h1]
    simp [cDb, cDelta, cReln, cStr, cS, cI, dSl, ]
    refine call_some hcopy (by simp [cDb, cS, dSl]) (by simp) fun n2 hs2 r2 hn2 hm2 hp2 hr2 => ?_
    obtain ⟨⟨⟨vid, vT, vs⟩⟩, rfl, p2, k2, G2⟩ := hp2
    simp at hn2
    simp [cDb, cS, dSl, appB, appP, hG, ]
    exact ⟨⟨⟨vid, vT, vs⟩⟩, by simp [cDb, cS, dSl], p2, k2, G2.le (by omega)⟩
  simp [cDb, cDelta, cReln, cStr, cS, cI, dSl, ]
  refine call_p (w_impl_LookupRelation dp nm) (by simp [eDb, cP, pS, hdl]) fun hs2 hh2 hl2 => ?_
  simp at hh2
  obtain ⟨⟨ra, rl⟩, hR⟩ : ∃ R, R = lkR dp nm := ⟨_, rfl⟩
  rw [← hR]
  simp [eReln, cI, cP, pS, ]
  refine call_p (q_impl_Difference ⟨ra, rl⟩ ⟨yb, yd.map (plS plI)⟩) (by simp [eReln, cI, cP, pS, erLL_map (er_cS er_cI)]) fun hs3 hh3 hl3 => ?_
  simp at hh3
  have hD : difR ⟨ra, rl⟩ ⟨yb, yd.map (plS plI)⟩ = difD dp X := by rw [difD, ← p1, hXn, ← hR]; rfl
  rw [hD]
  obtain ⟨⟨ea, el⟩, hE⟩ : ∃ E, E = difD dp X := ⟨_, rfl⟩
  rw [← hE]
  simp [eReln, cI, cP, pS, ]
  refine call_some (e_impl_Union ⟨ea, el⟩ ⟨ya, ⟨yiid, yiT, yil⟩⟩ k1.2.1) (by simp [eReln, cReln, cS, cI, cP, pS, dSl]) (by simp) fun n4 hs4 r4 hn4 hm4 hp4 hr4 => ?_
  obtain ⟨⟨ua, ⟨uid, uT, ul⟩⟩, rfl, p4, k4, G4⟩ := hp4
  simp at hn4
  have hU : uniR ⟨ea, el⟩ (plReln ⟨ya, ⟨yiid, yiT, yil⟩⟩) = appU dp X := by rw [appU, ← p1, hE]; rfl
  have hG : appG dp X = uniB ⟨ea, el⟩ (plReln ⟨ya, ⟨yiid, yiT, yil⟩⟩) := by rw [appG, h1, ← p1, hE, Bool.true_and]; rfl
  cases h2 : uniB ⟨ea, el⟩ (plReln ⟨ya, ⟨yiid, yiT, yil⟩⟩)
  · rw [h2] at hG
    simp [cReln, cI, cS, dSl, ]
    refine call_some hcopy (by simp [cDb, cS, dSl]) (by simp) fun n5 hs5 r5 hn5 hm5 hp5 hr5 => ?_
    obtain ⟨⟨⟨vid, vT, vs⟩⟩, rfl, p5, k5, G5⟩ := hp5
    simp at hn5
    simp [cDb, cS, dSl, appB, appP, hG, ]
    exact ⟨⟨⟨vid, vT, vs⟩⟩, by simp [cDb, cS, dSl], p5, k5, G5.le (by omega)⟩
  · rw [h2] at hG
    have hsz := uniR_ok h2
    rw [← p4] at hsz
    simp [cReln, cI, cS, dSl, ]
    refine call_some (hset ⟨ua, ⟨uid, uT, ul⟩⟩ hsz) (by simp [cDb, cReln, cI, cS, dSl]) (by simp) fun n5 hs5 r5 hn5 hm5 hp5 hr5 => ?_
    obtain ⟨⟨⟨vid, vT, vs⟩⟩, rfl, p5, k5, G5⟩ := hp5
    simp at hn5
    have hUp : plReln ⟨ua, ⟨uid, uT, ul⟩⟩ = appU dp X := by rw [p4, hU]
    rw [hUp] at p5 ⊢
    simp [cDb, cS, dSl, appB, appP, hG, hXn, ]
    exact ⟨⟨⟨vid, vT, vs⟩⟩, by simp [cDb, cS, dSl], p5, k5, G5.le (by omega)⟩
end

end Go.Proofs.YtdnbigokdclclaaGreat


namespace Go.Proofs.YtdnbigokdclclaaGreat
open Go.Vs Go.Proofs Go
set_option maxRecDepth 100000
set_option maxHeartbeats 1000000

section
attribute [local simp] plI_id plStr_id map_plI map_plStr pS cP cI cStr cU8 cB
end

end Go.Proofs.YtdnbigokdclclaaGreat


namespace Go.Proofs.YtdnbigokdclclaaGreat
open Go.Vs Go.Proofs Go
set_option maxRecDepth 100000
set_option maxHeartbeats 1000000

section
attribute [local simp] plI_id plStr_id map_plI map_plStr
end

end Go.Proofs.YtdnbigokdclclaaGreat


namespace Go.Proofs.YtdnbigokdclclaaGreat
open Go.Vs Go.Proofs Go
set_option maxRecDepth 100000
set_option maxHeartbeats 1000000

end Go.Proofs.YtdnbigokdclclaaGreat


namespace Go.Proofs.YtdnbigokdclclaaGreat
open Go.Vs Go.Proofs Go
set_option maxRecDepth 100000
set_option maxHeartbeats 1000000

theorem t_impl_settled (a : Cnt) (ha : okCnt a) (hl1 : a.rows.xs.length ≤ 4294967296) (hl2 : a.cs.xs.length = a.rows.xs.length) : VC Tryz.prog 75 [.agg ((cCnt a).map V.d)]
   (fun n r => ∃ y : Cnt, r = .agg ((cCnt y).map V.d) ∧ plCnt y = ⟨a.ar, (sttl (plCnt a).rows (plCnt a).cs).map Prod.fst, (sttl (plCnt a).rows (plCnt a).cs).map Prod.snd⟩ ∧ okCnt y ∧
     (∀ B, B ≤ n → Good (cS (cS cI) a.rows) (whS (whS whI) a.rows) B → Good (cCnt y) (whCnt y) B)) := by
  refine VC.of E s75 (by kernel_rfl) Tryz.func75 (by rfl) (by kernel_rfl) (by simp [Tryz.f75]) (by simp [Tryz.f75]) s75_ok fun B => ?_
  simp [Tryz.f75, s75_6, cCnt, cS, cI, dSl]
  obtain ⟨ar, ⟨rid, rT, l⟩, ⟨cid, cT, cs⟩⟩ := a
  simp only at hl1 hl2 ⊢
  refine loop_ruleL (X := Nat) (fun i _ => i ≤ cs.length) (fun i => [(1, .ptr 1 0 0), (2, .ptr 2 0 0), (3, .ptr 3 0 0), (10, .d (.sl cid cT (cs.map cI))), (11, .d (.int .i64 cs.length)), (12, .d (.int .i64 i))])
    (fun i => [(1, some (.box [.d (.int .i64 ar), .d (.sl rid rT (l.map (cS cI))), .d (.sl cid cT (cs.map cI))])), (2, some (.box [.d (.int .i64 0), .d (.sl none none []), .d (.sl none none [])])),
      (3, some (.box [.d (.int .i64 ar), .own 27 0 (sttl (l.take i) (cs.take i)).length, .own 33 0 (sttl (l.take i) (cs.take i)).length])),
      (27, some (.row 26 1 (((sttl (l.take i) (cs.take i)).map Prod.fst).map (cS cI)))), (33, some (.row 3 1 (((sttl (l.take i) (cs.take i)).map Prod.snd).map cI)))]) (fun i => cs.length - i) ?_ ?_
  · refine (lead_box 3 1 27 26 1 [.d (.int .i64 ar), .d (.sl none none []), .d (.sl none none [])] (by omega) (by omega) (by omega) (by simp) rfl).bind ?_
    rintro _ rfl
    refine (lead_box 3 2 33 3 1 [.d (.int .i64 ar), .own 27 0 0, .d (.sl none none [])] (by omega) (by omega) (by omega) (by simp) rfl).bind ?_
    rintro _ rfl
    exact Lead.of ⟨0, by simp, rfl, rfl, Nat.le_refl _, by simp, by simp [sttl, dSl]⟩
  · intro i hs t m hi hh
    by_cases hlt : i < cs.length
    · have hwi := wr1 (i := i) (by omega)
      have hil : i < l.length := by omega
      have hss := settle_step (rs := l) (cs := cs) hil hlt
      have hsl : (sttl (l.take i) (cs.take i)).length ≤ i := settle_len (by omega)
      refine anyQ2 fun Q => ?_
      by_cases h0 : cs[i] = 0
      · rw [if_pos h0, List.append_nil] at hss
        simp [hlt, hil, h0, hwi, s75_6, ]
        exact back2 (i + 1) (by omega) (by omega) rfl (by simp <;> omega) (by simp) (by simp [hss])
      · rw [if_neg h0] at hss
        have hLa : LenOk 24 ((sttl (l.take i) (cs.take i)).length + 1) := ⟨by omega, by simp only [maxLen]; omega⟩
        have hLb : LenOk 8 ((sttl (l.take i) (cs.take i)).length + 1) := ⟨by omega, by simp only [maxLen]; omega⟩
        simp [hlt, hil, h0, hwi, hLa, hLb, cS, dSl, s75_6, ]
        exact back2 (i + 1) (by omega) (by omega) rfl (by simp <;> omega) (by simp) (by simp [hss, cS, cI, dSl])
    · have hn : i = cs.length := by omega
      subst hn
      have hsl : (sttl l cs).length ≤ l.length := by
        have := settle_len (rs := l) (cs := cs) (Nat.le_refl l.length)
        rw [List.take_length, List.take_of_length_le (l := cs) (by omega)] at this
        exact this
      simp [List.take_of_length_le, hl2, s75_6, ]
      intro γ hs' h2 hg
      obtain ⟨q1, q2⟩ := gam_at hg (k := 27) (T := 26) (sz := 1) (es := (sttl l cs).map (cS cI ∘ Prod.fst)) (by simp)
      obtain ⟨q3, q4⟩ := gam_at hg (k := 33) (T := 3) (sz := 1) (es := (sttl l cs).map (cI ∘ Prod.snd)) (by simp)
      have r1 := gam_row hg (k := 27) (T := 26) (sz := 1) (es := (sttl l cs).map (cS cI ∘ Prod.fst)) (by simp)
      have r2 := gam_row2 hg (k := 33) (T := 3) (sz := 1) (es := (sttl l cs).map (cI ∘ Prod.snd)) (k2 := 27) (T2 := 26) (sz2 := 1) (es2 := (sttl l cs).map (cS cI ∘ Prod.fst)) (by simp) (by simp)
      have r3 : ∀ g, γ 27 = some g → γ 33 = some g → False := fun g h h' => by
        have := hg.ne 27 33 (.row 26 1 ((sttl l cs).map (cS cI ∘ Prod.fst))) (.row 3 1 ((sttl l cs).map (cI ∘ Prod.snd))) g (by simp) (by simp) h h'
        omega
      clear hg
      have em : (sttl l cs).map (cS cI ∘ Prod.fst) = ((sttl l cs).map Prod.fst).map (cS cI) := by simp
      rw [em] at r1 r2
      have hp1 : hpLL ((sttl l cs).map (cS cI ∘ Prod.fst)) = false := hpLL_map (fun a => by simp) _
      have hp2 : hpLL ((sttl l cs).map (cI ∘ Prod.snd)) = false := hpLL_map (fun a => by simp) _
      simp [hp1, hp2, List.take_of_length_le]
      have hsub := sttl_sub l cs
      refine ⟨⟨ar, ⟨γ 27, some (26, 1), (sttl l cs).map Prod.fst⟩, ⟨γ 33, some (3, 1), (sttl l cs).map Prod.snd⟩⟩, by simp [hp1, hp2, cCnt, cS, cI, dSl, List.take_of_length_le], ?_, ⟨trivial, ⟨by simp only [maxLen, List.length_map]; omega, fun r hr => ha.2.1.2 r (hsub.subset hr)⟩, ⟨by simp only [maxLen, List.length_map]; omega, fun _ _ => trivial⟩⟩, ?_⟩
      · simp only [plCnt, plS, map_plI, PCnt.mk.injEq]
        exact ⟨rfl, sttl_fst _ _ _, sttl_snd _ _ _⟩
      · intro B' hB' G
        have G : Good (cS (cS cI) ⟨rid, rT, l⟩) (whS (whS whI) ⟨rid, rT, l⟩) B' := G
        have hG := G.nd
        rw [idsL_cS] at hG
        have hG2 := (sl_nd hG).1
        have hlo : ∀ g ∈ idsLL (((sttl l cs).map Prod.fst).map (cS cI)), B' ≤ g := fun g hg => G.lo g (by
          rw [idsL_cS]
          exact mem_sl_ids.2 (.inr ((ids_sub hsub).subset hg)))
        have := good_Cnt2 (ar := ar) (T1 := (26, 1)) (T2 := (3, 1)) (hG2.sublist (ids_sub hsub)) hlo (fun r hr => G.wh.2 r (hsub.subset hr)) (fun g h => ⟨Nat.le_trans hB' (q1 g h).1, r1 g h⟩) (by simpa using q2) (fun g h => ⟨Nat.le_trans hB' (q3 g h).1, r2 g h⟩) (cs := (sttl l cs).map Prod.snd) (by simpa using q4) r3
        exact this

end Go.Proofs.YtdnbigokdclclaaGreat


namespace Go.Proofs.YtdnbigokdclclaaGreat
open Go.Vs Go.Proofs Go
set_option maxRecDepth 100000
set_option maxHeartbeats 1000000

theorem w_impl_copyIntsT (a : Ints) (ha : okS okI a) (hb : a.xs.length ≤ 4294967296) :
   VC Tryz.prog 138 [.d (dSl cI a)] (fun n r => ∃ y : Sl Int, r = .d (dSl cI y) ∧ plS plI y = plS plI a ∧ okS okI y ∧ Good (cS cI y) (whS whI y) n ∧ y.T = some (3, 1)) := by
  refine VC.of E s138 (by kernel_rfl) Tryz.func138 (by rfl) (by kernel_rfl) (by simp [Tryz.f138]) (by simp [Tryz.f138]) s138_ok fun B => ?_
  have hL : LenOk 8 a.xs.length := ⟨by omega, by simp only [maxLen]; omega⟩
  simp [Tryz.f138, dSl, hL, cI]
  intro γ hs' h1 hg
  obtain ⟨q1, q2⟩ := gam_at hg (k := 3) (T := 3) (sz := 1) (es := a.xs.map cI) (by simp [cI])
  have q3 := gam_row hg (k := 3) (T := 3) (sz := 1) (es := a.xs.map cI) (by simp [cI])
  clear hg
  refine ⟨⟨γ 3, some (3, 1), a.xs⟩, ⟨⟨rfl, rfl, by simp [List.take_of_length_le]⟩, rfl, ha, good_row (fun g hg => (q1 g hg).1) (by simpa using q2) q3 ⟨by simp, by simp⟩ (by simp [whI]), rfl⟩⟩
theorem t_impl_tally (c : Cnt) (row : Sl Int) (n : Int) (hc : okCnt c) (hr : okS okI row) (hw : whS whI c.cs) (hnd : (idsL (cCnt c)).Nodup) (hb : c.rows.xs.length ≤ 1000000) (hl2 : c.cs.xs.length = c.rows.xs.length) (hlr : row.xs.length ≤ 4294967296)
   (hn : -1000000 ≤ n ∧ n ≤ 1000000) (hv : ∀ v ∈ c.cs.xs, -1000000000000 ≤ v ∧ v ≤ 1000000000000) :
   VX Tryz.prog 73 (dSl cI c.cs).ids [.ptr 1000 0 0, .d (dSl cI row), .d (.int .i64 n)] (some ((cCnt c).map V.d))
    (fun m r bx' ws => r = .tup [] ∧ ∃ y : Cnt, bx' = (cCnt y).map V.d ∧ plCnt y = ⟨c.ar, insR (plCnt c).rows row.xs, insC (plCnt c).rows c.cs.xs row.xs n⟩ ∧ okCnt y ∧ (∃ d, ws = [d]) ∧
      (∀ B, B ≤ m → Good (cCnt c) (whCnt c) B → (∀ g ∈ idsL (cCnt c), g < m) → Good (cCnt y) (whCnt y) B)) := by
  refine VX.of E s73 (by kernel_rfl) Tryz.func73 (by rfl) (by kernel_rfl) (by simp [Tryz.f73]) (by simp [Tryz.f73]) s73_ok ?_ ?_ fun B hB => ?_
  · intro g hg; right; show g ∈ idsVL ((cCnt c).map V.d); rw [idsVL_map_d, cCnt, idsL_app, idsL_app, idsL_cS, idsL_cS]; simp [hg]
  · intro bs h; obtain rfl := Option.some.inj h; rfl
  obtain ⟨ar, ⟨rid, rT, l⟩, ⟨cid, cT, cs⟩⟩ := c
  simp only at hw hb hl2 hv ⊢
  have hnd2 : ∀ g, cid = some g → g ∉ (dSl (cS cI) ⟨rid, rT, l⟩).ids := fun g hg hm => by
    rw [cCnt, idsL_app, idsL_app, idsL_cS, idsL_cS] at hnd
    exact (List.nodup_append.1 hnd).2.2 g (by simp [hm]) g (mem_sl_ids.2 (.inl hg)) rfl
  simp [Tryz.f73, s73_3, s73_4, cCnt, cS, cI, dSl]
  have hlr2 : row.xs.length ≤ maxLen := hr.1
  refine call_f (w_impl_place (plS (plS plI) ⟨rid, rT, l⟩) row.xs (by simpa [plS] using (by omega : l.length ≤ 4294967296))) (by simp [pS, plS, er_cS, erLL_map er_cI, erLL_map (er_cS er_cI), map_plI]) rfl fun hs1 hh1 => ?_
  simp at hh1
  obtain ⟨L, hL⟩ : ∃ L, L = l.map (plS plI) := ⟨_, rfl⟩
  have hLl : L.length = l.length := by rw [hL, List.length_map]
  have hpl : plS (plS plI) (⟨rid, rT, l⟩ : Sl (Sl Int)) = L := by rw [hL]; rfl
  have hk := placeK_le L row.xs
  simp only [hpl]
  obtain ⟨k, hkk⟩ : ∃ k, k = placeK L row.xs := ⟨_, rfl⟩
  simp only [← hkk] at hk ⊢
  cases hb1 : placeB L row.xs
  · have e0 : LenOk 24 k := ⟨by omega, by simp only [maxLen]; omega⟩
    have e1 : LenOk 24 (k + 1) := ⟨by omega, by simp only [maxLen]; omega⟩
    have e2 : LenOk 24 (k + 1 + (l.length - k)) := ⟨by omega, by simp only [maxLen]; omega⟩
    have hkl : k ≤ l.length := by omega
    have hmn : min k l.length = k := by omega
    simp [cS, cI, dSl, hkl, hmn, e0, ← List.map_take, s73_3, s73_4, ]
    refine call_some (w_impl_copyInts row hr hlr) (by simp [dSl, cI]) (by simp) fun n1 hs2 r1 hn1 hm1 hp1 hr1 => ?_
    obtain ⟨w, rfl, pw, kw, Gw⟩ := hp1
    simp at hn1
    simp [cS, cI, dSl, hkl, hmn, e0, e1, e2, ← List.map_take, ← List.map_drop, List.take_of_length_le, s73_3, s73_4, ]
    have hkc : k ≤ cs.length := by omega
    refine ⟨hkc, ?_⟩
    generalize (if cid.isSome = true then none else cT) = T0
    have hC := w_impl_copyIntsT ⟨cid, T0, cs.take k⟩ ⟨by simp only [maxLen, List.length_take]; omega, fun _ _ => trivial⟩ (by simp; omega)
    simp only [dSl] at hC
    repeat' apply And.intro
    all_goals
      refine call_some hC rfl (by simp) fun n2 hs3 r2 hn2 hm2 hp2 hr2 => ?_
      obtain ⟨⟨zid, zT, zx⟩, rfl, pz, kz, Gz, hzT⟩ := hp2
      simp only at hzT
      subst hzT
      have hzx : zx = cs.take k := by simpa [plS, map_plI] using pz
      simp at hn2
      have f1 : LenOk 8 (k + 1) := ⟨by omega, by simp only [maxLen]; omega⟩
      have f2 : LenOk 8 (k + 1 + (cs.length - k)) := ⟨by omega, by simp only [maxLen]; omega⟩
      have hmc : min k cs.length = k := by omega
      cases zid with
      | none =>
        have hz0 : zx = [] := Gz.wh.1.nil rfl
        subst hz0
        have hk0 : k = 0 := by have := congrArg List.length hzx; simp at this; omega
        subst hk0
        have g1 : LenOk 8 1 := ⟨by omega, by simp only [maxLen]; omega⟩
        have g2 : LenOk 8 (1 + cs.length) := ⟨by omega, by simp only [maxLen]; omega⟩
        simp [cI, dSl, g1, g2, vendX, s73_3, s73_4, ]
        refine ⟨[54], fun γ hs' h1 hg => ?_⟩
        obtain ⟨q1, q2⟩ := gam_at hg (k := 29) (T := 26) (sz := 1) (es := (w :: l).map (cS cI)) (by simp [cS, dSl])
        obtain ⟨q3, q4⟩ := gam_at hg (k := 60) (T := 3) (sz := 1) (es := (n :: cs).map cI) (by simp [cI])
        have r1 := gam_row hg (k := 29) (T := 26) (sz := 1) (es := (w :: l).map (cS cI)) (by simp [cS, dSl])
        have r2 := gam_row2 hg (k := 60) (T := 3) (sz := 1) (es := (n :: cs).map cI) (k2 := 29) (T2 := 26) (sz2 := 1) (es2 := (w :: l).map (cS cI)) (by simp [cI]) (by simp [cS, dSl])
        have r3 : ∀ g, γ 29 = some g → γ 60 = some g → False := fun g h h' => by
          have := hg.ne 29 60 (.row 26 1 ((w :: l).map (cS cI))) (.row 3 1 ((n :: cs).map cI)) g (by simp [cS, dSl]) (by simp [cI]) h h'
          omega
        clear hg
        have hp1 : hpLL (l.map (cS cI)) = false := hpLL_map (fun a => by simp) _
        have hp2 : hpLL (cs.map cI) = false := hpLL_map (fun a => by simp) _
        have a1 : 1 + l.length = l.length + 1 := Nat.add_comm _ _
        have a2 : 1 + cs.length = cs.length + 1 := Nat.add_comm _ _
        simp [hp1, hp2, a1, a2, List.take_of_length_le]
        refine ⟨⟨ar, ⟨γ 29, some (26, 1), w :: l⟩, ⟨γ 60, some (3, 1), n :: cs⟩⟩, by simp [cS, dSl, cI], ?_, ⟨trivial, ⟨by simp only [maxLen, List.length_cons]; omega, fun r hr => by
          rcases List.mem_cons.1 hr with h | h
          · subst h; exact kw
          · exact hc.2.1.2 r h⟩, ⟨by simp only [maxLen, List.length_cons]; omega, fun _ _ => trivial⟩⟩, ?_⟩
        · have pw' : w.xs = row.xs := by simpa [plS, map_plI] using pw
          simp only [plCnt, insR, insC, hb1, ← hkk, Bool.false_eq_true, if_false, PCnt.mk.injEq]
          refine ⟨rfl, ?_, ?_⟩
          · rw [hL]; simp [plS, map_plI, pw']
          · simp [plS, map_plI]
        · intro B' hB' G hlt
          have := tally_good (k := 0) (T1 := (26, 1)) (T2 := (3, 1)) (cs' := n :: cs) hB' G hlt (by omega) Gw (fun g h => (q1 g h).1) r1 (q2 (by simp)) (fun g h => (q3 g h).1) r2 (q4 (by simp)) r3
          exact this
      | some zg =>
        have hzlo : n2 ≤ zg := Gz.lo zg (by rw [idsL_cS]; exact mem_sl_ids.2 (.inl rfl))
        have hcB : ∀ g ∈ idsL (cCnt ⟨ar, ⟨rid, rT, l⟩, ⟨cid, cT, cs⟩⟩), g < B := fun g hg => hB g (.inr (by rw [Option.getD_some, idsVL_map_d]; exact hg))
        have hlB : ∀ g ∈ (dSl (cS cI) ⟨rid, rT, l⟩).ids, g < B := fun g hg => hcB g (by rw [cCnt, idsL_app, idsL_app, idsL_cS, idsL_cS]; simp [hg])
        have hkB : ∀ g ∈ (dSl cI ⟨cid, cT, cs⟩).ids, g < B := fun g hg => hcB g (by rw [cCnt, idsL_app, idsL_app, idsL_cS, idsL_cS]; simp [hg])
        have kg : ∀ i, i < n2 → kphi (some zg) i = none := fun i hi => by simp only [kphi]; rw [if_neg (by simp; omega)]
        have eC : reV (kphi (some zg)) (.d (.sl cid cT (cs.map cI))) = .d (.sl cid cT (cs.map cI)) := reV_id (.d (dSl cI ⟨cid, cT, cs⟩)) fun g hg => kg g (by have := hkB g hg; omega)
        have eD : ∀ xs : List Int, reV (kphi (some zg)) (.d (.sl cid T0 (xs.map cI))) = .d (.sl cid T0 (xs.map cI)) := fun xs => reV_id (.d (dSl cI ⟨cid, T0, xs⟩)) fun g hg => kg g (by
          have := hkB g (by
            rcases mem_sl_ids.1 hg with h | h
            · exact mem_sl_ids.2 (.inl h)
            · simp at h)
          omega)
        have eR : reLL (kphi (some zg)) ((l.take k).map (cS cI) ++ [D.sl w.id w.T (w.xs.map cI)] :: (l.drop k).map (cS cI)) = some ((l.take k).map (cS cI) ++ [D.sl w.id w.T (w.xs.map cI)] :: (l.drop k).map (cS cI)) := by
          have e : (l.take k).map (cS cI) ++ [D.sl w.id w.T (w.xs.map cI)] :: (l.drop k).map (cS cI) = (l.take k ++ w :: l.drop k).map (cS cI) := by simp [cS, dSl]
          rw [e]
          refine reLL_id _ (ht := tkLL_map _ (by simp)) fun g hg => kg g ?_
          rw [List.map_append, idsLL_append, List.map_cons] at hg
          simp only [idsLL, List.mem_append] at hg
          rcases hg with h | h | h
          · have := hlB g (mem_sl_ids.2 (.inr ((ids_sub (List.take_sublist k l)).subset h))); omega
          · have := hr1 g (by rw [idsL_cS] at h; exact h); omega
          · have := hlB g (mem_sl_ids.2 (.inr ((ids_sub (List.drop_sublist k l)).subset h))); omega
        have f3 : LenOk 8 (zx.length + 1) := ⟨by rw [hzx]; simp; omega, by rw [hzx]; simp only [maxLen, List.length_take]; omega⟩
        have f4 : LenOk 8 (zx.length + 1 + (cs.length - k)) := ⟨by rw [hzx]; simp; omega, by rw [hzx]; simp only [maxLen, List.length_take]; omega⟩
        have hzB : B ≤ zg := by omega
        simp [cI, dSl, hkc, hmc, f1, f2, f3, f4, hzB, St.kill, eC, eD, eR, ← List.map_take, ← List.map_drop, List.take_of_length_le, s73_3, s73_4, ]
        rw [hzx]
        refine ⟨by simp [idsLL, idsL, D.ids], ?_⟩
        simp [vendX]
        refine ⟨[54], fun γ hs' h1 hg => ?_⟩
        obtain ⟨q1, q2⟩ := gam_at hg (k := 29) (T := 26) (sz := 1) (es := (l.take k ++ w :: l.drop k).map (cS cI)) (by simp [cS, dSl])
        obtain ⟨q3, q4⟩ := gam_at hg (k := 60) (T := 3) (sz := 1) (es := (cs.take k ++ n :: cs.drop k).map cI) (by simp [cI])
        have r1 := gam_row hg (k := 29) (T := 26) (sz := 1) (es := (l.take k ++ w :: l.drop k).map (cS cI)) (by simp [cS, dSl])
        have r2 := gam_row2 hg (k := 60) (T := 3) (sz := 1) (es := (cs.take k ++ n :: cs.drop k).map cI) (k2 := 29) (T2 := 26) (sz2 := 1) (es2 := (l.take k ++ w :: l.drop k).map (cS cI)) (by simp [cI]) (by simp [cS, dSl])
        have r3 : ∀ g, γ 29 = some g → γ 60 = some g → False := fun g h h' => by
          have := hg.ne 29 60 (.row 26 1 ((l.take k ++ w :: l.drop k).map (cS cI))) (.row 3 1 ((cs.take k ++ n :: cs.drop k).map cI)) g (by simp [cS, dSl]) (by simp [cI]) h h'
          omega
        clear hg
        have hp1 : ∀ l : List Ints, hpLL (l.map (cS cI)) = false := fun l => hpLL_map (fun a => by simp) _
        have hp2 : ∀ l : List Int, hpLL (l.map cI) = false := fun l => hpLL_map (fun a => by simp) _
        have a1 : k + 1 + (l.length - k) = k + (l.length - k + 1) := by omega
        have a2 : k + 1 + (cs.length - k) = k + (cs.length - k + 1) := by omega
        have p1 : hpLL (List.take k (List.map (cS cI) l)) = false := by rw [← List.map_take]; exact hp1 _
        have p2 : hpLL (List.drop k (List.map (cS cI) l)) = false := by rw [← List.map_drop]; exact hp1 _
        have p3 : hpLL (List.take k (List.map cI cs)) = false := by rw [← List.map_take]; exact hp2 _
        have p4 : hpLL (List.drop k (List.map cI cs)) = false := by rw [← List.map_drop]; exact hp2 _
        simp [p1, p2, p3, p4, hmn, hmc, a1, a2, List.take_of_length_le]
        refine ⟨⟨ar, ⟨γ 29, some (26, 1), l.take k ++ w :: l.drop k⟩, ⟨γ 60, some (3, 1), cs.take k ++ n :: cs.drop k⟩⟩, by simp [cS, dSl, cI], ?_, ⟨trivial, ⟨by simp only [maxLen, List.length_append, List.length_take, List.length_cons, List.length_drop]; omega, fun r hr => by
          rcases List.mem_append.1 hr with h | h
          · exact hc.2.1.2 r (List.mem_of_mem_take h)
          rcases List.mem_cons.1 h with h | h
          · subst h; exact kw
          · exact hc.2.1.2 r (List.mem_of_mem_drop h)⟩, ⟨by simp only [maxLen, List.length_append, List.length_take, List.length_cons, List.length_drop]; omega, fun _ _ => trivial⟩⟩, ?_⟩
        · have pw' : w.xs = row.xs := by simpa [plS, map_plI] using pw
          simp only [plCnt, insR, insC, hb1, ← hkk, Bool.false_eq_true, if_false, PCnt.mk.injEq]
          refine ⟨rfl, ?_, ?_⟩
          · rw [hL]; simp [plS, map_plI, pw']
          · simp [plS, map_plI]
        · intro B' hB' G hlt
          have := tally_good (k := k) (T1 := (26, 1)) (T2 := (3, 1)) (cs' := cs.take k ++ n :: cs.drop k) hB' G hlt (by omega) Gw (fun g h => (q1 g h).1) r1 (q2 (by simp)) (fun g h => (q3 g h).1) r2 (q4 (by simp)) r3
          exact this
  · obtain ⟨hk1, hkx⟩ := placeB_at hb1
    rw [← hkk] at hk1
    have hkc : k < cs.length := by omega
    obtain ⟨g, hg, T', hT⟩ := hw.1.id hkc
    simp only at hg hT
    subst hg hT
    have hvk := hv cs[k] (List.getElem_mem hkc)
    have hw1 : IntKind.i64.wrap (cs[k] + n) = cs[k] + n := wrap64_of (by omega) (by omega)
    simp [hkc, hw1, cI, s73_3, s73_4, ]
    have e2 := re_oneSet (g := g) (T := T') (es := List.map cI cs) (i := k) (e' := [D.int IntKind.i64 (cs[k] + n)]) (fun e he => by
      rw [List.getElem?_map] at he
      simp [hkc] at he
      rw [← he]; rfl)
    have e3 : reV (one g (.sl (some g) (some T') ((List.map cI cs).set k [D.int IntKind.i64 (cs[k] + n)]))) (.d (.sl rid rT (l.map (cS cI)))) = .d (.sl rid rT (l.map (cS cI))) := reV_id (.d (dSl (cS cI) ⟨rid, rT, l⟩)) (fun g' hg' => by
      simp only [one]
      split
      · rename_i h; subst h; exact absurd hg' (hnd2 _ rfl)
      · rfl)
    simp [e2, e3, vendX]
    refine ⟨[21], fun γ hs' h1 h2 => ?_⟩
    simp
    refine ⟨⟨ar, ⟨rid, rT, l⟩, ⟨some g, some T', cs.set k (cs[k] + n)⟩⟩, by simp [List.map_set, cI], ?_, ⟨trivial, hc.2.1, ⟨by have := hc.2.2.1; simpa using this, fun _ _ => trivial⟩⟩, ?_⟩
    · simp only [plCnt, insR, insC, hb1, if_true, ← hkk, getD_el _ hkc, hpl]
      simp [plS, map_plI, plI]
    · intro B' hB' G hlt
      have e : idsL (cCnt ⟨ar, ⟨rid, rT, l⟩, ⟨some g, some T', cs.set k (cs[k] + n)⟩⟩) = idsL (cCnt ⟨ar, ⟨rid, rT, l⟩, ⟨some g, some T', cs⟩⟩) := by
        have hi : ∀ xs : List Int, (dSl cI ⟨some g, some T', xs⟩).ids = [g] := fun xs => by simp [dSl, D.ids]
        simp only [cCnt, idsL_app, idsL_cS, hi]
      have G : Good (cCnt ⟨ar, ⟨rid, rT, l⟩, ⟨some g, some T', cs⟩⟩) (whCnt ⟨ar, ⟨rid, rT, l⟩, ⟨some g, some T', cs⟩⟩) B' := G
      have : Good (cCnt ⟨ar, ⟨rid, rT, l⟩, ⟨some g, some T', cs.set k (cs[k] + n)⟩⟩) (whCnt ⟨ar, ⟨rid, rT, l⟩, ⟨some g, some T', cs.set k (cs[k] + n)⟩⟩) B' :=
        ⟨e ▸ G.nd, e ▸ G.lo, ⟨trivial, G.wh.2.1, ⟨hw.1.of (by simp), fun _ _ => trivial⟩⟩⟩
      exact this

end Go.Proofs.YtdnbigokdclclaaGreat


namespace Go.Proofs.YtdnbigokdclclaaGreat
open Go.Vs Go.Proofs Go
set_option maxRecDepth 100000
set_option maxHeartbeats 1000000

end Go.Proofs.YtdnbigokdclclaaGreat


namespace Go.Proofs.YtdnbigokdclclaaGreat
open Go.Vs Go.Proofs Go
set_option maxRecDepth 100000
set_option maxHeartbeats 1000000

theorem w_impl_columnsFit (ar : Int) (cols : List Int) : VC Tryz.prog 139 [.d (.int .i64 ar), .d (pS cI cols)] (fun _ v => v = .d (.bool (colsOk ar cols))) := by
  refine VC.ofL EP s139 (by kernel_rfl) Tryz.func139 (by rfl) (by kernel_rfl) (by simp [Tryz.f139]) (by simp [Tryz.f139]) s139_ok fun B hl => ?_
  by_cases h5 : cols.length ≤ 5
  case neg => simp [Tryz.f139, colsOk, h5, show (5 : Int) < cols.length by omega]
  simp [Tryz.f139, show ¬ (5 : Int) < cols.length by omega]
  refine loop_rule (X := Nat) (fun i => i ≤ cols.length ∧ AllTo (fun c => inR c 0 (IntKind.i64.wrap (ar - 1))) cols i) (fun i => [(0, .d (.int .i64 ar)), (10, .d (.pl (cols.map cI))), (11, .d (.int .i64 cols.length)), (12, .d (.int .i64 i))])
    (fun _ => []) (fun i => cols.length - i) 0 ⟨by simp, allTo_zero⟩ (by simp) (by simp) ?_
  intro i hs t m hi hh
  by_cases hlt : i < cols.length
  · have hwi := wr1 (i := i) (by omega)
    simp [hlt, cI, ]
    refine call_f (w_impl_within cols[i] 0 (IntKind.i64.wrap (ar - 1))) (by simp) rfl fun hs1 hh1 => ?_
    simp at hh1
    cases hv : inR cols[i] 0 (IntKind.i64.wrap (ar - 1))
    · have hbad := all_bad (p := fun c => inR c 0 (IntKind.i64.wrap (ar - 1))) hlt hv
      simp [colsOk, hbad]
    · simp [hwi]
      exact back (i + 1) ⟨by omega, allTo_step hi.2 hlt hv⟩ (by omega) rfl (by simp <;> omega) (by simp) (by simp)
  have hd := allTo_done hi.2 (by omega)
  simp [hlt, colsOk, hd, h5]
theorem t_impl_pick (row cols : Ints) (hb : cols.xs.length ≤ 4294967296) (hc : ∀ c ∈ cols.xs, 0 ≤ c ∧ c < row.xs.length) : VC Tryz.prog 74 [.d (dSl cI row), .d (dSl cI cols)]
   (fun n r => ∃ y : Ints, r = .d (dSl cI y) ∧ y.xs = pickR cols.xs row.xs ∧ okS okI y ∧ Good (cS cI y) (whS whI y) n) := by
  refine VC.of E s74 (by kernel_rfl) Tryz.func74 (by rfl) (by kernel_rfl) (by simp [Tryz.f74]) (by simp [Tryz.f74]) s74_ok fun B => ?_
  simp [Tryz.f74, dSl]
  refine loop_rule (X := Nat) (fun i => i ≤ cols.xs.length) (fun i => [(0, .d (.sl row.id row.T (row.xs.map cI))), (5, .own 8 0 i), (9, .d (.sl cols.id cols.T (cols.xs.map cI))), (10, .d (.int .i64 cols.xs.length)), (11, .d (.int .i64 i))])
    (fun i => [(8, some (.row 3 1 ((pickR (cols.xs.take i) row.xs).map cI)))]) (fun i => cols.xs.length - i) 0 (by simp) (by simp) (by simp [pickR]) ?_
  intro i hs t m hi hh
  by_cases hlt : i < cols.xs.length
  · have hwi := wr1 (i := i) (by omega)
    have h1 := hc _ (List.getElem_mem hlt)
    have hst := pickR_step hlt hc
    obtain ⟨k, hk⟩ : ∃ k : Nat, cols.xs[i] = (k : Int) := ⟨cols.xs[i].toNat, by omega⟩
    have hkl : k < row.xs.length := by omega
    have hL : LenOk 8 (i + 1) := ⟨by omega, by simp only [maxLen]; omega⟩
    have hpl : (pickR (cols.xs.take i) row.xs).length = i := by rw [pickR_len, List.length_take]; omega
    simp only [hk, Int.toNat_natCast] at hst
    simp [hlt, hk, hkl, hL, hwi, hpl, cI, ]
    exact back (i + 1) (by omega) (by omega) rfl (by simp <;> omega) (by simp) (by simp [hst, cI])
  · have hn : i = cols.xs.length := by omega
    subst hn
    simp [List.take_of_length_le, pickR_len]
    intro γ hs' h2 hg
    obtain ⟨q1, q2⟩ := gam_at hg (k := 8) (T := 3) (sz := 1) (es := (pickR cols.xs row.xs).map cI) (by simp)
    have r1 := gam_row hg (k := 8) (T := 3) (sz := 1) (es := (pickR cols.xs row.xs).map cI) (by simp)
    clear hg
    refine ⟨⟨γ 8, some (3, 1), pickR cols.xs row.xs⟩, by simp [List.take_of_length_le, pickR_len], rfl, ⟨by simp only [maxLen, pickR_len]; omega, fun _ _ => trivial⟩, good_row (fun g hg => (q1 g hg).1) (by simpa using q2) r1 ⟨by simp, by simp⟩ (by simp [whI])⟩

end Go.Proofs.YtdnbigokdclclaaGreat


namespace Go.Proofs.YtdnbigokdclclaaGreat
open Go.Vs Go.Proofs Go
set_option maxRecDepth 100000
set_option maxHeartbeats 1000000

end Go.Proofs.YtdnbigokdclclaaGreat


namespace Go.Proofs.YtdnbigokdclclaaGreat
open Go.Vs Go.Proofs Go
set_option maxRecDepth 100000
set_option maxHeartbeats 1000000

theorem w_spec_l27Sum (ar : Int) (l : List (List Int)) (cs : List Int) (hr : inR ar 0 5 = true) (hm : ∀ x ∈ l, (x.length : Int) = ar ∧ valsOk x = true) (hlc : cs.length = l.length) (hb : l.length ≤ 2000000) (hc : ∀ c ∈ cs, -1000000 ≤ c ∧ c ≤ 1000000) :
   VC Tryz.prog 58 [.d (.int .i64 ar), .d (pS (cP cI) l), .d (pS cI cs)] (fun _ v => v = .tup [.agg ((eCnt (sumP ar l cs)).map .d), .d (.bool (sumB ar l cs))]) := by
  have hx5 : ∀ x ∈ l, x.length ≤ 5 := fun x hx => by
    have h1 := (hm x hx).1
    simp only [inR, Bool.and_eq_true, decide_eq_true_eq] at hr
    omega
  have hnB := newB_of hr hm
  have hRs := srtU_srt l
  have hRl := srtU_len l
  refine VC.ofL EP s58 (by kernel_rfl) Tryz.func58 (by rfl) (by kernel_rfl) (by simp [Tryz.f58]) (by simp [Tryz.f58]) s58_ok fun B hl => ?_
  simp [Tryz.f58, s58_8, s58_9, s58_15, s58_16, s58_8, s58_9, s58_15, s58_16, ]
  refine call_p (w_spec_NewRelation ar l (by omega) (fun x hx => by have := hx5 x hx; omega)) (by simp) fun hs1 hh1 _ => ?_
  simp at hh1
  by_cases h4 : (srtU l).length ≤ 4000
  case neg => simp [newR, hnB, h4, sumP, sumB, eReln, eCnt]
  have hmR : ∀ x, x ∈ l → x ∈ srtU l := fun x hx => (srtU_mem l x).2 hx
  have hRe : newR ar l = ⟨ar, srtU l⟩ := by simp [newR, hnB, h4]
  have hsum : sumsOf l cs = (srtU l).map (lkC l cs) := rfl
  simp [hRe, hnB, h4, eReln]
  obtain ⟨R, hRR⟩ : ∃ R, R = srtU l := ⟨_, rfl⟩
  simp only [← hRR] at hRs hRl h4 hmR hsum ⊢
  have hL0 : LenOk 8 R.length := ⟨by omega, by simp only [maxLen]; omega⟩
  simp [hL0]
  refine loop_rule (X := Nat) (fun i => i ≤ l.length) (fun i => [(0, .d (.int .i64 ar)), (1, .d (.pl (l.map (cP cI)))), (2, .d (.pl (cs.map cI))), (6, .ptr 6 0 0), (8, .ptr 8 0 0), (10, .own 28 0 R.length), (11, .d (.int .i64 i))])
    (fun i => [(6, some (.box [.d (.int .i64 0), .d (.sl none none []), .d (.sl none none [])])), (8, some (.box [.d (.int .i64 ar), .d (.pl (R.map (cP cI)))])), (28, some (.row 3 1 ((sumsTo R l cs i).map cI)))]) (fun i => l.length - i) 0 (by simp) (by simp) (by simp [sumsTo_zero]) ?_
  · intro i hs t m hi hh
    by_cases hlt : i < l.length
    · have hwi := wr1 (i := i) (by omega)
      have hic : i < cs.length := by omega
      obtain ⟨hk, hkx⟩ := placeB_at ((placeB_iff hRs).2 (hmR _ (List.getElem_mem hlt)))
      simp [hlt, cP, s58_8, s58_9, s58_15, s58_16, ]
      refine call_f (w_spec_l5Place ⟨ar, R⟩ l[i] (by simp; omega)) (by simp [eReln]) rfl fun hs1 hh1 => ?_
      simp at hh1
      obtain ⟨k, hkk⟩ : ∃ k, k = placeK R l[i] := ⟨_, rfl⟩
      simp only [← hkk] at hk ⊢
      have hst := sumsTo_step (cs := cs) hRs hlt hic (hmR _ (List.getElem_mem hlt)) hkk hk
      have hbd := sumsTo_bd (l := l) (cs := cs) (i := i) hk hi hc
      have hbc := hc cs[i] (List.getElem_mem hic)
      have hw : IntKind.i64.wrap ((sumsTo R l cs i)[k]'(by simpa using hk) + cs[i]) = (sumsTo R l cs i)[k]'(by simpa using hk) + cs[i] := wrap64_of (by omega) (by omega)
      simp [hk, hic, hw, hwi, s58_8, s58_9, s58_15, s58_16, ]
      exact back (i + 1) (by omega) (by omega) rfl (by simp <;> omega) (by simp) (by simp [← hst, List.map_set, cI])
    · have hn : i = l.length := by omega
      subst hn
      have hall : sumsTo R l cs l.length = sumsOf l cs := hRR ▸ sumsTo_all hlc
      obtain ⟨S, hS⟩ : ∃ S, S = sumsOf l cs := ⟨_, rfl⟩
      have hSl : S.length = R.length := by rw [hS, ← hall, sumsTo_length]
      rw [hall, ← hS]
      simp [s58_8, s58_9, s58_15, s58_16, ]
      refine loop_ruleL (X := Nat) (fun i _ => i ≤ R.length) (fun i => [(6, .ptr 6 0 0), (8, .ptr 8 0 0), (10, .own 28 0 R.length), (14, .ptr 14 0 0), (15, .d (.int .i64 i))])
        (fun i => [(6, some (.box [.d (.int .i64 0), .d (.sl none none []), .d (.sl none none [])])), (8, some (.box [.d (.int .i64 ar), .d (.pl (R.map (cP cI)))])), (14, some (.box [.d (.int .i64 ar), .own 78 0 (sttl (R.take i) (S.take i)).length, .own 87 0 (sttl (R.take i) (S.take i)).length])),
          (28, some (.row 3 1 (S.map cI))), (78, some (.row 26 1 (((sttl (R.take i) (S.take i)).map Prod.fst).map (cP cI)))), (87, some (.row 3 1 (((sttl (R.take i) (S.take i)).map Prod.snd).map cI)))]) (fun i => R.length - i) ?_ ?_
      · refine (lead_box 14 1 78 26 1 [.d (.int .i64 ar), .d (.sl none none []), .d (.sl none none [])] (by omega) (by omega) (by omega) (by simp) rfl).bind ?_
        rintro _ rfl
        refine (lead_box 14 2 87 3 1 [.d (.int .i64 ar), .own 78 0 0, .d (.sl none none [])] (by omega) (by omega) (by omega) (by simp) rfl).bind ?_
        rintro _ rfl
        exact Lead.of ⟨0, by simp, rfl, rfl, Nat.le_refl _, by simp, by simp [sttl]⟩
      · intro i hs2 t2 m2 hi2 hh2
        by_cases hlt2 : i < R.length
        · have hwi := wr1 (i := i) (by omega)
          have hiS : i < S.length := by omega
          have hss := settle_step (rs := R) (cs := S) hlt2 hiS
          have hsl : (sttl (R.take i) (S.take i)).length ≤ i := settle_len hi2
          refine anyQ2 fun Q => ?_
          by_cases h0 : S[i] = 0
          · rw [if_pos h0, List.append_nil] at hss
            simp [hlt2, hiS, h0, hwi, show R.length ≤ S.length by omega, s58_8, s58_9, s58_15, s58_16, ]
            exact back2 (i + 1) (by omega) (by omega) rfl (by simp <;> omega) (by simp [hss]) (by simp [hss])
          · rw [if_neg h0] at hss
            have hLa : LenOk 24 ((sttl (R.take i) (S.take i)).length + 1) := ⟨by omega, by simp only [maxLen]; omega⟩
            have hLb : LenOk 8 ((sttl (R.take i) (S.take i)).length + 1) := ⟨by omega, by simp only [maxLen]; omega⟩
            simp [hlt2, hiS, h0, hwi, hLa, hLb, show R.length ≤ S.length by omega, s58_8, s58_9, s58_15, s58_16, ]
            exact back2 (i + 1) (by omega) (by omega) rfl (by simp <;> omega) (by simp [hss]) (by simp [hss])
        · have hn : i = R.length := by omega
          subst hn
          simp [List.take_of_length_le, hSl, s58_8, s58_9, s58_15, s58_16, ]
          have hsl : (sttl R S).length ≤ R.length := by
            have := settle_len (rs := R) (cs := S) (Nat.le_refl R.length)
            rw [List.take_length, List.take_of_length_le (l := S) (by omega)] at this
            exact this
          have hso : sumOf ar l cs = ⟨ar, (sttl R S).map Prod.fst, (sttl R S).map Prod.snd⟩ := by simp only [sumOf, ← hRR, ← hS]
          refine call_f (w_spec_IsValidCounted (sumOf ar l cs)) (by simp [eCnt, hso, List.take_of_length_le]) rfl fun hs3 hh3 => ?_
          simp at hh3
          cases hv : cntsOk (sumOf ar l cs)
          · simp [sumP, sumB, hv, eCnt]
          · have hB : sumB ar l cs = true := by simp [sumB, hv, ← hRR, h4]
            simp [sumP, hB, hso, eCnt, List.take_of_length_le]

end Go.Proofs.YtdnbigokdclclaaGreat


namespace Go.Proofs.YtdnbigokdclclaaGreat
open Go.Vs Go.Proofs Go
set_option maxRecDepth 100000
set_option maxHeartbeats 1000000

theorem w_spec_AddCounted (a b : PCnt) : VC Tryz.prog 28 [.agg ((eCnt a).map .d), .agg ((eCnt b).map .d)] (fun _ v => v = .tup [.agg ((eCnt (addCP a b)).map .d), .d (.bool (addCB a b))]) := by
  refine VC.ofL EP s28 (by kernel_rfl) Tryz.func28 (by rfl) (by kernel_rfl) (by simp [Tryz.f28]) (by simp [Tryz.f28]) s28_ok fun B hl => ?_
  simp [Tryz.f28, s28_3, eCnt, s28_3, ]
  refine call_f (w_spec_IsValidCounted a) (by simp [eCnt]) rfl fun hs1 hh1 => ?_
  simp at hh1
  cases h1 : cntsOk a
  · simp [addCP, addCB, h1, eCnt]
  simp
  refine call_f (w_spec_IsValidCounted b) (by simp [eCnt]) rfl fun hs2 hh2 => ?_
  simp at hh2
  cases h2 : cntsOk b
  · simp [addCP, addCB, h1, h2, eCnt]
  by_cases har : a.ar = b.ar
  case neg => simp [addCP, addCB, h1, h2, har, eCnt]
  have ra := cntsOk_rows h1
  have rb := cntsOk_rows h2
  have la := rowsOk_len ra
  have lb := rowsOk_len rb
  have ca := cntsOk_len h1
  have cb := cntsOk_len h2
  have e1 : LenOk 24 a.rows.length := ⟨by omega, by simp only [maxLen]; omega⟩
  have e2 : LenOk 24 (a.rows.length + b.rows.length) := ⟨by omega, by simp only [maxLen]; omega⟩
  have e3 : LenOk 8 a.cs.length := ⟨by omega, by simp only [maxLen]; omega⟩
  have e4 : LenOk 8 (a.cs.length + b.cs.length) := ⟨by omega, by simp only [maxLen]; omega⟩
  have hC := w_spec_l27Sum a.ar (a.rows ++ b.rows) (a.cs ++ b.cs) (rowsOk_inR ra) (fun x hx => by
    rcases List.mem_append.1 hx with hx | hx
    · exact rowsOk_mem ra hx
    · rw [har]; exact rowsOk_mem rb hx) (by simp; omega) (by simp; omega) (fun c hc => by
    rcases List.mem_append.1 hc with hc | hc
    · exact cntsOk_cs h1 c hc
    · exact cntsOk_cs h2 c hc)
  simp [har, e1, e2, e3, e4, cP, s28_3, ]
  rw [har] at hC
  repeat' apply And.intro
  all_goals
    refine call_p hC (by simp [List.take_of_length_le]) fun hs3 hh3 _ => ?_
    simp at hh3
    cases hB : sumB b.ar (a.rows ++ b.rows) (a.cs ++ b.cs)
    · simp [addCP, addCB, h1, h2, har, hB, sumP, eCnt]
    · simp [addCP, addCB, h1, h2, har, hB, sumP, eCnt]

end Go.Proofs.YtdnbigokdclclaaGreat


namespace Go.Proofs.YtdnbigokdclclaaGreat
open Go.Vs Go.Proofs Go
set_option maxRecDepth 100000
set_option maxHeartbeats 1000000

theorem w_spec_l5Cols (row cols : List Int) (hb : cols.length ≤ 4294967296) (hc : ∀ c ∈ cols, 0 ≤ c ∧ c < row.length) : VC Tryz.prog 57 [.d (pS cI row), .d (pS cI cols)] (fun _ v => v = .d (pS cI (pickR cols row))) := by
  refine VC.ofL EP s57 (by kernel_rfl) Tryz.func57 (by rfl) (by kernel_rfl) (by simp [Tryz.f57]) (by simp [Tryz.f57]) s57_ok fun B hl => ?_
  simp [Tryz.f57, ]
  refine loop_rule (X := Nat) (fun i => i ≤ cols.length) (fun i => [(0, .d (.pl (row.map cI))), (1, .d (.pl (cols.map cI))), (5, .own 7 0 i), (6, .d (.int .i64 i))])
    (fun i => [(7, some (.row 3 1 ((pickR (cols.take i) row).map cI)))]) (fun i => cols.length - i) 0 (by simp) (by simp) (by simp [pickR]) ?_
  intro i hs t m hi hh
  by_cases hlt : i < cols.length
  · have hwi := wr1 (i := i) (by omega)
    have h1 := hc _ (List.getElem_mem hlt)
    have hst := pickR_step hlt hc
    obtain ⟨k, hk⟩ : ∃ k : Nat, cols[i] = (k : Int) := ⟨cols[i].toNat, by omega⟩
    have hkl : k < row.length := by omega
    have hL : LenOk 8 (i + 1) := ⟨by omega, by simp only [maxLen]; omega⟩
    have hpl : (pickR (cols.take i) row).length = i := by rw [pickR_len, List.length_take]; omega
    simp only [hk, Int.toNat_natCast] at hst
    simp [hlt, hk, hkl, hL, hwi, hpl, cI, ]
    exact back (i + 1) (by omega) (by omega) rfl (by simp <;> omega) (by simp) (by simp [hst, cI])
  · have hn : i = cols.length := by omega
    subst hn
    simp [List.take_of_length_le, pickR_len]
end Go.Proofs.YtdnbigokdclclaaGreat


namespace Go.Proofs.YtdnbigokdclclaaGreat
open Go.Vs Go.Proofs Go
set_option maxRecDepth 100000
set_option maxHeartbeats 1000000

section
attribute [local simp] plI_id plStr_id map_plI map_plStr pS cP cI cStr cU8 cB eReln eTab eDb eHist
end

end Go.Proofs.YtdnbigokdclclaaGreat


namespace Go.Proofs.YtdnbigokdclclaaGreat
open Go.Vs Go.Proofs Go
set_option maxRecDepth 100000
set_option maxHeartbeats 1000000

def cW (n : Int) : List D := [.int .u8 n]
/-! operations of drawn numbers, kept shut -/
def andZ (k : IntKind) (a b : Int) : Int := k.wrap (BitVec.ofInt k.bits a &&& BitVec.ofInt k.bits b).toNat
def xorZ (k : IntKind) (a b : Int) : Int := k.wrap (BitVec.ofInt k.bits a ^^^ BitVec.ofInt k.bits b).toNat
def shrZ (k : IntKind) (a b : Int) : Int := a.fdiv (2 ^ (min b.toNat k.bits))
theorem bD_add (k k' : IntKind) (a b : Int) : binD .add (.d (.int k a)) (.d (.int k' b)) = .int k (k.wrap (a + b)) := id rfl
theorem bD_sub (k k' : IntKind) (a b : Int) : binD .sub (.d (.int k a)) (.d (.int k' b)) = .int k (k.wrap (a - b)) := id rfl
theorem bD_mul (k k' : IntKind) (a b : Int) : binD .mul (.d (.int k a)) (.d (.int k' b)) = .int k (k.wrap (a * b)) := id rfl
theorem bD_rem (k k' : IntKind) (a b : Int) : binD .rem (.d (.int k a)) (.d (.int k' b)) = .int k (a.tmod b) := id rfl
theorem bD_and (k k' : IntKind) (a b : Int) : binD .and (.d (.int k a)) (.d (.int k' b)) = .int k (andZ k a b) := id rfl
theorem bD_xor (k k' : IntKind) (a b : Int) : binD .xor (.d (.int k a)) (.d (.int k' b)) = .int k (xorZ k a b) := id rfl
theorem bD_shr (k k' : IntKind) (a b : Int) : binD .shr (.d (.int k a)) (.d (.int k' b)) = .int k (shrZ k a b) := id rfl
theorem bD_lss (k k' : IntKind) (a b : Int) : binD .lss (.d (.int k a)) (.d (.int k' b)) = .bool (decide (a < b)) := id rfl
theorem bD_leq (k k' : IntKind) (a b : Int) : binD .leq (.d (.int k a)) (.d (.int k' b)) = .bool (decide (a ≤ b)) := id rfl
theorem bD_gtr (k k' : IntKind) (a b : Int) : binD .gtr (.d (.int k a)) (.d (.int k' b)) = .bool (decide (b < a)) := id rfl
theorem bD_eql (k k' : IntKind) (a b : Int) : binD .eql (.d (.int k a)) (.d (.int k' b)) = .bool (a == b) := id rfl
section
attribute [local simp] pS dSl cP cI cW bD_add bD_sub bD_mul bD_rem bD_and bD_xor bD_shr bD_lss bD_leq bD_gtr bD_eql vendX vretX
attribute [-simp] binD
end

end Go.Proofs.YtdnbigokdclclaaGreat


namespace Go.Proofs.YtdnbigokdclclaaGreat
open Go.Vs Go.Proofs Go
set_option maxRecDepth 100000
set_option maxHeartbeats 1000000

section
attribute [local simp] pS dSl cP cI cW
end

end Go.Proofs.YtdnbigokdclclaaGreat


namespace Go.Proofs.YtdnbigokdclclaaGreat
open Go.Vs Go.Proofs Go
set_option maxRecDepth 100000
set_option maxHeartbeats 1000000

section
attribute [local simp] plI_id plStr_id map_plI map_plStr
end

end Go.Proofs.YtdnbigokdclclaaGreat


namespace Go.Proofs.YtdnbigokdclclaaGreat
open Go.Vs Go.Proofs Go
set_option maxRecDepth 100000
set_option maxHeartbeats 1000000

end Go.Proofs.YtdnbigokdclclaaGreat


namespace Go.Proofs.YtdnbigokdclclaaGreat
open Go.Vs Go.Proofs Go
set_option maxRecDepth 100000
set_option maxHeartbeats 1000000

@[simp] theorem startX4b (a b c d : V) (W : List Nat) (cs : List V) (B : Nat) : St.startX [a, b, c, d] W (some cs) B = ⟨B, B, W, upd (upd (upd (upd (fun _ => .tup []) 3 d) 2 c) 1 b) 0 a, upd (fun _ => none) 1000 (some (.box cs))⟩ := by
  simp only [St.startX, St.mk.injEq, true_and]
  refine ⟨?_, startX_box cs⟩
  funext i; match i with | 0 => rfl | 1 => rfl | 2 => rfl | 3 => rfl | _ + 4 => rfl
section
attribute [local simp] pS dSl cP cI cW
end
end Go.Proofs.YtdnbigokdclclaaGreat


namespace Go.Proofs.YtdnbigokdclclaaGreat
open Go.Vs Go.Proofs Go
set_option maxRecDepth 100000
set_option maxHeartbeats 1000000

section
attribute [local simp] pS dSl cP cI cW
end

end Go.Proofs.YtdnbigokdclclaaGreat


namespace Go.Proofs.YtdnbigokdclclaaGreat
open Go.Vs Go.Proofs Go
set_option maxRecDepth 100000
set_option maxHeartbeats 1000000

section
attribute [local simp] pS dSl cP cI cW
end

end Go.Proofs.YtdnbigokdclclaaGreat


namespace Go.Proofs.YtdnbigokdclclaaGreat
open Go.Vs Go.Proofs Go
set_option maxRecDepth 100000
set_option maxHeartbeats 1000000

section
attribute [local simp] pS dSl cP cI cW
end

end Go.Proofs.YtdnbigokdclclaaGreat


namespace Go.Proofs.YtdnbigokdclclaaGreat
open Go.Vs Go.Proofs Go
set_option maxRecDepth 100000
set_option maxHeartbeats 1000000

section
attribute [local simp] pS dSl cP cI cW
end

end Go.Proofs.YtdnbigokdclclaaGreat


namespace Go.Proofs.YtdnbigokdclclaaGreat
open Go.Vs Go.Proofs Go
set_option maxRecDepth 100000
set_option maxHeartbeats 1000000

section
attribute [local simp] pS dSl cP cI cW
end

end Go.Proofs.YtdnbigokdclclaaGreat


namespace Go.Proofs.YtdnbigokdclclaaGreat
open Go.Vs Go.Proofs Go
set_option maxRecDepth 100000
set_option maxHeartbeats 1000000

section
attribute [local simp] pS dSl cP cI cW
end

end Go.Proofs.YtdnbigokdclclaaGreat


namespace Go.Proofs.YtdnbigokdclclaaGreat
open Go.Vs Go.Proofs Go
set_option maxRecDepth 100000
set_option maxHeartbeats 1000000

section
attribute [local simp] pS cP cI
end

end Go.Proofs.YtdnbigokdclclaaGreat


namespace Go.Proofs.YtdnbigokdclclaaGreat
open Go.Vs Go.Proofs Go
set_option maxRecDepth 100000
set_option maxHeartbeats 1000000

section
attribute [local simp] pS dSl cP cI cW
end

end Go.Proofs.YtdnbigokdclclaaGreat


namespace Go.Proofs.YtdnbigokdclclaaGreat
open Go.Vs Go.Proofs Go
set_option maxRecDepth 100000
set_option maxHeartbeats 1000000

def neg64 (n : Int) : Int := IntKind.i64.wrap (-n)
def negAt (l : List Int) (i : Nat) : List Int := (l.take i).map neg64 ++ l.drop i
@[simp] theorem negAt_zero (l : List Int) : negAt l 0 = l := by simp [negAt]
@[simp] theorem negAt_length (l : List Int) (i : Nat) : (negAt l i).length = l.length := by simp [negAt]; omega
/-- counts turned, as the machine does it -/
def negW (z : PCnt) : PCnt := ⟨z.ar, z.rows, z.cs.map neg64⟩
section
attribute [local simp] plI_id plStr_id map_plI map_plStr
end

end Go.Proofs.YtdnbigokdclclaaGreat


namespace Go.Proofs.YtdnbigokdclclaaGreat
open Go.Vs Go.Proofs Go
set_option maxRecDepth 100000
set_option maxHeartbeats 1000000

section
attribute [local simp] plI_id plStr_id map_plI map_plStr pS cP cI cStr cU8 cB eReln eCnt
end
theorem cnt_bd {z : PCnt} (h : cntsOk z = true) : ∀ n ∈ z.cs, -1000000 ≤ n ∧ n ≤ 1000000 := fun n hn => by
  simp only [cntsOk, Bool.and_eq_true, decide_eq_true_eq, List.all_eq_true] at h
  have := h.2 n hn
  simp only [cntOk, inR, Bool.and_eq_true, Bool.not_eq_true', beq_eq_false_iff_ne, decide_eq_true_eq] at this
  omega
theorem negW_eq {z : PCnt} (h : cntsOk z = true) : negW z = negP z := by
  have hb := cnt_bd h
  have : z.cs.map neg64 = z.cs.map fun n => -n := List.map_congr_left fun n hn => by
    have := hb n hn
    exact wrap64_of (by omega) (by omega)
  simp only [negW, negP, this]
end Go.Proofs.YtdnbigokdclclaaGreat


namespace Go.Proofs.YtdnbigokdclclaaGreat
open Go.Vs Go.Proofs Go
set_option maxRecDepth 100000
set_option maxHeartbeats 1000000

theorem erI (l : List Int) : erLL (l.map cI) = l.map cI := by
  have := erLL_map er_cI l
  simpa [plI_id, map_plI] using this
@[simp] theorem start5 (a b c d e : V) (B : Nat) : St.start [a, b, c, d, e] B = ⟨B, B, [], upd (upd (upd (upd (upd (fun _ => .tup []) 4 e) 3 d) 2 c) 1 b) 0 a, fun _ => none⟩ := by
  simp only [St.start, St.mk.injEq, true_and, and_true]
  funext i; match i with | 0 => rfl | 1 => rfl | 2 => rfl | 3 => rfl | 4 => rfl | _ + 5 => rfl
section
attribute [local simp] plI_id plStr_id map_plI map_plStr pS cP cI
theorem e_copyIntsT (l : List Int) (hb : l.length ≤ 4294967296) :
   VC Tryz.prog 138 [.d (pS cI l)] (fun n r => ∃ g : Option Nat, r = .d (.sl g (some (3, 1)) (l.map cI)) ∧ (l = [] → True) ∧ (∀ k, g = some k → n ≤ k) ∧ (g = none → l = [])) := by
  refine VC.of E s138 (by kernel_rfl) Tryz.func138 (by rfl) (by kernel_rfl) (by simp [Tryz.f138]) (by simp [Tryz.f138]) s138_ok fun B => ?_
  have hL : LenOk 8 l.length := ⟨by omega, by simp only [maxLen]; omega⟩
  have hp : hpLL (l.map cI) = false := hpLL_mapI l
  simp [Tryz.f138, hL, hp, List.take_of_length_le]
  intro γ hs' h1 hg
  obtain ⟨q1, q2⟩ := gam_at hg (k := 3) (T := 3) (sz := 1) (es := l.map cI) (by simp)
  clear hg
  refine ⟨fun k hk => (q1 k hk).1, fun h => ?_⟩
  exact Classical.byContradiction fun hl => q2 (by simpa using hl) h
def avI (vs : List Int) (i : Nat) : List Int := (rangeI i).filter fun v => vs.contains v
theorem avI_zero (vs : List Int) : avI vs 0 = [] := rfl
theorem w_impl_AtomVariables (a : PAtom) : VC Tryz.prog 70 [.agg ((eAtom a).map V.d)] (fun _ r => r = .d (pS cI (aVars a.vars))) := by
  obtain ⟨nm, vs⟩ := a
  refine VC.ofL EP s70 (by kernel_rfl) Tryz.func70 (by rfl) (by kernel_rfl) (by simp [Tryz.f70]) (by simp [Tryz.f70]) s70_ok fun B hl => ?_
  simp [Tryz.f70, eAtom, cStr]
  refine loop_ruleL (X := Nat) (fun i _ => i ≤ 5) (fun i => [(1, .ptr 1 0 0), (3, .own 15 0 (avI vs i).length), (4, .d (.int .i64 i))]) (fun i => [(1, some (.box [.d (.str nm), .d (.pl (vs.map cI))])), (15, some (.row 3 1 ((avI vs i).map cI)))]) (fun i => 5 - i) ?_ ?_
  · refine (lead_slot 3 15 3 1 (by omega) (by omega) (by simp)).bind ?_
    rintro _ rfl
    exact Lead.of ⟨0, by omega, rfl, rfl, Nat.le_refl _, by simp [avI_zero], by simp [avI_zero]⟩
  intro i hs t m hi hh
  by_cases hlt : i < 5
  · have hwi := wr1 (i := i) (by omega)
    have hlz : (i : Int) < 5 := by omega
    have hlen : (avI vs i).length ≤ i := by
      have := List.length_filter_le (fun v => vs.contains v) (rangeI i)
      rw [rangeI_len] at this
      exact this
    have hL : LenOk 8 ((avI vs i).length + 1) := ⟨by omega, by simp only [maxLen]; omega⟩
    have hs' : avI vs (i + 1) = avI vs i ++ if vs.contains (i : Int) then [(i : Int)] else [] := by
      rw [avI, avI, rangeI_succ, List.filter_append]
      cases h : vs.contains (i : Int) <;> simp only [List.filter_cons, List.filter_nil, h] <;> rfl
    obtain ⟨L, hLd⟩ : ∃ L, L = avI vs i := ⟨_, rfl⟩
    rw [← hLd] at hL hs' hlen ⊢
    refine anyQ2 fun Q => ?_
    simp [hlz, ]
    refine call_f (w_impl_ContainsVariable ⟨nm, vs⟩ i) (by simp [eAtom, cStr]) rfl fun hs1 hh1 => ?_
    simp at hh1
    cases hc : vs.contains (i : Int)
    · rw [hc] at hs'
      simp only [Bool.false_eq_true, if_false, List.append_nil] at hs'
      simp [hwi, ]
      refine back2 (i + 1) (by omega) (by omega) rfl (by simp <;> omega) ?_ ?_
      · rw [hs']; simp
      · rw [hs']; simp
    · rw [hc] at hs'
      simp only [if_true] at hs'
      simp [hwi, hL, List.take_of_length_le, ]
      refine back2 (i + 1) (by omega) (by omega) rfl (by simp <;> omega) ?_ ?_
      · rw [hs']; simp
      · rw [hs']; simp
  · have hn : i = 5 := by omega
    subst hn
    have e : avI vs 5 = aVars vs := rfl
    rw [e]
    simp [List.take_of_length_le, ]
theorem w_impl_glue (u a r b s : List Int) (hu : u.length ≤ 1000) (hua : ∀ v ∈ u, v ∈ a ∨ v ∈ b) (hr : r.length = a.length) (hs : s.length = b.length) :
   VC Tryz.prog 71 [.d (pS cI u), .d (pS cI a), .d (pS cI r), .d (pS cI b), .d (pS cI s)] (fun _ v => v = .tup [.d (pS cI (if glB u a r b s then glR u a r b s else [])), .d (.bool (glB u a r b s))]) := by
  refine VC.ofL EP s71 (by kernel_rfl) Tryz.func71 (by rfl) (by kernel_rfl) (by simp [Tryz.f71]) (by simp [Tryz.f71]) s71_ok fun B hl => ?_
  simp [Tryz.f71, s71_7]
  refine loop_rule (X := Nat) (fun i => i ≤ u.length ∧ AllTo (glV a r b s) u i) (fun i => [(1, .d (.pl (a.map cI))), (2, .d (.pl (r.map cI))), (3, .d (.pl (b.map cI))), (4, .d (.pl (s.map cI))), (12, .own 17 0 i), (18, .d (.pl (u.map cI))), (19, .d (.int .i64 u.length)), (20, .d (.int .i64 i))]) (fun i => [(17, some (.row 3 1 ((glR (u.take i) a r b s).map cI)))]) (fun i => u.length - i) 0 ⟨by simp, allTo_zero⟩ (by simp) (by simp [glR]) ?_
  rintro i hs0 t m ⟨hi, hal⟩ hh
  by_cases hlt : i < u.length
  · have hwi := wr1 (i := i) (by omega)
    have hL : LenOk 8 (i + 1) := ⟨by omega, by simp only [maxLen]; omega⟩
    have hgl : (glR (u.take i) a r b s).length = i := by simp [glR]; omega
    have hst : glR (u.take (i + 1)) a r b s = glR (u.take i) a r b s ++ [if a.contains u[i] then lookV a r u[i] else lookV b s u[i]] := by
      rw [List.take_succ_eq_append_getElem hlt]; simp only [glR, List.map_append, List.map_cons, List.map_nil]
    obtain ⟨G, hG⟩ : ∃ G, G = glR (u.take i) a r b s := ⟨_, rfl⟩
    rw [← hG] at hst hgl ⊢
    have hm := hua _ (List.getElem_mem hlt)
    obtain ⟨v, hv⟩ : ∃ v, v = u[i] := ⟨_, rfl⟩
    rw [← hv] at hm hst
    have key : ∀ (x y : List Int), y.length = x.length → v ∈ x → ∃ p : Nat, idxL x v = p ∧ ∃ h : p < y.length, lookV x y v = y[p] := fun x y hl hx => by
      have h1 := (idxL_mem hx).1
      have h0 : 0 ≤ idxL x v := by rw [idxL, if_pos hx]; omega
      exact ⟨(idxL x v).toNat, (Int.toNat_of_nonneg h0).symm, by omega, by rw [lookV, getD_el _ (by omega)]⟩
    have kno : ∀ x : List Int, v ∉ x → idxL x v = -1 := fun x hx => by rw [idxL, if_neg hx]
    simp [hlt, ← hv, s71_7, ]
    refine call_f (w_impl_indexOf a v) (by simp) rfl fun hs1 hh1 => ?_
    simp at hh1
    simp [s71_7, ]
    refine call_f (w_impl_indexOf b v) (by simp) rfl fun hs2 hh2 => ?_
    simp at hh2
    by_cases hva : v ∈ a
    · obtain ⟨p, hpa, hp, hpr⟩ := key a r hr hva
      have hca : a.contains v = true := List.contains_iff_mem.2 hva
      rw [hca, if_pos rfl, hpr] at hst
      by_cases hvb : v ∈ b
      · obtain ⟨q, hqb, hq, hqr⟩ := key b s hs hvb
        have hcb : b.contains v = true := List.contains_iff_mem.2 hvb
        have hgv : glV a r b s v = decide (r[p] = s[q]) := by rw [glV, hca, hcb, hpr, hqr]; simp
        by_cases he : r[p] = s[q]
        · simp [hpa, hqb, hp, hq, he, hwi, hL, hgl, List.take_of_length_le, s71_7, ]
          exact back (i + 1) ⟨by omega, allTo_step hal hlt (by rw [← hv, hgv]; simp [he])⟩ (by omega) rfl (by simp <;> omega) (by simp) (by simp [hst, he])
        · have hbad := all_bad (p := glV a r b s) hlt (by rw [← hv, hgv]; simp [he])
          have hg : glB u a r b s = false := hbad
          simp [hpa, hqb, hp, hq, he, hg, s71_7, ]
      · have hqb := kno b hvb
        have hcb : b.contains v = false := by simpa using hvb
        have hgv : glV a r b s v = true := by rw [glV, hcb]; simp
        simp [hpa, hqb, hp, hwi, hL, hgl, List.take_of_length_le, s71_7, ]
        exact back (i + 1) ⟨by omega, allTo_step hal hlt (by rw [← hv, hgv])⟩ (by omega) rfl (by simp <;> omega) (by simp) (by simp [hst])
    · have hpa := kno a hva
      have hca : a.contains v = false := by simpa using hva
      have hvb := hm.resolve_left hva
      obtain ⟨q, hqb, hq, hqr⟩ := key b s hs hvb
      rw [hca, hqr] at hst
      simp only [Bool.false_eq_true, if_false] at hst
      have hgv : glV a r b s v = true := by rw [glV, hca]; simp
      simp [hpa, hqb, hq, hwi, hL, hgl, List.take_of_length_le, s71_7, ]
      exact back (i + 1) ⟨by omega, allTo_step hal hlt (by rw [← hv, hgv])⟩ (by omega) rfl (by simp <;> omega) (by simp) (by simp [hst])
  · have hd := allTo_done hal (by omega)
    have hg : glB u a r b s = true := hd
    have hn : i = u.length := by omega
    subst hn
    simp [hg, List.take_of_length_le, glR, s71_7, ]
end
section
attribute [local simp] plI_id plStr_id map_plI map_plStr pS cP cI dSl
theorem uniL_snoc {a b : List Int} {i : Nat} (h : i < b.length) : uniL a (b.take (i + 1)) = insI (uniL a (b.take i)) b[i] := by
  rw [List.take_succ_eq_append_getElem h, uniL, List.foldl_append]; rfl
theorem insI_len (l : List Int) (n : Int) : (insI l n).length ≤ l.length + 1 := by
  rw [insI]
  split
  · omega
  · simp only [List.length_append, List.length_take, List.length_cons, List.length_drop]; omega
theorem uniL_len (a : List Int) : ∀ (b : List Int), (uniL a b).length ≤ a.length + b.length := by
  intro b
  induction b generalizing a with
  | nil => simp [uniL]
  | cons x r ih =>
    have h1 := ih (insI a x)
    have h2 := insI_len a x
    have : uniL a (x :: r) = uniL (insI a x) r := rfl
    rw [this, List.length_cons]; omega
theorem t_impl_unite (a b : Ints) (hl : a.xs.length + b.xs.length ≤ 1000) : VC Tryz.prog 69 [.d (dSl cI a), .d (dSl cI b)] (fun _ r => ∃ y : Ints, r = .d (dSl cI y) ∧ y.xs = uniL a.xs b.xs) := by
  refine VC.ofB E s69 (by kernel_rfl) Tryz.func69 (by rfl) (by kernel_rfl) (by simp [Tryz.f69]) (by simp [Tryz.f69]) s69_ok fun B hB => ?_
  obtain ⟨aid, aT, al⟩ := a
  obtain ⟨bid, bT, bl⟩ := b
  simp only at hl
  have hbB : ∀ g, bid = some g → g < B := fun g h => hB g (by simp [idsVL, V.ids, D.ids, h])
  simp [Tryz.f69, s69_9]
  refine call_some ((e_copyIntsT al (by omega)).er (As := [.d (dSl cI ⟨aid, aT, al⟩)]) (by simp [erI])) (by simp) (by simp) fun n1 hs1 r1 hn1 hm1 hp1 hr1 => ?_
  obtain ⟨g1, rfl, _, hg1, hg1n⟩ := hp1
  have hi1 : ∀ k, g1 = some k → k < hs1 := fun k hk => hr1 k (by simp [V.ids, D.ids, hk])
  simp at hn1
  simp [s69_9, ]
  refine loop_ruleL (X := Nat × Option Nat) (fun p h => p.1 ≤ bl.length ∧ (∀ g, p.2 = some g → B ≤ g ∧ g < h) ∧ (p.2 = none → uniL al (bl.take p.1) = [])) (fun p => [(5, .d (.sl p.2 (some (3, 1)) ((uniL al (bl.take p.1)).map cI))), (11, .d (.sl bid bT (bl.map cI))), (12, .d (.int .i64 bl.length)), (13, .d (.int .i64 p.1))]) (fun _ => []) (fun p => bl.length - p.1) ?_ ?_
  · exact Lead.of ⟨(0, g1), ⟨by simp, fun g hg => ⟨by have := hg1 g hg; omega, hi1 g hg⟩, fun h => by simpa [uniL] using hg1n h⟩, rfl, rfl, Nat.le_refl _, by simp [uniL], by simp⟩
  rintro ⟨i, id⟩ hs t m ⟨hi, hid, hnone⟩ hh
  simp only at hi hid hnone
  by_cases hlt : i < bl.length
  · have hwi := wr1 (i := i) (by omega)
    have hst := uniL_snoc (a := al) hlt
    have hul := uniL_len al (bl.take i)
    rw [List.length_take] at hul
    obtain ⟨l, hld⟩ : ∃ l, l = uniL al (bl.take i) := ⟨_, rfl⟩
    obtain ⟨n, hn⟩ : ∃ n, n = bl[i] := ⟨_, rfl⟩
    rw [← hld, ← hn] at hst
    rw [← hld] at hul hnone ⊢
    refine anyQ2 fun Q => ?_
    simp [hlt, ← hn, s69_9, ]
    refine loop_rule (X := Nat) (fun k => k ≤ l.length ∧ AllTo (fun x => decide (x < n)) l k) (fun k => [(5, .d (.sl id (some (3, 1)) (l.map cI))), (7, .d (.int .i64 n)), (8, .d (.int .i64 k)), (11, .d (.sl bid bT (bl.map cI))), (12, .d (.int .i64 bl.length)), (13, .d (.int .i64 i))]) (fun _ => []) (fun k => l.length - k) 0 ⟨by simp, allTo_zero⟩ (by simp) (by simp) ?_
    rintro k hs2 t2 m2 ⟨hk, hal⟩ hh2
    by_cases hkl : k < l.length
    · by_cases hless : l[k] < n
      · have hwk := wr1 (i := k) (by omega)
        refine anyQ fun Q => ?_
        simp [hkl, hless, hwk, s69_9, ]
        exact back (k + 1) ⟨by omega, allTo_step hal hkl (by simp [hless])⟩ (by omega) rfl (by simp <;> omega) (by simp) (by simp)
      have hK : (l.takeWhile fun x => decide (x < n)).length = k := takeWhile_at hal hk fun h => by simp [hless]
      by_cases heq : l[k] = n
      · have hins : insI l n = l := by rw [insI, hK, getD_el _ hkl, if_pos heq]
        simp [hkl, hless, heq, hwi, show ¬ (k : Int) = l.length by omega, s69_9, ]
        refine back2 (i + 1, id) ⟨by simp only; omega, fun g hg => ?_, fun h => ?_⟩ (by simp only; omega) rfl (by simp <;> omega) (by simp [hst, hins]) (by simp)
        · have := hid g hg; exact ⟨this.1, by simp; omega⟩
        · rw [hst, hins]; exact hnone h
      · have hins : insI l n = l.take k ++ n :: l.drop k := by rw [insI, hK, getD_el _ hkl, if_neg heq]
        simp [hkl, hless, heq, hwi, show ¬ (k : Int) = l.length by omega, show k ≤ l.length by omega, s69_9, ]
        have hki : k ≤ l.length := hk
        have L1 : LenOk 8 (k + 1) := ⟨by omega, by simp only [maxLen]; omega⟩
        have L1' : LenOk 8 1 := ⟨by omega, by simp only [maxLen]; omega⟩
        have L2 : LenOk 8 (k + 1 + (l.length - k)) := ⟨by omega, by simp only [maxLen]; omega⟩
        have L2' : LenOk 8 (1 + l.length) := ⟨by omega, by simp only [maxLen]; omega⟩
        have hmn : min k l.length = k := by omega
        have hpl : ∀ L : List Int, hpLL (L.map cI) = false := fun L => hpLL_mapI L
        repeat' apply And.intro
        all_goals
          refine call_some ((e_copyIntsT (l.take k) (by simp; omega)).er (by simp only [← List.map_take]; simp [-List.map_take, erI])) (by simp) (by simp) fun n2 hs3 r2 hn2 hm2 hp2 hr2 => ?_
          obtain ⟨g2, rfl, _, hg2, hg2n⟩ := hp2
          have hn2' : hs2 ≤ n2 := hn2
          have hins2 : l.take k ++ n :: l.drop k = insI l n := hins.symm
          cases g2 with
          | none =>
            have hk0 : k = 0 := by
              have := congrArg List.length (hg2n rfl)
              simp only [List.length_take, List.length_nil] at this
              by_cases h : l.length = 0
              · omega
              · omega
            subst hk0
            have hins3 : insI l n = n :: l := by simpa using hins
            simp [L1', L2', hwi, List.take_of_length_le, s69_9, ]
            refine Back2.lead (lead_frz 49 (T := 3) (sz := 1) (es := (n :: l).map cI) (by simp)) ?_
            rintro _ ⟨γ, hs', h2, hg, rfl⟩
            obtain ⟨q1, q2⟩ := gam_at hg (k := 49) (T := 3) (sz := 1) (es := (n :: l).map cI) (by simp)
            clear hg
            simp only at h2 q1
            have hp0 := hpl (n :: l)
            have hp1 := hpl l
            refine back2 (i + 1, γ 49) ⟨by simp only; omega, fun g hg => ?_, fun h => absurd h (q2 (by simp))⟩ (by simp only; omega) rfl (by simp <;> omega) (by simp [hst, hins3, hp0, hp1, Vs.frz, St.frz, Nat.add_comm 1, List.take_of_length_le]) (by simp)
            exact ⟨(q1 g hg).1, by simpa using (q1 g hg).2⟩
          | some g =>
            have hgn := hg2 g rfl
            have kg : ∀ j, j < n2 → kphi (some g) j = none := fun j hj => by simp only [kphi]; rw [if_neg (by simp; omega)]
            have e5 : reV (kphi (some g)) (.d (.sl id (some (3, 1)) (l.map cI))) = .d (.sl id (some (3, 1)) (l.map cI)) := reV_id (.d (dSl cI ⟨id, some (3, 1), l⟩)) fun j hj => kg j (by
              rcases mem_sl_ids.1 hj with h | h
              · have := (hid j h).2; omega
              · simp at h)
            have eD : ∀ (T0 : Option (TypeId × Nat)) (L : List Int), reV (kphi (some g)) (.d (.sl id T0 (L.map cI))) = .d (.sl id T0 (L.map cI)) := fun T0 L => reV_id (.d (dSl cI ⟨id, T0, L⟩)) fun j hj => kg j (by
              rcases mem_sl_ids.1 hj with h | h
              · have := (hid j h).2; omega
              · simp at h)
            have e11 : reV (kphi (some g)) (.d (.sl bid bT (bl.map cI))) = .d (.sl bid bT (bl.map cI)) := reV_id (.d (dSl cI ⟨bid, bT, bl⟩)) fun j hj => kg j (by
              rcases mem_sl_ids.1 hj with h | h
              · have := hbB j h; omega
              · simp at h)
            have hgB : B ≤ g := by omega
            have hids : ∀ L : List Int, g ∉ idsLL (L.map cI) := fun L => by simp
            simp [hgB, L1, L2, hmn, hwi, St.kill, e5, e11, eD, ← List.map_take, ← List.map_drop, List.take_of_length_le, s69_9, ]
            refine ⟨by simp [idsLL, idsL, D.ids], ?_⟩
            have a1 : k + 1 + (l.length - k) = l.length + 1 := by omega
            have hil : (insI l n).length = l.length + 1 := by rw [hins]; simp; omega
            refine Back2.lead (lead_frz 49 (T := 3) (sz := 1) (es := (insI l n).map cI) (by rw [hins]; simp [List.map_take, List.map_drop])) ?_
            rintro _ ⟨γ, hs', h2, hg, rfl⟩
            obtain ⟨q1, q2⟩ := gam_at hg (k := 49) (T := 3) (sz := 1) (es := (insI l n).map cI) (by rw [hins]; simp [List.map_take, List.map_drop])
            clear hg
            simp only at h2 q1
            have hp0 := hpl (insI l n)
            refine back2 (i + 1, γ 49) ⟨by simp only; omega, fun g hg => ?_, fun h => absurd h (q2 (by rw [hins]; simp))⟩ (by simp only; omega) rfl (by simp <;> omega) ?_ (by simp)
            · exact ⟨(q1 g hg).1, by simpa using (q1 g hg).2⟩
            · simp [hst, hp0, hil, a1, Vs.frz, St.frz, List.take_of_length_le]
    · have hkn : k = l.length := by omega
      subst hkn
      have hK : (l.takeWhile fun x => decide (x < n)).length = l.length := takeWhile_at hal hk fun h => absurd h hkl
      have hins : insI l n = l ++ [n] := by
        have h0 : l.getD l.length (n + 1) ≠ n := by simp [List.getD]; omega
        rw [insI, hK, if_neg h0]; simp
      simp [hwi, s69_9, ]
      have L1 : LenOk 8 (l.length + 1) := ⟨by omega, by simp only [maxLen]; omega⟩
      have L1' : LenOk 8 1 := ⟨by omega, by simp only [maxLen]; omega⟩
      have hpl : ∀ L : List Int, hpLL (L.map cI) = false := fun L => hpLL_mapI L
      repeat' apply And.intro
      all_goals
        refine call_some ((e_copyIntsT l (by omega)).er (by simp [erI, List.take_of_length_le])) (by simp) (by simp) fun n2 hs3 r2 hn2 hm2 hp2 hr2 => ?_
        obtain ⟨g2, rfl, _, hg2, hg2n⟩ := hp2
        have hn2' : hs2 ≤ n2 := hn2
        cases g2 with
        | none =>
          have hl0 : l = [] := hg2n rfl
          subst hl0
          have hins3 : insI [] n = [n] := by simpa using hins
          simp [L1', hwi, List.take_of_length_le, s69_9, ]
          refine Back2.lead (lead_frz 49 (T := 3) (sz := 1) (es := [n].map cI) (by simp)) ?_
          rintro _ ⟨γ, hs', h2, hg, rfl⟩
          obtain ⟨q1, q2⟩ := gam_at hg (k := 49) (T := 3) (sz := 1) (es := [n].map cI) (by simp)
          clear hg
          simp only at h2 q1
          have hp0 := hpl [n]
          refine back2 (i + 1, γ 49) ⟨by simp only; omega, fun g hg => ?_, fun h => absurd h (q2 (by simp))⟩ (by simp only; omega) rfl (by simp <;> omega) (by simp [hst, hins3, hp0, Vs.frz, St.frz, List.take_of_length_le]) (by simp)
          exact ⟨(q1 g hg).1, by simpa using (q1 g hg).2⟩
        | some g =>
          have hgn := hg2 g rfl
          have kg : ∀ j, j < n2 → kphi (some g) j = none := fun j hj => by simp only [kphi]; rw [if_neg (by simp; omega)]
          have eD : ∀ (T0 : Option (TypeId × Nat)) (L : List Int), reV (kphi (some g)) (.d (.sl id T0 (L.map cI))) = .d (.sl id T0 (L.map cI)) := fun T0 L => reV_id (.d (dSl cI ⟨id, T0, L⟩)) fun j hj => kg j (by
            rcases mem_sl_ids.1 hj with h | h
            · have := (hid j h).2; omega
            · simp at h)
          have e11 : reV (kphi (some g)) (.d (.sl bid bT (bl.map cI))) = .d (.sl bid bT (bl.map cI)) := reV_id (.d (dSl cI ⟨bid, bT, bl⟩)) fun j hj => kg j (by
            rcases mem_sl_ids.1 hj with h | h
            · have := hbB j h; omega
            · simp at h)
          have eD0 : ∀ (T0 : Option (TypeId × Nat)), reV (kphi (some g)) (.d (.sl id T0 [])) = .d (.sl id T0 []) := fun T0 => eD T0 []
          have hgB : B ≤ g := by omega
          simp [hgB, L1, hwi, St.kill, eD, eD0, e11, List.take_of_length_le, s69_9, ]
          refine ⟨by simp [idsLL, idsL, D.ids], ?_⟩
          refine Back2.lead (lead_frz 49 (T := 3) (sz := 1) (es := (insI l n).map cI) (by rw [hins]; simp)) ?_
          rintro _ ⟨γ, hs', h2, hg, rfl⟩
          obtain ⟨q1, q2⟩ := gam_at hg (k := 49) (T := 3) (sz := 1) (es := (insI l n).map cI) (by rw [hins]; simp)
          clear hg
          simp only at h2 q1
          have hp0 := hpl (insI l n)
          have hil : (insI l n).length = l.length + 1 := by rw [hins]; simp
          refine back2 (i + 1, γ 49) ⟨by simp only; omega, fun g hg => ?_, fun h => absurd h (q2 (by rw [hins]; simp))⟩ (by simp only; omega) rfl (by simp <;> omega) ?_ (by simp)
          · exact ⟨(q1 g hg).1, by simpa using (q1 g hg).2⟩
          · simp [hst, hp0, hil, Vs.frz, St.frz, List.take_of_length_le]
  · have hn : i = bl.length := by omega
    subst hn
    simp [hlt, List.take_of_length_le, s69_9, ]
    exact ⟨⟨id, some (3, 1), uniL al bl⟩, ⟨rfl, rfl, rfl⟩, rfl⟩
end

end Go.Proofs.YtdnbigokdclclaaGreat


namespace Go.Proofs.YtdnbigokdclclaaGreat
open Go.Vs Go.Proofs Go
set_option maxRecDepth 100000
set_option maxHeartbeats 1000000

section
attribute [local simp] plI_id plStr_id map_plI map_plStr pS cP cI
theorem p_impl_pick (row cols : List Int) (hb : cols.length ≤ 4294967296) (hc : ∀ c ∈ cols, 0 ≤ c ∧ c < row.length) : VC Tryz.prog 74 [.d (pS cI row), .d (pS cI cols)] (fun _ r => r = .d (pS cI (pickR cols row))) := by
  refine VC.ofL EP s74 (by kernel_rfl) Tryz.func74 (by rfl) (by kernel_rfl) (by simp [Tryz.f74]) (by simp [Tryz.f74]) s74_ok fun B hl => ?_
  simp [Tryz.f74]
  refine loop_rule (X := Nat) (fun i => i ≤ cols.length) (fun i => [(0, .d (.pl (row.map cI))), (5, .own 8 0 i), (9, .d (.pl (cols.map cI))), (10, .d (.int .i64 cols.length)), (11, .d (.int .i64 i))])
    (fun i => [(8, some (.row 3 1 ((pickR (cols.take i) row).map cI)))]) (fun i => cols.length - i) 0 (by simp) (by simp) (by simp [pickR]) ?_
  intro i hs t m hi hh
  by_cases hlt : i < cols.length
  · have hwi := wr1 (i := i) (by omega)
    have h1 := hc _ (List.getElem_mem hlt)
    have hst := pickR_step hlt hc
    obtain ⟨k, hk⟩ : ∃ k : Nat, cols[i] = (k : Int) := ⟨cols[i].toNat, by omega⟩
    have hkl : k < row.length := by omega
    have hL : LenOk 8 (i + 1) := ⟨by omega, by simp only [maxLen]; omega⟩
    have hpl : (pickR (cols.take i) row).length = i := by rw [pickR_len, List.length_take]; omega
    simp only [hk, Int.toNat_natCast] at hst
    simp [hlt, hk, hkl, hL, hwi, hpl, ]
    exact back (i + 1) (by omega) (by omega) rfl (by simp <;> omega) (by simp) (by simp [hst])
  · have hn : i = cols.length := by omega
    subst hn
    simp [List.take_of_length_le, pickR_len]
theorem w_impl_sorted (l : List (List Int)) (h1 : l.length ≤ 4294967296) (h2 : ∀ r ∈ l, r.length ≤ 4294967296) : VC Tryz.prog 141 [.d (pS (cP cI) l)] (fun _ r => r = .d (pS (cP cI) (srtU l))) :=
  VC.plain (e_impl_sorted _ l (Nat.le_refl _) h1 h2) (fun n r h => by
    obtain ⟨y, rfl, hp, _, _⟩ := h
    have e := er_cS (c := cS cI) (e := cP cI) (pl := plS plI) (fun s => er_cS er_cI s) y
    rw [hp] at e
    simp only [cS, cP, erL, List.cons.injEq, and_true] at e
    simp only [rp, e, pS]) (by rw [pS]; rfl)
theorem w_impl_AtomBindings (d : PDb) (a : PAtom) (hlk : lkB d a.rel = true) (har : (lkR d a.rel).ar = a.vars.length) (hv5 : a.vars.length ≤ 5) (hv : ∀ v ∈ a.vars, 0 ≤ v ∧ v < 5) :
   VC Tryz.prog 67 [.agg ((eDb d).map V.d), .agg ((eAtom a).map V.d)] (fun _ r => r = .agg ((eReln ⟨(aVars a.vars).length, abR d a⟩).map V.d)) := by
  have hr := lk_ok hlk
  have hr16 := lk_rows hlk
  obtain ⟨dl, hdl⟩ : ∃ dl, dl = d.tabs := ⟨_, rfl⟩
  have hde : (eDb d).map V.d = [V.d (.pl (dl.map eTab))] := by rw [hdl]; simp [eDb]
  obtain ⟨nm, vs⟩ := a
  simp only at hlk har hv5 hv hr hr16
  have hav : (aVars vs).length ≤ 5 := by
    have := List.length_filter_le (fun v => vs.contains v) (rangeI 5)
    rw [rangeI_len] at this
    exact this
  have hAVm : ∀ c ∈ aVars vs, 0 ≤ c ∧ c < ((5 : Nat) : Int) := fun c hc => by
    have := (List.mem_filter.1 hc).1
    have := rangeI_mem.1 this
    omega
  have hrl := fun (t : List Int) (ht : t ∈ (lkR d nm).rows) => (rowsOk_mem hr ht).1
  refine VC.ofL EP s67 (by kernel_rfl) Tryz.func67 (by rfl) (by kernel_rfl) (by simp [Tryz.f67]) (by simp [Tryz.f67]) s67_ok fun B hl => ?_
  simp [Tryz.f67, s67_16, eAtom, cStr, hde]
  refine call_p (w_impl_AtomVariables ⟨nm, vs⟩) (by simp [eAtom, cStr]) fun hs1 hh1 hl1 => ?_
  simp at hh1
  obtain ⟨AV, hAV⟩ : ∃ AV, AV = aVars vs := ⟨_, rfl⟩
  rw [← hAV] at hl1 hav hAVm ⊢
  simp [s67_16, ]
  refine call_p (w_impl_LookupRelation d nm) (by simp [hde]) fun hs2 hh2 hl2 => ?_
  simp at hh2
  obtain ⟨R, hR⟩ : ∃ R, R = lkR d nm := ⟨_, rfl⟩
  have hab : abR d ⟨nm, vs⟩ = srtU (abL vs R.rows) := by rw [hR]; rfl
  rw [← hR] at hl2 har hr16 hrl ⊢
  rw [hab, hlk]
  obtain ⟨ra, rl⟩ := R
  simp only at har hr16 hrl
  subst har
  have hco : colsOk 5 vs = true := by
    simp only [colsOk, Bool.and_eq_true, decide_eq_true_eq, List.all_eq_true, inR]
    refine ⟨hv5, fun v hm => ?_⟩
    have := hv v hm
    have hw : IntKind.i64.wrap (5 - 1) = 4 := by decide
    rw [hw]; omega
  simp [eReln, s67_16, ]
  refine call_f (w_impl_columnsFit 5 vs) (by simp) rfl fun hs3 hh3 => ?_
  simp at hh3
  rw [hco]
  simp [s67_16, ]
  refine loop_ruleL (X := Nat) (fun i _ => i ≤ rl.length) (fun i => [(3, .ptr 3 0 0), (4, .ptr 4 0 0), (5, .d (.pl (AV.map cI))), (6, .ptr 6 0 0), (9, .own 92 0 (abL vs (rl.take i)).length), (47, .d (.pl (rl.map (cP cI)))), (48, .d (.int .i64 rl.length)), (49, .d (.int .i64 i))])
    (fun i => [(3, some (.box [.d (.str nm), .d (.pl (vs.map cI))])), (4, some (.box [.d (.int .i64 0), .d (.sl none none [])])), (6, some (.box [.d (.int .i64 AV.length), .d (.sl none none [])])), (92, some (.row 26 1 ((abL vs (rl.take i)).map (cP cI))))]) (fun i => rl.length - i) ?_ ?_
  · refine (lead_slot 9 92 26 1 (by omega) (by omega) (by simp)).bind ?_
    rintro _ rfl
    exact Lead.of ⟨0, by omega, rfl, rfl, Nat.le_refl _, by simp [abL], by simp [abL]⟩
  intro i hs t m hi hh
  by_cases hlt : i < rl.length
  · have hwi := wr1 (i := i) (by omega)
    have hst := abL_succ (vs := vs) hlt
    have hal := abL_len vs (rl.take i)
    rw [List.length_take] at hal
    obtain ⟨row, hrow⟩ : ∃ row, row = rl[i] := ⟨_, rfl⟩
    have hrvl : row.length = vs.length := by
      have := hrl _ (List.getElem_mem hlt)
      rw [← hrow] at this; omega
    rw [← hrow] at hst
    obtain ⟨AL, hAL⟩ : ∃ AL, AL = abL vs (rl.take i) := ⟨_, rfl⟩
    rw [← hAL] at hst hal ⊢
    have hL : LenOk 24 (AL.length + 1) := ⟨by omega, by simp only [maxLen]; omega⟩
    have L5 : LenOk 8 5 := ⟨by omega, by simp only [maxLen]; omega⟩
    refine anyQ2 fun Q => ?_
    simp [hlt, ← hrow, L5, s67_16, ]
    refine loop_rule (X := Nat) (fun j => j ≤ vs.length) (fun j => [(3, .ptr 3 0 0), (4, .ptr 4 0 0), (5, .d (.pl (AV.map cI))), (6, .ptr 6 0 0), (9, .own 92 0 AL.length), (11, .d (.pl (row.map cI))), (12, .own 53 0 5), (13, .d (.bool (fitJ vs row j))), (47, .d (.pl (rl.map (cP cI)))), (48, .d (.int .i64 rl.length)), (49, .d (.int .i64 i)), (55, .d (.pl (vs.map cI))), (56, .d (.int .i64 vs.length)), (57, .d (.int .i64 j))])
      (fun j => [(3, some (.box [.d (.str nm), .d (.pl (vs.map cI))])), (4, some (.box [.d (.int .i64 0), .d (.sl none none [])])), (6, some (.box [.d (.int .i64 AV.length), .d (.sl none none [])])), (53, some (.row 3 1 ((valJ vs row j).map cI))), (92, some (.row 26 1 (AL.map (cP cI))))]) (fun j => vs.length - j) 0 (by simp) (by simp [fitJ_zero]) (by simp [valJ_zero]) ?_
    intro j hs4 t m hj hh4
    by_cases hjl : j < vs.length
    · have hwj := wr1 (i := j) (by omega)
      have hjr : j < row.length := by omega
      have hvj := hv _ (List.getElem_mem hjl)
      obtain ⟨v, hve⟩ : ∃ v : Nat, vs[j] = (v : Int) := ⟨vs[j].toNat, by omega⟩
      have hv5' : v < 5 := by omega
      have hix := (idxL_mem (List.getElem_mem hjl)).1
      obtain ⟨p, hp⟩ : ∃ p : Nat, idxL vs (v : Int) = (p : Int) := by
        rw [← hve]
        have := idxL_ge vs vs[j]
        have h2 : vs.contains vs[j] = true := by simp
        rw [h2] at this
        exact ⟨(idxL vs vs[j]).toNat, by have := of_decide_eq_true this; omega⟩
      have hpr : p < row.length := by rw [hve, hp] at hix; omega
      have hf := fitJ_succ vs row j
      have hvs := valJ_succ (vs := vs) (row := row) hjl hjr
      have hvl := valJ_len vs row j
      rw [getD_el _ hjl, getD_el _ hjr, lookV, hve, hp, Int.toNat_natCast, getD_el _ hpr] at hf
      rw [hve, Int.toNat_natCast] at hvs
      simp [hjl, hve, s67_16, ]
      refine call_f (w_impl_indexOf vs v) (by simp) rfl fun hs5 hh5 => ?_
      simp at hh5
      rw [hp]
      cases hfj : fitJ vs row j
      · rw [hfj] at hf
        simp [hwj, hjr, hpr, hv5', hvl, -List.map_set, s67_16, ]
        exact back (j + 1) (by omega) (by omega) rfl (by simp <;> omega) (by simp [hf]) (by rw [hvs]; simp)
      · rw [hfj] at hf
        simp [hwj, hjr, hpr, hv5', hvl, -List.map_set, s67_16, ]
        exact back (j + 1) (by omega) (by omega) rfl (by simp <;> omega) (by simp [hf]) (by rw [hvs]; simp)
    · have hn : j = vs.length := by omega
      subst hn
      have hvl5 := valJ_len vs row vs.length
      rw [valJ_all hrvl] at hvl5
      rw [fitJ_all hrvl, valJ_all hrvl]
      cases hfr : fitR vs row
      · simp [hwi, s67_16, ]
        refine back2 (i + 1) (by omega) (by omega) rfl (by simp <;> omega) ?_ ?_
        · rw [hst, hfr]; simp
        · rw [hst, hfr]; simp
      · simp [hwi, s67_16, ]
        refine call_p (p_impl_pick (valL vs row) AV (by omega) (fun c hc => by rw [hvl5]; exact hAVm c hc)) (by simp [List.take_of_length_le, hvl5]) fun hs5 hh5 hl5 => ?_
        simp at hh5
        simp [hwi, hL, List.take_of_length_le, s67_16, ]
        refine back2 (i + 1) (by omega) (by omega) rfl (by simp <;> omega) ?_ ?_
        · rw [hst, hfr]; simp [hAV]
        · rw [hst, hfr]; simp [hAV]
  · have hn : i = rl.length := by omega
    subst hn
    simp [s67_16, ]
    refine call_p (w_impl_sorted (abL vs rl) (by have := abL_len vs rl; omega) (fun r hr => by have := abL_el r hr; omega)) (by simp [List.take_of_length_le]) fun hs5 hh5 hl5 => ?_
    simp at hh5
    simp [s67_16, ]
end

end Go.Proofs.YtdnbigokdclclaaGreat


namespace Go.Proofs.YtdnbigokdclclaaGreat
open Go.Vs Go.Proofs Go
set_option maxRecDepth 100000
set_option maxHeartbeats 1000000

section
attribute [local simp] plI_id plStr_id map_plI map_plStr pS cP cI
theorem p_impl_unite (a b : List Int) (hl : a.length + b.length ≤ 1000) : VC Tryz.prog 69 [.d (pS cI a), .d (pS cI b)] (fun _ r => r = .d (pS cI (uniL a b))) := by
  refine VC.plain (post := fun _ r => ∃ y : Ints, r = .d (dSl cI y) ∧ y.xs = uniL a b) ?_ (fun n r h => ?_) (by rw [pS]; rfl)
  · refine VC.untrack (t_impl_unite ⟨none, none, []⟩ ⟨none, none, []⟩ (by simp)) (by simp [pnVL, V.pn, D.pn]) fun As h1 h2 h3 => ?_
    obtain ⟨x, y, rfl, ⟨hx, tx, _⟩, hy, ty, _⟩ := rp_args2 h1 h2 h3
    obtain ⟨s, rfl, e1⟩ := rp_sl tk_I hx tx
    obtain ⟨t, rfl, e2⟩ := rp_sl tk_I hy ty
    simp [plS] at e1 e2
    have := t_impl_unite s t (by rw [e1, e2]; exact hl)
    rw [e1, e2] at this
    exact this
  · obtain ⟨y, rfl, e1⟩ := h
    have e := er_cS (c := cI) (e := cI) (pl := plI) er_cI y
    simp [plS, e1, cS, erL] at e
    simp only [rp, e, pS]
theorem w_impl_IsQueryFor (d : PDb) (q : PQuery) : VC Tryz.prog 64 [.agg ((eDb d).map V.d), .agg ((eQuery q).map V.d)] (fun _ r => r = .d (.bool (qryFor d q))) := by
  obtain ⟨dl, hdl⟩ : ∃ dl, dl = d.tabs := ⟨_, rfl⟩
  have hde : (eDb d).map V.d = [V.d (.pl (dl.map eTab))] := by rw [hdl]; simp [eDb]
  have hqe : (eQuery q).map V.d = [V.d (.int .i64 q.n), V.d (.pl (q.atoms.map eAtom)), V.d (.pl (q.out.map cI))] := by simp [eQuery]
  refine VC.ofL EP s64 (by kernel_rfl) Tryz.func64 (by rfl) (by kernel_rfl) (by simp [Tryz.f64]) (by simp [Tryz.f64]) s64_ok fun B hl => ?_
  simp [Tryz.f64, hde, hqe]
  refine call_f (w_impl_IsValidQuery q) (by simp [hqe]) rfl fun hs1 hh1 => ?_
  simp at hh1
  cases hq : queryOk q
  · simp [qryFor, hq, ]
  simp []
  refine call_f (w_impl_IsValidDatabase d) (by simp [hde]) rfl fun hs2 hh2 => ?_
  simp at hh2
  cases hd : dbOk d
  · simp [qryFor, hq, hd, ]
  simp []
  have hb : ∀ b, qryFor d q = b ↔ (q.atoms.all fun a => lkB d a.rel && decide ((lkR d a.rel).ar = a.vars.length)) = b := fun b => by simp only [qryFor, hq, hd, Bool.true_and]
  refine loop_rule (X := Nat) (fun i => i ≤ q.atoms.length ∧ AllTo (fun a => lkB d a.rel && decide ((lkR d a.rel).ar = a.vars.length)) q.atoms i) (fun i => [(2, .ptr 2 0 0), (3, .ptr 3 0 0), (18, .d (.pl (q.atoms.map eAtom))), (19, .d (.int .i64 q.atoms.length)), (20, .d (.int .i64 i))])
    (fun i => [(2, some (.box [.d (.pl (dl.map eTab))])), (3, some (.box [.d (.int .i64 q.n), .d (.pl (q.atoms.map eAtom)), .d (.pl (q.out.map cI))]))]) (fun i => q.atoms.length - i) 0 ⟨by simp, allTo_zero⟩ (by simp) (by simp) ?_
  rintro i hs t m ⟨hi, hat⟩ hh
  have hal : q.atoms.length ≤ 4 := queryOk_a4 hq
  by_cases hlt : i < q.atoms.length
  · have hwi := wr1 (i := i) (by omega)
    obtain ⟨⟨nm, vs⟩, ha⟩ : ∃ a, a = q.atoms[i] := ⟨_, rfl⟩
    have hnot := fun h => all_bad (l := q.atoms) (p := fun a => lkB d a.rel && decide ((lkR d a.rel).ar = a.vars.length)) hlt h
    have hst := allTo_step hat hlt
    rw [← ha] at hnot hst
    simp [hlt, ← ha, eAtom, cStr]
    refine call_p (w_impl_LookupRelation d nm) (by simp [hde]) fun hs3 hh3 hl3 => ?_
    simp at hh3
    cases hlk : lkB d nm
    · have := hnot (by simp [hlk])
      simp [this, hb, eReln, ]
    by_cases har : (lkR d nm).ar = vs.length
    · simp [hwi, har, eReln, ]
      exact back (i + 1) ⟨by omega, hst (by simp [hlk, har])⟩ (by omega) rfl (by simp <;> omega) (by simp) (by simp)
    · have := hnot (by simp [hlk, har])
      simp [this, har, hb, eReln, ]
  · have := allTo_done hat (by omega)
    simp [hlt, this, hb, ]
end

end Go.Proofs.YtdnbigokdclclaaGreat


namespace Go.Proofs.YtdnbigokdclclaaGreat
open Go.Vs Go.Proofs Go
set_option maxRecDepth 100000
set_option maxHeartbeats 1000000

section
attribute [local simp] plI_id plStr_id map_plI map_plStr pS cP cI
theorem w_spec_IsQueryFor (d : PDb) (q : PQuery) (hst : ∀ t ∈ d.tabs, t.name.length ≤ maxLen) (hsq : ∀ a ∈ q.atoms, a.rel.length ≤ maxLen) : VC Tryz.prog 51 [.agg ((eDb d).map V.d), .agg ((eQuery q).map V.d)] (fun _ r => r = .d (.bool (qryFor d q))) := by
  obtain ⟨dl, hdl⟩ : ∃ dl, dl = d.tabs := ⟨_, rfl⟩
  have hde : (eDb d).map V.d = [V.d (.pl (dl.map eTab))] := by rw [hdl]; simp [eDb]
  have hqe : (eQuery q).map V.d = [V.d (.int .i64 q.n), V.d (.pl (q.atoms.map eAtom)), V.d (.pl (q.out.map cI))] := by simp [eQuery]
  refine VC.ofL EP s51 (by kernel_rfl) Tryz.func51 (by rfl) (by kernel_rfl) (by simp [Tryz.f51]) (by simp [Tryz.f51]) s51_ok fun B hl => ?_
  simp [hde, hqe, lnVL, V.ln, D.ln, maxLen] at hl
  simp [Tryz.f51, s51_4, s51_5, hde, hqe]
  refine loop_rule (X := Nat) (fun i => i ≤ q.atoms.length ∧ AllTo (fun a => lkB d a.rel && decide ((lkR d a.rel).ar = a.vars.length)) q.atoms i) (fun i => [(2, .ptr 2 0 0), (3, .ptr 3 0 0), (5, .d (.int .i64 i))])
    (fun i => [(2, some (.box [.d (.pl (dl.map eTab))])), (3, some (.box [.d (.int .i64 q.n), .d (.pl (q.atoms.map eAtom)), .d (.pl (q.out.map cI))]))]) (fun i => q.atoms.length - i) 0 ⟨by simp, allTo_zero⟩ (by simp) (by simp) ?_
  rintro i hs t m ⟨hi, hat⟩ hh
  by_cases hlt : i < q.atoms.length
  · have hwi := wr1 (i := i) (by omega)
    obtain ⟨⟨nm, vs⟩, ha⟩ : ∃ a, a = q.atoms[i] := ⟨_, rfl⟩
    have hnot := fun h => all_bad (l := q.atoms) (p := fun a => lkB d a.rel && decide ((lkR d a.rel).ar = a.vars.length)) hlt h
    have hst' := allTo_step hat hlt
    have hb : (q.atoms.all fun a => lkB d a.rel && decide ((lkR d a.rel).ar = a.vars.length)) = false → qryFor d q = false := fun h => by simp only [qryFor, h, Bool.and_false]
    rw [← ha] at hnot hst'
    simp [hlt, ← ha, s51_5, eAtom, cStr]
    refine cutT (X := Unit) (fun _ _ => True) (fun _ => [(2, .ptr 2 0 0), (3, .ptr 3 0 0), (5, .d (.int .i64 i)), (6, .ptr 6 0 0), (7, .d (.bool (lkB d nm)))])
      (fun _ => [(2, some (.box [.d (.pl (dl.map eTab))])), (3, some (.box [.d (.int .i64 q.n), .d (.pl (q.atoms.map eAtom)), .d (.pl (q.out.map cI))])), (6, some (.box ((eReln (lkR d nm)).map V.d)))]) ?_ ?_
    · intro K hK
      simp [hlt, ← ha, eAtom, cStr, s51_4, ]
      repeat' apply And.intro
      all_goals
        refine call_p (w_spec_LookupRelation d nm hst) (by simp [hde]) fun hs3 hh3 hl3 => ?_
        simp at hh3
        simp [eReln, s51_4, ]
        exact hK () _ trivial rfl rfl (by simp <;> omega) (by simp) (by simp [eReln])
    rintro ⟨⟩ hs3 t m - hh3
    cases hlk : lkB d nm
    · have := hb (hnot (by simp [hlk]))
      simp [this, eReln, s51_4, s51_5, ]
    by_cases har : (lkR d nm).ar = vs.length
    · simp [hwi, har, hlt, ← ha, eAtom, cStr, eReln, s51_4, s51_5, ]
      exact back (i + 1) ⟨by omega, hst' (by simp [hlk, har])⟩ (by omega) rfl (by simp <;> omega) (by simp) (by simp)
    · have := hb (hnot (by simp [hlk, har]))
      simp [this, har, hlt, ← ha, eAtom, cStr, eReln, s51_4, s51_5, ]
  · have := allTo_done hat (by omega)
    simp [hlt, s51_4, s51_5, ]
    refine call_f (w_spec_IsValidQuery q hsq) (by simp [hqe]) rfl fun hs1 hh1 => ?_
    simp at hh1
    cases hq : queryOk q
    · simp [qryFor, hq, s51_4, s51_5, ]
    simp [s51_4, s51_5, ]
    refine call_f (w_spec_IsValidDatabase d hst) (by simp [hde]) rfl fun hs2 hh2 => ?_
    simp at hh2
    simp [qryFor, hq, this, s51_4, s51_5, ]
end

end Go.Proofs.YtdnbigokdclclaaGreat


namespace Go.Proofs.YtdnbigokdclclaaGreat
open Go.Vs Go.Proofs Go
set_option maxRecDepth 100000
set_option maxHeartbeats 1000000

section
attribute [local simp] plI_id plStr_id map_plI map_plStr
end

end Go.Proofs.YtdnbigokdclclaaGreat


namespace Go.Proofs.YtdnbigokdclclaaGreat
open Go.Vs Go.Proofs Go
set_option maxRecDepth 100000
set_option maxHeartbeats 1000000

section
attribute [local simp] plI_id plStr_id map_plI map_plStr
def ivB (d : PDb) (v : PView) : Bool := nvB d v.q && decide (nvR d v.q = v.r)
end

end Go.Proofs.YtdnbigokdclclaaGreat


namespace Go.Proofs.YtdnbigokdclclaaGreat
open Go.Vs Go.Proofs Go
set_option maxRecDepth 100000
set_option maxHeartbeats 1000000

section
attribute [local simp] plI_id plStr_id map_plI map_plStr pS cP cI
theorem w_spec_NegateCounted (z : PCnt) (h1 : z.rows.length ≤ 4294967296) (h2 : ∀ r ∈ z.rows, r.length ≤ 4294967296) (h3 : z.cs.length ≤ 4294967296) : VC Tryz.prog 55 [.agg ((eCnt z).map V.d)] (fun _ v => v = .agg ((eCnt (negW z)).map V.d)) := by
  obtain ⟨za, zr, zc⟩ := z
  simp only at h1 h2 h3
  refine VC.ofL EP s55 (by kernel_rfl) Tryz.func55 (by rfl) (by kernel_rfl) (by simp [Tryz.f55]) (by simp [Tryz.f55]) s55_ok fun B hl => ?_
  simp [Tryz.f55, s55_6, s55_6, eCnt]
  refine call_p (w_spec_l5Copy ⟨0, zr⟩ h1 h2) (by simp [eReln]) fun hs1 hh1 hl1 => ?_
  simp at hh1
  simp [eReln, s55_6, ]
  refine loop_ruleL (X := Nat) (fun i _ => i ≤ zc.length) (fun i => [(1, .ptr 1 0 0), (2, .ptr 2 0 0), (4, .ptr 4 0 0), (5, .d (.int .i64 i))])
    (fun i => [(1, some (.box [.d (.int .i64 za), .d (.pl (zr.map (cP cI))), .d (.pl (zc.map cI))])), (2, some (.box [.d (.int .i64 0), .d (.sl none none []), .d (.sl none none [])])),
      (4, some (.box [.d (.int .i64 za), .d (.pl (zr.map (cP cI))), .own 31 0 i])), (31, some (.row 3 1 (((zc.take i).map neg64).map cI)))]) (fun i => zc.length - i) ?_ ?_
  · refine (lead_box 4 2 31 3 1 [.d (.int .i64 za), .d (.pl (zr.map (cP cI))), .d (.sl none none [])] (by omega) (by omega) (by omega) (by simp) rfl).bind ?_
    rintro _ rfl
    exact Lead.of ⟨0, by simp, rfl, rfl, Nat.le_refl _, by simp, by simp⟩
  · intro i hs t m hi hh
    by_cases hlt : i < zc.length
    · have hwi := wr1 (i := i) (by omega)
      have hL : LenOk 8 (i + 1) := ⟨by omega, by simp only [maxLen]; omega⟩
      have hmin : min i zc.length = i := by omega
      simp [hlt, hwi, hL, hmin, s55_6, ]
      refine back2 (i + 1) (by omega) (by omega) rfl (by simp) (by simp) ?_
      have e1 : List.take (i + 1) (List.map (cI ∘ neg64) zc) = List.take i (List.map (cI ∘ neg64) zc) ++ [cI (neg64 zc[i])] := by
        rw [List.take_succ_eq_append_getElem (by simpa using hlt)]; simp
      simp
      rw [e1]; simp [neg64]
    · have hn : i = zc.length := by omega
      subst hn
      simp [negW, List.take_of_length_le]
def vdG (d : PDb) (q : PQuery) (x : PDelta) : Bool := appB d x && nvB d q && nvB (appP d x) q
def vdR (d : PDb) (q : PQuery) (x : PDelta) : PCnt := if vdG d q x then addCP (nvR (appP d x) q) (negW (nvR d q)) else ⟨0, [], []⟩
def vdB (d : PDb) (q : PQuery) (x : PDelta) : Bool := vdG d q x && addCB (nvR (appP d x) q) (negW (nvR d q))
end

end Go.Proofs.YtdnbigokdclclaaGreat


namespace Go.Proofs.YtdnbigokdclclaaGreat
open Go.Vs Go.Proofs Go
set_option maxRecDepth 100000
set_option maxHeartbeats 1000000

section
attribute [local simp] plI_id plStr_id map_plI map_plStr
theorem p_impl_ApplyDelta (d : PDb) (x : PDelta) (hz : szDb d) (hst : ∀ t ∈ d.tabs, t.name.length ≤ maxLen) (hnm : x.name.length ≤ maxLen) :
   VC Tryz.prog 63 [.agg ((eDb d).map V.d), .agg ((eDelta x).map V.d)] (fun _ v => v = .tup [.agg ((eDb (appP d x)).map V.d), .d (.bool (appB d x))]) := by
  refine VC.untrack (t_impl_ApplyDelta ⟨nilS⟩ ⟨[], ⟨0, nilS⟩, ⟨0, nilS⟩⟩ ok_nilS ⟨by simp [okStr, maxLen], ⟨trivial, ok_nilS⟩, ⟨trivial, ok_nilS⟩⟩ ⟨by simp [plDb, plS, nilS], by simp [plDb, plS, nilS]⟩)
    (by have h1 := pn_agg (pn_eDb d); have h2 := pn_agg (pn_eDelta x); simp only [pnVL, Bool.and_true] at h1 h2 ⊢; rw [h1, h2]; rfl) fun As h1 h2 h3 => ?_
  obtain ⟨a, b, rfl, ⟨ha, ta, la⟩, hb, tb, lb⟩ := rp_args2 h1 h2 h3
  obtain ⟨s, rfl, e1⟩ := rp_agg tk_Db ha ta
  obtain ⟨t, rfl, e2⟩ := rp_agg tk_Delta hb tb
  have := VC.plain2 er_cDb (t_impl_ApplyDelta s t (okDb_ln (lnVL_d _ (by simpa only [V.ln] using la)) (by rw [e1]; exact hst)) (okDelta_ln (lnVL_d _ (by simpa only [V.ln] using lb)) (by rw [e2]; exact hnm)) (by rw [e1]; exact hz))
  rw [e1, e2] at this
  exact this
end

end Go.Proofs.YtdnbigokdclclaaGreat


namespace Go.Proofs.YtdnbigokdclclaaGreat
open Go.Vs Go.Proofs Go
set_option maxRecDepth 100000
set_option maxHeartbeats 1000000

section
attribute [local simp] plI_id plStr_id map_plI map_plStr
def avG (d : PDb) (v : PView) (x : PDelta) : Bool := ivB d v && vdB d v.q x
def avB (d : PDb) (v : PView) (x : PDelta) : Bool := avG d v x && addCB v.r (vdR d v.q x)
def avP (d : PDb) (v : PView) (x : PDelta) : PView := if avB d v x then ⟨v.q, addCP v.r (vdR d v.q x)⟩ else ⟨⟨0, [], []⟩, ⟨0, [], []⟩⟩
theorem ivB_nv {d : PDb} {v : PView} (h : ivB d v = true) : nvB d v.q = true ∧ nvR d v.q = v.r := by
  simpa only [ivB, Bool.and_eq_true, decide_eq_true_eq] using h
end

end Go.Proofs.YtdnbigokdclclaaGreat


namespace Go.Proofs.YtdnbigokdclclaaGreat
open Go.Vs Go.Proofs Go
set_option maxRecDepth 100000
set_option maxHeartbeats 1000000

section
attribute [local simp] plI_id plStr_id map_plI map_plStr pS cP cI cStr cU8 cB
end

end Go.Proofs.YtdnbigokdclclaaGreat


namespace Go.Proofs.YtdnbigokdclclaaGreat
open Go.Vs Go.Proofs Go
set_option maxRecDepth 100000
set_option maxHeartbeats 1000000

section
attribute [local simp] plI_id plStr_id map_plI map_plStr
end

end Go.Proofs.YtdnbigokdclclaaGreat


namespace Go.Proofs.YtdnbigokdclclaaGreat
open Go.Vs Go.Proofs Go
set_option maxRecDepth 100000
set_option maxHeartbeats 1000000

section
attribute [local simp] plI_id plStr_id map_plI map_plStr
/-- a view through a batch -/
def abS : List PDelta → PDb → PView → Option PView
  | [], _, v => some v
  | x :: r, d, v => if avB d v x then abS r (appP d x) (avP d v x) else none
structure AbI (v0 : PView) (d0 : PDb) (xs : List PDelta) (i : Nat) (c : PDb) (v : PView) : Prop where
  le : i ≤ xs.length
  ok : dbOk c = true
  q : v.q = v0.q
  r : cntsOk v.r = true
  eq : abS (xs.drop i) c v = abS xs d0 v0
theorem AbI.zero {v : PView} {d : PDb} {xs : List PDelta} (h1 : dbOk d = true) (h2 : ivB d v = true) : AbI v d xs 0 d v :=
  ⟨by omega, h1, rfl, by rw [← (ivB_nv h2).2]; exact nvR_ok (ivB_nv h2).1, rfl⟩
theorem av_r {d : PDb} {v : PView} {x : PDelta} (h : avB d v x = true) : (avP d v x).q = v.q ∧ cntsOk (avP d v x).r = true := by
  rw [avP, if_pos h]
  simp only [avB, Bool.and_eq_true] at h
  exact ⟨rfl, (addC_ok h.2).1⟩
theorem AbI.step {v0 v : PView} {d0 c : PDb} {xs : List PDelta} {i : Nat} (h : AbI v0 d0 xs i c v) (hi : i < xs.length) (hb : avB c v xs[i] = true) : AbI v0 d0 xs (i + 1) (appP c xs[i]) (avP c v xs[i]) := by
  refine ⟨hi, ?_, by rw [(av_r hb).1]; exact h.q, (av_r hb).2, ?_⟩
  · cases ha : appB c xs[i]
    · rw [app_no ha]; exact h.ok
    · exact app_ok ha
  · have := h.eq
    rw [List.drop_eq_getElem_cons hi, abS, if_pos hb] at this
    exact this
theorem AbI.bad {v0 v : PView} {d0 c : PDb} {xs : List PDelta} {i : Nat} (h : AbI v0 d0 xs i c v) (hi : i < xs.length) (hb : avB c v xs[i] = false) : abS xs d0 v0 = none := by
  have := h.eq
  rw [List.drop_eq_getElem_cons hi, abS, hb] at this
  exact this.symm
theorem AbI.done {v0 v : PView} {d0 c : PDb} {xs : List PDelta} {i : Nat} (h : AbI v0 d0 xs i c v) (hi : xs.length ≤ i) : abS xs d0 v0 = some v := by
  have := h.eq
  rw [List.drop_of_length_le hi, abS] at this
  exact this.symm
end

end Go.Proofs.YtdnbigokdclclaaGreat


namespace Go.Proofs.YtdnbigokdclclaaGreat
open Go.Vs Go.Proofs Go
set_option maxRecDepth 100000
set_option maxHeartbeats 1000000

section
attribute [local simp] plI_id plStr_id map_plI map_plStr pS cP cI
theorem e_impl_pick (row cols : List Int) (hb : cols.length ≤ 4294967296) (hc : ∀ c ∈ cols, 0 ≤ c ∧ c < row.length) : VC Tryz.prog 74 [.d (pS cI row), .d (pS cI cols)]
   (fun n r => ∃ y : Ints, r = .d (dSl cI y) ∧ y.xs = pickR cols row ∧ okS okI y ∧ Good (cS cI y) (whS whI y) n) := by
  refine VC.of E s74 (by kernel_rfl) Tryz.func74 (by rfl) (by kernel_rfl) (by simp [Tryz.f74]) (by simp [Tryz.f74]) s74_ok fun B => ?_
  simp [Tryz.f74, dSl]
  refine loop_rule (X := Nat) (fun i => i ≤ cols.length) (fun i => [(0, .d (.pl (row.map cI))), (5, .own 8 0 i), (9, .d (.pl (cols.map cI))), (10, .d (.int .i64 cols.length)), (11, .d (.int .i64 i))])
    (fun i => [(8, some (.row 3 1 ((pickR (cols.take i) row).map cI)))]) (fun i => cols.length - i) 0 (by simp) (by simp) (by simp [pickR]) ?_
  intro i hs t m hi hh
  by_cases hlt : i < cols.length
  · have hwi := wr1 (i := i) (by omega)
    have h1 := hc _ (List.getElem_mem hlt)
    have hst := pickR_step hlt hc
    obtain ⟨k, hk⟩ : ∃ k : Nat, cols[i] = (k : Int) := ⟨cols[i].toNat, by omega⟩
    have hkl : k < row.length := by omega
    have hL : LenOk 8 (i + 1) := ⟨by omega, by simp only [maxLen]; omega⟩
    have hpl : (pickR (cols.take i) row).length = i := by rw [pickR_len, List.length_take]; omega
    simp only [hk, Int.toNat_natCast] at hst
    simp [hlt, hk, hkl, hL, hwi, hpl, ]
    exact back (i + 1) (by omega) (by omega) rfl (by simp <;> omega) (by simp) (by simp [hst])
  · have hn : i = cols.length := by omega
    subst hn
    simp [List.take_of_length_le, pickR_len]
    intro γ hs' h2 hg
    obtain ⟨q1, q2⟩ := gam_at hg (k := 8) (T := 3) (sz := 1) (es := (pickR cols row).map cI) (by simp)
    have r1 := gam_row hg (k := 8) (T := 3) (sz := 1) (es := (pickR cols row).map cI) (by simp)
    clear hg
    refine ⟨⟨γ 8, some (3, 1), pickR cols row⟩, by simp [List.take_of_length_le, pickR_len], rfl, ⟨by simp only [maxLen, pickR_len]; omega, fun _ _ => trivial⟩, good_row (fun g hg => (q1 g hg).1) (by simpa using q2) r1 ⟨by simp, by simp⟩ (by simp [whI])⟩
end
section
attribute [local simp] plI_id plStr_id map_plI map_plStr
structure RaI (vs : List Int) (rl : List (List Int)) (B : Nat) (p : Nat × List Ints) (h : Nat) : Prop where
  le : p.1 ≤ rl.length
  pl : p.2.map (plS plI) = abL vs (rl.take p.1)
  ok : ∀ y ∈ p.2, okS okI y
  good : GoodL (cS cI) (whS whI) B h p.2
theorem RaI.zero {vs : List Int} {rl : List (List Int)} {B h : Nat} : RaI vs rl B (0, []) h := ⟨by simp, by simp [abL], by simp, GoodL.nil⟩
theorem RaI.skip {vs : List Int} {rl : List (List Int)} {B h h' i : Nat} {ys : List Ints} (H : RaI vs rl B (i, ys) h) (hi : i < rl.length) (hf : fitR vs rl[i] = false) (hh : h ≤ h') : RaI vs rl B (i + 1, ys) h' := by
  refine ⟨hi, ?_, H.ok, H.good.le hh⟩
  have := H.pl
  simp only at this ⊢
  rw [this, abL_succ hi, hf]; simp
theorem RaI.snoc {vs : List Int} {rl : List (List Int)} {B h m h' i : Nat} {ys : List Ints} {y : Ints} (H : RaI vs rl B (i, ys) h) (hi : i < rl.length) (hf : fitR vs rl[i] = true) (hy : y.xs = pickR (aVars vs) (valL vs rl[i])) (hok : okS okI y)
    (hb : B ≤ m ∧ h ≤ m) (hm : m ≤ h') (G : Good (cS cI y) (whS whI y) m) (hr : ∀ g ∈ idsL (cS cI y), g < h') : RaI vs rl B (i + 1, ys ++ [y]) h' := by
  refine ⟨hi, ?_, fun z hz => ?_, GoodL.snoc H.good hb hm G hr⟩
  · have := H.pl
    simp only at this ⊢
    rw [List.map_append, this, abL_succ hi, hf]
    simp [plS, hy]
  · rcases List.mem_append.1 hz with h | h
    · exact H.ok z h
    · rw [List.mem_singleton.1 h]; exact hok
theorem e_impl_rowsOfAtom (a : PAtom) (rl : List (List Int)) (hv5 : a.vars.length ≤ 5) (hv : ∀ v ∈ a.vars, 0 ≤ v ∧ v < 5) (hrl : ∀ t ∈ rl, t.length = a.vars.length) (hr16 : rl.length ≤ 1000) :
   VC Tryz.prog 68 [.agg ((eAtom a).map V.d), .d (pS (cP cI) rl)] (fun n r => ∃ y : Sl Ints, r = .d (dSl (cS cI) y) ∧ plS (plS plI) y = abL a.vars rl ∧ okS (okS okI) y ∧ Good (cS (cS cI) y) (whS (whS whI) y) n ∧ y.T = some (26, 1)) := by
  obtain ⟨nm, vs⟩ := a
  simp only at hv5 hv hrl
  have hav : (aVars vs).length ≤ 5 := aVars_len5 vs
  have hAVm : ∀ c ∈ aVars vs, 0 ≤ c ∧ c < ((5 : Nat) : Int) := fun c hc => by
    have := (List.mem_filter.1 hc).1
    have := rangeI_mem.1 this
    omega
  refine VC.of E s68 (by kernel_rfl) Tryz.func68 (by rfl) (by kernel_rfl) (by simp [Tryz.f68]) (by simp [Tryz.f68]) s68_ok fun B => ?_
  simp [Tryz.f68, s68_11, eAtom, cStr, pS, cP, cI]
  refine call_p (w_impl_AtomVariables ⟨nm, vs⟩) (by simp [eAtom, cStr, pS, cP, cI]) fun hs1 hh1 hl1 => ?_
  simp at hh1
  obtain ⟨AV, hAV⟩ : ∃ AV, AV = aVars vs := ⟨_, rfl⟩
  rw [← hAV] at hl1 hav hAVm ⊢
  simp [s68_11, pS, cP, cI]
  refine loop_ruleL (X := Nat × List Ints) (RaI vs rl B) (fun p => [(2, .ptr 2 0 0), (5, .d (.pl (AV.map cI))), (6, .own 59 0 p.2.length), (15, .d (.pl (rl.map (cP cI)))), (16, .d (.int .i64 rl.length)), (17, .d (.int .i64 p.1))])
    (fun p => [(2, some (.box [.d (.str nm), .d (.pl (vs.map cI))])), (59, some (.row 26 1 (p.2.map (cS cI))))]) (fun p => rl.length - p.1) ?_ ?_
  · refine (lead_slot 6 59 26 1 (by omega) (by omega) (by simp)).bind ?_
    rintro _ rfl
    exact Lead.of ⟨(0, []), .zero, rfl, rfl, Nat.le_refl _, by simp [cP, pS, cI], by simp [cI]⟩
  rintro ⟨i, ys⟩ hs t m hI hh
  have hle := hI.le
  have hyl : ys.length ≤ i := by
    have := congrArg List.length hI.pl
    rw [List.length_map] at this
    have h2 := abL_len vs (rl.take i)
    rw [List.length_take] at h2
    simp only at this
    omega
  simp only at hle
  by_cases hlt : i < rl.length
  · have hwi := wr1 (i := i) (by omega)
    obtain ⟨row, hrow⟩ : ∃ row, row = rl[i] := ⟨_, rfl⟩
    have hrvl : row.length = vs.length := by
      have := hrl _ (List.getElem_mem hlt)
      rw [← hrow] at this; omega
    have hsk := fun hf => hI.skip (h' := hs) hlt hf (Nat.le_refl _)
    rw [← hrow] at hsk
    have hL : LenOk 24 (ys.length + 1) := ⟨by omega, by simp only [maxLen]; omega⟩
    have L5 : LenOk 8 5 := ⟨by omega, by simp only [maxLen]; omega⟩
    refine anyQ2 fun Q => ?_
    simp [hlt, ← hrow, L5, s68_11, pS, cP, cI]
    refine loop_rule (X := Nat) (fun j => j ≤ vs.length) (fun j => [(2, .ptr 2 0 0), (5, .d (.pl (AV.map cI))), (6, .own 59 0 ys.length), (8, .d (.pl (row.map cI))), (9, .own 21 0 5), (10, .d (.bool (fitJ vs row j))), (15, .d (.pl (rl.map (cP cI)))), (16, .d (.int .i64 rl.length)), (17, .d (.int .i64 i)), (23, .d (.pl (vs.map cI))), (24, .d (.int .i64 vs.length)), (25, .d (.int .i64 j))])
      (fun j => [(2, some (.box [.d (.str nm), .d (.pl (vs.map cI))])), (21, some (.row 3 1 ((valJ vs row j).map cI))), (59, some (.row 26 1 (ys.map (cS cI))))]) (fun j => vs.length - j) 0 (by simp) (by simp [fitJ_zero, cP, pS, cI]) (by simp [valJ_zero, cI]) ?_
    intro j hs4 t m hj hh4
    by_cases hjl : j < vs.length
    · have hwj := wr1 (i := j) (by omega)
      have hjr : j < row.length := by omega
      have hvj := hv _ (List.getElem_mem hjl)
      obtain ⟨v, hve⟩ : ∃ v : Nat, vs[j] = (v : Int) := ⟨vs[j].toNat, by omega⟩
      have hv5' : v < 5 := by omega
      have hix := (idxL_mem (List.getElem_mem hjl)).1
      obtain ⟨p, hp⟩ : ∃ p : Nat, idxL vs (v : Int) = (p : Int) := by
        rw [← hve]
        have := idxL_ge vs vs[j]
        have h2 : vs.contains vs[j] = true := by simp
        rw [h2] at this
        exact ⟨(idxL vs vs[j]).toNat, by have := of_decide_eq_true this; omega⟩
      have hpr : p < row.length := by rw [hve, hp] at hix; omega
      have hf := fitJ_succ vs row j
      have hvs := valJ_succ (vs := vs) (row := row) hjl hjr
      have hvl := valJ_len vs row j
      rw [getD_el _ hjl, getD_el _ hjr, lookV, hve, hp, Int.toNat_natCast, getD_el _ hpr] at hf
      rw [hve, Int.toNat_natCast] at hvs
      cases hfj : fitJ vs row j
      · rw [hfj] at hf
        simp [hjl, hve, hwj, hjr, hpr, hv5', hvl, -List.map_set, s68_11, pS, cP, cI]
        exact back (j + 1) (by omega) (by omega) rfl (by simp <;> omega) (by simp [hf, cP, pS, cI]) (by rw [hvs]; simp [cI])
      · rw [hfj] at hf
        simp [hjl, hve, hjr, s68_11, pS, cP, cI]
        repeat' apply And.intro
        all_goals
          refine call_f (w_impl_indexOf vs v) (by simp [pS, cI]) rfl fun hs5 hh5 => ?_
          simp at hh5
          rw [hp]
          simp [hwj, hjr, hpr, hv5', hvl, -List.map_set, s68_11, pS, cP, cI]
          exact back (j + 1) (by omega) (by omega) rfl (by simp <;> omega) (by simp [hf, cP, pS, cI]) (by rw [hvs]; simp [cI])
    · have hn : j = vs.length := by omega
      subst hn
      have hvl5 := valJ_len vs row vs.length
      rw [valJ_all hrvl] at hvl5
      rw [fitJ_all hrvl, valJ_all hrvl]
      cases hfr : fitR vs row
      · simp [hwi, s68_11, pS, cP, cI]
        have h2 := hsk hfr
        refine back2 (i + 1, ys) ⟨h2.le, h2.pl, h2.ok, h2.good.le (by simp <;> omega)⟩ (by simp only; omega) rfl (by simp <;> omega) (by simp [cP, pS, cI]) (by simp)
      · simp [hwi, s68_11, pS, cP, cI]
        refine call_own (by simp) (fun γ n hn hg => ⟨[.d (.sl (γ 21) (some (3, 1)) ((valL vs row).map cI)), .d (.pl (AV.map cI))], by simp [List.take_of_length_le, hvl5, hpLL_mapI], (e_impl_pick (valL vs row) AV (by omega) (fun c hc => by rw [hvl5]; exact hAVm c hc)).er (by simp [pS, cI, erLL_map er_cI])⟩) (by
          rintro n _ ⟨y, rfl, _, _, G⟩
          exact ⟨fun i hi => G.lo i (by rw [idsL_cS]; exact hi), by simp [V.hp, dSl, D.hp]⟩) fun n5 hs5 r5 hn5 hm5 hp5 hr5 => ?_
        obtain ⟨y, rfl, hy1, hy2, hy3⟩ := hp5
        simp at hn5
        have hr' : ∀ g ∈ idsL (cS cI y), g < hs5 := fun g hg => hr5 g (by rw [idsL_cS] at hg; exact hg)
        simp [hwi, hL, List.take_of_length_le, dSl, cS, s68_11, pS, cP, cI]
        refine back2 (i + 1, ys ++ [y]) (hI.snoc hlt (by rw [← hrow]; exact hfr) (by rw [hy1, ← hrow, hAV]) hy2 (by omega) hm5 hy3 hr') (by simp only; omega) rfl (by simp <;> omega) (by simp [cP, pS, cI]) (by simp [cS, dSl])
  · have hall := hI.pl
    simp only at hall
    rw [List.take_of_length_le (by omega)] at hall
    simp [hlt, s68_11, ]
    intro γ hs' h1 hg
    obtain ⟨q1, q2⟩ := gam_at hg (k := 59) (T := 26) (sz := 1) (es := ys.map (cS cI)) (by simp)
    have q3 := gam_row hg (k := 59) (T := 26) (sz := 1) (es := ys.map (cS cI)) (by simp)
    clear hg
    have hp : hpLL (ys.map (cS cI)) = false := hpLL_mapS ys
    refine ⟨⟨γ 59, some (26, 1), ys⟩, by simp [dSl, List.take_of_length_le], by simpa [plS] using hall, ⟨by simp only [maxLen]; show ys.length ≤ _; omega, hI.ok⟩, good_row (fun g hg => (q1 g hg).1) (by simpa using q2) q3 ⟨hI.good.nd, hI.good.lo⟩ hI.good.wh, rfl⟩
theorem e_impl_rowsOfAtom0 (a : PAtom) (rl : List (List Int)) (hv5 : a.vars.length ≤ 5) (hv : ∀ v ∈ a.vars, 0 ≤ v ∧ v < 5) (hrl : ∀ t ∈ rl, t.length = a.vars.length) (hr16 : rl.length ≤ 1000) (hE : abL a.vars rl = []) :
   VC Tryz.prog 68 [.agg ((eAtom a).map V.d), .d (pS (cP cI) rl)] (fun _ r => r = .d (.sl none none [])) := by
  obtain ⟨nm, vs⟩ := a
  simp only at hv5 hv hrl hE
  have hno : ∀ i (h : i < rl.length), fitR vs rl[i] = false := fun i h => by
    cases hf : fitR vs rl[i] with
    | false => rfl
    | true =>
      have h2 := abL_succ (vs := vs) h
      rw [hf] at h2
      have h3 : (abL vs (rl.take (i + 1))).length ≤ (abL vs rl).length := by
        rw [abL, abL, List.length_map, List.length_map]
        exact ((List.take_sublist (i + 1) rl).filter _).length_le
      rw [h2, hE] at h3
      simp at h3
  have hav : (aVars vs).length ≤ 5 := aVars_len5 vs
  have hAVm : ∀ c ∈ aVars vs, 0 ≤ c ∧ c < ((5 : Nat) : Int) := fun c hc => by
    have := (List.mem_filter.1 hc).1
    have := rangeI_mem.1 this
    omega
  refine VC.of E s68 (by kernel_rfl) Tryz.func68 (by rfl) (by kernel_rfl) (by simp [Tryz.f68]) (by simp [Tryz.f68]) s68_ok fun B => ?_
  simp [Tryz.f68, s68_11, eAtom, cStr, pS, cP, cI]
  refine call_p (w_impl_AtomVariables ⟨nm, vs⟩) (by simp [eAtom, cStr, pS, cP, cI]) fun hs1 hh1 hl1 => ?_
  simp at hh1
  obtain ⟨AV, hAV⟩ : ∃ AV, AV = aVars vs := ⟨_, rfl⟩
  rw [← hAV] at hl1 hav hAVm ⊢
  simp [s68_11, pS, cP, cI]
  refine loop_rule (X := Nat) (fun i => i ≤ rl.length) (fun i => [(2, .ptr 2 0 0), (5, .d (.pl (AV.map cI))), (6, .d (.sl none none [])), (15, .d (.pl (rl.map (cP cI)))), (16, .d (.int .i64 rl.length)), (17, .d (.int .i64 i))])
    (fun i => [(2, some (.box [.d (.str nm), .d (.pl (vs.map cI))]))]) (fun i => rl.length - i) 0 (by simp) (by simp [cP, pS, cI]) (by simp [cI]) ?_
  intro i hs t m hle hh
  by_cases hlt : i < rl.length
  · have hwi := wr1 (i := i) (by omega)
    obtain ⟨row, hrow⟩ : ∃ row, row = rl[i] := ⟨_, rfl⟩
    have hrvl : row.length = vs.length := by
      have := hrl _ (List.getElem_mem hlt)
      rw [← hrow] at this; omega
    have hf0 := hno i hlt
    rw [← hrow] at hf0
    have L5 : LenOk 8 5 := ⟨by omega, by simp only [maxLen]; omega⟩
    refine anyQ fun Q => ?_
    simp [hlt, ← hrow, L5, s68_11, pS, cP, cI]
    refine loop_rule (X := Nat) (fun j => j ≤ vs.length) (fun j => [(2, .ptr 2 0 0), (5, .d (.pl (AV.map cI))), (6, .d (.sl none none [])), (8, .d (.pl (row.map cI))), (9, .own 21 0 5), (10, .d (.bool (fitJ vs row j))), (15, .d (.pl (rl.map (cP cI)))), (16, .d (.int .i64 rl.length)), (17, .d (.int .i64 i)), (23, .d (.pl (vs.map cI))), (24, .d (.int .i64 vs.length)), (25, .d (.int .i64 j))])
      (fun j => [(2, some (.box [.d (.str nm), .d (.pl (vs.map cI))])), (21, some (.row 3 1 ((valJ vs row j).map cI)))]) (fun j => vs.length - j) 0 (by simp) (by simp [fitJ_zero, cP, pS, cI]) (by simp [valJ_zero, cI]) ?_
    intro j hs4 t m hj hh4
    by_cases hjl : j < vs.length
    · have hwj := wr1 (i := j) (by omega)
      have hjr : j < row.length := by omega
      have hvj := hv _ (List.getElem_mem hjl)
      obtain ⟨v, hve⟩ : ∃ v : Nat, vs[j] = (v : Int) := ⟨vs[j].toNat, by omega⟩
      have hv5' : v < 5 := by omega
      have hix := (idxL_mem (List.getElem_mem hjl)).1
      obtain ⟨p, hp⟩ : ∃ p : Nat, idxL vs (v : Int) = (p : Int) := by
        rw [← hve]
        have := idxL_ge vs vs[j]
        have h2 : vs.contains vs[j] = true := by simp
        rw [h2] at this
        exact ⟨(idxL vs vs[j]).toNat, by have := of_decide_eq_true this; omega⟩
      have hpr : p < row.length := by rw [hve, hp] at hix; omega
      have hf := fitJ_succ vs row j
      have hvs := valJ_succ (vs := vs) (row := row) hjl hjr
      have hvl := valJ_len vs row j
      rw [getD_el _ hjl, getD_el _ hjr, lookV, hve, hp, Int.toNat_natCast, getD_el _ hpr] at hf
      rw [hve, Int.toNat_natCast] at hvs
      cases hfj : fitJ vs row j
      · rw [hfj] at hf
        simp [hjl, hve, hwj, hjr, hpr, hv5', hvl, -List.map_set, s68_11, pS, cP, cI]
        exact back (j + 1) (by omega) (by omega) rfl (by simp <;> omega) (by simp [hf, cP, pS, cI]) (by rw [hvs]; simp [cI])
      · rw [hfj] at hf
        simp [hjl, hve, hjr, s68_11, pS, cP, cI]
        repeat' apply And.intro
        all_goals
          refine call_f (w_impl_indexOf vs v) (by simp [pS, cI]) rfl fun hs5 hh5 => ?_
          simp at hh5
          rw [hp]
          simp [hwj, hjr, hpr, hv5', hvl, -List.map_set, s68_11, pS, cP, cI]
          exact back (j + 1) (by omega) (by omega) rfl (by simp <;> omega) (by simp [hf, cP, pS, cI]) (by rw [hvs]; simp [cI])
    · have hn : j = vs.length := by omega
      subst hn
      have hvl5 := valJ_len vs row vs.length
      rw [valJ_all hrvl] at hvl5
      rw [fitJ_all hrvl, valJ_all hrvl]
      rw [hf0]
      simp [hwi, s68_11, pS, cP, cI]
      exact back (i + 1) (by omega) (by omega) rfl (by simp <;> omega) (by simp [cP, pS, cI]) (by simp)
  · simp [hlt, s68_11, ]
theorem o_impl_rowsOfAtom (a : PAtom) (rl : List (List Int)) (hv5 : a.vars.length ≤ 5) (hv : ∀ v ∈ a.vars, 0 ≤ v ∧ v < 5) (hrl : ∀ t ∈ rl, t.length = a.vars.length) (hr16 : rl.length ≤ 1000) :
   VC Tryz.prog 68 [.agg ((eAtom a).map V.d), .d (pS (cP cI) rl)] (fun n r => (r = .d (.sl none none []) ∧ abL a.vars rl = []) ∨ ∃ (g : Nat) (xs : List Ints), r = .d (.sl (some g) (some (26, 1)) (xs.map (cS cI))) ∧ n ≤ g ∧ g ∉ idsLL (xs.map (cS cI)) ∧ xs.map (plS plI) = abL a.vars rl) := by
  by_cases hE : abL a.vars rl = []
  · exact (e_impl_rowsOfAtom0 a rl hv5 hv hrl hr16 hE).weak fun n r h => .inl ⟨h, hE⟩
  · refine (e_impl_rowsOfAtom a rl hv5 hv hrl hr16).weak fun n r h => .inr ?_
    obtain ⟨⟨yid, yT, ys⟩, rfl, p, k, G, hT⟩ := h
    simp only at hT
    subst hT
    have hy0 : ys ≠ [] := fun h => hE (by rw [← p, h]; rfl)
    obtain ⟨g, rfl⟩ : ∃ g, yid = some g := by
      cases yid with
      | none => exact absurd (G.wh.1.nil rfl) hy0
      | some g => exact ⟨g, rfl⟩
    have hnd := G.nd
    rw [idsL_cS] at hnd
    exact ⟨g, ys, rfl, G.lo g (by rw [idsL_cS]; exact mem_sl_ids.2 (.inl rfl)), (sl_nd hnd).2 g rfl, p⟩
theorem p_impl_rowsOfAtom (a : PAtom) (rl : List (List Int)) (hv5 : a.vars.length ≤ 5) (hv : ∀ v ∈ a.vars, 0 ≤ v ∧ v < 5) (hrl : ∀ t ∈ rl, t.length = a.vars.length) (hr16 : rl.length ≤ 1000) :
   VC Tryz.prog 68 [.agg ((eAtom a).map V.d), .d (pS (cP cI) rl)] (fun _ r => r = .d (pS (cP cI) (abL a.vars rl))) :=
  VC.plain (e_impl_rowsOfAtom a rl hv5 hv hrl hr16) (fun n r h => by
    obtain ⟨y, rfl, hp, _, _⟩ := h
    have e := er_cS (c := cS cI) (e := cP cI) (pl := plS plI) (fun s => er_cS er_cI s) y
    rw [hp] at e
    simp only [cS, cP, erL, List.cons.injEq, and_true] at e
    simp only [rp, e, pS]) (by rw [pS]; rfl)
end

end Go.Proofs.YtdnbigokdclclaaGreat


namespace Go.Proofs.YtdnbigokdclclaaGreat
open Go.Vs Go.Proofs Go
set_option maxRecDepth 100000
set_option maxHeartbeats 1000000

section
attribute [local simp] plI_id plStr_id map_plI map_plStr
theorem p_impl_NormalizeDelta (d : PDb) (x : PDelta) (hst : ∀ t ∈ d.tabs, t.name.length ≤ maxLen) (hnm : x.name.length ≤ maxLen) :
   VC Tryz.prog 66 [.agg ((eDb d).map V.d), .agg ((eDelta x).map V.d)] (fun _ v => v = .tup [.agg ((eDelta (norP d x)).map V.d), .d (.bool (fitB d x))]) := by
  refine VC.untrack (t_impl_NormalizeDelta ⟨nilS⟩ ⟨[], ⟨0, nilS⟩, ⟨0, nilS⟩⟩ ok_nilS ⟨by simp [okStr, maxLen], ⟨trivial, ok_nilS⟩, ⟨trivial, ok_nilS⟩⟩)
    (by have h1 := pn_agg (pn_eDb d); have h2 := pn_agg (pn_eDelta x); simp only [pnVL, Bool.and_true] at h1 h2 ⊢; rw [h1, h2]; rfl) fun As h1 h2 h3 => ?_
  obtain ⟨a, b, rfl, ⟨ha, ta, la⟩, hb, tb, lb⟩ := rp_args2 h1 h2 h3
  obtain ⟨s, rfl, e1⟩ := rp_agg tk_Db ha ta
  obtain ⟨t, rfl, e2⟩ := rp_agg tk_Delta hb tb
  have := VC.plain2 er_cDelta (t_impl_NormalizeDelta s t (okDb_ln (lnVL_d _ (by simpa only [V.ln] using la)) (by rw [e1]; exact hst)) (okDelta_ln (lnVL_d _ (by simpa only [V.ln] using lb)) (by rw [e2]; exact hnm)))
  rw [e1, e2] at this
  exact this
theorem w_impl_bit (b : Bool) : VC Tryz.prog 72 [.d (.bool b)] (fun _ r => r = .d (.int .i64 (if b then 1 else 0))) := by
  refine VC.ofL EP s72 (by kernel_rfl) Tryz.func72 (by rfl) (by kernel_rfl) (by simp [Tryz.f72]) (by simp [Tryz.f72]) s72_ok fun B hl => ?_
  cases b <;> simp [Tryz.f72, ]
end

end Go.Proofs.YtdnbigokdclclaaGreat


namespace Go.Proofs.YtdnbigokdclclaaGreat
open Go.Vs Go.Proofs Go
set_option maxRecDepth 100000
set_option maxHeartbeats 1000000

section
attribute [local simp] plI_id plStr_id map_plI map_plStr
structure AdT (b : PCnt) (P : List (List Int × Int)) (q : PQuery) (B : Nat) (p : (Nat × Cnt) × Sl Ints × Ints × Query × Nat) (h : Nat) : Prop where
  tal : TalI ⟨q.out.length, [], []⟩ b p.2.2.2.2 p.1 h
  lo : B ≤ p.2.2.2.2
  hi : p.2.2.2.2 ≤ h
  p1 : p.2.1.xs.map (plS plI) = P.map Prod.fst
  p2 : p.2.2.1.xs = P.map Prod.snd
  p3 : plQuery p.2.2.2.1 = q
  i1 : ∀ g ∈ (dSl (cS cI) p.2.1).ids, g < p.2.2.2.2
  i2 : ∀ g ∈ (dSl cI p.2.2.1).ids, g < p.2.2.2.2
  i3 : ∀ g ∈ idsL (cQuery p.2.2.2.1), g < p.2.2.2.2
theorem e_impl_AtomDelta (d : PDb) (q : PQuery) (x : PDelta) (k : Int) (hz : szDb d) (hst : ∀ t ∈ d.tabs, t.name.length ≤ maxLen) (hsq : ∀ a ∈ q.atoms, a.rel.length ≤ maxLen) (hnm : x.name.length ≤ maxLen) :
   VC Tryz.prog 14 [.agg ((eDb d).map V.d), .agg ((eQuery q).map V.d), .agg ((eDelta x).map V.d), .d (.int .i64 k)]
   (fun n r => ∃ y : Cnt, r = .tup [.agg ((cCnt y).map V.d), .d (.bool (adB d q x k))] ∧ plCnt y = adP d q x k ∧ okCnt y ∧ Good (cCnt y) (whCnt y) n) := by
  have hde : ∀ d : PDb, (eDb d).map V.d = [V.d (.pl (d.tabs.map eTab))] := fun d => by simp [eDb, pS, cP]
  have hqe : (eQuery q).map V.d = [V.d (.int .i64 q.n), V.d (.pl (q.atoms.map eAtom)), V.d (.pl (q.out.map cI))] := by simp [eQuery, pS, cP, cI]
  have hxe : ∀ x : PDelta, (eDelta x).map V.d = [V.d (.str x.name), V.d (.int .i64 x.ins.ar), V.d (.pl (x.ins.rows.map (cP cI))), V.d (.int .i64 x.del.ar), V.d (.pl (x.del.rows.map (cP cI)))] := fun x => by simp [eDelta, eReln, cStr, pS, cP, cI]
  have hno : ∀ B : Nat, adB d q x k = false → ∃ y : Cnt, ([V.d (D.int IntKind.i64 0), V.d (D.sl none none []), V.d (D.sl none none [])] = List.map V.d (cCnt y) ∧ adB d q x k = false) ∧ plCnt y = adP d q x k ∧ okCnt y ∧ Good (cCnt y) (whCnt y) B := fun B hn =>
    ⟨⟨0, nilS, nilS⟩, ⟨by simp [cCnt, nilS, cS, cI, dSl], hn⟩, by simp only [adP, hn]; rfl, ⟨trivial, ok_nilS, ok_nilS⟩, good_Cnt0 B⟩
  refine VC.of E s14 (by kernel_rfl) Tryz.func14 (by rfl) (by kernel_rfl) (by simp [Tryz.f14]) (by simp [Tryz.f14]) s14_ok fun B => ?_
  simp [Tryz.f14, s14_35, s14_44, hde, hqe, hxe]
  refine call_p (p_impl_ApplyDelta d x hz hst hnm) (by simp [hde, hxe]) fun hs1 hh1 hl1 => ?_
  simp at hh1
  cases h1 : appB d x
  · simp [hde, s14_35, s14_44, ]
    exact hno B (by simp [adB, adG, h1])
  simp [hde, s14_35, s14_44, ]
  refine call_f (w_impl_IsQueryFor d q) (by simp [hde, hqe]) rfl fun hs2 hh2 => ?_
  simp at hh2
  cases h2 : qryFor d q
  · simp [hde, s14_35, s14_44, ]
    exact hno B (by simp [adB, adG, h2])
  have f := qf_of h2
  have ha4 := f.a4
  have hw : IntKind.i64.wrap ((q.atoms.length : Int) - 1) = (q.atoms.length : Int) - 1 := wrap64_of (by omega) (by omega)
  simp [hde, hw, s14_35, s14_44, ]
  refine call_f (w_impl_within k 0 (q.atoms.length - 1)) (by simp) rfl fun hs3 hh3 => ?_
  simp at hh3
  cases h3 : inR k 0 ((q.atoms.length : Int) - 1)
  · simp [hde, s14_35, s14_44, ]
    exact hno B (by simp [adB, adG, h3])
  have hG : adG d q x k = true := by simp [adG, h1, h2, h3]
  have a := adG_ad hG
  have fe := a.qe
  have hk := adG_k hG
  obtain ⟨kn, rfl⟩ : ∃ kn : Nat, k = (kn : Int) := ⟨k.toNat, by omega⟩
  have hkt : (kn : Int).toNat = kn := rfl
  simp [hde, hxe, s14_35, s14_44, ]
  refine call_p (p_impl_NormalizeDelta d x hst hnm) (by simp [hde, hxe]) fun hs4 hh4 hl4 => ?_
  simp at hh4
  have nr := nor_of a.app
  obtain ⟨Y, hY⟩ : ∃ Y, Y = norP d x := ⟨_, rfl⟩
  obtain ⟨N, hN⟩ : ∃ N, N = appP d x := ⟨_, rfl⟩
  obtain ⟨J, hJ⟩ : ∃ J : Nat → List Int × List (List Int × Int), ∀ i, J i = jdW ((adLs d N Y x.name kn q.atoms).take i) := ⟨_, fun _ => rfl⟩
  have hJ0 : J 0 = ([], [([], 1)]) := by rw [hJ]; rfl
  have hJl : ∀ i, (J i).1.length ≤ 5 ∧ (∀ r ∈ (J i).2, r.1.length = (J i).1.length) ∧ (J i).1.Pairwise (· < ·) ∧ (∀ v ∈ (J i).1, 0 ≤ v ∧ v < 5) := fun i => by rw [hJ, hN, hY]; exact jd_len5 a kn i
  have hJs : ∀ i, i ≤ q.atoms.length → (J i).2.length ≤ 131072 := fun i hi => by rw [hJ, hN, hY]; exact jd_le a kn i hi
  have hJn : ∀ i (h : i < q.atoms.length), J (i + 1) = jdS (J i) (q.atoms[i].vars, adL d N Y x.name kn i q.atoms[i]) := fun i h => by
    rw [hJ, hJ, jdW_take (by simpa [adLs] using h)]
    simp [adLs]
  have hJS : ∀ i, Sg (J i).2 := fun i => by
    rw [hJ]
    exact sg_jdW _ (fun a ha => sg_adLs d N Y x.name kn _ a (List.mem_of_mem_take ha)) _ (sg_top [])
  rw [← hY, ← hN]
  simp [hde, hxe, s14_35, s14_44, ]
  refine bs1 (k' := 64) (ks := []) (by rfl) (by simp) fun γ0 hs5 hh5 hg0 => ?_
  clear hg0
  simp at hh5
  simp [hde, hxe, s14_35, s14_44, ]
  refine loop_ruleL (X := Nat) (fun i _ => i ≤ q.atoms.length) (fun i => [(3, .d (.int .i64 kn)), (4, .ptr 4 0 0), (5, .ptr 5 0 0), (6, .ptr 6 0 0), (8, .ptr 8 0 0), (10, .ptr 10 0 0), (12, .ptr 12 0 0), (14, .d (.pl ((J i).1.map cI))), (15, .d (.pl (((J i).2.map Prod.fst).map (cP cI)))), (16, .d (.pl (((J i).2.map Prod.snd).map cI))), (68, .d (.pl (q.atoms.map eAtom))), (69, .d (.int .i64 q.atoms.length)), (70, .d (.int .i64 i))])
    (fun i => [(4, some (.box ((eDb d).map V.d))), (5, some (.box ((eQuery q).map V.d))), (6, some (.box ((eDelta x).map V.d))), (8, some (.box [.d (.int .i64 0), .d (.sl none none []), .d (.sl none none [])])), (10, some (.box ((eDb N).map V.d))), (12, some (.box ((eDelta Y).map V.d)))]) (fun i => q.atoms.length - i) ?_ ?_
  · refine (lead_frp 63 (T := 3) (sz := 1) (es := []) (by simp)).bind ?_
    rintro _ rfl
    refine (lead_frp 65 (T := 26) (sz := 1) (es := [[.sl (γ0 64) (some (3, 1)) []]]) (by simp)).bind ?_
    rintro _ rfl
    refine (lead_frp 66 (T := 3) (sz := 1) (es := [[.int .i64 1]]) (by simp)).bind ?_
    rintro _ rfl
    refine (lead_erp 15 (es := [[.sl (γ0 64) (some (3, 1)) []]]) (by simp)).bind ?_
    rintro _ rfl
    exact Lead.of ⟨0, by omega, rfl, rfl, Nat.le_refl _, by simp [hJ0, erLL, erL, D.er, cP, pS, cI], by simp [hde, hqe, hxe]⟩
  intro i hs t m hi hh
  by_cases hlt : i < q.atoms.length
  · have hwi := wr1 (i := i) (by omega)
    have hmem := List.getElem_mem hlt
    obtain ⟨⟨nm, vs⟩, ha⟩ : ∃ a, a = q.atoms[i] := ⟨_, rfl⟩
    have hn := hJn i hlt
    rw [← ha] at hmem hn
    have hlk := f.lk _ hmem
    have har := f.ar _ hmem
    have hlke := fe.lk _ hmem
    have hare := fe.ar _ hmem
    have hvl := f.vlen _ hmem
    have hvi : ∀ v ∈ vs, 0 ≤ v ∧ v < 5 := fun v hv => by have := f.vin _ hmem v hv; have := f.n5; omega
    rw [← hN] at hlke hare
    have hAl := adL_len a kn i hmem
    have hlx := fun h => a.lenx hmem h
    rw [← hN, ← hY] at hAl
    rw [← hY] at hlx
    rw [adL_eq] at hn hAl
    simp only at hlk har hvl hlke hare hlx
    obtain ⟨A, hA⟩ : ∃ A, A = adA d N Y x.name kn i ⟨nm, vs⟩ := ⟨_, rfl⟩
    obtain ⟨M, hM⟩ : ∃ M, M = adN Y x.name kn i ⟨nm, vs⟩ := ⟨_, rfl⟩
    rw [← hA, ← hM] at hn hAl
    rw [on_len] at hAl
    have hAl' : A.length + M.length ≤ 32 := by split at hAl <;> omega
    obtain ⟨BV, hBV⟩ : ∃ b, b = aVars vs := ⟨_, rfl⟩
    obtain ⟨⟨A1, P⟩, hAP⟩ : ∃ p, p = J i := ⟨_, rfl⟩
    obtain ⟨U, hU⟩ : ∃ u, u = uniL A1 BV := ⟨_, rfl⟩
    obtain ⟨L, hL⟩ : ∃ l, l = ones A ++ negs M := ⟨_, rfl⟩
    have hav := aVars_len5 vs
    obtain ⟨hl5, hrl, hpw, hr5⟩ := hJl i
    have hle := hJs i (by omega)
    have hsg := hJS i
    have huv := uniL_pw (aVars vs) hpw
    have hul := (hJl (i + 1)).1
    obtain ⟨AM, hAM⟩ : ∃ l, l = A ++ M := ⟨_, rfl⟩
    have hLL : L.length = AM.length := by rw [hAM, hL, on_len, List.length_append]
    have hL32 : L.length ≤ 32 := by rw [hLL, hAM, List.length_append]; exact hAl'
    have hLs : ∀ s ∈ AM, s.length = (aVars vs).length := fun s hs => by
      rw [hAM] at hs
      have := (ad_mt a kn i hmem).len
      rw [← hN, ← hY, adL_eq, ← hA, ← hM] at this
      rw [← on_fst] at hs
      obtain ⟨p, hp, rfl⟩ := List.mem_map.1 hs
      exact this p hp
    rw [hn] at hul
    simp only [jdS, ← hAP, ← hBV, ← hL, ← hU] at hn hl5 hrl hr5 hle hsg huv hul hav hLs ⊢
    have hcase : (i < kn) ∨ (kn < i) ∨ (i = kn ∧ nm = x.name) ∨ (i = kn ∧ nm ≠ x.name) := by
      by_cases h1 : i < kn
      · exact .inl h1
      by_cases h2 : kn < i
      · exact .inr (.inl h2)
      by_cases h3 : nm = x.name
      · exact .inr (.inr (.inl ⟨by omega, h3⟩))
      · exact .inr (.inr (.inr ⟨by omega, h3⟩))
    refine anyQ2 fun Q => ?_
    rcases hcase with hc | hc | ⟨hc, hnm⟩ | ⟨hc, hnm⟩
    focus
      have eA : A = abR N ⟨nm, vs⟩ := by rw [hA, adA, if_pos hc]
      have eM : M = [] := by rw [hM, adN, if_pos hc]
      simp [hlt, ← ha, hc, hde, hqe, hxe, s14_35, s14_44, eAtom, cStr, pS, cP, cI]
      refine call_p (w_impl_AtomBindings N ⟨nm, vs⟩ hlke hare hvl.2 hvi) (by simp [hde, eAtom, cStr, pS, cP, cI]) fun hs6 hh6 hl6 => ?_
      simp at hh6
      rw [← eA]
      simp [eReln, hde, hqe, hxe, s14_35, s14_44, eAtom, cStr, pS, cP, cI]
    rotate_left
    focus
      have eA : A = abR d ⟨nm, vs⟩ := by rw [hA, adA, if_neg (by omega), if_pos hc]
      have eM : M = [] := by rw [hM, adN, if_neg (by omega), if_pos hc]
      simp [hlt, ← ha, hc, show ¬ i < kn by omega, hde, hqe, hxe, s14_35, s14_44, eAtom, cStr, pS, cP, cI]
      refine call_p (w_impl_AtomBindings d ⟨nm, vs⟩ hlk har hvl.2 hvi) (by simp [hde, eAtom, cStr, pS, cP, cI]) fun hs6 hh6 hl6 => ?_
      simp at hh6
      rw [← eA]
      simp [eReln, hde, hqe, hxe, s14_35, s14_44, eAtom, cStr, pS, cP, cI]
    rotate_left
    focus
      have hnq := eq_true hnm
      have eA : A = abL vs Y.ins.rows := by rw [hA, adA, if_neg (by omega), if_neg (by omega), if_pos hnm]
      have eM : M = abL vs Y.del.rows := by rw [hM, adN, if_neg (by omega), if_neg (by omega), if_pos hnm]
      have hx2 := hlx hnm
      have hi16 : Y.ins.rows.length ≤ 1000 := by have := nr.i16; rw [← hY] at this; omega
      have hd16 : Y.del.rows.length ≤ 1000 := by have := nr.d16; rw [← hY] at this; omega
      have hR1 := o_impl_rowsOfAtom ⟨nm, vs⟩ Y.ins.rows hvl.2 hvi (fun t ht => (hx2 t (.inl ht)).1) hi16
      have hR2 := p_impl_rowsOfAtom ⟨nm, vs⟩ Y.del.rows hvl.2 hvi (fun t ht => (hx2 t (.inr ht)).1) hd16
      simp only at hR1 hR2
      rw [← eA] at hR1
      rw [← eM] at hR2
      simp [hlt, ← ha, show ¬ i < kn by omega, show ¬ kn < i by omega, hnq, hde, hqe, hxe, s14_35, s14_44, eAtom, cStr, pS, cP, cI]
      refine call_o hR1 (by simp [eAtom, cStr, pS, cP, cI]) fun r7 n7 hs7 hn7 hm7 hp7 => ?_
      simp at hn7
      obtain ⟨E105, hd7, pE0, hEl, hE1⟩ : ∃ E : List (List D), ((r7 = .d (.sl none none []) ∧ E = []) ∨ ∃ g, r7 = .d (.sl (some g) (some (26, 1)) E) ∧ n7 ≤ g ∧ g ∉ idsLL E) ∧ erLL E = A.map (cP cI) ∧ E.length = A.length ∧ ∀ l ∈ E, l.length = 1 := by
        rcases hp7 with ⟨rfl, hA0⟩ | ⟨g, xs, rfl, hg1, hg2, hp1⟩
        · exact ⟨[], .inl ⟨rfl, rfl⟩, by rw [hA0]; rfl, by simp [hA0], by simp⟩
        · exact ⟨_, .inr ⟨g, rfl, hg1, hg2⟩, by rw [erLL_map (er_cS er_cI), ← hp1, List.map_map], by rw [← hp1]; simp, fun l hl => by
            obtain ⟨y, _, rfl⟩ := List.mem_map.1 hl; rfl⟩
      refine ⟨26, 1, E105, by omega, hd7, ?_⟩
      clear hd7
      simp [hde, hqe, hxe, s14_35, s14_44, eAtom, cStr, pS, cP, cI]
      refine call_p hR2 (by simp [eAtom, cStr, pS, cP, cI]) fun hs6 hh6 hl6 => ?_
      simp at hh6
      have hL2 : LenOk 24 (E105.length + M.length) := ⟨by omega, by simp only [maxLen]; omega⟩
      have pE : erLL (E105 ++ M.map (cP cI)) = (A ++ M).map (cP cI) := by
        rw [erLL_app, pE0, ← erLL_pl, List.map_append]
      have hL3 : LenOk 24 (A.length + M.length) := by rw [← hEl]; exact hL2
      have hE2 : E105.length + M.length = (E105 ++ M.map (cP cI)).length := by rw [List.length_append, List.length_map]
      simp [hL2, hL3, hEl, hde, hqe, hxe, s14_35, s14_44, eAtom, cStr, pS, cP, cI]
    rotate_left
    focus
      have eA : A = [] := by rw [hA, adA, if_neg (by omega), if_neg (by omega), if_neg hnm]
      have eM : M = [] := by rw [hM, adN, if_neg (by omega), if_neg (by omega), if_neg hnm]
      have hNil4 := eA
      simp [hlt, ← ha, show ¬ i < kn by omega, show ¬ kn < i by omega, hnm, hde, hqe, hxe, s14_35, s14_44, eAtom, cStr, pS, cP, cI]
    all_goals
      refine call_p (w_impl_AtomVariables ⟨nm, vs⟩) (by simp [eAtom, cStr, pS, cP, cI]) fun hs8 hh8 hl8 => ?_
      simp at hh8
      rw [← hBV]
      simp [hde, hqe, hxe, s14_35, s14_44, eAtom, cStr, pS, cP, cI]
      refine call_p (p_impl_unite A1 BV (by omega)) (by simp [pS, cI]) fun hs9 hh9 hl9 => ?_
      simp at hh9
      rw [← hU]
      simp [hde, hqe, hxe, s14_35, s14_44, eAtom, cStr, pS, cP, cI]
      refine loop_ruleL (X := Nat) (fun k _ => k ≤ P.length) (fun k => [(3, .d (.int .i64 kn)), (4, .ptr 4 0 0), (5, .ptr 5 0 0), (6, .ptr 6 0 0), (8, .ptr 8 0 0), (10, .ptr 10 0 0), (12, .ptr 12 0 0), (14, .d (.pl (A1.map cI))), (16, .d (.pl ((P.map Prod.snd).map cI))), (18, .ptr 18 0 0), (19, .d (.pl (AM.map (cP cI)))), (20, .d (.int .i64 A.length)), (21, .d (.pl (U.map cI))), (22, .own 147 0 (joinW U A1 (P.take k) BV L).length), (23, .own 161 0 (joinW U A1 (P.take k) BV L).length), (68, .d (.pl (q.atoms.map eAtom))), (69, .d (.int .i64 q.atoms.length)), (70, .d (.int .i64 i)), (119, .d (.pl ((P.map Prod.fst).map (cP cI)))), (120, .d (.int .i64 P.length)), (121, .d (.int .i64 k))])
        (fun k => [(4, some (.box ((eDb d).map V.d))), (5, some (.box ((eQuery q).map V.d))), (6, some (.box ((eDelta x).map V.d))), (8, some (.box [.d (.int .i64 0), .d (.sl none none []), .d (.sl none none [])])), (10, some (.box ((eDb N).map V.d))), (12, some (.box ((eDelta Y).map V.d))), (18, some (.box [.d (.str nm), .d (.pl (vs.map cI))])), (147, some (.row 26 1 (((joinW U A1 (P.take k) BV L).map Prod.fst).map (cP cI)))), (161, some (.row 3 1 (((joinW U A1 (P.take k) BV L).map Prod.snd).map cI)))]) (fun k => P.length - k) ?_ ?_
      · refine (lead_slot 22 147 26 1 (by omega) (by omega) (by simp)).bind ?_
        rintro _ rfl
        refine (lead_slot 23 161 3 1 (by omega) (by omega) (by simp)).bind ?_
        rintro _ rfl
        first
          | (have _t := hEl
             refine (lead_frp 105 (T := 26) (sz := 1) (es := E105 ++ M.map (cP cI)) (by simp [cP, pS, cI])).bind ?_
             rintro _ rfl
             refine (lead_erp 19 (es := E105 ++ M.map (cP cI)) (by simp [hEl, List.take_of_length_le, cP, pS, cI])).bind ?_
             rintro _ rfl
             first
               | (have _t := hEl
                  exact Lead.of ⟨0, by omega, rfl, rfl, Nat.le_refl _, by simp [hAM, pE, joinW_nil, cP, pS, cI], by simp [joinW_nil, hde, hqe, hxe, s14_35, s14_44, eAtom, cStr, pS, cP, cI]⟩)
               | exact Lead.of ⟨0, by omega, rfl, rfl, Nat.le_refl _, by simp [hAM, pE, joinW_nil, cP, pS, cI], by simp [joinW_nil, hde, hqe, hxe, s14_35, s14_44, eAtom, cStr, pS, cP, cI]⟩)
          | (have _t := hNil4
             refine (lead_er 19 (x := .sl none none []) (by simp)).bind ?_
             rintro _ rfl
             exact Lead.of ⟨0, by omega, rfl, rfl, Nat.le_refl _, by simp [hAM, eA, eM, D.er, erLL, joinW_nil, cP, pS, cI], by simp [joinW_nil, hde, hqe, hxe, s14_35, s14_44, eAtom, cStr, pS, cP, cI]⟩)
          | exact Lead.of ⟨0, by omega, rfl, rfl, Nat.le_refl _, by simp [hAM, eM, joinW_nil, cP, pS, cI], by simp [joinW_nil, hde, hqe, hxe, s14_35, s14_44, eAtom, cStr, pS, cP, cI]⟩
      intro k hs10 t m hk hh10
      by_cases hkl : k < P.length
      · have hwk := wr1 (i := k) (by omega)
        have hrk := hrl _ (List.getElem_mem hkl)
        have hsk := hsg _ (List.getElem_mem hkl)
        have hz := jnW_zero U A1 P BV L k
        have hAA := jnW_all (u := U) (a := A1) (b := BV) (L := L) hkl
        obtain ⟨⟨r, rs⟩, hr⟩ : ∃ r, r = P[k] := ⟨_, rfl⟩
        rw [← hr] at hrk hsk
        simp only at hrk hsk
        refine anyQ2 fun Q2 => ?_
        simp [hkl, ← hr, hde, hqe, hxe, s14_35, s14_44, eAtom, cStr, pS, cP, cI]
        refine loop_rule (X := Nat) (fun j => j ≤ L.length) (fun j => [(3, .d (.int .i64 kn)), (4, .ptr 4 0 0), (5, .ptr 5 0 0), (6, .ptr 6 0 0), (8, .ptr 8 0 0), (10, .ptr 10 0 0), (12, .ptr 12 0 0), (14, .d (.pl (A1.map cI))), (16, .d (.pl ((P.map Prod.snd).map cI))), (18, .ptr 18 0 0), (19, .d (.pl (AM.map (cP cI)))), (20, .d (.int .i64 A.length)), (21, .d (.pl (U.map cI))), (22, .own 147 0 (jnW U A1 P BV L k j).length), (23, .own 161 0 (jnW U A1 P BV L k j).length), (24, .d (.int .i64 k)), (25, .d (.pl (r.map cI))), (68, .d (.pl (q.atoms.map eAtom))), (69, .d (.int .i64 q.atoms.length)), (70, .d (.int .i64 i)), (119, .d (.pl ((P.map Prod.fst).map (cP cI)))), (120, .d (.int .i64 P.length)), (121, .d (.int .i64 k)), (126, .d (.pl (AM.map (cP cI)))), (127, .d (.int .i64 L.length)), (128, .d (.int .i64 j))])
          (fun j => [(4, some (.box ((eDb d).map V.d))), (5, some (.box ((eQuery q).map V.d))), (6, some (.box ((eDelta x).map V.d))), (8, some (.box [.d (.int .i64 0), .d (.sl none none []), .d (.sl none none [])])), (10, some (.box ((eDb N).map V.d))), (12, some (.box ((eDelta Y).map V.d))), (18, some (.box [.d (.str nm), .d (.pl (vs.map cI))])), (147, some (.row 26 1 (((jnW U A1 P BV L k j).map Prod.fst).map (cP cI)))), (161, some (.row 3 1 (((jnW U A1 P BV L k j).map Prod.snd).map cI)))]) (fun j => L.length - j) 0 (by simp) (by simp [hz, hLL, cP, pS, cI]) (by simp [hz, hde, hqe, hxe, s14_35, s14_44, eAtom, cStr, pS, cP, cI]) ?_
        intro j hs11 t m hj hh11
        by_cases hjl : j < L.length
        · have hwj := wr1 (i := j) (by omega)
          have hjA : j < AM.length := by omega
          have hsl := hLs _ (List.getElem_mem hjA)
          have hsu := jnW_succ (u := U) (a := A1) (b := BV) (L := L) hkl hjl
          have hog : L[j] = (AM[j], if j < A.length then 1 else -1) := by
            have := on_get (A := A) (N := M) (j := j) (by rw [on_len]; rw [hAM] at hjA; simpa using hjA)
            simp only [hL, hAM]; exact this
          rw [hog, ← hr] at hsu
          have hjle := jnW_len (u := U) (a := A1) (P := P) (b := BV) (L := L) (k := k) (j := j) hle hL32
          obtain ⟨s, hs'⟩ : ∃ s, s = AM[j] := ⟨_, rfl⟩
          rw [← hs'] at hsl hsu
          obtain ⟨X, hX⟩ : ∃ x, x = jnW U A1 P BV L k j := ⟨_, rfl⟩
          rw [← hX] at hsu hjle ⊢
          have hLo : LenOk 24 (X.length + 1) := ⟨by omega, by simp only [maxLen]; omega⟩
          have hLo8 : LenOk 8 (X.length + 1) := ⟨by omega, by simp only [maxLen]; omega⟩
          simp [hjl, hjA, ← hs', hde, hqe, hxe, s14_35, s14_44, eAtom, cStr, pS, cP, cI]
          refine call_p (w_impl_AtomVariables ⟨nm, vs⟩) (by simp [eAtom, cStr, pS, cP, cI]) fun hs12 hh12 hl12 => ?_
          simp at hh12
          rw [← hBV]
          simp [hjl, hjA, ← hs', hde, hqe, hxe, s14_35, s14_44, eAtom, cStr, pS, cP, cI]
          refine call_p (w_impl_glue U A1 r BV s (by omega) (fun v hv => (huv.2 v).1 hv) hrk hsl) (by simp [pS, cI]) fun hs13 hh13 hl13 => ?_
          simp at hh13
          cases hg : glB U A1 r BV s
          · rw [hg] at hsu
            simp [hwj, hde, hqe, hxe, s14_35, s14_44, eAtom, cStr, pS, cP, cI]
            exact back (j + 1) (by omega) (by omega) rfl (by simp <;> omega) (by simp [hsu, cP, pS, cI]) (by simp [hsu, hde, hqe, hxe, s14_35, s14_44, eAtom, cStr, pS, cP, cI])
          · rw [hg] at hsu
            have hrs : (P.map Prod.snd)[k]'(by simpa using hkl) = rs := by simp [← hr]
            simp [hwj, hLo, hLo8, hkl, ← hr, List.take_of_length_le, hde, hqe, hxe, s14_35, s14_44, eAtom, cStr, pS, cP, cI]
            repeat' apply And.intro
            all_goals
              refine call_f (w_impl_bit (decide (j < A.length))) (by simp) rfl fun hs14 hh14 => ?_
              simp at hh14
              have w0 : IntKind.i64.wrap 0 = 0 := by decide
              have w1 : IntKind.i64.wrap 1 = 1 := by decide
              have w2 : IntKind.i64.wrap 2 = 2 := by decide
              have wm : IntKind.i64.wrap (-1) = -1 := by decide
              rcases hsk with rfl | rfl <;> by_cases hjA2 : j < A.length
              all_goals
                simp [hjA2] at hsu
                simp [w0, w1, w2, wm, hjA2, hwj, hLo, hLo8, hkl, ← hr, List.take_of_length_le, hde, hqe, hxe, s14_35, s14_44, eAtom, cStr, pS, cP, cI]
                exact back (j + 1) (by omega) (by omega) rfl (by simp <;> omega) (by simp [hsu, cP, pS, cI]) (by simp [w0, w1, w2, wm, hsu, hde, hqe, hxe, cStr, pS, cP, cI])
        · have hn : j = L.length := by omega
          subst hn
          rw [hAA]
          simp [hwk, hde, hqe, hxe, s14_35, s14_44, eAtom, cStr, pS, cP, cI]
          exact back2 (k + 1) (by omega) (by omega) rfl (by simp <;> omega) (by simp [cP, pS, cI]) (by simp [hde, hqe, hxe, s14_35, s14_44, eAtom, cStr, pS, cP, cI])
      · have hn2 : k = P.length := by omega
        subst hn2
        rw [List.take_of_length_le (Nat.le_refl _)]
        simp [hwi, hde, hqe, hxe, s14_35, s14_44, eAtom, cStr, pS, cP, cI]
        refine Back2.lead (lead_frp 147 (T := 26) (sz := 1) (es := ((joinW U A1 P BV L).map Prod.fst).map (cP cI)) (by simp [cP, pS, cI])) ?_
        rintro _ rfl
        refine Back2.lead (lead_frp 161 (T := 3) (sz := 1) (es := ((joinW U A1 P BV L).map Prod.snd).map cI) (by simp)) ?_
        rintro _ rfl
        exact back2 (i + 1) (by omega) (by omega) rfl (by simp <;> omega) (by simp [hn, List.take_of_length_le, cP, pS, cI]) (by simp [hde, hqe, hxe, s14_35, s14_44, eAtom, cStr, pS, cP, cI])
  · have hn : i = q.atoms.length := by omega
    subst hn
    have hJa : (J q.atoms.length).2 = adJ d q x kn := by rw [hJ, hN, hY]; exact (adJ_all kn).symm
    obtain ⟨⟨A1, P⟩, hAP⟩ : ∃ p, p = J q.atoms.length := ⟨_, rfl⟩
    rw [← hAP] at hJa ⊢
    simp only at hJa ⊢
    have hPl : P.length ≤ 131072 := by rw [hJa]; exact adJ_le a kn
    have ho := ad_out a
    have ho5 := f.out5
    obtain ⟨b, hb⟩ : ∃ b : PCnt, b = ⟨q.out.length, adX d q x kn, adC d q x kn⟩ := ⟨_, rfl⟩
    have hbl : b.rows.length = P.length := by rw [hb]; simp [adX, ← hJa]
    have hbc : b.cs = P.map Prod.snd := by rw [hb]; simp only [adC, ← hJa]
    have hbr : ∀ i (h : i < P.length), b.rows[i]'(by omega) = pickR q.out P[i].1 := fun i h => by subst hb; simp [adX, ← hJa]
    have hcs1 : ∀ c ∈ b.cs, -1000000 ≤ c ∧ c ≤ 1000000 := fun c hc => by
      rw [hb] at hc
      have := sg_adC d q x kn c hc
      omega
    have hcl : b.cs.length = b.rows.length := by rw [hbc, hbl, List.length_map]
    have hfit : ∀ i (h : i < P.length), ∀ c ∈ q.out, 0 ≤ c ∧ c < P[i].1.length := fun i h c hc => by
      have h1 := (ad_row a kn (z := P[i].1) (by rw [← hJa]; exact List.mem_map_of_mem (List.getElem_mem h))).1
      have := ho.2 c hc
      omega
    have hrw : IntKind.i64.wrap (q.out.length : Int) = (q.out.length : Int) := wrap64_of (by omega) (by omega)
    simp [hde, hqe, hxe, s14_35, s14_44, eAtom, cStr, pS, cP, cI]
    refine loop_ruleL (X := (Nat × Cnt) × Sl Ints × Ints × Query × Nat) (AdT b P q B)
      (fun p => [(5, .ptr 5 0 0), (8, .ptr 8 0 0), (16, .d (dSl cI p.2.2.1)), (30, .ptr 30 0 0), (172, .d (dSl (cS cI) p.2.1)), (173, .d (.int .i64 P.length)), (174, .d (.int .i64 p.1.1))])
      (fun p => [(5, some (.box ((cQuery p.2.2.2.1).map V.d))), (8, some (.box [.d (.int .i64 0), .d (.sl none none []), .d (.sl none none [])])), (30, some (.box [.d (.int .i64 p.1.2.ar), .d (.sl p.1.2.rows.id p.1.2.rows.T (p.1.2.rows.xs.map (cS cI))), .d (.sl p.1.2.cs.id p.1.2.cs.T (p.1.2.cs.xs.map cI))]))]) (fun p => P.length - p.1.1) ?_ ?_
    · refine (lead_track 172 (x := pS (cP cI) (P.map Prod.fst)) (by simp [pS, cP, cI]) (pn_pS2 _)).bind ?_
      rintro _ ⟨y1, hs6, hh6, q1, t1, i1, rfl⟩
      refine (lead_track 16 (x := pS cI (P.map Prod.snd)) (by simp [pS, cI]) (pn_pS1 _)).bind ?_
      rintro _ ⟨y2, hs7, hh7, q2, t2, i2, rfl⟩
      refine (lead_trackB 5 (l := eQuery q) (by simp [hqe]) (by have := pn_agg (pn_eQuery q); simpa [pnVL, V.pn] using this)).bind ?_
      rintro _ ⟨y3, hs8, hh8, q3, t3, i3, rfl⟩
      obtain ⟨rw1, e1, p1⟩ := rp_sl (tk_S tk_I) (r := .d y1) (by rw [rp, q1]) (by simpa only [V.tk] using t1)
      obtain ⟨sg1, e2, p2⟩ := rp_sl tk_I (r := .d y2) (by rw [rp, q2]) (by simpa only [V.tk] using t2)
      obtain ⟨qy, rfl, p3⟩ := tk_Query y3 q t3 q3
      simp only [V.d.injEq] at e1 e2
      subst e1 e2
      simp at hh6 hh7 hh8
      exact Lead.of ⟨((0, ⟨q.out.length, nilS, nilS⟩), rw1, sg1, qy, hs8), ⟨⟨by simp, rfl, rfl, rfl, ⟨trivial, ok_nilS, ok_nilS⟩, ⟨by simp [cCnt, nilS, cS, cI, dSl, idsL, idsLL, D.ids], by simp [cCnt, nilS, cS, cI, dSl, idsL, idsLL, D.ids], (good_Cnt0 B).wh⟩, by simp [cCnt, nilS, cS, cI, dSl, idsL, idsLL, D.ids]⟩,
        by simp only; omega, Nat.le_refl _, p1, by simpa [plS, map_plI] using p2, p3, fun g hg => by have := i1 g hg; simp only; omega, fun g hg => by have := i2 g hg; simp only; omega, i3⟩, rfl, rfl, by simp; omega, by simp [hrw], by simp [nilS, dSl, hrw]⟩
    rintro ⟨⟨i, y⟩, rw1, sg1, qy, B2⟩ hs t m ⟨hI, hB2, hB3, p1, p2, p3, i1, i2, i3⟩ hh
    simp only at hI hB2 hB3 p1 p2 p3 i1 i2 i3
    have hi := hI.le
    simp only [hbl] at hi
    have hqy : (cQuery qy).map V.d = [V.d (.int .i64 qy.n), V.d (.sl qy.atoms.id qy.atoms.T (qy.atoms.xs.map cAtom)), V.d (.sl qy.out.id qy.out.T (qy.out.xs.map cI))] := by simp [cQuery, cS, cI, dSl]
    have hqo : qy.out.xs = q.out := by rw [← p3]; simp [plQuery, plS, map_plI]
    obtain ⟨b1, b2, b3⟩ := hI.bd2 .nil rfl hcl (by simp) (by rw [hbl]; omega) (by simp) hcs1
    simp only at b1 b2 b3
    have hrl : rw1.xs.length = P.length := by
      have := congrArg List.length p1
      simpa only [List.length_map] using this
    have hsl : sg1.xs.length = P.length := by rw [p2, List.length_map]
    have har : y.ar = (q.out.length : Int) := hI.ar
    by_cases hlt : i < P.length
    · have hwi := wr1 (i := i) (by omega)
      have hltr : i < rw1.xs.length := by omega
      have hlts : i < sg1.xs.length := by omega
      have hri : rw1.xs[i].xs = P[i].1 := by
        have h1 : (rw1.xs.map (plS plI))[i]'(by simpa using hltr) = (P.map Prod.fst)[i]'(by simpa using hlt) := by simp only [p1]
        simpa [plS, map_plI] using h1
      have hsi : sg1.xs[i] = P[i].2 := by simp only [p2, List.getElem_map]
      have hfi := hfit i hlt
      have hbk : ∀ g ∈ (dSl cI y.cs).ids, B2 ≤ g := fun g hg => hI.good.lo g (by rw [cCnt, idsL_app, idsL_app, idsL_cS, idsL_cS]; simp [hg])
      have hpc := hJS q.atoms.length
      rw [← hAP] at hpc
      have hsgn := hpc _ (List.getElem_mem hlt)
      obtain ⟨W, hW⟩ : ∃ W, W = (dSl cI y.cs).ids := ⟨_, rfl⟩
      rw [← hW] at hbk
      have eW : ∀ (ws : List D) g, g < B2 → phi W ws g = none := fun ws g hg => by
        simp only [phi]; rw [if_neg]; intro h; have := hbk g h; omega
      have e1 : ∀ ws, reV (phi W ws) (.d (.sl rw1.id rw1.T (rw1.xs.map (cS cI)))) = .d (.sl rw1.id rw1.T (rw1.xs.map (cS cI))) := fun ws => reV_id (.d (dSl (cS cI) rw1)) fun g hg => eW ws g (i1 g hg)
      have e2 : ∀ ws, reV (phi W ws) (.d (.sl sg1.id sg1.T (sg1.xs.map cI))) = .d (.sl sg1.id sg1.T (sg1.xs.map cI)) := fun ws => reV_id (.d (dSl cI sg1)) fun g hg => eW ws g (i2 g hg)
      have e3 : ∀ ws, reV (phi W ws) (.d (.sl qy.atoms.id qy.atoms.T (qy.atoms.xs.map cAtom))) = .d (.sl qy.atoms.id qy.atoms.T (qy.atoms.xs.map cAtom)) := fun ws => reV_id (.d (dSl cAtom qy.atoms)) fun g hg => eW ws g (i3 g (by
        have hg' : g ∈ (dSl cAtom qy.atoms).ids := hg
        rw [cQuery, idsL_app, idsL_app, idsL_cS, idsL_cS]; simp only [List.mem_append]; exact .inl (.inr hg')))
      have e4 : ∀ ws, reV (phi W ws) (.d (.sl qy.out.id qy.out.T (qy.out.xs.map cI))) = .d (.sl qy.out.id qy.out.T (qy.out.xs.map cI)) := fun ws => reV_id (.d (dSl cI qy.out)) fun g hg => eW ws g (i3 g (by
        have hg' : g ∈ (dSl cI qy.out).ids := hg
        rw [cQuery, idsL_app, idsL_app, idsL_cS, idsL_cS]; simp only [List.mem_append]; exact .inr hg'))
      refine anyQ2 fun Q => ?_
      simp [hlt, hltr, hlts, hde, hqe, hxe, hqy, s14_35, s14_44, eAtom, cStr, cS, cI, dSl]
      repeat' apply And.intro
      all_goals
        refine call_some (t_impl_pick rw1.xs[i] qy.out (by rw [hqo]; omega) (by rw [hqo, hri]; exact hfi)) (by simp [dSl]) (by simp) fun n2 hs2 r2 hn2 hm2 hp2 hr2 => ?_
        obtain ⟨w, rfl, pw, kw, Gw⟩ := hp2
        simp at hn2
        have hT := t_impl_tally y w sg1.xs[i] hI.ok kw hI.good.wh.2.2 hI.good.nd (by omega) b2 (by
          rw [pw, pickR_len, hqo]; omega) (by rw [hsi]; rcases hsgn with h | h <;> rw [h] <;> omega) b3
        rw [← hW] at hT
        simp [hlt, hltr, hlts, hde, hqe, hxe, hqy, s14_35, s14_44, eAtom, cStr, cS, cI, dSl]
        repeat' apply And.intro
        all_goals
          refine call_b (k := 30) (E73) (by simp [dSl]) (by simp [cCnt, cS, cI, dSl]) (by simp) (by simp [cCnt, cS, cI, dSl]) (by simp) (by simp [cCnt, cS, cI, dSl]) (fun g hg => .inl (by have := hbk g hg; simp only; omega)) hT fun n3 hs3 r3 cs3 ws3 hn3 hm3 hp3 hr3 hv3 hw3 => ?_
          obtain ⟨rfl, z, rfl, pz, kz, _, Gz⟩ := hp3
          simp at hn3
          have u3 : ∀ g ∈ idsL (cCnt z), g < hs3 := fun g hg => hv3 g (by rw [idsVL_map_d]; exact hg)
          simp [cCnt, cS, cI, dSl, hwi, e1, e2, e3, e4, hqy, s14_35, s14_44, ]
          refine back2 ((i + 1, z), rw1, sg1, qy, B2) ⟨hI.step (m := n3) hcl (by omega) (by omega) ?_ kz (by omega) (by omega) Gz u3, hB2, by simp only; omega, p1, p2, p3, i1, i2, i3⟩ (by simp only; omega) rfl (by simp <;> omega) (by simp [dSl, e1, e2]) (by simp [hqy, e3, e4])
          rw [pz, hbr i hlt, pw, hri, hqo]
          simp [hbc, hsi]
    · obtain ⟨f1, f2⟩ := hI.fin (by omega) .nil rfl hcl
      have Gr : Good (cS (cS cI) y.rows) (whS (whS whI) y.rows) B := by
        have h1 := hI.good.nd
        rw [cCnt, idsL_app, idsL_app] at h1
        exact ⟨(List.nodup_append.1 (List.nodup_append.1 h1).1).2.1, fun g hg => Nat.le_trans hB2 (hI.good.lo g (by rw [cCnt, idsL_app, idsL_app]; simp [hg])), hI.good.wh.2.1⟩
      have hyl : y.rows.xs.length = (srtU (adX d q x kn)).length := by
        have := congrArg List.length f1
        simp only [plCnt, plS, List.length_map, List.nil_append] at this
        rw [this, hb]
      have hBk : adB d q x kn = decide ((srtU (adX d q x kn)).length ≤ 4000) := by
        rw [adB, hG, Bool.true_and]; rfl
      by_cases h4 : y.rows.xs.length ≤ 4000
      · have hB1 : adB d q x kn = true := by rw [hBk, ← hyl, decide_eq_true h4]
        simp [hlt, show ¬ (4000 : Int) < y.rows.xs.length by omega, hde, hqe, hxe, hqy, s14_35, s14_44, eAtom, cStr, cS, cI, dSl]
        refine call_some (t_impl_settled y hI.ok (by omega) b2) (by simp [cCnt, cS, cI, dSl]) (by simp) fun n4 hs4 r4 hn4 hm4 hp4 hr4 => ?_
        obtain ⟨z, rfl, pz, kz, Gz⟩ := hp4
        simp at hn4
        clear hr4
        have pz' : plCnt z = adP d q x kn := by
          rw [pz, f1, f2, adP, if_pos hB1, har]
          simp only [List.nil_append, hb, sumOf]; rfl
        simp [cCnt, cS, cI, dSl, s14_35, s14_44, ]
        exact ⟨z, ⟨by simp [cCnt, cS, cI, dSl], hB1⟩, pz', kz, Gz B (by omega) Gr⟩
      · have hB1 : adB d q x kn = false := by rw [hBk, ← hyl, decide_eq_false h4]
        simp [hlt, show (4000 : Int) < y.rows.xs.length by omega, hde, hqe, hxe, hqy, s14_35, s14_44, eAtom, cStr, cS, cI, dSl]
        exact hno B hB1
end

end Go.Proofs.YtdnbigokdclclaaGreat


namespace Go.Proofs.YtdnbigokdclclaaGreat
open Go.Vs Go.Proofs Go
set_option maxRecDepth 100000
set_option maxHeartbeats 1000000

@[simp] theorem start6 (a b c d e f : V) (B : Nat) : St.start [a, b, c, d, e, f] B = ⟨B, B, [], upd (upd (upd (upd (upd (upd (fun _ => .tup []) 5 f) 4 e) 3 d) 2 c) 1 b) 0 a, fun _ => none⟩ := by
  simp only [St.start, St.mk.injEq, true_and, and_true]
  funext i; match i with | 0 => rfl | 1 => rfl | 2 => rfl | 3 => rfl | 4 => rfl | 5 => rfl | _ + 6 => rfl
section
attribute [local simp] plI_id plStr_id map_plI map_plStr pS cP cI
theorem w_spec_l28Walk (q : PQuery) (RS : List (List (List Int))) (CS : List (List Int)) (nn : Nat) (H : WkOk q RS CS nn) : ∀ (k n : Nat) (row : List Int) (c : Int), n + k = q.atoms.length → row.length = nn → (c = 1 ∨ c = -1) →
   VC Tryz.prog 56 [.agg ((eQuery q).map V.d), .d (pS (cP (cP cI)) RS), .d (pS (cP cI) CS), .d (.int .i64 n), .d (pS cI row), .d (.int .i64 c)]
    (fun _ r => r = .tup [.d (pS (cP cI) ((walkW ((wAs q RS CS).drop n) row c).map Prod.fst)), .d (pS cI ((walkW ((wAs q RS CS).drop n) row c).map Prod.snd))]) := by
  have hqe : (eQuery q).map V.d = [V.d (.int .i64 q.n), V.d (.pl (q.atoms.map eAtom)), V.d (.pl (q.out.map cI))] := by simp [eQuery]
  intro k
  induction k with
  | zero =>
    intro n row c hn hrow hc
    have hn : n = q.atoms.length := by omega
    subst hn
    have hn5 := H.n5
    have hL : LenOk 8 row.length := ⟨by omega, by simp only [maxLen]; omega⟩
    have hd : (wAs q RS CS).drop q.atoms.length = [] := List.drop_of_length_le (by rw [wAs_len H]; exact Nat.le_refl _)
    rw [hd, walkW]
    clear hd
    refine VC.ofL EP s56 (by kernel_rfl) Tryz.func56 (by rfl) (by kernel_rfl) (by simp [Tryz.f56]) (by simp [Tryz.f56]) s56_ok fun B hl => ?_
    simp [Tryz.f56, s56_14, s56_17, hqe, hL, List.take_of_length_le]
  | succ k ih =>
    intro n row c hn hrow hc
    have hlt : n < q.atoms.length := by omega
    have hmem := List.getElem_mem hlt
    obtain ⟨⟨nm, vs⟩, ha⟩ : ∃ a, a = q.atoms[n] := ⟨_, rfl⟩
    rw [← ha] at hmem
    have hn5 := H.n5
    have ha4 := H.a4
    have hRl := H.rl
    have hCl := H.cl
    have hvi := H.vs _ hmem
    have hne : ¬ n = q.atoms.length := by omega
    have hwn := wr1 (i := n) (by omega)
    obtain ⟨R, hR⟩ : ∃ R, R = RS[n]'(by omega) := ⟨_, rfl⟩
    obtain ⟨C, hC⟩ : ∃ C, C = CS[n]'(by omega) := ⟨_, rfl⟩
    have hlen := H.len n hlt
    have hsg := H.sg _ (List.getElem_mem (show n < CS.length by omega))
    have hdr := wAs_drop H hlt
    rw [← ha, ← hR, ← hC] at hdr
    rw [← ha, ← hR, ← hC] at hlen
    rw [← hC] at hsg
    simp only at hlen hvi hdr
    have hd4 := wAs_d4 H (n + 1)
    have hds := wAs_dsm H (n + 1)
    rw [hdr, walkW_cons]
    simp only
    obtain ⟨AS, hAS⟩ : ∃ AS, AS = (wAs q RS CS).drop (n + 1) := ⟨_, rfl⟩
    rw [← hAS] at hd4 hds ⊢
    have hzl : (R.zip C).length = R.length := by rw [List.length_zip]; omega
    have hnR : n < RS.length := by omega
    have hnC : n < CS.length := by omega
    refine VC.ofL EP s56 (by kernel_rfl) Tryz.func56 (by rfl) (by kernel_rfl) (by simp [Tryz.f56]) (by simp [Tryz.f56]) s56_ok fun B hl => ?_
    obtain ⟨G, hG⟩ : ∃ G : Nat → List (List Int × Int), ∀ i, G i = ((R.zip C).take i).flatMap (wkW AS vs row c) := ⟨_, fun _ => rfl⟩
    have hG0 : G 0 = [] := by rw [hG]; rfl
    have hGs : ∀ i (h : i < R.length), G (i + 1) = G i ++ wkW AS vs row c (R[i], C[i]'(by omega)) := fun i h => by
      rw [hG, hG, flatMap_succ' (by rw [hzl]; exact h), zip_at h (by omega)]
    have hGe : (R.zip C).flatMap (wkW AS vs row c) = G R.length := by rw [hG, List.take_of_length_le (by rw [hzl]; exact Nat.le_refl _)]
    have hGl : ∀ i, (G i).length ≤ min i R.length * 1048576 := fun i => by
      have := wkW_all hd4 hds vs row c ((R.zip C).take i)
      rw [List.length_take, hzl] at this
      rw [hG]; exact this
    rw [hGe]
    simp [Tryz.f56, s56_14, s56_17, s56_14, s56_17, hqe, hlt, ← ha, hne]
    refine loop_rule (X := Nat) (fun i => i ≤ R.length) (fun i => [(1, .d (.pl (RS.map (cP (cP cI))))), (2, .d (.pl (CS.map (cP cI)))), (3, .d (.int .i64 n)), (4, .d (.pl (row.map cI))), (5, .d (.int .i64 c)), (6, .ptr 6 0 0), (14, .own 34 0 (G i).length), (15, .own 35 0 (G i).length), (16, .d (.int .i64 i))])
      (fun i => [(6, some (.box [.d (.int .i64 q.n), .d (.pl (q.atoms.map eAtom)), .d (.pl (q.out.map cI))])), (34, some (.row 26 1 (((G i).map Prod.fst).map (cP cI)))), (35, some (.row 3 1 (((G i).map Prod.snd).map cI)))]) (fun i => R.length - i) 0 (by simp) (by simp [hG0]) (by simp [hG0]) ?_
    intro i hs t m hi hh
    by_cases hil : i < R.length
    · have hwi := wr1 (i := i) (by omega)
      have hiC : i < C.length := by omega
      have htl := hlen.2.2 _ (List.getElem_mem hil)
      have hcc := hsg _ (List.getElem_mem hiC)
      obtain ⟨tt, ht⟩ : ∃ tt, tt = R[i] := ⟨_, rfl⟩
      obtain ⟨tc, htc⟩ : ∃ tc, tc = C[i] := ⟨_, rfl⟩
      have hsu := hGs i hil
      have hln := hGl i
      rw [← ht] at htl hsu
      rw [← htc] at hsu hcc
      obtain ⟨O, hO⟩ : ∃ O, O = G i := ⟨_, rfl⟩
      rw [← hO] at hsu hln ⊢
      have hLr : LenOk 8 row.length := ⟨by omega, by simp only [maxLen]; omega⟩
      simp [hil, hLr, hnR, ← hR, List.take_of_length_le, s56_14, s56_17, ]
      refine loop_rule (X := Nat × List Int × Bool) (fun p => AsS row vs tt p.1 p.2.1 p.2.2) (fun p => [(1, .d (.pl (RS.map (cP (cP cI))))), (2, .d (.pl (CS.map (cP cI)))), (3, .d (.int .i64 n)), (4, .d (.pl (row.map cI))), (5, .d (.int .i64 c)), (6, .ptr 6 0 0), (14, .own 34 0 O.length), (15, .own 35 0 O.length), (16, .d (.int .i64 i)), (17, .own 45 0 row.length), (18, .d (.bool p.2.2)), (19, .d (.int .i64 p.1))])
        (fun p => [(6, some (.box [.d (.int .i64 q.n), .d (.pl (q.atoms.map eAtom)), .d (.pl (q.out.map cI))])), (34, some (.row 26 1 ((O.map Prod.fst).map (cP cI)))), (35, some (.row 3 1 ((O.map Prod.snd).map cI))), (45, some (.row 3 1 (p.2.1.map cI)))]) (fun p => vs.length - p.1) (0, row, true) .zero (by simp) (by simp) ?_
      rintro ⟨j, x, fits⟩ hs4 t m hA hh4
      simp only at hA
      have hle := hA.le
      have hxl := hA.len
      by_cases hcd : fits = true ∧ j < vs.length
      · obtain ⟨rfl, hjl⟩ := hcd
        have hwj := wr1 (i := j) (by omega)
        have hvj := hvi.2 _ (List.getElem_mem hjl)
        have hjt : j < tt.length := by omega
        have hsp := hA.step hjl hjt
        obtain ⟨v, hv⟩ : ∃ v : Nat, vs[j] = (v : Int) := ⟨vs[j].toNat, by omega⟩
        have hvx : v < x.length := by omega
        rw [hv, Int.toNat_natCast, getD_el _ hvx] at hsp
        by_cases h1 : x[v] = -1
        · simp only [h1, true_or, decide_true] at hsp
          rw [hxl] at hvx
          simp [hjl, hv, h1, hlt, ← ha, ← ht, eAtom, cStr, hwj, hvx, hjt, hil, hxl, hnR, ← hR, -List.map_set, s56_14, s56_17, ]
          exact back (j + 1, x.set v tt[j], true) hsp (by simp only; omega) rfl (by simp <;> omega) (by simp) (by simp)
        · simp only [h1, false_or] at hsp
          rw [hxl] at hvx
          simp [hjl, hv, h1, hlt, ← ha, ← ht, eAtom, cStr, hwj, hvx, hjt, hil, hxl, hnR, ← hR, -List.map_set, s56_14, s56_17, ]
          exact back (j + 1, x.set v tt[j], decide (x[v] = tt[j])) hsp (by simp only; omega) rfl (by simp <;> omega) (by simp) (by simp)
      · have hdn := hA.done (fun h => Nat.le_of_not_lt fun h2 => hcd ⟨h, h2⟩)
        cases fits
        · by_cases hjl : j < vs.length
          · simp [hlt, ← ha, eAtom, cStr, hjl, hwi, s56_14, s56_17, ]
            exact back (i + 1) (by omega) (by omega) rfl (by simp <;> omega) (by simp [hsu, wkW, hdn]) (by simp [hsu, wkW, hdn])
          · simp [hlt, ← ha, eAtom, cStr, hjl, hwi, s56_14, s56_17, ]
            exact back (i + 1) (by omega) (by omega) rfl (by simp <;> omega) (by simp [hsu, wkW, hdn]) (by simp [hsu, wkW, hdn])
        · have hjl : ¬ j < vs.length := fun h => hcd ⟨rfl, h⟩
          have hwc : IntKind.i64.wrap (c * tc) = c * tc := by
            rcases hc with rfl | rfl <;> rcases hcc with rfl | rfl <;> decide
          have hx2 : (x.map cI).take row.length = x.map cI := List.take_of_length_le (by simp [hxl])
          have hwl := wkW_le hd4 hds vs row c (tt, tc)
          rw [if_pos rfl] at hdn
          have hwe : wkW AS vs row c (tt, tc) = walkW AS x (c * tc) := by rw [wkW, hdn]
          rw [hwe] at hsu hwl
          obtain ⟨WW, hWW⟩ : ∃ w, w = walkW AS x (c * tc) := ⟨_, rfl⟩
          obtain ⟨F1, hF1⟩ : ∃ w, w = WW.map Prod.fst := ⟨_, rfl⟩
          obtain ⟨F2, hF2⟩ : ∃ w, w = WW.map Prod.snd := ⟨_, rfl⟩
          rw [← hWW] at hsu hwl
          have hf1 : F1.length = WW.length := by rw [hF1, List.length_map]
          have hf2 : F2.length = WW.length := by rw [hF2, List.length_map]
          have hLw : LenOk 24 (O.length + WW.length) := ⟨by omega, by simp only [maxLen]; omega⟩
          have hLw8 : LenOk 8 (O.length + WW.length) := ⟨by omega, by simp only [maxLen]; omega⟩
          have hih := ih (n + 1) x (c * tc) (by omega) (by omega) (sg_mul hc hcc)
          rw [← hAS, ← hWW, ← hF1, ← hF2] at hih
          simp [hlt, ← ha, eAtom, cStr, hjl, hwi, hwn, hwc, hnC, ← hC, hiC, ← htc, s56_14, s56_17, ]
          repeat' apply And.intro
          all_goals
            refine call_p hih (by simp [hqe, hx2, show row.length ≤ x.length by omega]) fun hs5 hh5 hl5 => ?_
            simp at hh5
            simp [hwi, hf1, hf2, hLw, hLw8, s56_14, s56_17, ]
            repeat' apply And.intro
            all_goals exact back (i + 1) (by omega) (by omega) rfl (by simp <;> omega) (by simp [hsu]) (by simp [hsu, hF1, hF2, List.take_of_length_le])
    · have hn : i = R.length := by omega
      subst hn
      obtain ⟨O, hO⟩ : ∃ O, O = G R.length := ⟨_, rfl⟩
      rw [← hO]
      simp [hil, hnR, ← hR, List.take_of_length_le, s56_14, s56_17, ]
end

end Go.Proofs.YtdnbigokdclclaaGreat

