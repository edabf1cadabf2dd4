/-
  P6B2: a part of a proof of this seat: the value-level semantics of Go code without maps, its walk rules, the frame of a row, facts of types, schedules, walks, plain lemmas (Q3 V1 P2 N1 N2 S3 N3 M1 P5 P5b M2 M3 M4 M5 M6 M7 M8 M9 M10 S6 S9 S10 S11 S12 S13 P5c P5d P5e E1 K10 K11). It holds of every program and state that its hypotheses name.
-/
import Derived.Test.YtggbpdjjlgejmaaGreatP6B1
set_option linter.unusedSimpArgs false
set_option linter.unusedVariables false
set_option linter.unnecessarySimpa false
namespace Go.Proofs.YtggbpdjjlgejmaaGreat
open Go.Vs Go.Proofs Go
set_option maxRecDepth 100000
set_option maxHeartbeats 1000000

section
attribute [local simp] plI_id plStr_id map_plI map_plStr pS cP cI cStr cU8 cB eAtom
theorem w_impl_IsValidQuery (q : PQuery) : VC Tryz.prog 132 [.agg ((eQuery q).map V.d)] (fun _ r => r = .d (.bool (queryOk q))) := by
  refine VC.ofL EP s132 (by kernel_rfl) Tryz.func132 (by rfl) (by kernel_rfl) (by simp [Tryz.f132]) (by simp [Tryz.f132]) s132_ok fun B hl => ?_
  obtain ⟨n, ats, out⟩ := q
  simp [pS, maxLen, eQuery] at hl
  simp [Tryz.f132, eQuery]
  refine call_f (w_impl_within n 1 5) (by simp) rfl fun hs1 hh1 => ?_
  simp at hh1
  cases h1 : inR n 1 5
  · simp [queryOk_n (q := ⟨n, ats, out⟩) h1]
  have hn : 1 ≤ n ∧ n ≤ 5 := by simpa [inR] using h1
  obtain ⟨N, rfl⟩ : ∃ N : Nat, n = (N : Int) := ⟨n.toNat, by omega⟩
  simp [eQuery]
  refine call_f (w_impl_within ats.length 1 4) (by simp) rfl fun hs2 hh2 => ?_
  simp at hh2
  cases h2 : inR (ats.length : Int) 1 4
  · simp [queryOk_a (q := ⟨N, ats, out⟩) h2]
  have ha4 : ats.length ≤ 4 := by simp [inR] at h2; omega
  simp [eQuery]
  refine call_f (w_impl_isSetOf out N) (by simp) rfl fun hs3 hh3 => ?_
  simp at hh3
  cases h3 : setOf out N
  · simp [queryOk_o (q := ⟨N, ats, out⟩) h3]
  have hvl : ∀ i (h : i < ats.length), ats[i].vars.length ≤ 9223372036854775807 := fun i h => (hl.1.2 _ (List.getElem_mem h))
  have hL : LenOk 1 N := ⟨by omega, by simp only [maxLen]; omega⟩
  have hwN : IntKind.i64.wrap ((N : Int) - 1) = N - 1 := wrap64_of (by omega) (by omega)
  simp [hL, ]
  refine loop_rule (X := Nat) (AtI N ats) (fun i => [(3, .d (.int .i64 N)), (4, .own 31 0 N), (33, .d (.pl (ats.map eAtom))), (34, .d (.int .i64 ats.length)), (35, .d (.int .i64 i))])
    (fun i => [(31, some (.row 4 1 ((usedL N (varsIn (ats.take i))).map cB)))]) (fun i => ats.length - i) 0 .zero (by simp) (by simp [usedL_nil, varsIn]) ?_
  intro i hs t m hi hh
  have hil := hi.le
  by_cases hlt : i < ats.length
  · have hwi := wr1 (i := i) (by omega)
    have hbad : atomOk N ats[i] = false → queryOk ⟨N, ats, out⟩ = false := fun h => queryOk_at (q := ⟨N, ats, out⟩) hlt h
    have hvs : varsIn (ats.take (i + 1)) = varsIn (ats.take i) ++ ats[i].vars := by
      rw [varsIn, List.take_succ_eq_append_getElem hlt, List.flatMap_append]; simp only [varsIn, List.flatMap_cons, List.flatMap_nil, List.append_nil]
    simp [hlt, ]
    refine call_f (w_impl_IsValidName ats[i].rel) (by simp) rfl fun hs3 hh3 => ?_
    simp at hh3
    cases h4 : nameOk ats[i].rel
    · simp [hbad (by simp only [atomOk, h4, Bool.false_and])]
    simp []
    refine call_f (w_impl_within ats[i].vars.length 1 5) (by simp) rfl fun hs4 hh4 => ?_
    simp at hh4
    cases h5 : inR (ats[i].vars.length : Int) 1 5
    · simp [hbad (by simp only [atomOk, h5, Bool.false_and, Bool.and_false])]
    simp []
    obtain ⟨us, hus⟩ : ∃ us, us = varsIn (ats.take i) := ⟨_, rfl⟩
    rw [← hus] at hvs ⊢
    obtain ⟨vs, hvse⟩ : ∃ vs, vs = ats[i].vars := ⟨_, rfl⟩
    have hvi := hvl i hlt
    rw [← hvse] at hvs hvi h5
    refine loop_rule (X := Nat) (AtK N vs) (fun k => [(3, .d (.int .i64 N)), (4, .own 31 0 N), (33, .d (.pl (ats.map eAtom))), (34, .d (.int .i64 ats.length)), (35, .d (.int .i64 i)), (51, .d (.pl (vs.map cI))), (52, .d (.int .i64 vs.length)), (53, .d (.int .i64 k))])
      (fun k => [(31, some (.row 4 1 ((usedL N (us ++ vs.take k)).map cB)))]) (fun k => vs.length - k) 0 .zero (by simp [hvse]) (by simp [hus]) ?_
    intro k hs t m hk hh
    have hkl := hk.le
    by_cases hkt : k < vs.length
    · have hwk := wr1 (i := k) (by omega)
      simp [hkt, ]
      refine call_f (w_impl_within vs[k] 0 (IntKind.i64.wrap ((N : Int) - 1))) (by simp) rfl fun hs5 hh5 => ?_
      simp at hh5
      cases h6 : inR vs[k] 0 (IntKind.i64.wrap ((N : Int) - 1))
      · have hq := hbad (atomOk_bad (k := k) (by rw [← hvse]; exact hkt) (by simpa only [← hvse] using h6))
        simp [hq]
      · have hst := hk.step hkt h6
        rw [hwN] at h6
        simp only [inR, Bool.and_eq_true, decide_eq_true_eq] at h6
        obtain ⟨p, hp⟩ : ∃ p : Nat, vs[k] = (p : Int) := ⟨vs[k].toNat, by omega⟩
        have hpN : p < N := by omega
        have hset : usedL N (us ++ vs.take (k + 1)) = (usedL N (us ++ vs.take k)).set p true := by
          rw [usedL_snoc hpN, List.append_assoc, List.take_succ_eq_append_getElem hkt, hp]
        simp [hp, hpN, hwk, ]
        exact back (k + 1) hst (by omega) rfl (by simp <;> omega) (by simp) (by simp [hset])
    · have hao := atomOk_done (n := N) (a := ats[i]) (k := k) (by rw [← hvse]; exact hk) (by rw [← hvse]; omega) h4 (by rw [← hvse]; exact h5)
      have hd : vs.take k = vs := List.take_of_length_le (by omega)
      simp [hkt, hwi, hd, ]
      exact back (i + 1) (hi.step hlt hao) (by omega) rfl (by simp <;> omega) (by simp) (by simp [hvs])
  have hall := allTo_done hi.ok (by omega)
  have hd : ats.take i = ats := List.take_of_length_le (by omega)
  rw [hd]
  simp [hlt, ]
  have hu := usesAll_iff (n := (N : Int)) (l := ats)
  rw [Int.toNat_natCast] at hu
  refine loop_rule (X := Nat) (fun j => j ≤ N ∧ AllTo id (usedL N (varsIn ats)) j) (fun j => [(67, .own 31 0 N), (68, .d (.int .i64 N)), (69, .d (.int .i64 j))]) (fun _ => [(31, some (.row 4 1 ((usedL N (varsIn ats)).map cB)))]) (fun j => N - j) 0 ⟨by simp, allTo_zero⟩ (by simp) (by simp) ?_
  intro j hs t m hj hh
  by_cases hjt : j < N
  · have hwj := wr1 (i := j) (by omega)
    have hjl : j < (usedL N (varsIn ats)).length := by simpa using hjt
    cases h6 : (usedL N (varsIn ats))[j]
    · have hq : queryOk ⟨N, ats, out⟩ = false := queryOk_u (q := ⟨N, ats, out⟩) (by rw [hu]; exact all_bad (p := id) hjl h6)
      simp [hjt, h6, hq, ]
    · simp [hjt, h6, hwj, ]
      exact back (j + 1) ⟨by omega, allTo_step hj.2 hjl h6⟩ (by omega) rfl (by simp <;> omega) (by simp) (by simp)
  · have hus : usesAll N ats = true := by rw [hu]; exact allTo_done hj.2 (by simp; omega)
    simp [hjt, queryOk_all (q := ⟨N, ats, out⟩) h1 h2 h3 hall hus]
end

end Go.Proofs.YtggbpdjjlgejmaaGreat


namespace Go.Proofs.YtggbpdjjlgejmaaGreat
open Go.Vs Go.Proofs Go
set_option maxRecDepth 100000
set_option maxHeartbeats 1000000

section
attribute [local simp] plI_id plStr_id map_plI map_plStr pS cP cI cStr cU8 cB eTab eReln
theorem w_impl_IsValidDatabase (d : PDb) : VC Tryz.prog 133 [.agg ((eDb d).map V.d)] (fun _ r => r = .d (.bool (dbOk d))) := by
  refine VC.ofL EP s133 (by kernel_rfl) Tryz.func133 (by rfl) (by kernel_rfl) (by simp [Tryz.f133]) (by simp [Tryz.f133]) s133_ok fun B hl => ?_
  obtain ⟨l⟩ := d
  by_cases h6 : (6 : Int) < l.length
  · have : dbOk ⟨l⟩ = false := by
      have : ¬ l.length ≤ 6 := by omega
      simp only [dbOk, this, decide_false, Bool.false_and]
    simp [Tryz.f133, s133_6, s133_6, eDb, h6, this]
  simp [Tryz.f133, s133_6, s133_6, eDb, h6]
  refine loop_rule (X := Nat) (DbTo l) (fun i => [(1, .ptr 1 0 0), (10, .d (.pl (l.map eTab))), (11, .d (.int .i64 l.length)), (12, .d (.int .i64 i))]) (fun _ => [(1, some (.box [.d (.pl (l.map eTab))]))]) (fun i => l.length - i) 0 .zero (by simp) (by simp) ?_
  intro i hs t m hi hh
  have hil := hi.le
  by_cases hlt : i < l.length
  case neg =>
    have hd := hi.done (by omega)
    simp [hlt, hd]
    omega
  have hwi := wr1 (i := i) (by omega)
  have hat := dbAt_eq hlt
  have hbad : dbAt l i = false → dbOk ⟨l⟩ = false := dbOk_bad hlt
  obtain ⟨nm, ar, rows, hT⟩ : ∃ nm ar rows, l[i] = ⟨nm, ⟨ar, rows⟩⟩ := ⟨_, _, _, rfl⟩
  rw [hT] at hat
  simp only [tabOk] at hat
  simp [hlt, hT, s133_6, ]
  refine call_f (w_impl_IsValidName nm) (by simp) rfl fun hs1 hh1 => ?_
  simp at hh1
  cases h1 : nameOk nm
  · have hb := hbad (by rw [hat, h1]; simp)
    simp [hb, s133_6, ]
  by_cases h0 : i = 0
  · subst h0
    have hwi0 : IntKind.i64.wrap 1 = 1 := by simpa using hwi
    simp [hT, s133_6, ]
    refine call_f (w_impl_IsValidRelation ⟨ar, rows⟩) (by simp [eReln]) rfl fun hs2 hh2 => ?_
    simp at hh2
    cases h3 : rowsOk ar rows
    · have hb := hbad (by rw [hat, h3]; simp)
      simp [hb, s133_6, ]
    by_cases h4 : ar < 1
    · have hb := hbad (by rw [hat]; have : ¬ 1 ≤ ar := by omega
                          simp [this])
      simp [h4, hb, hT, s133_6, ]
    by_cases h5 : (16 : Int) < rows.length
    · have hb := hbad (by rw [hat]; have : ¬ rows.length ≤ 16 := by omega
                          simp [this])
      simp [h4, h5, hb, hT, s133_6, ]
    have hok : dbAt l 0 = true := by
      have a4 : 1 ≤ ar := by omega
      have a5 : rows.length ≤ 16 := by omega
      rw [hat, h1, h3]; simp [a4, a5]
    simp [h4, h5, hT, hwi0, s133_6, ]
    exact back 1 (hi.step hlt hok) (by omega) rfl (by simp <;> omega) (by simp) (by simp)
  · have h0' : 0 < i := by omega
    have hw : IntKind.i64.wrap ((i : Int) - 1) = ((i - 1 : Nat) : Int) := by rw [wrap64_of (by omega) (by omega)]; omega
    have hlt1 : i - 1 < l.length := by omega
    cases h2 : Op.bytesLess (l[i - 1]'(by omega)).name nm
    · have hb := hbad (by rw [hat, h2]; simp [h0])
      simp [h0, h0', hw, hlt1, hT, h2, hb, s133_6, ]
    simp [h0, h0', hw, hlt1, hT, h2, s133_6, ]
    refine call_f (w_impl_IsValidRelation ⟨ar, rows⟩) (by simp [eReln]) rfl fun hs2 hh2 => ?_
    simp at hh2
    cases h3 : rowsOk ar rows
    · have hb := hbad (by rw [hat, h3]; simp)
      simp [hb, s133_6, ]
    by_cases h4 : ar < 1
    · have hb := hbad (by rw [hat]; have : ¬ 1 ≤ ar := by omega
                          simp [this])
      simp [h4, hb, hT, s133_6, ]
    by_cases h5 : (16 : Int) < rows.length
    · have hb := hbad (by rw [hat]; have : ¬ rows.length ≤ 16 := by omega
                          simp [this])
      simp [h4, h5, hb, hT, s133_6, ]
    have hok : dbAt l i = true := by
      have a4 : 1 ≤ ar := by omega
      have a5 : rows.length ≤ 16 := by omega
      rw [hat, h1, h3]; simp [a4, a5, h2]
    simp [h4, h5, hT, hwi, s133_6, ]
    exact back (i + 1) (hi.step hlt hok) (by omega) rfl (by simp <;> omega) (by simp) (by simp)
theorem w_spec_IsValidDatabase (d : PDb) (hst : ∀ t ∈ d.tabs, t.name.length ≤ maxLen) : VC Tryz.prog 128 [.agg ((eDb d).map V.d)] (fun _ r => r = .d (.bool (dbOk d))) := by
  refine VC.ofL EP s128 (by kernel_rfl) Tryz.func128 (by rfl) (by kernel_rfl) (by simp [Tryz.f128]) (by simp [Tryz.f128]) s128_ok fun B hl => ?_
  obtain ⟨l⟩ := d
  simp [pS, maxLen, eDb] at hl
  simp only at hst
  simp [Tryz.f128, s128_5, s128_5, eDb]
  refine loop_rule (X := Nat) (DbTo l) (fun i => [(1, .ptr 1 0 0), (3, .d (.int .i64 i))]) (fun _ => [(1, some (.box [.d (.pl (l.map eTab))]))]) (fun i => l.length - i) 0 .zero (by simp) (by simp) ?_
  intro i hs t m hi hh
  have hil := hi.le
  by_cases hlt : i < l.length
  case neg =>
    have hd := hi.done (by omega)
    simp [hlt, hd]
    omega
  have hwi := wr1 (i := i) (by omega)
  have hat := dbAt_eq hlt
  have hbad : dbAt l i = false → dbOk ⟨l⟩ = false := dbOk_bad hlt
  obtain ⟨nm, ar, rows, hT⟩ : ∃ nm ar rows, l[i] = ⟨nm, ⟨ar, rows⟩⟩ := ⟨_, _, _, rfl⟩
  rw [hT] at hat
  simp only [tabOk] at hat
  have hnl : nm.length ≤ maxLen := by have := hst l[i] (List.getElem_mem hlt); rwa [hT] at this
  simp [hlt, hT, s128_5, ]
  refine call_f (w_spec_IsValidName nm hnl) (by simp) rfl fun hs1 hh1 => ?_
  simp at hh1
  cases h1 : nameOk nm
  · have hb := hbad (by rw [hat, h1]; simp)
    simp [hb, s128_5, ]
  by_cases h0 : i = 0
  · subst h0
    have hwi0 : IntKind.i64.wrap 1 = 1 := by simpa using hwi
    simp [hT, s128_5, ]
    refine call_f (w_spec_IsValidRelation ⟨ar, rows⟩) (by simp [eReln]) rfl fun hs2 hh2 => ?_
    simp at hh2
    cases h3 : rowsOk ar rows
    · have hb := hbad (by rw [hat, h3]; simp)
      simp [hb, s128_5, ]
    by_cases h5 : (16 : Int) < rows.length
    · have hb := hbad (by rw [hat]; have : ¬ rows.length ≤ 16 := by omega
                          simp [this])
      simp [h5, hb, hT, s128_5, ]
    by_cases h4 : ar < 1
    · have hb := hbad (by rw [hat]; have : ¬ 1 ≤ ar := by omega
                          simp [this])
      simp [h4, h5, hb, hT, s128_5, ]
    have hok : dbAt l 0 = true := by
      have a4 : 1 ≤ ar := by omega
      have a5 : rows.length ≤ 16 := by omega
      rw [hat, h1, h3]; simp [a4, a5]
    simp [h4, h5, hT, hwi0, s128_5, ]
    exact back 1 (hi.step hlt hok) (by omega) rfl (by simp <;> omega) (by simp) (by simp)
  · have h0' : 0 < i := by omega
    have hw : IntKind.i64.wrap ((i : Int) - 1) = ((i - 1 : Nat) : Int) := by rw [wrap64_of (by omega) (by omega)]; omega
    have hlt1 : i - 1 < l.length := by omega
    cases h2 : Op.bytesLess (l[i - 1]'(by omega)).name nm
    · have hb := hbad (by rw [hat, h2]; simp [h0])
      simp [h0, h0', hw, hlt1, hT, h2, hb, s128_5, ]
    simp [h0, h0', hw, hlt1, hT, h2, s128_5, ]
    refine call_f (w_spec_IsValidRelation ⟨ar, rows⟩) (by simp [eReln]) rfl fun hs2 hh2 => ?_
    simp at hh2
    cases h3 : rowsOk ar rows
    · have hb := hbad (by rw [hat, h3]; simp)
      simp [hb, s128_5, ]
    by_cases h5 : (16 : Int) < rows.length
    · have hb := hbad (by rw [hat]; have : ¬ rows.length ≤ 16 := by omega
                          simp [this])
      simp [h5, hb, hT, s128_5, ]
    by_cases h4 : ar < 1
    · have hb := hbad (by rw [hat]; have : ¬ 1 ≤ ar := by omega
                          simp [this])
      simp [h4, h5, hb, hT, s128_5, ]
    have hok : dbAt l i = true := by
      have a4 : 1 ≤ ar := by omega
      have a5 : rows.length ≤ 16 := by omega
      rw [hat, h1, h3]; simp [a4, a5, h2]
    simp [h4, h5, hT, hwi, s128_5, ]
    exact back (i + 1) (hi.step hlt hok) (by omega) rfl (by simp <;> omega) (by simp) (by simp)
end

end Go.Proofs.YtggbpdjjlgejmaaGreat


namespace Go.Proofs.YtggbpdjjlgejmaaGreat
open Go.Vs Go.Proofs Go
set_option maxRecDepth 100000
set_option maxHeartbeats 1000000

theorem w_spec_l5Copy (r : PReln) (hb : r.rows.length ≤ 4294967296) (hb2 : ∀ x ∈ r.rows, x.length ≤ 4294967296) : VC Tryz.prog 113 [.agg ((eReln r).map .d)] (fun _ v => v = .agg ((eReln r).map .d)) := by
  obtain ⟨ar, l⟩ := r
  simp only at hb hb2
  refine VC.ofL EP s113 (by kernel_rfl) Tryz.func113 (by rfl) (by kernel_rfl) (by simp [Tryz.f113]) (by simp [Tryz.f113]) s113_ok fun B hl => ?_
  simp [Tryz.f113, s113_5, eReln]
  refine loop_ruleL (X := Nat) (fun i _ => i ≤ l.length) (fun i => [(1, .ptr 1 0 0), (2, .ptr 2 0 0), (3, .ptr 3 0 0), (4, .d (.int .i64 i))])
    (fun i => [(1, some (.box [.d (.int .i64 ar), .d (.pl (l.map (cP cI)))])), (2, some (.box [.d (.int .i64 0), .d (.sl none none [])])), (3, some (.box [.d (.int .i64 ar), .own 25 0 i])), (25, some (.row 26 1 ((l.take i).map (cP cI))))]) (fun i => l.length - i) ?_ ?_
  · refine (lead_box 3 1 25 26 1 [.d (.int .i64 ar), .d (.sl none none [])] (by omega) (by omega) (by omega) (by simp) rfl).bind ?_
    rintro _ rfl
    exact Lead.of ⟨0, by simp, rfl, rfl, Nat.le_refl _, by simp, by simp⟩
  · intro i hs t m hi hh
    by_cases hlt : i < l.length
    · have hwi := wr1 (i := i) (by omega)
      have hL : LenOk 24 (i + 1) := ⟨by omega, by simp only [maxLen]; omega⟩
      have hx := hb2 _ (List.getElem_mem hlt)
      have hL2 : LenOk 8 l[i].length := ⟨by omega, by simp only [maxLen]; omega⟩
      simp [hlt, hL, hL2, hwi, List.take_of_length_le, show min i l.length = i by omega, s113_5, ]
      refine back2 (i + 1) (by omega) (by omega) rfl (by simp <;> omega) (by simp) ?_
      simp
      rw [List.take_succ_eq_append_getElem (by simpa using hlt)]; simp
    · have hn : i = l.length := by omega
      subst hn
      simp [List.take_of_length_le]
theorem w_spec_CountedFromRelation (r : PReln) : VC Tryz.prog 85 [.agg ((eReln r).map .d)] (fun _ v => v = .tup [.agg ((eCnt (cntOf r)).map .d), .d (.bool (rowsOk r.ar r.rows))]) := by
  refine VC.ofL EP s85 (by kernel_rfl) Tryz.func85 (by rfl) (by kernel_rfl) (by simp [Tryz.f85]) (by simp [Tryz.f85]) s85_ok fun B hl => ?_
  simp [eReln, maxLen] at hl
  simp [Tryz.f85, eReln]
  refine call_f (w_spec_IsValidRelation r) (by simp [eReln]) rfl fun hs0 hh0 => ?_
  simp at hh0
  cases h1 : rowsOk r.ar r.rows
  · simp [cntOf, h1, eCnt]
  have hlen := rowsOk_len h1
  have hrow := rowsOk_row h1
  simp
  refine call_p (w_spec_l5Copy r (by omega) (fun x hx => by have := hrow x hx; omega)) (by simp [eReln]) fun hs1 hh1 _ => ?_
  simp at hh1
  simp [eReln]
  refine loop_ruleL (X := Nat) (fun i _ => i ≤ r.rows.length) (fun i => [(1, .ptr 1 0 0), (2, .ptr 2 0 0), (5, .ptr 5 0 0), (6, .d (.int .i64 i))])
    (fun i => [(1, some (.box [.d (.int .i64 r.ar), .d (.pl (r.rows.map (cP cI)))])), (2, some (.box [.d (.int .i64 0), .d (.sl none none []), .d (.sl none none [])])), (5, some (.box [.d (.int .i64 r.ar), .d (.pl (r.rows.map (cP cI))), .own 28 0 i])), (28, some (.row 3 1 ((List.replicate i 1).map cI)))]) (fun i => r.rows.length - i) ?_ ?_
  · refine (lead_box 5 2 28 3 1 [.d (.int .i64 r.ar), .d (.pl (r.rows.map (cP cI))), .d (.sl none none [])] (by omega) (by omega) (by omega) (by simp) rfl).bind ?_
    rintro _ rfl
    exact Lead.of ⟨0, by simp, rfl, rfl, Nat.le_refl _, by simp, by simp⟩
  · intro i hs t m hi hh
    by_cases hlt : i < r.rows.length
    · have hwi := wr1 (i := i) (by omega)
      have hL : LenOk 8 (i + 1) := ⟨by omega, by simp only [maxLen]; omega⟩
      simp [hlt, hL, hwi, ]
      refine back2 (i + 1) (by omega) (by omega) rfl (by simp <;> omega) (by simp) ?_
      simp [List.replicate_succ']
    · have hn : i = r.rows.length := by omega
      subst hn
      simp [cntOf, h1, eCnt, List.take_of_length_le]

end Go.Proofs.YtggbpdjjlgejmaaGreat


namespace Go.Proofs.YtggbpdjjlgejmaaGreat
open Go.Vs Go.Proofs Go
set_option maxRecDepth 100000
set_option maxHeartbeats 1000000

section
attribute [local simp] plI_id plStr_id map_plI map_plStr pS cP cI cStr cU8 cB
theorem q_impl_copyInts (l : List Int) (hb : l.length ≤ 4294967296) : VC Tryz.prog 101 [.d (pS cI l)] (fun _ r => r = .d (pS cI l)) := by
  refine VC.ofL EP s101 (by kernel_rfl) Tryz.func101 (by rfl) (by kernel_rfl) (by simp [Tryz.f101]) (by simp [Tryz.f101]) s101_ok fun B hl => ?_
  have hL : LenOk 8 l.length := ⟨by omega, by simp only [maxLen]; omega⟩
  simp [Tryz.f101, hL, List.take_of_length_le]
theorem q_impl_copyRows (l : List (List Int)) (hb : l.length ≤ 4294967296) (hb2 : ∀ r ∈ l, r.length ≤ 4294967296) : VC Tryz.prog 95 [.d (pS (cP cI) l)] (fun _ r => r = .d (pS (cP cI) l)) := by
  refine VC.ofL EP s95 (by kernel_rfl) Tryz.func95 (by rfl) (by kernel_rfl) (by simp [Tryz.f95]) (by simp [Tryz.f95]) s95_ok fun B hl => ?_
  simp [Tryz.f95, ]
  refine loop_ruleL (X := Nat) (fun i _ => i ≤ l.length) (fun i => [(3, .own 16 0 i), (6, .d (.pl (l.map (cP cI)))), (7, .d (.int .i64 l.length)), (8, .d (.int .i64 i))]) (fun i => [(16, some (.row 26 1 ((l.take i).map (cP cI))))]) (fun i => l.length - i) ?_ ?_
  · refine (lead_slot 3 16 26 1 (by omega) (by omega) (by simp)).bind ?_
    rintro _ rfl
    exact Lead.of ⟨0, by omega, rfl, rfl, Nat.le_refl _, by simp, by simp⟩
  intro i hs t m hi hh
  by_cases hlt : i < l.length
  · have hwi := wr1 (i := i) (by omega)
    have hL : LenOk 24 (i + 1) := ⟨by omega, by simp only [maxLen]; omega⟩
    have hmn : min i l.length = i := by omega
    have hst2 : List.take (i + 1) (List.map (cP cI) l) = List.take i (List.map (cP cI) l) ++ [cP cI l[i]] := by
      rw [List.take_succ_eq_append_getElem (by simpa using hlt)]; simp
    simp [hlt, ]
    refine call_p (q_impl_copyInts l[i] (hb2 _ (List.getElem_mem hlt))) (by simp) fun hs1 hh1 hl1 => ?_
    simp at hh1
    simp [hwi, hL, hmn, ]
    exact back2 (i + 1) (by omega) (by omega) rfl (by simp <;> omega) (by simp) (by simp [hst2])
  · have hn : i = l.length := by omega
    subst hn
    simp [List.take_of_length_le]
theorem q_impl_copyRelation (r : PReln) (hb : r.rows.length ≤ 4294967296) (hb2 : ∀ x ∈ r.rows, x.length ≤ 4294967296) : VC Tryz.prog 145 [.agg ((eReln r).map V.d)] (fun _ v => v = .agg ((eReln r).map V.d)) := by
  refine VC.ofL EP s145 (by kernel_rfl) Tryz.func145 (by rfl) (by kernel_rfl) (by simp [Tryz.f145]) (by simp [Tryz.f145]) s145_ok fun B hl => ?_
  simp [Tryz.f145, s145_1, s145_1, eReln]
  refine call_p (q_impl_copyRows r.rows hb hb2) (by simp) fun hs1 hh1 hl1 => ?_
  simp at hh1
  simp [s145_1, ]
theorem w_impl_ContainsRow (r : PReln) (row : List Int) (hb : r.rows.length ≤ 4294967296) : VC Tryz.prog 144 [.agg ((eReln r).map V.d), .d (pS cI row)] (fun _ v => v = .d (.bool (hasR r row))) := by
  refine VC.ofL EP s144 (by kernel_rfl) Tryz.func144 (by rfl) (by kernel_rfl) (by simp [Tryz.f144]) (by simp [Tryz.f144]) s144_ok fun B hl => ?_
  simp [Tryz.f144, eReln]
  refine call_f (w_impl_place r.rows row hb) (by simp) rfl fun hs1 hh1 => ?_
  simp at hh1
  simp []
  refine call_f (w_impl_IsValidRelation r) (by simp [eReln]) rfl fun hs2 hh2 => ?_
  simp at hh2
  cases h : rowsOk r.ar r.rows <;> simp [hasR, h]
theorem w_impl_LookupRelation (d : PDb) (nm : List UInt8) : VC Tryz.prog 117 [.agg ((eDb d).map V.d), .d (.str nm)] (fun _ v => v = .tup [.agg ((eReln (lkR d nm)).map V.d), .d (.bool (lkB d nm))]) := by
  refine VC.ofL EP s117 (by kernel_rfl) Tryz.func117 (by rfl) (by kernel_rfl) (by simp [Tryz.f117]) (by simp [Tryz.f117]) s117_ok fun B hl => ?_
  obtain ⟨l⟩ := d
  simp [Tryz.f117, eDb]
  refine call_f (w_impl_IsValidDatabase ⟨l⟩) (by simp [eDb]) rfl fun hs1 hh1 => ?_
  simp at hh1
  cases h1 : dbOk ⟨l⟩
  · obtain ⟨e1, e2⟩ := lk_no (nm := nm) h1
    simp [e1, e2, eReln]
  have hl6 := dbOk_len h1
  simp only at hl6
  simp
  refine loop_rule (X := Nat) (LkTo l nm) (fun i => [(1, .d (.str nm)), (2, .ptr 2 0 0), (4, .ptr 4 0 0), (11, .d (.pl (l.map eTab))), (12, .d (.int .i64 l.length)), (13, .d (.int .i64 i))]) (fun _ => [(2, some (.box [.d (.pl (l.map eTab))])), (4, some (.box [.d (.int .i64 0), .d (.sl none none [])]))]) (fun i => l.length - i) 0 .zero (by simp) (by simp) ?_
  intro i hs t m hi hh
  by_cases hlt : i < l.length
  · have hwi := wr1 (i := i) (by omega)
    have hr := tabOk_rel (dbOk_tab h1 (List.getElem_mem hlt))
    by_cases he : l[i].name = nm
    · obtain ⟨e1, e2⟩ := hi.found h1 hlt he
      simp [hlt, he, eTab, eReln, ]
      refine call_p (q_impl_copyRelation l[i].rel hr.1 hr.2) (by simp [eReln]) fun hs2 hh2 hl2 => ?_
      simp [e1, e2, eReln]
    · simp [hlt, he, hwi, eTab, eReln, ]
      exact back (i + 1) (hi.step hlt he) (by omega) rfl (by simp <;> omega) (by simp [eTab, eReln]) (by simp [eTab, eReln])
  · obtain ⟨e1, e2⟩ := hi.done (by omega)
    simp [hlt, e1, e2, eReln]
theorem w_impl_applicable (d : PDb) (x : PDelta) : VC Tryz.prog 143 [.agg ((eDb d).map V.d), .agg ((eDelta x).map V.d)] (fun _ v => v = .tup [.agg ((eReln (lkR d x.name)).map V.d), .d (.bool (fitB d x))]) := by
  refine VC.ofL EP s143 (by kernel_rfl) Tryz.func143 (by rfl) (by kernel_rfl) (by simp [Tryz.f143]) (by simp [Tryz.f143]) s143_ok fun B hl => ?_
  obtain ⟨nm, ⟨ia, il⟩, ⟨da, dl⟩⟩ := x
  simp [Tryz.f143, s143_3, eDb, eDelta, eReln]
  refine call_p (w_impl_LookupRelation d nm) (by simp [eDb]) fun hs1 hh1 hl1 => ?_
  simp at hh1
  obtain ⟨⟨ra, rl⟩, hr⟩ : ∃ r, r = lkR d nm := ⟨_, rfl⟩
  rw [← hr]
  cases h1 : lkB d nm
  · simp [eReln, fitB, h1, s143_3, ← hr]
  simp [eReln]
  refine call_f (w_impl_IsValidRelation ⟨ia, il⟩) (by simp [eReln]) rfl fun hs2 hh2 => ?_
  simp at hh2
  cases h2 : rowsOk ia il
  · simp [eReln, fitB, h1, h2, s143_3, ← hr]
  simp [eReln]
  refine call_f (w_impl_IsValidRelation ⟨da, dl⟩) (by simp [eReln]) rfl fun hs3 hh3 => ?_
  simp at hh3
  cases h3 : rowsOk da dl
  · simp [eReln, fitB, h1, h2, h3, s143_3, ← hr]
  by_cases h4 : ia = ra
  case neg => simp [eReln, fitB, h1, h2, h3, h4, s143_3, ← hr]
  subst h4
  by_cases h5 : da = ia
  case neg => simp [eReln, fitB, h1, h2, h3, h5, s143_3, ← hr]
  subst h5
  simp [eReln, fitB, h1, h2, h3, s143_3, ← hr]
theorem w_spec_LookupRelation (d : PDb) (nm : List UInt8) (hst : ∀ t ∈ d.tabs, t.name.length ≤ maxLen) : VC Tryz.prog 107 [.agg ((eDb d).map V.d), .d (.str nm)] (fun _ v => v = .tup [.agg ((eReln (lkR d nm)).map V.d), .d (.bool (lkB d nm))]) := by
  refine VC.ofL EP s107 (by kernel_rfl) Tryz.func107 (by rfl) (by kernel_rfl) (by simp [Tryz.f107]) (by simp [Tryz.f107]) s107_ok fun B hl => ?_
  obtain ⟨l⟩ := d
  simp [pS, maxLen, eDb] at hl
  simp [Tryz.f107, eDb]
  refine loop_rule (X := Nat) (LkTo l nm) (fun i => [(1, .d (.str nm)), (2, .ptr 2 0 0), (4, .ptr 4 0 0), (6, .d (.int .i64 i))]) (fun _ => [(2, some (.box [.d (.pl (l.map eTab))])), (4, some (.box [.d (.int .i64 0), .d (.sl none none [])]))]) (fun i => l.length - i) 0 .zero (by simp) (by simp) ?_
  intro i hs t m hi hh
  by_cases hlt : i < l.length
  · have hwi := wr1 (i := i) (by omega)
    simp [hlt, ]
    refine call_f (w_spec_IsValidDatabase ⟨l⟩ hst) (by simp [eDb]) rfl fun hs1 hh1 => ?_
    simp at hh1
    cases h1 : dbOk ⟨l⟩
    · obtain ⟨e1, e2⟩ := lk_no (nm := nm) h1
      simp [e1, e2, eReln, ]
    have hr := tabOk_rel (dbOk_tab h1 (List.getElem_mem hlt))
    by_cases he : l[i].name = nm
    · obtain ⟨e1, e2⟩ := hi.found h1 hlt he
      simp [hlt, he, eTab, eReln, ]
      refine call_p (w_spec_l5Copy l[i].rel hr.1 hr.2) (by simp [eReln]) fun hs2 hh2 hl2 => ?_
      simp [e1, e2, eReln]
    · simp [hlt, he, hwi, eTab, eReln, ]
      exact back (i + 1) (hi.step hlt he) (by omega) rfl (by simp <;> omega) (by simp [eTab, eReln]) (by simp [eTab, eReln])
  · obtain ⟨e1, e2⟩ := hi.done (by omega)
    simp [hlt, e1, e2, eReln, ]
theorem w_spec_l26Fits (d : PDb) (x : PDelta) (hst : ∀ t ∈ d.tabs, t.name.length ≤ maxLen) : VC Tryz.prog 141 [.agg ((eDb d).map V.d), .agg ((eDelta x).map V.d)] (fun _ v => v = .d (.bool (fitB d x))) := by
  refine VC.ofL EP s141 (by kernel_rfl) Tryz.func141 (by rfl) (by kernel_rfl) (by simp [Tryz.f141]) (by simp [Tryz.f141]) s141_ok fun B hl => ?_
  obtain ⟨nm, ⟨ia, il⟩, ⟨da, dl⟩⟩ := x
  simp [Tryz.f141, eDb, eDelta, eReln]
  refine call_p (w_spec_LookupRelation d nm hst) (by simp [eDb]) fun hs1 hh1 hl1 => ?_
  simp at hh1
  obtain ⟨⟨ra, rl⟩, hr⟩ : ∃ r, r = lkR d nm := ⟨_, rfl⟩
  rw [← hr]
  cases h1 : lkB d nm
  · simp [eReln, fitB, h1, ← hr]
  simp [eReln]
  refine call_f (w_spec_IsValidRelation ⟨ia, il⟩) (by simp [eReln]) rfl fun hs2 hh2 => ?_
  simp at hh2
  cases h2 : rowsOk ia il
  · simp [eReln, fitB, h1, h2, ← hr]
  simp [eReln]
  refine call_f (w_spec_IsValidRelation ⟨da, dl⟩) (by simp [eReln]) rfl fun hs3 hh3 => ?_
  simp at hh3
  cases h3 : rowsOk da dl
  · simp [eReln, fitB, h1, h2, h3, ← hr]
  by_cases h4 : ia = ra
  case neg => simp [eReln, fitB, h1, h2, h3, h4, ← hr]
  subst h4
  by_cases h5 : da = ia
  case neg => simp [eReln, fitB, h1, h2, h3, h5, ← hr]
  subst h5
  simp [eReln, fitB, h1, h2, h3, ← hr]
end

end Go.Proofs.YtggbpdjjlgejmaaGreat


namespace Go.Proofs.YtggbpdjjlgejmaaGreat
open Go.Vs Go.Proofs Go
set_option maxRecDepth 100000
set_option maxHeartbeats 1000000

section
attribute [local simp] plI_id plStr_id map_plI map_plStr pS cP cI cStr cU8 cB
theorem w_spec_Difference (a b : PReln) : VC Tryz.prog 108 [.agg ((eReln a).map V.d), .agg ((eReln b).map V.d)] (fun _ v => v = .tup [.agg ((eReln (difR a b)).map V.d), .d (.bool (difB a b))]) := by
  refine VC.ofL EP s108 (by kernel_rfl) Tryz.func108 (by rfl) (by kernel_rfl) (by simp [Tryz.f108]) (by simp [Tryz.f108]) s108_ok fun B hl => ?_
  obtain ⟨aa, al⟩ := a
  obtain ⟨ba, bl⟩ := b
  simp [Tryz.f108, s108_7, s108_9, eReln]
  refine call_f (w_spec_IsValidRelation ⟨aa, al⟩) (by simp [eReln]) rfl fun hs1 hh1 => ?_
  simp at hh1
  cases h1 : rowsOk aa al
  · simp [difR, difB, h1, eReln]
  simp
  refine call_f (w_spec_IsValidRelation ⟨ba, bl⟩) (by simp [eReln]) rfl fun hs2 hh2 => ?_
  simp at hh2
  cases h2 : rowsOk ba bl
  · simp [difR, difB, h1, h2, eReln]
  by_cases h3 : aa = ba
  case neg => simp [difR, difB, h1, h2, h3, eReln]
  subst h3
  have hdb : difB ⟨aa, al⟩ ⟨aa, bl⟩ = true := by simp [difB, h1, h2]
  have hdr : difR ⟨aa, al⟩ ⟨aa, bl⟩ = ⟨aa, difL al bl⟩ := by simp only [difR, hdb, if_true]
  rw [hdb, hdr]
  have hal := rowsOk_len h1
  have hbl := rowsOk_len h2
  have hrow := rowsOk_row h1
  simp
  refine loop_ruleL (X := Nat) (fun i _ => i ≤ al.length) (fun i => [(2, .ptr 2 0 0), (3, .ptr 3 0 0), (4, .ptr 4 0 0), (6, .ptr 6 0 0), (7, .d (.int .i64 i))])
    (fun i => [(2, some (.box [.d (.int .i64 aa), .d (.pl (al.map (cP cI)))])), (3, some (.box [.d (.int .i64 aa), .d (.pl (bl.map (cP cI)))])), (4, some (.box [.d (.int .i64 0), .d (.sl none none [])])), (6, some (.box [.d (.int .i64 aa), .own 58 0 (difL (al.take i) bl).length])), (58, some (.row 26 1 ((difL (al.take i) bl).map (cP cI))))]) (fun i => al.length - i) ?_ ?_
  · refine (lead_box 6 1 58 26 1 [.d (.int .i64 aa), .d (.sl none none [])] (by omega) (by omega) (by omega) (by simp) rfl).bind ?_
    rintro _ rfl
    exact Lead.of ⟨0, by omega, rfl, rfl, Nat.le_refl _, by simp, by simp [difL]⟩
  intro i hs t m hi hh
  by_cases hlt : i < al.length
  · have hwi := wr1 (i := i) (by omega)
    have hst := difL_step (b := bl) hlt
    have hdl := difL_len (al.take i) bl
    rw [List.length_take] at hdl
    have hL1 : LenOk 8 al[i].length := by
      have := hrow _ (List.getElem_mem hlt)
      exact ⟨by omega, by simp only [maxLen]; omega⟩
    have hL2 : LenOk 24 ((difL (al.take i) bl).length + 1) := ⟨by omega, by simp only [maxLen]; omega⟩
    simp [hlt, s108_7, s108_9, ]
    refine call_f (w_spec_l5Place ⟨aa, bl⟩ al[i] (by show bl.length ≤ _; omega)) (by simp [eReln]) rfl fun hs3 hh3 => ?_
    simp at hh3
    cases h4 : placeB bl al[i]
    · rw [h4] at hst
      simp only [Bool.false_eq_true, if_false] at hst
      simp [hlt, hwi, hL1, hL2, List.take_of_length_le, s108_7, s108_9, ]
      exact back2 (i + 1) (by omega) (by omega) rfl (by simp <;> omega) (by simp) (by simp [hst])
    · rw [h4] at hst
      simp only [if_true, List.append_nil] at hst
      simp [hwi, s108_7, s108_9, ]
      exact back2 (i + 1) (by omega) (by omega) rfl (by simp <;> omega) (by simp) (by simp [hst])
  · have hn : i = al.length := by omega
    subst hn
    simp [List.take_of_length_le]
theorem w_spec_NormalizeDelta (d : PDb) (x : PDelta) (hst : ∀ t ∈ d.tabs, t.name.length ≤ maxLen) : VC Tryz.prog 106 [.agg ((eDb d).map V.d), .agg ((eDelta x).map V.d)] (fun _ v => v = .tup [.agg ((eDelta (norP d x)).map V.d), .d (.bool (fitB d x))]) := by
  refine VC.ofL EP s106 (by kernel_rfl) Tryz.func106 (by rfl) (by kernel_rfl) (by simp [Tryz.f106]) (by simp [Tryz.f106]) s106_ok fun B hl => ?_
  simp [Tryz.f106, eDb, eDelta, eReln]
  refine call_f (w_spec_l26Fits d x hst) (by simp [eDb, eDelta, eReln]) rfl fun hs1 hh1 => ?_
  simp at hh1
  cases h1 : fitB d x
  · simp [norP, h1, eDelta, eReln, ]
  obtain ⟨e1, e2⟩ := nor_dif h1
  have e3 : norP d x = ⟨x.name, ⟨(lkR d x.name).ar, norI (lkR d x.name) x.ins.rows⟩, ⟨(lkR d x.name).ar, norD (lkR d x.name) x.ins x.del.rows⟩⟩ := by simp only [norP, h1, if_true]
  obtain ⟨r, hr⟩ : ∃ r, r = lkR d x.name := ⟨_, rfl⟩
  simp []
  refine call_p (w_spec_LookupRelation d x.name hst) (by simp [eDb]) fun hs2 hh2 hl2 => ?_
  simp at hh2
  rw [← hr] at e1 e2 e3 ⊢
  simp [eReln, ]
  refine call_p (w_spec_Difference x.ins r) (by simp [eReln]) fun hs3 hh3 hl3 => ?_
  simp at hh3
  rw [e1]
  simp [eReln, ]
  refine call_p (w_spec_Difference x.del x.ins) (by simp [eReln]) fun hs4 hh4 hl4 => ?_
  simp at hh4
  obtain ⟨go, hgo⟩ : ∃ go, go = difR x.del x.ins := ⟨_, rfl⟩
  rw [← hgo] at e2 ⊢
  simp [eReln, ]
  refine call_p (w_spec_Difference go r) (by simp [eReln]) fun hs5 hh5 hl5 => ?_
  simp at hh5
  obtain ⟨nt, hnt⟩ : ∃ nt, nt = difR go r := ⟨_, rfl⟩
  rw [← hnt] at e2 ⊢
  simp [eReln, ]
  refine call_p (w_spec_Difference go nt) (by simp [eReln]) fun hs6 hh6 hl6 => ?_
  rw [e2, e3]
  simp [eReln, eDelta, ]
end

end Go.Proofs.YtggbpdjjlgejmaaGreat


namespace Go.Proofs.YtggbpdjjlgejmaaGreat
open Go.Vs Go.Proofs Go
set_option maxRecDepth 100000
set_option maxHeartbeats 1000000

theorem w_impl_copyInts (a : Ints) (ha : okS okI a) (hb : a.xs.length ≤ 4294967296) :
   VC Tryz.prog 101 [.d (dSl cI a)] (fun n r => ∃ y : Sl Int, r = .d (dSl cI y) ∧ plS plI y = plS plI a ∧ okS okI y ∧ Good (cS cI y) (whS whI y) n) := by
  refine VC.of E s101 (by kernel_rfl) Tryz.func101 (by rfl) (by kernel_rfl) (by simp [Tryz.f101]) (by simp [Tryz.f101]) s101_ok fun B => ?_
  have hL : LenOk 8 a.xs.length := ⟨by omega, by simp only [maxLen]; omega⟩
  simp [Tryz.f101, dSl, hL, cI]
  intro γ hs' h1 hg
  obtain ⟨q1, q2⟩ := gam_at hg (k := 3) (T := 3) (sz := 1) (es := a.xs.map cI) (by simp [cI])
  have q3 := gam_row hg (k := 3) (T := 3) (sz := 1) (es := a.xs.map cI) (by simp [cI])
  clear hg
  refine ⟨⟨γ 3, some (3, 1), a.xs⟩, ⟨⟨rfl, rfl, by simp [List.take_of_length_le]⟩, rfl, ha, good_row (fun g hg => (q1 g hg).1) (by simpa using q2) q3 ⟨by simp, by simp⟩ (by simp [whI])⟩⟩
theorem w_impl_copyRows (a : Sl Ints) (ha : okS (okS okI) a) (hb : a.xs.length ≤ 4294967296) (hb2 : ∀ r ∈ a.xs, r.xs.length ≤ 4294967296) :
   VC Tryz.prog 95 [.d (dSl (cS cI) a)] (fun n r => ∃ y : Sl Ints, r = .d (dSl (cS cI) y) ∧ plS (plS plI) y = plS (plS plI) a ∧ okS (okS okI) y ∧ Good (cS (cS cI) y) (whS (whS whI) y) n) := by
  refine VC.of E s95 (by kernel_rfl) Tryz.func95 (by rfl) (by kernel_rfl) (by simp [Tryz.f95]) (by simp [Tryz.f95]) s95_ok fun B => ?_
  simp [Tryz.f95, dSl]
  refine loop_ruleL (X := Nat × List (Sl Int)) (fun p h => p.1 ≤ a.xs.length ∧ p.2.length = p.1 ∧ p.2.map (plS plI) = (a.xs.map (plS plI)).take p.1 ∧ (∀ y ∈ p.2, okS okI y) ∧ GoodL (cS cI) (whS whI) B h p.2)
    (fun p => [(3, .own 16 0 p.1), (6, .d (.sl a.id a.T (a.xs.map (cS cI)))), (7, .d (.int .i64 a.xs.length)), (8, .d (.int .i64 p.1))]) (fun p => [(16, some (.row 26 1 (p.2.map (cS cI))))]) (fun p => a.xs.length - p.1) ?_ ?_
  · refine (lead_slot 3 16 26 1 (by omega) (by omega) (by simp)).bind ?_
    rintro _ rfl
    exact Lead.of ⟨(0, []), ⟨by simp, rfl, by simp, by simp, GoodL.nil⟩, rfl, rfl, Nat.le_refl _, by simp, by simp⟩
  · rintro ⟨i, ys⟩ hs t m ⟨hi, hyl, hpl, hok, hgd⟩ hh
    simp only at hi hyl hpl hok hgd
    by_cases hlt : i < a.xs.length
    · have hwi := wr1 (i := i) (by omega)
      have hmem : a.xs[i] ∈ a.xs := List.getElem_mem _
      have hL : LenOk 24 (i + 1) := ⟨by omega, by simp only [maxLen]; omega⟩
      simp [cS, hlt]
      refine call_some (w_impl_copyInts a.xs[i] (ha.2 _ hmem) (hb2 _ hmem)) rfl (by simp) fun n hs' r hn hn' hp hr => ?_
      obtain ⟨y, rfl, hy1, hy2, hy3⟩ := hp
      simp at hn
      have hr' : ∀ g ∈ idsL (cS cI y), g < hs' := fun g hg => hr g (by rw [idsL_cS] at hg; exact hg)
      simp [cS, dSl, hyl, hL, hwi]
      refine back2 (i + 1, ys ++ [y]) ⟨by omega, by simp [hyl], ?_, ?_, GoodL.snoc hgd (by omega) hn' hy3 hr'⟩ (by simp; omega) rfl (by simp <;> omega) (by simp) (by simp [cS, dSl])
      · simp only [List.map_append, hpl, List.map_cons, List.map_nil, hy1]
        rw [List.take_succ_eq_append_getElem (by simpa using hlt)]; simp
      · intro y' hy'
        rcases List.mem_append.1 hy' with h | h
        · exact hok y' h
        · rw [List.mem_singleton.1 h]; exact hy2
    · have hn : i = a.xs.length := by omega
      subst hn
      simp [hyl]
      intro γ hs' h1 hg
      obtain ⟨q1, q2⟩ := gam_at hg (k := 16) (T := 26) (sz := 1) (es := ys.map (cS cI)) (by simp)
      have q3 := gam_row hg (k := 16) (T := 26) (sz := 1) (es := ys.map (cS cI)) (by simp)
      clear hg
      refine ⟨⟨γ 16, some (26, 1), ys⟩, ⟨rfl, rfl, by simp [List.take_of_length_le, hyl]⟩, by rw [List.take_of_length_le (by simp)] at hpl; exact hpl, ⟨by simp only [maxLen]; show ys.length ≤ _; omega, hok⟩, good_row (fun g hg => (q1 g hg).1) (by simpa using q2) q3 ⟨hgd.nd, hgd.lo⟩ hgd.wh⟩
theorem w_impl_copyCounted (a : Cnt) (ha : okCnt a) (hb : a.rows.xs.length ≤ 4294967296) (hb2 : ∀ r ∈ a.rows.xs, r.xs.length ≤ 4294967296) (hb3 : a.cs.xs.length ≤ 4294967296) :
   VC Tryz.prog 79 [.agg ((cCnt a).map V.d)] (fun n r => ∃ y : Cnt, r = .agg ((cCnt y).map V.d) ∧ plCnt y = plCnt a ∧ okCnt y ∧ Good (cCnt y) (whCnt y) n) := by
  refine VC.of E s79 (by kernel_rfl) Tryz.func79 (by rfl) (by kernel_rfl) (by simp [Tryz.f79]) (by simp [Tryz.f79]) s79_ok fun B => ?_
  simp [Tryz.f79, s79_1, cCnt, cS, cI]
  refine call_some (w_impl_copyRows a.rows ha.2.1 hb hb2) rfl (by simp) fun n1 hs1 r1 hn1 hm1 hp1 hr1 => ?_
  obtain ⟨y1, rfl, p1, k1, G1⟩ := hp1
  have u1 : ∀ g ∈ idsL (cS (cS cI) y1), g < hs1 := fun g hg => hr1 g (by rw [idsL_cS] at hg; exact hg)
  simp at hn1
  simp [cS, cI, s79_1, ]
  refine call_some (w_impl_copyInts a.cs ha.2.2 hb3) rfl (by simp) fun n2 hs2 r2 hn2 hm2 hp2 hr2 => ?_
  obtain ⟨y2, rfl, p2, k2, G2⟩ := hp2
  simp at hn2
  simp [cS, cI, s79_1, ]
  refine ⟨⟨a.ar, y1, y2⟩, by simp, by simp only [plCnt, p1, p2], ⟨trivial, k1, k2⟩, ?_⟩
  have K1 : Good (cI a.ar ++ cS (cS cI) y1) (whI a.ar ∧ whS (whS whI) y1) B := Good.app (good_I B a.ar) (G1.le (by omega)) (fun g h h' => by simp [cI, idsL, D.ids] at h)
  have K2 : Good (cI a.ar ++ cS (cS cI) y1 ++ cS cI y2) ((whI a.ar ∧ whS (whS whI) y1) ∧ whS whI y2) B := Good.app K1 (G2.le (by omega)) (fun g h h' => by
    have h2 := G2.lo g h'
    rw [idsL_app] at h
    rcases List.mem_append.1 h with h | h
    · simp [cI, idsL, D.ids] at h
    · have h1 := u1 g h; omega)
  exact ⟨K2.nd, K2.lo, K2.wh.1.1, K2.wh.1.2, K2.wh.2⟩

end Go.Proofs.YtggbpdjjlgejmaaGreat


namespace Go.Proofs.YtggbpdjjlgejmaaGreat
open Go.Vs Go.Proofs Go
set_option maxRecDepth 100000
set_option maxHeartbeats 1000000

theorem t_impl_NormalizeDelta (d : Db) (x : Delta) (hd : okDb d) (hx : okDelta x) : VC Tryz.prog 115 [.agg ((cDb d).map V.d), .agg ((cDelta x).map V.d)]
   (fun n r => ∃ y : Delta, r = .tup [.agg ((cDelta y).map V.d), .d (.bool (fitB (plDb d) (plDelta x)))] ∧ plDelta y = norP (plDb d) (plDelta x) ∧ okDelta y ∧ Good (cDelta y) (whDelta y) n) := by
  refine VC.of E s115 (by kernel_rfl) Tryz.func115 (by rfl) (by kernel_rfl) (by simp [Tryz.f115]) (by simp [Tryz.f115]) s115_ok fun B => ?_
  obtain ⟨nm, ⟨ia, ⟨iid, iT, il⟩⟩, ⟨da, ⟨did, dT, dl⟩⟩⟩ := x
  obtain ⟨X, hX⟩ : ∃ X, X = plDelta ⟨nm, ⟨ia, ⟨iid, iT, il⟩⟩, ⟨da, ⟨did, dT, dl⟩⟩⟩ := ⟨_, rfl⟩
  have hXn : X.name = nm := by rw [hX]; rfl
  have hXi : X.ins = ⟨ia, il.map (plS plI)⟩ := by rw [hX]; rfl
  have hXd : X.del = ⟨da, dl.map (plS plI)⟩ := by rw [hX]; rfl
  rw [← hX]
  simp [Tryz.f115, s115_9, s115_15, s115_9, s115_15, cDb, cDelta, cReln, cStr, cS, cI, dSl]
  refine call_p (w_impl_applicable (plDb d) X) (by simp [hX, eDb, plDb, er_Tab, eDelta, plDelta, eReln, plReln, plStr, plI, pS, cP, cI, cStr, plS, erLL_map er_cI, erLL_map (er_cS er_cI), erLL_map er_cTab, map_plI]) fun hs1 hh1 hl1 => ?_
  simp at hh1
  obtain ⟨⟨ra, rl⟩, hr⟩ : ∃ r, r = lkR (plDb d) X.name := ⟨_, rfl⟩
  rw [← hr]
  cases h1 : fitB (plDb d) X
  · simp [eReln, s115_9, s115_15, ]
    exact ⟨⟨[], ⟨0, nilS⟩, ⟨0, nilS⟩⟩, by simp [nilS], by simp [norP, h1, plDelta, plReln, plStr, plI, nilS, plS], ⟨by simp [okStr], ⟨trivial, ok_nilS⟩, ⟨trivial, ok_nilS⟩⟩, good_Delta0 B⟩
  simp [eReln, cI, pS, cP, s115_9, s115_15, ]
  have h1' := h1
  simp only [fitB, Bool.and_eq_true, decide_eq_true_eq] at h1'
  obtain ⟨⟨⟨⟨g1, g2⟩, g3⟩, g4⟩, g5⟩ := h1'
  have g0 := lk_ok g1
  rw [← hr] at g0
  rw [hXi] at g2
  rw [hXd] at g3
  simp only at g0 g2 g3
  have hrl := rowsOk_len g0
  have hil := rowsOk_len g2
  have hdl := rowsOk_len g3
  have hil' : il.length ≤ 4000 := by simpa using hil
  have hdl' : dl.length ≤ 4000 := by simpa using hdl
  have hi5 : ∀ y ∈ il, y.xs.length ≤ 4294967296 := fun y hy => by
    have := rowsOk_row g2 (plS plI y) (List.mem_map_of_mem hy)
    simp only [plS, List.length_map] at this; omega
  have hd5 : ∀ y ∈ dl, y.xs.length ≤ 4294967296 := fun y hy => by
    have := rowsOk_row g3 (plS plI y) (List.mem_map_of_mem hy)
    simp only [plS, List.length_map] at this; omega
  refine loop_ruleL (X := Nat × List Ints) (NorI (norI ⟨ra, rl⟩) (il.map (plS plI)) B) (fun p => [(3, .ptr 3 0 0), (4, .ptr 4 0 0), (6, .ptr 6 0 0), (8, .ptr 8 0 0), (33, .d (.sl iid iT (il.map (cS cI)))), (34, .d (.int .i64 il.length)), (35, .d (.int .i64 p.1))])
    (fun p => [(3, some (.box [.d (.str nm), .d (.int .i64 ia), .d (.sl iid iT (il.map (cS cI))), .d (.int .i64 da), .d (.sl did dT (dl.map (cS cI)))])), (4, some (.box [.d (.str []), .d (.int .i64 0), .d (.sl none none []), .d (.int .i64 0), .d (.sl none none [])])), (6, some (.box [.d (.int .i64 ra), .d (.pl (rl.map (cP cI)))])),
      (8, some (.box [.d (.str nm), .d (.int .i64 ra), .own 49 0 p.2.length, .d (.int .i64 ra), .d (.sl none none [])])), (49, some (.row 26 1 (p.2.map (cS cI))))]) (fun p => il.length - p.1) ?_ ?_
  · refine (lead_box 8 2 49 26 1 [.d (.str nm), .d (.int .i64 ra), .d (.sl none none []), .d (.int .i64 ra), .d (.sl none none [])] (by omega) (by omega) (by omega) (by simp) rfl).bind ?_
    rintro _ rfl
    exact Lead.of ⟨(0, []), .zero (by simp [norI]), rfl, rfl, Nat.le_refl _, by simp [dSl], by simp [cP, cI]⟩
  rintro ⟨i, ys⟩ hs t m hI hh
  have hile := hI.le
  simp only [List.length_map] at hile
  have hyl : ys.length ≤ i := by
    have e := congrArg List.length hI.pl
    have h2 := norI_len ⟨ra, rl⟩ ((il.map (plS plI)).take i)
    simp only [List.length_map] at e
    rw [List.length_take] at h2
    omega
  by_cases hlt : i < il.length
  · have hwi := wr1 (i := i) (by omega)
    have hlt' : i < (il.map (plS plI)).length := by simpa using hlt
    have hst := norI_step (r := ⟨ra, rl⟩) hlt'
    have hge : (il.map (plS plI))[i] = plS plI il[i] := by simp
    rw [hge] at hst
    have hmem := List.getElem_mem hlt
    have hL : LenOk 24 (ys.length + 1) := ⟨by omega, by simp only [maxLen]; omega⟩
    refine anyQ2 fun Q => ?_
    simp [hlt, cS, cI, s115_9, s115_15, ]
    refine call_f (w_impl_ContainsRow ⟨ra, rl⟩ (plS plI il[i]) (by show rl.length ≤ _; omega)) (by simp [eReln, pS, cP, cI, plS, erLL_map er_cI, map_plI, dSl]) rfl fun hs2 hh2 => ?_
    simp at hh2
    cases h2 : hasR ⟨ra, rl⟩ (plS plI il[i])
    · rw [h2] at hst
      simp only [Bool.false_eq_true, if_false] at hst
      simp [hlt, s115_9, s115_15, ]
      refine call_some (w_impl_copyInts il[i] (hx.2.1.2.2 _ hmem) (hi5 _ hmem)) (by simp [dSl]) (by simp) fun n3 hs3 r3 hn3 hm3 hp3 hr3 => ?_
      obtain ⟨y, rfl, hy1, hy2, hy3⟩ := hp3
      simp at hn3
      have hr3' : ∀ g ∈ idsL (cS cI y), g < hs3 := fun g hg => hr3 g (by rw [idsL_cS] at hg; exact hg)
      simp [cS, cI, dSl, hL, hwi, s115_9, s115_15, ]
      exact back2 (i + 1, ys ++ [y]) (hI.snoc hlt' (by rw [hst, hge]) (by rw [hy1, hge]) hy2 (by omega) hm3 hy3 hr3') (by simp only; omega) rfl (by simp <;> omega) (by simp) (by simp [cS, cI, dSl])
    · rw [h2] at hst
      simp only [if_true, List.append_nil] at hst
      simp [hwi, s115_9, s115_15, ]
      exact back2 (i + 1, ys) (hI.skip hlt' hst (by omega)) (by simp only; omega) rfl (by simp <;> omega) (by simp) (by simp [cS, cI, dSl])
  have hia : i = il.length := by omega
  have hpl1 : ys.map (plS plI) = norI ⟨ra, rl⟩ (il.map (plS plI)) := by
    have := hI.pl
    simp only at this
    rwa [List.take_of_length_le (by simp; omega)] at this
  simp [hlt, s115_9, s115_15, ]
  obtain ⟨H, hH⟩ : ∃ H, H = hs := ⟨_, rfl⟩
  have hhi : ∀ g ∈ idsLL (ys.map (cS cI)), g < H := fun g hg => by rw [hH]; exact hI.good.hi g hg
  have hHB : B ≤ H := by omega
  refine loop_ruleL (X := Nat × List Ints) (NorI (norD ⟨ra, rl⟩ X.ins) (dl.map (plS plI)) H) (fun p => [(3, .ptr 3 0 0), (4, .ptr 4 0 0), (6, .ptr 6 0 0), (8, .ptr 8 0 0), (55, .d (.sl did dT (dl.map (cS cI)))), (56, .d (.int .i64 dl.length)), (57, .d (.int .i64 p.1))])
    (fun p => [(3, some (.box [.d (.str nm), .d (.int .i64 ia), .d (.sl iid iT (il.map (cS cI))), .d (.int .i64 da), .d (.sl did dT (dl.map (cS cI)))])), (4, some (.box [.d (.str []), .d (.int .i64 0), .d (.sl none none []), .d (.int .i64 0), .d (.sl none none [])])), (6, some (.box [.d (.int .i64 ra), .d (.pl (rl.map (cP cI)))])),
      (8, some (.box [.d (.str nm), .d (.int .i64 ra), .own 49 0 ys.length, .d (.int .i64 ra), .own 77 0 p.2.length])), (49, some (.row 26 1 (ys.map (cS cI)))), (77, some (.row 26 1 (p.2.map (cS cI))))]) (fun p => dl.length - p.1) ?_ ?_
  · refine (lead_box 8 4 77 26 1 [.d (.str nm), .d (.int .i64 ra), .own 49 0 ys.length, .d (.int .i64 ra), .d (.sl none none [])] (by omega) (by omega) (by omega) (by simp) rfl).bind ?_
    rintro _ rfl
    exact Lead.of ⟨(0, []), .zero (by simp [norD]), rfl, rfl, Nat.le_refl _, by simp, by simp [cP, cI]⟩
  rintro ⟨k, zs⟩ hs t m hJ hh
  have hkle := hJ.le
  simp only [List.length_map] at hkle
  have hzl : zs.length ≤ k := by
    have e := congrArg List.length hJ.pl
    have h2 := norD_len ⟨ra, rl⟩ X.ins ((dl.map (plS plI)).take k)
    simp only [List.length_map] at e
    rw [List.length_take] at h2
    omega
  by_cases hkt : k < dl.length
  · have hwk := wr1 (i := k) (by omega)
    have hkt' : k < (dl.map (plS plI)).length := by simpa using hkt
    have hst := norD_step (r := ⟨ra, rl⟩) (s := X.ins) hkt'
    have hge : (dl.map (plS plI))[k] = plS plI dl[k] := by simp
    rw [hge] at hst
    have hmem := List.getElem_mem hkt
    have hL : LenOk 24 (zs.length + 1) := ⟨by omega, by simp only [maxLen]; omega⟩
    refine anyQ2 fun Q => ?_
    simp [hkt, cS, cI, s115_9, s115_15, ]
    refine call_f (w_impl_ContainsRow ⟨ra, rl⟩ (plS plI dl[k]) (by show rl.length ≤ _; omega)) (by simp [eReln, pS, cP, cI, plS, erLL_map er_cI, map_plI, dSl]) rfl fun hs2 hh2 => ?_
    simp at hh2
    cases h2 : hasR ⟨ra, rl⟩ (plS plI dl[k])
    · rw [h2, Bool.false_and] at hst
      simp only [Bool.false_eq_true, if_false, List.append_nil] at hst
      simp [hwk, s115_9, s115_15, ]
      exact back2 (k + 1, zs) (hJ.skip hkt' hst (by omega)) (by simp only; omega) rfl (by simp <;> omega) (by simp) (by simp [cS, cI, dSl])
    rw [h2, Bool.true_and] at hst
    simp [hkt, cS, cI, dSl, s115_9, s115_15, ]
    refine call_f (w_impl_ContainsRow X.ins (plS plI dl[k]) (by rw [hXi]; simp; omega)) (by simp [hXi, eReln, pS, cP, cI, plS, erLL_map er_cI, erLL_map (er_cS er_cI), map_plI, dSl]) rfl fun hs4 hh4 => ?_
    simp at hh4
    cases h4 : hasR X.ins (plS plI dl[k])
    · rw [h4] at hst
      simp only [Bool.not_false, if_true] at hst
      simp [hkt, s115_9, s115_15, ]
      refine call_some (w_impl_copyInts dl[k] (hx.2.2.2.2 _ hmem) (hd5 _ hmem)) (by simp [dSl]) (by simp) fun n3 hs3 r3 hn3 hm3 hp3 hr3 => ?_
      obtain ⟨y, rfl, hy1, hy2, hy3⟩ := hp3
      simp at hn3
      have hr3' : ∀ g ∈ idsL (cS cI y), g < hs3 := fun g hg => hr3 g (by rw [idsL_cS] at hg; exact hg)
      simp [cS, cI, dSl, hL, hwk, s115_9, s115_15, ]
      exact back2 (k + 1, zs ++ [y]) (hJ.snoc hkt' (by rw [hst, hge]) (by rw [hy1, hge]) hy2 (by omega) hm3 hy3 hr3') (by simp only; omega) rfl (by simp <;> omega) (by simp) (by simp [cS, cI, dSl])
    · rw [h4] at hst
      simp only [Bool.not_true, Bool.false_eq_true, if_false, List.append_nil] at hst
      simp [hwk, s115_9, s115_15, ]
      exact back2 (k + 1, zs) (hJ.skip hkt' hst (Nat.le_trans hh2 hh4)) (by simp only; omega) rfl (by simp <;> omega) (by simp) (by simp [cS, cI, dSl])
  have hpl2 : zs.map (plS plI) = norD ⟨ra, rl⟩ X.ins (dl.map (plS plI)) := by
    have := hJ.pl
    simp only at this
    rwa [List.take_of_length_le (by simp; omega)] at this
  simp [hkt, s115_9, s115_15, ]
  intro γ hs' h2' hg
  obtain ⟨q1, q2⟩ := gam_at hg (k := 49) (T := 26) (sz := 1) (es := ys.map (cS cI)) (by simp)
  obtain ⟨q3, q4⟩ := gam_at hg (k := 77) (T := 26) (sz := 1) (es := zs.map (cS cI)) (by simp)
  have r1 := gam_row hg (k := 49) (T := 26) (sz := 1) (es := ys.map (cS cI)) (by simp)
  have r2 := gam_row hg (k := 77) (T := 26) (sz := 1) (es := zs.map (cS cI)) (by simp)
  have r3 := gam_row2 hg (k := 49) (T := 26) (sz := 1) (es := ys.map (cS cI)) (k2 := 77) (T2 := 26) (sz2 := 1) (es2 := zs.map (cS cI)) (by simp) (by simp)
  have r4 := gam_row2 hg (k := 77) (T := 26) (sz := 1) (es := zs.map (cS cI)) (k2 := 49) (T2 := 26) (sz2 := 1) (es2 := ys.map (cS cI)) (by simp) (by simp)
  have r5 : ∀ g, γ 49 = some g → γ 77 = some g → False := fun g h h' => by
    have := hg.ne 49 77 (.row 26 1 (ys.map (cS cI))) (.row 26 1 (zs.map (cS cI))) g (by simp) (by simp) h h'
    omega
  clear hg
  have hp1 : ∀ l : List Ints, hpLL (l.map (cS cI)) = false := fun l => hpLL_map (fun a => by simp) _
  simp [hp1, List.take_of_length_le]
  refine ⟨⟨nm, ⟨ra, ⟨γ 49, some (26, 1), ys⟩⟩, ⟨ra, ⟨γ 77, some (26, 1), zs⟩⟩⟩, by simp, ?_, ⟨hx.1, ⟨trivial, ⟨by simp only [maxLen]; show ys.length ≤ _; omega, hI.ok⟩⟩, ⟨trivial, ⟨by simp only [maxLen]; show zs.length ≤ _; omega, hJ.ok⟩⟩⟩, ?_⟩
  · have e : norP (plDb d) X = ⟨X.name, ⟨ra, norI ⟨ra, rl⟩ X.ins.rows⟩, ⟨ra, norD ⟨ra, rl⟩ X.ins X.del.rows⟩⟩ := by
      simp only [norP, h1, if_true, ← hr]
    have e2 : plDelta ⟨nm, ⟨ra, ⟨γ 49, some (26, 1), ys⟩⟩, ⟨ra, ⟨γ 77, some (26, 1), zs⟩⟩⟩ = ⟨nm, ⟨ra, ys.map (plS plI)⟩, ⟨ra, zs.map (plS plI)⟩⟩ := rfl
    rw [e, e2, hXn, hXi, hXd, hpl1, hpl2, hXi]
  · have := good_Delta2 (nm := nm) (a1 := ra) (a2 := ra) (T1 := (26, 1)) (T2 := (26, 1)) hI.good.nd (hI.good.lo) hI.good.wh hJ.good.nd (fun g hg => by have := hJ.good.lo g hg; omega) hJ.good.wh
      (fun g hg hg' => by have a1 := hhi g hg; have a2 := hJ.good.lo g hg'; omega) (fun g h => ⟨(q1 g h).1, r1 g h, r3 g h⟩) (by simpa using q2) (fun g h => ⟨(q3 g h).1, r2 g h, r4 g h⟩) (by simpa using q4) r5
    exact this

end Go.Proofs.YtggbpdjjlgejmaaGreat


namespace Go.Proofs.YtggbpdjjlgejmaaGreat
open Go.Vs Go.Proofs Go
set_option maxRecDepth 100000
set_option maxHeartbeats 1000000

section
attribute [local simp] plI_id plStr_id map_plI map_plStr
theorem e_impl_copyInts (l : List Int) (hb : l.length ≤ 4294967296) :
   VC Tryz.prog 101 [.d (pS cI l)] (fun n r => ∃ y : Ints, r = .d (dSl cI y) ∧ plS plI y = l ∧ okS okI y ∧ Good (cS cI y) (whS whI y) n) := by
  refine VC.of E s101 (by kernel_rfl) Tryz.func101 (by rfl) (by kernel_rfl) (by simp [Tryz.f101]) (by simp [Tryz.f101]) s101_ok fun B => ?_
  have hL : LenOk 8 l.length := ⟨by omega, by simp only [maxLen]; omega⟩
  simp [Tryz.f101, pS, hL, cI]
  intro γ hs' h1 hg
  obtain ⟨q1, q2⟩ := gam_at hg (k := 3) (T := 3) (sz := 1) (es := l.map cI) (by simp [cI])
  have q3 := gam_row hg (k := 3) (T := 3) (sz := 1) (es := l.map cI) (by simp [cI])
  clear hg
  have hp : hpLL (l.map cI) = false := hpLL_mapI l
  refine ⟨⟨γ 3, some (3, 1), l⟩, by simp [dSl, List.take_of_length_le, cI], by simp [plS], ⟨by simp only [maxLen]; omega, fun _ _ => trivial⟩, good_row (fun g hg => (q1 g hg).1) (by simpa using q2) q3 ⟨by simp, by simp⟩ (by simp [whI])⟩
theorem e_impl_copyRowsT (l : List (List Int)) (hb : l.length ≤ 4294967296) (hb2 : ∀ r ∈ l, r.length ≤ 4294967296) :
   VC Tryz.prog 95 [.d (pS (cP cI) l)] (fun n r => ∃ y : Sl Ints, r = .d (dSl (cS cI) y) ∧ plS (plS plI) y = l ∧ okS (okS okI) y ∧ Good (cS (cS cI) y) (whS (whS whI) y) n ∧ y.T = some (26, 1)) := by
  refine VC.of E s95 (by kernel_rfl) Tryz.func95 (by rfl) (by kernel_rfl) (by simp [Tryz.f95]) (by simp [Tryz.f95]) s95_ok fun B => ?_
  simp [Tryz.f95, pS]
  refine loop_ruleL (X := Nat × List Ints) (CopI (cS cI) (whS whI) (okS okI) (plS plI) l B) (fun p => [(3, .own 16 0 p.2.length), (6, .d (.pl (l.map (cP cI)))), (7, .d (.int .i64 l.length)), (8, .d (.int .i64 p.1))]) (fun p => [(16, some (.row 26 1 (p.2.map (cS cI))))]) (fun p => l.length - p.1) ?_ ?_
  · refine (lead_slot 3 16 26 1 (by omega) (by omega) (by simp)).bind ?_
    rintro _ rfl
    exact Lead.of ⟨(0, []), .zero, rfl, rfl, Nat.le_refl _, by simp, by simp⟩
  rintro ⟨i, ys⟩ hs t m hI hh
  have hle := hI.le
  have hyl := hI.len
  simp only at hle
  by_cases hlt : i < l.length
  · have hwi := wr1 (i := i) (by omega)
    have hL : LenOk 24 (ys.length + 1) := ⟨by omega, by simp only [maxLen]; omega⟩
    simp [hlt, cP, pS, ]
    refine call_some (e_impl_copyInts l[i] (hb2 _ (List.getElem_mem hlt))) (by simp [pS]) (by simp) fun n hs' r hn hn' hp hr => ?_
    obtain ⟨y, rfl, hy1, hy2, hy3⟩ := hp
    simp at hn
    have hr' : ∀ g ∈ idsL (cS cI y), g < hs' := fun g hg => hr g (by rw [idsL_cS] at hg; exact hg)
    simp [cS, dSl, hL, hwi, ]
    exact back2 (i + 1, ys ++ [y]) (hI.snoc hlt hy1 hy2 (by omega) hn' hy3 hr') (by simp only; omega) rfl (by simp <;> omega) (by simp [cP, pS]) (by simp [cS, dSl])
  · have hall := hI.all (by omega)
    simp [hlt, ]
    intro γ hs' h1 hg
    obtain ⟨q1, q2⟩ := gam_at hg (k := 16) (T := 26) (sz := 1) (es := ys.map (cS cI)) (by simp)
    have q3 := gam_row hg (k := 16) (T := 26) (sz := 1) (es := ys.map (cS cI)) (by simp)
    clear hg
    have hp : hpLL (ys.map (cS cI)) = false := hpLL_mapS ys
    refine ⟨⟨γ 16, some (26, 1), ys⟩, by simp [dSl, List.take_of_length_le], by simpa [plS] using hall, ⟨by simp only [maxLen]; show ys.length ≤ _; omega, hI.ok⟩, good_row (fun g hg => (q1 g hg).1) (by simpa using q2) q3 ⟨hI.good.nd, hI.good.lo⟩ hI.good.wh, rfl⟩
theorem e_impl_copyRows (l : List (List Int)) (hb : l.length ≤ 4294967296) (hb2 : ∀ r ∈ l, r.length ≤ 4294967296) :
   VC Tryz.prog 95 [.d (pS (cP cI) l)] (fun n r => ∃ y : Sl Ints, r = .d (dSl (cS cI) y) ∧ plS (plS plI) y = l ∧ okS (okS okI) y ∧ Good (cS (cS cI) y) (whS (whS whI) y) n) :=
  (e_impl_copyRowsT l hb hb2).weak fun _ _ ⟨y, h1, h2, h3, h4, _⟩ => ⟨y, h1, h2, h3, h4⟩
theorem e_impl_copyRows0 : VC Tryz.prog 95 [.d (pS (cP cI) [])] (fun _ r => r = .d (.sl none none [])) := by
  refine VC.of E s95 (by kernel_rfl) Tryz.func95 (by rfl) (by kernel_rfl) (by simp [Tryz.f95]) (by simp [Tryz.f95]) s95_ok fun B => ?_
  simp [Tryz.f95, pS]
  refine loop_rule (X := Unit) (fun _ => True) (fun _ => [(3, .d (.sl none none [])), (6, .d (.pl [])), (7, .d (.int .i64 0)), (8, .d (.int .i64 0))]) (fun _ => []) (fun _ => 0) () trivial (by simp) (by simp) ?_
  intro i hs t m hi hh
  simp []
theorem e_impl_copyRelation (r : PReln) (hb : r.rows.length ≤ 4294967296) (hb2 : ∀ x ∈ r.rows, x.length ≤ 4294967296) :
   VC Tryz.prog 145 [.agg ((eReln r).map V.d)] (fun n v => ∃ y : Reln, v = .agg ((cReln y).map V.d) ∧ plReln y = r ∧ okReln y ∧ Good (cReln y) (whReln y) n) := by
  refine VC.of E s145 (by kernel_rfl) Tryz.func145 (by rfl) (by kernel_rfl) (by simp [Tryz.f145]) (by simp [Tryz.f145]) s145_ok fun B => ?_
  simp [Tryz.f145, s145_1, s145_1, eReln, cI, cP]
  refine call_some (e_impl_copyRows r.rows hb hb2) (by simp [pS]) (by simp) fun n1 hs1 r1 hn1 hm1 hp1 hr1 => ?_
  obtain ⟨y, rfl, p1, k1, G1⟩ := hp1
  simp at hn1
  simp [s145_1, ]
  exact ⟨⟨r.ar, y⟩, by simp [cReln, cI, cS], by rw [plReln]; simp only; rw [p1]; rfl, ⟨trivial, k1⟩, good_Reln G1 (by omega)⟩
end

end Go.Proofs.YtggbpdjjlgejmaaGreat


namespace Go.Proofs.YtggbpdjjlgejmaaGreat
open Go.Vs Go.Proofs Go
set_option maxRecDepth 100000
set_option maxHeartbeats 1000000

theorem w_spec_l5Sort : ∀ (n : Nat) (l : List (List Int)), l.length ≤ n → l.length ≤ 4294967296 → VC Tryz.prog 152 [.d (pS (cP cI) l)] (fun _ r => r = .d (pS (cP cI) (srtU l))) := by
  intro n
  induction n with
  | zero =>
    intro l hn hb
    have : l = [] := List.length_eq_zero_iff.1 (by omega)
    subst this
    refine VC.ofL EP s152 (by kernel_rfl) Tryz.func152 (by rfl) (by kernel_rfl) (by simp [Tryz.f152]) (by simp [Tryz.f152]) s152_ok fun B hl => ?_
    simp [Tryz.f152, s152_13, srtU]
  | succ n ih =>
  intro l hn hb
  refine VC.ofL EP s152 (by kernel_rfl) Tryz.func152 (by rfl) (by kernel_rfl) (by simp [Tryz.f152]) (by simp [Tryz.f152]) s152_ok fun B hl => ?_
  by_cases h2 : l.length < 2
  · have e : srtU l = l := srtU_id (by
      match l, h2 with
      | [], _ => exact .nil
      | [_], _ => simp
      | _ :: _ :: _, h => simp only [List.length_cons] at h; omega)
    simp [Tryz.f152, s152_13, show ((l.length : Int) < 2) by omega, e]
  obtain ⟨k, hk⟩ : ∃ k, k = l.length / 2 := ⟨_, rfl⟩
  have hm : IntKind.i64.wrap ((l.length : Int) / 2) = (k : Int) := by rw [wrap64_of (by omega) (by omega)]; omega
  simp [Tryz.f152, s152_13, show ¬ ((l.length : Int) < 2) by omega, hm, show k ≤ l.length by omega]
  refine call_p (ih (l.take k) (by simp; omega) (by simp; omega)) (by simp [List.map_take]) fun hs1 hh1 _ => ?_
  simp at hh1
  simp [hm, show k ≤ l.length by omega, List.take_of_length_le]
  refine call_p (ih (l.drop k) (by simp; omega) (by simp; omega)) (by simp [List.map_drop]) fun hs2 hh2 _ => ?_
  simp at hh2
  simp
  have hst := MI.start l k
  generalize srtU (l.take k) = a0 at hst
  generalize srtU (l.drop k) = b0 at hst
  refine loop_rule (X := List (List Int) × List (List Int) × List (List Int)) (fun p => MI l p.1 p.2.1 p.2.2)
    (fun p => [(4, .d (.pl (p.1.map (cP cI)))), (5, .d (.pl (p.2.1.map (cP cI)))), (6, .own 24 0 p.2.2.length)]) (fun p => [(24, some (.row 26 1 (p.2.2.map (cP cI))))]) (fun p => p.1.length + p.2.1.length) (a0, b0, []) hst (by simp) (by simp) ?_
  rintro ⟨a, b, out⟩ hs t m hI hh
  simp only at hI
  have hlen := hI.len
  have hL24 : LenOk 24 1 := ⟨by omega, by simp only [maxLen]; omega⟩
  have hpa : ∀ a : List (List Int), (0 : Int) < (a.length : Int) + 1 := fun a => by omega
  have hpb : ∀ a : List (List Int), ¬ (a.length : Int) + 1 = 0 := fun a => by omega
  have hqa : (0 : Int) < 1 := by omega
  have hqb : ¬ (0 : Int) < -1 := by omega
  rcases a with _ | ⟨x, a⟩
  · rcases b with _ | ⟨y, b⟩
    · have hd := hI.done
      subst hd
      simp [List.take_of_length_le]
    · refine anyQ fun Q => ?_
      have hc0 : True := trivial
      have hI' := hI.swap
      have hL := hI'.left (by simp)
      rcases nil_or_snoc out with rfl | ⟨o, z, rfl⟩
      · simp [hc0, hpa, hpb, hqa, hqb, List.take_of_length_le, cP, hL24, s152_13, ]
        exact back ([], b, [y]) (MI.swap (hL.2 (by simp))) (by simp <;> omega) rfl (by simp <;> omega) (by simp) (by simp)
      · simp only [List.length_append, List.length_cons, List.length_nil] at hlen
        have hw : IntKind.i64.wrap (o.length : Int) = o.length := wrap64_of (by omega) (by omega)
        have hix : (o.map (cP cI) ++ [[D.pl (z.map cI)]])[o.length]? = some [D.pl (z.map cI)] := by rw [List.getElem?_append_right (by simp)]; simp
        simp [hc0, hpa, hpb, hqa, hqb, List.take_of_length_le, hw, hix, cP, s152_13, ]
        refine call_f (w_spec_CompareRows z y) (by simp) rfl fun hs3 hh3 => ?_
        simp at hh3
        by_cases e : z = y
        · subst e
          simp [cmpL_self]
          exact back ([], b, o ++ [z]) (MI.swap (hL.1 (hI'.last.2 rfl))) (by simp <;> omega) rfl (by simp <;> omega) (by simp) (by simp)
        · have e' : ¬ cmpL z y = 0 := fun h => e ((cmpL_zero _ _).1 h)
          simp [e', show LenOk 24 (o.length + 1 + 1) from ⟨by omega, by simp only [maxLen]; omega⟩, cP]
          exact back ([], b, o ++ [z] ++ [y]) (MI.swap (hL.2 fun h => e (hI'.last.1 h))) (by simp <;> omega) rfl (by simp <;> omega) (by simp) (by simp)
  · rcases b with _ | ⟨y, b⟩
    · refine anyQ fun Q => ?_
      have hc0 : True := trivial
      have hL := hI.left (by simp)
      rcases nil_or_snoc out with rfl | ⟨o, z, rfl⟩
      · simp [hc0, hpa, hpb, hqa, hqb, List.take_of_length_le, cP, hL24, s152_13, ]
        exact back (a, [], [x]) ((hL.2 (by simp))) (by simp <;> omega) rfl (by simp <;> omega) (by simp) (by simp)
      · simp only [List.length_append, List.length_cons, List.length_nil] at hlen
        have hw : IntKind.i64.wrap (o.length : Int) = o.length := wrap64_of (by omega) (by omega)
        have hix : (o.map (cP cI) ++ [[D.pl (z.map cI)]])[o.length]? = some [D.pl (z.map cI)] := by rw [List.getElem?_append_right (by simp)]; simp
        simp [hc0, hpa, hpb, hqa, hqb, List.take_of_length_le, hw, hix, cP, s152_13, ]
        refine call_f (w_spec_CompareRows z x) (by simp) rfl fun hs3 hh3 => ?_
        simp at hh3
        by_cases e : z = x
        · subst e
          simp [cmpL_self]
          exact back (a, [], o ++ [z]) ((hL.1 (hI.last.2 rfl))) (by simp <;> omega) rfl (by simp <;> omega) (by simp) (by simp)
        · have e' : ¬ cmpL z x = 0 := fun h => e ((cmpL_zero _ _).1 h)
          simp [e', show LenOk 24 (o.length + 1 + 1) from ⟨by omega, by simp only [maxLen]; omega⟩, cP]
          exact back (a, [], o ++ [z] ++ [x]) ((hL.2 fun h => e (hI.last.1 h))) (by simp <;> omega) rfl (by simp <;> omega) (by simp) (by simp)
    · refine anyQ fun Q => ?_
      simp [cP, hpa, hpb, s152_13, ]
      refine call_f (w_spec_CompareRows x y) (by simp) rfl fun hs0 hh0 => ?_
      simp at hh0
      by_cases hc0 : 0 < cmpL x y
      · have hI' := hI.swap
        have hL := hI'.left (hI.hr hc0)
        rcases nil_or_snoc out with rfl | ⟨o, z, rfl⟩
        · simp [hc0, hpa, hpb, hqa, hqb, List.take_of_length_le, cP, hL24, s152_13, ]
          exact back ((x :: a), b, [y]) (MI.swap (hL.2 (by simp))) (by simp <;> omega) rfl (by simp <;> omega) (by simp) (by simp)
        · simp only [List.length_append, List.length_cons, List.length_nil] at hlen
          have hw : IntKind.i64.wrap (o.length : Int) = o.length := wrap64_of (by omega) (by omega)
          have hix : (o.map (cP cI) ++ [[D.pl (z.map cI)]])[o.length]? = some [D.pl (z.map cI)] := by rw [List.getElem?_append_right (by simp)]; simp
          simp [hc0, hpa, hpb, hqa, hqb, List.take_of_length_le, hw, hix, cP, s152_13, ]
          refine call_f (w_spec_CompareRows z y) (by simp) rfl fun hs3 hh3 => ?_
          simp at hh3
          by_cases e : z = y
          · subst e
            simp [cmpL_self]
            exact back ((x :: a), b, o ++ [z]) (MI.swap (hL.1 (hI'.last.2 rfl))) (by simp <;> omega) rfl (by simp <;> omega) (by simp) (by simp)
          · have e' : ¬ cmpL z y = 0 := fun h => e ((cmpL_zero _ _).1 h)
            simp [e', show LenOk 24 (o.length + 1 + 1) from ⟨by omega, by simp only [maxLen]; omega⟩, cP]
            exact back ((x :: a), b, o ++ [z] ++ [y]) (MI.swap (hL.2 fun h => e (hI'.last.1 h))) (by simp <;> omega) rfl (by simp <;> omega) (by simp) (by simp)
      · 
        have hL := hI.left (hI.hl hc0)
        rcases nil_or_snoc out with rfl | ⟨o, z, rfl⟩
        · simp [hc0, hpa, hpb, hqa, hqb, List.take_of_length_le, cP, hL24, s152_13, ]
          exact back (a, (y :: b), [x]) ((hL.2 (by simp))) (by simp <;> omega) rfl (by simp <;> omega) (by simp) (by simp)
        · simp only [List.length_append, List.length_cons, List.length_nil] at hlen
          have hw : IntKind.i64.wrap (o.length : Int) = o.length := wrap64_of (by omega) (by omega)
          have hix : (o.map (cP cI) ++ [[D.pl (z.map cI)]])[o.length]? = some [D.pl (z.map cI)] := by rw [List.getElem?_append_right (by simp)]; simp
          simp [hc0, hpa, hpb, hqa, hqb, List.take_of_length_le, hw, hix, cP, s152_13, ]
          refine call_f (w_spec_CompareRows z x) (by simp) rfl fun hs3 hh3 => ?_
          simp at hh3
          by_cases e : z = x
          · subst e
            simp [cmpL_self]
            exact back (a, (y :: b), o ++ [z]) ((hL.1 (hI.last.2 rfl))) (by simp <;> omega) rfl (by simp <;> omega) (by simp) (by simp)
          · have e' : ¬ cmpL z x = 0 := fun h => e ((cmpL_zero _ _).1 h)
            simp [e', show LenOk 24 (o.length + 1 + 1) from ⟨by omega, by simp only [maxLen]; omega⟩, cP]
            exact back (a, (y :: b), o ++ [z] ++ [x]) ((hL.2 fun h => e (hI.last.1 h))) (by simp <;> omega) rfl (by simp <;> omega) (by simp) (by simp)

end Go.Proofs.YtggbpdjjlgejmaaGreat


namespace Go.Proofs.YtggbpdjjlgejmaaGreat
open Go.Vs Go.Proofs Go
set_option maxRecDepth 100000
set_option maxHeartbeats 1000000

theorem w_spec_NewRelation (ar : Int) (l : List (List Int)) (hb : l.length ≤ 4294967296) (hn : ∀ x ∈ l, x.length ≤ 4294967296) : VC Tryz.prog 125 [.d (.int .i64 ar), .d (pS (cP cI) l)] (fun _ v => v = .tup [.agg ((eReln (newR ar l)).map .d), .d (.bool (newB ar l))]) := by
  refine VC.ofL EP s125 (by kernel_rfl) Tryz.func125 (by rfl) (by kernel_rfl) (by simp [Tryz.f125]) (by simp [Tryz.f125]) s125_ok fun B hl => ?_
  simp [Tryz.f125, eReln]
  refine loop_rule (X := Nat) (fun i => i ≤ l.length ∧ AllTo (fun r : List Int => decide ((r.length : Int) = ar) && valsOk r) l i) (fun i => [(0, .d (.int .i64 ar)), (1, .d (.pl (l.map (cP cI)))), (4, .ptr 4 0 0), (6, .d (.int .i64 i))])
    (fun i => [(4, some (.box [.d (.int .i64 0), .d (.sl none none [])]))]) (fun i => l.length - i) 0 ⟨by simp, allTo_zero⟩ (by simp) (by simp) ?_
  intro i hs t m hi hh
  by_cases hlt : i < l.length
  · have hwi := wr1 (i := i) (by omega)
    by_cases hln : (l[i].length : Int) = ar
    · simp [hlt, hln, cP, ]
      refine call_f (w_spec_AreValidValues l[i]) (by simp) rfl fun hs1 hh1 => ?_
      simp at hh1
      cases hv : valsOk l[i]
      · have hbad := all_bad (p := fun r : List Int => decide ((r.length : Int) = ar) && valsOk r) hlt (by simp [hv])
        simp [newR, newB, hbad, eReln]
      · simp [hwi]
        exact back (i + 1) ⟨by omega, allTo_step hi.2 hlt (by simp [hv, hln])⟩ (by omega) rfl (by simp <;> omega) (by simp) (by simp)
    · have hbad := all_bad (p := fun r : List Int => decide ((r.length : Int) = ar) && valsOk r) hlt (by simp [hln])
      simp [hlt, hln, newR, newB, hbad, eReln, ]
  · have hd := allTo_done hi.2 (by omega)
    have hsl := srtU_len l
    simp [hlt, ]
    refine call_p (w_spec_l5Sort _ l (Nat.le_refl _) hb) (by simp) fun hs1 hh1 _ => ?_
    simp at hh1
    simp []
    refine call_p (w_spec_l5Copy ⟨ar, srtU l⟩ (by simp; omega) (fun x hx => hn x ((srtU_mem l x).1 hx))) (by simp [eReln]) fun hs2 hh2 _ => ?_
    simp at hh2
    simp [eReln]
    refine call_f (w_spec_IsValidRelation ⟨ar, srtU l⟩) (by simp [eReln]) rfl fun hs3 hh3 => ?_
    simp at hh3
    cases h1 : rowsOk ar (srtU l)
    · simp [newR, newB, h1, eReln]
    · simp [newR, newB, h1, hd, eReln]

end Go.Proofs.YtggbpdjjlgejmaaGreat


namespace Go.Proofs.YtggbpdjjlgejmaaGreat
open Go.Vs Go.Proofs Go
set_option maxRecDepth 100000
set_option maxHeartbeats 1000000

section
attribute [local simp] plI_id plStr_id map_plI map_plStr pS cP cI cStr cU8 cB
theorem q_impl_Difference (a b : PReln) : VC Tryz.prog 118 [.agg ((eReln a).map V.d), .agg ((eReln b).map V.d)] (fun _ v => v = .tup [.agg ((eReln (difR a b)).map V.d), .d (.bool (difB a b))]) := by
  refine VC.ofL EP s118 (by kernel_rfl) Tryz.func118 (by rfl) (by kernel_rfl) (by simp [Tryz.f118]) (by simp [Tryz.f118]) s118_ok fun B hl => ?_
  obtain ⟨aa, al⟩ := a
  obtain ⟨ba, bl⟩ := b
  simp [Tryz.f118, s118_8, eReln]
  refine call_f (w_impl_IsValidRelation ⟨aa, al⟩) (by simp [eReln]) rfl fun hs1 hh1 => ?_
  simp at hh1
  cases h1 : rowsOk aa al
  · simp [difR, difB, h1, eReln]
  simp
  refine call_f (w_impl_IsValidRelation ⟨ba, bl⟩) (by simp [eReln]) rfl fun hs2 hh2 => ?_
  simp at hh2
  cases h2 : rowsOk ba bl
  · simp [difR, difB, h1, h2, eReln]
  by_cases h3 : aa = ba
  case neg => simp [difR, difB, h1, h2, h3, eReln]
  subst h3
  have hdb : difB ⟨aa, al⟩ ⟨aa, bl⟩ = true := by simp [difB, h1, h2]
  have hdr : difR ⟨aa, al⟩ ⟨aa, bl⟩ = ⟨aa, difL al bl⟩ := by simp only [difR, hdb, if_true]
  rw [hdb, hdr]
  have hal := rowsOk_len h1
  have hbl := rowsOk_len h2
  have hrow := rowsOk_row h1
  simp
  refine loop_ruleL (X := Nat) (fun i _ => i ≤ al.length) (fun i => [(2, .ptr 2 0 0), (3, .ptr 3 0 0), (4, .ptr 4 0 0), (6, .ptr 6 0 0), (29, .d (.pl (al.map (cP cI)))), (30, .d (.int .i64 al.length)), (31, .d (.int .i64 i))])
    (fun i => [(2, some (.box [.d (.int .i64 aa), .d (.pl (al.map (cP cI)))])), (3, some (.box [.d (.int .i64 aa), .d (.pl (bl.map (cP cI)))])), (4, some (.box [.d (.int .i64 0), .d (.sl none none [])])), (6, some (.box [.d (.int .i64 aa), .own 44 0 (difL (al.take i) bl).length])), (44, some (.row 26 1 ((difL (al.take i) bl).map (cP cI))))]) (fun i => al.length - i) ?_ ?_
  · refine (lead_box 6 1 44 26 1 [.d (.int .i64 aa), .d (.sl none none [])] (by omega) (by omega) (by omega) (by simp) rfl).bind ?_
    rintro _ rfl
    exact Lead.of ⟨0, by omega, rfl, rfl, Nat.le_refl _, by simp, by simp [difL]⟩
  intro i hs t m hi hh
  by_cases hlt : i < al.length
  · have hwi := wr1 (i := i) (by omega)
    have hst := difL_step (b := bl) hlt
    have hdl := difL_len (al.take i) bl
    rw [List.length_take] at hdl
    have hL1 : LenOk 8 al[i].length := by
      have := hrow _ (List.getElem_mem hlt)
      exact ⟨by omega, by simp only [maxLen]; omega⟩
    have hL2 : LenOk 24 ((difL (al.take i) bl).length + 1) := ⟨by omega, by simp only [maxLen]; omega⟩
    simp [hlt, s118_8, ]
    refine call_f (VC.to (w_impl_ContainsRow ⟨aa, bl⟩ al[i] (by show bl.length ≤ _; omega)) (show _ = V.d (.bool (placeB bl al[i])) by simp [hasR, h2])) (by simp [eReln]) rfl fun hs3 hh3 => ?_
    simp at hh3
    cases h4 : placeB bl al[i]
    · rw [h4] at hst
      simp only [Bool.false_eq_true, if_false] at hst
      simp [hlt, s118_8, ]
      refine call_p (q_impl_copyInts al[i] (by have := hrow _ (List.getElem_mem hlt); omega)) (by simp) fun hs4 hh4 hl4 => ?_
      simp at hh4
      simp [hwi, hL2, s118_8, ]
      exact back2 (i + 1) (by omega) (by omega) rfl (by simp <;> omega) (by simp) (by simp [hst])
    · rw [h4] at hst
      simp only [if_true, List.append_nil] at hst
      simp [hwi, s118_8, ]
      exact back2 (i + 1) (by omega) (by omega) rfl (by simp <;> omega) (by simp) (by simp [hst])
  · have hn : i = al.length := by omega
    subst hn
    simp [List.take_of_length_le]
theorem w_spec_Union (a b : PReln) : VC Tryz.prog 109 [.agg ((eReln a).map V.d), .agg ((eReln b).map V.d)] (fun _ v => v = .tup [.agg ((eReln (uniR a b)).map V.d), .d (.bool (uniB a b))]) := by
  refine VC.ofL EP s109 (by kernel_rfl) Tryz.func109 (by rfl) (by kernel_rfl) (by simp [Tryz.f109]) (by simp [Tryz.f109]) s109_ok fun B hl => ?_
  obtain ⟨aa, al⟩ := a
  obtain ⟨ba, bl⟩ := b
  simp [Tryz.f109, s109_3, eReln]
  refine call_f (w_spec_IsValidRelation ⟨aa, al⟩) (by simp [eReln]) rfl fun hs1 hh1 => ?_
  simp at hh1
  cases h1 : rowsOk aa al
  · simp [uniR, uniB, difB, h1, eReln]
  simp
  refine call_f (w_spec_IsValidRelation ⟨ba, bl⟩) (by simp [eReln]) rfl fun hs2 hh2 => ?_
  simp at hh2
  cases h2 : rowsOk ba bl
  · simp [uniR, uniB, difB, h1, h2, eReln]
  by_cases h3 : aa = ba
  case neg => simp [uniR, uniB, difB, h1, h2, h3, eReln]
  subst h3
  have hdb : difB ⟨aa, al⟩ ⟨aa, bl⟩ = true := by simp [difB, h1, h2]
  obtain ⟨z1, z2, z3, z4⟩ := difB_len hdb
  simp only at z3 z4
  have hL1 : LenOk 24 al.length := ⟨by omega, by simp only [maxLen]; omega⟩
  have hL2 : LenOk 24 (al.length + bl.length) := ⟨by omega, by simp only [maxLen]; omega⟩
  have hN := w_spec_NewRelation aa (al ++ bl) (by simp; omega) (fun x hx => by
    rcases List.mem_append.1 hx with h | h
    · exact z1.2 x h
    · exact z2.2 x h)
  simp [hL1, hL2, List.take_of_length_le, s109_3, ]
  repeat' apply And.intro
  all_goals
    refine call_p hN (by simp [List.take_of_length_le]) fun hs3 hh3 hl3 => ?_
    simp [uniR, uniB, hdb, eReln, s109_3, ]
end

end Go.Proofs.YtggbpdjjlgejmaaGreat


namespace Go.Proofs.YtggbpdjjlgejmaaGreat
open Go.Vs Go.Proofs Go
set_option maxRecDepth 100000
set_option maxHeartbeats 1000000

theorem e_impl_sorted : ∀ (n : Nat) (l : List (List Int)), l.length ≤ n → l.length ≤ 4294967296 → (∀ r ∈ l, r.length ≤ 4294967296) →
   VC Tryz.prog 93 [.d (pS (cP cI) l)] (fun m r => ∃ y : Sl Ints, r = .d (dSl (cS cI) y) ∧ plS (plS plI) y = srtU l ∧ okS (okS okI) y ∧ Good (cS (cS cI) y) (whS (whS whI) y) m) := by
  intro n
  induction n with
  | zero =>
    intro l hn hb hb2
    have : l = [] := List.length_eq_zero_iff.1 (by omega)
    subst this
    refine VC.of E s93 (by kernel_rfl) Tryz.func93 (by rfl) (by kernel_rfl) (by simp [Tryz.f93]) (by simp [Tryz.f93]) s93_ok fun B => ?_
    simp [Tryz.f93, s93_4, s93_11, s93_4, s93_11, pS]
    refine call_some (e_impl_copyRows [] (by simp) (by simp)) (by simp [pS]) (by simp) fun n1 hs1 r1 hn1 hm1 hp1 hr1 => ?_
    obtain ⟨y, rfl, p1, k1, G1⟩ := hp1
    simp at hn1
    simp
    exact ⟨y, rfl, by rw [p1]; rfl, k1, G1.le (by omega)⟩
  | succ n ih =>
  intro l hn hb hb2
  refine VC.of E s93 (by kernel_rfl) Tryz.func93 (by rfl) (by kernel_rfl) (by simp [Tryz.f93]) (by simp [Tryz.f93]) s93_ok fun B => ?_
  by_cases h2 : l.length < 2
  · have e : srtU l = l := srtU_id (by
      match l, h2 with
      | [], _ => exact .nil
      | [_], _ => simp
      | _ :: _ :: _, h => simp only [List.length_cons] at h; omega)
    simp [Tryz.f93, s93_4, s93_11, s93_4, s93_11, pS, show ((l.length : Int) < 2) by omega]
    refine call_some (e_impl_copyRows l hb hb2) (by simp [pS]) (by simp) fun n1 hs1 r1 hn1 hm1 hp1 hr1 => ?_
    obtain ⟨y, rfl, p1, k1, G1⟩ := hp1
    simp at hn1
    simp
    exact ⟨y, rfl, by rw [p1, e], k1, G1.le (by omega)⟩
  obtain ⟨k, hk⟩ : ∃ k, k = l.length / 2 := ⟨_, rfl⟩
  have hm : IntKind.i64.wrap ((l.length : Int) / 2) = (k : Int) := by rw [wrap64_of (by omega) (by omega)]; omega
  have hkl : k ≤ l.length := by omega
  simp [Tryz.f93, s93_4, s93_11, s93_4, s93_11, pS, show ¬ ((l.length : Int) < 2) by omega, hm, hkl]
  have hA := ih (l.take k) (by simp; omega) (by simp; omega) (fun r hr => hb2 r (List.mem_of_mem_take hr))
  have hB' := ih (l.drop k) (by simp; omega) (by simp; omega) (fun r hr => hb2 r (List.mem_of_mem_drop hr))
  simp only [pS, List.map_take] at hA
  simp only [pS, List.map_drop] at hB'
  refine call_some hA (by simp) (by simp) fun n1 hs1 r1 hn1 hm1 hp1 hr1 => ?_
  obtain ⟨ya, rfl, p1, k1, G1⟩ := hp1
  simp at hn1
  simp [hm, hkl, List.take_of_length_le, s93_4, s93_11, ]
  refine call_some hB' (by simp) (by simp) fun n2 hs2 r2 hn2 hm2 hp2 hr2 => ?_
  obtain ⟨yb, rfl, p2, k2, G2⟩ := hp2
  simp at hn2
  have hst := MJ.start l k
  rw [← p1, ← p2] at hst
  obtain ⟨aid, aT, as_⟩ := ya
  obtain ⟨bid, bT, bs_⟩ := yb
  have u1 : ∀ g ∈ idsLL (as_.map (cS cI)), g < hs1 := fun g hg => hr1 g (by rw [V.ids]; exact mem_sl_ids.2 (.inr hg))
  have own0 : OwnR B ([] ++ (as_ ++ bs_)) := by
    have g1 := G1.nd
    have g2 := G2.nd
    rw [idsL_cS] at g1 g2
    have h1 := (sl_nd g1).1
    have h2 := (sl_nd g2).1
    have e : idsLL ((as_ ++ bs_).map (cS cI)) = idsLL (as_.map (cS cI)) ++ idsLL (bs_.map (cS cI)) := by rw [List.map_append, idsLL_append]
    have l1 : ∀ g ∈ idsLL (as_.map (cS cI)), B ≤ g := fun g hg => by have := G1.lo g (by rw [idsL_cS]; exact mem_sl_ids.2 (.inr hg)); omega
    have l2 : ∀ g ∈ idsLL (bs_.map (cS cI)), n2 ≤ g := fun g hg => G2.lo g (by rw [idsL_cS]; exact mem_sl_ids.2 (.inr hg))
    refine ⟨?_, ?_, fun r hr => ?_, fun r hr => ?_⟩
    · rw [List.nil_append, e]
      exact List.nodup_append.2 ⟨h1, h2, fun x hx y hy hxy => by subst hxy; have := u1 x hx; have := l2 x hy; omega⟩
    · intro g hg
      rw [List.nil_append, e] at hg
      rcases List.mem_append.1 hg with h | h
      · exact l1 g h
      · have := l2 g h; omega
    · rcases (by simpa using hr : r ∈ as_ ∨ r ∈ bs_) with h | h
      · exact G1.wh.2 r h
      · exact G2.wh.2 r h
    · rcases (by simpa using hr : r ∈ as_ ∨ r ∈ bs_) with h | h
      · exact k1.2 r h
      · exact k2.2 r h
  clear hr1 hr2 u1
  simp [dSl, s93_4, s93_11, ]
  refine loop_ruleL (X := List Ints × List Ints × List Ints × Option (TypeId × Nat) × Option (TypeId × Nat)) (fun p _ => SrtI l B p) (fun p => [(4, .d (.sl aid p.2.2.2.1 (p.1.map (cS cI)))), (5, .d (.sl bid p.2.2.2.2 (p.2.1.map (cS cI)))), (6, .own 52 0 p.2.2.1.length)])
    (fun p => [(52, some (.row 26 1 (p.2.2.1.map (cS cI))))]) (fun p => p.1.length + p.2.1.length) ?_ ?_
  · refine (lead_slot 6 52 26 1 (by omega) (by omega) (by simp)).bind ?_
    rintro _ rfl
    exact Lead.of ⟨(as_, bs_, [], aT, bT), ⟨hst, own0⟩, rfl, rfl, Nat.le_refl _, by simp, by simp⟩
  rintro ⟨a, b, o, Ta, Tb⟩ hs t m hI hh
  have hlen := hI.mj.len
  simp only [List.length_map] at hlen
  have hpa : ∀ a : List Ints, (0 : Int) < (a.length : Int) + 1 := fun a => by omega
  have hpb : ∀ a : List Ints, ¬ (a.length : Int) + 1 = 0 := fun a => by omega
  rcases a with _ | ⟨x, a⟩
  · rcases b with _ | ⟨y, b⟩
    · have hd := hI.mj.done
      simp only at hd
      simp [s93_4, s93_11, ]
      intro γ hs' h1 hg
      obtain ⟨q1, q2⟩ := gam_at hg (k := 52) (T := 26) (sz := 1) (es := o.map (cS cI)) (by simp)
      have q3 := gam_row hg (k := 52) (T := 26) (sz := 1) (es := o.map (cS cI)) (by simp)
      clear hg
      have hown : OwnR B o := by have := hI.own; simpa using this
      have hp : hpLL (o.map (cS cI)) = false := hpLL_mapS o
      simp only [List.length_nil] at hlen
      exact ⟨⟨γ 52, some (26, 1), o⟩, by simp [dSl, List.take_of_length_le], by simpa [plS] using hd, ⟨by simp only [maxLen]; show o.length ≤ _; omega, hown.ok⟩, good_row (fun g hg => (q1 g hg).1) (by simpa using q2) q3 ⟨hown.nd, hown.lo⟩ hown.wh⟩
    · simp only [List.length_cons, List.length_nil] at hlen
      have hL : LenOk 24 (o.length + 1) := ⟨by omega, by simp only [maxLen]; omega⟩
      refine anyQ2 fun Q => ?_
      simp [hpa, hpb, hL, cS, dSl, s93_4, s93_11, ]
      exact back2 ([], b, o ++ [y], Ta, (if bid.isSome = true then none else Tb)) (hI.right (by simp)) (by simp <;> omega) rfl (by simp <;> omega) (by simp [cS, dSl, List.take_of_length_le]) (by simp [cS, dSl])
  · rcases b with _ | ⟨y, b⟩
    · simp only [List.length_cons, List.length_nil] at hlen
      have hL : LenOk 24 (o.length + 1) := ⟨by omega, by simp only [maxLen]; omega⟩
      refine anyQ2 fun Q => ?_
      simp [hpa, hpb, hL, cS, dSl, s93_4, s93_11, ]
      exact back2 (a, [], o ++ [x], (if aid.isSome = true then none else Ta), Tb) (hI.left (by simp)) (by simp <;> omega) rfl (by simp <;> omega) (by simp [cS, dSl, List.take_of_length_le]) (by simp [cS, dSl])
    · simp only [List.length_cons] at hlen
      have hL : LenOk 24 (o.length + 1) := ⟨by omega, by simp only [maxLen]; omega⟩
      have hM := hI.mj
      simp only [List.map_cons] at hM
      refine anyQ2 fun Q => ?_
      simp [hpa, hpb, cS, dSl, s93_4, s93_11, ]
      refine call_f (w_impl_CompareRows (plS plI x) (plS plI y)) (by simp [plS, pS, erLL_map er_cI, map_plI]) rfl fun hs3 hh3 => ?_
      simp at hh3
      by_cases c1 : cmpL (plS plI x) (plS plI y) < 0
      · have c2 : cmpL (plS plI x) (plS plI y) ≤ 0 := by omega
        have c3 : ¬ 0 ≤ cmpL (plS plI x) (plS plI y) := by omega
        simp [c2, c3, hL, cS, dSl, s93_4, s93_11, ]
        exact back2 (a, y :: b, o ++ [x], (if aid.isSome = true then none else Ta), Tb) (hI.left (hM.less c1)) (by simp <;> omega) rfl (by simp <;> omega) (by simp [cS, dSl, List.take_of_length_le]) (by simp [cS, dSl])
      by_cases c4 : cmpL (plS plI x) (plS plI y) = 0
      · have e := (cmpL_zero _ _).1 c4
        simp [c4, hL, cS, dSl, s93_4, s93_11, ]
        exact back2 (a, b, o ++ [x], (if aid.isSome = true then none else Ta), (if bid.isSome = true then none else Tb)) (hI.both e) (by simp <;> omega) rfl (by simp <;> omega) (by simp [cS, dSl, List.take_of_length_le]) (by simp [cS, dSl])
      · have c2 : ¬ cmpL (plS plI x) (plS plI y) ≤ 0 := by omega
        have c3 : 0 ≤ cmpL (plS plI x) (plS plI y) := by omega
        have c5 : 0 < cmpL (plS plI x) (plS plI y) := by omega
        have c6 : cmpL (plS plI y) (plS plI x) < 0 := by have := cmpL_swap (plS plI x) (plS plI y); omega
        simp [c2, c3, c5, hL, cS, dSl, s93_4, s93_11, ]
        exact back2 (x :: a, b, o ++ [y], Ta, (if bid.isSome = true then none else Tb)) (hI.right (hM.swap.less c6)) (by simp <;> omega) rfl (by simp <;> omega) (by simp [cS, dSl, List.take_of_length_le]) (by simp [cS, dSl])

end Go.Proofs.YtggbpdjjlgejmaaGreat


namespace Go.Proofs.YtggbpdjjlgejmaaGreat
open Go.Vs Go.Proofs Go
set_option maxRecDepth 100000
set_option maxHeartbeats 1000000

theorem e_impl_NewRelation (ar : Int) (l : List (List Int)) (hb : l.length ≤ 4294967296) (hb2 : ∀ r ∈ l, r.length ≤ 4294967296) :
   VC Tryz.prog 146 [.d (.int .i64 ar), .d (pS (cP cI) l)] (fun m r => ∃ y : Reln, r = .tup [.agg ((cReln y).map V.d), .d (.bool (newB ar l))] ∧ plReln y = newR ar l ∧ okReln y ∧ Good (cReln y) (whReln y) m) := by
  refine VC.of E s146 (by kernel_rfl) Tryz.func146 (by rfl) (by kernel_rfl) (by simp [Tryz.f146]) (by simp [Tryz.f146]) s146_ok fun B => ?_
  have hno : newB ar l = false → ∃ y : Reln, V.tup [.agg ((cReln ⟨0, nilS⟩).map V.d), .d (.bool false)] = .tup [.agg ((cReln y).map V.d), .d (.bool (newB ar l))] ∧ plReln y = newR ar l ∧ okReln y ∧ Good (cReln y) (whReln y) B := fun h =>
    ⟨⟨0, nilS⟩, by rw [h], by simp [newR, h, plReln, plI, nilS, plS], ⟨trivial, ok_nilS⟩, good_Reln0 B⟩
  simp only [cReln, cS, cI, nilS, dSl] at hno
  simp at hno
  simp [Tryz.f146, pS]
  refine loop_rule (X := Nat) (ToN ar l) (fun i => [(0, .d (.int .i64 ar)), (1, .d (.pl (l.map (cP cI)))), (4, .ptr 4 0 0), (9, .d (.pl (l.map (cP cI)))), (10, .d (.int .i64 l.length)), (11, .d (.int .i64 i))])
    (fun i => [(4, some (.box [.d (.int .i64 0), .d (.sl none none [])]))]) (fun i => l.length - i) 0 .zero (by simp [cP, cI, pS]) (by simp) ?_
  intro i hs t m hi hh
  have hle := hi.le
  by_cases hlt : i < l.length
  · have hwi := wr1 (i := i) (by omega)
    by_cases hln : (l[i].length : Int) = ar
    · simp [hlt, hln, cP, pS, ]
      refine call_f (w_impl_AreValidValues l[i]) (by simp [pS]) rfl fun hs1 hh1 => ?_
      simp at hh1
      cases hv : valsOk l[i]
      · have hB0 : newB ar l = false := hi.bad hlt (by simp [hv])
        simp
        simpa [hB0, cReln, cS, cI, dSl] using hno hB0
      · simp [hwi]
        exact back (i + 1) (hi.step hlt (by simp [hv, hln])) (by omega) rfl (by simp <;> omega) (by simp [cP, cI, pS]) (by simp)
    · have hB0 : newB ar l = false := hi.bad hlt (by simp [hln])
      simp [hlt, hln, cP, pS, ]
      simpa [hB0, cReln, cS, cI, dSl] using hno hB0
  · have hd := hi.done (by omega)
    have hsl := srtU_len l
    simp [hlt, ]
    refine call_some (e_impl_sorted _ l (Nat.le_refl _) hb hb2) (by simp [pS]) (by simp) fun n1 hs1 r1 hn1 hm1 hp1 hr1 => ?_
    obtain ⟨y, rfl, p1, k1, G1⟩ := hp1
    simp at hn1
    clear hr1
    simp []
    refine call_f (w_impl_IsValidRelation ⟨ar, srtU l⟩) (by simp [← p1, eReln, er_SI, cI]) rfl fun hs3 hh3 => ?_
    simp at hh3
    cases h1 : rowsOk ar (srtU l)
    · have hB0 : newB ar l = false := by rw [newB, h1, Bool.and_false]
      simp
      simpa [hB0, cReln, cS, cI, dSl] using hno hB0
    · have hB1 : newB ar l = true := by rw [newB, h1, hd]; rfl
      simp [hB1]
      exact ⟨⟨ar, y⟩, by simp [cReln, cS, cI], by simp only [newR, hB1, if_true, plReln, plI]; rw [p1], ⟨trivial, k1⟩, good_Reln G1 (by omega)⟩
theorem e_impl_Union (a : PReln) (b : Reln) (kb : okReln b) :
   VC Tryz.prog 119 [.agg ((eReln a).map V.d), .agg ((cReln b).map V.d)] (fun m r => ∃ y : Reln, r = .tup [.agg ((cReln y).map V.d), .d (.bool (uniB a (plReln b)))] ∧ plReln y = uniR a (plReln b) ∧ okReln y ∧ Good (cReln y) (whReln y) m) := by
  refine VC.ofB E s119 (by kernel_rfl) Tryz.func119 (by rfl) (by kernel_rfl) (by simp [Tryz.f119]) (by simp [Tryz.f119]) s119_ok fun B hB => ?_
  have hbB : ∀ g ∈ idsL (cReln b), g < B := fun g hg => hB g (by simp only [idsVL, V.ids, idsVL_map_d, List.mem_append]; simp [hg])
  obtain ⟨aa, al⟩ := a
  obtain ⟨ba, ⟨bid, bT, bl⟩⟩ := b
  obtain ⟨L, hL⟩ : ∃ L, L = bl.map (plS plI) := ⟨_, rfl⟩
  have hp : plReln ⟨ba, ⟨bid, bT, bl⟩⟩ = ⟨ba, L⟩ := by rw [hL]; rfl
  rw [hp]
  have hno : difB ⟨aa, al⟩ ⟨ba, L⟩ = false → ∃ y : Reln, V.tup [.agg ((cReln ⟨0, nilS⟩).map V.d), .d (.bool false)] = .tup [.agg ((cReln y).map V.d), .d (.bool (uniB ⟨aa, al⟩ ⟨ba, L⟩))] ∧ plReln y = uniR ⟨aa, al⟩ ⟨ba, L⟩ ∧ okReln y ∧ Good (cReln y) (whReln y) B := fun h =>
    ⟨⟨0, nilS⟩, by simp [uniB, h], by simp [uniR, h, plReln, plI, nilS, plS], ⟨trivial, ok_nilS⟩, good_Reln0 B⟩
  simp only [cReln, cS, cI, nilS, dSl] at hno
  simp at hno
  simp [Tryz.f119, s119_3, eReln, cReln, cI, cP, cS, dSl]
  refine call_f (w_impl_IsValidRelation ⟨aa, al⟩) (by simp [eReln, cI, cP]) rfl fun hs1 hh1 => ?_
  simp at hh1
  cases h1 : rowsOk aa al
  · have hd : difB ⟨aa, al⟩ ⟨ba, L⟩ = false := by simp [difB, h1]
    simp
    simpa [uniB, hd] using hno hd
  simp
  refine call_f (w_impl_IsValidRelation ⟨ba, L⟩) (by simp [hL, eReln, cI, cP, pS, erLL_map (er_cS er_cI)]) rfl fun hs2 hh2 => ?_
  simp at hh2
  cases h2 : rowsOk ba L
  · have hd : difB ⟨aa, al⟩ ⟨ba, L⟩ = false := by simp [difB, h1, h2]
    simp
    simpa [uniB, hd] using hno hd
  by_cases h3 : aa = ba
  case neg =>
    have hd : difB ⟨aa, al⟩ ⟨ba, L⟩ = false := by simp [difB, h1, h2, h3]
    simp [h3]
    simpa [uniB, hd] using hno hd
  subst h3
  have hdb : difB ⟨aa, al⟩ ⟨aa, L⟩ = true := by simp [difB, h1, h2]
  obtain ⟨z1, z2, z3, z4⟩ := difB_len hdb
  simp only at z3 z4
  have hlb : bl.length = L.length := by rw [hL]; simp
  have uS : uniB ⟨aa, al⟩ ⟨aa, L⟩ = newB aa (al ++ L) := by simp [uniB, hdb]
  have uR : uniR ⟨aa, al⟩ ⟨aa, L⟩ = newR aa (al ++ L) := by simp only [uniR, hdb, if_true]
  rw [uS, uR]
  have hN := e_impl_NewRelation aa (al ++ L) (by simp; omega) (fun x hx => by
    rcases List.mem_append.1 hx with h | h
    · exact z1.2 x h
    · exact z2.2 x h)
  have hid : ∀ n r, (∃ y : Reln, r = V.tup [.agg ((cReln y).map V.d), .d (.bool (newB aa (al ++ L)))] ∧ plReln y = newR aa (al ++ L) ∧ okReln y ∧ Good (cReln y) (whReln y) n) → (∀ i ∈ r.ids, n ≤ i) ∧ r.hp = false := by
    rintro n _ ⟨y, rfl, _, _, G⟩
    refine ⟨fun i hi => G.lo i ?_, by simp [V.hp, hpVL, cReln, cI, cS, dSl, D.hp]⟩
    simpa [V.ids, idsVL, ids_agg, idsVL_map_d, D.ids] using hi
  simp [s119_3, ]
  by_cases hal : al = []
  · subst hal
    have hL2 : LenOk 24 L.length := ⟨by omega, by simp only [maxLen]; omega⟩
    refine call_pure e_impl_copyRows0 (by simp) (by simp [pS, cP]) (by simp [V.ids, D.ids, idsLL]) fun hs3 hh3 => ?_
    simp at hh3
    simp [cS, cI, dSl, hlb, hL2, s119_3, ]
    refine call_own (by simp) (fun γ n hn hg => ⟨[.d (.int .i64 aa), .d (.sl (γ 29) (some (26, 1)) (bl.map (cS cI)))], by simp [← hlb, hpLL_mapS, List.take_of_length_le, cS, dSl], hN.er (by simp [hL, pS, cP, erLL_map (er_cS er_cI)])⟩) hid fun n3 hs4 r3 hn3 hm3 hp3 hr3 => ?_
    obtain ⟨z, rfl, pz, kz, Gz⟩ := hp3
    simp at hn3
    clear hr3
    simp [cReln, cI, cS, dSl, s119_3, ]
    exact ⟨z, by simp [cReln, cI, cS, dSl], pz, kz, Gz.le (by omega)⟩
  · have hL2 : LenOk 24 (al.length + L.length) := ⟨by omega, by simp only [maxLen]; omega⟩
    refine call_some (e_impl_copyRowsT al (z1.1) z1.2) (by simp [pS]) (by simp) fun n1 hs3 r1 hn1 hm1 hp1 hr1 => ?_
    obtain ⟨⟨yid, yT, ys⟩, rfl, p1, k1, G1, hT⟩ := hp1
    simp only at hT
    subst hT
    simp at hn1
    have hyl : ys.length = al.length := by rw [← p1]; simp [plS]
    have hy0 : ys ≠ [] := fun h => hal (by rw [← p1, h]; rfl)
    obtain ⟨g, rfl⟩ : ∃ g, yid = some g := by
      cases yid with
      | none => exact absurd (G1.wh.1.nil rfl) hy0
      | some g => exact ⟨g, rfl⟩
    have hgn : n1 ≤ g := G1.lo g (by rw [idsL_cS]; exact mem_sl_ids.2 (.inl rfl))
    have hgB : B ≤ g := by omega
    have hbi : ∀ i ∈ (dSl (cS cI) ⟨bid, bT, bl⟩).ids, i < B := fun i hi => hbB i (by rw [cReln, idsL_app, idsL_cS]; simp [hi])
    have hg1 : g ∉ (D.sl bid bT (bl.map (cS cI))).ids := fun h => by have := hbi g h; omega
    have hg2 : g ∉ idsLL (bl.map (cS cI)) := fun h => hg1 (mem_sl_ids (s := ⟨bid, bT, bl⟩).2 (.inr h))
    have hg3 : g ∉ idsLL (ys.map (cS cI)) := by
      have := G1.nd
      rw [idsL_cS] at this
      exact (sl_nd this).2 g rfl
    have kg : ∀ i, i < B → kphi (some g) i = none := fun i hi => by simp only [kphi]; rw [if_neg (by simp; omega)]
    have eb : reV (kphi (some g)) (.d (.sl bid bT (bl.map (cS cI)))) = .d (.sl bid bT (bl.map (cS cI))) := reV_id (.d (dSl (cS cI) ⟨bid, bT, bl⟩)) fun i hi => kg i (hbi i hi)
    have hp1 : hpLL (bl.map (cS cI)) = false := hpLL_mapS bl
    simp [cS, cI, dSl, St.kill, eb, hgB, hg1, hg2, hg3, hp1, hyl, hlb, hL2, s119_3, ]
    have hg4 : ¬ bid = some g := fun h => hg1 (by rw [h]; simp [D.ids])
    refine ⟨hg4, ?_⟩
    have hp2 : hpLL (ys.map (cS cI)) = false := hpLL_mapS ys
    have ep : ys.map (plS plI) = al := by simpa [plS] using p1
    have eq1 : (ys.map (cS cI) ++ bl.map (cS cI)).length = al.length + L.length := by simp [hyl, hlb]
    refine call_own (by simp) (fun γ n hn hg => ⟨[.d (.int .i64 aa), .d (.sl (γ 29) (some (26, 1)) (ys.map (cS cI) ++ bl.map (cS cI)))], by simp [hp1, hp2, hyl, hlb, List.take_of_length_le], hN.er ?_⟩) hid fun n3 hs4 r3 hn3 hm3 hp3 hr3 => ?_
    · have e3 : erLL (ys.map (cS cI) ++ bl.map (cS cI)) = (al ++ L).map (cP cI) := by rw [← List.map_append, erLL_map (er_cS er_cI), List.map_append, ep, hL]
      simp [pS, e3]
    obtain ⟨z, rfl, pz, kz, Gz⟩ := hp3
    simp at hn3
    clear hr3
    simp [cReln, cI, cS, dSl, s119_3, ]
    exact ⟨z, by simp [cReln, cI, cS, dSl], pz, kz, Gz.le (by omega)⟩

end Go.Proofs.YtggbpdjjlgejmaaGreat


namespace Go.Proofs.YtggbpdjjlgejmaaGreat
open Go.Vs Go.Proofs Go
set_option maxRecDepth 100000
set_option maxHeartbeats 1000000

section
attribute [local simp] plI_id plStr_id map_plI map_plStr pS cP cI cStr cU8 cB eTab eReln
theorem w_spec_l6Copy (d : PDb) (hz : szDb d) : VC Tryz.prog 77 [.agg ((eDb d).map V.d)] (fun _ v => v = .agg ((eDb d).map V.d)) := by
  refine VC.ofL EP s77 (by kernel_rfl) Tryz.func77 (by rfl) (by kernel_rfl) (by simp [Tryz.f77]) (by simp [Tryz.f77]) s77_ok fun B hl => ?_
  obtain ⟨l⟩ := d
  simp only [szDb] at hz
  simp [Tryz.f77, s77_6, s77_6, eDb]
  refine loop_ruleL (X := Nat) (fun i _ => i ≤ l.length) (fun i => [(1, .ptr 1 0 0), (2, .ptr 2 0 0), (3, .ptr 3 0 0), (4, .d (.int .i64 i))]) (fun i => [(1, some (.box [.d (.pl (l.map eTab))])), (2, some (.box [.d (.sl none none [])])), (3, some (.box [.own 32 0 i])), (32, some (.row 127 3 ((l.take i).map eTab)))]) (fun i => l.length - i) ?_ ?_
  · refine (lead_box 3 0 32 127 3 [.d (.sl none none [])] (by omega) (by omega) (by omega) (by simp) rfl).bind ?_
    rintro _ rfl
    exact Lead.of ⟨0, by omega, rfl, rfl, Nat.le_refl _, by simp, by simp⟩
  intro i hs t m hi hh
  by_cases hlt : i < l.length
  · have hwi := wr1 (i := i) (by omega)
    have hL : LenOk 48 (i + 1) := ⟨by omega, by simp only [maxLen]; omega⟩
    have hmn : min i l.length = i := by omega
    have hr := hz.2 _ (List.getElem_mem hlt)
    obtain ⟨nm, ar, rows, hT⟩ : ∃ nm ar rows, l[i] = ⟨nm, ⟨ar, rows⟩⟩ := ⟨_, _, _, rfl⟩
    have hst2 : List.take (i + 1) (List.map eTab l) = List.take i (List.map eTab l) ++ [[.str nm, .int .i64 ar, .pl (rows.map (cP cI))]] := by
      rw [List.take_succ_eq_append_getElem (by simpa using hlt)]; simp [hT]
    rw [hT] at hr
    simp [hlt, hT, s77_6, ]
    refine call_p (w_spec_l5Copy ⟨ar, rows⟩ hr.1 hr.2) (by simp) fun hs1 hh1 hl1 => ?_
    simp at hh1
    simp [hlt, hT, hL, hwi, hmn, s77_6, ]
    exact back2 (i + 1) (by omega) (by omega) rfl (by simp <;> omega) (by simp) (by simp [hst2])
  · have hn : i = l.length := by omega
    subst hn
    simp [List.take_of_length_le]
end
theorem e_impl_copyDatabase (d : PDb) (hz : szDb d) (hst : ∀ t ∈ d.tabs, t.name.length ≤ maxLen) : VC Tryz.prog 116 [.agg ((eDb d).map V.d)] (fun n v => ∃ y : Db, v = .agg ((cDb y).map V.d) ∧ plDb y = d ∧ okDb y ∧ Good (cDb y) (whDb y) n) := by
  refine VC.of E s116 (by kernel_rfl) Tryz.func116 (by rfl) (by kernel_rfl) (by simp [Tryz.f116]) (by simp [Tryz.f116]) s116_ok fun B => ?_
  obtain ⟨l⟩ := d
  simp only [szDb] at hz hst
  simp [Tryz.f116, s116_5, s116_5, eDb, pS]
  refine loop_ruleL (X := Nat × List Tab) (CopI cTab whTab okTab plTab l B) (fun p => [(1, .ptr 1 0 0), (2, .ptr 2 0 0), (3, .ptr 3 0 0), (7, .d (.pl (l.map eTab))), (8, .d (.int .i64 l.length)), (9, .d (.int .i64 p.1))]) (fun p => [(2, some (.box [.d (.sl none none [])])), (3, some (.box [.own 22 0 p.2.length])), (22, some (.row 127 3 (p.2.map cTab)))]) (fun p => l.length - p.1) ?_ ?_
  · refine (lead_box 3 0 22 127 3 [.d (.sl none none [])] (by omega) (by omega) (by omega) (by simp) rfl).bind ?_
    rintro _ rfl
    exact Lead.of ⟨(0, []), .zero, rfl, rfl, Nat.le_refl _, by simp, by simp⟩
  rintro ⟨i, ys⟩ hs t m hI hh
  have hle := hI.le
  have hyl := hI.len
  simp only at hle
  by_cases hlt : i < l.length
  · have hwi := wr1 (i := i) (by omega)
    have hL : LenOk 48 (ys.length + 1) := ⟨by omega, by simp only [maxLen]; omega⟩
    have hr := hz.2 _ (List.getElem_mem hlt)
    have hn := hst _ (List.getElem_mem hlt)
    obtain ⟨nm, ar, rows, hT⟩ : ∃ nm ar rows, l[i] = ⟨nm, ⟨ar, rows⟩⟩ := ⟨_, _, _, rfl⟩
    rw [hT] at hr hn
    simp [hlt, hT, eTab, eReln, cStr, cI, cP, s116_5, ]
    refine call_some (e_impl_copyRelation ⟨ar, rows⟩ hr.1 hr.2) (by simp [eReln, cI, cP]) (by simp) fun n1 hs1 r1 hn1 hm1 hp1 hr1 => ?_
    obtain ⟨y, rfl, p1, k1, G1⟩ := hp1
    simp at hn1
    have u1 : ∀ g ∈ idsL (cTab ⟨nm, y⟩), g < hs1 := fun g hg => hr1 g (by
      rw [ids_agg]
      rw [cTab, idsL_app] at hg
      exact (List.mem_append.1 hg).resolve_left (by simp [cStr, idsL, D.ids]))
    simp [cReln, cI, cS, hL, hwi, s116_5, ]
    exact back2 (i + 1, ys ++ [⟨nm, y⟩]) (hI.snoc hlt (by rw [hT]; simp only [plTab, p1]; rfl) (show okTab (⟨nm, y⟩ : Tab) from ⟨hn, k1⟩) (by omega) hm1 (good_Tab G1) u1) (by simp only; omega) rfl (by simp <;> omega) (by simp) (by simp [cTab, cStr, cReln, cI, cS])
  · have hall := hI.all (by omega)
    simp [hlt, s116_5, ]
    intro γ hs' h1 hg
    obtain ⟨q1, q2⟩ := gam_at hg (k := 22) (T := 127) (sz := 3) (es := ys.map cTab) (by simp)
    have q3 := gam_row hg (k := 22) (T := 127) (sz := 3) (es := ys.map cTab) (by simp)
    clear hg
    have hp : hpLL (ys.map cTab) = false := hpLL_map (fun a => by simp) ys
    simp [hp, List.take_of_length_le]
    exact ⟨⟨⟨γ 22, some (127, 3), ys⟩⟩, by simp [cDb, cS, dSl], by simp only [plDb, plS, hall], ⟨by simp only [maxLen]; show ys.length ≤ _; omega, hI.ok⟩, good_row (fun g hg => (q1 g hg).1) (by simpa using q2) q3 ⟨hI.good.nd, hI.good.lo⟩ hI.good.wh⟩

end Go.Proofs.YtggbpdjjlgejmaaGreat


namespace Go.Proofs.YtggbpdjjlgejmaaGreat
open Go.Vs Go.Proofs Go
set_option maxRecDepth 100000
set_option maxHeartbeats 1000000

section
attribute [local simp] plI_id plStr_id map_plI map_plStr pS cP cI cStr cU8 cB eTab eReln
theorem w_spec_SetRelation (d : PDb) (nm : List UInt8) (r : PReln) (hz : szDb d) (hst : ∀ t ∈ d.tabs, t.name.length ≤ maxLen) (hnm : nm.length ≤ maxLen) :
   VC Tryz.prog 110 [.agg ((eDb d).map V.d), .d (.str nm), .agg ((eReln r).map V.d)] (fun _ v => v = .tup [.agg ((eDb (setP d nm r)).map V.d), .d (.bool (setB d nm r))]) := by
  refine VC.ofL EP s110 (by kernel_rfl) Tryz.func110 (by rfl) (by kernel_rfl) (by simp [Tryz.f110]) (by simp [Tryz.f110]) s110_ok fun B hl => ?_
  obtain ⟨l⟩ := d
  obtain ⟨ar, rows⟩ := r
  have hl := hz.1
  simp only at hl hst
  simp [Tryz.f110, eDb]
  refine loop_ruleL (X := Nat × List PTab × Bool) (fun p _ => StI nm ⟨ar, rows⟩ l p) (fun p => [(1, .d (.str nm)), (3, .ptr 3 0 0), (5, .ptr 5 0 0), (6, .ptr 6 0 0), (8, .ptr 8 0 0), (9, .d (.bool p.2.2)), (10, .d (.int .i64 p.1))])
    (fun p => [(3, some (.box [.d (.pl (l.map eTab))])), (5, some (.box [.d (.int .i64 ar), .d (.pl (rows.map (cP cI)))])), (6, some (.box [.d (.sl none none [])])), (8, some (.box [.own 39 0 p.2.1.length])), (39, some (.row 127 3 (p.2.1.map eTab)))]) (fun p => l.length - p.1) ?_ ?_
  · refine (lead_box 8 0 39 127 3 [.d (.sl none none [])] (by omega) (by omega) (by omega) (by simp) rfl).bind ?_
    rintro _ rfl
    exact Lead.of ⟨(0, [], false), .zero, rfl, rfl, Nat.le_refl _, by simp, by simp⟩
  rintro ⟨i, o, b⟩ hs t m hI hh
  have hle := hI.le
  have hol := hI.len
  simp only at hle hol
  by_cases hlt : i < l.length
  · have hwi := wr1 (i := i) (by omega)
    have hL1 : LenOk 48 (o.length + 1) := ⟨by omega, by simp only [maxLen]; omega⟩
    have hL2 : LenOk 48 (o.length + 1 + 1) := ⟨by omega, by simp only [maxLen]; omega⟩
    obtain ⟨tn, ta, tr, hT⟩ : ∃ tn ta tr, l[i] = ⟨tn, ⟨ta, tr⟩⟩ := ⟨_, _, _, rfl⟩
    have hs1 := fun s' => hI.step (s' := s') hlt
    rw [hT] at hs1
    simp only [stS] at hs1
    refine anyQ2 fun Q => ?_
    cases b
    · cases hb : Op.bytesLess tn nm
      · by_cases he : tn = nm
        · subst he
          simp [hb] at hs1
          simp [hlt, hT, hb, hL1, hwi, ]
          exact back2 (i + 1, _, true) hs1 (by simp only; omega) rfl (by simp <;> omega) (by simp) (by simp)
        · simp [hb, he] at hs1
          simp [hlt, hT, hb, he, hL1, hL2, hwi, ]
          exact back2 (i + 1, _, true) hs1 (by simp only; omega) rfl (by simp <;> omega) (by simp) (by simp)
      · have he : ¬ tn = nm := fun e => by rw [e, bl_irr] at hb; cases hb
        simp [hb, he] at hs1
        simp [hlt, hT, hb, he, hL1, hwi, ]
        exact back2 (i + 1, _, false) hs1 (by simp only; omega) rfl (by simp <;> omega) (by simp) (by simp)
    · by_cases he : tn = nm
      · simp [he] at hs1
        simp [hlt, hT, he, hwi, ]
        exact back2 (i + 1, _, true) hs1 (by simp only; omega) rfl (by simp <;> omega) (by simp) (by simp)
      · simp [he] at hs1
        simp [hlt, hT, he, hL1, hwi, ]
        exact back2 (i + 1, _, true) hs1 (by simp only; omega) rfl (by simp <;> omega) (by simp) (by simp)
  have hd := hI.done (by omega)
  have hL1 : LenOk 48 (o.length + 1) := ⟨by omega, by simp only [maxLen]; omega⟩
  obtain ⟨x, hx⟩ : ∃ x, x = setS l nm ⟨ar, rows⟩ := ⟨_, rfl⟩
  have hxm : ∀ t ∈ x, t.name.length ≤ maxLen := fun t ht => by
    rw [hx] at ht
    rcases setS_mem ht with h | h
    · exact hst t h
    · rw [h]; exact hnm
  rw [← hx] at hd
  cases b
  · simp at hd
    simp [hlt, hL1, ]
    refine call_f (w_spec_IsValidDatabase ⟨l⟩ hst) (by simp [eDb]) rfl fun hs1 hh1 => ?_
    simp at hh1
    cases h1 : dbOk ⟨l⟩
    · have hB : setB ⟨l⟩ nm ⟨ar, rows⟩ = false := by simp [setB, h1]
      simp []
      refine call_p (w_spec_l6Copy ⟨l⟩ hz) (by simp [eDb]) fun hs2 hh2 hl2 => ?_
      simp [eDb, hB, setP]
    · simp [h1, ]
      refine call_f (w_spec_IsValidDatabase ⟨x⟩ hxm) (by simp [eDb, hd, List.take_of_length_le]) rfl fun hs2 hh2 => ?_
      simp at hh2
      have hxL : setL l nm ⟨ar, rows⟩ = x := by rw [hx, setS_L h1]
      cases h2 : dbOk ⟨x⟩
      · have hB : setB ⟨l⟩ nm ⟨ar, rows⟩ = false := by simp [setB, h1, hxL, h2]
        simp []
        refine call_p (w_spec_l6Copy ⟨l⟩ hz) (by simp [eDb]) fun hs2 hh2 hl2 => ?_
        simp [eDb, hB, setP]
      · have hB : setB ⟨l⟩ nm ⟨ar, rows⟩ = true := by simp [setB, h1, hxL, h2]
        simp []
        refine call_p (w_spec_l6Copy ⟨x⟩ (szDb_ok h2)) (by simp [eDb, hd, List.take_of_length_le]) fun hs2 hh2 hl2 => ?_
        simp [eDb, hB, setP, hxL]
  · simp at hd
    simp [hlt, ]
    refine call_f (w_spec_IsValidDatabase ⟨l⟩ hst) (by simp [eDb]) rfl fun hs1 hh1 => ?_
    simp at hh1
    cases h1 : dbOk ⟨l⟩
    · have hB : setB ⟨l⟩ nm ⟨ar, rows⟩ = false := by simp [setB, h1]
      simp []
      refine call_p (w_spec_l6Copy ⟨l⟩ hz) (by simp [eDb]) fun hs2 hh2 hl2 => ?_
      simp [eDb, hB, setP]
    · simp [h1, ]
      refine call_f (w_spec_IsValidDatabase ⟨x⟩ hxm) (by simp [eDb, hd, List.take_of_length_le]) rfl fun hs2 hh2 => ?_
      simp at hh2
      have hxL : setL l nm ⟨ar, rows⟩ = x := by rw [hx, setS_L h1]
      cases h2 : dbOk ⟨x⟩
      · have hB : setB ⟨l⟩ nm ⟨ar, rows⟩ = false := by simp [setB, h1, hxL, h2]
        simp []
        refine call_p (w_spec_l6Copy ⟨l⟩ hz) (by simp [eDb]) fun hs2 hh2 hl2 => ?_
        simp [eDb, hB, setP]
      · have hB : setB ⟨l⟩ nm ⟨ar, rows⟩ = true := by simp [setB, h1, hxL, h2]
        simp []
        refine call_p (w_spec_l6Copy ⟨x⟩ (szDb_ok h2)) (by simp [eDb, hd, List.take_of_length_le]) fun hs2 hh2 hl2 => ?_
        simp [eDb, hB, setP, hxL]
end

end Go.Proofs.YtggbpdjjlgejmaaGreat


namespace Go.Proofs.YtggbpdjjlgejmaaGreat
open Go.Vs Go.Proofs Go
set_option maxRecDepth 100000
set_option maxHeartbeats 1000000

section
attribute [local simp] plI_id plStr_id map_plI map_plStr
theorem t_impl_copyDatabase (d : Db) (hd : okDb d) (hz : szDb (plDb d)) : VC Tryz.prog 116 [.agg ((cDb d).map V.d)] (fun n v => ∃ y : Db, v = .agg ((cDb y).map V.d) ∧ plDb y = plDb d ∧ okDb y ∧ Good (cDb y) (whDb y) n) :=
  (e_impl_copyDatabase (plDb d) hz (okDb_st hd)).er (by simp [cDb, cS, dSl, eDb, pS, cP, plDb, plS, erLL_map er_cTab])
theorem t_impl_SetRelation (d : Db) (nm : List UInt8) (r : Reln) (hd : okDb d) (hz : szDb (plDb d)) (hnm : nm.length ≤ maxLen) (hr : szRel (plReln r)) :
   VC Tryz.prog 120 [.agg ((cDb d).map V.d), .d (.str nm), .agg ((cReln r).map V.d)]
   (fun n v => ∃ y : Db, v = .tup [.agg ((cDb y).map V.d), .d (.bool (setB (plDb d) nm (plReln r)))] ∧ plDb y = setP (plDb d) nm (plReln r) ∧ okDb y ∧ Good (cDb y) (whDb y) n) := by
  refine VC.ofB E s120 (by kernel_rfl) Tryz.func120 (by rfl) (by kernel_rfl) (by simp [Tryz.f120]) (by simp [Tryz.f120]) s120_ok fun B hB => ?_
  have hdB : ∀ g ∈ idsL (cDb d), g < B := fun g hg => hB g (by simp only [idsVL, V.ids, idsVL_map_d, List.mem_append]; simp [hg])
  have hcopy := t_impl_copyDatabase d hd hz
  have hdp : ∃ l, plDb d = ⟨l⟩ := ⟨_, rfl⟩
  obtain ⟨l, hdp⟩ := hdp
  rw [hdp] at hz
  rw [hdp]
  have hdl : erLL (d.tabs.xs.map cTab) = l.map eTab := by
    rw [erLL_map er_cTab]
    have := congrArg PDb.tabs hdp
    simp only [plDb, plS] at this
    rw [this]
  obtain ⟨⟨did, dT, dts⟩⟩ := d
  simp only at hdl
  rw [hdp] at hcopy
  have hdB2 : ∀ φ : Nat → Option D, (∀ i, i < B → φ i = none) → reV φ (.d (.sl did dT (dts.map cTab))) = .d (.sl did dT (dts.map cTab)) := fun φ h => reV_id (.d (dSl cTab ⟨did, dT, dts⟩)) fun i hi => h i (hdB i (by rw [cDb, idsL_cS]; exact hi))
  have hrB : ∀ g ∈ idsL (cReln r), g < B := fun g hg => hB g (by simp only [idsVL, V.ids, idsVL_map_d, List.mem_append]; simp [hg])
  have hcR := (e_impl_copyRelation (plReln r) hr.1 hr.2).er (As := [.agg ((cReln r).map V.d)]) (by simp [cReln, cS, cI, dSl, eReln, pS, cP, plReln, plS, plI, erLL_map (er_cS er_cI)])
  have hrp : ∃ rows, plReln r = ⟨r.ar, rows⟩ := ⟨_, rfl⟩
  obtain ⟨rows, hrp⟩ := hrp
  rw [hrp] at hr hcR
  rw [hrp]
  obtain ⟨ar, ⟨rid, rT, rxs⟩⟩ := r
  simp only at hrp hr hcR ⊢
  have hrB2 : ∀ φ : Nat → Option D, (∀ i, i < B → φ i = none) → reV φ (.d (.sl rid rT (rxs.map (cS cI)))) = .d (.sl rid rT (rxs.map (cS cI))) := fun φ h => reV_id (.d (dSl (cS cI) ⟨rid, rT, rxs⟩)) fun i hi => h i (hrB i (by rw [cReln, idsL_app, idsL_cS]; exact List.mem_append.2 (.inr hi)))
  simp [Tryz.f120, s120_10, s120_10, cDb, cReln, cS, dSl, pS, cI]
  refine call_f (w_impl_IsValidDatabase ⟨l⟩) (by simp [eDb, cP, pS, hdl]) rfl fun hs1 hh1 => ?_
  simp at hh1
  cases h1 : dbOk ⟨l⟩
  · have hB0 : setB ⟨l⟩ nm ⟨ar, rows⟩ = false := by simp [setB, h1]
    simp [s120_10, ]
    refine call_some hcopy (by simp [cDb, cS, dSl]) (by simp) fun n2 hs2 r2 hn2 hm2 hp2 hr2 => ?_
    obtain ⟨⟨⟨yid, yT, ys⟩⟩, rfl, p2, k2, G2⟩ := hp2
    simp at hn2
    simp [cDb, cS, dSl, hB0, s120_10, ]
    exact ⟨⟨⟨yid, yT, ys⟩⟩, by simp [cDb, cS, dSl], by simp [setP, hB0, p2], k2, G2.le (by omega)⟩
  have hl6 : l.length ≤ 6 := dbOk_len h1
  simp [s120_10, ]
  refine call_some hcopy (by simp [cDb, cS, dSl]) (by simp) fun n2 hs2 r2 hn2 hm2 hp2 hr2 => ?_
  obtain ⟨⟨⟨yid, yT, ys⟩⟩, rfl, p2, k2, G2⟩ := hp2
  simp at hn2
  have hys : ys.map plTab = l := by
    have := congrArg PDb.tabs p2
    simpa [plDb, plS] using this
  have hyl : ys.length = l.length := by rw [← hys]; simp
  have hr2' : ∀ g ∈ idsL (cDb ⟨⟨yid, yT, ys⟩⟩), g < hs2 := fun g hg => hr2 g (by rw [ids_agg]; exact hg)
  have hkl := setK_le l nm
  simp [cDb, cS, dSl, s120_10, ]
  refine loop_rule (X := Nat) (fun i => KTo l nm i) (fun i => [(1, .d (.str nm)), (3, .ptr 3 0 0), (5, .ptr 5 0 0), (6, .ptr 6 0 0), (8, .ptr 8 0 0), (9, .d (.int .i64 i))])
    (fun i => [(3, some (.box [.d (.sl did dT (dts.map cTab))])), (5, some (.box [.d (.int .i64 ar), .d (.sl rid rT (rxs.map (cS cI)))])), (6, some (.box [.d (.sl none none [])])), (8, some (.box [.d (.sl yid yT (ys.map cTab))]))]) (fun i => l.length - i) 0 .zero (by simp) (by simp) ?_
  intro i hs t m hi hh
  have hik := hi.le
  by_cases hlt : i < setK l nm
  · have hil : i < l.length := by omega
    have hiy : i < ys.length := by omega
    have hwi := wr1 (i := i) (by omega)
    have hb := setK_lt hil hlt
    obtain ⟨⟨tn, ⟨ta, ⟨tid, tT, tr⟩⟩⟩, hT⟩ : ∃ y, y = ys[i] := ⟨_, rfl⟩
    have hTn : l[i].name = tn := by
      have : l[i] = plTab ys[i] := by simp [← hys]
      rw [this, ← hT]; rfl
    rw [hTn] at hb
    simp [hiy, hil, ← hT, hb, hwi, cTab, cReln, cStr, cI, cS, dSl, s120_10, ]
    exact back (i + 1) ⟨by omega⟩ (by omega) rfl (by simp <;> omega) (by simp) (by simp)
  have hik2 : i = setK l nm := by omega
  subst hik2
  by_cases hkt : setK l nm < l.length
  · have hb := setK_at hkt
    have hky : setK l nm < ys.length := by omega
    have hwY : Sl.wh (⟨yid, yT, ys⟩ : Sl Tab) := G2.wh.1
    obtain ⟨gg, hgg, T, hTT⟩ := hwY.id hky
    simp only at hgg hTT
    subst hgg hTT
    have hgn : n2 ≤ gg := G2.lo gg (by rw [cDb, idsL_cS]; exact mem_sl_ids.2 (.inl rfl))
    have hgh : gg < hs2 := hr2' gg (by rw [cDb, idsL_cS]; exact mem_sl_ids.2 (.inl rfl))
    have hsn := sl_nd (s := (⟨some gg, some T, ys⟩ : Sl Tab)) (c := cTab) (by have := G2.nd; rwa [cDb, idsL_cS] at this)
    have hgB : B ≤ gg := by omega
    have hgy : gg ∉ idsLL (ys.map cTab) := hsn.2 gg rfl
    obtain ⟨⟨tn, ⟨ta, ⟨tid, tT, tr⟩⟩⟩, hT⟩ : ∃ y, y = ys[setK l nm] := ⟨_, rfl⟩
    have hTn : l[setK l nm].name = tn := by
      have : l[setK l nm] = plTab ys[setK l nm] := by simp [← hys]
      rw [this, ← hT]; rfl
    rw [hTn] at hb
    simp [hky, hkt, ← hT, hb, cTab, cReln, cStr, cI, cS, dSl, s120_10, ]
    refine call_some hcR (by simp [cReln, cS, cI, dSl]) (by simp) fun n3 hs3 r3 hn3 hm3 hp3 hr3 => ?_
    obtain ⟨⟨za, ⟨zid, zT, zs⟩⟩, rfl, p3, k3, G3⟩ := hp3
    simp at hn3
    have hr3' : ∀ g ∈ idsL (cReln ⟨za, ⟨zid, zT, zs⟩⟩), g < hs3 := fun g hg => hr3 g (by rw [ids_agg]; exact hg)
    have hgz : gg ∉ idsL (cReln ⟨za, ⟨zid, zT, zs⟩⟩) := fun h => by have := G3.lo gg h; omega
    have hgz2 : ¬ zid = some gg ∧ gg ∉ idsLL (zs.map (cS cI)) := by
      rw [cReln, idsL_app, idsL_cS] at hgz
      exact ⟨fun h => hgz (List.mem_append.2 (.inr (mem_sl_ids.2 (.inl h)))), fun h => hgz (List.mem_append.2 (.inr (mem_sl_ids.2 (.inr h))))⟩
    obtain ⟨w, hw⟩ : ∃ w : Tab, w = ⟨nm, ⟨za, ⟨zid, zT, zs⟩⟩⟩ := ⟨_, rfl⟩
    have hwc : cTab w = [D.str nm, D.int .i64 za, D.sl zid zT (zs.map (cS cI))] := by rw [hw]; simp [cTab, cReln, cStr, cI, cS, dSl]
    have hwp : plTab w = ⟨nm, ⟨ar, rows⟩⟩ := by rw [hw, plTab, p3]; rfl
    have hwG : Good (cTab w) (whTab w) n3 := by rw [hw]; exact good_Tab G3
    have hwk : okTab w := by rw [hw]; exact ⟨hnm, k3⟩
    have hyi : ∀ g ∈ idsLL (ys.map cTab), n2 ≤ g ∧ g < hs2 := fun g hg => by
      have hm : g ∈ idsL (cDb ⟨⟨some gg, some T, ys⟩⟩) := by rw [cDb, idsL_cS]; exact mem_sl_ids.2 (.inr hg)
      exact ⟨G2.lo g hm, hr2' g hm⟩
    have hL1 : LenOk 48 (setK l nm) := ⟨by omega, by simp only [maxLen]; omega⟩
    have hL2 : LenOk 48 (setK l nm + 1) := ⟨by omega, by simp only [maxLen]; omega⟩
    have hL3 : LenOk 48 (setK l nm + 1 + (ys.length - setK l nm)) := ⟨by omega, by simp only [maxLen]; omega⟩
    have hmn : min (setK l nm) ys.length = setK l nm := by omega
    by_cases he : tn = nm
    · have hh1 : hitK l nm = true := by simp [hitK, hkt, hTn, he]
      have hSL : setL l nm ⟨ar, rows⟩ = l.take (setK l nm) ++ ⟨nm, ⟨ar, rows⟩⟩ :: l.drop (setK l nm + 1) := by simp [setL, hh1]
      obtain ⟨vs, hvs⟩ : ∃ vs, vs = ys.take (setK l nm) ++ w :: ys.drop (setK l nm + 1) := ⟨_, rfl⟩
      obtain ⟨P1, P2⟩ := good_put (c := cTab) (wh := whTab) (j := setK l nm + 1) (k := setK l nm) (by omega) hsn.1 (fun g hg => ⟨(hyi g hg).1, by have := (hyi g hg).2; show g < n3; omega⟩) G2.wh.2 hwG (by omega)
      rw [← hvs] at P1 P2
      have hvp : vs.map plTab = setL l nm ⟨ar, rows⟩ := by rw [hvs, map_put, hys, hwp, hSL]
      have hset : (ys.map cTab).set (setK l nm) (cTab w) = vs.map cTab := by
        rw [List.set_eq_take_append_cons_drop, if_pos (by simpa using hky), hvs, map_put]
      have hgv : gg ∉ idsLL (vs.map cTab) := fun h => by
        rw [hvs, List.map_append, List.map_cons, idsLL_append, idsLL] at h
        rcases List.mem_append.1 h with h | h
        · exact hgy ((ids_sub (List.take_sublist _ _)).subset h)
        · rcases List.mem_append.1 h with h | h
          · have := hwG.lo gg h; omega
          · exact hgy ((ids_sub (List.drop_sublist _ _)).subset h)
      have hvk : ∀ t ∈ vs, okTab t := fun t ht => by
        rw [hvs] at ht
        rcases List.mem_append.1 ht with h | h
        · exact k2.2 t (List.mem_of_mem_take h)
        · rcases List.mem_cons.1 h with rfl | h
          · exact hwk
          · exact k2.2 t (List.mem_of_mem_drop h)
      have hvl : vs.length = ys.length := by rw [hvs]; simp; omega
      simp [hky, hkt, ← hT, he, cTab, cReln, cStr, cI, cS, dSl, s120_10, ]
      refine ⟨⟨hgB, hgz2, hgy⟩, ?_⟩
      rw [← hwc, hset]
      have e1 : ∀ d', reV (one gg d') (.d (.sl did dT (dts.map cTab))) = .d (.sl did dT (dts.map cTab)) := fun d' => hdB2 _ fun i hi => one_out (by omega)
      have e2 : ∀ d', reV (one gg d') (.d (.sl zid zT (zs.map (cS cI)))) = .d (.sl zid zT (zs.map (cS cI))) := fun d' => reV_id (.d (dSl (cS cI) ⟨zid, zT, zs⟩)) fun i hi => one_out (fun e => by
        subst e
        rcases mem_sl_ids.1 hi with h | h
        · exact hgz2.1 h
        · exact hgz2.2 h)
      have e3 : ∀ d', reV (one gg d') (.d (.sl rid rT (rxs.map (cS cI)))) = .d (.sl rid rT (rxs.map (cS cI))) := fun d' => hrB2 _ fun i hi => one_out (by omega)
      simp only [e1, e2, e3]
      refine call_f (w_impl_IsValidDatabase ⟨vs.map plTab⟩) (by simp [eDb, cP, pS, erLL_map er_cTab]) rfl fun hs4 hh4 => ?_
      simp at hh4
      rw [hvp]
      cases h4 : dbOk ⟨setL l nm ⟨ar, rows⟩⟩
      · have hB0 : setB ⟨l⟩ nm ⟨ar, rows⟩ = false := by simp [setB, h4]
        simp [s120_10, ]
        refine call_some hcopy (by simp [cDb, cS, dSl]) (by simp) fun n5 hs5 r5 hn5 hm5 hp5 hr5 => ?_
        obtain ⟨⟨⟨uid, uT, us⟩⟩, rfl, p5, k5, G5⟩ := hp5
        simp at hn5
        simp [cDb, cS, dSl, hB0, s120_10, ]
        exact ⟨⟨⟨uid, uT, us⟩⟩, by simp [cDb, cS, dSl], by simp [setP, hB0, p5], k5, G5.le (by omega)⟩
      · have hB1 : setB ⟨l⟩ nm ⟨ar, rows⟩ = true := by simp [setB, h1, h4]
        simp [hB1, s120_10, ]
        refine ⟨⟨⟨some gg, some T, vs⟩⟩, by simp [cDb, cS, dSl], by simp only [setP, hB1, if_true, plDb, plS, hvp], ⟨by simp only [maxLen]; show vs.length ≤ _; omega, hvk⟩, good_row (fun g hg => by obtain rfl := Option.some.inj hg; exact hgB) (by simp) (fun g hg => by obtain rfl := Option.some.inj hg; exact hgv) ⟨P1.1, fun g hg => by have := P1.2 g hg; omega⟩ P2⟩
    · have hh1 : hitK l nm = false := by simp [hitK, hkt, hTn, he]
      have hSL : setL l nm ⟨ar, rows⟩ = l.take (setK l nm) ++ ⟨nm, ⟨ar, rows⟩⟩ :: l.drop (setK l nm) := by simp [setL, hh1]
      obtain ⟨vs, hvs⟩ : ∃ vs, vs = ys.take (setK l nm) ++ w :: ys.drop (setK l nm) := ⟨_, rfl⟩
      simp [hky, hkt, ← hT, he, hmn, hL1, hL2, hL3, cTab, cReln, cStr, cI, cS, dSl, ← List.map_take, ← List.map_drop, List.take_of_length_le, s120_10, ]
      obtain ⟨P1, P2⟩ := good_put (c := cTab) (wh := whTab) (j := setK l nm) (k := setK l nm) (Nat.le_refl _) hsn.1 (fun g hg => ⟨(hyi g hg).1, by have := (hyi g hg).2; show g < n3; omega⟩) G2.wh.2 hwG (by omega)
      rw [← hvs] at P1 P2
      have hvp : vs.map plTab = setL l nm ⟨ar, rows⟩ := by rw [hvs, map_put, hys, hwp, hSL]
      have hvk : ∀ t ∈ vs, okTab t := fun t ht => by
        rw [hvs] at ht
        rcases List.mem_append.1 ht with h | h
        · exact k2.2 t (List.mem_of_mem_take h)
        · rcases List.mem_cons.1 h with rfl | h
          · exact hwk
          · exact k2.2 t (List.mem_of_mem_drop h)
      have hvl : vs.length = ys.length + 1 := by rw [hvs]; simp; omega
      have hpV : hpLL (vs.map cTab) = false := hpLL_map (fun a => by simp) vs
      refine ⟨by omega, ?_⟩
      have hrow : List.map cTab (List.take (setK l nm) ys) ++ [D.str nm, D.int .i64 za, D.sl zid zT (zs.map (cS cI))] :: List.map cTab (List.drop (setK l nm) ys) = vs.map cTab := by rw [hvs, ← hwc]; simp
      have hnum : setK l nm + 1 + (ys.length - setK l nm) = ys.length + 1 := by omega
      repeat' apply And.intro
      all_goals
        simp only [hrow, hnum]
        refine call_own (by simp) (fun γ n hn hg => ⟨[.agg [.d (.sl (γ 59) (some (127, 3)) (vs.map cTab))]], by simp [hvl, hpV, List.take_of_length_le], (w_impl_IsValidDatabase ⟨vs.map plTab⟩).er (by simp [eDb, cP, pS, erLL_map er_cTab])⟩) (by rintro n _ rfl; simp [V.ids, D.ids, V.hp, D.hp]) fun n4 hs4 r4 hh4 hm4 hp4 hr4 => ?_
        subst hp4
        clear hr4
        simp at hh4
        rw [hvp]
        cases h4 : dbOk ⟨setL l nm ⟨ar, rows⟩⟩
        · have hB0 : setB ⟨l⟩ nm ⟨ar, rows⟩ = false := by simp [setB, h4]
          simp [s120_10, ]
          refine call_some hcopy (by simp [cDb, cS, dSl]) (by simp) fun n5 hs5 r5 hn5 hm5 hp5 hr5 => ?_
          obtain ⟨⟨⟨uid, uT, us⟩⟩, rfl, p5, k5, G5⟩ := hp5
          simp at hn5
          simp [cDb, cS, dSl, hB0, s120_10, ]
          exact ⟨⟨⟨uid, uT, us⟩⟩, by simp [cDb, cS, dSl], by simp [setP, hB0, p5], k5, G5.le (by omega)⟩
        · have hB1 : setB ⟨l⟩ nm ⟨ar, rows⟩ = true := by simp [setB, h1, h4]
          simp [hB1, s120_10, ]
          intro γ hs' h1' hg
          obtain ⟨q1, q2⟩ := gam_at hg (k := 59) (T := 127) (sz := 3) (es := vs.map cTab) (by simp)
          have q3 := gam_row hg (k := 59) (T := 127) (sz := 3) (es := vs.map cTab) (by simp)
          clear hg
          have hp : hpLL (vs.map cTab) = false := hpLL_map (fun a => by simp) vs
          simp [hp, hvl, List.take_of_length_le]
          exact ⟨⟨⟨γ 59, some (127, 3), vs⟩⟩, by simp [cDb, cS, dSl], by simp only [setP, hB1, if_true, plDb, plS, hvp], ⟨by simp only [maxLen]; show vs.length ≤ _; omega, hvk⟩, good_row (fun g hg => (q1 g hg).1) (by simpa using q2) q3 ⟨P1.1, fun g hg => by have := P1.2 g hg; omega⟩ P2⟩
  · have hkn : setK l nm = l.length := by omega
    have hL1 : LenOk 48 l.length := ⟨by omega, by simp only [maxLen]; omega⟩
    have hL2 : LenOk 48 (l.length + 1) := ⟨by omega, by simp only [maxLen]; omega⟩
    simp [hkn, hyl, cReln, cI, cS, dSl, s120_10, ]
    refine call_some hcR (by simp [cReln, cS, cI, dSl]) (by simp) fun n3 hs3 r3 hn3 hm3 hp3 hr3 => ?_
    obtain ⟨⟨za, ⟨zid, zT, zs⟩⟩, rfl, p3, k3, G3⟩ := hp3
    simp at hn3
    have hr3' : ∀ g ∈ idsL (cReln ⟨za, ⟨zid, zT, zs⟩⟩), g < hs3 := fun g hg => hr3 g (by rw [ids_agg]; exact hg)
    obtain ⟨w, hw⟩ : ∃ w : Tab, w = ⟨nm, ⟨za, ⟨zid, zT, zs⟩⟩⟩ := ⟨_, rfl⟩
    have hwc : cTab w = [D.str nm, D.int .i64 za, D.sl zid zT (zs.map (cS cI))] := by rw [hw]; simp [cTab, cReln, cStr, cI, cS, dSl]
    have hwp : plTab w = ⟨nm, ⟨ar, rows⟩⟩ := by rw [hw, plTab, p3]; rfl
    have hwG : Good (cTab w) (whTab w) n3 := by rw [hw]; exact good_Tab G3
    have hwk : okTab w := by rw [hw]; exact ⟨hnm, k3⟩
    have hyi : ∀ g ∈ idsLL (ys.map cTab), n2 ≤ g ∧ g < hs2 := fun g hg => by
      have hm : g ∈ idsL (cDb ⟨⟨yid, yT, ys⟩⟩) := by rw [cDb, idsL_cS]; exact mem_sl_ids.2 (.inr hg)
      exact ⟨G2.lo g hm, hr2' g hm⟩
    have hh1 : hitK l nm = false := by simp [hitK, hkt]
    have hSL : setL l nm ⟨ar, rows⟩ = l.take l.length ++ ⟨nm, ⟨ar, rows⟩⟩ :: l.drop l.length := by simp [setL, hh1, hkn]
    obtain ⟨vs, hvs⟩ : ∃ vs, vs = ys.take l.length ++ w :: ys.drop l.length := ⟨_, rfl⟩
    obtain ⟨P1, P2⟩ := good_put (c := cTab) (wh := whTab) (j := l.length) (k := l.length) (Nat.le_refl _) (sl_nd (s := (⟨yid, yT, ys⟩ : Sl Tab)) (c := cTab) (by have := G2.nd; rwa [cDb, idsL_cS] at this)).1 (fun g hg => ⟨(hyi g hg).1, by have := (hyi g hg).2; show g < n3; omega⟩) G2.wh.2 hwG (by omega)
    rw [← hvs] at P1 P2
    have hvp : vs.map plTab = setL l nm ⟨ar, rows⟩ := by rw [hvs, map_put, hys, hwp, hSL]
    have hvk : ∀ t ∈ vs, okTab t := fun t ht => by
      rw [hvs] at ht
      rcases List.mem_append.1 ht with h | h
      · exact k2.2 t (List.mem_of_mem_take h)
      · rcases List.mem_cons.1 h with rfl | h
        · exact hwk
        · exact k2.2 t (List.mem_of_mem_drop h)
    have hvl : vs.length = ys.length + 1 := by rw [hvs]; simp; omega
    have hpV : hpLL (vs.map cTab) = false := hpLL_map (fun a => by simp) vs
    have hrow : List.map cTab (List.take l.length ys) ++ [[D.str nm, D.int .i64 za, D.sl zid zT (zs.map (cS cI))]] = vs.map cTab := by rw [hvs, ← hwc]; simp [← hyl]
    have hnum : l.length + 1 = ys.length + 1 := by omega
    simp [hkn, hyl, hL1, hL2, cTab, cReln, cStr, cI, cS, dSl, ← List.map_take, s120_10, ]
    repeat' apply And.intro
    all_goals
      simp only [hrow, hnum]
      refine call_own (by simp) (fun γ n hn hg => ⟨[.agg [.d (.sl (γ 59) (some (127, 3)) (vs.map cTab))]], by simp [hvl, hpV, List.take_of_length_le], (w_impl_IsValidDatabase ⟨vs.map plTab⟩).er (by simp [eDb, cP, pS, erLL_map er_cTab])⟩) (by rintro n _ rfl; simp [V.ids, D.ids, V.hp, D.hp]) fun n4 hs4 r4 hh4 hm4 hp4 hr4 => ?_
      subst hp4
      clear hr4
      simp at hh4
      rw [hvp]
      cases h4 : dbOk ⟨setL l nm ⟨ar, rows⟩⟩
      · have hB0 : setB ⟨l⟩ nm ⟨ar, rows⟩ = false := by simp [setB, h4]
        simp [s120_10, ]
        refine call_some hcopy (by simp [cDb, cS, dSl]) (by simp) fun n5 hs5 r5 hn5 hm5 hp5 hr5 => ?_
        obtain ⟨⟨⟨uid, uT, us⟩⟩, rfl, p5, k5, G5⟩ := hp5
        simp at hn5
        simp [cDb, cS, dSl, hB0, s120_10, ]
        exact ⟨⟨⟨uid, uT, us⟩⟩, by simp [cDb, cS, dSl], by simp [setP, hB0, p5], k5, G5.le (by omega)⟩
      · have hB1 : setB ⟨l⟩ nm ⟨ar, rows⟩ = true := by simp [setB, h1, h4]
        simp [hB1, s120_10, ]
        intro γ hs' h1' hg
        obtain ⟨q1, q2⟩ := gam_at hg (k := 59) (T := 127) (sz := 3) (es := vs.map cTab) (by simp)
        have q3 := gam_row hg (k := 59) (T := 127) (sz := 3) (es := vs.map cTab) (by simp)
        clear hg
        have hp : hpLL (vs.map cTab) = false := hpLL_map (fun a => by simp) vs
        simp [hp, hvl, List.take_of_length_le]
        exact ⟨⟨⟨γ 59, some (127, 3), vs⟩⟩, by simp [cDb, cS, dSl], by simp only [setP, hB1, if_true, plDb, plS, hvp], ⟨by simp only [maxLen]; show vs.length ≤ _; omega, hvk⟩, good_row (fun g hg => (q1 g hg).1) (by simpa using q2) q3 ⟨P1.1, fun g hg => by have := P1.2 g hg; omega⟩ P2⟩
end

end Go.Proofs.YtggbpdjjlgejmaaGreat


namespace Go.Proofs.YtggbpdjjlgejmaaGreat
open Go.Vs Go.Proofs Go
set_option maxRecDepth 100000
set_option maxHeartbeats 1000000

section
attribute [local simp] plI_id plStr_id map_plI map_plStr pS cP cI cStr cU8 cB eTab eReln eDelta
theorem w_spec_ApplyDelta (d : PDb) (x : PDelta) (hz : szDb d) (hst : ∀ t ∈ d.tabs, t.name.length ≤ maxLen) (hnm : x.name.length ≤ maxLen) :
   VC Tryz.prog 59 [.agg ((eDb d).map V.d), .agg ((eDelta x).map V.d)] (fun _ v => v = .tup [.agg ((eDb (appP d x)).map V.d), .d (.bool (appB d x))]) := by
  refine VC.ofL EP s59 (by kernel_rfl) Tryz.func59 (by rfl) (by kernel_rfl) (by simp [Tryz.f59]) (by simp [Tryz.f59]) s59_ok fun B hl => ?_
  obtain ⟨nm, ⟨ia, il⟩, ⟨da, dl⟩⟩ := x
  obtain ⟨X, hX⟩ : ∃ X : PDelta, X = ⟨nm, ⟨ia, il⟩, ⟨da, dl⟩⟩ := ⟨_, rfl⟩
  rw [← hX]
  have hXn : X.name = nm := by rw [hX]
  obtain ⟨l⟩ := d
  simp [Tryz.f59, eDb]
  refine call_p (w_spec_NormalizeDelta ⟨l⟩ X hst) (by simp [eDb, hX]) fun hs1 hh1 hl1 => ?_
  simp at hh1
  obtain ⟨⟨yn, ⟨ya, yi⟩, ⟨yb, yd⟩⟩, hY⟩ : ∃ Y, Y = norP ⟨l⟩ X := ⟨_, rfl⟩
  rw [← hY]
  cases h1 : fitB ⟨l⟩ X
  · have hG : appG ⟨l⟩ X = false := by simp [appG, h1]
    simp []
    refine call_p (w_spec_l6Copy ⟨l⟩ hz) (by simp [eDb]) fun hs2 hh2 hl2 => ?_
    simp [eDb, appP, appB, hG]
  simp []
  refine call_p (w_spec_LookupRelation ⟨l⟩ nm hst) (by simp [eDb, hX]) fun hs2 hh2 hl2 => ?_
  simp at hh2
  obtain ⟨⟨ra, rl⟩, hR⟩ : ∃ R, R = lkR ⟨l⟩ nm := ⟨_, rfl⟩
  rw [← hR]
  simp []
  refine call_p (w_spec_Difference ⟨ra, rl⟩ ⟨yb, yd⟩) (by simp) fun hs3 hh3 hl3 => ?_
  simp at hh3
  have hD : difR ⟨ra, rl⟩ ⟨yb, yd⟩ = difD ⟨l⟩ X := by rw [difD, ← hY, hXn, ← hR]
  rw [hD]
  obtain ⟨⟨ea, el⟩, hE⟩ : ∃ E, E = difD ⟨l⟩ X := ⟨_, rfl⟩
  rw [← hE]
  simp []
  refine call_p (w_spec_Union ⟨ea, el⟩ ⟨ya, yi⟩) (by simp) fun hs4 hh4 hl4 => ?_
  simp at hh4
  have hU : uniR ⟨ea, el⟩ ⟨ya, yi⟩ = appU ⟨l⟩ X := by rw [appU, ← hY, hE]
  rw [hU]
  obtain ⟨⟨ua, ul⟩, hV⟩ : ∃ E, E = appU ⟨l⟩ X := ⟨_, rfl⟩
  rw [← hV]
  have hG : appG ⟨l⟩ X = uniB ⟨ea, el⟩ ⟨ya, yi⟩ := by rw [appG, h1, ← hY, hE, Bool.true_and]
  cases h2 : uniB ⟨ea, el⟩ ⟨ya, yi⟩
  · rw [h2] at hG
    simp []
    refine call_p (w_spec_l6Copy ⟨l⟩ hz) (by simp [eDb]) fun hs5 hh5 hl5 => ?_
    simp [eDb, appP, appB, hG]
  · rw [h2] at hG
    simp []
    refine call_p (w_spec_SetRelation ⟨l⟩ nm ⟨ua, ul⟩ hz hst hnm) (by simp [eDb, hX]) fun hs5 hh5 hl5 => ?_
    simp [eDb, appP, appB, hG, ← hV, hXn]
end
section
attribute [local simp] plI_id plStr_id map_plI map_plStr
theorem t_impl_ApplyDelta (d : Db) (x : Delta) (hd : okDb d) (hx : okDelta x) (hz : szDb (plDb d)) :
   VC Tryz.prog 63 [.agg ((cDb d).map V.d), .agg ((cDelta x).map V.d)]
   (fun n v => ∃ y : Db, v = .tup [.agg ((cDb y).map V.d), .d (.bool (appB (plDb d) (plDelta x)))] ∧ plDb y = appP (plDb d) (plDelta x) ∧ okDb y ∧ Good (cDb y) (whDb y) n) := by
  refine VC.of E s63 (by kernel_rfl) Tryz.func63 (by rfl) (by kernel_rfl) (by simp [Tryz.f63]) (by simp [Tryz.f63]) s63_ok fun B => ?_
  have hcopy := t_impl_copyDatabase d hd hz
  have hnorm := t_impl_NormalizeDelta d x hd hx
  obtain ⟨dp, hdp⟩ : ∃ dp, dp = plDb d := ⟨_, rfl⟩
  have hdl : erLL (d.tabs.xs.map cTab) = dp.tabs.map eTab := by rw [erLL_map er_cTab, hdp]; rfl
  have hset := fun r hr => t_impl_SetRelation d x.name r hd hz hx.1 hr
  obtain ⟨X, hX⟩ : ∃ X, X = plDelta x := ⟨_, rfl⟩
  have hXn : X.name = x.name := by rw [hX]; simp [plDelta]
  rw [← hdp, ← hX] at hnorm ⊢
  rw [← hdp] at hcopy hset
  obtain ⟨⟨did, dT, dts⟩⟩ := d
  obtain ⟨nm, ⟨ia, ⟨iid, iT, il⟩⟩, ⟨da, ⟨did2, dT2, dl⟩⟩⟩ := x
  simp only at hdl hset hXn
  simp [Tryz.f63, cDb, cDelta, cReln, cStr, cS, cI, dSl]
  refine call_some hnorm (by simp [cDb, cDelta, cReln, cStr, cS, cI, dSl]) (by simp) fun n1 hs1 r1 hn1 hm1 hp1 hr1 => ?_
  obtain ⟨⟨yn, yi, ⟨yb, ⟨ydid, ydT, yd⟩⟩⟩, rfl, p1, k1, G1⟩ := hp1
  simp at hn1
  obtain ⟨ya, ⟨yiid, yiT, yil⟩⟩ := yi
  cases h1 : fitB dp X
  · have hG : appG dp X = false := by simp [appG, h1]
    simp [cDb, cDelta, cReln, cStr, cS, cI, dSl, ]
    refine call_some hcopy (by simp [cDb, cS, dSl]) (by simp) fun n2 hs2 r2 hn2 hm2 hp2 hr2 => ?_
    obtain ⟨⟨⟨vid, vT, vs⟩⟩, rfl, p2, k2, G2⟩ := hp2
    simp at hn2
    simp [cDb, cS, dSl, appB, appP, hG, ]
    exact ⟨⟨⟨vid, vT, vs⟩⟩, by simp [cDb, cS, dSl], p2, k2, G2.le (by omega)⟩
  simp [cDb, cDelta, cReln, cStr, cS, cI, dSl, ]
  refine call_p (w_impl_LookupRelation dp nm) (by simp [eDb, cP, pS, hdl]) fun hs2 hh2 hl2 => ?_
  simp at hh2
  obtain ⟨⟨ra, rl⟩, hR⟩ : ∃ R, R = lkR dp nm := ⟨_, rfl⟩
  rw [← hR]
  simp [eReln, cI, cP, pS, ]
  refine call_p (q_impl_Difference ⟨ra, rl⟩ ⟨yb, yd.map (plS plI)⟩) (by simp [eReln, cI, cP, pS, erLL_map (er_cS er_cI)]) fun hs3 hh3 hl3 => ?_
  simp at hh3
  have hD : difR ⟨ra, rl⟩ ⟨yb, yd.map (plS plI)⟩ = difD dp X := by rw [difD, ← p1, hXn, ← hR]; rfl
  rw [hD]
  obtain ⟨⟨ea, el⟩, hE⟩ : ∃ E, E = difD dp X := ⟨_, rfl⟩
  rw [← hE]
  simp [eReln, cI, cP, pS, ]
  refine call_some (e_impl_Union ⟨ea, el⟩ ⟨ya, ⟨yiid, yiT, yil⟩⟩ k1.2.1) (by simp [eReln, cReln, cS, cI, cP, pS, dSl]) (by simp) fun n4 hs4 r4 hn4 hm4 hp4 hr4 => ?_
  obtain ⟨⟨ua, ⟨uid, uT, ul⟩⟩, rfl, p4, k4, G4⟩ := hp4
  simp at hn4
  have hU : uniR ⟨ea, el⟩ (plReln ⟨ya, ⟨yiid, yiT, yil⟩⟩) = appU dp X := by rw [appU, ← p1, hE]; rfl
  have hG : appG dp X = uniB ⟨ea, el⟩ (plReln ⟨ya, ⟨yiid, yiT, yil⟩⟩) := by rw [appG, h1, ← p1, hE, Bool.true_and]; rfl
  cases h2 : uniB ⟨ea, el⟩ (plReln ⟨ya, ⟨yiid, yiT, yil⟩⟩)
  · rw [h2] at hG
    simp [cReln, cI, cS, dSl, ]
    refine call_some hcopy (by simp [cDb, cS, dSl]) (by simp) fun n5 hs5 r5 hn5 hm5 hp5 hr5 => ?_
    obtain ⟨⟨⟨vid, vT, vs⟩⟩, rfl, p5, k5, G5⟩ := hp5
    simp at hn5
    simp [cDb, cS, dSl, appB, appP, hG, ]
    exact ⟨⟨⟨vid, vT, vs⟩⟩, by simp [cDb, cS, dSl], p5, k5, G5.le (by omega)⟩
  · rw [h2] at hG
    have hsz := uniR_ok h2
    rw [← p4] at hsz
    simp [cReln, cI, cS, dSl, ]
    refine call_some (hset ⟨ua, ⟨uid, uT, ul⟩⟩ hsz) (by simp [cDb, cReln, cI, cS, dSl]) (by simp) fun n5 hs5 r5 hn5 hm5 hp5 hr5 => ?_
    obtain ⟨⟨⟨vid, vT, vs⟩⟩, rfl, p5, k5, G5⟩ := hp5
    simp at hn5
    have hUp : plReln ⟨ua, ⟨uid, uT, ul⟩⟩ = appU dp X := by rw [p4, hU]
    rw [hUp] at p5 ⊢
    simp [cDb, cS, dSl, appB, appP, hG, hXn, ]
    exact ⟨⟨⟨vid, vT, vs⟩⟩, by simp [cDb, cS, dSl], p5, k5, G5.le (by omega)⟩
end

end Go.Proofs.YtggbpdjjlgejmaaGreat


namespace Go.Proofs.YtggbpdjjlgejmaaGreat
open Go.Vs Go.Proofs Go
set_option maxRecDepth 100000
set_option maxHeartbeats 1000000

section
attribute [local simp] plI_id plStr_id map_plI map_plStr pS cP cI cStr cU8 cB
theorem w_spec_ApplyBatch (d : PDb) (xs : List PDelta) (hz : szDb d) (hst : ∀ t ∈ d.tabs, t.name.length ≤ maxLen) (hnm : ∀ x ∈ xs, x.name.length ≤ maxLen) :
   VC Tryz.prog 123 [.agg ((eDb d).map V.d), .d (pS eDelta xs)] (fun _ v => v = .tup [.agg ((eDb (batP d xs)).map V.d), .d (.int .i64 (batN d xs)), .d (.bool (batB d xs))]) := by
  refine VC.ofL EP s123 (by kernel_rfl) Tryz.func123 (by rfl) (by kernel_rfl) (by simp [Tryz.f123]) (by simp [Tryz.f123]) s123_ok fun B hl => ?_
  obtain ⟨l⟩ := d
  by_cases hx5 : xs.length ≤ 5
  case neg =>
    have hG : batG ⟨l⟩ xs = false := by simp [batG, hx5]
    have hg : ((xs.length : Int) ≤ 5) = False := by simp; omega
    have hg2 : (5 < (xs.length : Int)) = True := by simp; omega
    simp [Tryz.f123, s123_7, s123_7, eDb, hg, hg2]
    refine call_p (w_spec_l6Copy ⟨l⟩ hz) (by simp [eDb]) fun hs2 hh2 hl2 => ?_
    simp [eDb, batP, batN, batB, bat_no hG]
  have hg2 : (5 < (xs.length : Int)) = False := by simp; omega
  simp [Tryz.f123, s123_7, s123_7, eDb, hg2]
  refine call_f (w_spec_IsValidDatabase ⟨l⟩ hst) (by simp [eDb]) rfl fun hs1 hh1 => ?_
  simp at hh1
  cases h1 : dbOk ⟨l⟩
  · have hG : batG ⟨l⟩ xs = false := by simp [batG, h1]
    simp [s123_7, ]
    refine call_p (w_spec_l6Copy ⟨l⟩ hz) (by simp [eDb]) fun hs2 hh2 hl2 => ?_
    simp [eDb, batP, batN, batB, bat_no hG]
  have hG : batG ⟨l⟩ xs = true := by simp [batG, h1, hx5]
  simp [s123_7, ]
  refine call_p (w_spec_l6Copy ⟨l⟩ hz) (by simp [eDb]) fun hs2 hh2 hl2 => ?_
  simp [eDb, s123_7, ]
  refine loop_rule (X := Nat × PDb) (fun p => RunI ⟨l⟩ xs p.1 p.2) (fun p => [(1, .d (.pl (xs.map eDelta))), (2, .ptr 2 0 0), (4, .ptr 4 0 0), (7, .ptr 7 0 0), (8, .d (.int .i64 p.1))])
    (fun p => [(2, some (.box [.d (.pl (l.map eTab))])), (4, some (.box [.d (.sl none none [])])), (7, some (.box [.d (.pl (p.2.tabs.map eTab))]))]) (fun p => xs.length - p.1) (0, ⟨l⟩) (.zero h1) (by simp) (by simp) ?_
  rintro ⟨i, ⟨c⟩⟩ hs t m hI hh
  have hle := hI.le
  have hok := hI.ok
  simp only at hle hok
  by_cases hlt : i < xs.length
  · have hwi := wr1 (i := i) (by omega)
    obtain ⟨⟨xn, ⟨xa, xi⟩, ⟨xb, xd⟩⟩, hX⟩ : ∃ x, x = xs[i] := ⟨_, rfl⟩
    have hxn := hnm _ (List.getElem_mem hlt)
    rw [← hX] at hxn
    have hA := w_spec_ApplyDelta ⟨c⟩ _ (szDb_ok hok) (dbOk_st hok) hxn
    have hstp := hI.step hlt
    have hbad := hI.bad hlt
    rw [← hX] at hstp hbad
    simp [hlt, ← hX, eDelta, eReln, s123_7, ]
    repeat' apply And.intro
    all_goals
      refine call_p hA (by simp [eDb, eDelta, eReln]) fun hs3 hh3 hl3 => ?_
      simp at hh3
      cases hb : appB ⟨c⟩ ⟨xn, ⟨xa, xi⟩, ⟨xb, xd⟩⟩
      · have e := hbad hb
        simp [eDb, s123_7, ]
        refine call_p (w_spec_l6Copy ⟨l⟩ hz) (by simp [eDb]) fun hs2 hh2 hl2 => ?_
        simp [eDb, batP, batN, batB, bat_bad hG e]
      · have hs1' := hstp hb
        obtain ⟨c', hc'⟩ : ∃ c', c' = appP ⟨c⟩ ⟨xn, ⟨xa, xi⟩, ⟨xb, xd⟩⟩ := ⟨_, rfl⟩
        rw [← hc'] at hs1' ⊢
        simp [eDb, hwi, s123_7, ]
        exact back (i + 1, c') hs1' (by simp only; omega) rfl (by simp <;> omega) (by simp) (by simp)
  · have e := hI.done (by omega)
    have hi : i = xs.length := by omega
    simp [hlt, s123_7, ]
    simp [eDb, batP, batN, batB, bat_done hG e, hi]
end

end Go.Proofs.YtggbpdjjlgejmaaGreat


namespace Go.Proofs.YtggbpdjjlgejmaaGreat
open Go.Vs Go.Proofs Go
set_option maxRecDepth 100000
set_option maxHeartbeats 1000000

section
attribute [local simp] plI_id plStr_id map_plI map_plStr
theorem t_impl_ApplyBatch (d : Db) (xs : Sl Delta) (hd : okDb d) (hx : okS okDelta xs) (hz : szDb (plDb d)) :
   VC Tryz.prog 124 [.agg ((cDb d).map V.d), .d (dSl cDelta xs)]
   (fun n v => ∃ y : Db, v = .tup [.agg ((cDb y).map V.d), .d (.int .i64 (batN (plDb d) (plS plDelta xs))), .d (.bool (batB (plDb d) (plS plDelta xs)))] ∧ plDb y = batP (plDb d) (plS plDelta xs) ∧ okDb y ∧ Good (cDb y) (whDb y) n) := by
  refine VC.of E s124 (by kernel_rfl) Tryz.func124 (by rfl) (by kernel_rfl) (by simp [Tryz.f124]) (by simp [Tryz.f124]) s124_ok fun B => ?_
  have hcopy := t_impl_copyDatabase d hd hz
  have happ := fun (y : Db) (x : Delta) (ky : okDb y) (kx : okDelta x) (hy : dbOk (plDb y) = true) => t_impl_ApplyDelta y x ky kx (szDb_ok hy)
  obtain ⟨dp, hdp⟩ : ∃ dp, dp = plDb d := ⟨_, rfl⟩
  have hdl : erLL (d.tabs.xs.map cTab) = dp.tabs.map eTab := by rw [erLL_map er_cTab, hdp]; rfl
  rw [← hdp] at hcopy ⊢
  obtain ⟨⟨did, dT, dts⟩⟩ := d
  obtain ⟨xid, xT, xl⟩ := xs
  obtain ⟨L, hL⟩ : ∃ L, L = plS plDelta ⟨xid, xT, xl⟩ := ⟨_, rfl⟩
  have hLl : L.length = xl.length := by rw [hL]; simp [plS]
  rw [← hL]
  simp only at hdl
  by_cases hx5 : xl.length ≤ 5
  case neg =>
    have hG : batG dp L = false := by simp [batG, hLl, hx5]
    have hg2 : (5 < (xl.length : Int)) = True := by simp; omega
    simp [Tryz.f124, cDb, cS, dSl, hg2]
    refine call_some hcopy (by simp [cDb, cS, dSl]) (by simp) fun n2 hs2 r2 hn2 hm2 hp2 hr2 => ?_
    obtain ⟨⟨⟨vid, vT, vs⟩⟩, rfl, p2, k2, G2⟩ := hp2
    simp at hn2
    simp [cDb, cS, dSl, batP, batN, batB, bat_no hG, ]
    exact ⟨⟨⟨vid, vT, vs⟩⟩, by simp [cDb, cS, dSl], p2, k2, G2.le (by omega)⟩
  have hg2 : (5 < (xl.length : Int)) = False := by simp; omega
  simp [Tryz.f124, cDb, cS, dSl, hg2]
  refine call_f (w_impl_IsValidDatabase dp) (by simp [eDb, cP, pS, hdl]) rfl fun hs1 hh1 => ?_
  simp at hh1
  cases h1 : dbOk dp
  · have hG : batG dp L = false := by simp [batG, h1]
    simp []
    refine call_some hcopy (by simp [cDb, cS, dSl]) (by simp) fun n2 hs2 r2 hn2 hm2 hp2 hr2 => ?_
    obtain ⟨⟨⟨vid, vT, vs⟩⟩, rfl, p2, k2, G2⟩ := hp2
    simp at hn2
    simp [cDb, cS, dSl, batP, batN, batB, bat_no hG, ]
    exact ⟨⟨⟨vid, vT, vs⟩⟩, by simp [cDb, cS, dSl], p2, k2, G2.le (by omega)⟩
  have hG : batG dp L = true := by simp [batG, h1, hLl, hx5]
  simp []
  refine call_some hcopy (by simp [cDb, cS, dSl]) (by simp) fun n2 hs2 r2 hn2 hm2 hp2 hr2 => ?_
  obtain ⟨⟨⟨yid, yT, ys⟩⟩, rfl, p2, k2, G2⟩ := hp2
  simp at hn2
  simp [cDb, cS, dSl, ]
  refine loop_rule (X := Nat × Db) (fun p => RunT dp L B p) (fun p => [(1, .d (.sl xid xT (xl.map cDelta))), (2, .ptr 2 0 0), (4, .ptr 4 0 0), (7, .ptr 7 0 0), (24, .d (.sl xid xT (xl.map cDelta))), (25, .d (.int .i64 xl.length)), (26, .d (.int .i64 p.1))])
    (fun p => [(2, some (.box [.d (.sl did dT (dts.map cTab))])), (4, some (.box [.d (.sl none none [])])), (7, some (.box ((cDb p.2).map V.d)))]) (fun p => L.length - p.1) (0, ⟨⟨yid, yT, ys⟩⟩) ⟨by rw [p2]; exact .zero h1, k2, G2.le (by omega)⟩ (by simp) (by simp [cDb, cS, dSl]) ?_
  rintro ⟨i, ⟨⟨uid, uT, us⟩⟩⟩ hs t m hI hh
  have hle := hI.run.le
  simp only at hle
  by_cases hlt : i < xl.length
  · have hwi := wr1 (i := i) (by omega)
    have hltL : i < L.length := by omega
    have hok := hx.2 _ (List.getElem_mem hlt)
    have hLi : L[i] = plDelta xl[i] := by simp [hL, plS]
    obtain ⟨⟨xn, ⟨xa, ⟨xiid, xiT, xi⟩⟩, ⟨xb, ⟨xdid, xdT, xd⟩⟩⟩, hX⟩ : ∃ x, x = xl[i] := ⟨_, rfl⟩
    have hA := happ _ _ hI.ok hok hI.run.ok
    have hstp := hI.run.step hltL
    have hbad := hI.run.bad hltL
    rw [hLi] at hstp hbad
    rw [← hX] at hstp hbad hA
    simp [hlt, ← hX, cDb, cDelta, cReln, cStr, cI, cS, dSl, ]
    refine call_some hA (by simp [cDb, cDelta, cReln, cStr, cI, cS, dSl]) (by simp) fun n3 hs3 r3 hn3 hm3 hp3 hr3 => ?_
    obtain ⟨⟨⟨vid, vT, vs⟩⟩, rfl, p3, k3, G3⟩ := hp3
    simp at hn3
    cases hb : appB (plDb ⟨⟨uid, uT, us⟩⟩) (plDelta ⟨xn, ⟨xa, ⟨xiid, xiT, xi⟩⟩, ⟨xb, ⟨xdid, xdT, xd⟩⟩⟩)
    · have e := hbad hb
      simp [cDb, cS, dSl, ]
      refine call_some hcopy (by simp [cDb, cS, dSl]) (by simp) fun n4 hs4 r4 hn4 hm4 hp4 hr4 => ?_
      obtain ⟨⟨⟨wid, wT, ws⟩⟩, rfl, p4, k4, G4⟩ := hp4
      simp at hn4
      simp [cDb, cS, dSl, batP, batN, batB, bat_bad hG e, ]
      exact ⟨⟨⟨wid, wT, ws⟩⟩, by simp [cDb, cS, dSl], p4, k4, G4.le (by omega)⟩
    · have hs1' := hstp hb
      rw [← p3] at hs1'
      simp [cDb, cS, dSl, hwi, ]
      exact back (i + 1, ⟨⟨vid, vT, vs⟩⟩) ⟨hs1', k3, G3.le (by omega)⟩ (by simp only; omega) rfl (by simp <;> omega) (by simp) (by simp [cDb, cS, dSl])
  · have e := hI.run.done (by omega)
    have hi : i = xl.length := by omega
    simp only at e
    simp [hlt, cDb, cS, dSl, ]
    exact ⟨⟨⟨uid, uT, us⟩⟩, by simp [cDb, cS, dSl, batN, batB, bat_done hG e, hi], by simp [batP, bat_done hG e], hI.ok, hI.good⟩
end

end Go.Proofs.YtggbpdjjlgejmaaGreat


namespace Go.Proofs.YtggbpdjjlgejmaaGreat
open Go.Vs Go.Proofs Go
set_option maxRecDepth 100000
set_option maxHeartbeats 1000000

theorem t_impl_CountedFromRelation (a : Reln) (ha : okReln a) : VC Tryz.prog 48 [.agg ((cReln a).map V.d)]
   (fun n r => ∃ y : Cnt, r = .tup [.agg ((cCnt y).map V.d), .d (.bool (rowsOk (plReln a).ar (plReln a).rows))] ∧ plCnt y = cntOf (plReln a) ∧ okCnt y ∧ Good (cCnt y) (whCnt y) n) := by
  refine VC.of E s48 (by kernel_rfl) Tryz.func48 (by rfl) (by kernel_rfl) (by simp [Tryz.f48]) (by simp [Tryz.f48]) s48_ok fun B => ?_
  simp [Tryz.f48, s48_3, cReln, cS, cI]
  refine call_f (w_impl_IsValidRelation (plReln a)) (by simp [eReln, er_SI, plI]) rfl fun hs0 hh0 => ?_
  simp at hh0
  cases h1 : rowsOk a.ar (plS (plS plI) a.rows)
  · have h1' : rowsOk (plReln a).ar (plReln a).rows = false := h1
    simp [h1, plI]
    exact ⟨⟨0, nilS, nilS⟩, by simp [cCnt, nilS, cS, dSl], by simp only [cntOf, h1']; rfl, ⟨trivial, ok_nilS, ok_nilS⟩, good_Cnt0 B⟩
  have h1' : rowsOk (plReln a).ar (plReln a).rows = true := h1
  have hlen := rowsOk_len h1
  have hrow := rowsOk_row h1
  have hl1 : a.rows.xs.length ≤ 4000 := by simpa [plS] using hlen
  have hl2 : ∀ r ∈ a.rows.xs, r.xs.length ≤ 4294967296 := fun r hr => by
    have := hrow (plS plI r) (List.mem_map_of_mem hr)
    simp [plS] at this; omega
  simp [h1, s48_3, ]
  repeat' apply And.intro
  all_goals
    refine call_some (w_impl_copyRows a.rows ha.2 (by omega) hl2) rfl (by simp) fun n1 hs1 r1 hn1 hm1 hp1 hr1 => ?_
    obtain ⟨y1, rfl, p1, k1, G1⟩ := hp1
    have u1 : ∀ g ∈ idsL (cS (cS cI) y1), g < hs1 := fun g hg => hr1 g (by rw [idsL_cS] at hg; exact hg)
    simp at hn1
    have hy1 : y1.xs.length = a.rows.xs.length := by have := congrArg List.length p1; simpa [plS] using this
    simp [cS, cI, dSl, s48_3, ]
    refine loop_ruleL (X := Nat) (fun i _ => i ≤ a.rows.xs.length) (fun i => [(2, .ptr 2 0 0), (4, .ptr 4 0 0), (17, .d (.int .i64 a.rows.xs.length)), (18, .d (.int .i64 i))])
      (fun i => [(2, some (.box [.d (.int .i64 0), .d (.sl none none []), .d (.sl none none [])])), (4, some (.box [.d (.int .i64 a.ar), .d (dSl (cS cI) y1), .own 23 0 i])), (23, some (.row 3 1 ((List.replicate i 1).map cI)))]) (fun i => a.rows.xs.length - i) ?_ ?_
    · refine (lead_box 4 2 23 3 1 [.d (.int .i64 a.ar), .d (dSl (cS cI) y1), .d (.sl none none [])] (by omega) (by omega) (by omega) (by simp [dSl]) rfl).bind ?_
      rintro _ rfl
      exact Lead.of ⟨0, by simp, rfl, rfl, Nat.le_refl _, by simp, by simp [dSl]⟩
    · intro i hs t m hi hh
      by_cases hlt : i < a.rows.xs.length
      · have hwi := wr1 (i := i) (by omega)
        have hL : LenOk 8 (i + 1) := ⟨by omega, by simp only [maxLen]; omega⟩
        simp [hlt, hwi, hL, s48_3, ]
        refine back2 (i + 1) (by omega) (by omega) rfl (by simp) (by simp) ?_
        simp [List.replicate_succ']
      · have hn : i = a.rows.xs.length := by omega
        subst hn
        simp [List.take_of_length_le]
        intro γ hs' h2 hg
        obtain ⟨q1, q2⟩ := gam_at hg (k := 23) (T := 3) (sz := 1) (es := (List.replicate a.rows.xs.length 1).map cI) (by simp)
        have qf : ∀ g, γ 23 = some g → g ∉ (dSl (cS cI) y1).ids := fun g hγ => by
          have hb := (hg.fr 23 3 1 _ g (by simp; rfl) hγ).1.box 4 [.d (.int .i64 a.ar), .d (dSl (cS cI) y1), .own 23 0 a.rows.xs.length] (by simp)
          simpa [V.ids, idsVL, D.ids, idsLL] using hb
        clear hg
        refine ⟨⟨a.ar, y1, ⟨γ 23, some (3, 1), List.replicate a.rows.xs.length 1⟩⟩, by simp [cCnt, cS, cI, dSl, h1], ?_, ⟨trivial, k1, ⟨by simp only [maxLen, List.length_replicate]; omega, fun _ _ => trivial⟩⟩, good_Cnt G1 (by omega) (fun g hg => (q1 g hg).1) (by simpa using q2) qf⟩
        simp only [cntOf, h1', plCnt]
        simp [plS, plReln] at p1 ⊢
        exact p1

end Go.Proofs.YtggbpdjjlgejmaaGreat


namespace Go.Proofs.YtggbpdjjlgejmaaGreat
open Go.Vs Go.Proofs Go
set_option maxRecDepth 100000
set_option maxHeartbeats 1000000

theorem t_impl_settled (a : Cnt) (ha : okCnt a) (hl1 : a.rows.xs.length ≤ 4294967296) (hl2 : a.cs.xs.length = a.rows.xs.length) : VC Tryz.prog 100 [.agg ((cCnt a).map V.d)]
   (fun n r => ∃ y : Cnt, r = .agg ((cCnt y).map V.d) ∧ plCnt y = ⟨a.ar, (sttl (plCnt a).rows (plCnt a).cs).map Prod.fst, (sttl (plCnt a).rows (plCnt a).cs).map Prod.snd⟩ ∧ okCnt y ∧
     (∀ B, B ≤ n → Good (cS (cS cI) a.rows) (whS (whS whI) a.rows) B → Good (cCnt y) (whCnt y) B)) := by
  refine VC.of E s100 (by kernel_rfl) Tryz.func100 (by rfl) (by kernel_rfl) (by simp [Tryz.f100]) (by simp [Tryz.f100]) s100_ok fun B => ?_
  simp [Tryz.f100, s100_6, cCnt, cS, cI, dSl]
  obtain ⟨ar, ⟨rid, rT, l⟩, ⟨cid, cT, cs⟩⟩ := a
  simp only at hl1 hl2 ⊢
  refine loop_ruleL (X := Nat) (fun i _ => i ≤ cs.length) (fun i => [(1, .ptr 1 0 0), (2, .ptr 2 0 0), (3, .ptr 3 0 0), (10, .d (.sl cid cT (cs.map cI))), (11, .d (.int .i64 cs.length)), (12, .d (.int .i64 i))])
    (fun i => [(1, some (.box [.d (.int .i64 ar), .d (.sl rid rT (l.map (cS cI))), .d (.sl cid cT (cs.map cI))])), (2, some (.box [.d (.int .i64 0), .d (.sl none none []), .d (.sl none none [])])),
      (3, some (.box [.d (.int .i64 ar), .own 27 0 (sttl (l.take i) (cs.take i)).length, .own 33 0 (sttl (l.take i) (cs.take i)).length])),
      (27, some (.row 26 1 (((sttl (l.take i) (cs.take i)).map Prod.fst).map (cS cI)))), (33, some (.row 3 1 (((sttl (l.take i) (cs.take i)).map Prod.snd).map cI)))]) (fun i => cs.length - i) ?_ ?_
  · refine (lead_box 3 1 27 26 1 [.d (.int .i64 ar), .d (.sl none none []), .d (.sl none none [])] (by omega) (by omega) (by omega) (by simp) rfl).bind ?_
    rintro _ rfl
    refine (lead_box 3 2 33 3 1 [.d (.int .i64 ar), .own 27 0 0, .d (.sl none none [])] (by omega) (by omega) (by omega) (by simp) rfl).bind ?_
    rintro _ rfl
    exact Lead.of ⟨0, by simp, rfl, rfl, Nat.le_refl _, by simp, by simp [sttl, dSl]⟩
  · intro i hs t m hi hh
    by_cases hlt : i < cs.length
    · have hwi := wr1 (i := i) (by omega)
      have hil : i < l.length := by omega
      have hss := settle_step (rs := l) (cs := cs) hil hlt
      have hsl : (sttl (l.take i) (cs.take i)).length ≤ i := settle_len (by omega)
      refine anyQ2 fun Q => ?_
      by_cases h0 : cs[i] = 0
      · rw [if_pos h0, List.append_nil] at hss
        simp [hlt, hil, h0, hwi, s100_6, ]
        exact back2 (i + 1) (by omega) (by omega) rfl (by simp <;> omega) (by simp) (by simp [hss])
      · rw [if_neg h0] at hss
        have hLa : LenOk 24 ((sttl (l.take i) (cs.take i)).length + 1) := ⟨by omega, by simp only [maxLen]; omega⟩
        have hLb : LenOk 8 ((sttl (l.take i) (cs.take i)).length + 1) := ⟨by omega, by simp only [maxLen]; omega⟩
        simp [hlt, hil, h0, hwi, hLa, hLb, cS, dSl, s100_6, ]
        exact back2 (i + 1) (by omega) (by omega) rfl (by simp <;> omega) (by simp) (by simp [hss, cS, cI, dSl])
    · have hn : i = cs.length := by omega
      subst hn
      have hsl : (sttl l cs).length ≤ l.length := by
        have := settle_len (rs := l) (cs := cs) (Nat.le_refl l.length)
        rw [List.take_length, List.take_of_length_le (l := cs) (by omega)] at this
        exact this
      simp [List.take_of_length_le, hl2, s100_6, ]
      intro γ hs' h2 hg
      obtain ⟨q1, q2⟩ := gam_at hg (k := 27) (T := 26) (sz := 1) (es := (sttl l cs).map (cS cI ∘ Prod.fst)) (by simp)
      obtain ⟨q3, q4⟩ := gam_at hg (k := 33) (T := 3) (sz := 1) (es := (sttl l cs).map (cI ∘ Prod.snd)) (by simp)
      have r1 := gam_row hg (k := 27) (T := 26) (sz := 1) (es := (sttl l cs).map (cS cI ∘ Prod.fst)) (by simp)
      have r2 := gam_row2 hg (k := 33) (T := 3) (sz := 1) (es := (sttl l cs).map (cI ∘ Prod.snd)) (k2 := 27) (T2 := 26) (sz2 := 1) (es2 := (sttl l cs).map (cS cI ∘ Prod.fst)) (by simp) (by simp)
      have r3 : ∀ g, γ 27 = some g → γ 33 = some g → False := fun g h h' => by
        have := hg.ne 27 33 (.row 26 1 ((sttl l cs).map (cS cI ∘ Prod.fst))) (.row 3 1 ((sttl l cs).map (cI ∘ Prod.snd))) g (by simp) (by simp) h h'
        omega
      clear hg
      have em : (sttl l cs).map (cS cI ∘ Prod.fst) = ((sttl l cs).map Prod.fst).map (cS cI) := by simp
      rw [em] at r1 r2
      have hp1 : hpLL ((sttl l cs).map (cS cI ∘ Prod.fst)) = false := hpLL_map (fun a => by simp) _
      have hp2 : hpLL ((sttl l cs).map (cI ∘ Prod.snd)) = false := hpLL_map (fun a => by simp) _
      simp [hp1, hp2, List.take_of_length_le]
      have hsub := sttl_sub l cs
      refine ⟨⟨ar, ⟨γ 27, some (26, 1), (sttl l cs).map Prod.fst⟩, ⟨γ 33, some (3, 1), (sttl l cs).map Prod.snd⟩⟩, by simp [hp1, hp2, cCnt, cS, cI, dSl, List.take_of_length_le], ?_, ⟨trivial, ⟨by simp only [maxLen, List.length_map]; omega, fun r hr => ha.2.1.2 r (hsub.subset hr)⟩, ⟨by simp only [maxLen, List.length_map]; omega, fun _ _ => trivial⟩⟩, ?_⟩
      · simp only [plCnt, plS, map_plI, PCnt.mk.injEq]
        exact ⟨rfl, sttl_fst _ _ _, sttl_snd _ _ _⟩
      · intro B' hB' G
        have G : Good (cS (cS cI) ⟨rid, rT, l⟩) (whS (whS whI) ⟨rid, rT, l⟩) B' := G
        have hG := G.nd
        rw [idsL_cS] at hG
        have hG2 := (sl_nd hG).1
        have hlo : ∀ g ∈ idsLL (((sttl l cs).map Prod.fst).map (cS cI)), B' ≤ g := fun g hg => G.lo g (by
          rw [idsL_cS]
          exact mem_sl_ids.2 (.inr ((ids_sub hsub).subset hg)))
        have := good_Cnt2 (ar := ar) (T1 := (26, 1)) (T2 := (3, 1)) (hG2.sublist (ids_sub hsub)) hlo (fun r hr => G.wh.2 r (hsub.subset hr)) (fun g h => ⟨Nat.le_trans hB' (q1 g h).1, r1 g h⟩) (by simpa using q2) (fun g h => ⟨Nat.le_trans hB' (q3 g h).1, r2 g h⟩) (cs := (sttl l cs).map Prod.snd) (by simpa using q4) r3
        exact this

end Go.Proofs.YtggbpdjjlgejmaaGreat


namespace Go.Proofs.YtggbpdjjlgejmaaGreat
open Go.Vs Go.Proofs Go
set_option maxRecDepth 100000
set_option maxHeartbeats 1000000

theorem w_impl_copyIntsT (a : Ints) (ha : okS okI a) (hb : a.xs.length ≤ 4294967296) :
   VC Tryz.prog 101 [.d (dSl cI a)] (fun n r => ∃ y : Sl Int, r = .d (dSl cI y) ∧ plS plI y = plS plI a ∧ okS okI y ∧ Good (cS cI y) (whS whI y) n ∧ y.T = some (3, 1)) := by
  refine VC.of E s101 (by kernel_rfl) Tryz.func101 (by rfl) (by kernel_rfl) (by simp [Tryz.f101]) (by simp [Tryz.f101]) s101_ok fun B => ?_
  have hL : LenOk 8 a.xs.length := ⟨by omega, by simp only [maxLen]; omega⟩
  simp [Tryz.f101, dSl, hL, cI]
  intro γ hs' h1 hg
  obtain ⟨q1, q2⟩ := gam_at hg (k := 3) (T := 3) (sz := 1) (es := a.xs.map cI) (by simp [cI])
  have q3 := gam_row hg (k := 3) (T := 3) (sz := 1) (es := a.xs.map cI) (by simp [cI])
  clear hg
  refine ⟨⟨γ 3, some (3, 1), a.xs⟩, ⟨⟨rfl, rfl, by simp [List.take_of_length_le]⟩, rfl, ha, good_row (fun g hg => (q1 g hg).1) (by simpa using q2) q3 ⟨by simp, by simp⟩ (by simp [whI]), rfl⟩⟩
theorem t_impl_tally (c : Cnt) (row : Sl Int) (n : Int) (hc : okCnt c) (hr : okS okI row) (hw : whS whI c.cs) (hnd : (idsL (cCnt c)).Nodup) (hb : c.rows.xs.length ≤ 1000000) (hl2 : c.cs.xs.length = c.rows.xs.length) (hlr : row.xs.length ≤ 4294967296)
   (hn : -1000000 ≤ n ∧ n ≤ 1000000) (hv : ∀ v ∈ c.cs.xs, -1000000000000 ≤ v ∧ v ≤ 1000000000000) :
   VX Tryz.prog 98 (dSl cI c.cs).ids [.ptr 1000 0 0, .d (dSl cI row), .d (.int .i64 n)] (some ((cCnt c).map V.d))
    (fun m r bx' ws => r = .tup [] ∧ ∃ y : Cnt, bx' = (cCnt y).map V.d ∧ plCnt y = ⟨c.ar, insR (plCnt c).rows row.xs, insC (plCnt c).rows c.cs.xs row.xs n⟩ ∧ okCnt y ∧ (∃ d, ws = [d]) ∧
      (∀ B, B ≤ m → Good (cCnt c) (whCnt c) B → (∀ g ∈ idsL (cCnt c), g < m) → Good (cCnt y) (whCnt y) B)) := by
  refine VX.of E s98 (by kernel_rfl) Tryz.func98 (by rfl) (by kernel_rfl) (by simp [Tryz.f98]) (by simp [Tryz.f98]) s98_ok ?_ ?_ fun B hB => ?_
  · intro g hg; right; show g ∈ idsVL ((cCnt c).map V.d); rw [idsVL_map_d, cCnt, idsL_app, idsL_app, idsL_cS, idsL_cS]; simp [hg]
  · intro bs h; obtain rfl := Option.some.inj h; rfl
  obtain ⟨ar, ⟨rid, rT, l⟩, ⟨cid, cT, cs⟩⟩ := c
  simp only at hw hb hl2 hv ⊢
  have hnd2 : ∀ g, cid = some g → g ∉ (dSl (cS cI) ⟨rid, rT, l⟩).ids := fun g hg hm => by
    rw [cCnt, idsL_app, idsL_app, idsL_cS, idsL_cS] at hnd
    exact (List.nodup_append.1 hnd).2.2 g (by simp [hm]) g (mem_sl_ids.2 (.inl hg)) rfl
  simp [Tryz.f98, s98_3, s98_4, cCnt, cS, cI, dSl]
  have hlr2 : row.xs.length ≤ maxLen := hr.1
  refine call_f (w_impl_place (plS (plS plI) ⟨rid, rT, l⟩) row.xs (by simpa [plS] using (by omega : l.length ≤ 4294967296))) (by simp [pS, plS, er_cS, erLL_map er_cI, erLL_map (er_cS er_cI), map_plI]) rfl fun hs1 hh1 => ?_
  simp at hh1
  obtain ⟨L, hL⟩ : ∃ L, L = l.map (plS plI) := ⟨_, rfl⟩
  have hLl : L.length = l.length := by rw [hL, List.length_map]
  have hpl : plS (plS plI) (⟨rid, rT, l⟩ : Sl (Sl Int)) = L := by rw [hL]; rfl
  have hk := placeK_le L row.xs
  simp only [hpl]
  obtain ⟨k, hkk⟩ : ∃ k, k = placeK L row.xs := ⟨_, rfl⟩
  simp only [← hkk] at hk ⊢
  cases hb1 : placeB L row.xs
  · have e0 : LenOk 24 k := ⟨by omega, by simp only [maxLen]; omega⟩
    have e1 : LenOk 24 (k + 1) := ⟨by omega, by simp only [maxLen]; omega⟩
    have e2 : LenOk 24 (k + 1 + (l.length - k)) := ⟨by omega, by simp only [maxLen]; omega⟩
    have hkl : k ≤ l.length := by omega
    have hmn : min k l.length = k := by omega
    simp [cS, cI, dSl, hkl, hmn, e0, ← List.map_take, s98_3, s98_4, ]
    refine call_some (w_impl_copyInts row hr hlr) (by simp [dSl, cI]) (by simp) fun n1 hs2 r1 hn1 hm1 hp1 hr1 => ?_
    obtain ⟨w, rfl, pw, kw, Gw⟩ := hp1
    simp at hn1
    simp [cS, cI, dSl, hkl, hmn, e0, e1, e2, ← List.map_take, ← List.map_drop, List.take_of_length_le, s98_3, s98_4, ]
    have hkc : k ≤ cs.length := by omega
    refine ⟨hkc, ?_⟩
    generalize (if cid.isSome = true then none else cT) = T0
    have hC := w_impl_copyIntsT ⟨cid, T0, cs.take k⟩ ⟨by simp only [maxLen, List.length_take]; omega, fun _ _ => trivial⟩ (by simp; omega)
    simp only [dSl] at hC
    repeat' apply And.intro
    all_goals
      refine call_some hC rfl (by simp) fun n2 hs3 r2 hn2 hm2 hp2 hr2 => ?_
      obtain ⟨⟨zid, zT, zx⟩, rfl, pz, kz, Gz, hzT⟩ := hp2
      simp only at hzT
      subst hzT
      have hzx : zx = cs.take k := by simpa [plS, map_plI] using pz
      simp at hn2
      have f1 : LenOk 8 (k + 1) := ⟨by omega, by simp only [maxLen]; omega⟩
      have f2 : LenOk 8 (k + 1 + (cs.length - k)) := ⟨by omega, by simp only [maxLen]; omega⟩
      have hmc : min k cs.length = k := by omega
      cases zid with
      | none =>
        have hz0 : zx = [] := Gz.wh.1.nil rfl
        subst hz0
        have hk0 : k = 0 := by have := congrArg List.length hzx; simp at this; omega
        subst hk0
        have g1 : LenOk 8 1 := ⟨by omega, by simp only [maxLen]; omega⟩
        have g2 : LenOk 8 (1 + cs.length) := ⟨by omega, by simp only [maxLen]; omega⟩
        simp [cI, dSl, g1, g2, vendX, s98_3, s98_4, ]
        refine ⟨[54], fun γ hs' h1 hg => ?_⟩
        obtain ⟨q1, q2⟩ := gam_at hg (k := 29) (T := 26) (sz := 1) (es := (w :: l).map (cS cI)) (by simp [cS, dSl])
        obtain ⟨q3, q4⟩ := gam_at hg (k := 60) (T := 3) (sz := 1) (es := (n :: cs).map cI) (by simp [cI])
        have r1 := gam_row hg (k := 29) (T := 26) (sz := 1) (es := (w :: l).map (cS cI)) (by simp [cS, dSl])
        have r2 := gam_row2 hg (k := 60) (T := 3) (sz := 1) (es := (n :: cs).map cI) (k2 := 29) (T2 := 26) (sz2 := 1) (es2 := (w :: l).map (cS cI)) (by simp [cI]) (by simp [cS, dSl])
        have r3 : ∀ g, γ 29 = some g → γ 60 = some g → False := fun g h h' => by
          have := hg.ne 29 60 (.row 26 1 ((w :: l).map (cS cI))) (.row 3 1 ((n :: cs).map cI)) g (by simp [cS, dSl]) (by simp [cI]) h h'
          omega
        clear hg
        have hp1 : hpLL (l.map (cS cI)) = false := hpLL_map (fun a => by simp) _
        have hp2 : hpLL (cs.map cI) = false := hpLL_map (fun a => by simp) _
        have a1 : 1 + l.length = l.length + 1 := Nat.add_comm _ _
        have a2 : 1 + cs.length = cs.length + 1 := Nat.add_comm _ _
        simp [hp1, hp2, a1, a2, List.take_of_length_le]
        refine ⟨⟨ar, ⟨γ 29, some (26, 1), w :: l⟩, ⟨γ 60, some (3, 1), n :: cs⟩⟩, by simp [cS, dSl, cI], ?_, ⟨trivial, ⟨by simp only [maxLen, List.length_cons]; omega, fun r hr => by
          rcases List.mem_cons.1 hr with h | h
          · subst h; exact kw
          · exact hc.2.1.2 r h⟩, ⟨by simp only [maxLen, List.length_cons]; omega, fun _ _ => trivial⟩⟩, ?_⟩
        · have pw' : w.xs = row.xs := by simpa [plS, map_plI] using pw
          simp only [plCnt, insR, insC, hb1, ← hkk, Bool.false_eq_true, if_false, PCnt.mk.injEq]
          refine ⟨rfl, ?_, ?_⟩
          · rw [hL]; simp [plS, map_plI, pw']
          · simp [plS, map_plI]
        · intro B' hB' G hlt
          have := tally_good (k := 0) (T1 := (26, 1)) (T2 := (3, 1)) (cs' := n :: cs) hB' G hlt (by omega) Gw (fun g h => (q1 g h).1) r1 (q2 (by simp)) (fun g h => (q3 g h).1) r2 (q4 (by simp)) r3
          exact this
      | some zg =>
        have hzlo : n2 ≤ zg := Gz.lo zg (by rw [idsL_cS]; exact mem_sl_ids.2 (.inl rfl))
        have hcB : ∀ g ∈ idsL (cCnt ⟨ar, ⟨rid, rT, l⟩, ⟨cid, cT, cs⟩⟩), g < B := fun g hg => hB g (.inr (by rw [Option.getD_some, idsVL_map_d]; exact hg))
        have hlB : ∀ g ∈ (dSl (cS cI) ⟨rid, rT, l⟩).ids, g < B := fun g hg => hcB g (by rw [cCnt, idsL_app, idsL_app, idsL_cS, idsL_cS]; simp [hg])
        have hkB : ∀ g ∈ (dSl cI ⟨cid, cT, cs⟩).ids, g < B := fun g hg => hcB g (by rw [cCnt, idsL_app, idsL_app, idsL_cS, idsL_cS]; simp [hg])
        have kg : ∀ i, i < n2 → kphi (some zg) i = none := fun i hi => by simp only [kphi]; rw [if_neg (by simp; omega)]
        have eC : reV (kphi (some zg)) (.d (.sl cid cT (cs.map cI))) = .d (.sl cid cT (cs.map cI)) := reV_id (.d (dSl cI ⟨cid, cT, cs⟩)) fun g hg => kg g (by have := hkB g hg; omega)
        have eD : ∀ xs : List Int, reV (kphi (some zg)) (.d (.sl cid T0 (xs.map cI))) = .d (.sl cid T0 (xs.map cI)) := fun xs => reV_id (.d (dSl cI ⟨cid, T0, xs⟩)) fun g hg => kg g (by
          have := hkB g (by
            rcases mem_sl_ids.1 hg with h | h
            · exact mem_sl_ids.2 (.inl h)
            · simp at h)
          omega)
        have eR : reLL (kphi (some zg)) ((l.take k).map (cS cI) ++ [D.sl w.id w.T (w.xs.map cI)] :: (l.drop k).map (cS cI)) = some ((l.take k).map (cS cI) ++ [D.sl w.id w.T (w.xs.map cI)] :: (l.drop k).map (cS cI)) := by
          have e : (l.take k).map (cS cI) ++ [D.sl w.id w.T (w.xs.map cI)] :: (l.drop k).map (cS cI) = (l.take k ++ w :: l.drop k).map (cS cI) := by simp [cS, dSl]
          rw [e]
          refine reLL_id _ (ht := tkLL_map _ (by simp)) fun g hg => kg g ?_
          rw [List.map_append, idsLL_append, List.map_cons] at hg
          simp only [idsLL, List.mem_append] at hg
          rcases hg with h | h | h
          · have := hlB g (mem_sl_ids.2 (.inr ((ids_sub (List.take_sublist k l)).subset h))); omega
          · have := hr1 g (by rw [idsL_cS] at h; exact h); omega
          · have := hlB g (mem_sl_ids.2 (.inr ((ids_sub (List.drop_sublist k l)).subset h))); omega
        have f3 : LenOk 8 (zx.length + 1) := ⟨by rw [hzx]; simp; omega, by rw [hzx]; simp only [maxLen, List.length_take]; omega⟩
        have f4 : LenOk 8 (zx.length + 1 + (cs.length - k)) := ⟨by rw [hzx]; simp; omega, by rw [hzx]; simp only [maxLen, List.length_take]; omega⟩
        have hzB : B ≤ zg := by omega
        simp [cI, dSl, hkc, hmc, f1, f2, f3, f4, hzB, St.kill, eC, eD, eR, ← List.map_take, ← List.map_drop, List.take_of_length_le, s98_3, s98_4, ]
        rw [hzx]
        refine ⟨by simp [idsLL, idsL, D.ids], ?_⟩
        simp [vendX]
        refine ⟨[54], fun γ hs' h1 hg => ?_⟩
        obtain ⟨q1, q2⟩ := gam_at hg (k := 29) (T := 26) (sz := 1) (es := (l.take k ++ w :: l.drop k).map (cS cI)) (by simp [cS, dSl])
        obtain ⟨q3, q4⟩ := gam_at hg (k := 60) (T := 3) (sz := 1) (es := (cs.take k ++ n :: cs.drop k).map cI) (by simp [cI])
        have r1 := gam_row hg (k := 29) (T := 26) (sz := 1) (es := (l.take k ++ w :: l.drop k).map (cS cI)) (by simp [cS, dSl])
        have r2 := gam_row2 hg (k := 60) (T := 3) (sz := 1) (es := (cs.take k ++ n :: cs.drop k).map cI) (k2 := 29) (T2 := 26) (sz2 := 1) (es2 := (l.take k ++ w :: l.drop k).map (cS cI)) (by simp [cI]) (by simp [cS, dSl])
        have r3 : ∀ g, γ 29 = some g → γ 60 = some g → False := fun g h h' => by
          have := hg.ne 29 60 (.row 26 1 ((l.take k ++ w :: l.drop k).map (cS cI))) (.row 3 1 ((cs.take k ++ n :: cs.drop k).map cI)) g (by simp [cS, dSl]) (by simp [cI]) h h'
          omega
        clear hg
        have hp1 : ∀ l : List Ints, hpLL (l.map (cS cI)) = false := fun l => hpLL_map (fun a => by simp) _
        have hp2 : ∀ l : List Int, hpLL (l.map cI) = false := fun l => hpLL_map (fun a => by simp) _
        have a1 : k + 1 + (l.length - k) = k + (l.length - k + 1) := by omega
        have a2 : k + 1 + (cs.length - k) = k + (cs.length - k + 1) := by omega
        have p1 : hpLL (List.take k (List.map (cS cI) l)) = false := by rw [← List.map_take]; exact hp1 _
        have p2 : hpLL (List.drop k (List.map (cS cI) l)) = false := by rw [← List.map_drop]; exact hp1 _
        have p3 : hpLL (List.take k (List.map cI cs)) = false := by rw [← List.map_take]; exact hp2 _
        have p4 : hpLL (List.drop k (List.map cI cs)) = false := by rw [← List.map_drop]; exact hp2 _
        simp [p1, p2, p3, p4, hmn, hmc, a1, a2, List.take_of_length_le]
        refine ⟨⟨ar, ⟨γ 29, some (26, 1), l.take k ++ w :: l.drop k⟩, ⟨γ 60, some (3, 1), cs.take k ++ n :: cs.drop k⟩⟩, by simp [cS, dSl, cI], ?_, ⟨trivial, ⟨by simp only [maxLen, List.length_append, List.length_take, List.length_cons, List.length_drop]; omega, fun r hr => by
          rcases List.mem_append.1 hr with h | h
          · exact hc.2.1.2 r (List.mem_of_mem_take h)
          rcases List.mem_cons.1 h with h | h
          · subst h; exact kw
          · exact hc.2.1.2 r (List.mem_of_mem_drop h)⟩, ⟨by simp only [maxLen, List.length_append, List.length_take, List.length_cons, List.length_drop]; omega, fun _ _ => trivial⟩⟩, ?_⟩
        · have pw' : w.xs = row.xs := by simpa [plS, map_plI] using pw
          simp only [plCnt, insR, insC, hb1, ← hkk, Bool.false_eq_true, if_false, PCnt.mk.injEq]
          refine ⟨rfl, ?_, ?_⟩
          · rw [hL]; simp [plS, map_plI, pw']
          · simp [plS, map_plI]
        · intro B' hB' G hlt
          have := tally_good (k := k) (T1 := (26, 1)) (T2 := (3, 1)) (cs' := cs.take k ++ n :: cs.drop k) hB' G hlt (by omega) Gw (fun g h => (q1 g h).1) r1 (q2 (by simp)) (fun g h => (q3 g h).1) r2 (q4 (by simp)) r3
          exact this
  · obtain ⟨hk1, hkx⟩ := placeB_at hb1
    rw [← hkk] at hk1
    have hkc : k < cs.length := by omega
    obtain ⟨g, hg, T', hT⟩ := hw.1.id hkc
    simp only at hg hT
    subst hg hT
    have hvk := hv cs[k] (List.getElem_mem hkc)
    have hw1 : IntKind.i64.wrap (cs[k] + n) = cs[k] + n := wrap64_of (by omega) (by omega)
    simp [hkc, hw1, cI, s98_3, s98_4, ]
    have e2 := re_oneSet (g := g) (T := T') (es := List.map cI cs) (i := k) (e' := [D.int IntKind.i64 (cs[k] + n)]) (fun e he => by
      rw [List.getElem?_map] at he
      simp [hkc] at he
      rw [← he]; rfl)
    have e3 : reV (one g (.sl (some g) (some T') ((List.map cI cs).set k [D.int IntKind.i64 (cs[k] + n)]))) (.d (.sl rid rT (l.map (cS cI)))) = .d (.sl rid rT (l.map (cS cI))) := reV_id (.d (dSl (cS cI) ⟨rid, rT, l⟩)) (fun g' hg' => by
      simp only [one]
      split
      · rename_i h; subst h; exact absurd hg' (hnd2 _ rfl)
      · rfl)
    simp [e2, e3, vendX]
    refine ⟨[21], fun γ hs' h1 h2 => ?_⟩
    simp
    refine ⟨⟨ar, ⟨rid, rT, l⟩, ⟨some g, some T', cs.set k (cs[k] + n)⟩⟩, by simp [List.map_set, cI], ?_, ⟨trivial, hc.2.1, ⟨by have := hc.2.2.1; simpa using this, fun _ _ => trivial⟩⟩, ?_⟩
    · simp only [plCnt, insR, insC, hb1, if_true, ← hkk, getD_el _ hkc, hpl]
      simp [plS, map_plI, plI]
    · intro B' hB' G hlt
      have e : idsL (cCnt ⟨ar, ⟨rid, rT, l⟩, ⟨some g, some T', cs.set k (cs[k] + n)⟩⟩) = idsL (cCnt ⟨ar, ⟨rid, rT, l⟩, ⟨some g, some T', cs⟩⟩) := by
        have hi : ∀ xs : List Int, (dSl cI ⟨some g, some T', xs⟩).ids = [g] := fun xs => by simp [dSl, D.ids]
        simp only [cCnt, idsL_app, idsL_cS, hi]
      have G : Good (cCnt ⟨ar, ⟨rid, rT, l⟩, ⟨some g, some T', cs⟩⟩) (whCnt ⟨ar, ⟨rid, rT, l⟩, ⟨some g, some T', cs⟩⟩) B' := G
      have : Good (cCnt ⟨ar, ⟨rid, rT, l⟩, ⟨some g, some T', cs.set k (cs[k] + n)⟩⟩) (whCnt ⟨ar, ⟨rid, rT, l⟩, ⟨some g, some T', cs.set k (cs[k] + n)⟩⟩) B' :=
        ⟨e ▸ G.nd, e ▸ G.lo, ⟨trivial, G.wh.2.1, ⟨hw.1.of (by simp), fun _ _ => trivial⟩⟩⟩
      exact this

end Go.Proofs.YtggbpdjjlgejmaaGreat


namespace Go.Proofs.YtggbpdjjlgejmaaGreat
open Go.Vs Go.Proofs Go
set_option maxRecDepth 100000
set_option maxHeartbeats 1000000

theorem t_impl_AddCounted (a b : Cnt) (ha : okCnt a) (hb : okCnt b) : VC Tryz.prog 64 [.agg ((cCnt a).map V.d), .agg ((cCnt b).map V.d)]
   (fun n r => ∃ y : Cnt, r = .tup [.agg ((cCnt y).map V.d), .d (.bool (addCB (plCnt a) (plCnt b)))] ∧ plCnt y = addCP (plCnt a) (plCnt b) ∧ okCnt y ∧ Good (cCnt y) (whCnt y) n) := by
  refine VC.ofB E s64 (by kernel_rfl) Tryz.func64 (by rfl) (by kernel_rfl) (by simp [Tryz.f64]) (by simp [Tryz.f64]) s64_ok fun B hB => ?_
  have hbB : ∀ g ∈ idsL (cCnt b), g < B := fun g hg => hB g (by simp only [idsVL, V.ids, idsVL_map_d, List.mem_append]; simp [hg])
  have hno : ∀ hB0 : addCB (plCnt a) (plCnt b) = false, ∃ y : Cnt, V.tup [.agg ((cCnt ⟨0, nilS, nilS⟩).map V.d), .d (.bool false)] = .tup [.agg ((cCnt y).map V.d), .d (.bool (addCB (plCnt a) (plCnt b)))] ∧ plCnt y = addCP (plCnt a) (plCnt b) ∧ okCnt y ∧ Good (cCnt y) (whCnt y) B := fun hB0 =>
    ⟨⟨0, nilS, nilS⟩, by rw [hB0], by simp only [addCP, hB0]; rfl, ⟨trivial, ok_nilS, ok_nilS⟩, good_Cnt0 B⟩
  simp only [cCnt, cS, cI, nilS, dSl] at hno
  simp at hno
  simp [Tryz.f64, cCnt, cS, cI, dSl]
  refine call_f (w_impl_IsValidCounted (plCnt a)) (by simp [eCnt, er_SI, er_I, plCnt, pS, plS, erLL_map er_cI, erLL_map (er_cS er_cI), map_plI]) rfl fun hs0 hh0 => ?_
  simp at hh0
  cases h1 : cntsOk (plCnt a)
  · have hB0 : addCB (plCnt a) (plCnt b) = false := by simp [addCB, h1]
    simp
    exact hno hB0
  simp [dSl]
  refine call_f (w_impl_IsValidCounted (plCnt b)) (by simp [eCnt, er_SI, er_I, plCnt, pS, plS, erLL_map er_cI, erLL_map (er_cS er_cI), map_plI]) rfl fun hs1 hh1 => ?_
  simp at hh1
  cases h2 : cntsOk (plCnt b)
  · have hB0 : addCB (plCnt a) (plCnt b) = false := by simp [addCB, h2]
    simp
    exact hno hB0
  by_cases h3 : a.ar = b.ar
  case neg =>
    have hB0 : addCB (plCnt a) (plCnt b) = false := by simp [addCB, plCnt, plI, h3]
    simp [h3]
    exact hno hB0
  simp [h3, dSl]
  have ea : (⟨b.ar, a.rows, a.cs⟩ : Cnt) = a := by rw [← h3]
  have hlen := rowsOk_len (cntsOk_rows h1)
  have hrow := rowsOk_row (cntsOk_rows h1)
  have hcl := cntsOk_len h1
  have hlenb := rowsOk_len (cntsOk_rows h2)
  have hrowb := rowsOk_row (cntsOk_rows h2)
  have hclb := cntsOk_len h2
  have hcsa := cntsOk_cs h1
  have hcsb := cntsOk_cs h2
  have hsrt := rowsOk_srt (cntsOk_rows h1)
  have hrl : (plCnt b).rows.length = b.rows.xs.length := by simp [plCnt, plS]
  have hcs : (plCnt b).cs = b.cs.xs := by simp [plCnt, plS, map_plI]
  have hclb2 : b.cs.xs.length = b.rows.xs.length := by rw [← hrl, ← hcs]; omega
  have hl1 : a.rows.xs.length ≤ 4000 := by simpa [plS] using hlen
  have hl3 : a.cs.xs.length ≤ 4000 := by have : a.rows.xs.length = a.cs.xs.length := by simpa [plS] using hcl
                                         omega
  have hl2 : ∀ r ∈ a.rows.xs, r.xs.length ≤ 4294967296 := fun r hr => by
    have := hrow (plS plI r) (List.mem_map_of_mem hr)
    simp [plS] at this; omega
  refine call_some (w_impl_copyCounted ⟨b.ar, a.rows, a.cs⟩ ⟨trivial, ha.2⟩ (by show a.rows.xs.length ≤ _; omega) hl2 (by show a.cs.xs.length ≤ _; omega)) (by simp [cCnt, cS, cI, dSl]) (by simp) fun n2 hs2 r2 hn2 hm2 hp2 hr2 => ?_
  obtain ⟨y0, rfl, p0, k0, G0⟩ := hp2
  rw [ea] at p0
  have u0 : ∀ g ∈ idsL (cCnt y0), g < hs2 := fun g hg => hr2 g (by rw [ids_agg]; exact hg)
  simp at hn2
  clear hr2
  simp [cCnt, cS, cI, dSl]
  refine loop_ruleL (X := Nat × Cnt) (TalI (plCnt a) (plCnt b) B) (fun p => [(3, .ptr 3 0 0), (4, .ptr 4 0 0), (6, .ptr 6 0 0), (29, .d (.sl b.rows.id b.rows.T (b.rows.xs.map (cS cI)))), (30, .d (.int .i64 b.rows.xs.length)), (31, .d (.int .i64 p.1))])
    (fun p => [(3, some (.box [.d (.int .i64 b.ar), .d (.sl b.rows.id b.rows.T (b.rows.xs.map (cS cI))), .d (.sl b.cs.id b.cs.T (b.cs.xs.map cI))])), (4, some (.box [.d (.int .i64 0), .d (.sl none none []), .d (.sl none none [])])),
      (6, some (.box [.d (.int .i64 p.2.ar), .d (.sl p.2.rows.id p.2.rows.T (p.2.rows.xs.map (cS cI))), .d (.sl p.2.cs.id p.2.cs.T (p.2.cs.xs.map cI))]))]) (fun p => b.rows.xs.length - p.1) ?_ ?_
  · refine Lead.of ⟨(0, y0), ⟨by simp, ?_, ?_, ?_, k0, G0.le (by omega), u0⟩, rfl, rfl, Nat.le_refl _, by simp, by simp⟩
    · exact congrArg PCnt.ar p0
    · simp only [List.take_zero, List.foldl_nil]; exact congrArg PCnt.rows p0
    · simp only [List.take_zero, talC]; exact congrArg PCnt.cs p0
  rintro ⟨i, y⟩ hs t m hI hh
  have hi := hI.le
  simp only [hrl] at hi
  obtain ⟨b1, b2, b3⟩ := hI.bd hsrt (by omega) (by omega) hlen hlenb hcsa hcsb
  simp only at b1 b2 b3
  by_cases hlt : i < b.rows.xs.length
  · have hltc : i < b.cs.xs.length := by omega
    have hwi := wr1 (i := i) (by omega)
    have hbr : ∀ g ∈ (dSl (cS cI) b.rows).ids, g < B := fun g hg => hbB g (by rw [cCnt, idsL_app, idsL_app, idsL_cS, idsL_cS]; simp [hg])
    have hbc : ∀ g ∈ (dSl cI b.cs).ids, g < B := fun g hg => hbB g (by rw [cCnt, idsL_app, idsL_app, idsL_cS, idsL_cS]; simp [hg])
    have hyc : ∀ g ∈ (dSl cI y.cs).ids, B ≤ g := fun g hg => hI.good.lo g (by rw [cCnt, idsL_app, idsL_app, idsL_cS, idsL_cS]; simp [hg])
    have hcb := hcsb b.cs.xs[i] (by rw [hcs]; exact List.getElem_mem hltc)
    have hT := t_impl_tally y b.rows.xs[i] b.cs.xs[i] hI.ok (hb.2.1.2 _ (List.getElem_mem hlt)) hI.good.wh.2.2 hI.good.nd (by omega) b2 (by
      have := hrowb (plS plI b.rows.xs[i]) (List.mem_map_of_mem (List.getElem_mem hlt))
      simp [plS] at this; omega) hcb b3
    obtain ⟨W, hW⟩ : ∃ W, W = (dSl cI y.cs).ids := ⟨_, rfl⟩
    rw [← hW] at hT hyc
    have eW : ∀ (ws : List D) g, g < B → phi W ws g = none := fun ws g hg => by
      simp only [phi]; rw [if_neg]; intro h; have := hyc g h; omega
    have e1 : ∀ ws, reV (phi W ws) (.d (.sl b.rows.id b.rows.T (b.rows.xs.map (cS cI)))) = .d (.sl b.rows.id b.rows.T (b.rows.xs.map (cS cI))) := fun ws => reV_id (.d (dSl (cS cI) b.rows)) fun g hg => eW ws g (hbr g hg)
    have e2 : ∀ ws, reV (phi W ws) (.d (.sl b.cs.id b.cs.T (b.cs.xs.map cI))) = .d (.sl b.cs.id b.cs.T (b.cs.xs.map cI)) := fun ws => reV_id (.d (dSl cI b.cs)) fun g hg => eW ws g (hbc g hg)
    refine anyQ2 fun Q => ?_
    simp [hlt, hltc, cS, cI, dSl]
    refine call_b (k := 6) (E98) (by simp [dSl]) (by simp [cCnt, cS, cI, dSl]) (by simp) (by simp [cCnt, cS, cI, dSl]) (by simp) (by simp [cCnt, cS, cI, dSl]) (fun g hg => .inl (hyc g hg)) hT fun n3 hs3 r3 cs3 ws3 hn3 hm3 hp3 hr3 hv3 hw3 => ?_
    obtain ⟨rfl, z, rfl, pz, kz, _, Gz⟩ := hp3
    simp at hn3
    have u3 : ∀ g ∈ idsL (cCnt z), g < hs3 := fun g hg => hv3 g (by rw [idsVL_map_d]; exact hg)
    simp [cCnt, cS, cI, dSl, hwi, e1, e2]
    refine back2 (i + 1, z) (hI.step (m := n3) (by omega) (by omega) (by rw [hcs]; omega) ?_ kz (by omega) (by omega) Gz u3) (by simp only; omega) rfl (by simp <;> omega) (by simp) (by simp [e1, e2])
    rw [pz]
    simp [plCnt, plS, map_plI]
  · obtain ⟨f1, f2⟩ := hI.fin (by omega) hsrt (by omega) (by omega)
    have har : y.ar = a.ar := hI.ar
    have Gr : Good (cS (cS cI) y.rows) (whS (whS whI) y.rows) B := by
      have h1 := hI.good.nd
      rw [cCnt, idsL_app, idsL_app] at h1
      exact ⟨(List.nodup_append.1 (List.nodup_append.1 h1).1).2.1, fun g hg => hI.good.lo g (by rw [cCnt, idsL_app, idsL_app]; simp [hg]), hI.good.wh.2.1⟩
    simp [hlt, cS, cI, dSl]
    refine call_some (t_impl_settled y hI.ok (by omega) b2) (by simp [cCnt, cS, cI, dSl]) (by simp) fun n4 hs4 r4 hn4 hm4 hp4 hr4 => ?_
    obtain ⟨z, rfl, pz, kz, Gz⟩ := hp4
    simp at hn4
    clear hr4
    have pz' : plCnt z = sumOf (plCnt a).ar ((plCnt a).rows ++ (plCnt b).rows) ((plCnt a).cs ++ (plCnt b).cs) := by
      rw [pz, f1, f2, sumOf, har]; rfl
    have hyl : (srtU ((plCnt a).rows ++ (plCnt b).rows)).length = y.rows.xs.length := by rw [← f1]; simp [plCnt, plS]
    have hadd : addCB (plCnt a) (plCnt b) = (decide (y.rows.xs.length ≤ 4000) && cntsOk (plCnt z)) := by
      have h3' : (plCnt a).ar = (plCnt b).ar := h3
      rw [pz', addCB, h1, h2, sumB, hyl, decide_eq_true h3']; simp only [Bool.true_and]
    by_cases h4 : (y.rows.xs.length : Int) ≤ 4000
    case neg =>
      have hB0 : addCB (plCnt a) (plCnt b) = false := by rw [hadd]; simp; intro h; omega
      have h4' : (4000 : Int) < y.rows.xs.length := by omega
      simp [cCnt, cS, cI, dSl, h4, h4']
      exact hno hB0
    have h4' : ¬ (4000 : Int) < y.rows.xs.length := by omega
    simp [cCnt, cS, cI, dSl, h4, h4']
    refine call_f (w_impl_IsValidCounted (plCnt z)) (by simp [eCnt, er_SI, er_I, plCnt, pS, plS, erLL_map er_cI, erLL_map (er_cS er_cI), map_plI]) rfl fun hs5 hh5 => ?_
    simp at hh5
    cases h5 : cntsOk (plCnt z)
    · have hB0 : addCB (plCnt a) (plCnt b) = false := by rw [hadd, h5, Bool.and_false]
      simp
      exact hno hB0
    have hB1 : addCB (plCnt a) (plCnt b) = true := by rw [hadd, h5, Bool.and_true]; simp; omega
    simp
    refine ⟨z, by simp [cCnt, cS, cI, dSl, hB1], by rw [pz', addCP, hB1]; rfl, kz, Gz B (by omega) Gr⟩

end Go.Proofs.YtggbpdjjlgejmaaGreat


namespace Go.Proofs.YtggbpdjjlgejmaaGreat
open Go.Vs Go.Proofs Go
set_option maxRecDepth 100000
set_option maxHeartbeats 1000000

theorem w_impl_columnsFit (ar : Int) (cols : List Int) : VC Tryz.prog 97 [.d (.int .i64 ar), .d (pS cI cols)] (fun _ v => v = .d (.bool (colsOk ar cols))) := by
  refine VC.ofL EP s97 (by kernel_rfl) Tryz.func97 (by rfl) (by kernel_rfl) (by simp [Tryz.f97]) (by simp [Tryz.f97]) s97_ok fun B hl => ?_
  by_cases h5 : cols.length ≤ 5
  case neg => simp [Tryz.f97, colsOk, h5, show (5 : Int) < cols.length by omega]
  simp [Tryz.f97, show ¬ (5 : Int) < cols.length by omega]
  refine loop_rule (X := Nat) (fun i => i ≤ cols.length ∧ AllTo (fun c => inR c 0 (IntKind.i64.wrap (ar - 1))) cols i) (fun i => [(0, .d (.int .i64 ar)), (10, .d (.pl (cols.map cI))), (11, .d (.int .i64 cols.length)), (12, .d (.int .i64 i))])
    (fun _ => []) (fun i => cols.length - i) 0 ⟨by simp, allTo_zero⟩ (by simp) (by simp) ?_
  intro i hs t m hi hh
  by_cases hlt : i < cols.length
  · have hwi := wr1 (i := i) (by omega)
    simp [hlt, cI, ]
    refine call_f (w_impl_within cols[i] 0 (IntKind.i64.wrap (ar - 1))) (by simp) rfl fun hs1 hh1 => ?_
    simp at hh1
    cases hv : inR cols[i] 0 (IntKind.i64.wrap (ar - 1))
    · have hbad := all_bad (p := fun c => inR c 0 (IntKind.i64.wrap (ar - 1))) hlt hv
      simp [colsOk, hbad]
    · simp [hwi]
      exact back (i + 1) ⟨by omega, allTo_step hi.2 hlt hv⟩ (by omega) rfl (by simp <;> omega) (by simp) (by simp)
  have hd := allTo_done hi.2 (by omega)
  simp [hlt, colsOk, hd, h5]
theorem t_impl_pick (row cols : Ints) (hb : cols.xs.length ≤ 4294967296) (hc : ∀ c ∈ cols.xs, 0 ≤ c ∧ c < row.xs.length) : VC Tryz.prog 99 [.d (dSl cI row), .d (dSl cI cols)]
   (fun n r => ∃ y : Ints, r = .d (dSl cI y) ∧ y.xs = pickR cols.xs row.xs ∧ okS okI y ∧ Good (cS cI y) (whS whI y) n) := by
  refine VC.of E s99 (by kernel_rfl) Tryz.func99 (by rfl) (by kernel_rfl) (by simp [Tryz.f99]) (by simp [Tryz.f99]) s99_ok fun B => ?_
  simp [Tryz.f99, dSl]
  refine loop_rule (X := Nat) (fun i => i ≤ cols.xs.length) (fun i => [(0, .d (.sl row.id row.T (row.xs.map cI))), (5, .own 8 0 i), (9, .d (.sl cols.id cols.T (cols.xs.map cI))), (10, .d (.int .i64 cols.xs.length)), (11, .d (.int .i64 i))])
    (fun i => [(8, some (.row 3 1 ((pickR (cols.xs.take i) row.xs).map cI)))]) (fun i => cols.xs.length - i) 0 (by simp) (by simp) (by simp [pickR]) ?_
  intro i hs t m hi hh
  by_cases hlt : i < cols.xs.length
  · have hwi := wr1 (i := i) (by omega)
    have h1 := hc _ (List.getElem_mem hlt)
    have hst := pickR_step hlt hc
    obtain ⟨k, hk⟩ : ∃ k : Nat, cols.xs[i] = (k : Int) := ⟨cols.xs[i].toNat, by omega⟩
    have hkl : k < row.xs.length := by omega
    have hL : LenOk 8 (i + 1) := ⟨by omega, by simp only [maxLen]; omega⟩
    have hpl : (pickR (cols.xs.take i) row.xs).length = i := by rw [pickR_len, List.length_take]; omega
    simp only [hk, Int.toNat_natCast] at hst
    simp [hlt, hk, hkl, hL, hwi, hpl, cI, ]
    exact back (i + 1) (by omega) (by omega) rfl (by simp <;> omega) (by simp) (by simp [hst, cI])
  · have hn : i = cols.xs.length := by omega
    subst hn
    simp [List.take_of_length_le, pickR_len]
    intro γ hs' h2 hg
    obtain ⟨q1, q2⟩ := gam_at hg (k := 8) (T := 3) (sz := 1) (es := (pickR cols.xs row.xs).map cI) (by simp)
    have r1 := gam_row hg (k := 8) (T := 3) (sz := 1) (es := (pickR cols.xs row.xs).map cI) (by simp)
    clear hg
    refine ⟨⟨γ 8, some (3, 1), pickR cols.xs row.xs⟩, by simp [List.take_of_length_le, pickR_len], rfl, ⟨by simp only [maxLen, pickR_len]; omega, fun _ _ => trivial⟩, good_row (fun g hg => (q1 g hg).1) (by simpa using q2) r1 ⟨by simp, by simp⟩ (by simp [whI])⟩

end Go.Proofs.YtggbpdjjlgejmaaGreat


namespace Go.Proofs.YtggbpdjjlgejmaaGreat
open Go.Vs Go.Proofs Go
set_option maxRecDepth 100000
set_option maxHeartbeats 1000000

theorem t_impl_ProjectCounted0 (a : Cnt) (c : Ints) (ha : okCnt a) (hc : okS okI c) : VC Tryz.prog 49 [.agg ((cCnt a).map V.d), .d (dSl cI c)]
   (fun n r => ∃ y : Cnt, r = .tup [.agg ((cCnt y).map V.d), .d (.bool (projB (plCnt a) c.xs))] ∧ plCnt y = projP (plCnt a) c.xs ∧ okCnt y ∧ Good (cCnt y) (whCnt y) n) := by
  refine VC.ofB E s49 (by kernel_rfl) Tryz.func49 (by rfl) (by kernel_rfl) (by simp [Tryz.f49]) (by simp [Tryz.f49]) s49_ok fun B hB => ?_
  have haB : ∀ g ∈ idsL (cCnt a), g < B := fun g hg => hB g (by simp only [idsVL, V.ids, idsVL_map_d, List.mem_append]; simp [hg])
  have hcB : ∀ g ∈ (dSl cI c).ids, g < B := fun g hg => hB g (by simp only [idsVL, V.ids, List.mem_append]; simp [hg])
  have hno : ∀ hB0 : projB (plCnt a) c.xs = false, ∃ y : Cnt, V.tup [.agg ((cCnt ⟨0, nilS, nilS⟩).map V.d), .d (.bool false)] = .tup [.agg ((cCnt y).map V.d), .d (.bool (projB (plCnt a) c.xs))] ∧ plCnt y = projP (plCnt a) c.xs ∧ okCnt y ∧ Good (cCnt y) (whCnt y) B := fun hB0 =>
    ⟨⟨0, nilS, nilS⟩, by rw [hB0], by simp only [projP, hB0]; rfl, ⟨trivial, ok_nilS, ok_nilS⟩, good_Cnt0 B⟩
  simp only [cCnt, cS, cI, nilS, dSl] at hno
  simp at hno
  simp [Tryz.f49, s49_7, cCnt, cS, cI, dSl]
  refine call_f (w_impl_IsValidCounted (plCnt a)) (by simp [eCnt, er_SI, er_I, plCnt, pS, plS, erLL_map er_cI, erLL_map (er_cS er_cI), map_plI]) rfl fun hs0 hh0 => ?_
  simp at hh0
  cases h1 : cntsOk (plCnt a)
  · have hB0 : projB (plCnt a) c.xs = false := by simp [projB, h1]
    simp
    exact hno hB0
  simp [dSl]
  refine call_f (w_impl_columnsFit a.ar c.xs) (by simp [erLL_map er_cI, pS]) rfl fun hs1 hh1 => ?_
  simp at hh1
  cases h2 : colsOk a.ar c.xs
  · have hB0 : projB (plCnt a) c.xs = false := by simp [projB, plCnt, plI, h2]
    simp
    exact hno hB0
  have hlen := rowsOk_len (cntsOk_rows h1)
  have hrow := rowsOk_row (cntsOk_rows h1)
  have hcl := cntsOk_len h1
  have hcsa := cntsOk_cs h1
  have har := rowsOk_inR (cntsOk_rows h1)
  have h2' := h2
  simp only [colsOk, Bool.and_eq_true, decide_eq_true_eq] at h2'
  obtain ⟨hc5, hd⟩ := h2'
  simp only [inR, Bool.and_eq_true, decide_eq_true_eq] at har
  have hrl : (plCnt a).rows.length = a.rows.xs.length := by simp [plCnt, plS]
  have hcs : (plCnt a).cs = a.cs.xs := by simp [plCnt, plS, map_plI]
  have hcl2 : a.cs.xs.length = a.rows.xs.length := by rw [← hrl, ← hcs]; omega
  have hfit : ∀ r ∈ a.rows.xs, ∀ x ∈ c.xs, 0 ≤ x ∧ x < r.xs.length := fun r hrm x hx => by
    have h2 := (rowsOk_mem (cntsOk_rows h1) (List.mem_map_of_mem (f := plS plI) hrm)).1
    have h3 := (List.all_eq_true.1 hd) x hx
    have har' : 0 ≤ a.ar ∧ a.ar ≤ 5 := har
    rw [wrap64_of (by omega) (by omega)] at h3
    simp only [inR, Bool.and_eq_true, decide_eq_true_eq] at h3
    simp only [plS, List.length_map, plCnt, plI] at h2
    omega
  obtain ⟨b, hb⟩ : ∃ b : PCnt, b = ⟨c.xs.length, (plCnt a).rows.map (pickR c.xs), (plCnt a).cs⟩ := ⟨_, rfl⟩
  have hbl : b.rows.length = a.rows.xs.length := by rw [hb]; simp [plCnt, plS]
  have hbc : b.cs = a.cs.xs := by rw [hb]; exact hcs
  have hba : ∀ i (h : i < a.rows.xs.length), b.rows[i]'(by omega) = pickR c.xs a.rows.xs[i].xs := fun i h => by
    subst hb
    simp [plCnt, plS, map_plI]
  simp [s49_7, dSl]
  refine loop_ruleL (X := Nat × Cnt) (TalI ⟨c.xs.length, [], []⟩ b B) (fun p => [(1, .d (.sl c.id c.T (c.xs.map cI))), (2, .ptr 2 0 0), (4, .ptr 4 0 0), (6, .ptr 6 0 0), (25, .d (.sl a.rows.id a.rows.T (a.rows.xs.map (cS cI)))), (26, .d (.int .i64 a.rows.xs.length)), (27, .d (.int .i64 p.1))])
    (fun p => [(2, some (.box [.d (.int .i64 a.ar), .d (.sl a.rows.id a.rows.T (a.rows.xs.map (cS cI))), .d (.sl a.cs.id a.cs.T (a.cs.xs.map cI))])), (4, some (.box [.d (.int .i64 0), .d (.sl none none []), .d (.sl none none [])])),
      (6, some (.box [.d (.int .i64 p.2.ar), .d (.sl p.2.rows.id p.2.rows.T (p.2.rows.xs.map (cS cI))), .d (.sl p.2.cs.id p.2.cs.T (p.2.cs.xs.map cI))]))]) (fun p => a.rows.xs.length - p.1) ?_ ?_
  · refine Lead.of ⟨(0, ⟨c.xs.length, nilS, nilS⟩), ⟨by simp, rfl, rfl, rfl, ⟨trivial, ok_nilS, ok_nilS⟩, ⟨by simp [cCnt, nilS, cS, cI, dSl, idsL, idsLL, D.ids], by simp [cCnt, nilS, cS, cI, dSl, idsL, idsLL, D.ids], (good_Cnt0 B).wh⟩, by simp [cCnt, nilS, cS, cI, dSl, idsL, idsLL, D.ids]⟩, rfl, rfl, Nat.le_refl _, by simp [dSl], by simp [nilS, dSl]⟩
  rintro ⟨i, y⟩ hs t m hI hh
  have hi := hI.le
  simp only [hbl] at hi
  obtain ⟨b1, b2, b3⟩ := hI.bd .nil rfl (by rw [hbc, hbl]; omega) (by simp) (by rw [hbl]; omega) (by simp) (by rw [hbc]; exact hcs ▸ hcsa)
  simp only at b1 b2 b3
  by_cases hlt : i < a.rows.xs.length
  · have hltc : i < a.cs.xs.length := by omega
    have hwi := wr1 (i := i) (by omega)
    have hbr : ∀ g ∈ (dSl (cS cI) a.rows).ids, g < B := fun g hg => haB g (by rw [cCnt, idsL_app, idsL_app, idsL_cS, idsL_cS]; simp [hg])
    have hbk : ∀ g ∈ (dSl cI a.cs).ids, g < B := fun g hg => haB g (by rw [cCnt, idsL_app, idsL_app, idsL_cS, idsL_cS]; simp [hg])
    have hyc : ∀ g ∈ (dSl cI y.cs).ids, B ≤ g := fun g hg => hI.good.lo g (by rw [cCnt, idsL_app, idsL_app, idsL_cS, idsL_cS]; simp [hg])
    have hcb := hcsa a.cs.xs[i] (by rw [hcs]; exact List.getElem_mem hltc)
    obtain ⟨W, hW⟩ : ∃ W, W = (dSl cI y.cs).ids := ⟨_, rfl⟩
    rw [← hW] at hyc
    have eW : ∀ (ws : List D) g, g < B → phi W ws g = none := fun ws g hg => by
      simp only [phi]; rw [if_neg]; intro h; have := hyc g h; omega
    have e1 : ∀ ws, reV (phi W ws) (.d (.sl a.rows.id a.rows.T (a.rows.xs.map (cS cI)))) = .d (.sl a.rows.id a.rows.T (a.rows.xs.map (cS cI))) := fun ws => reV_id (.d (dSl (cS cI) a.rows)) fun g hg => eW ws g (hbr g hg)
    have e2 : ∀ ws, reV (phi W ws) (.d (.sl a.cs.id a.cs.T (a.cs.xs.map cI))) = .d (.sl a.cs.id a.cs.T (a.cs.xs.map cI)) := fun ws => reV_id (.d (dSl cI a.cs)) fun g hg => eW ws g (hbk g hg)
    have e3 : ∀ ws, reV (phi W ws) (.d (.sl c.id c.T (c.xs.map cI))) = .d (.sl c.id c.T (c.xs.map cI)) := fun ws => reV_id (.d (dSl cI c)) fun g hg => eW ws g (hcB g hg)
    refine anyQ2 fun Q => ?_
    simp [hlt, hltc, cS, cI, dSl, s49_7, ]
    refine call_some (t_impl_pick a.rows.xs[i] c (by omega) (hfit _ (List.getElem_mem hlt))) (by simp [dSl]) (by simp) fun n2 hs2 r2 hn2 hm2 hp2 hr2 => ?_
    obtain ⟨w, rfl, pw, kw, Gw⟩ := hp2
    simp at hn2
    have hT := t_impl_tally y w a.cs.xs[i] hI.ok kw hI.good.wh.2.2 hI.good.nd (by omega) b2 (by
      rw [pw, pickR_len]; omega) hcb b3
    rw [← hW] at hT
    simp [hlt, hltc, cS, cI, dSl, s49_7, ]
    refine call_b (k := 6) (E98) (by simp [dSl]) (by simp [cCnt, cS, cI, dSl]) (by simp) (by simp [cCnt, cS, cI, dSl]) (by simp) (by simp [cCnt, cS, cI, dSl]) (fun g hg => .inl (hyc g hg)) hT fun n3 hs3 r3 cs3 ws3 hn3 hm3 hp3 hr3 hv3 hw3 => ?_
    obtain ⟨rfl, z, rfl, pz, kz, _, Gz⟩ := hp3
    simp at hn3
    have u3 : ∀ g ∈ idsL (cCnt z), g < hs3 := fun g hg => hv3 g (by rw [idsVL_map_d]; exact hg)
    simp [cCnt, cS, cI, dSl, hwi, e1, e2, e3, s49_7, ]
    refine back2 (i + 1, z) (hI.step (m := n3) (by rw [hbc, hbl]; omega) (by omega) (by rw [hbc]; omega) ?_ kz (by omega) (by omega) Gz u3) (by simp only; omega) rfl (by simp <;> omega) (by simp [e1, e3]) (by simp [e1, e2])
    rw [pz, hba i hlt, pw]
    simp [hbc]
  · obtain ⟨f1, f2⟩ := hI.fin (by omega) .nil rfl (by rw [hbc, hbl]; omega)
    have har : y.ar = (c.xs.length : Int) := hI.ar
    have Gr : Good (cS (cS cI) y.rows) (whS (whS whI) y.rows) B := by
      have h1 := hI.good.nd
      rw [cCnt, idsL_app, idsL_app] at h1
      exact ⟨(List.nodup_append.1 (List.nodup_append.1 h1).1).2.1, fun g hg => hI.good.lo g (by rw [cCnt, idsL_app, idsL_app]; simp [hg]), hI.good.wh.2.1⟩
    simp [hlt, cS, cI, dSl, s49_7, ]
    refine call_some (t_impl_settled y hI.ok (by omega) b2) (by simp [cCnt, cS, cI, dSl]) (by simp) fun n4 hs4 r4 hn4 hm4 hp4 hr4 => ?_
    obtain ⟨z, rfl, pz, kz, Gz⟩ := hp4
    simp at hn4
    clear hr4
    have pz' : plCnt z = sumOf c.xs.length b.rows b.cs := by
      rw [pz, f1, f2, sumOf, har]; rfl
    have hsl : (srtU b.rows).length ≤ 4000 := by have := srtU_len b.rows; omega
    have hprj : projB (plCnt a) c.xs = cntsOk (plCnt z) := by
      have h2' : colsOk (plCnt a).ar c.xs = true := h2
      rw [pz', projB, h1, h2', sumB]
      rw [hb] at hsl ⊢
      simp only [Bool.true_and, hsl, decide_true]
    simp [cCnt, cS, cI, dSl, s49_7, ]
    refine call_f (w_impl_IsValidCounted (plCnt z)) (by simp [eCnt, er_SI, er_I, plCnt, pS, plS, erLL_map er_cI, erLL_map (er_cS er_cI), map_plI]) rfl fun hs5 hh5 => ?_
    simp at hh5
    cases h5 : cntsOk (plCnt z)
    · have hB0 : projB (plCnt a) c.xs = false := by rw [hprj, h5]
      simp
      exact hno hB0
    have hB1 : projB (plCnt a) c.xs = true := by rw [hprj, h5]
    simp
    refine ⟨z, by simp [cCnt, cS, cI, dSl, hB1], by rw [pz', projP, hB1, hb]; rfl, kz, Gz B (by omega) Gr⟩
theorem t_impl_ProjectCounted (a : Cnt) (c : Ints) (ha : okCnt a) (hc : okS okI c) : VC Tryz.prog 49 [.agg ((cCnt a).map V.d), .d (dSl cI c)]
   (fun n r => ∃ y : Cnt, r = .tup [.agg ((cCnt y).map V.d), .d (.bool (projB (plCnt a) (plS plI c)))] ∧ plCnt y = projP (plCnt a) (plS plI c) ∧ okCnt y ∧ Good (cCnt y) (whCnt y) n) := by
  have e : plS plI c = c.xs := by simp [plS, map_plI]
  rw [e]; exact t_impl_ProjectCounted0 a c ha hc

end Go.Proofs.YtggbpdjjlgejmaaGreat


namespace Go.Proofs.YtggbpdjjlgejmaaGreat
open Go.Vs Go.Proofs Go
set_option maxRecDepth 100000
set_option maxHeartbeats 1000000

theorem w_spec_l27Sum (ar : Int) (l : List (List Int)) (cs : List Int) (hr : inR ar 0 5 = true) (hm : ∀ x ∈ l, (x.length : Int) = ar ∧ valsOk x = true) (hlc : cs.length = l.length) (hb : l.length ≤ 100000) (hc : ∀ c ∈ cs, -1000000 ≤ c ∧ c ≤ 1000000) :
   VC Tryz.prog 112 [.d (.int .i64 ar), .d (pS (cP cI) l), .d (pS cI cs)] (fun _ v => v = .tup [.agg ((eCnt (sumP ar l cs)).map .d), .d (.bool (sumB ar l cs))]) := by
  have hx5 : ∀ x ∈ l, x.length ≤ 5 := fun x hx => by
    have h1 := (hm x hx).1
    simp only [inR, Bool.and_eq_true, decide_eq_true_eq] at hr
    omega
  have hnB := newB_of hr hm
  have hRs := srtU_srt l
  have hRl := srtU_len l
  refine VC.ofL EP s112 (by kernel_rfl) Tryz.func112 (by rfl) (by kernel_rfl) (by simp [Tryz.f112]) (by simp [Tryz.f112]) s112_ok fun B hl => ?_
  simp [Tryz.f112, s112_8, s112_9, s112_15, s112_16, s112_8, s112_9, s112_15, s112_16, ]
  refine call_p (w_spec_NewRelation ar l (by omega) (fun x hx => by have := hx5 x hx; omega)) (by simp) fun hs1 hh1 _ => ?_
  simp at hh1
  by_cases h4 : (srtU l).length ≤ 4000
  case neg => simp [newR, hnB, h4, sumP, sumB, eReln, eCnt]
  have hmR : ∀ x, x ∈ l → x ∈ srtU l := fun x hx => (srtU_mem l x).2 hx
  have hRe : newR ar l = ⟨ar, srtU l⟩ := by simp [newR, hnB, h4]
  have hsum : sumsOf l cs = (srtU l).map (lkC l cs) := rfl
  simp [hRe, hnB, h4, eReln]
  obtain ⟨R, hRR⟩ : ∃ R, R = srtU l := ⟨_, rfl⟩
  simp only [← hRR] at hRs hRl h4 hmR hsum ⊢
  have hL0 : LenOk 8 R.length := ⟨by omega, by simp only [maxLen]; omega⟩
  simp [hL0]
  refine loop_rule (X := Nat) (fun i => i ≤ l.length) (fun i => [(0, .d (.int .i64 ar)), (1, .d (.pl (l.map (cP cI)))), (2, .d (.pl (cs.map cI))), (6, .ptr 6 0 0), (8, .ptr 8 0 0), (10, .own 28 0 R.length), (11, .d (.int .i64 i))])
    (fun i => [(6, some (.box [.d (.int .i64 0), .d (.sl none none []), .d (.sl none none [])])), (8, some (.box [.d (.int .i64 ar), .d (.pl (R.map (cP cI)))])), (28, some (.row 3 1 ((sumsTo R l cs i).map cI)))]) (fun i => l.length - i) 0 (by simp) (by simp) (by simp [sumsTo_zero]) ?_
  · intro i hs t m hi hh
    by_cases hlt : i < l.length
    · have hwi := wr1 (i := i) (by omega)
      have hic : i < cs.length := by omega
      obtain ⟨hk, hkx⟩ := placeB_at ((placeB_iff hRs).2 (hmR _ (List.getElem_mem hlt)))
      simp [hlt, cP, s112_8, s112_9, s112_15, s112_16, ]
      refine call_f (w_spec_l5Place ⟨ar, R⟩ l[i] (by simp; omega)) (by simp [eReln]) rfl fun hs1 hh1 => ?_
      simp at hh1
      obtain ⟨k, hkk⟩ : ∃ k, k = placeK R l[i] := ⟨_, rfl⟩
      simp only [← hkk] at hk ⊢
      have hst := sumsTo_step (cs := cs) hRs hlt hic (hmR _ (List.getElem_mem hlt)) hkk hk
      have hbd := sumsTo_bd (l := l) (cs := cs) (i := i) hk hi hc
      have hbc := hc cs[i] (List.getElem_mem hic)
      have hw : IntKind.i64.wrap ((sumsTo R l cs i)[k]'(by simpa using hk) + cs[i]) = (sumsTo R l cs i)[k]'(by simpa using hk) + cs[i] := wrap64_of (by omega) (by omega)
      simp [hk, hic, hw, hwi, s112_8, s112_9, s112_15, s112_16, ]
      exact back (i + 1) (by omega) (by omega) rfl (by simp <;> omega) (by simp) (by simp [← hst, List.map_set, cI])
    · have hn : i = l.length := by omega
      subst hn
      have hall : sumsTo R l cs l.length = sumsOf l cs := hRR ▸ sumsTo_all hlc
      obtain ⟨S, hS⟩ : ∃ S, S = sumsOf l cs := ⟨_, rfl⟩
      have hSl : S.length = R.length := by rw [hS, ← hall, sumsTo_length]
      rw [hall, ← hS]
      simp [s112_8, s112_9, s112_15, s112_16, ]
      refine loop_ruleL (X := Nat) (fun i _ => i ≤ R.length) (fun i => [(6, .ptr 6 0 0), (8, .ptr 8 0 0), (10, .own 28 0 R.length), (14, .ptr 14 0 0), (15, .d (.int .i64 i))])
        (fun i => [(6, some (.box [.d (.int .i64 0), .d (.sl none none []), .d (.sl none none [])])), (8, some (.box [.d (.int .i64 ar), .d (.pl (R.map (cP cI)))])), (14, some (.box [.d (.int .i64 ar), .own 78 0 (sttl (R.take i) (S.take i)).length, .own 87 0 (sttl (R.take i) (S.take i)).length])),
          (28, some (.row 3 1 (S.map cI))), (78, some (.row 26 1 (((sttl (R.take i) (S.take i)).map Prod.fst).map (cP cI)))), (87, some (.row 3 1 (((sttl (R.take i) (S.take i)).map Prod.snd).map cI)))]) (fun i => R.length - i) ?_ ?_
      · refine (lead_box 14 1 78 26 1 [.d (.int .i64 ar), .d (.sl none none []), .d (.sl none none [])] (by omega) (by omega) (by omega) (by simp) rfl).bind ?_
        rintro _ rfl
        refine (lead_box 14 2 87 3 1 [.d (.int .i64 ar), .own 78 0 0, .d (.sl none none [])] (by omega) (by omega) (by omega) (by simp) rfl).bind ?_
        rintro _ rfl
        exact Lead.of ⟨0, by simp, rfl, rfl, Nat.le_refl _, by simp, by simp [sttl]⟩
      · intro i hs2 t2 m2 hi2 hh2
        by_cases hlt2 : i < R.length
        · have hwi := wr1 (i := i) (by omega)
          have hiS : i < S.length := by omega
          have hss := settle_step (rs := R) (cs := S) hlt2 hiS
          have hsl : (sttl (R.take i) (S.take i)).length ≤ i := settle_len hi2
          refine anyQ2 fun Q => ?_
          by_cases h0 : S[i] = 0
          · rw [if_pos h0, List.append_nil] at hss
            simp [hlt2, hiS, h0, hwi, show R.length ≤ S.length by omega, s112_8, s112_9, s112_15, s112_16, ]
            exact back2 (i + 1) (by omega) (by omega) rfl (by simp <;> omega) (by simp [hss]) (by simp [hss])
          · rw [if_neg h0] at hss
            have hLa : LenOk 24 ((sttl (R.take i) (S.take i)).length + 1) := ⟨by omega, by simp only [maxLen]; omega⟩
            have hLb : LenOk 8 ((sttl (R.take i) (S.take i)).length + 1) := ⟨by omega, by simp only [maxLen]; omega⟩
            simp [hlt2, hiS, h0, hwi, hLa, hLb, show R.length ≤ S.length by omega, s112_8, s112_9, s112_15, s112_16, ]
            exact back2 (i + 1) (by omega) (by omega) rfl (by simp <;> omega) (by simp [hss]) (by simp [hss])
        · have hn : i = R.length := by omega
          subst hn
          simp [List.take_of_length_le, hSl, s112_8, s112_9, s112_15, s112_16, ]
          have hsl : (sttl R S).length ≤ R.length := by
            have := settle_len (rs := R) (cs := S) (Nat.le_refl R.length)
            rw [List.take_length, List.take_of_length_le (l := S) (by omega)] at this
            exact this
          have hso : sumOf ar l cs = ⟨ar, (sttl R S).map Prod.fst, (sttl R S).map Prod.snd⟩ := by simp only [sumOf, ← hRR, ← hS]
          refine call_f (w_spec_IsValidCounted (sumOf ar l cs)) (by simp [eCnt, hso, List.take_of_length_le]) rfl fun hs3 hh3 => ?_
          simp at hh3
          cases hv : cntsOk (sumOf ar l cs)
          · simp [sumP, sumB, hv, eCnt]
          · have hB : sumB ar l cs = true := by simp [sumB, hv, ← hRR, h4]
            simp [sumP, hB, hso, eCnt, List.take_of_length_le]

end Go.Proofs.YtggbpdjjlgejmaaGreat


namespace Go.Proofs.YtggbpdjjlgejmaaGreat
open Go.Vs Go.Proofs Go
set_option maxRecDepth 100000
set_option maxHeartbeats 1000000

theorem w_spec_AddCounted (a b : PCnt) : VC Tryz.prog 60 [.agg ((eCnt a).map .d), .agg ((eCnt b).map .d)] (fun _ v => v = .tup [.agg ((eCnt (addCP a b)).map .d), .d (.bool (addCB a b))]) := by
  refine VC.ofL EP s60 (by kernel_rfl) Tryz.func60 (by rfl) (by kernel_rfl) (by simp [Tryz.f60]) (by simp [Tryz.f60]) s60_ok fun B hl => ?_
  simp [Tryz.f60, s60_3, eCnt, s60_3, ]
  refine call_f (w_spec_IsValidCounted a) (by simp [eCnt]) rfl fun hs1 hh1 => ?_
  simp at hh1
  cases h1 : cntsOk a
  · simp [addCP, addCB, h1, eCnt]
  simp
  refine call_f (w_spec_IsValidCounted b) (by simp [eCnt]) rfl fun hs2 hh2 => ?_
  simp at hh2
  cases h2 : cntsOk b
  · simp [addCP, addCB, h1, h2, eCnt]
  by_cases har : a.ar = b.ar
  case neg => simp [addCP, addCB, h1, h2, har, eCnt]
  have ra := cntsOk_rows h1
  have rb := cntsOk_rows h2
  have la := rowsOk_len ra
  have lb := rowsOk_len rb
  have ca := cntsOk_len h1
  have cb := cntsOk_len h2
  have e1 : LenOk 24 a.rows.length := ⟨by omega, by simp only [maxLen]; omega⟩
  have e2 : LenOk 24 (a.rows.length + b.rows.length) := ⟨by omega, by simp only [maxLen]; omega⟩
  have e3 : LenOk 8 a.cs.length := ⟨by omega, by simp only [maxLen]; omega⟩
  have e4 : LenOk 8 (a.cs.length + b.cs.length) := ⟨by omega, by simp only [maxLen]; omega⟩
  have hC := w_spec_l27Sum a.ar (a.rows ++ b.rows) (a.cs ++ b.cs) (rowsOk_inR ra) (fun x hx => by
    rcases List.mem_append.1 hx with hx | hx
    · exact rowsOk_mem ra hx
    · rw [har]; exact rowsOk_mem rb hx) (by simp; omega) (by simp; omega) (fun c hc => by
    rcases List.mem_append.1 hc with hc | hc
    · exact cntsOk_cs h1 c hc
    · exact cntsOk_cs h2 c hc)
  simp [har, e1, e2, e3, e4, cP, s60_3, ]
  rw [har] at hC
  repeat' apply And.intro
  all_goals
    refine call_p hC (by simp [List.take_of_length_le]) fun hs3 hh3 _ => ?_
    simp at hh3
    cases hB : sumB b.ar (a.rows ++ b.rows) (a.cs ++ b.cs)
    · simp [addCP, addCB, h1, h2, har, hB, sumP, eCnt]
    · simp [addCP, addCB, h1, h2, har, hB, sumP, eCnt]

end Go.Proofs.YtggbpdjjlgejmaaGreat


namespace Go.Proofs.YtggbpdjjlgejmaaGreat
open Go.Vs Go.Proofs Go
set_option maxRecDepth 100000
set_option maxHeartbeats 1000000

theorem w_spec_l5Cols (row cols : List Int) (hb : cols.length ≤ 4294967296) (hc : ∀ c ∈ cols, 0 ≤ c ∧ c < row.length) : VC Tryz.prog 131 [.d (pS cI row), .d (pS cI cols)] (fun _ v => v = .d (pS cI (pickR cols row))) := by
  refine VC.ofL EP s131 (by kernel_rfl) Tryz.func131 (by rfl) (by kernel_rfl) (by simp [Tryz.f131]) (by simp [Tryz.f131]) s131_ok fun B hl => ?_
  simp [Tryz.f131, ]
  refine loop_rule (X := Nat) (fun i => i ≤ cols.length) (fun i => [(0, .d (.pl (row.map cI))), (1, .d (.pl (cols.map cI))), (5, .own 7 0 i), (6, .d (.int .i64 i))])
    (fun i => [(7, some (.row 3 1 ((pickR (cols.take i) row).map cI)))]) (fun i => cols.length - i) 0 (by simp) (by simp) (by simp [pickR]) ?_
  intro i hs t m hi hh
  by_cases hlt : i < cols.length
  · have hwi := wr1 (i := i) (by omega)
    have h1 := hc _ (List.getElem_mem hlt)
    have hst := pickR_step hlt hc
    obtain ⟨k, hk⟩ : ∃ k : Nat, cols[i] = (k : Int) := ⟨cols[i].toNat, by omega⟩
    have hkl : k < row.length := by omega
    have hL : LenOk 8 (i + 1) := ⟨by omega, by simp only [maxLen]; omega⟩
    have hpl : (pickR (cols.take i) row).length = i := by rw [pickR_len, List.length_take]; omega
    simp only [hk, Int.toNat_natCast] at hst
    simp [hlt, hk, hkl, hL, hwi, hpl, cI, ]
    exact back (i + 1) (by omega) (by omega) rfl (by simp <;> omega) (by simp) (by simp [hst, cI])
  · have hn : i = cols.length := by omega
    subst hn
    simp [List.take_of_length_le, pickR_len]
theorem w_spec_ProjectCounted (z : PCnt) (cols : List Int) (hb : cols.length ≤ 4294967296) : VC Tryz.prog 86 [.agg ((eCnt z).map .d), .d (pS cI cols)] (fun _ v => v = .tup [.agg ((eCnt (projP z cols)).map .d), .d (.bool (projB z cols))]) := by
  refine VC.ofL EP s86 (by kernel_rfl) Tryz.func86 (by rfl) (by kernel_rfl) (by simp [Tryz.f86]) (by simp [Tryz.f86]) s86_ok fun B hl => ?_
  simp [Tryz.f86, s86_4, eCnt, s86_4, ]
  refine loop_rule (X := Nat) (fun i => i ≤ cols.length ∧ AllTo (fun c => inR c 0 (IntKind.i64.wrap (z.ar - 1))) cols i) (fun i => [(1, .d (.pl (cols.map cI))), (2, .ptr 2 0 0), (4, .ptr 4 0 0), (6, .d (.int .i64 i))])
    (fun i => [(2, some (.box [.d (.int .i64 z.ar), .d (.pl (z.rows.map (cP cI))), .d (.pl (z.cs.map cI))])), (4, some (.box [.d (.int .i64 0), .d (.sl none none []), .d (.sl none none [])]))]) (fun i => cols.length - i) 0 ⟨by simp, allTo_zero⟩ (by simp) (by simp) ?_
  intro i hs t m hi hh
  by_cases hlt : i < cols.length
  · have hwi := wr1 (i := i) (by omega)
    simp [hlt, cI, s86_4, ]
    refine call_f (w_spec_l1In cols[i] 0 (IntKind.i64.wrap (z.ar - 1))) (by simp) rfl fun hs1 hh1 => ?_
    simp at hh1
    cases hv : inR cols[i] 0 (IntKind.i64.wrap (z.ar - 1))
    · have hbad := all_bad (p := fun c => inR c 0 (IntKind.i64.wrap (z.ar - 1))) hlt hv
      simp [projP, projB, colsOk, hbad, eCnt]
    · simp [hwi]
      exact back (i + 1) ⟨by omega, allTo_step hi.2 hlt hv⟩ (by omega) rfl (by simp <;> omega) (by simp) (by simp)
  have hd := allTo_done hi.2 (by omega)
  simp [hlt, s86_4, ]
  refine call_f (w_spec_IsValidCounted z) (by simp [eCnt]) rfl fun hs1 hh1 => ?_
  simp at hh1
  cases h1 : cntsOk z
  · simp [projP, projB, h1, eCnt]
  by_cases h5 : cols.length ≤ 5
  case neg => simp [projP, projB, colsOk, h5, show (5 : Int) < cols.length by omega, eCnt]
  have hr := cntsOk_rows h1
  have hrl := rowsOk_len hr
  have hcl := cntsOk_len h1
  have hco : colsOk z.ar cols = true := by simp only [colsOk, hd, h5]; rfl
  have har := rowsOk_inR hr
  simp only [inR, Bool.and_eq_true, decide_eq_true_eq] at har
  have hcs : ∀ r ∈ z.rows, ∀ c ∈ cols, 0 ≤ c ∧ c < r.length := fun r hrm c hc => by
    have h2 := (rowsOk_mem hr hrm).1
    have h3 := (List.all_eq_true.1 hd) c hc
    rw [wrap64_of (by omega) (by omega)] at h3
    simp only [inR, Bool.and_eq_true, decide_eq_true_eq] at h3
    omega
  simp [show ¬ (5 : Int) < cols.length by omega, s86_4, ]
  refine loop_rule (X := Nat) (fun i => i ≤ z.rows.length) (fun i => [(1, .d (.pl (cols.map cI))), (2, .ptr 2 0 0), (4, .ptr 4 0 0), (7, .own 36 0 i), (8, .d (.int .i64 i))])
    (fun i => [(2, some (.box [.d (.int .i64 z.ar), .d (.pl (z.rows.map (cP cI))), .d (.pl (z.cs.map cI))])), (4, some (.box [.d (.int .i64 0), .d (.sl none none []), .d (.sl none none [])])), (36, some (.row 26 1 (((z.rows.take i).map (pickR cols)).map (cP cI))))]) (fun i => z.rows.length - i) 0 (by simp) (by simp) (by simp) ?_
  intro k hs2 t2 m2 hk hh2
  by_cases hlt2 : k < z.rows.length
  · have hwi := wr1 (i := k) (by omega)
    have hL : LenOk 24 (k + 1) := ⟨by omega, by simp only [maxLen]; omega⟩
    refine anyQ fun Q => ?_
    simp [hlt2, cP, s86_4, ]
    refine call_p (w_spec_l5Cols z.rows[k] cols hb (hcs _ (List.getElem_mem hlt2))) (by simp) fun hs3 hh3 _ => ?_
    simp at hh3
    simp [hL, hwi, show min k z.rows.length = k by omega, s86_4, ]
    refine back (k + 1) (by omega) (by omega) rfl (by simp <;> omega) (by simp) ?_
    rw [List.take_succ_eq_append_getElem (by simpa using hlt2)]; simp [cP]
  · have hn : k = z.rows.length := by omega
    subst hn
    simp [s86_4, ]
    have hC := w_spec_l27Sum cols.length (z.rows.map (pickR cols)) z.cs (by simp [inR]; omega) (fun x hx => by
      obtain ⟨r, hrm, rfl⟩ := List.mem_map.1 hx
      exact ⟨by rw [pickR_len], pickR_ok (rowsOk_mem hr hrm).2 (hcs r hrm)⟩) (by simp; omega) (by simp; omega) (cntsOk_cs h1)
    refine call_p hC (by simp [List.take_of_length_le]) fun hs3 hh3 _ => ?_
    simp at hh3
    cases hB : sumB cols.length (z.rows.map (pickR cols)) z.cs
    · simp [projP, projB, h1, hco, hB, sumP, eCnt]
    · simp [projP, projB, h1, hco, hB, sumP, eCnt]

end Go.Proofs.YtggbpdjjlgejmaaGreat


namespace Go.Proofs.YtggbpdjjlgejmaaGreat
open Go.Vs Go.Proofs Go
set_option maxRecDepth 100000
set_option maxHeartbeats 1000000

section
attribute [local simp] plI_id plStr_id map_plI map_plStr pS cP cI cStr cU8 cB eReln eTab eDb eHist
theorem w_impl_sameInts (a b : List (Int)) : VC Tryz.prog 150 [.d (pS cI a), .d (pS cI b)] (fun _ r => r = .d (.bool (decide (a = b)))) := by
  refine VC.ofL EP s150 (by kernel_rfl) Tryz.func150 (by rfl) (by kernel_rfl) (by simp [Tryz.f150]) (by simp [Tryz.f150]) s150_ok fun B hl => ?_
  simp [pS, maxLen] at hl
  by_cases hle : a.length = b.length
  case neg => simp [Tryz.f150, s150_6, hle, eqt_len hle]
  simp [Tryz.f150, s150_6, hle]
  refine loop_rule (X := Nat) (EqTo a b) (fun i => [(0, .d (.pl (a.map (cI)))), (1, .d (.pl (b.map (cI)))), (12, .d (.int .i64 b.length)), (13, .d (.int .i64 i))]) (fun _ => []) (fun i => a.length - i) 0 .zero (by simp [hle]) (by simp) ?_
  intro i hs t m hi hh
  have hia := hi.le
  by_cases hlt : i < a.length
  · have hlb : i < b.length := by omega
    have hwi := wr1 (i := i) (by omega)
    simp [hlt, hlb, s150_6, ]
    by_cases he : a[i] = b[i]
    case neg => simp [he, eqt_bad hlt hlb he]
    simp [he, hwi]
    exact back (i + 1) ⟨by omega, eqt_step hi.eq hlt hlb he⟩ (by omega) rfl (by simp <;> omega) (by simp) (by simp)
  · have hd := eqt_done hi.eq (by omega) hle
    simp [show ¬ i < b.length by omega, hd]
theorem w_impl_sameRows (a b : List (List Int)) : VC Tryz.prog 149 [.d (pS (cP cI) a), .d (pS (cP cI) b)] (fun _ r => r = .d (.bool (decide (a = b)))) := by
  refine VC.ofL EP s149 (by kernel_rfl) Tryz.func149 (by rfl) (by kernel_rfl) (by simp [Tryz.f149]) (by simp [Tryz.f149]) s149_ok fun B hl => ?_
  simp [pS, maxLen] at hl
  by_cases hle : a.length = b.length
  case neg => simp [Tryz.f149, s149_6, hle, eqt_len hle]
  simp [Tryz.f149, s149_6, hle]
  refine loop_rule (X := Nat) (EqTo a b) (fun i => [(0, .d (.pl (a.map ((cP cI))))), (1, .d (.pl (b.map ((cP cI))))), (12, .d (.int .i64 b.length)), (13, .d (.int .i64 i))]) (fun _ => []) (fun i => a.length - i) 0 .zero (by simp [hle]) (by simp) ?_
  intro i hs t m hi hh
  have hia := hi.le
  by_cases hlt : i < a.length
  · have hlb : i < b.length := by omega
    have hwi := wr1 (i := i) (by omega)
    simp [hlt, hlb, s149_6, ]
    refine call_f (w_impl_sameInts a[i] b[i]) (by simp) rfl fun hs1 hh1 => ?_
    simp at hh1
    by_cases he : a[i] = b[i]
    case neg => simp [he, eqt_bad hlt hlb he]
    simp [he, hwi, s149_6, ]
    exact back (i + 1) ⟨by omega, eqt_step hi.eq hlt hlb he⟩ (by omega) rfl (by simp <;> omega) (by simp) (by simp)
  · have hd := eqt_done hi.eq (by omega) hle
    simp [show ¬ i < b.length by omega, hd]
theorem w_spec_EqualRelations (a b : PReln) : VC Tryz.prog 147 [.agg ((eReln a).map V.d), .agg ((eReln b).map V.d)] (fun _ r => r = .d (.bool (decide (a = b)))) := by
  refine VC.ofL EP s147 (by kernel_rfl) Tryz.func147 (by rfl) (by kernel_rfl) (by simp [Tryz.f147]) (by simp [Tryz.f147]) s147_ok fun B hl => ?_
  simp [pS, maxLen, eHist, eDb, eReln] at hl
  obtain ⟨ah, a⟩ := a
  obtain ⟨bh, b⟩ := b
  simp only at hl
  by_cases h : ah = bh
  case neg => simp [Tryz.f147, s147_6, h]
  subst h
  by_cases hle : a.length = b.length
  case neg => simp [Tryz.f147, s147_6, hle, eqt_len hle]
  simp [Tryz.f147, s147_6, hle]
  refine loop_rule (X := Nat) (EqTo a b) (fun i => [(2, .ptr 2 0 0), (3, .ptr 3 0 0), (5, .d (.int .i64 i))]) (fun i => [(2, some (.box [.d (.int .i64 ah), .d (.pl (a.map (cP cI)))])), (3, some (.box [.d (.int .i64 ah), .d (.pl (b.map (cP cI)))]))]) (fun i => a.length - i) 0 .zero (by simp [hle]) (by simp) ?_
  intro i hs t m hi hh
  have hia := hi.le
  by_cases hlt : i < a.length
  · have hlb : i < b.length := by omega
    have hwi := wr1 (i := i) (by omega)
    simp [hlt, hlb, s147_6, ]
    refine call_f (w_spec_CompareRows a[i] b[i]) (by simp) rfl fun hs1 hh1 => ?_
    simp at hh1
    by_cases he : a[i] = b[i]
    case neg => simp [he, eqt_bad hlt hlb he, cmpL_zero]
    simp [he, hwi, cmpL_self, s147_6, ]
    exact back (i + 1) ⟨by omega, eqt_step hi.eq hlt hlb he⟩ (by omega) rfl (by simp <;> omega) (by simp) (by simp)
  · have hd := eqt_done hi.eq (by omega) hle
    simp [show ¬ i < b.length by omega, hlt, hd]
end

end Go.Proofs.YtggbpdjjlgejmaaGreat


namespace Go.Proofs.YtggbpdjjlgejmaaGreat
open Go.Vs Go.Proofs Go
set_option maxRecDepth 100000
set_option maxHeartbeats 1000000

def neg64 (n : Int) : Int := IntKind.i64.wrap (-n)
def negAt (l : List Int) (i : Nat) : List Int := (l.take i).map neg64 ++ l.drop i
@[simp] theorem negAt_zero (l : List Int) : negAt l 0 = l := by simp [negAt]
@[simp] theorem negAt_length (l : List Int) (i : Nat) : (negAt l i).length = l.length := by simp [negAt]; omega
theorem negAt_all {l : List Int} {i : Nat} (h : i = l.length) : negAt l i = l.map neg64 := by subst h; simp [negAt]
theorem negAt_succ {l : List Int} {i : Nat} (h : i < l.length) : (negAt l i).set i (neg64 l[i]) = negAt l (i + 1) := by
  simp only [negAt]
  rw [List.take_succ_eq_append_getElem h, List.map_append, List.set_append_right _ _ (by simp; omega)]
  have e : l.drop i = l[i] :: l.drop (i + 1) := List.drop_eq_getElem_cons h
  have e0 : i - (List.map neg64 (l.take i)).length = 0 := by simp; omega
  rw [e0, e]
  simp only [List.set_cons_zero, List.map_cons, List.map_nil, List.append_assoc, List.cons_append, List.nil_append]
theorem negAt_get {l : List Int} {i : Nat} (h : i < l.length) : (negAt l i)[i]? = some l[i] := by
  simp only [negAt]
  rw [List.getElem?_append_right (by simp; omega)]
  have : i - (List.map neg64 (l.take i)).length = 0 := by simp; omega
  rw [this]
  simp [h]
theorem negAt_at {l : List Int} {i : Nat} (h : i < l.length) (h' : i < (negAt l i).length) : (negAt l i)[i] = l[i] := by
  have := negAt_get h
  rw [List.getElem?_eq_getElem h'] at this
  exact Option.some.inj this
/-- counts turned, as the machine does it -/
def negW (z : PCnt) : PCnt := ⟨z.ar, z.rows, z.cs.map neg64⟩
section
attribute [local simp] plI_id plStr_id map_plI map_plStr
theorem t_impl_NegateCounted (a : Cnt) (ha : okCnt a) (hb : a.rows.xs.length ≤ 4294967296) (hb2 : ∀ r ∈ a.rows.xs, r.xs.length ≤ 4294967296) (hb3 : a.cs.xs.length ≤ 4294967296) :
   VC Tryz.prog 65 [.agg ((cCnt a).map V.d)] (fun n r => ∃ y : Cnt, r = .agg ((cCnt y).map V.d) ∧ plCnt y = negW (plCnt a) ∧ okCnt y ∧ Good (cCnt y) (whCnt y) n) := by
  refine VC.of E s65 (by kernel_rfl) Tryz.func65 (by rfl) (by kernel_rfl) (by simp [Tryz.f65]) (by simp [Tryz.f65]) s65_ok fun B => ?_
  simp [Tryz.f65, s65_5, cCnt, cS, cI]
  refine call_some (w_impl_copyCounted a ha hb hb2 hb3) rfl (by simp) fun n1 hs1 r1 hn1 hm1 hp1 hr1 => ?_
  obtain ⟨y, rfl, p1, k1, G1⟩ := hp1
  simp at hn1
  have hpl : y.cs.xs = a.cs.xs := by
    have := congrArg (fun c : PCnt => c.cs) p1
    simpa [plCnt, plS] using this
  have hlen : y.cs.xs.length = a.cs.xs.length := by rw [hpl]
  obtain ⟨ar, rows, ⟨id, T, cs⟩⟩ := y
  simp only at hpl hlen
  have hnd := G1.nd
  simp only [cCnt, idsL_app, idsL_cS] at hnd
  simp [cCnt, cS, cI, dSl]
  refine loop_rule (X := Nat) (fun i => i ≤ cs.length) (fun i => [(3, .ptr 3 0 0), (2, .ptr 2 0 0), (9, .d (.int .i64 cs.length)), (10, .d (.int .i64 i))])
    (fun i => [(2, some (.box [.d (.int .i64 0), .d (.sl none none []), .d (.sl none none [])])), (3, some (.box [.d (.int .i64 ar), .d (dSl (cS cI) rows), .d (.sl id T ((negAt cs i).map cI))]))]) (fun i => cs.length - i) 0 (by simp) (by simp) (by simp [dSl]) ?_
  intro i hs t m hi hh
  by_cases hlt : i < cs.length
  · obtain ⟨g, hg, T', hT⟩ := (Sl.wh.id (s := (⟨id, T, cs⟩ : Sl Int)) G1.wh.2.2.1 hlt)
    simp only at hg hT
    subst hg hT
    have hwi := wr1 (i := i) (by omega)
    have hgB : B ≤ g := by
      have := G1.lo g (by simp only [cCnt, idsL_app, idsL_cS, List.mem_append]; exact .inr (mem_slids (s := (⟨some g, some T', cs⟩ : Sl Int)) rfl))
      omega
    have hgr : g ∉ (dSl (cS cI) rows).ids := fun h => nd_disj hnd g (List.mem_append_right _ h) (mem_slids (s := (⟨some g, some T', cs⟩ : Sl Int)) rfl)
    simp [cI, hlt, hwi, negAt_get hlt, s65_5, ]
    have e1 : (List.map cI (negAt cs i)).set i [D.int .i64 (IntKind.i64.wrap (-cs[i]))] = List.map cI (negAt cs (i + 1)) := by
      rw [← negAt_succ hlt, ← set_map]; rfl
    have e2 : ∀ d, reV (one g d) (.d (dSl (cS cI) rows)) = .d (dSl (cS cI) rows) := fun d => reV_id _ fun j hj => one_out fun e => hgr (e ▸ hj)
    refine ⟨hgB, back (i + 1) (by omega) (by omega) rfl (by simp <;> omega) (by simp) ?_⟩
    simp [-List.map_set, negAt_at hlt, e1, e2]
  · have hn : i = cs.length := by omega
    subst hn
    simp
    refine ⟨⟨ar, rows, ⟨id, T, cs.map neg64⟩⟩, ?_⟩
    refine ⟨by simp [negAt_all, cS, cI, dSl, cCnt], ?_, ⟨trivial, k1.2.1, ⟨by simpa using k1.2.2.1, fun _ _ => trivial⟩⟩, ?_⟩
    · have q1 := congrArg PCnt.ar p1
      have q2 := congrArg PCnt.rows p1
      simp only [plCnt] at q1 q2
      simp only [plCnt, negW]
      rw [q1, q2]
      simp [plS, hpl]
    · have e0 : ∀ l : List Int, (dSl cI (⟨id, T, l⟩ : Sl Int)).ids = id.toList := fun l => by simp [dSl, D.ids]
      have e : idsL (cCnt ⟨ar, rows, ⟨id, T, cs.map neg64⟩⟩) = idsL (cCnt ⟨ar, rows, ⟨id, T, cs⟩⟩) := by simp only [cCnt, idsL_app, idsL_cS, e0]
      show Good (cCnt ⟨ar, rows, ⟨id, T, cs.map neg64⟩⟩) (whCnt ⟨ar, rows, ⟨id, T, cs.map neg64⟩⟩) B
      exact ⟨by rw [e]; exact G1.nd, fun g hg => by rw [e] at hg; have := G1.lo g hg; omega, G1.wh.1, G1.wh.2.1, G1.wh.2.2.1.of (by simp), fun _ _ => trivial⟩
end

end Go.Proofs.YtggbpdjjlgejmaaGreat


namespace Go.Proofs.YtggbpdjjlgejmaaGreat
open Go.Vs Go.Proofs Go
set_option maxRecDepth 100000
set_option maxHeartbeats 1000000

section
attribute [local simp] plI_id plStr_id map_plI map_plStr pS cP cI cStr cU8 cB eReln eCnt
theorem w_impl_EqualCounted (a b : PCnt) : VC Tryz.prog 122 [.agg ((eCnt a).map V.d), .agg ((eCnt b).map V.d)] (fun _ r => r = .d (.bool (decide (a = b)))) := by
  refine VC.ofL EP s122 (by kernel_rfl) Tryz.func122 (by rfl) (by kernel_rfl) (by simp [Tryz.f122]) (by simp [Tryz.f122]) s122_ok fun B hl => ?_
  obtain ⟨aa, ar, ac⟩ := a
  obtain ⟨ba, br, bc⟩ := b
  by_cases h : aa = ba
  case neg => simp [Tryz.f122, h]
  subst h
  simp [Tryz.f122]
  refine call_f (w_impl_sameRows ar br) (by simp) rfl fun hs1 hh1 => ?_
  simp at hh1
  by_cases h2 : ar = br
  case neg => simp [h2]
  subst h2
  simp
  refine call_f (w_impl_sameInts ac bc) (by simp) rfl fun hs1 hh1 => ?_
  simp
theorem w_spec_EqualCounted (a b : PCnt) : VC Tryz.prog 121 [.agg ((eCnt a).map V.d), .agg ((eCnt b).map V.d)] (fun _ r => r = .d (.bool (decide (a = b)))) := by
  refine VC.ofL EP s121 (by kernel_rfl) Tryz.func121 (by rfl) (by kernel_rfl) (by simp [Tryz.f121]) (by simp [Tryz.f121]) s121_ok fun B hl => ?_
  obtain ⟨aa, ar, ac⟩ := a
  obtain ⟨ba, br, bc⟩ := b
  by_cases h : aa = ba
  case neg => simp [Tryz.f121, h]
  subst h
  simp [Tryz.f121]
  refine call_f (w_spec_EqualRelations ⟨0, ar⟩ ⟨0, br⟩) (by simp) rfl fun hs1 hh1 => ?_
  simp at hh1
  by_cases h2 : ar = br
  case neg => simp [h2]
  subst h2
  simp
  refine call_f (w_spec_CompareRows ac bc) (by simp) rfl fun hs1 hh1 => ?_
  simp
  have := cmpL_zero ac bc
  by_cases h3 : ac = bc <;> simp [h3, this, cmpL_self]
end
end Go.Proofs.YtggbpdjjlgejmaaGreat

