/-
  C5B2: a part of a proof of this seat: the value-level semantics of Go code without maps, its walk rules, the frame of a row, facts of types, schedules, walks, plain lemmas (S13 P5 P5b P5c P5d P5e LC4 LC5). It holds of every program and state that its hypotheses name.
-/
import Derived.Test.YtjfehcpompohcaaC5B1
set_option linter.unusedSimpArgs false
set_option linter.unusedVariables false
set_option linter.unnecessarySimpa false
namespace Go.Proofs.Ytjfehcpompohcaa
open Go.Vs Go.Proofs Go
set_option maxRecDepth 100000
set_option maxHeartbeats 1000000

theorem t_impl_ProjectCounted0 (a : Cnt) (c : Ints) (ha : okCnt a) (hc : okS okI c) : VC Try.prog 43 [.agg ((cCnt a).map V.d), .d (dSl cI c)]
   (fun n r => ∃ y : Cnt, r = .tup [.agg ((cCnt y).map V.d), .d (.bool (projB (plCnt a) c.xs))] ∧ plCnt y = projP (plCnt a) c.xs ∧ okCnt y ∧ Good (cCnt y) (whCnt y) n) := by
  refine VC.ofB E s43 (by kernel_rfl) Try.func43 (by rfl) (by kernel_rfl) (by simp [Try.f43]) (by simp [Try.f43]) s43_ok fun B hB => ?_
  have haB : ∀ g ∈ idsL (cCnt a), g < B := fun g hg => hB g (by simp only [idsVL, V.ids, idsVL_map_d, List.mem_append]; simp [hg])
  have hcB : ∀ g ∈ (dSl cI c).ids, g < B := fun g hg => hB g (by simp only [idsVL, V.ids, List.mem_append]; simp [hg])
  have hno : ∀ hB0 : projB (plCnt a) c.xs = false, ∃ y : Cnt, V.tup [.agg ((cCnt ⟨0, nilS, nilS⟩).map V.d), .d (.bool false)] = .tup [.agg ((cCnt y).map V.d), .d (.bool (projB (plCnt a) c.xs))] ∧ plCnt y = projP (plCnt a) c.xs ∧ okCnt y ∧ Good (cCnt y) (whCnt y) B := fun hB0 =>
    ⟨⟨0, nilS, nilS⟩, by rw [hB0], by simp only [projP, hB0]; rfl, ⟨trivial, ok_nilS, ok_nilS⟩, good_Cnt0 B⟩
  simp only [cCnt, cS, cI, nilS, dSl] at hno
  simp at hno
  simp [Try.f43, s43_7, cCnt, cS, cI, dSl]
  refine call_f (w_impl_IsValidCounted (plCnt a)) (by simp [eCnt, er_SI, er_I, plCnt, pS, plS, erLL_map er_cI, erLL_map (er_cS er_cI), map_plI]) rfl fun hs0 hh0 => ?_
  simp at hh0
  cases h1 : cntsOk (plCnt a)
  · have hB0 : projB (plCnt a) c.xs = false := by simp [projB, h1]
    simp
    exact hno hB0
  simp [dSl]
  refine call_f (w_impl_columnsFit a.ar c.xs) (by simp [erLL_map er_cI, pS]) rfl fun hs1 hh1 => ?_
  simp at hh1
  cases h2 : colsOk a.ar c.xs
  · have hB0 : projB (plCnt a) c.xs = false := by simp [projB, plCnt, plI, h2]
    simp
    exact hno hB0
  have hlen := rowsOk_len (cntsOk_rows h1)
  have hrow := rowsOk_row (cntsOk_rows h1)
  have hcl := cntsOk_len h1
  have hcsa := cntsOk_cs h1
  have har := rowsOk_inR (cntsOk_rows h1)
  have h2' := h2
  simp only [colsOk, Bool.and_eq_true, decide_eq_true_eq] at h2'
  obtain ⟨hc5, hd⟩ := h2'
  simp only [inR, Bool.and_eq_true, decide_eq_true_eq] at har
  have hrl : (plCnt a).rows.length = a.rows.xs.length := by simp [plCnt, plS]
  have hcs : (plCnt a).cs = a.cs.xs := by simp [plCnt, plS, map_plI]
  have hcl2 : a.cs.xs.length = a.rows.xs.length := by rw [← hrl, ← hcs]; omega
  have hfit : ∀ r ∈ a.rows.xs, ∀ x ∈ c.xs, 0 ≤ x ∧ x < r.xs.length := fun r hrm x hx => by
    have h2 := (rowsOk_mem (cntsOk_rows h1) (List.mem_map_of_mem (f := plS plI) hrm)).1
    have h3 := (List.all_eq_true.1 hd) x hx
    have har' : 0 ≤ a.ar ∧ a.ar ≤ 5 := har
    rw [wrap64_of (by omega) (by omega)] at h3
    simp only [inR, Bool.and_eq_true, decide_eq_true_eq] at h3
    simp only [plS, List.length_map, plCnt, plI] at h2
    omega
  obtain ⟨b, hb⟩ : ∃ b : PCnt, b = ⟨c.xs.length, (plCnt a).rows.map (pickR c.xs), (plCnt a).cs⟩ := ⟨_, rfl⟩
  have hbl : b.rows.length = a.rows.xs.length := by rw [hb]; simp [plCnt, plS]
  have hbc : b.cs = a.cs.xs := by rw [hb]; exact hcs
  have hba : ∀ i (h : i < a.rows.xs.length), b.rows[i]'(by omega) = pickR c.xs a.rows.xs[i].xs := fun i h => by
    subst hb
    simp [plCnt, plS, map_plI]
  simp [s43_7, dSl]
  refine loop_ruleL (X := Nat × Cnt) (TalI ⟨c.xs.length, [], []⟩ b B) (fun p => [(1, .d (.sl c.id c.T (c.xs.map cI))), (2, .ptr 2 0 0), (4, .ptr 4 0 0), (6, .ptr 6 0 0), (25, .d (.sl a.rows.id a.rows.T (a.rows.xs.map (cS cI)))), (26, .d (.int .i64 a.rows.xs.length)), (27, .d (.int .i64 p.1))])
    (fun p => [(2, some (.box [.d (.int .i64 a.ar), .d (.sl a.rows.id a.rows.T (a.rows.xs.map (cS cI))), .d (.sl a.cs.id a.cs.T (a.cs.xs.map cI))])), (4, some (.box [.d (.int .i64 0), .d (.sl none none []), .d (.sl none none [])])),
      (6, some (.box [.d (.int .i64 p.2.ar), .d (.sl p.2.rows.id p.2.rows.T (p.2.rows.xs.map (cS cI))), .d (.sl p.2.cs.id p.2.cs.T (p.2.cs.xs.map cI))]))]) (fun p => a.rows.xs.length - p.1) ?_ ?_
  · refine Lead.of ⟨(0, ⟨c.xs.length, nilS, nilS⟩), ⟨by simp, rfl, rfl, rfl, ⟨trivial, ok_nilS, ok_nilS⟩, ⟨by simp [cCnt, nilS, cS, cI, dSl, idsL, idsLL, D.ids], by simp [cCnt, nilS, cS, cI, dSl, idsL, idsLL, D.ids], (good_Cnt0 B).wh⟩, by simp [cCnt, nilS, cS, cI, dSl, idsL, idsLL, D.ids]⟩, rfl, rfl, Nat.le_refl _, by simp [dSl], by simp [nilS, dSl]⟩
  rintro ⟨i, y⟩ hs t m hI hh
  have hi := hI.le
  simp only [hbl] at hi
  obtain ⟨b1, b2, b3⟩ := hI.bd .nil rfl (by rw [hbc, hbl]; omega) (by simp) (by rw [hbl]; omega) (by simp) (by rw [hbc]; exact hcs ▸ hcsa)
  simp only at b1 b2 b3
  by_cases hlt : i < a.rows.xs.length
  · have hltc : i < a.cs.xs.length := by omega
    have hwi := wr1 (i := i) (by omega)
    have hbr : ∀ g ∈ (dSl (cS cI) a.rows).ids, g < B := fun g hg => haB g (by rw [cCnt, idsL_app, idsL_app, idsL_cS, idsL_cS]; simp [hg])
    have hbk : ∀ g ∈ (dSl cI a.cs).ids, g < B := fun g hg => haB g (by rw [cCnt, idsL_app, idsL_app, idsL_cS, idsL_cS]; simp [hg])
    have hyc : ∀ g ∈ (dSl cI y.cs).ids, B ≤ g := fun g hg => hI.good.lo g (by rw [cCnt, idsL_app, idsL_app, idsL_cS, idsL_cS]; simp [hg])
    have hcb := hcsa a.cs.xs[i] (by rw [hcs]; exact List.getElem_mem hltc)
    obtain ⟨W, hW⟩ : ∃ W, W = (dSl cI y.cs).ids := ⟨_, rfl⟩
    rw [← hW] at hyc
    have eW : ∀ (ws : List D) g, g < B → phi W ws g = none := fun ws g hg => by
      simp only [phi]; rw [if_neg]; intro h; have := hyc g h; omega
    have e1 : ∀ ws, reV (phi W ws) (.d (.sl a.rows.id a.rows.T (a.rows.xs.map (cS cI)))) = .d (.sl a.rows.id a.rows.T (a.rows.xs.map (cS cI))) := fun ws => reV_id (.d (dSl (cS cI) a.rows)) fun g hg => eW ws g (hbr g hg)
    have e2 : ∀ ws, reV (phi W ws) (.d (.sl a.cs.id a.cs.T (a.cs.xs.map cI))) = .d (.sl a.cs.id a.cs.T (a.cs.xs.map cI)) := fun ws => reV_id (.d (dSl cI a.cs)) fun g hg => eW ws g (hbk g hg)
    have e3 : ∀ ws, reV (phi W ws) (.d (.sl c.id c.T (c.xs.map cI))) = .d (.sl c.id c.T (c.xs.map cI)) := fun ws => reV_id (.d (dSl cI c)) fun g hg => eW ws g (hcB g hg)
    refine anyQ2 fun Q => ?_
    simp [hlt, hltc, cS, cI, dSl, s43_7, ]
    refine call_some (t_impl_pick a.rows.xs[i] c (by omega) (hfit _ (List.getElem_mem hlt))) (by simp [dSl]) (by simp) fun n2 hs2 r2 hn2 hm2 hp2 hr2 => ?_
    obtain ⟨w, rfl, pw, kw, Gw⟩ := hp2
    simp at hn2
    have hT := t_impl_tally y w a.cs.xs[i] hI.ok kw hI.good.wh.2.2 hI.good.nd (by omega) b2 (by
      rw [pw, pickR_len]; omega) hcb b3
    rw [← hW] at hT
    simp [hlt, hltc, cS, cI, dSl, s43_7, ]
    refine call_b (k := 6) (E73) (by simp [dSl]) (by simp [cCnt, cS, cI, dSl]) (by simp) (by simp [cCnt, cS, cI, dSl]) (by simp) (by simp [cCnt, cS, cI, dSl]) (fun g hg => .inl (hyc g hg)) hT fun n3 hs3 r3 cs3 ws3 hn3 hm3 hp3 hr3 hv3 hw3 => ?_
    obtain ⟨rfl, z, rfl, pz, kz, _, Gz⟩ := hp3
    simp at hn3
    have u3 : ∀ g ∈ idsL (cCnt z), g < hs3 := fun g hg => hv3 g (by rw [idsVL_map_d]; exact hg)
    simp [cCnt, cS, cI, dSl, hwi, e1, e2, e3, s43_7, ]
    refine back2 (i + 1, z) (hI.step (m := n3) (by rw [hbc, hbl]; omega) (by omega) (by rw [hbc]; omega) ?_ kz (by omega) (by omega) Gz u3) (by simp only; omega) rfl (by simp <;> omega) (by simp [e1, e3]) (by simp [e1, e2])
    rw [pz, hba i hlt, pw]
    simp [hbc]
  · obtain ⟨f1, f2⟩ := hI.fin (by omega) .nil rfl (by rw [hbc, hbl]; omega)
    have har : y.ar = (c.xs.length : Int) := hI.ar
    have Gr : Good (cS (cS cI) y.rows) (whS (whS whI) y.rows) B := by
      have h1 := hI.good.nd
      rw [cCnt, idsL_app, idsL_app] at h1
      exact ⟨(List.nodup_append.1 (List.nodup_append.1 h1).1).2.1, fun g hg => hI.good.lo g (by rw [cCnt, idsL_app, idsL_app]; simp [hg]), hI.good.wh.2.1⟩
    simp [hlt, cS, cI, dSl, s43_7, ]
    refine call_some (t_impl_settled y hI.ok (by omega) b2) (by simp [cCnt, cS, cI, dSl]) (by simp) fun n4 hs4 r4 hn4 hm4 hp4 hr4 => ?_
    obtain ⟨z, rfl, pz, kz, Gz⟩ := hp4
    simp at hn4
    clear hr4
    have pz' : plCnt z = sumOf c.xs.length b.rows b.cs := by
      rw [pz, f1, f2, sumOf, har]; rfl
    have hsl : (srtU b.rows).length ≤ 4000 := by have := srtU_len b.rows; omega
    have hprj : projB (plCnt a) c.xs = cntsOk (plCnt z) := by
      have h2' : colsOk (plCnt a).ar c.xs = true := h2
      rw [pz', projB, h1, h2', sumB]
      rw [hb] at hsl ⊢
      simp only [Bool.true_and, hsl, decide_true]
    simp [cCnt, cS, cI, dSl, s43_7, ]
    refine call_f (w_impl_IsValidCounted (plCnt z)) (by simp [eCnt, er_SI, er_I, plCnt, pS, plS, erLL_map er_cI, erLL_map (er_cS er_cI), map_plI]) rfl fun hs5 hh5 => ?_
    simp at hh5
    cases h5 : cntsOk (plCnt z)
    · have hB0 : projB (plCnt a) c.xs = false := by rw [hprj, h5]
      simp
      exact hno hB0
    have hB1 : projB (plCnt a) c.xs = true := by rw [hprj, h5]
    simp
    refine ⟨z, by simp [cCnt, cS, cI, dSl, hB1], by rw [pz', projP, hB1, hb]; rfl, kz, Gz B (by omega) Gr⟩
theorem t_impl_ProjectCounted (a : Cnt) (c : Ints) (ha : okCnt a) (hc : okS okI c) : VC Try.prog 43 [.agg ((cCnt a).map V.d), .d (dSl cI c)]
   (fun n r => ∃ y : Cnt, r = .tup [.agg ((cCnt y).map V.d), .d (.bool (projB (plCnt a) (plS plI c)))] ∧ plCnt y = projP (plCnt a) (plS plI c) ∧ okCnt y ∧ Good (cCnt y) (whCnt y) n) := by
  have e : plS plI c = c.xs := by simp [plS, map_plI]
  rw [e]; exact t_impl_ProjectCounted0 a c ha hc

end Go.Proofs.Ytjfehcpompohcaa

namespace Go.Proofs.Ytjfehcpompohcaa
open Go.Vs Go.Proofs Go
set_option maxRecDepth 100000
set_option maxHeartbeats 1000000

theorem w_spec_l5Sort : ∀ (n : Nat) (l : List (List Int)), l.length ≤ n → l.length ≤ 4294967296 → VC Try.prog 93 [.d (pS (cP cI) l)] (fun _ r => r = .d (pS (cP cI) (srtU l))) := by
  intro n
  induction n with
  | zero =>
    intro l hn hb
    have : l = [] := List.length_eq_zero_iff.1 (by omega)
    subst this
    refine VC.ofL EP s93 (by kernel_rfl) Try.func93 (by rfl) (by kernel_rfl) (by simp [Try.f93]) (by simp [Try.f93]) s93_ok fun B hl => ?_
    simp [Try.f93, s93_13, srtU]
  | succ n ih =>
  intro l hn hb
  refine VC.ofL EP s93 (by kernel_rfl) Try.func93 (by rfl) (by kernel_rfl) (by simp [Try.f93]) (by simp [Try.f93]) s93_ok fun B hl => ?_
  by_cases h2 : l.length < 2
  · have e : srtU l = l := srtU_id (by
      match l, h2 with
      | [], _ => exact .nil
      | [_], _ => simp
      | _ :: _ :: _, h => simp only [List.length_cons] at h; omega)
    simp [Try.f93, s93_13, show ((l.length : Int) < 2) by omega, e]
  obtain ⟨k, hk⟩ : ∃ k, k = l.length / 2 := ⟨_, rfl⟩
  have hm : IntKind.i64.wrap ((l.length : Int) / 2) = (k : Int) := by rw [wrap64_of (by omega) (by omega)]; omega
  simp [Try.f93, s93_13, show ¬ ((l.length : Int) < 2) by omega, hm, show k ≤ l.length by omega]
  refine call_p (ih (l.take k) (by simp; omega) (by simp; omega)) (by simp [List.map_take]) fun hs1 hh1 _ => ?_
  simp at hh1
  simp [hm, show k ≤ l.length by omega, List.take_of_length_le]
  refine call_p (ih (l.drop k) (by simp; omega) (by simp; omega)) (by simp [List.map_drop]) fun hs2 hh2 _ => ?_
  simp at hh2
  simp
  have hst := MI.start l k
  generalize srtU (l.take k) = a0 at hst
  generalize srtU (l.drop k) = b0 at hst
  refine loop_rule (X := List (List Int) × List (List Int) × List (List Int)) (fun p => MI l p.1 p.2.1 p.2.2)
    (fun p => [(4, .d (.pl (p.1.map (cP cI)))), (5, .d (.pl (p.2.1.map (cP cI)))), (6, .own 24 0 p.2.2.length)]) (fun p => [(24, some (.row 23 1 (p.2.2.map (cP cI))))]) (fun p => p.1.length + p.2.1.length) (a0, b0, []) hst (by simp) (by simp) ?_
  rintro ⟨a, b, out⟩ hs t m hI hh
  simp only at hI
  have hlen := hI.len
  have hL24 : LenOk 24 1 := ⟨by omega, by simp only [maxLen]; omega⟩
  have hpa : ∀ a : List (List Int), (0 : Int) < (a.length : Int) + 1 := fun a => by omega
  have hpb : ∀ a : List (List Int), ¬ (a.length : Int) + 1 = 0 := fun a => by omega
  have hqa : (0 : Int) < 1 := by omega
  have hqb : ¬ (0 : Int) < -1 := by omega
  rcases a with _ | ⟨x, a⟩
  · rcases b with _ | ⟨y, b⟩
    · have hd := hI.done
      subst hd
      simp [List.take_of_length_le]
    · refine anyQ fun Q => ?_
      have hc0 : True := trivial
      have hI' := hI.swap
      have hL := hI'.left (by simp)
      rcases nil_or_snoc out with rfl | ⟨o, z, rfl⟩
      · simp [hc0, hpa, hpb, hqa, hqb, List.take_of_length_le, cP, hL24, s93_13, ]
        exact back ([], b, [y]) (MI.swap (hL.2 (by simp))) (by simp <;> omega) rfl (by simp <;> omega) (by simp) (by simp)
      · simp only [List.length_append, List.length_cons, List.length_nil] at hlen
        have hw : IntKind.i64.wrap (o.length : Int) = o.length := wrap64_of (by omega) (by omega)
        have hix : (o.map (cP cI) ++ [[D.pl (z.map cI)]])[o.length]? = some [D.pl (z.map cI)] := by rw [List.getElem?_append_right (by simp)]; simp
        simp [hc0, hpa, hpb, hqa, hqb, List.take_of_length_le, hw, hix, cP, s93_13, ]
        refine call_f (w_spec_CompareRows z y) (by simp) rfl fun hs3 hh3 => ?_
        simp at hh3
        by_cases e : z = y
        · subst e
          simp [cmpL_self]
          exact back ([], b, o ++ [z]) (MI.swap (hL.1 (hI'.last.2 rfl))) (by simp <;> omega) rfl (by simp <;> omega) (by simp) (by simp)
        · have e' : ¬ cmpL z y = 0 := fun h => e ((cmpL_zero _ _).1 h)
          simp [e', show LenOk 24 (o.length + 1 + 1) from ⟨by omega, by simp only [maxLen]; omega⟩, cP]
          exact back ([], b, o ++ [z] ++ [y]) (MI.swap (hL.2 fun h => e (hI'.last.1 h))) (by simp <;> omega) rfl (by simp <;> omega) (by simp) (by simp)
  · rcases b with _ | ⟨y, b⟩
    · refine anyQ fun Q => ?_
      have hc0 : True := trivial
      have hL := hI.left (by simp)
      rcases nil_or_snoc out with rfl | ⟨o, z, rfl⟩
      · simp [hc0, hpa, hpb, hqa, hqb, List.take_of_length_le, cP, hL24, s93_13, ]
        exact back (a, [], [x]) ((hL.2 (by simp))) (by simp <;> omega) rfl (by simp <;> omega) (by simp) (by simp)
      · simp only [List.length_append, List.length_cons, List.length_nil] at hlen
        have hw : IntKind.i64.wrap (o.length : Int) = o.length := wrap64_of (by omega) (by omega)
        have hix : (o.map (cP cI) ++ [[D.pl (z.map cI)]])[o.length]? = some [D.pl (z.map cI)] := by rw [List.getElem?_append_right (by simp)]; simp
        simp [hc0, hpa, hpb, hqa, hqb, List.take_of_length_le, hw, hix, cP, s93_13, ]
        refine call_f (w_spec_CompareRows z x) (by simp) rfl fun hs3 hh3 => ?_
        simp at hh3
        by_cases e : z = x
        · subst e
          simp [cmpL_self]
          exact back (a, [], o ++ [z]) ((hL.1 (hI.last.2 rfl))) (by simp <;> omega) rfl (by simp <;> omega) (by simp) (by simp)
        · have e' : ¬ cmpL z x = 0 := fun h => e ((cmpL_zero _ _).1 h)
          simp [e', show LenOk 24 (o.length + 1 + 1) from ⟨by omega, by simp only [maxLen]; omega⟩, cP]
          exact back (a, [], o ++ [z] ++ [x]) ((hL.2 fun h => e (hI.last.1 h))) (by simp <;> omega) rfl (by simp <;> omega) (by simp) (by simp)
    · refine anyQ fun Q => ?_
      simp [cP, hpa, hpb, s93_13, ]
      refine call_f (w_spec_CompareRows x y) (by simp) rfl fun hs0 hh0 => ?_
      simp at hh0
      by_cases hc0 : 0 < cmpL x y
      · have hI' := hI.swap
        have hL := hI'.left (hI.hr hc0)
        rcases nil_or_snoc out with rfl | ⟨o, z, rfl⟩
        · simp [hc0, hpa, hpb, hqa, hqb, List.take_of_length_le, cP, hL24, s93_13, ]
          exact back ((x :: a), b, [y]) (MI.swap (hL.2 (by simp))) (by simp <;> omega) rfl (by simp <;> omega) (by simp) (by simp)
        · simp only [List.length_append, List.length_cons, List.length_nil] at hlen
          have hw : IntKind.i64.wrap (o.length : Int) = o.length := wrap64_of (by omega) (by omega)
          have hix : (o.map (cP cI) ++ [[D.pl (z.map cI)]])[o.length]? = some [D.pl (z.map cI)] := by rw [List.getElem?_append_right (by simp)]; simp
          simp [hc0, hpa, hpb, hqa, hqb, List.take_of_length_le, hw, hix, cP, s93_13, ]
          refine call_f (w_spec_CompareRows z y) (by simp) rfl fun hs3 hh3 => ?_
          simp at hh3
          by_cases e : z = y
          · subst e
            simp [cmpL_self]
            exact back ((x :: a), b, o ++ [z]) (MI.swap (hL.1 (hI'.last.2 rfl))) (by simp <;> omega) rfl (by simp <;> omega) (by simp) (by simp)
          · have e' : ¬ cmpL z y = 0 := fun h => e ((cmpL_zero _ _).1 h)
            simp [e', show LenOk 24 (o.length + 1 + 1) from ⟨by omega, by simp only [maxLen]; omega⟩, cP]
            exact back ((x :: a), b, o ++ [z] ++ [y]) (MI.swap (hL.2 fun h => e (hI'.last.1 h))) (by simp <;> omega) rfl (by simp <;> omega) (by simp) (by simp)
      · 
        have hL := hI.left (hI.hl hc0)
        rcases nil_or_snoc out with rfl | ⟨o, z, rfl⟩
        · simp [hc0, hpa, hpb, hqa, hqb, List.take_of_length_le, cP, hL24, s93_13, ]
          exact back (a, (y :: b), [x]) ((hL.2 (by simp))) (by simp <;> omega) rfl (by simp <;> omega) (by simp) (by simp)
        · simp only [List.length_append, List.length_cons, List.length_nil] at hlen
          have hw : IntKind.i64.wrap (o.length : Int) = o.length := wrap64_of (by omega) (by omega)
          have hix : (o.map (cP cI) ++ [[D.pl (z.map cI)]])[o.length]? = some [D.pl (z.map cI)] := by rw [List.getElem?_append_right (by simp)]; simp
          simp [hc0, hpa, hpb, hqa, hqb, List.take_of_length_le, hw, hix, cP, s93_13, ]
          refine call_f (w_spec_CompareRows z x) (by simp) rfl fun hs3 hh3 => ?_
          simp at hh3
          by_cases e : z = x
          · subst e
            simp [cmpL_self]
            exact back (a, (y :: b), o ++ [z]) ((hL.1 (hI.last.2 rfl))) (by simp <;> omega) rfl (by simp <;> omega) (by simp) (by simp)
          · have e' : ¬ cmpL z x = 0 := fun h => e ((cmpL_zero _ _).1 h)
            simp [e', show LenOk 24 (o.length + 1 + 1) from ⟨by omega, by simp only [maxLen]; omega⟩, cP]
            exact back (a, (y :: b), o ++ [z] ++ [x]) ((hL.2 fun h => e (hI.last.1 h))) (by simp <;> omega) rfl (by simp <;> omega) (by simp) (by simp)

end Go.Proofs.Ytjfehcpompohcaa

namespace Go.Proofs.Ytjfehcpompohcaa
open Go.Vs Go.Proofs Go
set_option maxRecDepth 100000
set_option maxHeartbeats 1000000

theorem w_spec_NewRelation (ar : Int) (l : List (List Int)) (hb : l.length ≤ 4294967296) (hn : ∀ x ∈ l, x.length ≤ 4294967296) : VC Try.prog 87 [.d (.int .i64 ar), .d (pS (cP cI) l)] (fun _ v => v = .tup [.agg ((eReln (newR ar l)).map .d), .d (.bool (newB ar l))]) := by
  refine VC.ofL EP s87 (by kernel_rfl) Try.func87 (by rfl) (by kernel_rfl) (by simp [Try.f87]) (by simp [Try.f87]) s87_ok fun B hl => ?_
  simp [Try.f87, eReln]
  refine loop_rule (X := Nat) (fun i => i ≤ l.length ∧ AllTo (fun r : List Int => decide ((r.length : Int) = ar) && valsOk r) l i) (fun i => [(0, .d (.int .i64 ar)), (1, .d (.pl (l.map (cP cI)))), (4, .ptr 4 0 0), (6, .d (.int .i64 i))])
    (fun i => [(4, some (.box [.d (.int .i64 0), .d (.sl none none [])]))]) (fun i => l.length - i) 0 ⟨by simp, allTo_zero⟩ (by simp) (by simp) ?_
  intro i hs t m hi hh
  by_cases hlt : i < l.length
  · have hwi := wr1 (i := i) (by omega)
    by_cases hln : (l[i].length : Int) = ar
    · simp [hlt, hln, cP, ]
      refine call_f (w_spec_AreValidValues l[i]) (by simp) rfl fun hs1 hh1 => ?_
      simp at hh1
      cases hv : valsOk l[i]
      · have hbad := all_bad (p := fun r : List Int => decide ((r.length : Int) = ar) && valsOk r) hlt (by simp [hv])
        simp [newR, newB, hbad, eReln]
      · simp [hwi]
        exact back (i + 1) ⟨by omega, allTo_step hi.2 hlt (by simp [hv, hln])⟩ (by omega) rfl (by simp <;> omega) (by simp) (by simp)
    · have hbad := all_bad (p := fun r : List Int => decide ((r.length : Int) = ar) && valsOk r) hlt (by simp [hln])
      simp [hlt, hln, newR, newB, hbad, eReln, ]
  · have hd := allTo_done hi.2 (by omega)
    have hsl := srtU_len l
    simp [hlt, ]
    refine call_p (w_spec_l5Sort _ l (Nat.le_refl _) hb) (by simp) fun hs1 hh1 _ => ?_
    simp at hh1
    simp []
    refine call_p (w_spec_l5Copy ⟨ar, srtU l⟩ (by simp; omega) (fun x hx => hn x ((srtU_mem l x).1 hx))) (by simp [eReln]) fun hs2 hh2 _ => ?_
    simp at hh2
    simp [eReln]
    refine call_f (w_spec_IsValidRelation ⟨ar, srtU l⟩) (by simp [eReln]) rfl fun hs3 hh3 => ?_
    simp at hh3
    cases h1 : rowsOk ar (srtU l)
    · simp [newR, newB, h1, eReln]
    · simp [newR, newB, h1, hd, eReln]

end Go.Proofs.Ytjfehcpompohcaa

namespace Go.Proofs.Ytjfehcpompohcaa
open Go.Vs Go.Proofs Go
set_option maxRecDepth 100000
set_option maxHeartbeats 1000000

theorem w_spec_l27Sum (ar : Int) (l : List (List Int)) (cs : List Int) (hr : inR ar 0 5 = true) (hm : ∀ x ∈ l, (x.length : Int) = ar ∧ valsOk x = true) (hlc : cs.length = l.length) (hb : l.length ≤ 100000) (hc : ∀ c ∈ cs, -1000000 ≤ c ∧ c ≤ 1000000) :
   VC Try.prog 71 [.d (.int .i64 ar), .d (pS (cP cI) l), .d (pS cI cs)] (fun _ v => v = .tup [.agg ((eCnt (sumP ar l cs)).map .d), .d (.bool (sumB ar l cs))]) := by
  have hx5 : ∀ x ∈ l, x.length ≤ 5 := fun x hx => by
    have h1 := (hm x hx).1
    simp only [inR, Bool.and_eq_true, decide_eq_true_eq] at hr
    omega
  have hnB := newB_of hr hm
  have hRs := srtU_srt l
  have hRl := srtU_len l
  refine VC.ofL EP s71 (by kernel_rfl) Try.func71 (by rfl) (by kernel_rfl) (by simp [Try.f71]) (by simp [Try.f71]) s71_ok fun B hl => ?_
  simp [Try.f71, s71_8, s71_9, s71_15, s71_16, s71_8, s71_9, s71_15, s71_16, ]
  refine call_p (w_spec_NewRelation ar l (by omega) (fun x hx => by have := hx5 x hx; omega)) (by simp) fun hs1 hh1 _ => ?_
  simp at hh1
  by_cases h4 : (srtU l).length ≤ 4000
  case neg => simp [newR, hnB, h4, sumP, sumB, eReln, eCnt]
  have hmR : ∀ x, x ∈ l → x ∈ srtU l := fun x hx => (srtU_mem l x).2 hx
  have hRe : newR ar l = ⟨ar, srtU l⟩ := by simp [newR, hnB, h4]
  have hsum : sumsOf l cs = (srtU l).map (lkC l cs) := rfl
  simp [hRe, hnB, h4, eReln]
  obtain ⟨R, hRR⟩ : ∃ R, R = srtU l := ⟨_, rfl⟩
  simp only [← hRR] at hRs hRl h4 hmR hsum ⊢
  have hL0 : LenOk 8 R.length := ⟨by omega, by simp only [maxLen]; omega⟩
  simp [hL0]
  refine loop_rule (X := Nat) (fun i => i ≤ l.length) (fun i => [(0, .d (.int .i64 ar)), (1, .d (.pl (l.map (cP cI)))), (2, .d (.pl (cs.map cI))), (6, .ptr 6 0 0), (8, .ptr 8 0 0), (10, .own 28 0 R.length), (11, .d (.int .i64 i))])
    (fun i => [(6, some (.box [.d (.int .i64 0), .d (.sl none none []), .d (.sl none none [])])), (8, some (.box [.d (.int .i64 ar), .d (.pl (R.map (cP cI)))])), (28, some (.row 3 1 ((sumsTo R l cs i).map cI)))]) (fun i => l.length - i) 0 (by simp) (by simp) (by simp [sumsTo_zero]) ?_
  · intro i hs t m hi hh
    by_cases hlt : i < l.length
    · have hwi := wr1 (i := i) (by omega)
      have hic : i < cs.length := by omega
      obtain ⟨hk, hkx⟩ := placeB_at ((placeB_iff hRs).2 (hmR _ (List.getElem_mem hlt)))
      simp [hlt, cP, s71_8, s71_9, s71_15, s71_16, ]
      refine call_f (w_spec_l5Place ⟨ar, R⟩ l[i] (by simp; omega)) (by simp [eReln]) rfl fun hs1 hh1 => ?_
      simp at hh1
      obtain ⟨k, hkk⟩ : ∃ k, k = placeK R l[i] := ⟨_, rfl⟩
      simp only [← hkk] at hk ⊢
      have hst := sumsTo_step (cs := cs) hRs hlt hic (hmR _ (List.getElem_mem hlt)) hkk hk
      have hbd := sumsTo_bd (l := l) (cs := cs) (i := i) hk hi hc
      have hbc := hc cs[i] (List.getElem_mem hic)
      have hw : IntKind.i64.wrap ((sumsTo R l cs i)[k]'(by simpa using hk) + cs[i]) = (sumsTo R l cs i)[k]'(by simpa using hk) + cs[i] := wrap64_of (by omega) (by omega)
      simp [hk, hic, hw, hwi, s71_8, s71_9, s71_15, s71_16, ]
      exact back (i + 1) (by omega) (by omega) rfl (by simp <;> omega) (by simp) (by simp [← hst, List.map_set, cI])
    · have hn : i = l.length := by omega
      subst hn
      have hall : sumsTo R l cs l.length = sumsOf l cs := hRR ▸ sumsTo_all hlc
      obtain ⟨S, hS⟩ : ∃ S, S = sumsOf l cs := ⟨_, rfl⟩
      have hSl : S.length = R.length := by rw [hS, ← hall, sumsTo_length]
      rw [hall, ← hS]
      simp [s71_8, s71_9, s71_15, s71_16, ]
      refine loop_ruleL (X := Nat) (fun i _ => i ≤ R.length) (fun i => [(6, .ptr 6 0 0), (8, .ptr 8 0 0), (10, .own 28 0 R.length), (14, .ptr 14 0 0), (15, .d (.int .i64 i))])
        (fun i => [(6, some (.box [.d (.int .i64 0), .d (.sl none none []), .d (.sl none none [])])), (8, some (.box [.d (.int .i64 ar), .d (.pl (R.map (cP cI)))])), (14, some (.box [.d (.int .i64 ar), .own 78 0 (sttl (R.take i) (S.take i)).length, .own 87 0 (sttl (R.take i) (S.take i)).length])),
          (28, some (.row 3 1 (S.map cI))), (78, some (.row 23 1 (((sttl (R.take i) (S.take i)).map Prod.fst).map (cP cI)))), (87, some (.row 3 1 (((sttl (R.take i) (S.take i)).map Prod.snd).map cI)))]) (fun i => R.length - i) ?_ ?_
      · refine (lead_box 14 1 78 23 1 [.d (.int .i64 ar), .d (.sl none none []), .d (.sl none none [])] (by omega) (by omega) (by omega) (by simp) rfl).bind ?_
        rintro _ rfl
        refine (lead_box 14 2 87 3 1 [.d (.int .i64 ar), .own 78 0 0, .d (.sl none none [])] (by omega) (by omega) (by omega) (by simp) rfl).bind ?_
        rintro _ rfl
        exact Lead.of ⟨0, by simp, rfl, rfl, Nat.le_refl _, by simp, by simp [sttl]⟩
      · intro i hs2 t2 m2 hi2 hh2
        by_cases hlt2 : i < R.length
        · have hwi := wr1 (i := i) (by omega)
          have hiS : i < S.length := by omega
          have hss := settle_step (rs := R) (cs := S) hlt2 hiS
          have hsl : (sttl (R.take i) (S.take i)).length ≤ i := settle_len hi2
          refine anyQ2 fun Q => ?_
          by_cases h0 : S[i] = 0
          · rw [if_pos h0, List.append_nil] at hss
            simp [hlt2, hiS, h0, hwi, show R.length ≤ S.length by omega, s71_8, s71_9, s71_15, s71_16, ]
            exact back2 (i + 1) (by omega) (by omega) rfl (by simp <;> omega) (by simp [hss]) (by simp [hss])
          · rw [if_neg h0] at hss
            have hLa : LenOk 24 ((sttl (R.take i) (S.take i)).length + 1) := ⟨by omega, by simp only [maxLen]; omega⟩
            have hLb : LenOk 8 ((sttl (R.take i) (S.take i)).length + 1) := ⟨by omega, by simp only [maxLen]; omega⟩
            simp [hlt2, hiS, h0, hwi, hLa, hLb, show R.length ≤ S.length by omega, s71_8, s71_9, s71_15, s71_16, ]
            exact back2 (i + 1) (by omega) (by omega) rfl (by simp <;> omega) (by simp [hss]) (by simp [hss])
        · have hn : i = R.length := by omega
          subst hn
          simp [List.take_of_length_le, hSl, s71_8, s71_9, s71_15, s71_16, ]
          have hsl : (sttl R S).length ≤ R.length := by
            have := settle_len (rs := R) (cs := S) (Nat.le_refl R.length)
            rw [List.take_length, List.take_of_length_le (l := S) (by omega)] at this
            exact this
          have hso : sumOf ar l cs = ⟨ar, (sttl R S).map Prod.fst, (sttl R S).map Prod.snd⟩ := by simp only [sumOf, ← hRR, ← hS]
          refine call_f (w_spec_IsValidCounted (sumOf ar l cs)) (by simp [eCnt, hso, List.take_of_length_le]) rfl fun hs3 hh3 => ?_
          simp at hh3
          cases hv : cntsOk (sumOf ar l cs)
          · simp [sumP, sumB, hv, eCnt]
          · have hB : sumB ar l cs = true := by simp [sumB, hv, ← hRR, h4]
            simp [sumP, hB, hso, eCnt, List.take_of_length_le]

end Go.Proofs.Ytjfehcpompohcaa

namespace Go.Proofs.Ytjfehcpompohcaa
open Go.Vs Go.Proofs Go
set_option maxRecDepth 100000
set_option maxHeartbeats 1000000

theorem w_spec_AddCounted (a b : PCnt) : VC Try.prog 40 [.agg ((eCnt a).map .d), .agg ((eCnt b).map .d)] (fun _ v => v = .tup [.agg ((eCnt (addCP a b)).map .d), .d (.bool (addCB a b))]) := by
  refine VC.ofL EP s40 (by kernel_rfl) Try.func40 (by rfl) (by kernel_rfl) (by simp [Try.f40]) (by simp [Try.f40]) s40_ok fun B hl => ?_
  simp [Try.f40, s40_3, eCnt, s40_3, ]
  refine call_f (w_spec_IsValidCounted a) (by simp [eCnt]) rfl fun hs1 hh1 => ?_
  simp at hh1
  cases h1 : cntsOk a
  · simp [addCP, addCB, h1, eCnt]
  simp
  refine call_f (w_spec_IsValidCounted b) (by simp [eCnt]) rfl fun hs2 hh2 => ?_
  simp at hh2
  cases h2 : cntsOk b
  · simp [addCP, addCB, h1, h2, eCnt]
  by_cases har : a.ar = b.ar
  case neg => simp [addCP, addCB, h1, h2, har, eCnt]
  have ra := cntsOk_rows h1
  have rb := cntsOk_rows h2
  have la := rowsOk_len ra
  have lb := rowsOk_len rb
  have ca := cntsOk_len h1
  have cb := cntsOk_len h2
  have e1 : LenOk 24 a.rows.length := ⟨by omega, by simp only [maxLen]; omega⟩
  have e2 : LenOk 24 (a.rows.length + b.rows.length) := ⟨by omega, by simp only [maxLen]; omega⟩
  have e3 : LenOk 8 a.cs.length := ⟨by omega, by simp only [maxLen]; omega⟩
  have e4 : LenOk 8 (a.cs.length + b.cs.length) := ⟨by omega, by simp only [maxLen]; omega⟩
  have hC := w_spec_l27Sum a.ar (a.rows ++ b.rows) (a.cs ++ b.cs) (rowsOk_inR ra) (fun x hx => by
    rcases List.mem_append.1 hx with hx | hx
    · exact rowsOk_mem ra hx
    · rw [har]; exact rowsOk_mem rb hx) (by simp; omega) (by simp; omega) (fun c hc => by
    rcases List.mem_append.1 hc with hc | hc
    · exact cntsOk_cs h1 c hc
    · exact cntsOk_cs h2 c hc)
  simp [har, e1, e2, e3, e4, cP, s40_3, ]
  rw [har] at hC
  repeat' apply And.intro
  all_goals
    refine call_p hC (by simp [List.take_of_length_le]) fun hs3 hh3 _ => ?_
    simp at hh3
    cases hB : sumB b.ar (a.rows ++ b.rows) (a.cs ++ b.cs)
    · simp [addCP, addCB, h1, h2, har, hB, sumP, eCnt]
    · simp [addCP, addCB, h1, h2, har, hB, sumP, eCnt]

end Go.Proofs.Ytjfehcpompohcaa

namespace Go.Proofs.Ytjfehcpompohcaa
open Go.Vs Go.Proofs Go
set_option maxRecDepth 100000
set_option maxHeartbeats 1000000

theorem w_spec_l5Cols (row cols : List Int) (hb : cols.length ≤ 4294967296) (hc : ∀ c ∈ cols, 0 ≤ c ∧ c < row.length) : VC Try.prog 75 [.d (pS cI row), .d (pS cI cols)] (fun _ v => v = .d (pS cI (pickR cols row))) := by
  refine VC.ofL EP s75 (by kernel_rfl) Try.func75 (by rfl) (by kernel_rfl) (by simp [Try.f75]) (by simp [Try.f75]) s75_ok fun B hl => ?_
  simp [Try.f75, ]
  refine loop_rule (X := Nat) (fun i => i ≤ cols.length) (fun i => [(0, .d (.pl (row.map cI))), (1, .d (.pl (cols.map cI))), (5, .own 7 0 i), (6, .d (.int .i64 i))])
    (fun i => [(7, some (.row 3 1 ((pickR (cols.take i) row).map cI)))]) (fun i => cols.length - i) 0 (by simp) (by simp) (by simp [pickR]) ?_
  intro i hs t m hi hh
  by_cases hlt : i < cols.length
  · have hwi := wr1 (i := i) (by omega)
    have h1 := hc _ (List.getElem_mem hlt)
    have hst := pickR_step hlt hc
    obtain ⟨k, hk⟩ : ∃ k : Nat, cols[i] = (k : Int) := ⟨cols[i].toNat, by omega⟩
    have hkl : k < row.length := by omega
    have hL : LenOk 8 (i + 1) := ⟨by omega, by simp only [maxLen]; omega⟩
    have hpl : (pickR (cols.take i) row).length = i := by rw [pickR_len, List.length_take]; omega
    simp only [hk, Int.toNat_natCast] at hst
    simp [hlt, hk, hkl, hL, hwi, hpl, cI, ]
    exact back (i + 1) (by omega) (by omega) rfl (by simp <;> omega) (by simp) (by simp [hst, cI])
  · have hn : i = cols.length := by omega
    subst hn
    simp [List.take_of_length_le, pickR_len]
theorem w_spec_ProjectCounted (z : PCnt) (cols : List Int) (hb : cols.length ≤ 4294967296) : VC Try.prog 42 [.agg ((eCnt z).map .d), .d (pS cI cols)] (fun _ v => v = .tup [.agg ((eCnt (projP z cols)).map .d), .d (.bool (projB z cols))]) := by
  refine VC.ofL EP s42 (by kernel_rfl) Try.func42 (by rfl) (by kernel_rfl) (by simp [Try.f42]) (by simp [Try.f42]) s42_ok fun B hl => ?_
  simp [Try.f42, s42_4, eCnt, s42_4, ]
  refine loop_rule (X := Nat) (fun i => i ≤ cols.length ∧ AllTo (fun c => inR c 0 (IntKind.i64.wrap (z.ar - 1))) cols i) (fun i => [(1, .d (.pl (cols.map cI))), (2, .ptr 2 0 0), (4, .ptr 4 0 0), (6, .d (.int .i64 i))])
    (fun i => [(2, some (.box [.d (.int .i64 z.ar), .d (.pl (z.rows.map (cP cI))), .d (.pl (z.cs.map cI))])), (4, some (.box [.d (.int .i64 0), .d (.sl none none []), .d (.sl none none [])]))]) (fun i => cols.length - i) 0 ⟨by simp, allTo_zero⟩ (by simp) (by simp) ?_
  intro i hs t m hi hh
  by_cases hlt : i < cols.length
  · have hwi := wr1 (i := i) (by omega)
    simp [hlt, cI, s42_4, ]
    refine call_f (w_spec_l1In cols[i] 0 (IntKind.i64.wrap (z.ar - 1))) (by simp) rfl fun hs1 hh1 => ?_
    simp at hh1
    cases hv : inR cols[i] 0 (IntKind.i64.wrap (z.ar - 1))
    · have hbad := all_bad (p := fun c => inR c 0 (IntKind.i64.wrap (z.ar - 1))) hlt hv
      simp [projP, projB, colsOk, hbad, eCnt]
    · simp [hwi]
      exact back (i + 1) ⟨by omega, allTo_step hi.2 hlt hv⟩ (by omega) rfl (by simp <;> omega) (by simp) (by simp)
  have hd := allTo_done hi.2 (by omega)
  simp [hlt, s42_4, ]
  refine call_f (w_spec_IsValidCounted z) (by simp [eCnt]) rfl fun hs1 hh1 => ?_
  simp at hh1
  cases h1 : cntsOk z
  · simp [projP, projB, h1, eCnt]
  by_cases h5 : cols.length ≤ 5
  case neg => simp [projP, projB, colsOk, h5, show (5 : Int) < cols.length by omega, eCnt]
  have hr := cntsOk_rows h1
  have hrl := rowsOk_len hr
  have hcl := cntsOk_len h1
  have hco : colsOk z.ar cols = true := by simp only [colsOk, hd, h5]; rfl
  have har := rowsOk_inR hr
  simp only [inR, Bool.and_eq_true, decide_eq_true_eq] at har
  have hcs : ∀ r ∈ z.rows, ∀ c ∈ cols, 0 ≤ c ∧ c < r.length := fun r hrm c hc => by
    have h2 := (rowsOk_mem hr hrm).1
    have h3 := (List.all_eq_true.1 hd) c hc
    rw [wrap64_of (by omega) (by omega)] at h3
    simp only [inR, Bool.and_eq_true, decide_eq_true_eq] at h3
    omega
  simp [show ¬ (5 : Int) < cols.length by omega, s42_4, ]
  refine loop_rule (X := Nat) (fun i => i ≤ z.rows.length) (fun i => [(1, .d (.pl (cols.map cI))), (2, .ptr 2 0 0), (4, .ptr 4 0 0), (7, .own 36 0 i), (8, .d (.int .i64 i))])
    (fun i => [(2, some (.box [.d (.int .i64 z.ar), .d (.pl (z.rows.map (cP cI))), .d (.pl (z.cs.map cI))])), (4, some (.box [.d (.int .i64 0), .d (.sl none none []), .d (.sl none none [])])), (36, some (.row 23 1 (((z.rows.take i).map (pickR cols)).map (cP cI))))]) (fun i => z.rows.length - i) 0 (by simp) (by simp) (by simp) ?_
  intro k hs2 t2 m2 hk hh2
  by_cases hlt2 : k < z.rows.length
  · have hwi := wr1 (i := k) (by omega)
    have hL : LenOk 24 (k + 1) := ⟨by omega, by simp only [maxLen]; omega⟩
    refine anyQ fun Q => ?_
    simp [hlt2, cP, s42_4, ]
    refine call_p (w_spec_l5Cols z.rows[k] cols hb (hcs _ (List.getElem_mem hlt2))) (by simp) fun hs3 hh3 _ => ?_
    simp at hh3
    simp [hL, hwi, show min k z.rows.length = k by omega, s42_4, ]
    refine back (k + 1) (by omega) (by omega) rfl (by simp <;> omega) (by simp) ?_
    rw [List.take_succ_eq_append_getElem (by simpa using hlt2)]; simp [cP]
  · have hn : k = z.rows.length := by omega
    subst hn
    simp [s42_4, ]
    have hC := w_spec_l27Sum cols.length (z.rows.map (pickR cols)) z.cs (by simp [inR]; omega) (fun x hx => by
      obtain ⟨r, hrm, rfl⟩ := List.mem_map.1 hx
      exact ⟨by rw [pickR_len], pickR_ok (rowsOk_mem hr hrm).2 (hcs r hrm)⟩) (by simp; omega) (by simp; omega) (cntsOk_cs h1)
    refine call_p hC (by simp [List.take_of_length_le]) fun hs3 hh3 _ => ?_
    simp at hh3
    cases hB : sumB cols.length (z.rows.map (pickR cols)) z.cs
    · simp [projP, projB, h1, hco, hB, sumP, eCnt]
    · simp [projP, projB, h1, hco, hB, sumP, eCnt]

end Go.Proofs.Ytjfehcpompohcaa

namespace Go.Proofs.Ytjfehcpompohcaa
open Go.Vs Go.Proofs Go
set_option maxRecDepth 100000
set_option maxHeartbeats 1000000

theorem w_laws_FnExactAddCounted (a : Cnt) (b : Cnt) (k_a : okCnt a) (k_b : okCnt b) :
   VC Try.prog 8 [.agg ((cCnt a).map V.d), .agg ((cCnt b).map V.d)] (fun _ r => r = .d (.bool true)) := by
  refine VC.ofB E s8 (by kernel_rfl) Try.func8 (by rfl) (by kernel_rfl) (by simp [Try.f8]) (by simp [Try.f8]) s8_ok fun B hB => ?_
  have ua_a : ∀ g ∈ idsL (cCnt a), g < B := fun g hg => hB g (by simp only [idsVL, ids_agg, idsVL_map_d, V.ids, idsL_cS, List.mem_append] at hg ⊢; simp [hg])
  have ua_b : ∀ g ∈ idsL (cCnt b), g < B := fun g hg => hB g (by simp only [idsVL, ids_agg, idsVL_map_d, V.ids, idsL_cS, List.mem_append] at hg ⊢; simp [hg])
  simp [Try.f8, s8_14, s8_16, s8_14, s8_16, cCnt, cI, cS, cI, cS]
  refine call_pure (w_laws_szCountedRelation a _ (by omega) (by omega) k_a) rfl (by simp) rfl fun hz_a zz_a => ?_
  simp at zz_a
  by_cases s_a : (swCnt a : Int) ≤ 1048576
  case neg =>
    rw [szv_neg (by omega)]; simp
    all_goals exact fun h => absurd h (by decide)
  rw [szv_pos s_a]
  simp [show ¬ (1048576 : Int) - swCnt a < 0 by omega, show ¬ (1048576 : Int) < swCnt a by omega, s_a]
  refine call_pure (w_laws_szCountedRelation b _ (by omega) (by omega) k_b) rfl (by simp) rfl fun hz_b zz_b => ?_
  simp at zz_b
  by_cases s_b : (swCnt b : Int) ≤ 1048576 - swCnt a
  case neg =>
    rw [szv_neg (by omega)]; simp
    all_goals exact fun h => absurd h (by decide)
  rw [szv_pos s_b]
  simp [show ¬ (1048576 - swCnt a : Int) - swCnt b < 0 by omega, show ¬ (1048576 - swCnt a : Int) < swCnt b by omega, s_b]
  have hw_a := wbT_Cnt a
  have hw_b := wbT_Cnt b
  refine cutT (X := Cnt) (fun w0 hs => plCnt w0 = addCP (plCnt a) (plCnt b) ∧ ∀ g ∈ idsL (cCnt w0), g < hs) (fun w0 => [(2, .ptr 2 0 0), (3, .ptr 3 0 0), (6, .ptr 6 0 0), (7, .d (.bool (addCB (plCnt a) (plCnt b))))]) (fun w0 => [(2, some (.box ((cCnt a).map V.d))), (3, some (.box ((cCnt b).map V.d))), (6, some (.box ((cCnt w0).map V.d)))]) ?_ ?_
  · intro K hK
    simp [s8_8, cCnt, cI, cS, cI, cS]
    repeat' apply And.intro
    all_goals
      refine call_some (w_laws_toCountedRelation a k_a (by omega)) rfl (by simp) fun n1 hs1 r1 hn1 hm1 hp1 hr1 => ?_
      obtain ⟨y1, rfl, p1, k1, G1⟩ := hp1
      have u1 : ∀ g ∈ idsL (cCnt y1), g < hs1 := fun g hg => hr1 g (by first | (rw [ids_agg]; exact hg) | (simpa only [V.ids, idsL_cS] using hg))
      simp at hn1
      have e1 : wtTCnt y1 = wtTCnt a := by rw [wtTCnt_pl, wtTCnt_pl, p1]
      simp [s8_14, s8_16, cCnt, cI, cS, cI, cS]
      repeat' apply And.intro
      all_goals
        refine call_some (w_laws_toCountedRelation b k_b (by omega)) rfl (by simp) fun n2 hs2 r2 hn2 hm2 hp2 hr2 => ?_
        obtain ⟨y2, rfl, p2, k2, G2⟩ := hp2
        have u2 : ∀ g ∈ idsL (cCnt y2), g < hs2 := fun g hg => hr2 g (by first | (rw [ids_agg]; exact hg) | (simpa only [V.ids, idsL_cS] using hg))
        simp at hn2
        have e2 : wtTCnt y2 = wtTCnt b := by rw [wtTCnt_pl, wtTCnt_pl, p2]
        simp [s8_14, s8_16, cCnt, cI, cS, cI, cS]
        repeat' apply And.intro
        all_goals
          refine call_some (VC.track (VC.to (w_spec_AddCounted (plCnt y1) (plCnt y2) ) (show _ = V.tup [.agg ((eCnt (addCP (plCnt a) (plCnt b))).map V.d), .d (.bool (addCB (plCnt a) (plCnt b)))] by rw [p1, p2])) (by simp [er_I, er_SI, er_Str, er_File, er_Tab, er_Db, er_Delta, er_Atom, er_VRel, eCnt, plCnt, plI, cP, pS, plI]) (by simp [V.pn, pnVL])) rfl (by simp) fun n3 hs3 r3 hn3 hm3 hp3 hr3 => ?_
          obtain ⟨hq3, ht3⟩ := hp3
          obtain ⟨x30, x31, rfl, q30, q31, t30, t31⟩ := rp_tup2 hq3 ht3
          obtain ⟨w0, rfl, pw0⟩ := rp_agg tk_Cnt q30 t30
          obtain rfl := rp_flat q31 rfl
          have uw0 : ∀ g ∈ idsL (cCnt w0), g < hs3 := fun g hg => hr3 g (by simp only [V.ids, idsVL, ids_agg, idsVL_map_d, idsL_cS, List.mem_append] at hg ⊢; simp [hg])
          simp at hn3
          clear hr3
          simp [s8_14, s8_16, cCnt, cI, cS, cI, cS]
          exact hK w0 _ ⟨pw0, uw0⟩ rfl rfl (by simp <;> omega) (by simp [cCnt, cI, cS, cI, cS]) (by simp [cCnt, cI, cS, cI, cS])
  intro w0 hsw tw mw hw hhw
  obtain ⟨pw0, uw0⟩ := hw
  simp [s8_14, s8_16, cCnt, cI, cS, cI, cS]
  refine call_some (w_laws_toCountedRelation a k_a (by omega)) rfl (by simp) fun n4 hs4 r4 hn4 hm4 hp4 hr4 => ?_
  obtain ⟨y4, rfl, p4, k4, G4⟩ := hp4
  have u4 : ∀ g ∈ idsL (cCnt y4), g < hs4 := fun g hg => hr4 g (by first | (rw [ids_agg]; exact hg) | (simpa only [V.ids, idsL_cS] using hg))
  simp at hn4
  have e4 : wtTCnt y4 = wtTCnt a := by rw [wtTCnt_pl, wtTCnt_pl, p4]
  simp [s8_14, s8_16, cCnt, cI, cS, cI, cS]
  refine call_some (w_laws_toCountedRelation b k_b (by omega)) rfl (by simp) fun n5 hs5 r5 hn5 hm5 hp5 hr5 => ?_
  obtain ⟨y5, rfl, p5, k5, G5⟩ := hp5
  have u5 : ∀ g ∈ idsL (cCnt y5), g < hs5 := fun g hg => hr5 g (by first | (rw [ids_agg]; exact hg) | (simpa only [V.ids, idsL_cS] using hg))
  simp at hn5
  have e5 : wtTCnt y5 = wtTCnt b := by rw [wtTCnt_pl, wtTCnt_pl, p5]
  simp [s8_14, s8_16, cCnt, cI, cS, cI, cS]
  refine call_some (t_impl_AddCounted y4 y5 k4 k5) rfl (by simp) fun n6 hs6 r6 hn6 hm6 hp6 hr6 => ?_
  obtain ⟨g0, rfl, pg0, kg0, Gg0⟩ := hp6
  have ug0 : ∀ g ∈ idsL (cCnt g0), g < hs6 := fun g hg => hr6 g (by simp only [V.ids, idsVL, ids_agg, idsVL_map_d, idsL_cS, List.mem_append] at hg ⊢; simp [hg])
  have lg0 := Gg0.lo
  simp only [p4] at pg0
  simp only [p5] at pg0
  simp at hn6
  simp [s8_14, s8_16, cCnt, cI, cS, cI, cS, p4, p5]
  have hbg0 : 1 + (wtTCnt g0 : Int) ≤ 4611686018427387904 := by
    rw [wtTCnt_pl, pg0]
    have := wp_addCP (plCnt a) (plCnt b); omega
  refine call_pure (w_laws_eqCountedRelation g0 w0 kg0) rfl (by simp) rfl fun hs7 hh7 => ?_
  simp at hh7
  simp [s8_14, s8_16, cCnt, cI, cS, cI, cS, pg0, pw0]
  refine call_some (w_laws_toCountedRelation a k_a (by omega)) rfl (by simp) fun n8 hs8 r8 hn8 hm8 hp8 hr8 => ?_
  obtain ⟨y8, rfl, p8, k8, G8⟩ := hp8
  have u8 : ∀ g ∈ idsL (cCnt y8), g < hs8 := fun g hg => hr8 g (by first | (rw [ids_agg]; exact hg) | (simpa only [V.ids, idsL_cS] using hg))
  simp at hn8
  have e8 : wtTCnt y8 = wtTCnt a := by rw [wtTCnt_pl, wtTCnt_pl, p8]
  simp [s8_14, s8_16, cCnt, cI, cS, cI, cS]
  refine call_pure (w_laws_eqCountedRelation y4 y8 k4) rfl (by simp) rfl fun hs9 hh9 => ?_
  simp at hh9
  simp [s8_14, s8_16, cCnt, cI, cS, cI, cS, p4, p8]
  refine call_some (w_laws_toCountedRelation b k_b (by omega)) rfl (by simp) fun n10 hs10 r10 hn10 hm10 hp10 hr10 => ?_
  obtain ⟨y10, rfl, p10, k10, G10⟩ := hp10
  have u10 : ∀ g ∈ idsL (cCnt y10), g < hs10 := fun g hg => hr10 g (by first | (rw [ids_agg]; exact hg) | (simpa only [V.ids, idsL_cS] using hg))
  simp at hn10
  have e10 : wtTCnt y10 = wtTCnt b := by rw [wtTCnt_pl, wtTCnt_pl, p10]
  simp [s8_14, s8_16, cCnt, cI, cS, cI, cS]
  refine call_pure (w_laws_eqCountedRelation y5 y10 k5) rfl (by simp) rfl fun hs11 hh11 => ?_
  simp at hh11
  simp [s8_14, s8_16, cCnt, cI, cS, cI, cS, p5, p10]
  refine call_x (E35) (by simp) (by simp) (by simp) (fun q hq => .inl ?_) (w_laws_markCountedRelation y4 (1) (by omega) (by omega) G4.wh k4 G4.nd) fun n12 hs12 r12 cs12 ws12 hn12 hm12 hp12 hr12 hw12 => ?_
  · have := G4.lo q (by simpa only [idsL_cS] using hq)
    show B ≤ q
    omega
  obtain ⟨rfl, rfl⟩ := hp12
  simp at hn12
  have hre12 : reL (phi (idsL (cCnt y4)) (cCnt (mkTCnt y4 (1)))) (cCnt y4) = some (cCnt (mkTCnt y4 (1))) := re_sim (simT_Cnt G4.wh _) (marksTCnt.ids _ _) G4.nd
  have ho12_a : reL (phi (idsL (cCnt y4)) (cCnt (mkTCnt y4 (1)))) (cCnt a) = some (cCnt a) := re_same fun g hg h => by
    skip
    have h1 := G4.lo g (by simpa only [idsL_cS] using hg); have h2 := ua_a g h; omega
  have ho12_b : reL (phi (idsL (cCnt y4)) (cCnt (mkTCnt y4 (1)))) (cCnt b) = some (cCnt b) := re_same fun g hg h => by
    skip
    have h1 := G4.lo g (by simpa only [idsL_cS] using hg); have h2 := ua_b g h; omega
  have ho12_w0 : reL (phi (idsL (cCnt y4)) (cCnt (mkTCnt y4 (1)))) (cCnt w0) = some (cCnt w0) := re_same fun g hg h => by
    skip
    have h1 := G4.lo g (by simpa only [idsL_cS] using hg); have h2 := uw0 g h; omega
  have ho12_g0 : reL (phi (idsL (cCnt y4)) (cCnt (mkTCnt y4 (1)))) (cCnt g0) = some (cCnt g0) := re_same fun g hg h => by
    skip
    have h1 := u4 g (by simpa only [idsL_cS] using hg); have h2 := lg0 g h; omega
  have ho12_y5 : reL (phi (idsL (cCnt y4)) (cCnt (mkTCnt y4 (1)))) (cCnt y5) = some (cCnt y5) := re_same fun g hg h => by
    skip
    have h1 := u4 g (by simpa only [idsL_cS] using hg); have h2 := (G5.lo) g h; omega
  replace hre12 := reVL_map hre12
  replace ho12_a := reVL_map ho12_a
  replace ho12_b := reVL_map ho12_b
  replace ho12_w0 := reVL_map ho12_w0
  replace ho12_g0 := reVL_map ho12_g0
  replace ho12_y5 := reVL_map ho12_y5
  simp only [s8_14, s8_16, cCnt, cI, cS, cI, cS, List.cons_append, List.nil_append, List.map_cons, List.map_nil, reVL_cons, reVL_nil, List.cons.injEq, and_true, reV_int, reV_str, true_and, mkTCnt] at hre12 ho12_a ho12_b ho12_w0 ho12_g0 ho12_y5
  simp [hre12, ho12_a, ho12_b, ho12_w0, ho12_g0, ho12_y5, s8_14, s8_16, cCnt, cI, cS, cI, cS, mkTCnt]
  refine call_x (E35) (by simp) (by simp) (by simp) (fun q hq => .inl ?_) (w_laws_markCountedRelation y5 (1 + wtTCnt y4) (by omega) (by omega) G5.wh k5 G5.nd) fun n13 hs13 r13 cs13 ws13 hn13 hm13 hp13 hr13 hw13 => ?_
  · have := G5.lo q (by simpa only [idsL_cS] using hq)
    show B ≤ q
    omega
  obtain ⟨rfl, rfl⟩ := hp13
  simp at hn13
  have hre13 : reL (phi (idsL (cCnt y5)) (cCnt (mkTCnt y5 (1 + wtTCnt y4)))) (cCnt y5) = some (cCnt (mkTCnt y5 (1 + wtTCnt y4))) := re_sim (simT_Cnt G5.wh _) (marksTCnt.ids _ _) G5.nd
  have ho13_a : reL (phi (idsL (cCnt y5)) (cCnt (mkTCnt y5 (1 + wtTCnt y4)))) (cCnt a) = some (cCnt a) := re_same fun g hg h => by
    skip
    have h1 := G5.lo g (by simpa only [idsL_cS] using hg); have h2 := ua_a g h; omega
  have ho13_b : reL (phi (idsL (cCnt y5)) (cCnt (mkTCnt y5 (1 + wtTCnt y4)))) (cCnt b) = some (cCnt b) := re_same fun g hg h => by
    skip
    have h1 := G5.lo g (by simpa only [idsL_cS] using hg); have h2 := ua_b g h; omega
  have ho13_w0 : reL (phi (idsL (cCnt y5)) (cCnt (mkTCnt y5 (1 + wtTCnt y4)))) (cCnt w0) = some (cCnt w0) := re_same fun g hg h => by
    skip
    have h1 := G5.lo g (by simpa only [idsL_cS] using hg); have h2 := uw0 g h; omega
  have ho13_g0 : reL (phi (idsL (cCnt y5)) (cCnt (mkTCnt y5 (1 + wtTCnt y4)))) (cCnt g0) = some (cCnt g0) := re_same fun g hg h => by
    skip
    have h1 := u5 g (by simpa only [idsL_cS] using hg); have h2 := lg0 g h; omega
  have ho13_y4 : reL (phi (idsL (cCnt y5)) (cCnt (mkTCnt y5 (1 + wtTCnt y4)))) (cCnt (mkTCnt y4 (1))) = some (cCnt (mkTCnt y4 (1))) := re_same fun g hg h => by
    rw [marksTCnt.ids] at h
    have h1 := G5.lo g (by simpa only [idsL_cS] using hg); have h2 := u4 g h; omega
  replace hre13 := reVL_map hre13
  replace ho13_a := reVL_map ho13_a
  replace ho13_b := reVL_map ho13_b
  replace ho13_w0 := reVL_map ho13_w0
  replace ho13_g0 := reVL_map ho13_g0
  replace ho13_y4 := reVL_map ho13_y4
  simp only [s8_14, s8_16, cCnt, cI, cS, cI, cS, List.cons_append, List.nil_append, List.map_cons, List.map_nil, reVL_cons, reVL_nil, List.cons.injEq, and_true, reV_int, reV_str, true_and, mkTCnt] at hre13 ho13_a ho13_b ho13_w0 ho13_g0 ho13_y4
  simp [hre13, ho13_a, ho13_b, ho13_w0, ho13_g0, ho13_y4, s8_14, s8_16, cCnt, cI, cS, cI, cS, mkTCnt]
  simp [show ¬ (1 + wtTCnt y4 + wtTCnt y5 : Int) < 0 by omega, show (0 : Int) ≤ 1 + wtTCnt y4 + wtTCnt y5 by omega]
  refine call_pure (w_laws_eqCountedRelation g0 w0 kg0) rfl (by simp) rfl fun hs14 hh14 => ?_
  simp at hh14
  simp [s8_14, s8_16, cCnt, cI, cS, cI, cS, pg0, pw0]
  refine call_x (E35) (by simp) (by simp) (by simp) (fun q hq => .inl ?_) (w_laws_markCountedRelation g0 (1) (by omega) (by omega) Gg0.wh kg0 Gg0.nd) fun n15 hs15 r15 cs15 ws15 hn15 hm15 hp15 hr15 hw15 => ?_
  · have := Gg0.lo q (by simpa only [idsL_cS] using hq)
    show B ≤ q
    omega
  obtain ⟨rfl, rfl⟩ := hp15
  simp at hn15
  have hre15 : reL (phi (idsL (cCnt g0)) (cCnt (mkTCnt g0 (1)))) (cCnt g0) = some (cCnt (mkTCnt g0 (1))) := re_sim (simT_Cnt Gg0.wh _) (marksTCnt.ids _ _) Gg0.nd
  have ho15_a : reL (phi (idsL (cCnt g0)) (cCnt (mkTCnt g0 (1)))) (cCnt a) = some (cCnt a) := re_same fun g hg h => by
    skip
    have h1 := Gg0.lo g (by simpa only [idsL_cS] using hg); have h2 := ua_a g h; omega
  have ho15_b : reL (phi (idsL (cCnt g0)) (cCnt (mkTCnt g0 (1)))) (cCnt b) = some (cCnt b) := re_same fun g hg h => by
    skip
    have h1 := Gg0.lo g (by simpa only [idsL_cS] using hg); have h2 := ua_b g h; omega
  have ho15_w0 : reL (phi (idsL (cCnt g0)) (cCnt (mkTCnt g0 (1)))) (cCnt w0) = some (cCnt w0) := re_same fun g hg h => by
    skip
    have h1 := Gg0.lo g (by simpa only [idsL_cS] using hg); have h2 := uw0 g h; omega
  have ho15_y4 : reL (phi (idsL (cCnt g0)) (cCnt (mkTCnt g0 (1)))) (cCnt (mkTCnt y4 (1))) = some (cCnt (mkTCnt y4 (1))) := re_same fun g hg h => by
    rw [marksTCnt.ids] at h
    have h1 := Gg0.lo g (by simpa only [idsL_cS] using hg); have h2 := u4 g h; omega
  have ho15_y5 : reL (phi (idsL (cCnt g0)) (cCnt (mkTCnt g0 (1)))) (cCnt (mkTCnt y5 (1 + wtTCnt y4))) = some (cCnt (mkTCnt y5 (1 + wtTCnt y4))) := re_same fun g hg h => by
    rw [marksTCnt.ids] at h
    have h1 := Gg0.lo g (by simpa only [idsL_cS] using hg); have h2 := u5 g h; omega
  replace hre15 := reVL_map hre15
  replace ho15_a := reVL_map ho15_a
  replace ho15_b := reVL_map ho15_b
  replace ho15_w0 := reVL_map ho15_w0
  replace ho15_y4 := reVL_map ho15_y4
  replace ho15_y5 := reVL_map ho15_y5
  simp only [s8_14, s8_16, cCnt, cI, cS, cI, cS, List.cons_append, List.nil_append, List.map_cons, List.map_nil, reVL_cons, reVL_nil, List.cons.injEq, and_true, reV_int, reV_str, true_and, mkTCnt] at hre15 ho15_a ho15_b ho15_w0 ho15_y4 ho15_y5
  simp [hre15, ho15_a, ho15_b, ho15_w0, ho15_y4, ho15_y5, s8_14, s8_16, cCnt, cI, cS, cI, cS, mkTCnt]
  refine call_pure (w_laws_heldCountedRelation (mkTCnt g0 (1)) (1) (by omega) (by rw [marksTCnt.wt]; omega) (ok_mkTCnt _ _ kg0)) rfl (by simp) rfl fun hs16 hh16 => ?_
  simp at hh16
  rw [marksTCnt.hl, marksTCnt.wt]
  simp [show ¬ (1 + wtTCnt g0 : Int) < 0 by omega]
  refine cutT (X := Cnt) (fun h0 _ => plCnt h0 = addCP (plCnt a) (plCnt b) ∧ okCnt h0) (fun h0 => [(6, .ptr 6 0 0), (10, .ptr 10 0 0), (15, .ptr 15 0 0), (7, .d (.bool (addCB (plCnt a) (plCnt b)))), (11, .d (.bool (addCB (plCnt a) (plCnt b)))), (16, .d (.bool (addCB (plCnt a) (plCnt b)))), (13, .d (.int .i64 (1 + wtTCnt g0)))]) (fun h0 => [(6, some (.box ((cCnt w0).map V.d))), (10, some (.box ((cCnt (mkTCnt g0 (1))).map V.d))), (15, some (.box ((cCnt h0).map V.d)))]) ?_ ?_
  · intro K hK
    simp [s8_31, cCnt, cI, cS, cI, cS]
    repeat' apply And.intro
    all_goals
      refine call_some (w_laws_toCountedRelation a k_a (by omega)) rfl (by simp) fun n17 hs17 r17 hn17 hm17 hp17 hr17 => ?_
      obtain ⟨y17, rfl, p17, k17, G17⟩ := hp17
      have u17 : ∀ g ∈ idsL (cCnt y17), g < hs17 := fun g hg => hr17 g (by first | (rw [ids_agg]; exact hg) | (simpa only [V.ids, idsL_cS] using hg))
      simp at hn17
      have e17 : wtTCnt y17 = wtTCnt a := by rw [wtTCnt_pl, wtTCnt_pl, p17]
      simp [s8_14, s8_16, cCnt, cI, cS, cI, cS]
      repeat' apply And.intro
      all_goals
        refine call_some (w_laws_toCountedRelation b k_b (by omega)) rfl (by simp) fun n18 hs18 r18 hn18 hm18 hp18 hr18 => ?_
        obtain ⟨y18, rfl, p18, k18, G18⟩ := hp18
        have u18 : ∀ g ∈ idsL (cCnt y18), g < hs18 := fun g hg => hr18 g (by first | (rw [ids_agg]; exact hg) | (simpa only [V.ids, idsL_cS] using hg))
        simp at hn18
        have e18 : wtTCnt y18 = wtTCnt b := by rw [wtTCnt_pl, wtTCnt_pl, p18]
        simp [s8_14, s8_16, cCnt, cI, cS, cI, cS]
        repeat' apply And.intro
        all_goals
          refine call_some (t_impl_AddCounted y17 y18 k17 k18) rfl (by simp) fun n19 hs19 r19 hn19 hm19 hp19 hr19 => ?_
          obtain ⟨h0, rfl, ph0, kh0, Gh0⟩ := hp19
          have uh0 : ∀ g ∈ idsL (cCnt h0), g < hs19 := fun g hg => hr19 g (by simp only [V.ids, idsVL, ids_agg, idsVL_map_d, idsL_cS, List.mem_append] at hg ⊢; simp [hg])
          have lh0 := Gh0.lo
          simp only [p17] at ph0
          simp only [p18] at ph0
          simp at hn19
          simp [s8_14, s8_16, cCnt, cI, cS, cI, cS, p17, p18]
          exact hK h0 _ ⟨ph0, kh0⟩ rfl rfl (by simp <;> omega) (by simp [cCnt, cI, cS, cI, cS, mkTCnt, p17, p18]) (by simp [cCnt, cI, cS, cI, cS, mkTCnt])
  intro h0 hsh th mh hh hhh
  obtain ⟨ph0, kh0⟩ := hh
  simp [s8_14, s8_16, cCnt, cI, cS, cI, cS, mkTCnt]
  refine call_pure (w_laws_eqCountedRelation h0 w0 kh0) rfl (by simp) rfl fun hs20 hh20 => ?_
  simp at hh20
  simp [s8_14, s8_16, cCnt, cI, cS, cI, cS, ph0, pw0]
  refine call_pure (w_laws_heldCountedRelation (mkTCnt g0 (1)) (1) (by omega) (by rw [marksTCnt.wt]; omega) (ok_mkTCnt _ _ kg0)) rfl (by simp) rfl fun hs21 hh21 => ?_
  simp at hh21
  rw [marksTCnt.hl, marksTCnt.wt]
  simp [show ¬ (1 + wtTCnt g0 : Int) < 0 by omega]

end Go.Proofs.Ytjfehcpompohcaa

namespace Go.Proofs.Ytjfehcpompohcaa
open Go.Vs Go.Proofs Go
set_option maxRecDepth 100000
set_option maxHeartbeats 1000000

theorem w_laws_FnExactProjectCounted (a : Cnt) (c : Sl (Int)) (k_a : okCnt a) (k_c : okS okI c) :
   VC Try.prog 9 [.agg ((cCnt a).map V.d), .d (dSl cI c)] (fun _ r => r = .d (.bool true)) := by
  refine VC.ofB E s9 (by kernel_rfl) Try.func9 (by rfl) (by kernel_rfl) (by simp [Try.f9]) (by simp [Try.f9]) s9_ok fun B hB => ?_
  have ua_a : ∀ g ∈ idsL (cCnt a), g < B := fun g hg => hB g (by simp only [idsVL, ids_agg, idsVL_map_d, V.ids, idsL_cS, List.mem_append] at hg ⊢; simp [hg])
  have ua_c : ∀ g ∈ idsL (cS cI c), g < B := fun g hg => hB g (by simp only [idsVL, ids_agg, idsVL_map_d, V.ids, idsL_cS, List.mem_append] at hg ⊢; simp [hg])
  have hd_c : dSl cI c = D.sl c.id c.T (c.xs.map cI) := rfl
  by_cases q_c : (1048576 : Int) < c.xs.length
  case pos => simp [Try.f9, s9_13, s9_13, cCnt, cI, cS, cI, cS, dInts, hd_c, dSl, q_c]
  simp [Try.f9, s9_13, s9_13, cCnt, cI, cS, cI, cS, dInts, hd_c, q_c]
  refine call_pure (w_laws_szCountedRelation a _ (by omega) (by omega) k_a) rfl (by simp) rfl fun hz_a zz_a => ?_
  simp at zz_a
  by_cases s_a : (swCnt a : Int) ≤ 1048576
  case neg =>
    rw [szv_neg (by omega)]; simp
    all_goals exact fun h => absurd h (by decide)
  rw [szv_pos s_a]
  simp [show ¬ (1048576 : Int) - swCnt a < 0 by omega, show ¬ (1048576 : Int) < swCnt a by omega, s_a]
  have hw_a := wbT_Cnt a
  have hw_c := wt_ints c
  refine call_some (w_laws_toCountedRelation a k_a (by omega)) rfl (by simp) fun n1 hs1 r1 hn1 hm1 hp1 hr1 => ?_
  obtain ⟨y1, rfl, p1, k1, G1⟩ := hp1
  have u1 : ∀ g ∈ idsL (cCnt y1), g < hs1 := fun g hg => hr1 g (by first | (rw [ids_agg]; exact hg) | (simpa only [V.ids, idsL_cS] using hg))
  simp at hn1
  have e1 : wtTCnt y1 = wtTCnt a := by rw [wtTCnt_pl, wtTCnt_pl, p1]
  simp [s9_13, cCnt, cI, cS, cI, cS, dInts, hd_c]
  refine call_some (w_laws_toIntS c k_c (by omega)) rfl (by simp) fun n2 hs2 r2 hn2 hm2 hp2 hr2 => ?_
  obtain ⟨y2, rfl, p2, k2, G2⟩ := hp2
  have u2 : ∀ g ∈ idsL (cS cI y2), g < hs2 := fun g hg => hr2 g (by first | (rw [ids_agg]; exact hg) | (simpa only [V.ids, idsL_cS] using hg))
  simp at hn2
  have e2 : wtS wtI y2 = wtS wtI c := by rw [wt_S_I_pl, wt_S_I_pl, p2]
  simp [s9_13, cCnt, cI, cS, cI, cS, dInts, hd_c]
  refine call_some (VC.track (VC.to (w_spec_ProjectCounted (plCnt y1) (plS plI y2) (by have := congrArg List.length p2; simp only [plS, List.length_map] at this ⊢; omega)) (show _ = V.tup [.agg ((eCnt (projP (plCnt a) (plS plI c))).map V.d), .d (.bool (projB (plCnt a) (plS plI c)))] by rw [p1, p2])) (by simp [er_I, er_SI, er_Str, er_File, er_Tab, er_Db, er_Delta, er_Atom, er_VRel, eCnt, plCnt, plI, cP, pS, plI]) (by simp [V.pn, pnVL])) rfl (by simp) fun n3 hs3 r3 hn3 hm3 hp3 hr3 => ?_
  obtain ⟨hq3, ht3⟩ := hp3
  obtain ⟨x30, x31, rfl, q30, q31, t30, t31⟩ := rp_tup2 hq3 ht3
  obtain ⟨w0, rfl, pw0⟩ := rp_agg tk_Cnt q30 t30
  obtain rfl := rp_flat q31 rfl
  have uw0 : ∀ g ∈ idsL (cCnt w0), g < hs3 := fun g hg => hr3 g (by simp only [V.ids, idsVL, ids_agg, idsVL_map_d, idsL_cS, List.mem_append] at hg ⊢; simp [hg])
  simp at hn3
  clear hr3
  simp [s9_13, cCnt, cI, cS, cI, cS, dInts, hd_c]
  refine call_some (w_laws_toCountedRelation a k_a (by omega)) rfl (by simp) fun n4 hs4 r4 hn4 hm4 hp4 hr4 => ?_
  obtain ⟨y4, rfl, p4, k4, G4⟩ := hp4
  have u4 : ∀ g ∈ idsL (cCnt y4), g < hs4 := fun g hg => hr4 g (by first | (rw [ids_agg]; exact hg) | (simpa only [V.ids, idsL_cS] using hg))
  simp at hn4
  have e4 : wtTCnt y4 = wtTCnt a := by rw [wtTCnt_pl, wtTCnt_pl, p4]
  simp [s9_13, cCnt, cI, cS, cI, cS, dInts, hd_c]
  refine call_some (w_laws_toIntS c k_c (by omega)) rfl (by simp) fun n5 hs5 r5 hn5 hm5 hp5 hr5 => ?_
  obtain ⟨y5, rfl, p5, k5, G5⟩ := hp5
  have u5 : ∀ g ∈ idsL (cS cI y5), g < hs5 := fun g hg => hr5 g (by first | (rw [ids_agg]; exact hg) | (simpa only [V.ids, idsL_cS] using hg))
  simp at hn5
  have e5 : wtS wtI y5 = wtS wtI c := by rw [wt_S_I_pl, wt_S_I_pl, p5]
  simp [s9_13, cCnt, cI, cS, cI, cS, dInts, hd_c]
  refine call_some (t_impl_ProjectCounted y4 y5 k4 k5) rfl (by simp) fun n6 hs6 r6 hn6 hm6 hp6 hr6 => ?_
  obtain ⟨g0, rfl, pg0, kg0, Gg0⟩ := hp6
  have ug0 : ∀ g ∈ idsL (cCnt g0), g < hs6 := fun g hg => hr6 g (by simp only [V.ids, idsVL, ids_agg, idsVL_map_d, idsL_cS, List.mem_append] at hg ⊢; simp [hg])
  have lg0 := Gg0.lo
  simp only [p4] at pg0
  simp only [p5] at pg0
  simp at hn6
  simp [s9_13, cCnt, cI, cS, cI, cS, dInts, hd_c, p4, p5]
  have hbg0 : 1 + (wtTCnt g0 : Int) ≤ 4611686018427387904 := by
    rw [wtTCnt_pl, pg0]
    have := wp_projP (plCnt a) (plS plI c); omega
  refine call_pure (w_laws_eqCountedRelation g0 w0 kg0) rfl (by simp) rfl fun hs7 hh7 => ?_
  simp at hh7
  simp [s9_13, cCnt, cI, cS, cI, cS, dInts, hd_c, pg0, pw0]
  refine call_some (w_laws_toCountedRelation a k_a (by omega)) rfl (by simp) fun n8 hs8 r8 hn8 hm8 hp8 hr8 => ?_
  obtain ⟨y8, rfl, p8, k8, G8⟩ := hp8
  have u8 : ∀ g ∈ idsL (cCnt y8), g < hs8 := fun g hg => hr8 g (by first | (rw [ids_agg]; exact hg) | (simpa only [V.ids, idsL_cS] using hg))
  simp at hn8
  have e8 : wtTCnt y8 = wtTCnt a := by rw [wtTCnt_pl, wtTCnt_pl, p8]
  simp [s9_13, cCnt, cI, cS, cI, cS, dInts, hd_c]
  refine call_pure (w_laws_eqCountedRelation y4 y8 k4) rfl (by simp) rfl fun hs9 hh9 => ?_
  simp at hh9
  simp [s9_13, cCnt, cI, cS, cI, cS, dInts, hd_c, p4, p8]
  refine call_some (w_laws_toIntS c k_c (by omega)) rfl (by simp) fun n10 hs10 r10 hn10 hm10 hp10 hr10 => ?_
  obtain ⟨y10, rfl, p10, k10, G10⟩ := hp10
  have u10 : ∀ g ∈ idsL (cS cI y10), g < hs10 := fun g hg => hr10 g (by first | (rw [ids_agg]; exact hg) | (simpa only [V.ids, idsL_cS] using hg))
  simp at hn10
  have e10 : wtS wtI y10 = wtS wtI c := by rw [wt_S_I_pl, wt_S_I_pl, p10]
  simp [s9_13, cCnt, cI, cS, cI, cS, dInts, hd_c]
  refine call_pure (w_laws_eqIntS y5 y10 k5) rfl (by simp) rfl fun hs11 hh11 => ?_
  simp at hh11
  simp [s9_13, cCnt, cI, cS, cI, cS, dInts, hd_c, p5, p10]
  refine call_x (E35) (by simp) (by simp) (by simp) (fun q hq => .inl ?_) (w_laws_markCountedRelation y4 (1) (by omega) (by omega) G4.wh k4 G4.nd) fun n12 hs12 r12 cs12 ws12 hn12 hm12 hp12 hr12 hw12 => ?_
  · have := G4.lo q (by simpa only [idsL_cS] using hq)
    show B ≤ q
    omega
  obtain ⟨rfl, rfl⟩ := hp12
  simp at hn12
  have hre12 : reL (phi (idsL (cCnt y4)) (cCnt (mkTCnt y4 (1)))) (cCnt y4) = some (cCnt (mkTCnt y4 (1))) := re_sim (simT_Cnt G4.wh _) (marksTCnt.ids _ _) G4.nd
  have ho12_a : reL (phi (idsL (cCnt y4)) (cCnt (mkTCnt y4 (1)))) (cCnt a) = some (cCnt a) := re_same fun g hg h => by
    skip
    have h1 := G4.lo g (by simpa only [idsL_cS] using hg); have h2 := ua_a g h; omega
  have ho12_c : reL (phi (idsL (cCnt y4)) (cCnt (mkTCnt y4 (1)))) (cS cI c) = some (cS cI c) := re_same fun g hg h => by
    skip
    have h1 := G4.lo g (by simpa only [idsL_cS] using hg); have h2 := ua_c g h; omega
  have ho12_w0 : reL (phi (idsL (cCnt y4)) (cCnt (mkTCnt y4 (1)))) (cCnt w0) = some (cCnt w0) := re_same fun g hg h => by
    skip
    have h1 := G4.lo g (by simpa only [idsL_cS] using hg); have h2 := uw0 g h; omega
  have ho12_g0 : reL (phi (idsL (cCnt y4)) (cCnt (mkTCnt y4 (1)))) (cCnt g0) = some (cCnt g0) := re_same fun g hg h => by
    skip
    have h1 := u4 g (by simpa only [idsL_cS] using hg); have h2 := lg0 g h; omega
  have ho12_y5 : reL (phi (idsL (cCnt y4)) (cCnt (mkTCnt y4 (1)))) (cS cI y5) = some (cS cI y5) := re_same fun g hg h => by
    skip
    have h1 := u4 g (by simpa only [idsL_cS] using hg); have h2 := (G5.lo) g h; omega
  replace hre12 := reVL_map hre12
  replace ho12_a := reVL_map ho12_a
  replace ho12_c := reVL_map ho12_c
  replace ho12_w0 := reVL_map ho12_w0
  replace ho12_g0 := reVL_map ho12_g0
  replace ho12_y5 := reVL_map ho12_y5
  simp only [s9_13, cCnt, cI, cS, cI, cS, dInts, hd_c, List.cons_append, List.nil_append, List.map_cons, List.map_nil, reVL_cons, reVL_nil, List.cons.injEq, and_true, reV_int, reV_str, true_and, mkTCnt] at hre12 ho12_a ho12_c ho12_w0 ho12_g0 ho12_y5
  simp [hre12, ho12_a, ho12_c, ho12_w0, ho12_g0, ho12_y5, s9_13, cCnt, cI, cS, cI, cS, dInts, hd_c, mkTCnt]
  refine call_x (E44) (by simp) (by simp) (by simp) (fun q hq => .inl ?_) (w_laws_markIntS y5 (1 + wtTCnt y4) (by omega) (by omega) G5.wh k5 (by have := G5.nd; rwa [idsL_cS] at this)) fun n13 hs13 r13 cs13 ws13 hn13 hm13 hp13 hr13 hw13 => ?_
  · have := G5.lo q (by simpa only [idsL_cS] using hq)
    show B ≤ q
    omega
  obtain ⟨rfl, rfl⟩ := hp13
  simp at hn13
  have hre13 : reL (phi (dSl cI y5).ids [dSl cI (mkS (mkI) (wtI) y5 (1 + wtTCnt y4))]) (cS cI y5) = some (cS cI (mkS (mkI) (wtI) y5 (1 + wtTCnt y4))) := by
    have := re_sim (sim_mk marksI G5.wh (1 + wtTCnt y4)) ((marksS marksI).ids _ _) (by rw [idsL_cS]; exact (by have := G5.nd; rwa [idsL_cS] at this))
    rw [idsL_cS] at this
    exact this
  have ho13_a : reL (phi (dSl cI y5).ids [dSl cI (mkS (mkI) (wtI) y5 (1 + wtTCnt y4))]) (cCnt a) = some (cCnt a) := re_same fun g hg h => by
    skip
    have h1 := G5.lo g (by simpa only [idsL_cS] using hg); have h2 := ua_a g h; omega
  have ho13_c : reL (phi (dSl cI y5).ids [dSl cI (mkS (mkI) (wtI) y5 (1 + wtTCnt y4))]) (cS cI c) = some (cS cI c) := re_same fun g hg h => by
    skip
    have h1 := G5.lo g (by simpa only [idsL_cS] using hg); have h2 := ua_c g h; omega
  have ho13_w0 : reL (phi (dSl cI y5).ids [dSl cI (mkS (mkI) (wtI) y5 (1 + wtTCnt y4))]) (cCnt w0) = some (cCnt w0) := re_same fun g hg h => by
    skip
    have h1 := G5.lo g (by simpa only [idsL_cS] using hg); have h2 := uw0 g h; omega
  have ho13_g0 : reL (phi (dSl cI y5).ids [dSl cI (mkS (mkI) (wtI) y5 (1 + wtTCnt y4))]) (cCnt g0) = some (cCnt g0) := re_same fun g hg h => by
    skip
    have h1 := u5 g (by simpa only [idsL_cS] using hg); have h2 := lg0 g h; omega
  have ho13_y4 : reL (phi (dSl cI y5).ids [dSl cI (mkS (mkI) (wtI) y5 (1 + wtTCnt y4))]) (cCnt (mkTCnt y4 (1))) = some (cCnt (mkTCnt y4 (1))) := re_same fun g hg h => by
    rw [marksTCnt.ids] at h
    have h1 := G5.lo g (by simpa only [idsL_cS] using hg); have h2 := u4 g h; omega
  replace hre13 := reVL_map hre13
  replace ho13_a := reVL_map ho13_a
  replace ho13_c := reVL_map ho13_c
  replace ho13_w0 := reVL_map ho13_w0
  replace ho13_g0 := reVL_map ho13_g0
  replace ho13_y4 := reVL_map ho13_y4
  simp only [s9_13, cCnt, cI, cS, cI, cS, dInts, hd_c, List.cons_append, List.nil_append, List.map_cons, List.map_nil, reVL_cons, reVL_nil, List.cons.injEq, and_true, reV_int, reV_str, true_and, mkTCnt] at hre13 ho13_a ho13_c ho13_w0 ho13_g0 ho13_y4
  simp [hre13, ho13_a, ho13_c, ho13_w0, ho13_g0, ho13_y4, s9_13, cCnt, cI, cS, cI, cS, dInts, hd_c, mkTCnt]
  simp [show ¬ (1 + wtTCnt y4 + wtS wtI y5 : Int) < 0 by omega, show (0 : Int) ≤ 1 + wtTCnt y4 + wtS wtI y5 by omega]
  refine call_pure (w_laws_eqCountedRelation g0 w0 kg0) rfl (by simp) rfl fun hs14 hh14 => ?_
  simp at hh14
  simp [s9_13, cCnt, cI, cS, cI, cS, dInts, hd_c, pg0, pw0]
  refine call_x (E35) (by simp) (by simp) (by simp) (fun q hq => .inl ?_) (w_laws_markCountedRelation g0 (1) (by omega) (by omega) Gg0.wh kg0 Gg0.nd) fun n15 hs15 r15 cs15 ws15 hn15 hm15 hp15 hr15 hw15 => ?_
  · have := Gg0.lo q (by simpa only [idsL_cS] using hq)
    show B ≤ q
    omega
  obtain ⟨rfl, rfl⟩ := hp15
  simp at hn15
  have hre15 : reL (phi (idsL (cCnt g0)) (cCnt (mkTCnt g0 (1)))) (cCnt g0) = some (cCnt (mkTCnt g0 (1))) := re_sim (simT_Cnt Gg0.wh _) (marksTCnt.ids _ _) Gg0.nd
  have ho15_a : reL (phi (idsL (cCnt g0)) (cCnt (mkTCnt g0 (1)))) (cCnt a) = some (cCnt a) := re_same fun g hg h => by
    skip
    have h1 := Gg0.lo g (by simpa only [idsL_cS] using hg); have h2 := ua_a g h; omega
  have ho15_c : reL (phi (idsL (cCnt g0)) (cCnt (mkTCnt g0 (1)))) (cS cI c) = some (cS cI c) := re_same fun g hg h => by
    skip
    have h1 := Gg0.lo g (by simpa only [idsL_cS] using hg); have h2 := ua_c g h; omega
  have ho15_w0 : reL (phi (idsL (cCnt g0)) (cCnt (mkTCnt g0 (1)))) (cCnt w0) = some (cCnt w0) := re_same fun g hg h => by
    skip
    have h1 := Gg0.lo g (by simpa only [idsL_cS] using hg); have h2 := uw0 g h; omega
  have ho15_y4 : reL (phi (idsL (cCnt g0)) (cCnt (mkTCnt g0 (1)))) (cCnt (mkTCnt y4 (1))) = some (cCnt (mkTCnt y4 (1))) := re_same fun g hg h => by
    rw [marksTCnt.ids] at h
    have h1 := Gg0.lo g (by simpa only [idsL_cS] using hg); have h2 := u4 g h; omega
  have ho15_y5 : reL (phi (idsL (cCnt g0)) (cCnt (mkTCnt g0 (1)))) (cS cI (mkS (mkI) (wtI) y5 (1 + wtTCnt y4))) = some (cS cI (mkS (mkI) (wtI) y5 (1 + wtTCnt y4))) := re_same fun g hg h => by
    rw [(marksS marksI).ids] at h
    have h1 := Gg0.lo g (by simpa only [idsL_cS] using hg); have h2 := u5 g h; omega
  replace hre15 := reVL_map hre15
  replace ho15_a := reVL_map ho15_a
  replace ho15_c := reVL_map ho15_c
  replace ho15_w0 := reVL_map ho15_w0
  replace ho15_y4 := reVL_map ho15_y4
  replace ho15_y5 := reVL_map ho15_y5
  simp only [s9_13, cCnt, cI, cS, cI, cS, dInts, hd_c, List.cons_append, List.nil_append, List.map_cons, List.map_nil, reVL_cons, reVL_nil, List.cons.injEq, and_true, reV_int, reV_str, true_and, mkTCnt] at hre15 ho15_a ho15_c ho15_w0 ho15_y4 ho15_y5
  simp [hre15, ho15_a, ho15_c, ho15_w0, ho15_y4, ho15_y5, s9_13, cCnt, cI, cS, cI, cS, dInts, hd_c, mkTCnt]
  refine call_pure (w_laws_heldCountedRelation (mkTCnt g0 (1)) (1) (by omega) (by rw [marksTCnt.wt]; omega) (ok_mkTCnt _ _ kg0)) rfl (by simp) rfl fun hs16 hh16 => ?_
  simp at hh16
  rw [marksTCnt.hl, marksTCnt.wt]
  simp [show ¬ (1 + wtTCnt g0 : Int) < 0 by omega]
  refine call_some (w_laws_toCountedRelation a k_a (by omega)) rfl (by simp) fun n17 hs17 r17 hn17 hm17 hp17 hr17 => ?_
  obtain ⟨y17, rfl, p17, k17, G17⟩ := hp17
  have u17 : ∀ g ∈ idsL (cCnt y17), g < hs17 := fun g hg => hr17 g (by first | (rw [ids_agg]; exact hg) | (simpa only [V.ids, idsL_cS] using hg))
  simp at hn17
  have e17 : wtTCnt y17 = wtTCnt a := by rw [wtTCnt_pl, wtTCnt_pl, p17]
  simp [s9_13, cCnt, cI, cS, cI, cS, dInts, hd_c]
  refine call_some (w_laws_toIntS c k_c (by omega)) rfl (by simp) fun n18 hs18 r18 hn18 hm18 hp18 hr18 => ?_
  obtain ⟨y18, rfl, p18, k18, G18⟩ := hp18
  have u18 : ∀ g ∈ idsL (cS cI y18), g < hs18 := fun g hg => hr18 g (by first | (rw [ids_agg]; exact hg) | (simpa only [V.ids, idsL_cS] using hg))
  simp at hn18
  have e18 : wtS wtI y18 = wtS wtI c := by rw [wt_S_I_pl, wt_S_I_pl, p18]
  simp [s9_13, cCnt, cI, cS, cI, cS, dInts, hd_c]
  refine call_some (t_impl_ProjectCounted y17 y18 k17 k18) rfl (by simp) fun n19 hs19 r19 hn19 hm19 hp19 hr19 => ?_
  obtain ⟨h0, rfl, ph0, kh0, Gh0⟩ := hp19
  have uh0 : ∀ g ∈ idsL (cCnt h0), g < hs19 := fun g hg => hr19 g (by simp only [V.ids, idsVL, ids_agg, idsVL_map_d, idsL_cS, List.mem_append] at hg ⊢; simp [hg])
  have lh0 := Gh0.lo
  simp only [p17] at ph0
  simp only [p18] at ph0
  simp at hn19
  simp [s9_13, cCnt, cI, cS, cI, cS, dInts, hd_c, p17, p18]
  refine call_pure (w_laws_eqCountedRelation h0 w0 kh0) rfl (by simp) rfl fun hs20 hh20 => ?_
  simp at hh20
  simp [s9_13, cCnt, cI, cS, cI, cS, dInts, hd_c, ph0, pw0]
  refine call_pure (w_laws_heldCountedRelation (mkTCnt g0 (1)) (1) (by omega) (by rw [marksTCnt.wt]; omega) (ok_mkTCnt _ _ kg0)) rfl (by simp) rfl fun hs21 hh21 => ?_
  simp at hh21
  rw [marksTCnt.hl, marksTCnt.wt]
  simp [show ¬ (1 + wtTCnt g0 : Int) < 0 by omega]

end Go.Proofs.Ytjfehcpompohcaa
