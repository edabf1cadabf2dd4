/-
  Q1B3: a part of a proof of this seat: the value-level semantics of Go code without maps, its walk rules, the frame of a row, facts of types, schedules, walks, plain lemmas (X5 X6 LAtomDelta). It holds of every program and state that its hypotheses name.
-/
import Derived.Test.YtdnbigokdclclaaGreatQ1B2
set_option linter.unusedSimpArgs false
set_option linter.unusedVariables false
set_option linter.unnecessarySimpa false
namespace Go.Proofs.YtdnbigokdclclaaGreat
open Go.Vs Go.Proofs Go
set_option maxRecDepth 100000
set_option maxHeartbeats 1000000

theorem mapT {α β : Type} (f : α → β) {l : List α} {i : Nat} {x : α} (h : l.take (i + 1) = l.take i ++ [x]) : (l.map f).take (i + 1) = (l.map f).take i ++ [f x] := by
  rw [← List.map_take, h, List.map_append, List.map_take]; rfl
theorem erLL_cP {α : Type} (c : α → List D) : ∀ l : List (List α), erLL (l.map (cP c)) = l.map (cP c)
  | [] => rfl
  | x :: l => by
    have := erLL_cP c l
    simp only [List.map_cons, erLL]
    rw [this]; rfl
theorem erLL_tk {α : Type} (c : α → List D) (l : List (List α)) (i : Nat) : erLL ((l.map (cP c)).take i) = (l.map (cP c)).take i := by
  rw [← List.map_take]; exact erLL_cP c _
section
attribute [local simp] plI_id plStr_id map_plI map_plStr pS cP cI
theorem w_spec_AtomDelta (d : PDb) (q : PQuery) (x : PDelta) (k : Int) (hz : szDb d) (hst : ∀ t ∈ d.tabs, t.name.length ≤ maxLen) (hsq : ∀ a ∈ q.atoms, a.rel.length ≤ maxLen) (hnm : x.name.length ≤ maxLen) :
   VC Tryz.prog 10 [.agg ((eDb d).map V.d), .agg ((eQuery q).map V.d), .agg ((eDelta x).map V.d), .d (.int .i64 k)] (fun _ r => r = .tup [.agg ((eCnt (adP d q x k)).map V.d), .d (.bool (adB d q x k))]) := by
  have hde : ∀ d : PDb, (eDb d).map V.d = [V.d (.pl (d.tabs.map eTab))] := fun d => by simp [eDb]
  have hqe : (eQuery q).map V.d = [V.d (.int .i64 q.n), V.d (.pl (q.atoms.map eAtom)), V.d (.pl (q.out.map cI))] := by simp [eQuery]
  have hxe : ∀ x : PDelta, (eDelta x).map V.d = [V.d (.str x.name), V.d (.int .i64 x.ins.ar), V.d (.pl (x.ins.rows.map (cP cI))), V.d (.int .i64 x.del.ar), V.d (.pl (x.del.rows.map (cP cI)))] := fun x => by simp [eDelta, eReln, cStr]
  have hno : adB d q x k = false → adP d q x k = ⟨0, [], []⟩ := fun h => by simp [adP, h]
  have hst2 := app_strs (x := x) hst
  refine VC.ofL EP s10 (by kernel_rfl) Tryz.func10 (by rfl) (by kernel_rfl) (by simp [Tryz.f10]) (by simp [Tryz.f10]) s10_ok fun B hl => ?_
  simp [Tryz.f10, s10_10, s10_12, s10_16, s10_19, s10_30, hde, hqe, hxe]
  refine call_p (w_spec_ApplyDelta d x hz hst hnm) (by simp [hde, hxe]) fun hs1 hh1 hl1 => ?_
  simp at hh1
  simp [hde, hqe, hxe, s10_10, s10_12, s10_16, s10_19, s10_30, ]
  refine call_p (w_spec_NormalizeDelta d x hst) (by simp [hde, hxe]) fun hs2 hh2 hl2 => ?_
  simp at hh2
  cases h1 : appB d x
  · have hn : adB d q x k = false := by simp [adB, adG, h1]
    simp [hn, hno hn, hde, hqe, hxe, eCnt, s10_10, s10_12, s10_16, s10_19, s10_30, ]
  simp [hde, hqe, hxe, s10_10, s10_12, s10_16, s10_19, s10_30, ]
  refine call_f (w_spec_IsQueryFor d q hst hsq) (by simp [hde, hqe]) rfl fun hs3 hh3 => ?_
  simp at hh3
  cases h2 : qryFor d q
  · have hn : adB d q x k = false := by simp [adB, adG, h2]
    simp [hn, hno hn, hde, hqe, hxe, eCnt, s10_10, s10_12, s10_16, s10_19, s10_30, ]
  have f := qf_of h2
  have ha4 := f.a4
  have h2e : qryFor (appP d x) q = true := by rw [qf_app f.dok h1]; exact h2
  simp [hde, hqe, hxe, s10_10, s10_12, s10_16, s10_19, s10_30, ]
  refine call_f (w_spec_IsQueryFor (appP d x) q hst2 hsq) (by simp [hde, hqe]) rfl fun hs4 hh4 => ?_
  simp at hh4
  rw [h2e]
  have hw : IntKind.i64.wrap ((q.atoms.length : Int) - 1) = (q.atoms.length : Int) - 1 := wrap64_of (by omega) (by omega)
  simp [hde, hqe, hxe, hw, s10_10, s10_12, s10_16, s10_19, s10_30, ]
  refine call_f (w_spec_l1In k 0 (q.atoms.length - 1)) (by simp) rfl fun hs5 hh5 => ?_
  simp at hh5
  cases h3 : inR k 0 ((q.atoms.length : Int) - 1)
  · have hn : adB d q x k = false := by simp [adB, adG, h3]
    simp [hn, hno hn, hde, hqe, hxe, eCnt, s10_10, s10_12, s10_16, s10_19, s10_30, ]
  have hG : adG d q x k = true := by simp [adG, h1, h2, h3]
  have a := adG_ad hG
  have fe := a.qe
  have hk := adG_k hG
  have href := ad_ref hG
  obtain ⟨kn, rfl⟩ : ∃ kn : Nat, k = (kn : Int) := ⟨k.toNat, by omega⟩
  rw [show ((kn : Int)).toNat = kn from rfl] at href
  have hWk := ad_wk a kn
  have hwA := ad_wAs d (appP d x) (norP d x) x.name kn q
  obtain ⟨Y, hY⟩ : ∃ Y, Y = norP d x := ⟨_, rfl⟩
  obtain ⟨N, hN⟩ : ∃ N, N = appP d x := ⟨_, rfl⟩
  obtain ⟨RS, hRS⟩ : ∃ RS, RS = adRS d N Y x.name kn q.atoms := ⟨_, rfl⟩
  obtain ⟨CS, hCS⟩ : ∃ CS, CS = adCS d N Y x.name kn q.atoms := ⟨_, rfl⟩
  have hRl : RS.length = q.atoms.length := by rw [hRS]; exact adRS_len _ _ _ _ _ _
  have hCl : CS.length = q.atoms.length := by rw [hCS]; exact adCS_len _ _ _ _ _ _
  have hRn : ∀ i (h : i < q.atoms.length), RS.take (i + 1) = RS.take i ++ [(adT d N Y x.name kn i q.atoms[i]).map Prod.fst] := fun i h => by rw [hRS]; exact adRS_succ h
  have hCn : ∀ i (h : i < q.atoms.length), CS.take (i + 1) = CS.take i ++ [(adT d N Y x.name kn i q.atoms[i]).map Prod.snd] := fun i h => by rw [hCS]; exact adCS_succ h
  have hno2 := nor_of a.app
  have hzz := ad_z a.app
  rw [← hN, ← hY, ← hRS, ← hCS] at hWk hwA
  rw [← hN] at hst2 h2e
  rw [← hY] at hzz
  rw [← hY, ← hN]
  simp [hde, hqe, hxe, s10_10, s10_12, s10_16, s10_19, s10_30, ]
  refine loop_ruleL (X := Nat) (fun i _ => i ≤ q.atoms.length) (fun i => [(3, .d (.int .i64 kn)), (4, .ptr 4 0 0), (5, .ptr 5 0 0), (6, .ptr 6 0 0), (8, .ptr 8 0 0), (10, .ptr 10 0 0), (12, .ptr 12 0 0), (14, .own 68 0 i), (15, .own 69 0 i), (16, .d (.int .i64 i))])
    (fun i => [(4, some (.box ((eDb d).map V.d))), (5, some (.box ((eQuery q).map V.d))), (6, some (.box ((eDelta x).map V.d))), (8, some (.box [.d (.int .i64 0), .d (.sl none none []), .d (.sl none none [])])), (10, some (.box ((eDb N).map V.d))), (12, some (.box ((eDelta Y).map V.d))),
      (68, some (.row 29 1 ((RS.take i).map (cP (cP cI))))), (69, some (.row 26 1 ((CS.take i).map (cP cI))))]) (fun i => q.atoms.length - i) ?_ ?_
  · exact Lead.of ⟨0, by omega, rfl, rfl, Nat.le_refl _, by simp, by simp [hde, hqe, hxe]⟩
  intro i hs t m hi hh
  by_cases hlt : i < q.atoms.length
  · have hwi := wr1 (i := i) (by omega)
    have hmem := List.getElem_mem hlt
    obtain ⟨⟨nm, vs⟩, ha⟩ : ∃ a, a = q.atoms[i] := ⟨_, rfl⟩
    have hRi := hRn i hlt
    have hCi := hCn i hlt
    rw [← ha] at hmem hRi hCi
    have hlk := f.lk _ hmem
    have hlke := fe.lk _ hmem
    rw [← hN] at hlke
    simp only at hlk hlke
    have hok := lk_ok hlk
    have hoke := lk_ok hlke
    have hcd := cnt_of hok
    have hce := cnt_of hoke
    have hLo : LenOk 24 (i + 1) := ⟨by omega, by simp only [maxLen]; omega⟩
    have hmR : min i RS.length = i := by omega
    have hmC : min i CS.length = i := by omega
    have hcase : (i < kn) ∨ (kn < i) ∨ (i = kn ∧ nm = x.name) ∨ (i = kn ∧ nm ≠ x.name) := by
      by_cases h1 : i < kn
      · exact .inl h1
      by_cases h2 : kn < i
      · exact .inr (.inl h2)
      by_cases h3 : nm = x.name
      · exact .inr (.inr (.inl ⟨by omega, h3⟩))
      · exact .inr (.inr (.inr ⟨by omega, h3⟩))
    refine anyQ2 fun Q => ?_
    have hA1 := w_spec_LookupRelation d nm hst
    have hA2 := w_spec_LookupRelation N nm hst2
    have hB1 := w_spec_CountedFromRelation (lkR d nm)
    have hB2 := w_spec_CountedFromRelation (lkR N nm)
    simp [hlt, ← ha, hde, hqe, hxe, eAtom, cStr, s10_10, s10_12, s10_16, s10_19, s10_30, ]
    repeat' apply And.intro
    all_goals
      refine call_p hA1 (by simp [hde]) fun hs6 hh6 hl6 => ?_
      simp at hh6
      rcases hcase with hc | hc | ⟨hc, hnm⟩ | ⟨hc, hnm⟩
      focus
        have eT : adT d N Y x.name kn i ⟨nm, vs⟩ = ones (lkR N nm).rows := by rw [adT, if_pos hc]
        rw [eT, ones_fst] at hRi
        rw [eT, ones_snd] at hCi
        simp [hlt, ← ha, hc, show ¬ i = kn by omega, hde, hqe, hxe, eReln, eAtom, cStr, s10_10, s10_12, s10_16, s10_19, s10_30, ]
        repeat' apply And.intro
        all_goals
          refine call_p hA2 (by simp [hde]) fun hs7 hh7 hl7 => ?_
          simp at hh7
          simp [hlt, ← ha, hc, show ¬ i = kn by omega, hde, hqe, hxe, eReln, eAtom, cStr, s10_10, s10_12, s10_16, s10_19, s10_30, ]
          repeat' apply And.intro
          all_goals
            refine call_p hB2 (by simp [eReln]) fun hs8 hh8 hl8 => ?_
            simp at hh8
            simp [hlt, ← ha, hc, show ¬ i = kn by omega, hde, hqe, hxe, eCnt, hce.2.2.1, hce.2.2.2, hwi, hLo, hmR, hmC, s10_10, s10_12, s10_16, s10_19, s10_30, ]
            exact back2 (i + 1) (by omega) (by omega) rfl (by simp <;> omega) (by simp) (by simp [hde, hqe, hxe, mapT (cP (cP cI)) hRi, mapT (cP cI) hCi])
      focus
        have eT : adT d N Y x.name kn i ⟨nm, vs⟩ = ones (lkR d nm).rows := by rw [adT, if_neg (by omega), if_pos hc]
        rw [eT, ones_fst] at hRi
        rw [eT, ones_snd] at hCi
        simp [hlt, ← ha, show ¬ i < kn by omega, show ¬ i = kn by omega, hde, hqe, hxe, eReln, eAtom, cStr, s10_10, s10_12, s10_16, s10_19, s10_30, ]
        repeat' apply And.intro
        all_goals
          refine call_p hB1 (by simp [eReln]) fun hs8 hh8 hl8 => ?_
          simp at hh8
          simp [hlt, ← ha, show ¬ i < kn by omega, show ¬ i = kn by omega, hde, hqe, hxe, eCnt, hcd.2.2.1, hcd.2.2.2, hwi, hLo, hmR, hmC, s10_10, s10_12, s10_16, s10_19, s10_30, ]
          exact back2 (i + 1) (by omega) (by omega) rfl (by simp <;> omega) (by simp) (by simp [hde, hqe, hxe, mapT (cP (cP cI)) hRi, mapT (cP cI) hCi])
      focus
        have eT : adT d N Y x.name kn i ⟨nm, vs⟩ = (adZ Y).rows.zip (adZ Y).cs := by rw [adT, if_neg (by omega), if_neg (by omega), if_pos hnm]
        have t1 := tup_z a.app
        have t2 := tup_c a.app
        rw [← hY] at t1 t2
        rw [eT, t1] at hRi
        rw [eT, t2] at hCi
        have hnq := eq_true hnm
        have hY1 := w_spec_CountedFromRelation Y.ins
        have hY2 := w_spec_CountedFromRelation Y.del
        have cn := cnt_of hno2.del
        rw [← hY] at cn
        obtain ⟨s1, s2, s3⟩ := cnts_small cn.1
        have hNg := w_spec_NegateCounted (cntOf Y.del) s1 s2 s3
        rw [negW_eq cn.1] at hNg
        have hAd := w_spec_AddCounted (cntOf Y.ins) (negP (cntOf Y.del))
        rw [show addCP (cntOf Y.ins) (negP (cntOf Y.del)) = adZ Y from rfl] at hAd
        simp [hlt, ← ha, show ¬ i < kn by omega, eq_true hc, hnq, hde, hqe, hxe, eReln, eAtom, cStr, s10_10, s10_12, s10_16, s10_19, s10_30, ]
        repeat' apply And.intro
        all_goals
          refine call_p hB1 (by simp [eReln]) fun hs8 hh8 hl8 => ?_
          simp at hh8
          simp [hlt, ← ha, show ¬ i < kn by omega, eq_true hc, hnq, hde, hqe, hxe, eCnt, eAtom, cStr, s10_10, s10_12, s10_16, s10_19, s10_30, ]
          repeat' apply And.intro
          all_goals
            refine call_p hY1 (by simp [eReln]) fun hs9 hh9 hl9 => ?_
            simp at hh9
            simp [hde, hqe, hxe, eCnt, eAtom, cStr, s10_10, s10_12, s10_16, s10_19, s10_30, ]
            repeat' apply And.intro
            all_goals
              refine call_p hY2 (by simp [eReln]) fun hs10 hh10 hl10 => ?_
              simp at hh10
              simp [hde, hqe, hxe, eCnt, eAtom, cStr, s10_10, s10_12, s10_16, s10_19, s10_30, ]
              repeat' apply And.intro
              all_goals
                refine call_p hNg (by simp [eCnt]) fun hs11 hh11 hl11 => ?_
                simp at hh11
                simp [hde, hqe, hxe, eCnt, eAtom, cStr, s10_10, s10_12, s10_16, s10_19, s10_30, ]
                repeat' apply And.intro
                all_goals
                  refine call_p hAd (by simp [eCnt]) fun hs12 hh12 hl12 => ?_
                  simp at hh12
                  simp [hde, hqe, hxe, eCnt, hwi, hLo, hmR, hmC, s10_10, s10_12, s10_16, s10_19, s10_30, ]
                  exact back2 (i + 1) (by omega) (by omega) rfl (by simp <;> omega) (by simp) (by simp [hde, hqe, hxe, mapT (cP (cP cI)) hRi, mapT (cP cI) hCi])
      focus
        have eT : adT d N Y x.name kn i ⟨nm, vs⟩ = [] := by rw [adT, if_neg (by omega), if_neg (by omega), if_neg hnm]
        rw [eT] at hRi hCi
        simp [hlt, ← ha, show ¬ i < kn by omega, eq_true hc, hnm, hde, hqe, hxe, eReln, eAtom, cStr, s10_10, s10_12, s10_16, s10_19, s10_30, ]
        repeat' apply And.intro
        all_goals
          refine call_p hB1 (by simp [eReln]) fun hs8 hh8 hl8 => ?_
          simp at hh8
          simp [hlt, ← ha, show ¬ i < kn by omega, eq_true hc, hnm, hde, hqe, hxe, eCnt, eAtom, cStr, hwi, hLo, hmR, hmC, s10_10, s10_12, s10_16, s10_19, s10_30, ]
          refine Back2.lead (lead_rowE 68 (T := 29) (sz := 1) (es := (RS.map (cP (cP cI))).take i ++ [[.sl none none []]]) (by simp)) ?_
          rintro _ rfl
          refine Back2.lead (lead_rowE 69 (T := 26) (sz := 1) (es := (CS.map (cP cI)).take i ++ [[.sl none none []]]) (by simp)) ?_
          rintro _ rfl
          exact back2 (i + 1) (by omega) (by omega) rfl (by simp <;> omega) (by simp) (by simp [hde, hqe, hxe, mapT (cP (cP cI)) hRi, mapT (cP cI) hCi, erLL_app, erLL, erL, D.er, erLL_tk])
  · have hn : i = q.atoms.length := by omega
    subst hn
    rw [List.take_of_length_le (show RS.length ≤ q.atoms.length by omega), List.take_of_length_le (show CS.length ≤ q.atoms.length by omega)]
    have hn5 := f.n5
    simp [hde, hqe, hxe, s10_10, s10_12, s10_16, s10_19, s10_30, ]
    refine loop_rule (X := Nat) (fun j => j ≤ q.n.toNat) (fun j => [(5, .ptr 5 0 0), (8, .ptr 8 0 0), (14, .own 68 0 q.atoms.length), (15, .own 69 0 q.atoms.length), (25, .own 149 0 j)])
      (fun j => [(5, some (.box ((eQuery q).map V.d))), (8, some (.box [.d (.int .i64 0), .d (.sl none none []), .d (.sl none none [])])), (68, some (.row 29 1 (RS.map (cP (cP cI))))), (69, some (.row 26 1 (CS.map (cP cI)))), (149, some (.row 3 1 ((List.replicate j (-1)).map cI)))]) (fun j => q.n.toNat - j) 0 (by simp) (by simp) (by simp [hqe]) ?_
    intro j hs t m hj hh2
    by_cases hjl : j < q.n.toNat
    · have hlj : (j : Int) < q.n := by omega
      have hLo8 : LenOk 8 (j + 1) := ⟨by omega, by simp only [maxLen]; omega⟩
      simp [hlj, hLo8, List.take_of_length_le, hde, hqe, hxe, s10_10, s10_12, s10_16, s10_19, s10_30, ]
      exact back (j + 1) (by omega) (by omega) rfl (by simp <;> omega) (by simp) (by simp [hqe, List.replicate_succ'])
    · have hj : j = q.n.toNat := by omega
      subst hj
      have hlj : ¬ ((q.n.toNat : Int) < q.n) := by omega
      have hlj2 : ¬ (max q.n 0 < q.n) := by omega
      obtain ⟨KK, hKK⟩ : ∃ w, w = adK d q x kn := ⟨_, rfl⟩
      have hwk := w_spec_l28Walk q RS CS q.n.toNat hWk q.atoms.length 0 (List.replicate q.n.toNat (-1)) 1 (by omega) (by simp) (.inl rfl)
      rw [List.drop_zero, hwA] at hwk
      rw [show walkW (adTs d N Y x.name kn q.atoms) (List.replicate q.n.toNat (-1)) 1 = KK by rw [hKK, adK, hN, hY]] at hwk
      rw [← hKK] at href
      have hKl : KK.length ≤ 1048576 := by
        rw [hKK, adK]
        refine walkW_le (by simp [adTs]; exact ha4.2) (fun b hb => ?_) _ _
        obtain ⟨i, hi, rfl⟩ := List.getElem_of_mem hb
        simp only [adTs, List.length_mapIdx] at hi
        simp only [adTs, List.getElem_mapIdx]
        have := adT_len a kn i (List.getElem_mem hi)
        split at this <;> omega
      have hKs : Sg KK := by
        rw [hKK, adK]
        refine sg_walk _ _ _ (fun b hb => ?_) (.inl rfl)
        obtain ⟨i, hi, rfl⟩ := List.getElem_of_mem hb
        simp only [adTs, List.getElem_mapIdx]
        exact sg_adT a kn i _
      have hKr : ∀ z ∈ KK.map Prod.fst, z.length = q.n.toNat ∧ valsOk z = true := fun z hz => ad_row a kn ((ad_sup a kn z).2 (by rw [← hKK]; exact hz))
      obtain ⟨F1, hF1⟩ : ∃ w, w = KK.map Prod.fst := ⟨_, rfl⟩
      obtain ⟨F2, hF2⟩ : ∃ w, w = KK.map Prod.snd := ⟨_, rfl⟩
      rw [← hF1, ← hF2] at hwk href
      rw [← hF1] at hKr
      have hf1 : F1.length = KK.length := by rw [hF1, List.length_map]
      have hf2 : F2.length = KK.length := by rw [hF2, List.length_map]
      have ho := ad_out a
      obtain ⟨F3, hF3⟩ : ∃ w, w = F1.map (pickR q.out) := ⟨_, rfl⟩
      have hf3 : F3.length = F1.length := by rw [hF3, List.length_map]
      simp [hlj, hlj2, hde, hqe, hxe, s10_10, s10_12, s10_16, s10_19, s10_30, ]
      refine call_p hwk (by simp [hqe, List.take_of_length_le, hRl, hCl]) fun hs6 hh6 hl6 => ?_
      simp at hh6
      simp [hde, hqe, hxe, s10_10, s10_12, s10_16, s10_19, s10_30, ]
      refine loop_rule (X := Nat) (fun i => i ≤ F1.length) (fun i => [(5, .ptr 5 0 0), (8, .ptr 8 0 0), (26, .d (.pl (F1.map (cP cI)))), (27, .d (.pl (F2.map cI))), (28, .own 166 0 i), (29, .d (.int .i64 i))])
        (fun i => [(5, some (.box ((eQuery q).map V.d))), (8, some (.box [.d (.int .i64 0), .d (.sl none none []), .d (.sl none none [])])), (166, some (.row 26 1 ((F3.take i).map (cP cI))))]) (fun i => F1.length - i) 0 (by simp) (by simp) (by simp [hqe]) ?_
      intro i hs t m hi hh3
      by_cases hil : i < F1.length
      · have hwi := wr1 (i := i) (by omega)
        have hLo : LenOk 24 (i + 1) := ⟨by omega, by simp only [maxLen]; omega⟩
        have hz := (hKr _ (List.getElem_mem hil)).1
        have hst3 : F3.take (i + 1) = F3.take i ++ [pickR q.out F1[i]] := by
          rw [List.take_succ_eq_append_getElem (by omega)]; simp [hF3]
        simp [hil, hde, hqe, hxe, s10_10, s10_12, s10_16, s10_19, s10_30, ]
        repeat' apply And.intro
        all_goals
          refine call_p (w_spec_l5Cols F1[i] q.out (by have := f.out5; omega) (fun c hc => by have := ho.2 c hc; omega)) (by simp) fun hs7 hh7 hl7 => ?_
          simp at hh7
          simp [hwi, hLo, show min i F3.length = i by omega, List.take_of_length_le, hde, hqe, hxe, s10_10, s10_12, s10_16, s10_19, s10_30, ]
          exact back (i + 1) (by omega) (by omega) rfl (by simp <;> omega) (by simp) (by simp [hqe, mapT (cP cI) hst3])
      · have hi : i = F1.length := by omega
        subst hi
        rw [List.take_of_length_le (show F3.length ≤ F1.length by omega)]
        have hS := w_spec_l27Sum q.out.length (F1.map (pickR q.out)) F2 ho.1 (fun y hy => by
          obtain ⟨z, hz, rfl⟩ := List.mem_map.1 hy
          obtain ⟨k1, k2⟩ := hKr z hz
          refine ⟨by rw [pickR_len], pickR_ok k2 fun c hc => ?_⟩
          have := ho.2 c hc; omega) (by rw [List.length_map]; omega) (by rw [List.length_map]; omega) (fun c hc => by
          rw [hF2] at hc
          obtain ⟨p, hp, rfl⟩ := List.mem_map.1 hc
          have := hKs p hp; omega)
        rw [href.1, href.2, ← hF3] at hS
        simp [hil, hde, hqe, hxe, s10_10, s10_12, s10_16, s10_19, s10_30, ]
        refine call_p hS (by simp [hf3, List.take_of_length_le]) fun hs7 hh7 hl7 => ?_
        simp at hh7
        simp [eCnt, hde, hqe, hxe, s10_10, s10_12, s10_16, s10_19, s10_30, ]
end

end Go.Proofs.YtdnbigokdclclaaGreat


namespace Go.Proofs.YtdnbigokdclclaaGreat
open Go.Vs Go.Proofs Go
set_option maxRecDepth 100000
set_option maxHeartbeats 1000000

section
attribute [local simp] plI_id plStr_id map_plI map_plStr
theorem adP_ok {d : PDb} {q : PQuery} {x : PDelta} {k : Int} (h : adB d q x k = true) : cntsOk (adP d q x k) = true := by
  have h0 := h
  simp only [adB, Bool.and_eq_true, decide_eq_true_eq] at h
  have a := adG_ad h.1
  rw [adP, if_pos h0]
  exact sum_ok (ad_out a).1 (adX_ok a _) h.2 (sg_adC d q x _) (by simp only [adX, List.length_map]; have := adJ_le a k.toNat; omega)
theorem wp_adP (d : PDb) (q : PQuery) (x : PDelta) (k : Int) : wpTCnt (adP d q x k) ≤ 24000 := by
  cases h : adB d q x k
  · rw [adP, h]; simp [wpTCnt, wpS]
  · exact wp_cnt (adP_ok h)
theorem t_impl_AtomDelta (d : Db) (q : Query) (x : Delta) (k : Int) (hd : okDb d) (hq : okQuery q) (hx : okDelta x) (hz : szDb (plDb d)) :
   VC Tryz.prog 14 [.agg ((cDb d).map V.d), .agg ((cQuery q).map V.d), .agg ((cDelta x).map V.d), .d (.int .i64 k)]
   (fun n r => ∃ y : Cnt, r = .tup [.agg ((cCnt y).map V.d), .d (.bool (adB (plDb d) (plQuery q) (plDelta x) k))] ∧ plCnt y = adP (plDb d) (plQuery q) (plDelta x) k ∧ okCnt y ∧ Good (cCnt y) (whCnt y) n) :=
  (e_impl_AtomDelta (plDb d) (plQuery q) (plDelta x) k hz (okDb_strs hd) (okQuery_strs hq) hx.1).er (by simp only [rpL, rp, rp_agg_d, rpL_d, Option.map_some, er_cDb, er_cQuery, er_cDelta, D.er])
end

end Go.Proofs.YtdnbigokdclclaaGreat


namespace Go.Proofs.YtdnbigokdclclaaGreat
open Go.Vs Go.Proofs Go
set_option maxRecDepth 100000
set_option maxHeartbeats 1000000

theorem w_laws_FnExactAtomDelta (a : Db) (b : Query) (x : Delta) (k : Int) (k_a : okDb a) (k_b : okQuery b) (k_x : okDelta x) :
   VC Tryz.prog 3 [.agg ((cDb a).map V.d), .agg ((cQuery b).map V.d), .agg ((cDelta x).map V.d), .d (.int .i64 k)] (fun _ r => r = .d (.bool true)) := by
  refine VC.ofB E s3 (by kernel_rfl) Tryz.func3 (by rfl) (by kernel_rfl) (by simp [Tryz.f3]) (by simp [Tryz.f3]) s3_ok fun B hB => ?_
  have ua_a : ∀ g ∈ idsL (cDb a), g < B := fun g hg => hB g (by simp only [idsVL, ids_agg, idsVL_map_d, V.ids, idsL_cS, List.mem_append] at hg ⊢; simp [hg])
  have ua_b : ∀ g ∈ idsL (cQuery b), g < B := fun g hg => hB g (by simp only [idsVL, ids_agg, idsVL_map_d, V.ids, idsL_cS, List.mem_append] at hg ⊢; simp [hg])
  have ua_x : ∀ g ∈ idsL (cDelta x), g < B := fun g hg => hB g (by simp only [idsVL, ids_agg, idsVL_map_d, V.ids, idsL_cS, List.mem_append] at hg ⊢; simp [hg])
  simp [Tryz.f3, s3_18, s3_20, s3_22, s3_18, s3_20, s3_22, cCnt, cDb, cDelta, cI, cQuery, cReln, cS, cStr, cI, cS]
  refine call_pure (w_laws_szDatabase a _ (by omega) (by omega) k_a) rfl (by simp) rfl fun hz_a zz_a => ?_
  simp at zz_a
  by_cases s_a : (swDb a : Int) ≤ 1048576
  case neg =>
    rw [szv_neg (by omega)]; simp
    all_goals exact fun h => absurd h (by decide)
  rw [szv_pos s_a]
  simp [show ¬ (1048576 : Int) - swDb a < 0 by omega, show ¬ (1048576 : Int) < swDb a by omega, s_a]
  refine call_pure (w_laws_szQuery b _ (by omega) (by omega) k_b) rfl (by simp) rfl fun hz_b zz_b => ?_
  simp at zz_b
  by_cases s_b : (swQuery b : Int) ≤ 1048576 - swDb a
  case neg =>
    rw [szv_neg (by omega)]; simp
    all_goals exact fun h => absurd h (by decide)
  rw [szv_pos s_b]
  simp [show ¬ (1048576 - swDb a : Int) - swQuery b < 0 by omega, show ¬ (1048576 - swDb a : Int) < swQuery b by omega, s_b]
  refine call_pure (w_laws_szDelta x _ (by omega) (by omega) k_x) rfl (by simp) rfl fun hz_x zz_x => ?_
  simp at zz_x
  by_cases s_x : (swDelta x : Int) ≤ 1048576 - swDb a - swQuery b
  case neg =>
    rw [szv_neg (by omega)]; simp
    all_goals exact fun h => absurd h (by decide)
  rw [szv_pos s_x]
  simp [show ¬ (1048576 - swDb a - swQuery b : Int) - swDelta x < 0 by omega, show ¬ (1048576 - swDb a - swQuery b : Int) < swDelta x by omega, s_x]
  have hw_a := wbT_Db a
  have hw_b := wbT_Query b
  have hw_x := wbT_Delta x
  have hsz : ∀ y : Db, plDb y = plDb a → szDb (plDb y) := fun y h => by rw [h]; exact szDb_sw a (by omega)
  refine cutT (X := Cnt) (fun w0 hs => plCnt w0 = adP (plDb a) (plQuery b) (plDelta x) k ∧ ∀ g ∈ idsL (cCnt w0), g < hs) (fun w0 => [(4, .ptr 4 0 0), (5, .ptr 5 0 0), (6, .ptr 6 0 0), (3, .d (.int .i64 k)), (10, .ptr 10 0 0), (11, .d (.bool (adB (plDb a) (plQuery b) (plDelta x) k)))]) (fun w0 => [(4, some (.box ((cDb a).map V.d))), (5, some (.box ((cQuery b).map V.d))), (6, some (.box ((cDelta x).map V.d))), (10, some (.box ((cCnt w0).map V.d)))]) ?_ ?_
  · intro K hK
    simp [s3_11, cCnt, cDb, cDelta, cI, cQuery, cReln, cS, cStr, cI, cS]
    repeat' apply And.intro
    all_goals
      refine call_some (w_laws_toDatabase a k_a (by omega)) rfl (by simp) fun n1 hs1 r1 hn1 hm1 hp1 hr1 => ?_
      obtain ⟨y1, rfl, p1, k1, G1⟩ := hp1
      have u1 : ∀ g ∈ idsL (cDb y1), g < hs1 := fun g hg => hr1 g (by first | (rw [ids_agg]; exact hg) | (simpa only [V.ids, idsL_cS] using hg))
      simp at hn1
      have e1 : wtTDb y1 = wtTDb a := by rw [wtTDb_pl, wtTDb_pl, p1]
      simp [s3_18, s3_20, s3_22, cCnt, cDb, cDelta, cI, cQuery, cReln, cS, cStr, cI, cS]
      repeat' apply And.intro
      all_goals
        refine call_some (w_laws_toQuery b k_b (by omega)) rfl (by simp) fun n2 hs2 r2 hn2 hm2 hp2 hr2 => ?_
        obtain ⟨y2, rfl, p2, k2, G2⟩ := hp2
        have u2 : ∀ g ∈ idsL (cQuery y2), g < hs2 := fun g hg => hr2 g (by first | (rw [ids_agg]; exact hg) | (simpa only [V.ids, idsL_cS] using hg))
        simp at hn2
        have e2 : wtTQuery y2 = wtTQuery b := by rw [wtTQuery_pl, wtTQuery_pl, p2]
        simp [s3_18, s3_20, s3_22, cCnt, cDb, cDelta, cI, cQuery, cReln, cS, cStr, cI, cS]
        repeat' apply And.intro
        all_goals
          refine call_some (w_laws_toDelta x k_x (by omega)) rfl (by simp) fun n3 hs3 r3 hn3 hm3 hp3 hr3 => ?_
          obtain ⟨y3, rfl, p3, k3, G3⟩ := hp3
          have u3 : ∀ g ∈ idsL (cDelta y3), g < hs3 := fun g hg => hr3 g (by first | (rw [ids_agg]; exact hg) | (simpa only [V.ids, idsL_cS] using hg))
          simp at hn3
          have e3 : wtTDelta y3 = wtTDelta x := by rw [wtTDelta_pl, wtTDelta_pl, p3]
          simp [s3_18, s3_20, s3_22, cCnt, cDb, cDelta, cI, cQuery, cReln, cS, cStr, cI, cS]
          repeat' apply And.intro
          all_goals
            refine call_some (VC.track (VC.to (w_spec_AtomDelta (plDb y1) (plQuery y2) (plDelta y3) k (hsz _ p1) (okDb_strs k1) (okQuery_strs k2) (k3).1) (show _ = V.tup [.agg ((eCnt (adP (plDb a) (plQuery b) (plDelta x) k)).map V.d), .d (.bool (adB (plDb a) (plQuery b) (plDelta x) k))] by rw [p1, p2, p3])) (by simp [er_I, er_SI, er_Str, er_File, er_Tab, er_Db, er_Delta, er_Atom, er_VRel, eCnt, eDb, eDelta, eQuery, eReln, plCnt, plDb, plDelta, plI, plQuery, plReln, plStr, cP, pS, plI]) (by simp [V.pn, pnVL])) rfl (by simp) fun n4 hs4 r4 hn4 hm4 hp4 hr4 => ?_
            obtain ⟨hq4, ht4⟩ := hp4
            obtain ⟨x40, x41, rfl, q40, q41, t40, t41⟩ := rp_tup2 hq4 ht4
            obtain ⟨w0, rfl, pw0⟩ := rp_agg tk_Cnt q40 t40
            obtain rfl := rp_flat q41 rfl
            have uw0 : ∀ g ∈ idsL (cCnt w0), g < hs4 := fun g hg => hr4 g (by simp only [V.ids, idsVL, ids_agg, idsVL_map_d, idsL_cS, List.mem_append] at hg ⊢; simp [hg])
            simp at hn4
            clear hr4
            simp [s3_18, s3_20, s3_22, cCnt, cDb, cDelta, cI, cQuery, cReln, cS, cStr, cI, cS]
            exact hK w0 _ ⟨pw0, uw0⟩ rfl rfl (by simp <;> omega) (by simp [cCnt, cDb, cDelta, cI, cQuery, cReln, cS, cStr, cI, cS]) (by simp [cCnt, cDb, cDelta, cI, cQuery, cReln, cS, cStr, cI, cS])
  intro w0 hsw tw mw hw hhw
  obtain ⟨pw0, uw0⟩ := hw
  simp [s3_18, s3_20, s3_22, cCnt, cDb, cDelta, cI, cQuery, cReln, cS, cStr, cI, cS]
  refine call_some (w_laws_toDatabase a k_a (by omega)) rfl (by simp) fun n5 hs5 r5 hn5 hm5 hp5 hr5 => ?_
  obtain ⟨y5, rfl, p5, k5, G5⟩ := hp5
  have u5 : ∀ g ∈ idsL (cDb y5), g < hs5 := fun g hg => hr5 g (by first | (rw [ids_agg]; exact hg) | (simpa only [V.ids, idsL_cS] using hg))
  simp at hn5
  have e5 : wtTDb y5 = wtTDb a := by rw [wtTDb_pl, wtTDb_pl, p5]
  simp [s3_18, s3_20, s3_22, cCnt, cDb, cDelta, cI, cQuery, cReln, cS, cStr, cI, cS]
  refine call_some (w_laws_toQuery b k_b (by omega)) rfl (by simp) fun n6 hs6 r6 hn6 hm6 hp6 hr6 => ?_
  obtain ⟨y6, rfl, p6, k6, G6⟩ := hp6
  have u6 : ∀ g ∈ idsL (cQuery y6), g < hs6 := fun g hg => hr6 g (by first | (rw [ids_agg]; exact hg) | (simpa only [V.ids, idsL_cS] using hg))
  simp at hn6
  have e6 : wtTQuery y6 = wtTQuery b := by rw [wtTQuery_pl, wtTQuery_pl, p6]
  simp [s3_18, s3_20, s3_22, cCnt, cDb, cDelta, cI, cQuery, cReln, cS, cStr, cI, cS]
  refine call_some (w_laws_toDelta x k_x (by omega)) rfl (by simp) fun n7 hs7 r7 hn7 hm7 hp7 hr7 => ?_
  obtain ⟨y7, rfl, p7, k7, G7⟩ := hp7
  have u7 : ∀ g ∈ idsL (cDelta y7), g < hs7 := fun g hg => hr7 g (by first | (rw [ids_agg]; exact hg) | (simpa only [V.ids, idsL_cS] using hg))
  simp at hn7
  have e7 : wtTDelta y7 = wtTDelta x := by rw [wtTDelta_pl, wtTDelta_pl, p7]
  simp [s3_18, s3_20, s3_22, cCnt, cDb, cDelta, cI, cQuery, cReln, cS, cStr, cI, cS]
  refine call_some (t_impl_AtomDelta y5 y6 y7 k k5 k6 k7 (hsz _ p5)) rfl (by simp) fun n8 hs8 r8 hn8 hm8 hp8 hr8 => ?_
  obtain ⟨g0, rfl, pg0, kg0, Gg0⟩ := hp8
  have ug0 : ∀ g ∈ idsL (cCnt g0), g < hs8 := fun g hg => hr8 g (by simp only [V.ids, idsVL, ids_agg, idsVL_map_d, idsL_cS, List.mem_append] at hg ⊢; simp [hg])
  have lg0 := Gg0.lo
  simp only [p5] at pg0
  simp only [p6] at pg0
  simp only [p7] at pg0
  simp at hn8
  simp [s3_18, s3_20, s3_22, cCnt, cDb, cDelta, cI, cQuery, cReln, cS, cStr, cI, cS, p5, p6, p7]
  have hbg0 : 1 + (wtTCnt g0 : Int) ≤ 4611686018427387904 := by
    rw [wtTCnt_pl, pg0]
    have := wp_adP (plDb a) (plQuery b) (plDelta x) k; omega
  refine call_pure (w_laws_eqCountedRelation g0 w0 kg0) rfl (by simp) rfl fun hs9 hh9 => ?_
  simp at hh9
  simp [s3_18, s3_20, s3_22, cCnt, cDb, cDelta, cI, cQuery, cReln, cS, cStr, cI, cS, pg0, pw0]
  refine call_some (w_laws_toDatabase a k_a (by omega)) rfl (by simp) fun n10 hs10 r10 hn10 hm10 hp10 hr10 => ?_
  obtain ⟨y10, rfl, p10, k10, G10⟩ := hp10
  have u10 : ∀ g ∈ idsL (cDb y10), g < hs10 := fun g hg => hr10 g (by first | (rw [ids_agg]; exact hg) | (simpa only [V.ids, idsL_cS] using hg))
  simp at hn10
  have e10 : wtTDb y10 = wtTDb a := by rw [wtTDb_pl, wtTDb_pl, p10]
  simp [s3_18, s3_20, s3_22, cCnt, cDb, cDelta, cI, cQuery, cReln, cS, cStr, cI, cS]
  refine call_pure (w_laws_eqDatabase y5 y10 k5) rfl (by simp) rfl fun hs11 hh11 => ?_
  simp at hh11
  simp [s3_18, s3_20, s3_22, cCnt, cDb, cDelta, cI, cQuery, cReln, cS, cStr, cI, cS, p5, p10]
  refine call_some (w_laws_toQuery b k_b (by omega)) rfl (by simp) fun n12 hs12 r12 hn12 hm12 hp12 hr12 => ?_
  obtain ⟨y12, rfl, p12, k12, G12⟩ := hp12
  have u12 : ∀ g ∈ idsL (cQuery y12), g < hs12 := fun g hg => hr12 g (by first | (rw [ids_agg]; exact hg) | (simpa only [V.ids, idsL_cS] using hg))
  simp at hn12
  have e12 : wtTQuery y12 = wtTQuery b := by rw [wtTQuery_pl, wtTQuery_pl, p12]
  simp [s3_18, s3_20, s3_22, cCnt, cDb, cDelta, cI, cQuery, cReln, cS, cStr, cI, cS]
  refine call_pure (w_laws_eqQuery y6 y12 k6) rfl (by simp) rfl fun hs13 hh13 => ?_
  simp at hh13
  simp [s3_18, s3_20, s3_22, cCnt, cDb, cDelta, cI, cQuery, cReln, cS, cStr, cI, cS, p6, p12]
  refine call_some (w_laws_toDelta x k_x (by omega)) rfl (by simp) fun n14 hs14 r14 hn14 hm14 hp14 hr14 => ?_
  obtain ⟨y14, rfl, p14, k14, G14⟩ := hp14
  have u14 : ∀ g ∈ idsL (cDelta y14), g < hs14 := fun g hg => hr14 g (by first | (rw [ids_agg]; exact hg) | (simpa only [V.ids, idsL_cS] using hg))
  simp at hn14
  have e14 : wtTDelta y14 = wtTDelta x := by rw [wtTDelta_pl, wtTDelta_pl, p14]
  simp [s3_18, s3_20, s3_22, cCnt, cDb, cDelta, cI, cQuery, cReln, cS, cStr, cI, cS]
  refine call_pure (w_laws_eqDelta y7 y14 k7) rfl (by simp) rfl fun hs15 hh15 => ?_
  simp at hh15
  simp [s3_18, s3_20, s3_22, cCnt, cDb, cDelta, cI, cQuery, cReln, cS, cStr, cI, cS, p7, p14]
  refine call_x (E19) (by simp) (by simp) (by simp) (fun q hq => .inl ?_) (w_laws_markDatabase y5 (1) (by omega) (by omega) G5.wh k5 G5.nd) fun n16 hs16 r16 cs16 ws16 hn16 hm16 hp16 hr16 hw16 => ?_
  · have := G5.lo q (by simpa only [idsL_cS] using hq)
    show B ≤ q
    omega
  obtain ⟨rfl, rfl⟩ := hp16
  simp at hn16
  have hre16 : reL (phi (idsL (cDb y5)) (cDb (mkTDb y5 (1)))) (cDb y5) = some (cDb (mkTDb y5 (1))) := re_sim (simT_Db G5.wh _) (marksTDb.ids _ _) G5.nd
  have ho16_a : reL (phi (idsL (cDb y5)) (cDb (mkTDb y5 (1)))) (cDb a) = some (cDb a) := re_same fun g hg h => by
    skip
    have h1 := G5.lo g (by simpa only [idsL_cS] using hg); have h2 := ua_a g h; omega
  have ho16_b : reL (phi (idsL (cDb y5)) (cDb (mkTDb y5 (1)))) (cQuery b) = some (cQuery b) := re_same fun g hg h => by
    skip
    have h1 := G5.lo g (by simpa only [idsL_cS] using hg); have h2 := ua_b g h; omega
  have ho16_x : reL (phi (idsL (cDb y5)) (cDb (mkTDb y5 (1)))) (cDelta x) = some (cDelta x) := re_same fun g hg h => by
    skip
    have h1 := G5.lo g (by simpa only [idsL_cS] using hg); have h2 := ua_x g h; omega
  have ho16_w0 : reL (phi (idsL (cDb y5)) (cDb (mkTDb y5 (1)))) (cCnt w0) = some (cCnt w0) := re_same fun g hg h => by
    skip
    have h1 := G5.lo g (by simpa only [idsL_cS] using hg); have h2 := uw0 g h; omega
  have ho16_g0 : reL (phi (idsL (cDb y5)) (cDb (mkTDb y5 (1)))) (cCnt g0) = some (cCnt g0) := re_same fun g hg h => by
    skip
    have h1 := u5 g (by simpa only [idsL_cS] using hg); have h2 := lg0 g h; omega
  have ho16_y6 : reL (phi (idsL (cDb y5)) (cDb (mkTDb y5 (1)))) (cQuery y6) = some (cQuery y6) := re_same fun g hg h => by
    skip
    have h1 := u5 g (by simpa only [idsL_cS] using hg); have h2 := (G6.lo) g h; omega
  have ho16_y7 : reL (phi (idsL (cDb y5)) (cDb (mkTDb y5 (1)))) (cDelta y7) = some (cDelta y7) := re_same fun g hg h => by
    skip
    have h1 := u5 g (by simpa only [idsL_cS] using hg); have h2 := (G7.lo) g h; omega
  replace hre16 := reVL_map hre16
  replace ho16_a := reVL_map ho16_a
  replace ho16_b := reVL_map ho16_b
  replace ho16_x := reVL_map ho16_x
  replace ho16_w0 := reVL_map ho16_w0
  replace ho16_g0 := reVL_map ho16_g0
  replace ho16_y6 := reVL_map ho16_y6
  replace ho16_y7 := reVL_map ho16_y7
  simp only [s3_18, s3_20, s3_22, cCnt, cDb, cDelta, cI, cQuery, cReln, cS, cStr, cI, cS, List.cons_append, List.nil_append, List.map_cons, List.map_nil, reVL_cons, reVL_nil, List.cons.injEq, and_true, reV_int, reV_str, true_and, mkTAtom, mkTCnt, mkTDb, mkTDelta, mkTQuery, mkTReln, mkTTab] at hre16 ho16_a ho16_b ho16_x ho16_w0 ho16_g0 ho16_y6 ho16_y7
  simp [hre16, ho16_a, ho16_b, ho16_x, ho16_w0, ho16_g0, ho16_y6, ho16_y7, s3_18, s3_20, s3_22, cCnt, cDb, cDelta, cI, cQuery, cReln, cS, cStr, cI, cS, mkTAtom, mkTCnt, mkTDb, mkTDelta, mkTQuery, mkTReln, mkTTab, show ¬ (1 + wtTDb y5 : Int) < 0 by omega, show (0 : Int) ≤ 1 + wtTDb y5 by omega]
  refine call_x (E20) (by simp) (by simp) (by simp) (fun q hq => .inl ?_) (w_laws_markQuery y6 (1 + wtTDb y5) (by omega) (by omega) G6.wh k6 G6.nd) fun n17 hs17 r17 cs17 ws17 hn17 hm17 hp17 hr17 hw17 => ?_
  · have := G6.lo q (by simpa only [idsL_cS] using hq)
    show B ≤ q
    omega
  obtain ⟨rfl, rfl⟩ := hp17
  simp at hn17
  have hre17 : reL (phi (idsL (cQuery y6)) (cQuery (mkTQuery y6 (1 + wtTDb y5)))) (cQuery y6) = some (cQuery (mkTQuery y6 (1 + wtTDb y5))) := re_sim (simT_Query G6.wh _) (marksTQuery.ids _ _) G6.nd
  have ho17_a : reL (phi (idsL (cQuery y6)) (cQuery (mkTQuery y6 (1 + wtTDb y5)))) (cDb a) = some (cDb a) := re_same fun g hg h => by
    skip
    have h1 := G6.lo g (by simpa only [idsL_cS] using hg); have h2 := ua_a g h; omega
  have ho17_b : reL (phi (idsL (cQuery y6)) (cQuery (mkTQuery y6 (1 + wtTDb y5)))) (cQuery b) = some (cQuery b) := re_same fun g hg h => by
    skip
    have h1 := G6.lo g (by simpa only [idsL_cS] using hg); have h2 := ua_b g h; omega
  have ho17_x : reL (phi (idsL (cQuery y6)) (cQuery (mkTQuery y6 (1 + wtTDb y5)))) (cDelta x) = some (cDelta x) := re_same fun g hg h => by
    skip
    have h1 := G6.lo g (by simpa only [idsL_cS] using hg); have h2 := ua_x g h; omega
  have ho17_w0 : reL (phi (idsL (cQuery y6)) (cQuery (mkTQuery y6 (1 + wtTDb y5)))) (cCnt w0) = some (cCnt w0) := re_same fun g hg h => by
    skip
    have h1 := G6.lo g (by simpa only [idsL_cS] using hg); have h2 := uw0 g h; omega
  have ho17_g0 : reL (phi (idsL (cQuery y6)) (cQuery (mkTQuery y6 (1 + wtTDb y5)))) (cCnt g0) = some (cCnt g0) := re_same fun g hg h => by
    skip
    have h1 := u6 g (by simpa only [idsL_cS] using hg); have h2 := lg0 g h; omega
  have ho17_y5 : reL (phi (idsL (cQuery y6)) (cQuery (mkTQuery y6 (1 + wtTDb y5)))) (cDb (mkTDb y5 (1))) = some (cDb (mkTDb y5 (1))) := re_same fun g hg h => by
    rw [marksTDb.ids] at h
    have h1 := G6.lo g (by simpa only [idsL_cS] using hg); have h2 := u5 g h; omega
  have ho17_y7 : reL (phi (idsL (cQuery y6)) (cQuery (mkTQuery y6 (1 + wtTDb y5)))) (cDelta y7) = some (cDelta y7) := re_same fun g hg h => by
    skip
    have h1 := u6 g (by simpa only [idsL_cS] using hg); have h2 := (G7.lo) g h; omega
  replace hre17 := reVL_map hre17
  replace ho17_a := reVL_map ho17_a
  replace ho17_b := reVL_map ho17_b
  replace ho17_x := reVL_map ho17_x
  replace ho17_w0 := reVL_map ho17_w0
  replace ho17_g0 := reVL_map ho17_g0
  replace ho17_y5 := reVL_map ho17_y5
  replace ho17_y7 := reVL_map ho17_y7
  simp only [s3_18, s3_20, s3_22, cCnt, cDb, cDelta, cI, cQuery, cReln, cS, cStr, cI, cS, List.cons_append, List.nil_append, List.map_cons, List.map_nil, reVL_cons, reVL_nil, List.cons.injEq, and_true, reV_int, reV_str, true_and, mkTAtom, mkTCnt, mkTDb, mkTDelta, mkTQuery, mkTReln, mkTTab] at hre17 ho17_a ho17_b ho17_x ho17_w0 ho17_g0 ho17_y5 ho17_y7
  simp [hre17, ho17_a, ho17_b, ho17_x, ho17_w0, ho17_g0, ho17_y5, ho17_y7, s3_18, s3_20, s3_22, cCnt, cDb, cDelta, cI, cQuery, cReln, cS, cStr, cI, cS, mkTAtom, mkTCnt, mkTDb, mkTDelta, mkTQuery, mkTReln, mkTTab, show ¬ (1 + wtTDb y5 + wtTQuery y6 : Int) < 0 by omega, show (0 : Int) ≤ 1 + wtTDb y5 + wtTQuery y6 by omega]
  refine call_x (E21) (by simp) (by simp) (by simp) (fun q hq => .inl ?_) (w_laws_markDelta y7 (1 + wtTDb y5 + wtTQuery y6) (by omega) (by omega) G7.wh k7 G7.nd) fun n18 hs18 r18 cs18 ws18 hn18 hm18 hp18 hr18 hw18 => ?_
  · have := G7.lo q (by simpa only [idsL_cS] using hq)
    show B ≤ q
    omega
  obtain ⟨rfl, rfl⟩ := hp18
  simp at hn18
  have hre18 : reL (phi (idsL (cDelta y7)) (cDelta (mkTDelta y7 (1 + wtTDb y5 + wtTQuery y6)))) (cDelta y7) = some (cDelta (mkTDelta y7 (1 + wtTDb y5 + wtTQuery y6))) := re_sim (simT_Delta G7.wh _) (marksTDelta.ids _ _) G7.nd
  have ho18_a : reL (phi (idsL (cDelta y7)) (cDelta (mkTDelta y7 (1 + wtTDb y5 + wtTQuery y6)))) (cDb a) = some (cDb a) := re_same fun g hg h => by
    skip
    have h1 := G7.lo g (by simpa only [idsL_cS] using hg); have h2 := ua_a g h; omega
  have ho18_b : reL (phi (idsL (cDelta y7)) (cDelta (mkTDelta y7 (1 + wtTDb y5 + wtTQuery y6)))) (cQuery b) = some (cQuery b) := re_same fun g hg h => by
    skip
    have h1 := G7.lo g (by simpa only [idsL_cS] using hg); have h2 := ua_b g h; omega
  have ho18_x : reL (phi (idsL (cDelta y7)) (cDelta (mkTDelta y7 (1 + wtTDb y5 + wtTQuery y6)))) (cDelta x) = some (cDelta x) := re_same fun g hg h => by
    skip
    have h1 := G7.lo g (by simpa only [idsL_cS] using hg); have h2 := ua_x g h; omega
  have ho18_w0 : reL (phi (idsL (cDelta y7)) (cDelta (mkTDelta y7 (1 + wtTDb y5 + wtTQuery y6)))) (cCnt w0) = some (cCnt w0) := re_same fun g hg h => by
    skip
    have h1 := G7.lo g (by simpa only [idsL_cS] using hg); have h2 := uw0 g h; omega
  have ho18_g0 : reL (phi (idsL (cDelta y7)) (cDelta (mkTDelta y7 (1 + wtTDb y5 + wtTQuery y6)))) (cCnt g0) = some (cCnt g0) := re_same fun g hg h => by
    skip
    have h1 := u7 g (by simpa only [idsL_cS] using hg); have h2 := lg0 g h; omega
  have ho18_y5 : reL (phi (idsL (cDelta y7)) (cDelta (mkTDelta y7 (1 + wtTDb y5 + wtTQuery y6)))) (cDb (mkTDb y5 (1))) = some (cDb (mkTDb y5 (1))) := re_same fun g hg h => by
    rw [marksTDb.ids] at h
    have h1 := G7.lo g (by simpa only [idsL_cS] using hg); have h2 := u5 g h; omega
  have ho18_y6 : reL (phi (idsL (cDelta y7)) (cDelta (mkTDelta y7 (1 + wtTDb y5 + wtTQuery y6)))) (cQuery (mkTQuery y6 (1 + wtTDb y5))) = some (cQuery (mkTQuery y6 (1 + wtTDb y5))) := re_same fun g hg h => by
    rw [marksTQuery.ids] at h
    have h1 := G7.lo g (by simpa only [idsL_cS] using hg); have h2 := u6 g h; omega
  replace hre18 := reVL_map hre18
  replace ho18_a := reVL_map ho18_a
  replace ho18_b := reVL_map ho18_b
  replace ho18_x := reVL_map ho18_x
  replace ho18_w0 := reVL_map ho18_w0
  replace ho18_g0 := reVL_map ho18_g0
  replace ho18_y5 := reVL_map ho18_y5
  replace ho18_y6 := reVL_map ho18_y6
  simp only [s3_18, s3_20, s3_22, cCnt, cDb, cDelta, cI, cQuery, cReln, cS, cStr, cI, cS, List.cons_append, List.nil_append, List.map_cons, List.map_nil, reVL_cons, reVL_nil, List.cons.injEq, and_true, reV_int, reV_str, true_and, mkTAtom, mkTCnt, mkTDb, mkTDelta, mkTQuery, mkTReln, mkTTab] at hre18 ho18_a ho18_b ho18_x ho18_w0 ho18_g0 ho18_y5 ho18_y6
  simp [hre18, ho18_a, ho18_b, ho18_x, ho18_w0, ho18_g0, ho18_y5, ho18_y6, s3_18, s3_20, s3_22, cCnt, cDb, cDelta, cI, cQuery, cReln, cS, cStr, cI, cS, mkTAtom, mkTCnt, mkTDb, mkTDelta, mkTQuery, mkTReln, mkTTab, show ¬ (1 + wtTDb y5 + wtTQuery y6 + wtTDelta y7 : Int) < 0 by omega, show (0 : Int) ≤ 1 + wtTDb y5 + wtTQuery y6 + wtTDelta y7 by omega]
  try simp [show ¬ (1 + wtTDb y5 + wtTQuery y6 + wtTDelta y7 : Int) < 0 by omega, show (0 : Int) ≤ 1 + wtTDb y5 + wtTQuery y6 + wtTDelta y7 by omega]
  refine call_pure (w_laws_eqCountedRelation g0 w0 kg0) rfl (by simp) rfl fun hs19 hh19 => ?_
  simp at hh19
  simp [s3_18, s3_20, s3_22, cCnt, cDb, cDelta, cI, cQuery, cReln, cS, cStr, cI, cS, pg0, pw0]
  refine call_x (E22) (by simp) (by simp) (by simp) (fun q hq => .inl ?_) (w_laws_markCountedRelation g0 (1) (by omega) (by omega) Gg0.wh kg0 Gg0.nd) fun n20 hs20 r20 cs20 ws20 hn20 hm20 hp20 hr20 hw20 => ?_
  · have := Gg0.lo q (by simpa only [idsL_cS] using hq)
    show B ≤ q
    omega
  obtain ⟨rfl, rfl⟩ := hp20
  simp at hn20
  have hre20 : reL (phi (idsL (cCnt g0)) (cCnt (mkTCnt g0 (1)))) (cCnt g0) = some (cCnt (mkTCnt g0 (1))) := re_sim (simT_Cnt Gg0.wh _) (marksTCnt.ids _ _) Gg0.nd
  have ho20_a : reL (phi (idsL (cCnt g0)) (cCnt (mkTCnt g0 (1)))) (cDb a) = some (cDb a) := re_same fun g hg h => by
    skip
    have h1 := Gg0.lo g (by simpa only [idsL_cS] using hg); have h2 := ua_a g h; omega
  have ho20_b : reL (phi (idsL (cCnt g0)) (cCnt (mkTCnt g0 (1)))) (cQuery b) = some (cQuery b) := re_same fun g hg h => by
    skip
    have h1 := Gg0.lo g (by simpa only [idsL_cS] using hg); have h2 := ua_b g h; omega
  have ho20_x : reL (phi (idsL (cCnt g0)) (cCnt (mkTCnt g0 (1)))) (cDelta x) = some (cDelta x) := re_same fun g hg h => by
    skip
    have h1 := Gg0.lo g (by simpa only [idsL_cS] using hg); have h2 := ua_x g h; omega
  have ho20_w0 : reL (phi (idsL (cCnt g0)) (cCnt (mkTCnt g0 (1)))) (cCnt w0) = some (cCnt w0) := re_same fun g hg h => by
    skip
    have h1 := Gg0.lo g (by simpa only [idsL_cS] using hg); have h2 := uw0 g h; omega
  have ho20_y5 : reL (phi (idsL (cCnt g0)) (cCnt (mkTCnt g0 (1)))) (cDb (mkTDb y5 (1))) = some (cDb (mkTDb y5 (1))) := re_same fun g hg h => by
    rw [marksTDb.ids] at h
    have h1 := Gg0.lo g (by simpa only [idsL_cS] using hg); have h2 := u5 g h; omega
  have ho20_y6 : reL (phi (idsL (cCnt g0)) (cCnt (mkTCnt g0 (1)))) (cQuery (mkTQuery y6 (1 + wtTDb y5))) = some (cQuery (mkTQuery y6 (1 + wtTDb y5))) := re_same fun g hg h => by
    rw [marksTQuery.ids] at h
    have h1 := Gg0.lo g (by simpa only [idsL_cS] using hg); have h2 := u6 g h; omega
  have ho20_y7 : reL (phi (idsL (cCnt g0)) (cCnt (mkTCnt g0 (1)))) (cDelta (mkTDelta y7 (1 + wtTDb y5 + wtTQuery y6))) = some (cDelta (mkTDelta y7 (1 + wtTDb y5 + wtTQuery y6))) := re_same fun g hg h => by
    rw [marksTDelta.ids] at h
    have h1 := Gg0.lo g (by simpa only [idsL_cS] using hg); have h2 := u7 g h; omega
  replace hre20 := reVL_map hre20
  replace ho20_a := reVL_map ho20_a
  replace ho20_b := reVL_map ho20_b
  replace ho20_x := reVL_map ho20_x
  replace ho20_w0 := reVL_map ho20_w0
  replace ho20_y5 := reVL_map ho20_y5
  replace ho20_y6 := reVL_map ho20_y6
  replace ho20_y7 := reVL_map ho20_y7
  simp only [s3_18, s3_20, s3_22, cCnt, cDb, cDelta, cI, cQuery, cReln, cS, cStr, cI, cS, List.cons_append, List.nil_append, List.map_cons, List.map_nil, reVL_cons, reVL_nil, List.cons.injEq, and_true, reV_int, reV_str, true_and, mkTAtom, mkTCnt, mkTDb, mkTDelta, mkTQuery, mkTReln, mkTTab] at hre20 ho20_a ho20_b ho20_x ho20_w0 ho20_y5 ho20_y6 ho20_y7
  simp [hre20, ho20_a, ho20_b, ho20_x, ho20_w0, ho20_y5, ho20_y6, ho20_y7, s3_18, s3_20, s3_22, cCnt, cDb, cDelta, cI, cQuery, cReln, cS, cStr, cI, cS, mkTAtom, mkTCnt, mkTDb, mkTDelta, mkTQuery, mkTReln, mkTTab, show ¬ (1 + wtTCnt g0 : Int) < 0 by omega, show (0 : Int) ≤ 1 + wtTCnt g0 by omega]
  refine call_pure (w_laws_heldCountedRelation (mkTCnt g0 (1)) (1) (by omega) (by rw [marksTCnt.wt]; omega) (ok_mkTCnt _ _ kg0)) rfl (by simp) rfl fun hs21 hh21 => ?_
  simp at hh21
  rw [marksTCnt.hl, marksTCnt.wt]
  simp [show ¬ (1 + wtTCnt g0 : Int) < 0 by omega]
  refine cutT (X := Cnt) (fun h0 _ => plCnt h0 = adP (plDb a) (plQuery b) (plDelta x) k ∧ okCnt h0) (fun h0 => [(10, .ptr 10 0 0), (15, .ptr 15 0 0), (20, .ptr 20 0 0), (11, .d (.bool (adB (plDb a) (plQuery b) (plDelta x) k))), (16, .d (.bool (adB (plDb a) (plQuery b) (plDelta x) k))), (21, .d (.bool (adB (plDb a) (plQuery b) (plDelta x) k))), (18, .d (.int .i64 (1 + wtTCnt g0)))]) (fun h0 => [(10, some (.box ((cCnt w0).map V.d))), (15, some (.box ((cCnt (mkTCnt g0 (1))).map V.d))), (20, some (.box ((cCnt h0).map V.d)))]) ?_ ?_
  · intro K hK
    simp [s3_38, cCnt, cDb, cDelta, cI, cQuery, cReln, cS, cStr, cI, cS]
    repeat' apply And.intro
    all_goals
      refine call_some (w_laws_toDatabase a k_a (by omega)) rfl (by simp) fun n22 hs22 r22 hn22 hm22 hp22 hr22 => ?_
      obtain ⟨y22, rfl, p22, k22, G22⟩ := hp22
      have u22 : ∀ g ∈ idsL (cDb y22), g < hs22 := fun g hg => hr22 g (by first | (rw [ids_agg]; exact hg) | (simpa only [V.ids, idsL_cS] using hg))
      simp at hn22
      have e22 : wtTDb y22 = wtTDb a := by rw [wtTDb_pl, wtTDb_pl, p22]
      simp [s3_18, s3_20, s3_22, cCnt, cDb, cDelta, cI, cQuery, cReln, cS, cStr, cI, cS]
      repeat' apply And.intro
      all_goals
        refine call_some (w_laws_toQuery b k_b (by omega)) rfl (by simp) fun n23 hs23 r23 hn23 hm23 hp23 hr23 => ?_
        obtain ⟨y23, rfl, p23, k23, G23⟩ := hp23
        have u23 : ∀ g ∈ idsL (cQuery y23), g < hs23 := fun g hg => hr23 g (by first | (rw [ids_agg]; exact hg) | (simpa only [V.ids, idsL_cS] using hg))
        simp at hn23
        have e23 : wtTQuery y23 = wtTQuery b := by rw [wtTQuery_pl, wtTQuery_pl, p23]
        simp [s3_18, s3_20, s3_22, cCnt, cDb, cDelta, cI, cQuery, cReln, cS, cStr, cI, cS]
        repeat' apply And.intro
        all_goals
          refine call_some (w_laws_toDelta x k_x (by omega)) rfl (by simp) fun n24 hs24 r24 hn24 hm24 hp24 hr24 => ?_
          obtain ⟨y24, rfl, p24, k24, G24⟩ := hp24
          have u24 : ∀ g ∈ idsL (cDelta y24), g < hs24 := fun g hg => hr24 g (by first | (rw [ids_agg]; exact hg) | (simpa only [V.ids, idsL_cS] using hg))
          simp at hn24
          have e24 : wtTDelta y24 = wtTDelta x := by rw [wtTDelta_pl, wtTDelta_pl, p24]
          simp [s3_18, s3_20, s3_22, cCnt, cDb, cDelta, cI, cQuery, cReln, cS, cStr, cI, cS]
          repeat' apply And.intro
          all_goals
            refine call_some (t_impl_AtomDelta y22 y23 y24 k k22 k23 k24 (hsz _ p22)) rfl (by simp) fun n25 hs25 r25 hn25 hm25 hp25 hr25 => ?_
            obtain ⟨h0, rfl, ph0, kh0, Gh0⟩ := hp25
            have uh0 : ∀ g ∈ idsL (cCnt h0), g < hs25 := fun g hg => hr25 g (by simp only [V.ids, idsVL, ids_agg, idsVL_map_d, idsL_cS, List.mem_append] at hg ⊢; simp [hg])
            have lh0 := Gh0.lo
            simp only [p22] at ph0
            simp only [p23] at ph0
            simp only [p24] at ph0
            simp at hn25
            simp [s3_18, s3_20, s3_22, cCnt, cDb, cDelta, cI, cQuery, cReln, cS, cStr, cI, cS, p22, p23, p24]
            exact hK h0 _ ⟨ph0, kh0⟩ rfl rfl (by simp <;> omega) (by simp [cCnt, cDb, cDelta, cI, cQuery, cReln, cS, cStr, cI, cS, mkTAtom, mkTCnt, mkTDb, mkTDelta, mkTQuery, mkTReln, mkTTab, p22, p23, p24]) (by simp [cCnt, cDb, cDelta, cI, cQuery, cReln, cS, cStr, cI, cS, mkTAtom, mkTCnt, mkTDb, mkTDelta, mkTQuery, mkTReln, mkTTab])
  intro h0 hsh th mh hh hhh
  obtain ⟨ph0, kh0⟩ := hh
  simp [s3_18, s3_20, s3_22, cCnt, cDb, cDelta, cI, cQuery, cReln, cS, cStr, cI, cS, mkTAtom, mkTCnt, mkTDb, mkTDelta, mkTQuery, mkTReln, mkTTab]
  refine call_pure (w_laws_eqCountedRelation h0 w0 kh0) rfl (by simp) rfl fun hs26 hh26 => ?_
  simp at hh26
  simp [s3_18, s3_20, s3_22, cCnt, cDb, cDelta, cI, cQuery, cReln, cS, cStr, cI, cS, ph0, pw0]
  refine call_pure (w_laws_heldCountedRelation (mkTCnt g0 (1)) (1) (by omega) (by rw [marksTCnt.wt]; omega) (ok_mkTCnt _ _ kg0)) rfl (by simp) rfl fun hs27 hh27 => ?_
  simp at hh27
  rw [marksTCnt.hl, marksTCnt.wt]
  simp [show ¬ (1 + wtTCnt g0 : Int) < 0 by omega]

end Go.Proofs.YtdnbigokdclclaaGreat

