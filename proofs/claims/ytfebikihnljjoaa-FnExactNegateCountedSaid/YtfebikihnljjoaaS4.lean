/-
  S4: a part of a proof of this seat: the value-level semantics of Go code without maps (Vs), its walk rules (Vt), the frame of a row (Vr), facts of types, schedules, walks. It holds of every program and state that its hypotheses name.
-/
import Derived.Test.YtfebikihnljjoaaS3
import Derived.Test.YtfebikihnljjoaaPl2
set_option linter.unusedSimpArgs false
set_option linter.unusedVariables false
namespace Go.Proofs.Ytfebikihnljjoaa
open Go.Vs Go.Proofs Go
set_option maxRecDepth 100000
set_option maxHeartbeats 1000000

theorem w_impl_NegateCounted (a : Cnt) (ha : okCnt a) (hb : a.rows.xs.length ≤ 4294967296) (hb2 : ∀ r ∈ a.rows.xs, r.xs.length ≤ 4294967296) (hb3 : a.cs.xs.length ≤ 4294967296) :
   VC Try.prog 28 [.agg ((cCnt a).map V.d)] (fun n r => ∃ y : Cnt, r = .agg ((cCnt y).map V.d) ∧ plCnt y = negP (plCnt a) ∧ okCnt y ∧ Good (cCnt y) (whCnt y) n) := by
  refine VC.of E s28 (by kernel_rfl) Try.func28 (by rfl) (by kernel_rfl) (by simp [Try.f28]) (by simp [Try.f28]) s28_ok fun B => ?_
  simp [Try.f28, s28_5, cCnt, cS, cI]
  refine call_some (w_impl_copyCounted a ha hb hb2 hb3) rfl (by simp) fun n1 hs1 r1 hn1 hm1 hp1 hr1 => ?_
  obtain ⟨y, rfl, p1, k1, G1⟩ := hp1
  simp at hn1
  have hpl : y.cs.xs = a.cs.xs := by
    have := congrArg (fun c : PCnt => c.2.2) p1
    simpa only [plCnt, plS, plI_map] using this
  have hlen : y.cs.xs.length = a.cs.xs.length := by rw [hpl]
  obtain ⟨ar, rows, ⟨id, T, cs⟩⟩ := y
  simp only at hpl hlen
  have G0 := G1
  simp only [cCnt, idsL_app, idsL_cS] at G0
  have hnd := G1.nd
  simp only [cCnt, idsL_app, idsL_cS] at hnd
  simp [cCnt, cS, cI, dSl]
  refine loop_rule (X := Nat) (fun i => i ≤ cs.length) (fun i => [(3, .ptr 3 0 0), (2, .ptr 2 0 0), (9, .d (.int .i64 cs.length)), (10, .d (.int .i64 i))])
    (fun i => [(2, some (.box [.d (.int .i64 0), .d (.sl none none []), .d (.sl none none [])])), (3, some (.box [.d (.int .i64 ar), .d (dSl (cS cI) rows), .d (.sl id T ((negAt cs i).map cI))]))]) (fun i => cs.length - i) 0 (by simp) (by simp) (by simp [dSl, cS, cI]) ?_
  intro i hs t m hi hh
  by_cases hlt : i < cs.length
  · obtain ⟨g, hg, T', hT⟩ := (Sl.wh.id (s := (⟨id, T, cs⟩ : Sl Int)) G1.wh.2.2.1 hlt)
    simp only at hg hT
    subst hg hT
    have hwi := wr1 (i := i) (by omega)
    have hgB : B ≤ g := by
      have := G1.lo g (by simp only [cCnt, idsL_app, idsL_cS, List.mem_append]; exact .inr (mem_slids (s := (⟨some g, some T', cs⟩ : Sl Int)) rfl))
      omega
    have hgr : g ∉ (dSl (cS cI) rows).ids := fun h => nd_disj hnd g (List.mem_append_right _ h) (mem_slids (s := (⟨some g, some T', cs⟩ : Sl Int)) rfl)
    simp [cI, hlt, hwi, s28_5, ]
    have e1 : (List.map cI (negAt cs i)).set i [D.int .i64 (IntKind.i64.wrap (-cs[i]))] = List.map cI (negAt cs (i + 1)) := by
      rw [negAt_succ hlt, ← set_map]; rfl
    have e2 : ∀ d, reV (one g d) (.d (dSl (cS cI) rows)) = .d (dSl (cS cI) rows) := fun d => reV_id _ fun j hj => one_out fun e => hgr (e ▸ hj)
    refine ⟨hgB, back (i + 1) (by omega) (by omega) rfl (by simp) (by simp) ?_⟩
    simp [e1, e2]
  · have hn : i = cs.length := by omega
    subst hn
    simp
    refine ⟨⟨ar, rows, ⟨id, T, cs.map neg64⟩⟩, ?_⟩
    refine ⟨by simp [negAt_all, cS, cI, dSl], ?_, ⟨trivial, k1.2.1, ⟨by simpa using k1.2.2.1, fun _ _ => trivial⟩⟩, ?_⟩
    · have q1 := congrArg (fun c : PCnt => (c.1, c.2.1)) p1
      simp only [plCnt, Prod.mk.injEq] at q1
      show (plI ar, plS (plS plI) rows, plS plI (⟨id, T, cs.map neg64⟩ : Sl Int)) = (plI a.ar, plS (plS plI) a.rows, (plS plI a.cs).map neg64)
      rw [q1.1, q1.2]
      simp only [plS, plI_map, hpl]
    · have e0 : ∀ l : List Int, (dSl cI (⟨id, T, l⟩ : Sl Int)).ids = id.toList := fun l => by simp [dSl, D.ids]
      have e : idsL (cCnt ⟨ar, rows, ⟨id, T, cs.map neg64⟩⟩) = idsL (cCnt ⟨ar, rows, ⟨id, T, cs⟩⟩) := by simp only [cCnt, idsL_app, idsL_cS, e0]
      show Good (cCnt ⟨ar, rows, ⟨id, T, cs.map neg64⟩⟩) (whCnt ⟨ar, rows, ⟨id, T, cs.map neg64⟩⟩) B
      exact ⟨by rw [e]; exact G1.nd, fun g hg => by rw [e] at hg; have := G1.lo g hg; omega, G1.wh.1, G1.wh.2.1, G1.wh.2.2.1.of (by simp), fun _ _ => trivial⟩

theorem w_spec_l5Copy (a : Reln) (ha : okReln a) (hb : a.rows.xs.length ≤ 4294967296) (hb2 : ∀ r ∈ a.rows.xs, r.xs.length ≤ 4294967296) :
   VC Try.prog 46 [.agg ((cReln a).map V.d)] (fun n r => ∃ y : Reln, r = .agg ((cReln y).map V.d) ∧ plReln y = plReln a ∧ okReln y ∧ Good (cReln y) (whReln y) n) := by
  refine VC.of E s46 (by kernel_rfl) Try.func46 (by rfl) (by kernel_rfl) (by simp [Try.f46]) (by simp [Try.f46]) s46_ok fun B => ?_
  obtain ⟨ar, a⟩ := a
  simp only at hb hb2
  simp [Try.f46, s46_5, cReln, cS, cI, dSl]
  refine loop_ruleL (X := Nat × List (Sl Int)) (fun p h => p.1 ≤ a.xs.length ∧ p.2.length = p.1 ∧ p.2.map (plS plI) = (a.xs.map (plS plI)).take p.1 ∧ (∀ y ∈ p.2, okS okI y) ∧ GoodL (cS cI) (whS whI) B h p.2)
    (fun p => [(1, .ptr 1 0 0), (2, .ptr 2 0 0), (3, .ptr 3 0 0), (4, .d (.int .i64 p.1))])
    (fun p => [(1, some (.box [.d (.int .i64 ar), .d (.sl a.id a.T (a.xs.map (cS cI)))])), (2, some (.box [.d (.int .i64 0), .d (.sl none none [])])), (3, some (.box [.d (.int .i64 ar), .own 25 0 p.1])), (25, some (.row 39 1 (p.2.map (cS cI))))]) (fun p => a.xs.length - p.1) ?_ ?_
  · refine (lead_box 3 1 25 39 1 [.d (.int .i64 ar), .d (.sl none none [])] (by omega) (by omega) (by omega) (by simp) rfl).bind ?_
    rintro _ rfl
    exact Lead.of ⟨(0, []), ⟨by simp, rfl, by simp, by simp, GoodL.nil⟩, rfl, rfl, Nat.le_refl _, by simp, by simp⟩
  · rintro ⟨i, ys⟩ hs t m ⟨hi, hyl, hpl, hok, hgd⟩ hh
    simp only at hi hyl hpl hok hgd
    by_cases hlt : i < a.xs.length
    · have hwi := wr1 (i := i) (by omega)
      have hmem : a.xs[i] ∈ a.xs := List.getElem_mem _
      have hL : LenOk 24 (i + 1) := ⟨by omega, by simp only [maxLen]; omega⟩
      have hL2 : LenOk 8 a.xs[i].xs.length := ⟨by have := hb2 _ hmem; omega, by simp only [maxLen]; have := hb2 _ hmem; omega⟩
      simp [cS, dSl, cI, hlt, hL2, s46_5, ]
      repeat' apply And.intro
      all_goals
        refine bs1 (k' := 17) (ks := []) (by simp) fun γ hs' h1 hg => ?_
        obtain ⟨q1, q2⟩ := gam_at hg (k := 17) (T := 3) (sz := 1) (es := a.xs[i].xs.map cI) (by simp [cI])
        have q4 := gam_row2 hg (k := 17) (T := 3) (sz := 1) (es := a.xs[i].xs.map cI) (k2 := 25) (T2 := 39) (sz2 := 1) (es2 := ys.map (cS cI)) (by simp [cI]) (by simp [cS, cI, dSl])
        clear hg
        simp at h1
        simp [hyl, hL, hwi]
        refine back2 (i + 1, ys ++ [⟨γ 17, some (3, 1), a.xs[i].xs⟩]) ⟨by omega, by simp [hyl], ?_, ?_, GoodL.snoc2 hgd h1 (good_ints (fun g hg => (q1 g hg).1) (by simpa using q2)) (fun g hg => q4 g (ids_ints hg)) (fun g hg => (q1 g (ids_ints hg)).2)⟩ (by simp; omega) rfl (by simp <;> omega) (by simp) (by simp [cS, dSl, List.take_of_length_le])
        · simp only [List.map_append, hpl, List.map_cons, List.map_nil]
          rw [List.take_succ_eq_append_getElem (by simpa using hlt)]; simp [plS]
        · intro y' hy'
          rcases List.mem_append.1 hy' with h | h
          · exact hok y' h
          · rw [List.mem_singleton.1 h]; exact ⟨(ha.2.2 _ hmem).1, fun _ _ => trivial⟩
    · have hn : i = a.xs.length := by omega
      subst hn
      simp [hyl]
      intro γ hs' h1 hg
      obtain ⟨q1, q2⟩ := gam_at hg (k := 25) (T := 39) (sz := 1) (es := ys.map (cS cI)) (by simp)
      have q3 := gam_row hg (k := 25) (T := 39) (sz := 1) (es := ys.map (cS cI)) (by simp)
      clear hg
      refine ⟨⟨ar, ⟨γ 25, some (39, 1), ys⟩⟩, ⟨by simp, rfl, by simp [List.take_of_length_le, hyl]⟩, ?_, ⟨trivial, by simp only [maxLen]; show ys.length ≤ _; omega, hok⟩, ?_⟩
      · rw [List.take_of_length_le (by simp)] at hpl
        simp only [plReln, plS, hpl]
      · have K := Good.app (good_I B ar) (good_row (wh := whS whI) (T := (39, 1)) (fun g hg => (q1 g hg).1) (by simpa using q2) q3 ⟨hgd.nd, hgd.lo⟩ hgd.wh) (fun g h h' => by simp [cI, idsL, D.ids] at h)
        exact K
theorem w_spec_NegateCounted (a : Cnt) (ha : okCnt a) (hb : a.rows.xs.length ≤ 4294967296) (hb2 : ∀ r ∈ a.rows.xs, r.xs.length ≤ 4294967296) (hb3 : a.cs.xs.length ≤ 4294967296) :
   VC Try.prog 27 [.agg ((cCnt a).map V.d)] (fun n r => ∃ y : Cnt, r = .agg ((cCnt y).map V.d) ∧ plCnt y = negP (plCnt a) ∧ okCnt y ∧ Good (cCnt y) (whCnt y) n) := by
  refine VC.of E s27 (by kernel_rfl) Try.func27 (by rfl) (by kernel_rfl) (by simp [Try.f27]) (by simp [Try.f27]) s27_ok fun B => ?_
  simp [Try.f27, s27_6, cCnt, cS, cI]
  refine call_some (w_spec_l5Copy ⟨0, a.rows⟩ ⟨trivial, ha.2.1⟩ hb hb2) rfl (by simp) fun n1 hs1 r1 hn1 hm1 hp1 hr1 => ?_
  obtain ⟨y, rfl, p1, k1, G1⟩ := hp1
  have u1 : ∀ g ∈ idsL (cReln y), g < hs1 := fun g hg => hr1 g (by rw [ids_agg]; exact hg)
  simp at hn1
  obtain ⟨ay, rows⟩ := y
  have p2 : plS (plS plI) rows = plS (plS plI) a.rows := congrArg (fun c : PReln => c.2) p1
  have Gr : Good (cS (cS cI) rows) (whS (whS whI) rows) n1 := ⟨nd_right (by have := G1.nd; simp only [cReln, idsL_app] at this; exact this), fun g hg => G1.lo g (by simp only [cReln, idsL_app, List.mem_append]; exact .inr hg), G1.wh.2⟩
  have ur : ∀ g ∈ idsL (cS (cS cI) rows), g < hs1 := fun g hg => u1 g (by simp only [cReln, idsL_app, List.mem_append]; exact .inr hg)
  simp [cReln, cS, cI, dSl]
  refine loop_ruleL (X := Nat) (fun i _ => i ≤ a.cs.xs.length)
    (fun i => [(1, .ptr 1 0 0), (2, .ptr 2 0 0), (4, .ptr 4 0 0), (5, .d (.int .i64 i))])
    (fun i => [(1, some (.box [.d (.int .i64 a.ar), .d (dSl (cS cI) a.rows), .d (.sl a.cs.id a.cs.T (a.cs.xs.map cI))])), (2, some (.box [.d (.int .i64 0), .d (.sl none none []), .d (.sl none none [])])),
      (4, some (.box [.d (.int .i64 a.ar), .d (dSl (cS cI) rows), .own 31 0 i])), (31, some (.row 3 1 (((a.cs.xs.take i).map neg64).map cI)))]) (fun i => a.cs.xs.length - i) ?_ ?_
  · refine (lead_box 4 2 31 3 1 [.d (.int .i64 a.ar), .d (dSl (cS cI) rows), .d (.sl none none [])] (by omega) (by omega) (by omega) (by simp [dSl]) rfl).bind ?_
    rintro _ rfl
    exact Lead.of ⟨0, by simp, rfl, rfl, Nat.le_refl _, by simp, by simp [dSl]⟩
  · intro i hs t m hi hh
    by_cases hlt : i < a.cs.xs.length
    · have hwi := wr1 (i := i) (by omega)
      have hL : LenOk 8 (i + 1) := ⟨by omega, by simp only [maxLen]; omega⟩
      have hmin : min i a.cs.xs.length = i := by omega
      simp [hlt, hwi, cI, hL, hmin, s27_6, ]
      refine back2 (i + 1) (by omega) (by omega) rfl (by simp) (by simp) ?_
      have e1 : List.take (i + 1) (List.map (cI ∘ neg64) a.cs.xs) = List.take i (List.map (cI ∘ neg64) a.cs.xs) ++ [cI (neg64 a.cs.xs[i])] := by
        rw [List.take_succ_eq_append_getElem (by simpa using hlt)]; simp
      simp
      rw [e1]; rfl
    · have hn : i = a.cs.xs.length := by omega
      subst hn
      simp
      intro γ hs' h1 hg
      obtain ⟨q1, q2⟩ := gam_at hg (k := 31) (T := 3) (sz := 1) (es := (a.cs.xs.map neg64).map cI) (by simp)
      have qf : ∀ g, γ 31 = some g → g ∉ (V.agg [V.d (D.int .i64 a.ar), V.d (dSl (cS cI) rows), V.d (.sl none none [])]).ids := fun g hγ => by
        have hf := (hg.fr 31 3 1 ((a.cs.xs.map neg64).map cI) g (by simp) hγ).1
        have hb := hf.box 4 [.d (.int .i64 a.ar), .d (dSl (cS cI) rows), .own 31 0 a.cs.xs.length] (by simp)
        simpa [V.ids, idsVL, D.ids, idsLL] using hb
      clear hg
      refine ⟨⟨a.ar, rows, ⟨γ 31, some (3, 1), a.cs.xs.map neg64⟩⟩, ⟨by simp, rfl, rfl, by simp [List.take_of_length_le]⟩, ?_, ⟨trivial, k1.2, ⟨by simpa using ha.2.2.1, fun _ _ => trivial⟩⟩, ?_⟩
      · show (plI a.ar, plS (plS plI) rows, plS plI (⟨γ 31, _, a.cs.xs.map neg64⟩ : Sl Int)) = (plI a.ar, plS (plS plI) a.rows, (plS plI a.cs).map neg64)
        rw [p2]; simp only [plS, plI_map]
      · have K1 : Good (cI a.ar ++ cS (cS cI) rows) (whI a.ar ∧ whS (whS whI) rows) B := Good.app (good_I B a.ar) (Gr.le (by omega)) (fun g h h' => by simp [cI, idsL, D.ids] at h)
        have K2 := Good.app K1 (good_ints (T := (3, 1)) (xs := a.cs.xs.map neg64) (fun g hg => (q1 g hg).1) (by simpa using q2)) (fun g h h' => by
          have h2 := ids_ints h'
          rw [idsL_app] at h
          rcases List.mem_append.1 h with h | h
          · simp [cI, idsL, D.ids] at h
          · rw [idsL_cS] at h
            exact qf g h2 (by simp [V.ids, idsVL, D.ids, idsLL, h]))
        exact ⟨K2.nd, K2.lo, K2.wh.1.1, K2.wh.1.2, K2.wh.2⟩

end Go.Proofs.Ytfebikihnljjoaa
