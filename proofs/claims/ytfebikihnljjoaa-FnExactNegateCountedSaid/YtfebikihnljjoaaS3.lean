/-
  S3: a part of a proof of this seat: the value-level semantics of Go code without maps (Vs), its walk rules (Vt), the frame of a row (Vr), facts of types, schedules, walks. It holds of every program and state that its hypotheses name.
-/
import Derived.Test.YtfebikihnljjoaaHP3
import Derived.Test.YtfebikihnljjoaaPl1
set_option linter.unusedSimpArgs false
set_option linter.unusedVariables false
namespace Go.Proofs.Ytfebikihnljjoaa
open Go.Vs Go.Proofs Go
set_option maxRecDepth 100000
set_option maxHeartbeats 1000000

theorem w_impl_copyInts (a : Ints) (ha : okS okI a) (hb : a.xs.length ≤ 4294967296) :
   VC Try.prog 57 [.d (dSl cI a)] (fun n r => ∃ y : Sl Int, r = .d (dSl cI y) ∧ plS plI y = plS plI a ∧ okS okI y ∧ Good (cS cI y) (whS whI y) n) := by
  refine VC.of E s57 (by kernel_rfl) Try.func57 (by rfl) (by kernel_rfl) (by simp [Try.f57]) (by simp [Try.f57]) s57_ok fun B => ?_
  have hL : LenOk 8 a.xs.length := ⟨by omega, by simp only [maxLen]; omega⟩
  simp [Try.f57, dSl, hL, cI]
  intro γ hs' h1 hg
  obtain ⟨q1, q2⟩ := gam_at hg (k := 3) (T := 3) (sz := 1) (es := a.xs.map cI) (by simp [cI])
  have q3 := gam_row hg (k := 3) (T := 3) (sz := 1) (es := a.xs.map cI) (by simp [cI])
  clear hg
  refine ⟨⟨γ 3, some (3, 1), a.xs⟩, ⟨⟨rfl, rfl, by simp [List.take_of_length_le]⟩, rfl, ha, good_row (fun g hg => (q1 g hg).1) (by simpa using q2) q3 ⟨by simp, by simp⟩ (by simp [whI])⟩⟩
theorem w_impl_copyRows (a : Sl Ints) (ha : okS (okS okI) a) (hb : a.xs.length ≤ 4294967296) (hb2 : ∀ r ∈ a.xs, r.xs.length ≤ 4294967296) :
   VC Try.prog 56 [.d (dSl (cS cI) a)] (fun n r => ∃ y : Sl Ints, r = .d (dSl (cS cI) y) ∧ plS (plS plI) y = plS (plS plI) a ∧ okS (okS okI) y ∧ Good (cS (cS cI) y) (whS (whS whI) y) n) := by
  refine VC.of E s56 (by kernel_rfl) Try.func56 (by rfl) (by kernel_rfl) (by simp [Try.f56]) (by simp [Try.f56]) s56_ok fun B => ?_
  simp [Try.f56, dSl]
  refine loop_ruleL (X := Nat × List (Sl Int)) (fun p h => p.1 ≤ a.xs.length ∧ p.2.length = p.1 ∧ p.2.map (plS plI) = (a.xs.map (plS plI)).take p.1 ∧ (∀ y ∈ p.2, okS okI y) ∧ GoodL (cS cI) (whS whI) B h p.2)
    (fun p => [(3, .own 16 0 p.1), (6, .d (.sl a.id a.T (a.xs.map (cS cI)))), (7, .d (.int .i64 a.xs.length)), (8, .d (.int .i64 p.1))]) (fun p => [(16, some (.row 39 1 (p.2.map (cS cI))))]) (fun p => a.xs.length - p.1) ?_ ?_
  · refine (lead_slot 3 16 39 1 (by omega) (by omega) (by simp)).bind ?_
    rintro _ rfl
    exact Lead.of ⟨(0, []), ⟨by simp, rfl, by simp, by simp, GoodL.nil⟩, rfl, rfl, Nat.le_refl _, by simp, by simp⟩
  · rintro ⟨i, ys⟩ hs t m ⟨hi, hyl, hpl, hok, hgd⟩ hh
    simp only at hi hyl hpl hok hgd
    by_cases hlt : i < a.xs.length
    · have hwi := wr1 (i := i) (by omega)
      have hmem : a.xs[i] ∈ a.xs := List.getElem_mem _
      have hL : LenOk 24 (i + 1) := ⟨by omega, by simp only [maxLen]; omega⟩
      simp [cS, hlt]
      refine call_some (w_impl_copyInts a.xs[i] (ha.2 _ hmem) (hb2 _ hmem)) rfl (by simp) fun n hs' r hn hn' hp hr => ?_
      obtain ⟨y, rfl, hy1, hy2, hy3⟩ := hp
      simp at hn
      have hr' : ∀ g ∈ idsL (cS cI y), g < hs' := fun g hg => hr g (by rw [idsL_cS] at hg; exact hg)
      simp [cS, dSl, hyl, hL, hwi]
      refine back2 (i + 1, ys ++ [y]) ⟨by omega, by simp [hyl], ?_, ?_, GoodL.snoc hgd (by omega) hn' hy3 hr'⟩ (by simp; omega) rfl (by simp <;> omega) (by simp) (by simp [cS, dSl])
      · simp only [List.map_append, hpl, List.map_cons, List.map_nil, hy1]
        rw [List.take_succ_eq_append_getElem (by simpa using hlt)]; simp
      · intro y' hy'
        rcases List.mem_append.1 hy' with h | h
        · exact hok y' h
        · rw [List.mem_singleton.1 h]; exact hy2
    · have hn : i = a.xs.length := by omega
      subst hn
      simp [hyl]
      intro γ hs' h1 hg
      obtain ⟨q1, q2⟩ := gam_at hg (k := 16) (T := 39) (sz := 1) (es := ys.map (cS cI)) (by simp)
      have q3 := gam_row hg (k := 16) (T := 39) (sz := 1) (es := ys.map (cS cI)) (by simp)
      clear hg
      refine ⟨⟨γ 16, some (39, 1), ys⟩, ⟨rfl, rfl, by simp [List.take_of_length_le, hyl]⟩, by rw [List.take_of_length_le (by simp)] at hpl; exact hpl, ⟨by simp only [maxLen]; show ys.length ≤ _; omega, hok⟩, good_row (fun g hg => (q1 g hg).1) (by simpa using q2) q3 ⟨hgd.nd, hgd.lo⟩ hgd.wh⟩
theorem w_impl_copyCounted (a : Cnt) (ha : okCnt a) (hb : a.rows.xs.length ≤ 4294967296) (hb2 : ∀ r ∈ a.rows.xs, r.xs.length ≤ 4294967296) (hb3 : a.cs.xs.length ≤ 4294967296) :
   VC Try.prog 47 [.agg ((cCnt a).map V.d)] (fun n r => ∃ y : Cnt, r = .agg ((cCnt y).map V.d) ∧ plCnt y = plCnt a ∧ okCnt y ∧ Good (cCnt y) (whCnt y) n) := by
  refine VC.of E s47 (by kernel_rfl) Try.func47 (by rfl) (by kernel_rfl) (by simp [Try.f47]) (by simp [Try.f47]) s47_ok fun B => ?_
  simp [Try.f47, s47_1, cCnt, cS, cI]
  refine call_some (w_impl_copyRows a.rows ha.2.1 hb hb2) rfl (by simp) fun n1 hs1 r1 hn1 hm1 hp1 hr1 => ?_
  obtain ⟨y1, rfl, p1, k1, G1⟩ := hp1
  have u1 : ∀ g ∈ idsL (cS (cS cI) y1), g < hs1 := fun g hg => hr1 g (by rw [idsL_cS] at hg; exact hg)
  simp at hn1
  simp [cS, cI, s47_1, ]
  refine call_some (w_impl_copyInts a.cs ha.2.2 hb3) rfl (by simp) fun n2 hs2 r2 hn2 hm2 hp2 hr2 => ?_
  obtain ⟨y2, rfl, p2, k2, G2⟩ := hp2
  simp at hn2
  simp [cS, cI, s47_1, ]
  refine ⟨⟨a.ar, y1, y2⟩, by simp, by simp only [plCnt, p1, p2], ⟨trivial, k1, k2⟩, ?_⟩
  have K1 : Good (cI a.ar ++ cS (cS cI) y1) (whI a.ar ∧ whS (whS whI) y1) B := Good.app (good_I B a.ar) (G1.le (by omega)) (fun g h h' => by simp [cI, idsL, D.ids] at h)
  have K2 : Good (cI a.ar ++ cS (cS cI) y1 ++ cS cI y2) ((whI a.ar ∧ whS (whS whI) y1) ∧ whS whI y2) B := Good.app K1 (G2.le (by omega)) (fun g h h' => by
    have h2 := G2.lo g h'
    rw [idsL_app] at h
    rcases List.mem_append.1 h with h | h
    · simp [cI, idsL, D.ids] at h
    · have h1 := u1 g h; omega)
  exact ⟨K2.nd, K2.lo, K2.wh.1.1, K2.wh.1.2, K2.wh.2⟩

end Go.Proofs.Ytfebikihnljjoaa
