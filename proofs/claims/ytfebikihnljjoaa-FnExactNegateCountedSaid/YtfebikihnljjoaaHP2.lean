/-
  HP2: a part of a proof of this seat: the value-level semantics of Go code without maps (Vs), its walk rules (Vt), the frame of a row (Vr), facts of types, schedules, walks. It holds of every program and state that its hypotheses name.
-/
import Derived.Test.YtfebikihnljjoaaHP1
set_option linter.unusedSimpArgs false
set_option linter.unusedVariables false
namespace Go.Proofs.Ytfebikihnljjoaa
open Go.Vs Go.Proofs Go
set_option maxRecDepth 100000
set_option maxHeartbeats 1000000

theorem w_laws_toIntS (a : Sl (Int)) (ha : okS okI a) (hb : a.xs.length ≤ 1048576) :
   VC Try.prog 39 [.d (dSl cI a)] (fun n r => ∃ y : Sl (Int), r = .d (dSl cI y) ∧ plS plI y = plS plI a ∧ okS okI y ∧ Good (cS cI y) (whS whI y) n) := by
  refine VC.of E s39 (by kernel_rfl) Try.func39 (by rfl) (by kernel_rfl) (by simp [Try.f39]) (by simp [Try.f39]) s39_ok fun B => ?_
  simp [Try.f39, dSl]
  refine ⟨⟨by omega, by simp only [maxLen]; omega⟩, ?_⟩
  refine loop_rule (X := Nat) (fun i => i ≤ a.xs.length) (fun i => [(0, .d (.sl a.id a.T (a.xs.map cI))), (3, .own 7 0 a.xs.length), (4, .d (.int .i64 i))]) (fun i => [(7, some (.row 3 1 (fill [.int .i64 0] (a.xs.map cI) i)))]) (fun i => a.xs.length - i) 0 (by simp) (by simp) (by simp) ?_
  intro i hs t m hi hh
  by_cases hlt : i < a.xs.length
  · have hwi := wr1 (i := i) (by omega)
    simp [cI, hlt, hwi]
    refine back (i + 1) (by omega) (by omega) rfl (by simp) (by simp) ?_
    have := fill_set (z := [.int .i64 0]) (l := a.xs.map cI) (i := i) (by simpa using hlt) (by simp [hlt]; rfl)
    simp only [cI] at this ⊢
    simp [this]
  · have hn : i = a.xs.length := by omega
    subst hn
    have hf : fill [.int .i64 0] (a.xs.map cI) a.xs.length = a.xs.map cI := fill_all (by simp)
    simp [hf]
    intro γ hs' h1 hg
    obtain ⟨q1, q2⟩ := gam_at hg (k := 7) (T := 3) (sz := 1) (es := a.xs.map cI) (by simp)
    have q3 := gam_row hg (k := 7) (T := 3) (sz := 1) (es := a.xs.map cI) (by simp)
    clear hg
    refine ⟨⟨γ 7, some (3, 1), a.xs⟩, ⟨⟨rfl, rfl, List.take_of_length_le (by simp)⟩, rfl, ha, good_row (fun g hg => (q1 g hg).1) (by simpa using q2) q3 ⟨by simp, by simp⟩ (by simp [whI, whStr])⟩⟩
theorem w_laws_heldIntS (a : Sl (Int)) (k : Int) (h0 : 1 ≤ k) (h1 : k + wtS wtI a ≤ 4611686018427387904) (ha : okS okI a) :
   VC Try.prog 51 [.d (dSl cI a), .d (.int .i64 k)] (fun _ r => r = .d (.int .i64 (hv (hlS (hlI) (wtI) a k) k (wtS wtI a)))) := by
  refine VC.of E s51 (by kernel_rfl) Try.func51 (by rfl) (by kernel_rfl) (by simp [Try.f51]) (by simp [Try.f51]) s51_ok fun B => ?_
  obtain ⟨id, T, xs⟩ := a
  have ha1 := ha.1
  simp only [maxLen] at ha1
  have hwt : wtS wtI (⟨id, T, xs⟩ : Sl (Int)) = sumW wtI xs := rfl
  have hhl : hlS (hlI) (wtI) (⟨id, T, xs⟩ : Sl (Int)) k = hlList hlI wtI xs k := rfl
  rw [hwt] at h1
  rw [hwt, hhl]
  simp [Try.f51, dSl]
  refine loop_rule (X := Nat) (fun i => i ≤ xs.length ∧ hlList hlI wtI (xs.take i) k = true) (fun i => [(0, .d (.sl id T (xs.map cI))), (1, .d (.int .i64 (k + sumW wtI (xs.take i)))), (5, .d (.int .i64 i))]) (fun _ => []) (fun i => xs.length - i) 0 (by simp [hlList]) (by simp) (by simp) ?_
  intro i hs t m hi hh
  by_cases hlt : i < xs.length
  · have hwi := wr1 (i := i) (by omega)
    have e1 := sumW_succ wtI hlt
    have e2 := sumW_le wtI xs (i + 1)
    have hmem : xs[i] ∈ xs := List.getElem_mem _
    have hstep := hlList_step (hl := hlI) (wt := wtI) (k := k) hlt
    rw [hi.2, Bool.true_and] at hstep
    have hbad := hlList_bad (hl := hlI) (wt := wtI) (k := k) hlt
    have hex : hlI xs[i] (k + sumW wtI (xs.take i)) = (xs[i] == k + sumW wtI (xs.take i)) := rfl
    have hwx : wtI xs[i] = 1 := rfl
    have hk0 : IntKind.i64.wrap (k + sumW wtI (xs.take i) + 1) = k + sumW wtI (xs.take i) + 1 := wrap64_of (by omega) (by omega)
    simp [cI, hlt, dSl, ]
    by_cases c0 : xs[i] = k + sumW wtI (xs.take i)
    case neg => simp [c0, hbad (by simp [hex, c0])]
    simp [c0, hk0, ]
    simp [hwi]
    refine back (i + 1) ⟨by omega, hstep.trans (hex.trans (by simp [c0]))⟩ (by omega) rfl (by simp <;> omega) ?_ (by simp)
    simp
    omega
  · have hn : i = xs.length := by omega
    subst hn
    have h2 := hi.2
    rw [List.take_length] at h2
    simp [h2]
theorem w_laws_toIntSS (a : Sl (Sl (Int))) (ha : okS (okS okI) a) (hb : swS (swS swI) a ≤ 1048576) :
   VC Try.prog 38 [.d (dSl (cS cI) a)] (fun n r => ∃ y : Sl (Sl (Int)), r = .d (dSl (cS cI) y) ∧ plS (plS plI) y = plS (plS plI) a ∧ okS (okS okI) y ∧ Good (cS (cS cI) y) (whS (whS whI) y) n) := by
  refine VC.of E s38 (by kernel_rfl) Try.func38 (by rfl) (by kernel_rfl) (by simp [Try.f38]) (by simp [Try.f38]) s38_ok fun B => ?_
  have hwt : swS (swS swI) a = a.xs.length + sumW (swS swI) a.xs := rfl
  simp [Try.f38, dSl]
  refine ⟨⟨by omega, by simp only [maxLen]; omega⟩, ?_⟩
  refine loop_rule2 (X := Nat × List (Sl (Int))) (fun p h => p.1 ≤ a.xs.length ∧ p.2.length = p.1 ∧ p.2.map (plS plI) = (a.xs.map (plS plI)).take p.1 ∧ (∀ y ∈ p.2, okS okI y) ∧ GoodL (cS cI) (whS whI) B h p.2) (fun p => [(0, .d (.sl a.id a.T (a.xs.map (cS cI)))), (3, .own 7 0 a.xs.length), (4, .d (.int .i64 p.1))]) (fun p => [(7, some (.row 39 1 (p.2.map (cS cI) ++ List.replicate (a.xs.length - p.1) [.sl none none []])))]) (fun p => a.xs.length - p.1) (0, []) ⟨by simp, rfl, by simp, by simp, GoodL.nil⟩ (by simp) (by simp) ?_
  rintro ⟨i, ys⟩ hs t m ⟨hi, hyl, hpl, hok, hgd⟩ hh
  simp only at hi hyl hpl hok hgd
  by_cases hlt : i < a.xs.length
  · have hwi := wr1 (i := i) (by omega)
    have hmem : a.xs[i] ∈ a.xs := List.getElem_mem _
    have hsw := sumW_mem (swS swI) hmem
    simp [cS, hlt]
    refine call_some (w_laws_toIntS a.xs[i] (ha.2 _ hmem) (by simp only [swS] at hsw; omega)) rfl (by simp) fun n hs' r hn hn' hp hr => ?_
    obtain ⟨y, rfl, hy1, hy2, hy3⟩ := hp
    simp at hn
    have hr' : ∀ g ∈ idsL (cS cI y), g < hs' := fun g hg => hr g (by first | (simp [cS, V.ids, idsVL, idsL] at hg; done) | simpa [cS, V.ids, idsVL, idsL] using hg)
    have hyi : ys.length = i := hyl
    simp [cS, hlt, hwi, hyi, show i + (a.xs.length - i) = a.xs.length by omega, dSl]
    refine back2 (i + 1, ys ++ [y]) ⟨by omega, by simp [hyi], ?_, ?_, ?_⟩ (by simp <;> omega) rfl (by simp <;> omega) (by simp) ?_
    · simp only [List.map_append, hpl, List.map_cons, List.map_nil, hy1]
      rw [List.take_succ_eq_append_getElem (by simpa using hlt)]; simp
    · intro y' hy'
      rcases List.mem_append.1 hy' with h | h
      · exact hok y' h
      · rw [List.mem_singleton.1 h]; exact hy2
    · exact GoodL.snoc hgd (by omega) hn' hy3 hr'
    · simp [rep_set0 hlt, cS, dSl]
  · have hn : i = a.xs.length := by omega
    subst hn
    simp
    intro γ hs' h1 hg
    obtain ⟨q1, q2⟩ := gam_at hg (k := 7) (T := 39) (sz := 1) (es := ys.map (cS cI)) (by simp [upd])
    have q3 := gam_row hg (k := 7) (T := 39) (sz := 1) (es := ys.map (cS cI)) (by simp [upd])
    clear hg
    refine ⟨_, ⟨by omega, rfl⟩, ⟨γ 7, some (39, 1), ys⟩, ?_, by rw [List.take_of_length_le (by simp)] at hpl; exact hpl, ⟨by simp only [maxLen]; show ys.length ≤ _; omega, hok⟩, good_row (fun g hg => (q1 g hg).1) (by simpa using q2) q3 ⟨hgd.nd, hgd.lo⟩ hgd.wh⟩
    rw [if_pos hyl.symm, List.take_of_length_le (by simp [hyl])]
theorem w_laws_heldIntSS (a : Sl (Sl (Int))) (k : Int) (h0 : 1 ≤ k) (h1 : k + wtS (wtS wtI) a ≤ 4611686018427387904) (ha : okS (okS okI) a) :
   VC Try.prog 50 [.d (dSl (cS cI) a), .d (.int .i64 k)] (fun _ r => r = .d (.int .i64 (hv (hlS (hlS (hlI) (wtI)) (wtS wtI) a k) k (wtS (wtS wtI) a)))) := by
  refine VC.of E s50 (by kernel_rfl) Try.func50 (by rfl) (by kernel_rfl) (by simp [Try.f50]) (by simp [Try.f50]) s50_ok fun B => ?_
  obtain ⟨id, T, xs⟩ := a
  have ha1 := ha.1
  simp only [maxLen] at ha1
  have hwt : wtS (wtS wtI) (⟨id, T, xs⟩ : Sl (Sl (Int))) = sumW (wtS wtI) xs := rfl
  have hhl : hlS (hlS (hlI) (wtI)) (wtS wtI) (⟨id, T, xs⟩ : Sl (Sl (Int))) k = hlList (hlS (hlI) (wtI)) (wtS wtI) xs k := rfl
  rw [hwt] at h1
  rw [hwt, hhl]
  simp [Try.f50, dSl]
  refine loop_rule (X := Nat) (fun i => i ≤ xs.length ∧ hlList (hlS (hlI) (wtI)) (wtS wtI) (xs.take i) k = true) (fun i => [(0, .d (.sl id T (xs.map (cS cI)))), (1, .d (.int .i64 (k + sumW (wtS wtI) (xs.take i)))), (5, .d (.int .i64 i))]) (fun _ => []) (fun i => xs.length - i) 0 (by simp [hlList]) (by simp) (by simp) ?_
  intro i hs t m hi hh
  by_cases hlt : i < xs.length
  · have hwi := wr1 (i := i) (by omega)
    have e1 := sumW_succ (wtS wtI) hlt
    have e2 := sumW_le (wtS wtI) xs (i + 1)
    have hmem : xs[i] ∈ xs := List.getElem_mem _
    have hstep := hlList_step (hl := (hlS (hlI) (wtI))) (wt := (wtS wtI)) (k := k) hlt
    rw [hi.2, Bool.true_and] at hstep
    have hbad := hlList_bad (hl := (hlS (hlI) (wtI))) (wt := (wtS wtI)) (k := k) hlt
    have hex : hlS (hlI) (wtI) xs[i] (k + sumW (wtS wtI) (xs.take i)) = (hlS (hlI) (wtI) xs[i] (k + sumW (wtS wtI) (xs.take i))) := rfl
    have hwx : wtS wtI xs[i] = wtS wtI xs[i] := rfl
    simp [cS, hlt, dSl, ]
    refine call_pure (w_laws_heldIntS xs[i] _ (by omega) (by omega) ((ha.2 _ hmem))) rfl (by simp) rfl fun hs0 hh0 => ?_
    simp at hh0
    by_cases c0 : hlS (hlI) (wtI) xs[i] (k + sumW (wtS wtI) (xs.take i)) = true
    case neg =>
      have c0' : hlS (hlI) (wtI) xs[i] (k + sumW (wtS wtI) (xs.take i)) = false := by simpa using c0
      simp [c0', hbad (by simp [hex, c0'])]
    have hn0 : ¬ k + sumW (wtS wtI) (xs.take i) + (wtS wtI xs[i] : Int) < 0 := by omega
    simp [c0, hn0, hlt, cS, dSl, ]
    simp [hwi]
    refine back (i + 1) ⟨by omega, hstep.trans (hex.trans (by simp [c0]))⟩ (by omega) rfl (by simp <;> omega) ?_ (by simp)
    simp
    omega
  · have hn : i = xs.length := by omega
    subst hn
    have h2 := hi.2
    rw [List.take_length] at h2
    simp [h2]
theorem w_laws_toFile (a : File) (ha : okFile a) (hb : swFile a ≤ 1048576) :
   VC Try.prog 53 [.agg ((cFile a).map V.d)] (fun n r => ∃ y : File, r = .agg ((cFile y).map V.d) ∧ plFile y = plFile a ∧ okFile y ∧ Good (cFile y) (whFile y) n) := by
  refine VC.of E s53 (by kernel_rfl) Try.func53 (by rfl) (by kernel_rfl) (by simp [Try.f53]) (by simp [Try.f53]) s53_ok fun B => ?_
  have hwt : swFile a = swStr a.name + swStr a.data := rfl
  simp [Try.f53, cFile, cStr, dSl]
  refine ⟨⟨a.name, a.data⟩, ?_⟩
  refine ⟨by simp [cFile, cStr, dSl], by simp only [plFile], ⟨ha.1, ha.2⟩, ?_⟩
  have G0 : Good (cStr a.name) (whStr a.name) B := good_Str B a.name
  have G1 : Good (cStr a.data) (whStr a.data) B := good_Str B a.data
  have U0 : ∀ g ∈ idsL (cStr a.name), g < B := by simp [cStr, idsL, D.ids]
  have K1 : Good (cStr a.name ++ cStr a.data) ((whStr a.name) ∧ whStr a.data) B := Good.app G0 G1 (fun g h h' => by simp [cStr, idsL, D.ids] at h')
  have U1 : ∀ g ∈ idsL (cStr a.name ++ cStr a.data), g < B := fun g h => by rw [idsL_app] at h; rcases List.mem_append.1 h with h | h; exact U0 g h; simp [cStr, idsL, D.ids] at h
  exact ⟨K1.nd, K1.lo, by have h := K1.wh; exact ⟨h.1, h.2⟩⟩
theorem w_laws_toFileS (a : Sl (File)) (ha : okS okFile a) (hb : swS swFile a ≤ 1048576) :
   VC Try.prog 32 [.d (dSl cFile a)] (fun n r => ∃ y : Sl (File), r = .d (dSl cFile y) ∧ plS plFile y = plS plFile a ∧ okS okFile y ∧ Good (cS cFile y) (whS whFile y) n) := by
  refine VC.of E s32 (by kernel_rfl) Try.func32 (by rfl) (by kernel_rfl) (by simp [Try.f32]) (by simp [Try.f32]) s32_ok fun B => ?_
  have hwt : swS swFile a = a.xs.length + sumW swFile a.xs := rfl
  simp [Try.f32, dSl]
  refine ⟨⟨by omega, by simp only [maxLen]; omega⟩, ?_⟩
  refine loop_rule2 (X := Nat × List (File)) (fun p h => p.1 ≤ a.xs.length ∧ p.2.length = p.1 ∧ p.2.map plFile = (a.xs.map plFile).take p.1 ∧ (∀ y ∈ p.2, okFile y) ∧ GoodL cFile whFile B h p.2) (fun p => [(0, .d (.sl a.id a.T (a.xs.map cFile))), (3, .own 7 0 a.xs.length), (4, .d (.int .i64 p.1))]) (fun p => [(7, some (.row 55 2 (p.2.map cFile ++ List.replicate (a.xs.length - p.1) [.str [], .str []])))]) (fun p => a.xs.length - p.1) (0, []) ⟨by simp, rfl, by simp, by simp, GoodL.nil⟩ (by simp) (by simp) ?_
  rintro ⟨i, ys⟩ hs t m ⟨hi, hyl, hpl, hok, hgd⟩ hh
  simp only at hi hyl hpl hok hgd
  by_cases hlt : i < a.xs.length
  · have hwi := wr1 (i := i) (by omega)
    have hmem : a.xs[i] ∈ a.xs := List.getElem_mem _
    have hsw := sumW_mem swFile hmem
    simp [cFile, cStr, hlt]
    refine call_some (w_laws_toFile a.xs[i] (ha.2 _ hmem) (by omega)) rfl (by simp) fun n hs' r hn hn' hp hr => ?_
    obtain ⟨y, rfl, hy1, hy2, hy3⟩ := hp
    simp at hn
    have hr' : ∀ g ∈ idsL (cFile y), g < hs' := fun g hg => hr g (by first | (simp [cFile, cStr, V.ids, idsVL, idsL] at hg; done) | simpa [cFile, cStr, V.ids, idsVL, idsL] using hg)
    have hyi : ys.length = i := hyl
    simp [cFile, cStr, hlt, hwi, hyi, show i + (a.xs.length - i) = a.xs.length by omega, dSl]
    refine back2 (i + 1, ys ++ [y]) ⟨by omega, by simp [hyi], ?_, ?_, ?_⟩ (by simp <;> omega) rfl (by simp <;> omega) (by simp) ?_
    · simp only [List.map_append, hpl, List.map_cons, List.map_nil, hy1]
      rw [List.take_succ_eq_append_getElem (by simpa using hlt)]; simp
    · intro y' hy'
      rcases List.mem_append.1 hy' with h | h
      · exact hok y' h
      · rw [List.mem_singleton.1 h]; exact hy2
    · exact GoodL.snoc hgd (by omega) hn' hy3 hr'
    · simp [rep_set0 hlt, cFile, cStr, dSl]
  · have hn : i = a.xs.length := by omega
    subst hn
    simp
    intro γ hs' h1 hg
    obtain ⟨q1, q2⟩ := gam_at hg (k := 7) (T := 55) (sz := 2) (es := ys.map cFile) (by simp [upd])
    have q3 := gam_row hg (k := 7) (T := 55) (sz := 2) (es := ys.map cFile) (by simp [upd])
    clear hg
    refine ⟨_, ⟨by omega, rfl⟩, ⟨γ 7, some (55, 2), ys⟩, ?_, by rw [List.take_of_length_le (by simp)] at hpl; exact hpl, ⟨by simp only [maxLen]; show ys.length ≤ _; omega, hok⟩, good_row (fun g hg => (q1 g hg).1) (by simpa using q2) q3 ⟨hgd.nd, hgd.lo⟩ hgd.wh⟩
    rw [if_pos hyl.symm, List.take_of_length_le (by simp [hyl])]
theorem w_laws_heldFileS (a : Sl (File)) (k : Int) (h0 : 1 ≤ k) (h1 : k + wtS wtFile a ≤ 4611686018427387904) (ha : okS okFile a) :
   VC Try.prog 45 [.d (dSl cFile a), .d (.int .i64 k)] (fun _ r => r = .d (.int .i64 (hv (hlS (hlFile) (wtFile) a k) k (wtS wtFile a)))) := by
  refine VC.of E s45 (by kernel_rfl) Try.func45 (by rfl) (by kernel_rfl) (by simp [Try.f45]) (by simp [Try.f45]) s45_ok fun B => ?_
  obtain ⟨id, T, xs⟩ := a
  have ha1 := ha.1
  simp only [maxLen] at ha1
  have hwt : wtS wtFile (⟨id, T, xs⟩ : Sl (File)) = sumW wtFile xs := rfl
  have hhl : hlS (hlFile) (wtFile) (⟨id, T, xs⟩ : Sl (File)) k = hlList hlFile wtFile xs k := rfl
  rw [hwt] at h1
  rw [hwt, hhl]
  simp [Try.f45, s45_4, s45_7, dSl]
  refine loop_rule (X := Nat) (fun i => i ≤ xs.length ∧ hlList hlFile wtFile (xs.take i) k = true) (fun i => [(0, .d (.sl id T (xs.map cFile))), (1, .d (.int .i64 (k + sumW wtFile (xs.take i)))), (5, .d (.int .i64 i))]) (fun _ => []) (fun i => xs.length - i) 0 (by simp [hlList]) (by simp) (by simp) ?_
  intro i hs t m hi hh
  by_cases hlt : i < xs.length
  · have hwi := wr1 (i := i) (by omega)
    have e1 := sumW_succ wtFile hlt
    have e2 := sumW_le wtFile xs (i + 1)
    have hmem : xs[i] ∈ xs := List.getElem_mem _
    have hstep := hlList_step (hl := hlFile) (wt := wtFile) (k := k) hlt
    rw [hi.2, Bool.true_and] at hstep
    have hbad := hlList_bad (hl := hlFile) (wt := wtFile) (k := k) hlt
    have hex : hlFile xs[i] (k + sumW wtFile (xs.take i)) = (xs[i].name == mtext (k + sumW wtFile (xs.take i)) && xs[i].data == mtext (k + sumW wtFile (xs.take i) + 1)) := by simp [hlFile, hlStr, wtFile, wtStr, Bool.and_assoc, Int.add_assoc]
    have hwx : wtFile xs[i] = 1 + 1 := rfl
    have hk0 : IntKind.i64.wrap (k + sumW wtFile (xs.take i) + 1) = k + sumW wtFile (xs.take i) + 1 := wrap64_of (by omega) (by omega)
    simp [cFile, cStr, hlt, dSl, s45_4, s45_7, ]
    refine call_pure (w_laws_markText _ (by omega) (by omega)) rfl (by simp) rfl fun hs0 hh0 => ?_
    simp at hh0
    by_cases c0 : xs[i].name = mtext (k + sumW wtFile (xs.take i))
    case neg => simp [c0, hbad (by simp [hex, c0])]
    simp [c0, hk0, hlt, cFile, cStr, s45_4, s45_7, ]
    have hk1 : IntKind.i64.wrap (k + sumW wtFile (xs.take i) + 1 + 1) = k + sumW wtFile (xs.take i) + 1 + 1 := wrap64_of (by omega) (by omega)
    refine call_pure (w_laws_markText _ (by omega) (by omega)) rfl (by simp) rfl fun hs1 hh1 => ?_
    simp at hh1
    by_cases c1 : xs[i].data = mtext (k + sumW wtFile (xs.take i) + 1)
    case neg => simp [c1, hbad (by simp [hex, c1])]
    simp [c1, hk1, hlt, cFile, cStr, s45_4, s45_7, ]
    simp [hwi]
    refine back (i + 1) ⟨by omega, hstep.trans (hex.trans (by simp [c0, c1]))⟩ (by omega) rfl (by simp <;> omega) ?_ (by simp)
    simp
    omega
  · have hn : i = xs.length := by omega
    subst hn
    have h2 := hi.2
    rw [List.take_length] at h2
    simp [h2]
theorem w_laws_toDisk (a : Disk) (ha : okDisk a) (hb : swDisk a ≤ 1048576) :
   VC Try.prog 13 [.agg ((cDisk a).map V.d)] (fun n r => ∃ y : Disk, r = .agg ((cDisk y).map V.d) ∧ plDisk y = plDisk a ∧ okDisk y ∧ Good (cDisk y) (whDisk y) n) := by
  refine VC.of E s13 (by kernel_rfl) Try.func13 (by rfl) (by kernel_rfl) (by simp [Try.f13]) (by simp [Try.f13]) s13_ok fun B => ?_
  have hwt : swDisk a = swS swFile a.files := rfl
  simp [Try.f13, cDisk, cS, dSl]
  refine call_some (w_laws_toFileS a.files ha (by have := hwt; omega)) rfl (by simp) fun n0 hs0 r0 hn0 hm0 hp0 hr0 => ?_
  obtain ⟨y0, rfl, hy0, hk0, hg0⟩ := hp0
  have hl0 : ∀ g ∈ idsL (cS cFile y0), g < hs0 := fun g hg => hr0 g (by first | (simp [cS, V.ids, idsVL, idsL] at hg; done) | simpa [cS, V.ids, idsVL, idsL] using hg)
  simp at hn0
  simp [cS, dSl]
  refine ⟨⟨y0⟩, ?_⟩
  refine ⟨by simp [cDisk, cS, dSl], by simp only [plDisk, hy0], hk0, ?_⟩
  have G0 : Good (cS cFile y0) (whS whFile y0) B := hg0.le (by omega)
  have U0 : ∀ g ∈ idsL (cS cFile y0), g < hs0 := hl0
  exact G0
theorem w_laws_heldDisk (a : Disk) (k : Int) (h0 : 1 ≤ k) (h1 : k + wtTDisk a ≤ 4611686018427387904) (ha : okDisk a) :
   VC Try.prog 26 [.agg ((cDisk a).map V.d), .d (.int .i64 k)] (fun _ r => r = .d (.int .i64 (hv (hlTDisk a k) k (wtTDisk a)))) := by
  refine VC.of E s26 (by kernel_rfl) Try.func26 (by rfl) (by kernel_rfl) (by simp [Try.f26]) (by simp [Try.f26]) s26_ok fun B => ?_
  have hwt : wtTDisk a = wtS wtFile a.files := rfl
  have hex : hlTDisk a k = (hlS (hlFile) (wtFile) a.files (k)) := rfl
  simp [Try.f26, cDisk, cS, dSl]
  refine call_pure (w_laws_heldFileS a.files _ (by omega) (by omega) ha) rfl (by simp) rfl fun hs0 hh0 => ?_
  by_cases c0 : hlS (hlFile) (wtFile) a.files (k) = true
  case neg =>
    have c0' : hlS (hlFile) (wtFile) a.files (k) = false := by simpa using c0
    simp [c0', hex]
  have hn0 : ¬ k + (wtS wtFile a.files : Int) < 0 := by omega
  simp [c0, hn0]
  simp [hex, c0, hwt]
  try omega
theorem w_laws_toCountedRelation (a : Cnt) (ha : okCnt a) (hb : swCnt a ≤ 1048576) :
   VC Try.prog 20 [.agg ((cCnt a).map V.d)] (fun n r => ∃ y : Cnt, r = .agg ((cCnt y).map V.d) ∧ plCnt y = plCnt a ∧ okCnt y ∧ Good (cCnt y) (whCnt y) n) := by
  refine VC.of E s20 (by kernel_rfl) Try.func20 (by rfl) (by kernel_rfl) (by simp [Try.f20]) (by simp [Try.f20]) s20_ok fun B => ?_
  have hwt : swCnt a = swS (swS swI) a.rows + swS swI a.cs := rfl
  simp [Try.f20, cCnt, cI, cS, dSl]
  refine call_some (w_laws_toIntSS a.rows ha.2.1 (by have := hwt; omega)) rfl (by simp) fun n0 hs0 r0 hn0 hm0 hp0 hr0 => ?_
  obtain ⟨y0, rfl, hy0, hk0, hg0⟩ := hp0
  have hl0 : ∀ g ∈ idsL (cS (cS cI) y0), g < hs0 := fun g hg => hr0 g (by first | (simp [cS, V.ids, idsVL, idsL] at hg; done) | simpa [cS, V.ids, idsVL, idsL] using hg)
  simp at hn0
  simp [cS, dSl]
  refine call_some (w_laws_toIntS a.cs ha.2.2 (by have := hwt; simp only [swS] at this; omega)) rfl (by simp) fun n1 hs1 r1 hn1 hm1 hp1 hr1 => ?_
  obtain ⟨y1, rfl, hy1, hk1, hg1⟩ := hp1
  have hl1 : ∀ g ∈ idsL (cS cI y1), g < hs1 := fun g hg => hr1 g (by first | (simp [cS, V.ids, idsVL, idsL] at hg; done) | simpa [cS, V.ids, idsVL, idsL] using hg)
  simp at hn1
  simp [cS, dSl]
  refine ⟨⟨a.ar, y0, y1⟩, ?_⟩
  refine ⟨by simp [cCnt, cI, cS, dSl], by simp only [plCnt, hy0, hy1], ⟨ha.1, hk0, hk1⟩, ?_⟩
  have G0 : Good (cI a.ar) (whI a.ar) B := good_I B a.ar
  have G1 : Good (cS (cS cI) y0) (whS (whS whI) y0) B := hg0.le (by omega)
  have G2 : Good (cS cI y1) (whS whI y1) B := hg1.le (by omega)
  have U0 : ∀ g ∈ idsL (cI a.ar), g < B := by simp [cI, idsL, D.ids]
  have K1 : Good (cI a.ar ++ cS (cS cI) y0) ((whI a.ar) ∧ whS (whS whI) y0) B := Good.app G0 G1 (fun g h h' => by have h1 := U0 g h; have h2 := hg0.lo g h'; omega)
  have U1 : ∀ g ∈ idsL (cI a.ar ++ cS (cS cI) y0), g < hs0 := fun g h => by rw [idsL_app] at h; rcases List.mem_append.1 h with h | h; (have h1 := U0 g h; omega); exact hl0 g h
  have K2 : Good (cI a.ar ++ cS (cS cI) y0 ++ cS cI y1) (((whI a.ar) ∧ whS (whS whI) y0) ∧ whS whI y1) B := Good.app K1 G2 (fun g h h' => by have h1 := U1 g h; have h2 := hg1.lo g h'; omega)
  have U2 : ∀ g ∈ idsL (cI a.ar ++ cS (cS cI) y0 ++ cS cI y1), g < hs1 := fun g h => by rw [idsL_app] at h; rcases List.mem_append.1 h with h | h; (have h1 := U1 g h; omega); exact hl1 g h
  exact ⟨K2.nd, K2.lo, by have h := K2.wh; exact ⟨h.1.1, h.1.2, h.2⟩⟩
theorem w_laws_heldCountedRelation (a : Cnt) (k : Int) (h0 : 1 ≤ k) (h1 : k + wtTCnt a ≤ 4611686018427387904) (ha : okCnt a) :
   VC Try.prog 30 [.agg ((cCnt a).map V.d), .d (.int .i64 k)] (fun _ r => r = .d (.int .i64 (hv (hlTCnt a k) k (wtTCnt a)))) := by
  refine VC.of E s30 (by kernel_rfl) Try.func30 (by rfl) (by kernel_rfl) (by simp [Try.f30]) (by simp [Try.f30]) s30_ok fun B => ?_
  have hwt : wtTCnt a = wtS (wtS wtI) a.rows + wtS wtI a.cs := rfl
  have hex : hlTCnt a k = (hlS (hlS (hlI) (wtI)) (wtS wtI) a.rows (k) && hlS (hlI) (wtI) a.cs (k + wtS (wtS wtI) a.rows)) := rfl
  simp [Try.f30, cCnt, cI, cS, dSl]
  refine call_pure (w_laws_heldIntSS a.rows _ (by omega) (by omega) ha.2.1) rfl (by simp) rfl fun hs0 hh0 => ?_
  by_cases c0 : hlS (hlS (hlI) (wtI)) (wtS wtI) a.rows (k) = true
  case neg =>
    have c0' : hlS (hlS (hlI) (wtI)) (wtS wtI) a.rows (k) = false := by simpa using c0
    simp [c0', hex]
  have hn0 : ¬ k + (wtS (wtS wtI) a.rows : Int) < 0 := by omega
  simp [c0, hn0]
  refine call_pure (w_laws_heldIntS a.cs _ (by omega) (by omega) ha.2.2) rfl (by simp) rfl fun hs1 hh1 => ?_
  by_cases c1 : hlS (hlI) (wtI) a.cs (k + wtS (wtS wtI) a.rows) = true
  case neg =>
    have c1' : hlS (hlI) (wtI) a.cs (k + wtS (wtS wtI) a.rows) = false := by simpa using c1
    simp [c1', hex]
  have hn1 : ¬ k + wtS (wtS wtI) a.rows + (wtS wtI a.cs : Int) < 0 := by omega
  simp [c1, hn1]
  simp [hex, c0, c1, hwt]
  try omega

end Go.Proofs.Ytfebikihnljjoaa
