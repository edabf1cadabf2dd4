/-
  HP3: a part of a proof of this seat: the value-level semantics of Go code without maps (Vs), its walk rules (Vt), the frame of a row (Vr), facts of types, schedules, walks. It holds of every program and state that its hypotheses name.
-/
import Derived.Test.YtfebikihnljjoaaH1
set_option linter.unusedSimpArgs false
set_option linter.unusedVariables false
namespace Go.Proofs.Ytfebikihnljjoaa
open Go.Vs Go.Proofs Go
set_option maxRecDepth 100000
set_option maxHeartbeats 1000000

theorem w_laws_markFileS (a : Sl (File)) (k : Int) (h0 : 1 ≤ k) (h1 : k + wtS wtFile a ≤ 4611686018427387904) (hw : whS whFile a) (hl : okS okFile a) (hnd : (dSl cFile a).ids.Nodup) :
   VX Try.prog 44 (dSl cFile a).ids [.d (dSl cFile a), .d (.int .i64 k)] none (fun _ r _ ws => r = .d (.int .i64 (k + wtS wtFile a)) ∧ ws = [dSl cFile (mkS (mkFile) (wtFile) a k)]) := by
  refine VX.of E s44 (by kernel_rfl) Try.func44 (by rfl) (by kernel_rfl) (by simp [Try.f44]) (by simp [Try.f44]) s44_ok ?_ ?_ fun B hB => ?_
  · exact fun g hg => .inl (by simpa using hg)
  · exact fun cs h => nomatch h
  obtain ⟨id, T, xs⟩ := a
  have hl1 := hl.1
  simp only [maxLen] at hl1
  have hwt : wtS wtFile (⟨id, T, xs⟩ : Sl (File)) = sumW wtFile xs := rfl
  rw [hwt] at h1 ⊢
  simp [Try.f44]
  refine loop_rule (X := Nat) (fun i => i ≤ xs.length) (fun i => [(0, .d (dSl cFile ⟨id, T, mkAt mkFile wtFile xs k i⟩)), (1, .d (.int .i64 (k + sumW wtFile (xs.take i)))), (5, .d (.int .i64 i))]) (fun _ => []) (fun i => xs.length - i) 0 (by simp) (by simp) (by simp) ?_
  intro i hs t m hi hh
  by_cases hlt : i < xs.length
  · have hwi := wr1 (i := i) (by omega)
    have e1 := sumW_succ wtFile hlt
    have e2 := sumW_le wtFile xs (i + 1)
    have hmem : xs[i] ∈ xs := List.getElem_mem _
    have hwx : wtFile xs[i] = 1 + 1 := rfl
    obtain ⟨g, hg, T', hT⟩ := hw.1.id hlt
    simp only at hg hT
    subst hg hT
    have hnd2 := sl_nd hnd
    have hnn : g ∉ idsLL ((mkAt mkFile wtFile xs k i).map cFile) := by rw [ids_mkAt marksFile.ids]; exact hnd2.2 g rfl
    have hni : g ∉ idsL (cFile xs[i]) := fun hin => hnd2.2 g rfl (idsLL_map_mem.2 ⟨_, hmem, hin⟩)
    have hne := elem_nd hnd2.1 hlt
    have hap : ∀ W : List Nat, (∀ q ∈ W, q ∈ idsL (cFile xs[i])) → ∀ ws (j : Nat) (e : List D), j ≠ i → ((mkAt mkFile wtFile xs k i).map cFile)[j]? = some e → ∀ q ∈ idsL e, phi W ws q = none := by
      intro W hW ws
      exact nd_mapD (by rw [ids_mkAt marksFile.ids]; exact hnd2.1) (i := i) (by simpa using hlt) (by simpa using hW) ws
    simp only [cFile, cStr, idsL_app, idsL, D.ids, dSl, List.append_nil, List.nil_append, List.cons_append, List.mem_append, not_or, List.append_assoc] at hni hne
    simp [dSl, hlt]
    have hk0 : IntKind.i64.wrap (k + sumW wtFile (xs.take i) + 1) = k + sumW wtFile (xs.take i) + 1 := wrap64_of (by omega) (by omega)
    refine call_pure (w_laws_markText _ (by omega) (by omega)) rfl (by simp) rfl fun hs0 hh0 => ?_
    simp at hh0
    simp [dSl, hlt, cFile, cStr, hnn, nin_set hnn, idsL, D.ids, hni, hk0, hwi]
    have hk1 : IntKind.i64.wrap (k + sumW wtFile (xs.take i) + 1 + 1) = k + sumW wtFile (xs.take i) + 1 + 1 := wrap64_of (by omega) (by omega)
    refine call_pure (w_laws_markText _ (by omega) (by omega)) rfl (by simp) rfl fun hs1 hh1 => ?_
    simp at hh1
    simp [dSl, hlt, cFile, cStr, hnn, nin_set hnn, idsL, D.ids, hni, hk1, hwi]
    refine back (i + 1) (by omega) (by omega) rfl (by simp <;> omega) ?_ (by simp)
    simp [mkAt_succ hlt, e1, cFile, cStr, dSl]
    exact ⟨rfl, by omega⟩
  · have hn : i = xs.length := by omega
    subst hn
    simp [dSl, vendX]
    refine ⟨[0], fun γ hs' h1 h2 => ?_⟩
    simp [mkS, mkAt_all]
theorem simT_Disk {a : Disk} (hw : whDisk a) (k : Int) : Sim (cDisk a) (cDisk (mkTDisk a k)) := sim_mk marksFile hw (k)
theorem w_laws_markDisk (a : Disk) (k : Int) (h0 : 1 ≤ k) (h1 : k + wtTDisk a ≤ 4611686018427387904) (hw : whDisk a) (hl : okDisk a) (hnd : (idsL (cDisk a)).Nodup) :
   VX Try.prog 25 (idsL (cDisk a)) [.agg ((cDisk a).map V.d), .d (.int .i64 k)] none (fun _ r _ ws => r = .d (.int .i64 (k + wtTDisk a)) ∧ ws = cDisk (mkTDisk a k)) := by
  refine VX.of E s25 (by kernel_rfl) Try.func25 (by rfl) (by kernel_rfl) (by simp [Try.f25]) (by simp [Try.f25]) s25_ok ?_ ?_ fun B hB => ?_
  · exact fun g hg => .inl (by simpa [idsVL, V.ids, idsVL_map_d] using hg)
  · exact fun cs h => nomatch h
  have hwt : wtTDisk a = wtS wtFile a.files := rfl
  have hnd0 := hnd
  simp only [cDisk, idsL_app] at hnd0
  have nd0 : (idsL (cS cFile a.files)).Nodup := hnd0
  simp [Try.f25, cDisk, cS]
  refine call_x (E44) (by simp) (by simp) (by simp) (fun q hq => .inr ?_) (w_laws_markFileS a.files (k) (by omega) (by omega) (hw) (hl) (by rw [← idsL_cS]; exact nd0)) fun n0 hs0 r cs' ws hn0 hm0 hp hr hws => ?_
  · simp only [idsL_app, idsL, List.append_nil, List.nil_append, List.append_assoc, List.mem_append, cDisk, cS] at hq ⊢
    simp [hq]
  obtain ⟨rfl, rfl⟩ := hp
  simp at hn0
  have hre0 : reL (phi (dSl cFile a.files).ids [dSl cFile (mkS (mkFile) (wtFile) a.files (k))]) (cS cFile a.files) = some (cS cFile (mkS (mkFile) (wtFile) a.files (k))) := by
    have := re_sim (sim_mk marksFile hw (k)) ((marksS marksFile).ids _ _) nd0
    rw [idsL_cS] at this
    exact this
  replace hre0 := reVL_map hre0
  simp only [cDisk, cS, List.cons_append, List.nil_append, List.map_cons, List.map_nil, reVL_cons, reVL_nil, List.cons.injEq, and_true, reV_int, reV_str, true_and] at hre0
  simp [hre0, cDisk, cS]
  simp [vendX]
  refine ⟨[0], fun γ hs' h1 h2 => ?_⟩
  simp [isD, dD, hwt, mkTDisk, cDisk, cS, reD]
  try omega
theorem simT_Cnt {a : Cnt} (hw : whCnt a) (k : Int) : Sim (cCnt a) (cCnt (mkTCnt a k)) := ((Sim.leaf (by simp [D.ids]) Sim.nil).app (sim_mk (marksS marksI) hw.2.1 (k))).app (sim_mk marksI hw.2.2 (k + wtS (wtS wtI) a.rows))
theorem w_laws_markCountedRelation (a : Cnt) (k : Int) (h0 : 1 ≤ k) (h1 : k + wtTCnt a ≤ 4611686018427387904) (hw : whCnt a) (hl : okCnt a) (hnd : (idsL (cCnt a)).Nodup) :
   VX Try.prog 29 (idsL (cCnt a)) [.agg ((cCnt a).map V.d), .d (.int .i64 k)] none (fun _ r _ ws => r = .d (.int .i64 (k + wtTCnt a)) ∧ ws = cCnt (mkTCnt a k)) := by
  refine VX.of E s29 (by kernel_rfl) Try.func29 (by rfl) (by kernel_rfl) (by simp [Try.f29]) (by simp [Try.f29]) s29_ok ?_ ?_ fun B hB => ?_
  · exact fun g hg => .inl (by simpa [idsVL, V.ids, idsVL_map_d] using hg)
  · exact fun cs h => nomatch h
  have hwt : wtTCnt a = wtS (wtS wtI) a.rows + wtS wtI a.cs := rfl
  have hnd0 := hnd
  simp only [cCnt, idsL_app] at hnd0
  have nd0 : (idsL (cI a.ar)).Nodup := nd_left (nd_left (hnd0))
  have nd1 : (idsL (cS (cS cI) a.rows)).Nodup := nd_right (nd_left (hnd0))
  have nd2 : (idsL (cS cI a.cs)).Nodup := nd_right (hnd0)
  have dj0_1 : ∀ g ∈ idsL (cI a.ar), g ∉ idsL (cS (cS cI) a.rows) := fun g hg => nd_disj (nd_left (hnd0)) g (hg)
  have dj0_2 : ∀ g ∈ idsL (cI a.ar), g ∉ idsL (cS cI a.cs) := fun g hg => nd_disj (hnd0) g (List.mem_append_left _ (hg))
  have dj1_2 : ∀ g ∈ idsL (cS (cS cI) a.rows), g ∉ idsL (cS cI a.cs) := fun g hg => nd_disj (hnd0) g (List.mem_append_right _ hg)
  simp [Try.f29, cCnt, cI, cS]
  refine call_x (E48) (by simp) (by simp) (by simp) (fun q hq => .inr ?_) (w_laws_markIntSS a.rows (k) (by omega) (by omega) (hw.2.1) (hl.2.1) (by rw [← idsL_cS]; exact nd1)) fun n0 hs0 r cs' ws hn0 hm0 hp hr hws => ?_
  · simp only [idsL_app, idsL, List.append_nil, List.nil_append, List.append_assoc, List.mem_append, cCnt, cI, cS] at hq ⊢
    simp [hq]
  obtain ⟨rfl, rfl⟩ := hp
  simp at hn0
  have hre0 : reL (phi (dSl (cS cI) a.rows).ids [dSl (cS cI) (mkS (mkS (mkI) (wtI)) (wtS wtI) a.rows (k))]) (cS (cS cI) a.rows) = some (cS (cS cI) (mkS (mkS (mkI) (wtI)) (wtS wtI) a.rows (k))) := by
    have := re_sim (sim_mk (marksS marksI) hw.2.1 (k)) ((marksS (marksS marksI)).ids _ _) nd1
    rw [idsL_cS] at this
    exact this
  have ho0_2 : reL (phi (dSl (cS cI) a.rows).ids [dSl (cS cI) (mkS (mkS (mkI) (wtI)) (wtS wtI) a.rows (k))]) (cS cI a.cs) = some (cS cI a.cs) := re_same fun g hg => by
    rw [← idsL_cS] at hg
    skip
    exact dj1_2 g hg
  replace hre0 := reVL_map hre0
  replace ho0_2 := reVL_map ho0_2
  simp only [cCnt, cI, cS, List.cons_append, List.nil_append, List.map_cons, List.map_nil, reVL_cons, reVL_nil, List.cons.injEq, and_true, reV_int, reV_str, true_and] at hre0 ho0_2
  simp [hre0, ho0_2, cCnt, cI, cS]
  refine call_x (E49) (by simp) (by simp) (by simp) (fun q hq => .inr ?_) (w_laws_markIntS a.cs (k + wtS (wtS wtI) a.rows) (by omega) (by omega) (hw.2.2) (hl.2.2) (by rw [← idsL_cS]; exact nd2)) fun n1 hs1 r cs' ws hn1 hm1 hp hr hws => ?_
  · simp only [idsL_app, idsL, List.append_nil, List.nil_append, List.append_assoc, List.mem_append, cCnt, cI, cS] at hq ⊢
    simp [hq]
  obtain ⟨rfl, rfl⟩ := hp
  simp at hn1
  have hre1 : reL (phi (dSl cI a.cs).ids [dSl cI (mkS (mkI) (wtI) a.cs (k + wtS (wtS wtI) a.rows))]) (cS cI a.cs) = some (cS cI (mkS (mkI) (wtI) a.cs (k + wtS (wtS wtI) a.rows))) := by
    have := re_sim (sim_mk marksI hw.2.2 (k + wtS (wtS wtI) a.rows)) ((marksS marksI).ids _ _) nd2
    rw [idsL_cS] at this
    exact this
  have ho1_1 : reL (phi (dSl cI a.cs).ids [dSl cI (mkS (mkI) (wtI) a.cs (k + wtS (wtS wtI) a.rows))]) (cS (cS cI) (mkS (mkS (mkI) (wtI)) (wtS wtI) a.rows (k))) = some (cS (cS cI) (mkS (mkS (mkI) (wtI)) (wtS wtI) a.rows (k))) := re_same fun g hg => by
    rw [← idsL_cS] at hg
    rw [(marksS (marksS marksI)).ids]
    exact (fun h => dj1_2 g h hg)
  replace hre1 := reVL_map hre1
  replace ho1_1 := reVL_map ho1_1
  simp only [cCnt, cI, cS, List.cons_append, List.nil_append, List.map_cons, List.map_nil, reVL_cons, reVL_nil, List.cons.injEq, and_true, reV_int, reV_str, true_and] at hre1 ho1_1
  simp [hre1, ho1_1, cCnt, cI, cS]
  simp [vendX]
  refine ⟨[0], fun γ hs' h1 h2 => ?_⟩
  simp [isD, dD, hwt, mkTCnt, cCnt, cI, cS, reD]
  try omega

end Go.Proofs.Ytfebikihnljjoaa
