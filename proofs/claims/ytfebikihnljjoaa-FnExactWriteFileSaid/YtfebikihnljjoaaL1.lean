/-
  L1: a part of a proof of this seat: the value-level semantics of Go code without maps (Vs), its walk rules (Vt), the frame of a row (Vr), facts of types, schedules, walks. It holds of every program and state that its hypotheses name.
-/
import Derived.Test.YtfebikihnljjoaaS1
import Derived.Test.YtfebikihnljjoaaS2
set_option linter.unusedSimpArgs false
set_option linter.unusedVariables false
namespace Go.Proofs.Ytfebikihnljjoaa
open Go.Vs Go.Proofs Go
set_option maxRecDepth 100000
set_option maxHeartbeats 1000000

theorem plFile_inj {l l' : List File} (h : l.map plFile = l'.map plFile) : l = l' := by
  induction l generalizing l' with
  | nil => cases l' with | nil => rfl | cons _ _ => simp at h
  | cons a r ih =>
    cases l' with
    | nil => simp at h
    | cons b s =>
      simp only [List.map_cons, List.cons.injEq] at h
      rw [ih h.2]
      obtain ⟨a1, a2⟩ := a
      obtain ⟨b1, b2⟩ := b
      have := h.1
      simp only [plFile, plStr, Prod.mk.injEq] at this
      rw [this.1, this.2]
theorem w_laws_FnExactWriteFile (a : Disk) (nm : List UInt8) (d : List UInt8) (k_a : okDisk a) (k_nm : okStr nm) (k_d : okStr d)  :
   VC Try.prog 7 [.agg ((cDisk a).map V.d), .d (.str nm), .d (.str d)] (fun _ r => r = .d (.bool true)) := by
  refine VC.ofB E s7 (by kernel_rfl) Try.func7 (by rfl) (by kernel_rfl) (by simp [Try.f7]) (by simp [Try.f7]) s7_ok fun B hB => ?_
  have ua_a : ∀ g ∈ idsL (cDisk a), g < B := fun g hg => hB g (by simp only [idsVL, ids_agg, idsVL_map_d, V.ids, idsL_cS, List.mem_append] at hg ⊢; simp [hg])
  by_cases q_nm : (1048576 : Int) < nm.length
  case pos => simp [Try.f7, s7_14, s7_14, cDisk, cS, q_nm]
  by_cases q_d : (1048576 : Int) < d.length
  case pos => simp [Try.f7, s7_14, s7_14, cDisk, cS, q_nm, q_d]
  simp [Try.f7, s7_14, s7_14, cDisk, cS, q_nm, q_d]
  refine call_pure (w_laws_szDisk a _ (by omega) (by omega) k_a) rfl (by simp) rfl fun hz_a zz_a => ?_
  simp at zz_a
  by_cases s_a : (swDisk a : Int) ≤ 1048576
  case neg =>
    rw [szv_neg (by omega)]; simp
    all_goals exact fun h => absurd h (by decide)
  rw [szv_pos s_a]
  simp [show ¬ (1048576 : Int) - swDisk a < 0 by omega, show ¬ (1048576 : Int) < swDisk a by omega]
  have hwl : swDisk a = a.files.xs.length + sumW swFile a.files.xs := rfl
  have hbw : ∀ y : Disk, y.files.xs.length ≤ 1048578 → 1 + (wtTDisk y : Int) ≤ 4611686018427387904 := fun y hy => by
    have h1 : wtTDisk y = sumW wtFile y.files.xs := rfl
    have h2 : ∀ l : List File, sumW wtFile l = 2 * l.length := fun l => by
      induction l with
      | nil => rfl
      | cons b r ih => simp [ih, wtFile, wtStr]; omega
    rw [h1, h2]; omega
  refine call_some (w_laws_toDisk a k_a (by omega)) rfl (by simp) fun n1 hs1 r1 hn1 hm1 hp1 hr1 => ?_
  obtain ⟨y1, rfl, p1, k1, G1⟩ := hp1
  have u1 : ∀ g ∈ idsL (cDisk y1), g < hs1 := fun g hg => hr1 g (by first | (rw [ids_agg]; exact hg) | (simpa only [V.ids, idsL_cS] using hg))
  simp at hn1
  have e1 : y1.files.xs = a.files.xs := plFile_inj p1
  simp [s7_14, cDisk, cS]
  refine call_some (w_spec_WriteFile y1 nm d k1 k_nm k_d (by rw [e1]; omega)) rfl (by simp) fun n2 hs2 r2 hn2 hm2 hp2 hr2 => ?_
  obtain ⟨w0, rfl, pw0, kw0, Gw0⟩ := hp2
  have uw0 : ∀ g ∈ idsL (cDisk w0), g < hs2 := fun g hg => hr2 g (by rw [ids_agg]; exact hg)
  rw [e1] at pw0
  simp at hn2
  simp [s7_14, cDisk, cS]
  refine call_some (w_laws_toDisk a k_a (by omega)) rfl (by simp) fun n3 hs3 r3 hn3 hm3 hp3 hr3 => ?_
  obtain ⟨y3, rfl, p3, k3, G3⟩ := hp3
  have u3 : ∀ g ∈ idsL (cDisk y3), g < hs3 := fun g hg => hr3 g (by first | (rw [ids_agg]; exact hg) | (simpa only [V.ids, idsL_cS] using hg))
  simp at hn3
  have e3 : y3.files.xs = a.files.xs := plFile_inj p3
  simp [s7_14, cDisk, cS]
  refine call_some (w_impl_WriteFile y3 nm d k3 k_nm k_d (by rw [e3]; omega)) rfl (by simp) fun n4 hs4 r4 hn4 hm4 hp4 hr4 => ?_
  obtain ⟨g0, rfl, pg0, kg0, Gg0⟩ := hp4
  have ug0 : ∀ g ∈ idsL (cDisk g0), g < hs4 := fun g hg => hr4 g (by rw [ids_agg]; exact hg)
  have lg0 := Gg0.lo
  rw [e3] at pg0
  have hlg : g0.files.xs.length ≤ 1048578 := by
    have h1 := congrArg List.length pg0
    have h2 := wf_length nm d a.files.xs
    simp [plDisk, plS] at h1; omega
  simp at hn4
  simp [s7_14, cDisk, cS]
  refine call_pure (w_laws_eqDisk g0 w0 kg0) rfl (by simp) rfl fun hs5 hh5 => ?_
  simp at hh5
  simp [s7_14, cDisk, cS, pg0, pw0]
  refine call_some (w_laws_toDisk a k_a (by omega)) rfl (by simp) fun n6 hs6 r6 hn6 hm6 hp6 hr6 => ?_
  obtain ⟨y6, rfl, p6, k6, G6⟩ := hp6
  have u6 : ∀ g ∈ idsL (cDisk y6), g < hs6 := fun g hg => hr6 g (by first | (rw [ids_agg]; exact hg) | (simpa only [V.ids, idsL_cS] using hg))
  simp at hn6
  have e6 : y6.files.xs = a.files.xs := plFile_inj p6
  simp [s7_14, cDisk, cS]
  refine call_pure (w_laws_eqDisk y3 y6 k3) rfl (by simp) rfl fun hs7 hh7 => ?_
  simp at hh7
  simp [s7_14, cDisk, cS, p3, p6]
  refine call_x (E25) (by simp) (by simp) (by simp) (fun q hq => .inl ?_) (w_laws_markDisk y3 (1) (by omega) (by exact hbw _ (by rw [e3]; omega)) G3.wh k3 G3.nd) fun n8 hs8 r8 cs8 ws8 hn8 hm8 hp8 hr8 hw8 => ?_
  · have := G3.lo q (by simpa only [idsL_cS] using hq)
    show B ≤ q
    omega
  obtain ⟨rfl, rfl⟩ := hp8
  simp at hn8
  have hre8 : reL (phi (idsL (cDisk y3)) (cDisk (mkTDisk y3 (1)))) (cDisk y3) = some (cDisk (mkTDisk y3 (1))) := re_sim (simT_Disk G3.wh _) (marksTDisk.ids _ _) G3.nd
  have ho8_a : reL (phi (idsL (cDisk y3)) (cDisk (mkTDisk y3 (1)))) (cDisk a) = some (cDisk a) := re_same fun g hg h => by
    skip
    have h1 := G3.lo g (by simpa only [idsL_cS] using hg); have h2 := ua_a g h; omega
  have ho8_w0 : reL (phi (idsL (cDisk y3)) (cDisk (mkTDisk y3 (1)))) (cDisk w0) = some (cDisk w0) := re_same fun g hg h => by
    skip
    have h1 := G3.lo g (by simpa only [idsL_cS] using hg); have h2 := uw0 g h; omega
  have ho8_g0 : reL (phi (idsL (cDisk y3)) (cDisk (mkTDisk y3 (1)))) (cDisk g0) = some (cDisk g0) := re_same fun g hg h => by
    skip
    have h1 := u3 g (by simpa only [idsL_cS] using hg); have h2 := lg0 g h; omega
  replace hre8 := reVL_map hre8
  replace ho8_a := reVL_map ho8_a
  replace ho8_w0 := reVL_map ho8_w0
  replace ho8_g0 := reVL_map ho8_g0
  simp only [s7_14, cDisk, cS, List.cons_append, List.nil_append, List.map_cons, List.map_nil, reVL_cons, reVL_nil, List.cons.injEq, and_true, reV_int, reV_str, true_and, mkTDisk] at hre8 ho8_a ho8_w0 ho8_g0
  simp [hre8, ho8_a, ho8_w0, ho8_g0, s7_14, cDisk, cS, mkTDisk]
  simp [show ¬ (1 + wtTDisk y3 : Int) < 0 by omega, show (0 : Int) ≤ 1 + wtTDisk y3 by omega]
  refine call_pure (w_laws_eqDisk g0 w0 kg0) rfl (by simp) rfl fun hs9 hh9 => ?_
  simp at hh9
  simp [s7_14, cDisk, cS, pg0, pw0]
  refine call_x (E25) (by simp) (by simp) (by simp) (fun q hq => .inl ?_) (w_laws_markDisk g0 (1) (by omega) (by exact hbw _ hlg) Gg0.wh kg0 Gg0.nd) fun n10 hs10 r10 cs10 ws10 hn10 hm10 hp10 hr10 hw10 => ?_
  · have := Gg0.lo q (by simpa only [idsL_cS] using hq)
    show B ≤ q
    omega
  obtain ⟨rfl, rfl⟩ := hp10
  simp at hn10
  have hre10 : reL (phi (idsL (cDisk g0)) (cDisk (mkTDisk g0 (1)))) (cDisk g0) = some (cDisk (mkTDisk g0 (1))) := re_sim (simT_Disk Gg0.wh _) (marksTDisk.ids _ _) Gg0.nd
  have ho10_a : reL (phi (idsL (cDisk g0)) (cDisk (mkTDisk g0 (1)))) (cDisk a) = some (cDisk a) := re_same fun g hg h => by
    skip
    have h1 := Gg0.lo g (by simpa only [idsL_cS] using hg); have h2 := ua_a g h; omega
  have ho10_w0 : reL (phi (idsL (cDisk g0)) (cDisk (mkTDisk g0 (1)))) (cDisk w0) = some (cDisk w0) := re_same fun g hg h => by
    skip
    have h1 := Gg0.lo g (by simpa only [idsL_cS] using hg); have h2 := uw0 g h; omega
  have ho10_y3 : reL (phi (idsL (cDisk g0)) (cDisk (mkTDisk g0 (1)))) (cDisk (mkTDisk y3 (1))) = some (cDisk (mkTDisk y3 (1))) := re_same fun g hg h => by
    rw [marksTDisk.ids] at h
    have h1 := Gg0.lo g (by simpa only [idsL_cS] using hg); have h2 := u3 g h; omega
  replace hre10 := reVL_map hre10
  replace ho10_a := reVL_map ho10_a
  replace ho10_w0 := reVL_map ho10_w0
  replace ho10_y3 := reVL_map ho10_y3
  simp only [s7_14, cDisk, cS, List.cons_append, List.nil_append, List.map_cons, List.map_nil, reVL_cons, reVL_nil, List.cons.injEq, and_true, reV_int, reV_str, true_and, mkTDisk] at hre10 ho10_a ho10_w0 ho10_y3
  simp [hre10, ho10_a, ho10_w0, ho10_y3, s7_14, cDisk, cS, mkTDisk]
  refine call_pure (w_laws_heldDisk (mkTDisk g0 (1)) (1) (by omega) (by rw [marksTDisk.wt]; exact hbw _ hlg) (ok_mkTDisk _ _ kg0)) rfl (by simp) rfl fun hs11 hh11 => ?_
  simp at hh11
  rw [marksTDisk.hl, marksTDisk.wt]
  simp [show ¬ (1 + wtTDisk g0 : Int) < 0 by omega]
  refine call_some (w_laws_toDisk a k_a (by omega)) rfl (by simp) fun n12 hs12 r12 hn12 hm12 hp12 hr12 => ?_
  obtain ⟨y12, rfl, p12, k12, G12⟩ := hp12
  have u12 : ∀ g ∈ idsL (cDisk y12), g < hs12 := fun g hg => hr12 g (by first | (rw [ids_agg]; exact hg) | (simpa only [V.ids, idsL_cS] using hg))
  simp at hn12
  have e12 : y12.files.xs = a.files.xs := plFile_inj p12
  simp [s7_14, cDisk, cS]
  refine call_some (w_impl_WriteFile y12 nm d k12 k_nm k_d (by rw [e12]; omega)) rfl (by simp) fun n13 hs13 r13 hn13 hm13 hp13 hr13 => ?_
  obtain ⟨h0, rfl, ph0, kh0, Gh0⟩ := hp13
  have uh0 : ∀ g ∈ idsL (cDisk h0), g < hs13 := fun g hg => hr13 g (by rw [ids_agg]; exact hg)
  have lh0 := Gh0.lo
  rw [e12] at ph0
  have hlh : h0.files.xs.length ≤ 1048578 := by
    have h1 := congrArg List.length ph0
    have h2 := wf_length nm d a.files.xs
    simp [plDisk, plS] at h1; omega
  simp at hn13
  simp [s7_14, cDisk, cS]
  refine call_pure (w_laws_eqDisk h0 w0 kh0) rfl (by simp) rfl fun hs14 hh14 => ?_
  simp at hh14
  simp [s7_14, cDisk, cS, ph0, pw0]
  refine call_pure (w_laws_heldDisk (mkTDisk g0 (1)) (1) (by omega) (by rw [marksTDisk.wt]; exact hbw _ hlg) (ok_mkTDisk _ _ kg0)) rfl (by simp) rfl fun hs15 hh15 => ?_
  simp at hh15
  rw [marksTDisk.hl, marksTDisk.wt]
  simp [show ¬ (1 + wtTDisk g0 : Int) < 0 by omega]

end Go.Proofs.Ytfebikihnljjoaa
