/-
  L2: a part of a proof of this seat: the value-level semantics of Go code without maps (Vs), its walk rules (Vt), the frame of a row (Vr), facts of types, schedules, walks. It holds of every program and state that its hypotheses name.
-/
import Derived.Test.YtfebikihnljjoaaS4
set_option linter.unusedSimpArgs false
set_option linter.unusedVariables false
namespace Go.Proofs.Ytfebikihnljjoaa
open Go.Vs Go.Proofs Go
set_option maxRecDepth 100000
set_option maxHeartbeats 1000000

theorem w_laws_FnExactNegateCounted (a : Cnt) (k_a : okCnt a)  :
   VC Try.prog 8 [.agg ((cCnt a).map V.d)] (fun _ r => r = .d (.bool true)) := by
  refine VC.ofB E s8 (by kernel_rfl) Try.func8 (by rfl) (by kernel_rfl) (by simp [Try.f8]) (by simp [Try.f8]) s8_ok fun B hB => ?_
  have ua_a : ∀ g ∈ idsL (cCnt a), g < B := fun g hg => hB g (by simp only [idsVL, ids_agg, idsVL_map_d, V.ids, idsL_cS, List.mem_append] at hg ⊢; simp [hg])
  simp [Try.f8, s8_10, s8_10, cCnt, cI, cS]
  refine call_pure (w_laws_szCountedRelation a _ (by omega) (by omega) k_a) rfl (by simp) rfl fun hz_a zz_a => ?_
  simp at zz_a
  by_cases s_a : (swCnt a : Int) ≤ 1048576
  case neg =>
    rw [szv_neg (by omega)]; simp
    all_goals exact fun h => absurd h (by decide)
  rw [szv_pos s_a]
  simp [show ¬ (1048576 : Int) - swCnt a < 0 by omega, show ¬ (1048576 : Int) < swCnt a by omega]
  have hsz : swS (swS swI) a.rows + swS swI a.cs ≤ 1048576 := by have : swCnt a = swS (swS swI) a.rows + swS swI a.cs := rfl; omega
  have hbw : ∀ y : Cnt, plCnt y = plCnt a ∨ plCnt y = negP (plCnt a) → 1 + (wtTCnt y : Int) ≤ 4611686018427387904 := cnt_bound hsz
  have hln : ∀ y : Cnt, plCnt y = plCnt a → y.rows.xs.length ≤ 4294967296 ∧ (∀ r ∈ y.rows.xs, r.xs.length ≤ 4294967296) ∧ y.cs.xs.length ≤ 4294967296 := cnt_lens hsz
  refine call_some (w_laws_toCountedRelation a k_a (by omega)) rfl (by simp) fun n1 hs1 r1 hn1 hm1 hp1 hr1 => ?_
  obtain ⟨y1, rfl, p1, k1, G1⟩ := hp1
  have u1 : ∀ g ∈ idsL (cCnt y1), g < hs1 := fun g hg => hr1 g (by first | (rw [ids_agg]; exact hg) | (simpa only [V.ids, idsL_cS] using hg))
  simp at hn1
  have lens_1 := hln y1 p1
  simp [s8_10, cCnt, cI, cS]
  refine call_some (w_spec_NegateCounted y1 k1 (lens_1).1 (lens_1).2.1 (lens_1).2.2) rfl (by simp) fun n2 hs2 r2 hn2 hm2 hp2 hr2 => ?_
  obtain ⟨w0, rfl, pw0, kw0, Gw0⟩ := hp2
  have uw0 : ∀ g ∈ idsL (cCnt w0), g < hs2 := fun g hg => hr2 g (by rw [ids_agg]; exact hg)
  rw [p1] at pw0
  simp at hn2
  simp [s8_10, cCnt, cI, cS]
  refine call_some (w_laws_toCountedRelation a k_a (by omega)) rfl (by simp) fun n3 hs3 r3 hn3 hm3 hp3 hr3 => ?_
  obtain ⟨y3, rfl, p3, k3, G3⟩ := hp3
  have u3 : ∀ g ∈ idsL (cCnt y3), g < hs3 := fun g hg => hr3 g (by first | (rw [ids_agg]; exact hg) | (simpa only [V.ids, idsL_cS] using hg))
  simp at hn3
  have lens_3 := hln y3 p3
  simp [s8_10, cCnt, cI, cS]
  refine call_some (w_impl_NegateCounted y3 k3 (lens_3).1 (lens_3).2.1 (lens_3).2.2) rfl (by simp) fun n4 hs4 r4 hn4 hm4 hp4 hr4 => ?_
  obtain ⟨g0, rfl, pg0, kg0, Gg0⟩ := hp4
  have ug0 : ∀ g ∈ idsL (cCnt g0), g < hs4 := fun g hg => hr4 g (by rw [ids_agg]; exact hg)
  have lg0 := Gg0.lo
  rw [p3] at pg0
  have hbg := hbw g0 (.inr pg0)
  simp at hn4
  simp [s8_10, cCnt, cI, cS]
  refine call_pure (w_laws_eqCountedRelation g0 w0 kg0) rfl (by simp) rfl fun hs5 hh5 => ?_
  simp at hh5
  simp [s8_10, cCnt, cI, cS, pg0, pw0]
  refine call_some (w_laws_toCountedRelation a k_a (by omega)) rfl (by simp) fun n6 hs6 r6 hn6 hm6 hp6 hr6 => ?_
  obtain ⟨y6, rfl, p6, k6, G6⟩ := hp6
  have u6 : ∀ g ∈ idsL (cCnt y6), g < hs6 := fun g hg => hr6 g (by first | (rw [ids_agg]; exact hg) | (simpa only [V.ids, idsL_cS] using hg))
  simp at hn6
  have lens_6 := hln y6 p6
  simp [s8_10, cCnt, cI, cS]
  refine call_pure (w_laws_eqCountedRelation y3 y6 k3) rfl (by simp) rfl fun hs7 hh7 => ?_
  simp at hh7
  simp [s8_10, cCnt, cI, cS, p3, p6]
  refine call_x (E29) (by simp) (by simp) (by simp) (fun q hq => .inl ?_) (w_laws_markCountedRelation y3 (1) (by omega) (by exact hbw _ (.inl p3)) G3.wh k3 G3.nd) fun n8 hs8 r8 cs8 ws8 hn8 hm8 hp8 hr8 hw8 => ?_
  · have := G3.lo q (by simpa only [idsL_cS] using hq)
    show B ≤ q
    omega
  obtain ⟨rfl, rfl⟩ := hp8
  simp at hn8
  have hre8 : reL (phi (idsL (cCnt y3)) (cCnt (mkTCnt y3 (1)))) (cCnt y3) = some (cCnt (mkTCnt y3 (1))) := re_sim (simT_Cnt G3.wh _) (marksTCnt.ids _ _) G3.nd
  have ho8_a : reL (phi (idsL (cCnt y3)) (cCnt (mkTCnt y3 (1)))) (cCnt a) = some (cCnt a) := re_same fun g hg h => by
    skip
    have h1 := G3.lo g (by simpa only [idsL_cS] using hg); have h2 := ua_a g h; omega
  have ho8_w0 : reL (phi (idsL (cCnt y3)) (cCnt (mkTCnt y3 (1)))) (cCnt w0) = some (cCnt w0) := re_same fun g hg h => by
    skip
    have h1 := G3.lo g (by simpa only [idsL_cS] using hg); have h2 := uw0 g h; omega
  have ho8_g0 : reL (phi (idsL (cCnt y3)) (cCnt (mkTCnt y3 (1)))) (cCnt g0) = some (cCnt g0) := re_same fun g hg h => by
    skip
    have h1 := u3 g (by simpa only [idsL_cS] using hg); have h2 := lg0 g h; omega
  replace hre8 := reVL_map hre8
  replace ho8_a := reVL_map ho8_a
  replace ho8_w0 := reVL_map ho8_w0
  replace ho8_g0 := reVL_map ho8_g0
  simp only [s8_10, cCnt, cI, cS, List.cons_append, List.nil_append, List.map_cons, List.map_nil, reVL_cons, reVL_nil, List.cons.injEq, and_true, reV_int, reV_str, true_and, mkTCnt] at hre8 ho8_a ho8_w0 ho8_g0
  simp [hre8, ho8_a, ho8_w0, ho8_g0, s8_10, cCnt, cI, cS, mkTCnt]
  simp [show ¬ (1 + wtTCnt y3 : Int) < 0 by omega, show (0 : Int) ≤ 1 + wtTCnt y3 by omega]
  refine call_pure (w_laws_eqCountedRelation g0 w0 kg0) rfl (by simp) rfl fun hs9 hh9 => ?_
  simp at hh9
  simp [s8_10, cCnt, cI, cS, pg0, pw0]
  refine call_x (E29) (by simp) (by simp) (by simp) (fun q hq => .inl ?_) (w_laws_markCountedRelation g0 (1) (by omega) (by exact hbg) Gg0.wh kg0 Gg0.nd) fun n10 hs10 r10 cs10 ws10 hn10 hm10 hp10 hr10 hw10 => ?_
  · have := Gg0.lo q (by simpa only [idsL_cS] using hq)
    show B ≤ q
    omega
  obtain ⟨rfl, rfl⟩ := hp10
  simp at hn10
  have hre10 : reL (phi (idsL (cCnt g0)) (cCnt (mkTCnt g0 (1)))) (cCnt g0) = some (cCnt (mkTCnt g0 (1))) := re_sim (simT_Cnt Gg0.wh _) (marksTCnt.ids _ _) Gg0.nd
  have ho10_a : reL (phi (idsL (cCnt g0)) (cCnt (mkTCnt g0 (1)))) (cCnt a) = some (cCnt a) := re_same fun g hg h => by
    skip
    have h1 := Gg0.lo g (by simpa only [idsL_cS] using hg); have h2 := ua_a g h; omega
  have ho10_w0 : reL (phi (idsL (cCnt g0)) (cCnt (mkTCnt g0 (1)))) (cCnt w0) = some (cCnt w0) := re_same fun g hg h => by
    skip
    have h1 := Gg0.lo g (by simpa only [idsL_cS] using hg); have h2 := uw0 g h; omega
  have ho10_y3 : reL (phi (idsL (cCnt g0)) (cCnt (mkTCnt g0 (1)))) (cCnt (mkTCnt y3 (1))) = some (cCnt (mkTCnt y3 (1))) := re_same fun g hg h => by
    rw [marksTCnt.ids] at h
    have h1 := Gg0.lo g (by simpa only [idsL_cS] using hg); have h2 := u3 g h; omega
  replace hre10 := reVL_map hre10
  replace ho10_a := reVL_map ho10_a
  replace ho10_w0 := reVL_map ho10_w0
  replace ho10_y3 := reVL_map ho10_y3
  simp only [s8_10, cCnt, cI, cS, List.cons_append, List.nil_append, List.map_cons, List.map_nil, reVL_cons, reVL_nil, List.cons.injEq, and_true, reV_int, reV_str, true_and, mkTCnt] at hre10 ho10_a ho10_w0 ho10_y3
  simp [hre10, ho10_a, ho10_w0, ho10_y3, s8_10, cCnt, cI, cS, mkTCnt]
  refine call_pure (w_laws_heldCountedRelation (mkTCnt g0 (1)) (1) (by omega) (by rw [marksTCnt.wt]; exact hbg) (ok_mkTCnt _ _ kg0)) rfl (by simp) rfl fun hs11 hh11 => ?_
  simp at hh11
  rw [marksTCnt.hl, marksTCnt.wt]
  simp [show ¬ (1 + wtTCnt g0 : Int) < 0 by omega]
  refine call_some (w_laws_toCountedRelation a k_a (by omega)) rfl (by simp) fun n12 hs12 r12 hn12 hm12 hp12 hr12 => ?_
  obtain ⟨y12, rfl, p12, k12, G12⟩ := hp12
  have u12 : ∀ g ∈ idsL (cCnt y12), g < hs12 := fun g hg => hr12 g (by first | (rw [ids_agg]; exact hg) | (simpa only [V.ids, idsL_cS] using hg))
  simp at hn12
  have lens_12 := hln y12 p12
  simp [s8_10, cCnt, cI, cS]
  refine call_some (w_impl_NegateCounted y12 k12 (lens_12).1 (lens_12).2.1 (lens_12).2.2) rfl (by simp) fun n13 hs13 r13 hn13 hm13 hp13 hr13 => ?_
  obtain ⟨h0, rfl, ph0, kh0, Gh0⟩ := hp13
  have uh0 : ∀ g ∈ idsL (cCnt h0), g < hs13 := fun g hg => hr13 g (by rw [ids_agg]; exact hg)
  have lh0 := Gh0.lo
  rw [p12] at ph0
  have hbh := hbw h0 (.inr ph0)
  simp at hn13
  simp [s8_10, cCnt, cI, cS]
  refine call_pure (w_laws_eqCountedRelation h0 w0 kh0) rfl (by simp) rfl fun hs14 hh14 => ?_
  simp at hh14
  simp [s8_10, cCnt, cI, cS, ph0, pw0]
  refine call_pure (w_laws_heldCountedRelation (mkTCnt g0 (1)) (1) (by omega) (by rw [marksTCnt.wt]; exact hbg) (ok_mkTCnt _ _ kg0)) rfl (by simp) rfl fun hs15 hh15 => ?_
  simp at hh15
  rw [marksTCnt.hl, marksTCnt.wt]
  simp [show ¬ (1 + wtTCnt g0 : Int) < 0 by omega]

end Go.Proofs.Ytfebikihnljjoaa
