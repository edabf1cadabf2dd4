/-
  BR1B3: a part of a proof of this seat: the value-level semantics of Go code without maps, its walk rules, the frame of a row, facts of types, schedules, walks, plain lemmas (LBR). It holds of every program and state that its hypotheses name.
-/
import Derived.Test.YtglilmkmkdkedaaGreatDoorBR1B2
set_option linter.unusedSimpArgs false
set_option linter.unusedVariables false
set_option linter.unnecessarySimpa false
namespace Go.Proofs.YtglilmkmkdkedaaGreatDoor
open Go.Vs Go.Proofs Go
set_option maxRecDepth 100000
set_option maxHeartbeats 1000000
theorem w_laws_FnExactBagRelation (a : Db) (b : Query) (x : Sl (Int)) (k_a : okDb a) (k_b : okQuery b) (k_x : okS okI x) :
  VC Tryz.prog 3 [.agg ((cDb a).map V.d), .agg ((cQuery b).map V.d), .d (dSl cI x)] (fun _ r => r = .d (.bool true)) := by
 refine VC.ofB E s3 (by kernel_rfl) Tryz.func3 (by rfl) (by kernel_rfl) (by simp [Tryz.f3]) (by simp [Tryz.f3]) s3_ok fun B hB => ?_
 have ua_a : ∀ g ∈ idsL (cDb a), g < B := fun g hg => hB g (by simp only [idsVL, ids_agg, idsVL_map_d, V.ids, idsL_cS, List.mem_append] at hg ⊢; simp [hg])
 have ua_b : ∀ g ∈ idsL (cQuery b), g < B := fun g hg => hB g (by simp only [idsVL, ids_agg, idsVL_map_d, V.ids, idsL_cS, List.mem_append] at hg ⊢; simp [hg])
 have ua_x : ∀ g ∈ idsL (cS cI x), g < B := fun g hg => hB g (by simp only [idsVL, ids_agg, idsVL_map_d, V.ids, idsL_cS, List.mem_append] at hg ⊢; simp [hg])
 have hd_x : dSl cI x = D.sl x.id x.T (x.xs.map cI) := rfl
 by_cases q_x : (1048576 : Int) < x.xs.length
 case pos => simp [Tryz.f3, s3_17, s3_19, s3_17, s3_19, cDb, cI, cQuery, cReln, cS, cVRel, cI, cS, dInts, hd_x, dSl, q_x]
 simp [Tryz.f3, s3_17, s3_19, s3_17, s3_19, cDb, cI, cQuery, cReln, cS, cVRel, cI, cS, dInts, hd_x, q_x]
 refine call_pure (w_laws_szDatabase a _ (by omega) (by omega) k_a) rfl (by simp) rfl fun hz_a zz_a => ?_
 simp at zz_a
 by_cases s_a : (swDb a : Int) <= 1048576
 case neg =>
  rw [szv_neg (by omega)]; simp
  all_goals exact fun h => absurd h (by decide)
 rw [szv_pos s_a]
 simp [show ¬ (1048576 : Int) - swDb a < 0 by omega, show ¬ (1048576 : Int) < swDb a by omega, s_a]
 refine call_pure (w_laws_szQuery b _ (by omega) (by omega) k_b) rfl (by simp) rfl fun hz_b zz_b => ?_
 simp at zz_b
 by_cases s_b : (swQuery b : Int) <= 1048576 - swDb a
 case neg =>
  rw [szv_neg (by omega)]; simp
  all_goals exact fun h => absurd h (by decide)
 rw [szv_pos s_b]
 simp [show ¬ (1048576 - swDb a : Int) - swQuery b < 0 by omega, show ¬ (1048576 - swDb a : Int) < swQuery b by omega, s_b]
 have hw_a := wbT_Db a
 have hw_b := wbT_Query b
 have hw_x := wt_ints x
 refine cutT (X := VRel) (fun w0 hs => plVRel w0 = ovR (brO (plDb a) (plQuery b) (plS plI x)) /\ ∀ g ∈ idsL (cVRel w0), g < hs) (fun w0 => [(3, .ptr 3 0 0), (4, .ptr 4 0 0), (2, .d (dSl cI x)), (8, .ptr 8 0 0), (9, .d (.bool (brO (plDb a) (plQuery b) (plS plI x)).isSome))]) (fun w0 => [(3, some (.box ((cDb a).map V.d))), (4, some (.box ((cQuery b).map V.d))), (8, some (.box ((cVRel w0).map V.d)))]) ?_ ?_
 ·intro K hK
  simp [s3_10, cDb, cI, cQuery, cReln, cS, cVRel, cI, cS, hd_x]
  repeat' apply And.intro
  all_goals
   refine call_some (w_laws_toDatabase a k_a (by omega)) rfl (by simp) fun n1 hs1 r1 hn1 hm1 hp1 hr1 => ?_
   obtain ⟨y1, rfl, p1, k1, G1⟩ := hp1
   have u1 : ∀ g ∈ idsL (cDb y1), g < hs1 := fun g hg => hr1 g (by first | (rw [ids_agg]; exact hg) | (simpa only [V.ids, idsL_cS] using hg))
   simp at hn1
   have e1 : wtTDb y1 = wtTDb a := by rw [wtTDb_pl, wtTDb_pl, p1]
   simp [s3_17, s3_19, cDb, cI, cQuery, cReln, cS, cVRel, cI, cS, dInts, hd_x]
   repeat' apply And.intro
   all_goals
    refine call_some (w_laws_toQuery b k_b (by omega)) rfl (by simp) fun n2 hs2 r2 hn2 hm2 hp2 hr2 => ?_
    obtain ⟨y2, rfl, p2, k2, G2⟩ := hp2
    have u2 : ∀ g ∈ idsL (cQuery y2), g < hs2 := fun g hg => hr2 g (by first | (rw [ids_agg]; exact hg) | (simpa only [V.ids, idsL_cS] using hg))
    simp at hn2
    have e2 : wtTQuery y2 = wtTQuery b := by rw [wtTQuery_pl, wtTQuery_pl, p2]
    simp [s3_17, s3_19, cDb, cI, cQuery, cReln, cS, cVRel, cI, cS, dInts, hd_x]
    repeat' apply And.intro
    all_goals
     refine call_some (w_laws_toIntS x k_x (by omega)) rfl (by simp) fun n3 hs3 r3 hn3 hm3 hp3 hr3 => ?_
     obtain ⟨y3, rfl, p3, k3, G3⟩ := hp3
     have u3 : ∀ g ∈ idsL (cS cI y3), g < hs3 := fun g hg => hr3 g (by first | (rw [ids_agg]; exact hg) | (simpa only [V.ids, idsL_cS] using hg))
     simp at hn3
     have e3 : wtS wtI y3 = wtS wtI x := by rw [wt_S_I_pl, wt_S_I_pl, p3]
     simp [s3_17, s3_19, cDb, cI, cQuery, cReln, cS, cVRel, cI, cS, dInts, hd_x]
     repeat' apply And.intro
     all_goals
      refine call_some (VC.track (VC.to (w_spec_BagRelation (plDb y1) (plQuery y2) (plS plI y3) (okDb_strs k1) (okQuery_strs k2)) (show _ = V.tup [.agg ((eVRel (ovR (brO (plDb a) (plQuery b) (plS plI x)))).map V.d), .d (.bool (brO (plDb a) (plQuery b) (plS plI x)).isSome)] by rw [p1, p2, p3])) (by simp [er_I, er_SI, er_Str, er_File, er_Tab, er_Db, er_Delta, er_Atom, er_VRel, eDb, eQuery, eReln, eVRel, plDb, plI, plQuery, plReln, plVRel, cP, pS, plI]) (by simp [V.pn, pnVL])) rfl (by simp) fun n4 hs4 r4 hn4 hm4 hp4 hr4 => ?_
      obtain ⟨hq4, ht4⟩ := hp4
      obtain ⟨x40, x41, rfl, q40, q41, t40, t41⟩ := rp_tup2 hq4 ht4
      obtain ⟨w0, rfl, pw0⟩ := rp_agg tk_VRel q40 t40
      obtain rfl := rp_flat q41 rfl
      have uw0 : ∀ g ∈ idsL (cVRel w0), g < hs4 := fun g hg => hr4 g (by simp only [V.ids, idsVL, ids_agg, idsVL_map_d, idsL_cS, List.mem_append] at hg ⊢; simp [hg])
      simp at hn4
      clear hr4
      simp [s3_17, s3_19, cDb, cI, cQuery, cReln, cS, cVRel, cI, cS, dInts, hd_x]
      exact hK w0 _ ⟨pw0, uw0⟩ rfl rfl (by simp <;> omega) (by simp [cDb, cI, cQuery, cReln, cS, cVRel, cI, cS, hd_x]) (by simp [cDb, cI, cQuery, cReln, cS, cVRel, cI, cS, hd_x])
 intro w0 hsw tw mw hw hhw
 obtain ⟨pw0, uw0⟩ := hw
 simp [s3_17, s3_19, cDb, cI, cQuery, cReln, cS, cVRel, cI, cS, dInts, hd_x]
 refine call_some (w_laws_toDatabase a k_a (by omega)) rfl (by simp) fun n5 hs5 r5 hn5 hm5 hp5 hr5 => ?_
 obtain ⟨y5, rfl, p5, k5, G5⟩ := hp5
 have u5 : ∀ g ∈ idsL (cDb y5), g < hs5 := fun g hg => hr5 g (by first | (rw [ids_agg]; exact hg) | (simpa only [V.ids, idsL_cS] using hg))
 simp at hn5
 have e5 : wtTDb y5 = wtTDb a := by rw [wtTDb_pl, wtTDb_pl, p5]
 simp [s3_17, s3_19, cDb, cI, cQuery, cReln, cS, cVRel, cI, cS, dInts, hd_x]
 refine call_some (w_laws_toQuery b k_b (by omega)) rfl (by simp) fun n6 hs6 r6 hn6 hm6 hp6 hr6 => ?_
 obtain ⟨y6, rfl, p6, k6, G6⟩ := hp6
 have u6 : ∀ g ∈ idsL (cQuery y6), g < hs6 := fun g hg => hr6 g (by first | (rw [ids_agg]; exact hg) | (simpa only [V.ids, idsL_cS] using hg))
 simp at hn6
 have e6 : wtTQuery y6 = wtTQuery b := by rw [wtTQuery_pl, wtTQuery_pl, p6]
 simp [s3_17, s3_19, cDb, cI, cQuery, cReln, cS, cVRel, cI, cS, dInts, hd_x]
 refine call_some (w_laws_toIntS x k_x (by omega)) rfl (by simp) fun n7 hs7 r7 hn7 hm7 hp7 hr7 => ?_
 obtain ⟨y7, rfl, p7, k7, G7⟩ := hp7
 have u7 : ∀ g ∈ idsL (cS cI y7), g < hs7 := fun g hg => hr7 g (by first | (rw [ids_agg]; exact hg) | (simpa only [V.ids, idsL_cS] using hg))
 simp at hn7
 have e7 : wtS wtI y7 = wtS wtI x := by rw [wt_S_I_pl, wt_S_I_pl, p7]
 simp [s3_17, s3_19, cDb, cI, cQuery, cReln, cS, cVRel, cI, cS, dInts, hd_x]
 refine call_some (t_impl_BagRelation y5 y6 y7 ) rfl (by simp) fun n8 hs8 r8 hn8 hm8 hp8 hr8 => ?_
 obtain ⟨g0, rfl, pg0, kg0, Gg0⟩ := hp8
 have ug0 : ∀ g ∈ idsL (cVRel g0), g < hs8 := fun g hg => hr8 g (by simp only [V.ids, idsVL, ids_agg, idsVL_map_d, idsL_cS, List.mem_append] at hg ⊢; simp [hg])
 have lg0 := Gg0.lo
 simp only [p5] at pg0
 simp only [p6] at pg0
 simp only [p7] at pg0
 simp at hn8
 simp [s3_17, s3_19, cDb, cI, cQuery, cReln, cS, cVRel, cI, cS, dInts, hd_x, p5, p6, p7]
 have hbg0 : 1 + (wtTVRel g0 : Int) ≤ 4611686018427387904 := by
  rw [wtTVRel_pl, pg0]
  have := wp_br (plDb a) (plQuery b) (plS plI x); omega
 refine call_pure (w_laws_eqVarRelation g0 w0 kg0) rfl (by simp) rfl fun hs9 hh9 => ?_
 simp at hh9
 simp [s3_17, s3_19, cDb, cI, cQuery, cReln, cS, cVRel, cI, cS, dInts, hd_x, pg0, pw0]
 refine call_some (w_laws_toDatabase a k_a (by omega)) rfl (by simp) fun n10 hs10 r10 hn10 hm10 hp10 hr10 => ?_
 obtain ⟨y10, rfl, p10, k10, G10⟩ := hp10
 have u10 : ∀ g ∈ idsL (cDb y10), g < hs10 := fun g hg => hr10 g (by first | (rw [ids_agg]; exact hg) | (simpa only [V.ids, idsL_cS] using hg))
 simp at hn10
 have e10 : wtTDb y10 = wtTDb a := by rw [wtTDb_pl, wtTDb_pl, p10]
 simp [s3_17, s3_19, cDb, cI, cQuery, cReln, cS, cVRel, cI, cS, dInts, hd_x]
 refine call_pure (w_laws_eqDatabase y5 y10 k5) rfl (by simp) rfl fun hs11 hh11 => ?_
 simp at hh11
 simp [s3_17, s3_19, cDb, cI, cQuery, cReln, cS, cVRel, cI, cS, dInts, hd_x, p5, p10]
 refine call_some (w_laws_toQuery b k_b (by omega)) rfl (by simp) fun n12 hs12 r12 hn12 hm12 hp12 hr12 => ?_
 obtain ⟨y12, rfl, p12, k12, G12⟩ := hp12
 have u12 : ∀ g ∈ idsL (cQuery y12), g < hs12 := fun g hg => hr12 g (by first | (rw [ids_agg]; exact hg) | (simpa only [V.ids, idsL_cS] using hg))
 simp at hn12
 have e12 : wtTQuery y12 = wtTQuery b := by rw [wtTQuery_pl, wtTQuery_pl, p12]
 simp [s3_17, s3_19, cDb, cI, cQuery, cReln, cS, cVRel, cI, cS, dInts, hd_x]
 refine call_pure (w_laws_eqQuery y6 y12 k6) rfl (by simp) rfl fun hs13 hh13 => ?_
 simp at hh13
 simp [s3_17, s3_19, cDb, cI, cQuery, cReln, cS, cVRel, cI, cS, dInts, hd_x, p6, p12]
 refine call_some (w_laws_toIntS x k_x (by omega)) rfl (by simp) fun n14 hs14 r14 hn14 hm14 hp14 hr14 => ?_
 obtain ⟨y14, rfl, p14, k14, G14⟩ := hp14
 have u14 : ∀ g ∈ idsL (cS cI y14), g < hs14 := fun g hg => hr14 g (by first | (rw [ids_agg]; exact hg) | (simpa only [V.ids, idsL_cS] using hg))
 simp at hn14
 have e14 : wtS wtI y14 = wtS wtI x := by rw [wt_S_I_pl, wt_S_I_pl, p14]
 simp [s3_17, s3_19, cDb, cI, cQuery, cReln, cS, cVRel, cI, cS, dInts, hd_x]
 refine call_pure (w_laws_eqIntS y7 y14 k7) rfl (by simp) rfl fun hs15 hh15 => ?_
 simp at hh15
 simp [s3_17, s3_19, cDb, cI, cQuery, cReln, cS, cVRel, cI, cS, dInts, hd_x, p7, p14]
 refine call_x (E18) (by simp) (by simp) (by simp) (fun q hq => .inl ?_) (w_laws_markDatabase y5 (1) (by omega) (by omega) G5.wh k5 G5.nd) fun n16 hs16 r16 cs16 ws16 hn16 hm16 hp16 hr16 hw16 => ?_
 ·have := G5.lo q (by simpa only [idsL_cS] using hq)
  show B <= q
  omega
 obtain ⟨rfl, rfl⟩ := hp16
 simp at hn16
 have hre16 : reL (phi (idsL (cDb y5)) (cDb (mkTDb y5 (1)))) (cDb y5) = some (cDb (mkTDb y5 (1))) := re_sim (simT_Db G5.wh _) (marksTDb.ids _ _) G5.nd
 have ho16_a : reL (phi (idsL (cDb y5)) (cDb (mkTDb y5 (1)))) (cDb a) = some (cDb a) := re_same fun g hg h => by
  skip
  have h1 := G5.lo g (by simpa only [idsL_cS] using hg); have h2 := ua_a g h; omega
 have ho16_b : reL (phi (idsL (cDb y5)) (cDb (mkTDb y5 (1)))) (cQuery b) = some (cQuery b) := re_same fun g hg h => by
  skip
  have h1 := G5.lo g (by simpa only [idsL_cS] using hg); have h2 := ua_b g h; omega
 have ho16_x : reL (phi (idsL (cDb y5)) (cDb (mkTDb y5 (1)))) (cS cI x) = some (cS cI x) := re_same fun g hg h => by
  skip
  have h1 := G5.lo g (by simpa only [idsL_cS] using hg); have h2 := ua_x g h; omega
 have ho16_w0 : reL (phi (idsL (cDb y5)) (cDb (mkTDb y5 (1)))) (cVRel w0) = some (cVRel w0) := re_same fun g hg h => by
  skip
  have h1 := G5.lo g (by simpa only [idsL_cS] using hg); have h2 := uw0 g h; omega
 have ho16_g0 : reL (phi (idsL (cDb y5)) (cDb (mkTDb y5 (1)))) (cVRel g0) = some (cVRel g0) := re_same fun g hg h => by
  skip
  have h1 := u5 g (by simpa only [idsL_cS] using hg); have h2 := lg0 g h; omega
 have ho16_y6 : reL (phi (idsL (cDb y5)) (cDb (mkTDb y5 (1)))) (cQuery y6) = some (cQuery y6) := re_same fun g hg h => by
  skip
  have h1 := u5 g (by simpa only [idsL_cS] using hg); have h2 := (G6.lo) g h; omega
 have ho16_y7 : reL (phi (idsL (cDb y5)) (cDb (mkTDb y5 (1)))) (cS cI y7) = some (cS cI y7) := re_same fun g hg h => by
  skip
  have h1 := u5 g (by simpa only [idsL_cS] using hg); have h2 := (G7.lo) g h; omega
 replace hre16 := reVL_map hre16
 replace ho16_a := reVL_map ho16_a
 replace ho16_b := reVL_map ho16_b
 replace ho16_x := reVL_map ho16_x
 replace ho16_w0 := reVL_map ho16_w0
 replace ho16_g0 := reVL_map ho16_g0
 replace ho16_y6 := reVL_map ho16_y6
 replace ho16_y7 := reVL_map ho16_y7
 simp only [s3_17, s3_19, cDb, cI, cQuery, cReln, cS, cVRel, cI, cS, dInts, hd_x, List.cons_append, List.nil_append, List.map_cons, List.map_nil, reVL_cons, reVL_nil, List.cons.injEq, and_true, reV_int, reV_str, true_and, mkTAtom, mkTDb, mkTQuery, mkTReln, mkTTab, mkTVRel] at hre16 ho16_a ho16_b ho16_x ho16_w0 ho16_g0 ho16_y6 ho16_y7
 simp [hre16, ho16_a, ho16_b, ho16_x, ho16_w0, ho16_g0, ho16_y6, ho16_y7, s3_17, s3_19, cDb, cI, cQuery, cReln, cS, cVRel, cI, cS, dInts, hd_x, mkTAtom, mkTDb, mkTQuery, mkTReln, mkTTab, mkTVRel, show ¬ (1 + wtTDb y5 : Int) < 0 by omega, show (0 : Int) <= 1 + wtTDb y5 by omega]
 refine call_x (E19) (by simp) (by simp) (by simp) (fun q hq => .inl ?_) (w_laws_markQuery y6 (1 + wtTDb y5) (by omega) (by omega) G6.wh k6 G6.nd) fun n17 hs17 r17 cs17 ws17 hn17 hm17 hp17 hr17 hw17 => ?_
 ·have := G6.lo q (by simpa only [idsL_cS] using hq)
  show B <= q
  omega
 obtain ⟨rfl, rfl⟩ := hp17
 simp at hn17
 have hre17 : reL (phi (idsL (cQuery y6)) (cQuery (mkTQuery y6 (1 + wtTDb y5)))) (cQuery y6) = some (cQuery (mkTQuery y6 (1 + wtTDb y5))) := re_sim (simT_Query G6.wh _) (marksTQuery.ids _ _) G6.nd
 have ho17_a : reL (phi (idsL (cQuery y6)) (cQuery (mkTQuery y6 (1 + wtTDb y5)))) (cDb a) = some (cDb a) := re_same fun g hg h => by
  skip
  have h1 := G6.lo g (by simpa only [idsL_cS] using hg); have h2 := ua_a g h; omega
 have ho17_b : reL (phi (idsL (cQuery y6)) (cQuery (mkTQuery y6 (1 + wtTDb y5)))) (cQuery b) = some (cQuery b) := re_same fun g hg h => by
  skip
  have h1 := G6.lo g (by simpa only [idsL_cS] using hg); have h2 := ua_b g h; omega
 have ho17_x : reL (phi (idsL (cQuery y6)) (cQuery (mkTQuery y6 (1 + wtTDb y5)))) (cS cI x) = some (cS cI x) := re_same fun g hg h => by
  skip
  have h1 := G6.lo g (by simpa only [idsL_cS] using hg); have h2 := ua_x g h; omega
 have ho17_w0 : reL (phi (idsL (cQuery y6)) (cQuery (mkTQuery y6 (1 + wtTDb y5)))) (cVRel w0) = some (cVRel w0) := re_same fun g hg h => by
  skip
  have h1 := G6.lo g (by simpa only [idsL_cS] using hg); have h2 := uw0 g h; omega
 have ho17_g0 : reL (phi (idsL (cQuery y6)) (cQuery (mkTQuery y6 (1 + wtTDb y5)))) (cVRel g0) = some (cVRel g0) := re_same fun g hg h => by
  skip
  have h1 := u6 g (by simpa only [idsL_cS] using hg); have h2 := lg0 g h; omega
 have ho17_y5 : reL (phi (idsL (cQuery y6)) (cQuery (mkTQuery y6 (1 + wtTDb y5)))) (cDb (mkTDb y5 (1))) = some (cDb (mkTDb y5 (1))) := re_same fun g hg h => by
  rw [marksTDb.ids] at h
  have h1 := G6.lo g (by simpa only [idsL_cS] using hg); have h2 := u5 g h; omega
 have ho17_y7 : reL (phi (idsL (cQuery y6)) (cQuery (mkTQuery y6 (1 + wtTDb y5)))) (cS cI y7) = some (cS cI y7) := re_same fun g hg h => by
  skip
  have h1 := u6 g (by simpa only [idsL_cS] using hg); have h2 := (G7.lo) g h; omega
 replace hre17 := reVL_map hre17
 replace ho17_a := reVL_map ho17_a
 replace ho17_b := reVL_map ho17_b
 replace ho17_x := reVL_map ho17_x
 replace ho17_w0 := reVL_map ho17_w0
 replace ho17_g0 := reVL_map ho17_g0
 replace ho17_y5 := reVL_map ho17_y5
 replace ho17_y7 := reVL_map ho17_y7
 simp only [s3_17, s3_19, cDb, cI, cQuery, cReln, cS, cVRel, cI, cS, dInts, hd_x, List.cons_append, List.nil_append, List.map_cons, List.map_nil, reVL_cons, reVL_nil, List.cons.injEq, and_true, reV_int, reV_str, true_and, mkTAtom, mkTDb, mkTQuery, mkTReln, mkTTab, mkTVRel] at hre17 ho17_a ho17_b ho17_x ho17_w0 ho17_g0 ho17_y5 ho17_y7
 simp [hre17, ho17_a, ho17_b, ho17_x, ho17_w0, ho17_g0, ho17_y5, ho17_y7, s3_17, s3_19, cDb, cI, cQuery, cReln, cS, cVRel, cI, cS, dInts, hd_x, mkTAtom, mkTDb, mkTQuery, mkTReln, mkTTab, mkTVRel, show ¬ (1 + wtTDb y5 + wtTQuery y6 : Int) < 0 by omega, show (0 : Int) <= 1 + wtTDb y5 + wtTQuery y6 by omega]
 refine call_x (E20) (by simp) (by simp) (by simp) (fun q hq => .inl ?_) (w_laws_markIntS y7 (1 + wtTDb y5 + wtTQuery y6) (by omega) (by omega) G7.wh k7 (by have := G7.nd; rwa [idsL_cS] at this)) fun n18 hs18 r18 cs18 ws18 hn18 hm18 hp18 hr18 hw18 => ?_
 ·have := G7.lo q (by simpa only [idsL_cS] using hq)
  show B <= q
  omega
 obtain ⟨rfl, rfl⟩ := hp18
 simp at hn18
 have hre18 : reL (phi (dSl cI y7).ids [dSl cI (mkS (mkI) (wtI) y7 (1 + wtTDb y5 + wtTQuery y6))]) (cS cI y7) = some (cS cI (mkS (mkI) (wtI) y7 (1 + wtTDb y5 + wtTQuery y6))) := by
  have := re_sim (sim_mk marksI G7.wh (1 + wtTDb y5 + wtTQuery y6)) ((marksS marksI).ids _ _) (by rw [idsL_cS]; exact (by have := G7.nd; rwa [idsL_cS] at this))
  rw [idsL_cS] at this
  exact this
 have ho18_a : reL (phi (dSl cI y7).ids [dSl cI (mkS (mkI) (wtI) y7 (1 + wtTDb y5 + wtTQuery y6))]) (cDb a) = some (cDb a) := re_same fun g hg h => by
  skip
  have h1 := G7.lo g (by simpa only [idsL_cS] using hg); have h2 := ua_a g h; omega
 have ho18_b : reL (phi (dSl cI y7).ids [dSl cI (mkS (mkI) (wtI) y7 (1 + wtTDb y5 + wtTQuery y6))]) (cQuery b) = some (cQuery b) := re_same fun g hg h => by
  skip
  have h1 := G7.lo g (by simpa only [idsL_cS] using hg); have h2 := ua_b g h; omega
 have ho18_x : reL (phi (dSl cI y7).ids [dSl cI (mkS (mkI) (wtI) y7 (1 + wtTDb y5 + wtTQuery y6))]) (cS cI x) = some (cS cI x) := re_same fun g hg h => by
  skip
  have h1 := G7.lo g (by simpa only [idsL_cS] using hg); have h2 := ua_x g h; omega
 have ho18_w0 : reL (phi (dSl cI y7).ids [dSl cI (mkS (mkI) (wtI) y7 (1 + wtTDb y5 + wtTQuery y6))]) (cVRel w0) = some (cVRel w0) := re_same fun g hg h => by
  skip
  have h1 := G7.lo g (by simpa only [idsL_cS] using hg); have h2 := uw0 g h; omega
 have ho18_g0 : reL (phi (dSl cI y7).ids [dSl cI (mkS (mkI) (wtI) y7 (1 + wtTDb y5 + wtTQuery y6))]) (cVRel g0) = some (cVRel g0) := re_same fun g hg h => by
  skip
  have h1 := u7 g (by simpa only [idsL_cS] using hg); have h2 := lg0 g h; omega
 have ho18_y5 : reL (phi (dSl cI y7).ids [dSl cI (mkS (mkI) (wtI) y7 (1 + wtTDb y5 + wtTQuery y6))]) (cDb (mkTDb y5 (1))) = some (cDb (mkTDb y5 (1))) := re_same fun g hg h => by
  rw [marksTDb.ids] at h
  have h1 := G7.lo g (by simpa only [idsL_cS] using hg); have h2 := u5 g h; omega
 have ho18_y6 : reL (phi (dSl cI y7).ids [dSl cI (mkS (mkI) (wtI) y7 (1 + wtTDb y5 + wtTQuery y6))]) (cQuery (mkTQuery y6 (1 + wtTDb y5))) = some (cQuery (mkTQuery y6 (1 + wtTDb y5))) := re_same fun g hg h => by
  rw [marksTQuery.ids] at h
  have h1 := G7.lo g (by simpa only [idsL_cS] using hg); have h2 := u6 g h; omega
 replace hre18 := reVL_map hre18
 replace ho18_a := reVL_map ho18_a
 replace ho18_b := reVL_map ho18_b
 replace ho18_x := reVL_map ho18_x
 replace ho18_w0 := reVL_map ho18_w0
 replace ho18_g0 := reVL_map ho18_g0
 replace ho18_y5 := reVL_map ho18_y5
 replace ho18_y6 := reVL_map ho18_y6
 simp only [s3_17, s3_19, cDb, cI, cQuery, cReln, cS, cVRel, cI, cS, dInts, hd_x, List.cons_append, List.nil_append, List.map_cons, List.map_nil, reVL_cons, reVL_nil, List.cons.injEq, and_true, reV_int, reV_str, true_and, mkTAtom, mkTDb, mkTQuery, mkTReln, mkTTab, mkTVRel] at hre18 ho18_a ho18_b ho18_x ho18_w0 ho18_g0 ho18_y5 ho18_y6
 simp [hre18, ho18_a, ho18_b, ho18_x, ho18_w0, ho18_g0, ho18_y5, ho18_y6, s3_17, s3_19, cDb, cI, cQuery, cReln, cS, cVRel, cI, cS, dInts, hd_x, mkTAtom, mkTDb, mkTQuery, mkTReln, mkTTab, mkTVRel, show ¬ (1 + wtTDb y5 + wtTQuery y6 + wtS wtI y7 : Int) < 0 by omega, show (0 : Int) <= 1 + wtTDb y5 + wtTQuery y6 + wtS wtI y7 by omega]
 try simp [show ¬ (1 + wtTDb y5 + wtTQuery y6 + wtS wtI y7 : Int) < 0 by omega, show (0 : Int) <= 1 + wtTDb y5 + wtTQuery y6 + wtS wtI y7 by omega]
 refine call_pure (w_laws_eqVarRelation g0 w0 kg0) rfl (by simp) rfl fun hs19 hh19 => ?_
 simp at hh19
 simp [s3_17, s3_19, cDb, cI, cQuery, cReln, cS, cVRel, cI, cS, dInts, hd_x, pg0, pw0]
 refine call_x (E21) (by simp) (by simp) (by simp) (fun q hq => .inl ?_) (w_laws_markVarRelation g0 (1) (by omega) (by omega) Gg0.wh kg0 Gg0.nd) fun n20 hs20 r20 cs20 ws20 hn20 hm20 hp20 hr20 hw20 => ?_
 ·have := Gg0.lo q (by simpa only [idsL_cS] using hq)
  show B <= q
  omega
 obtain ⟨rfl, rfl⟩ := hp20
 simp at hn20
 have hre20 : reL (phi (idsL (cVRel g0)) (cVRel (mkTVRel g0 (1)))) (cVRel g0) = some (cVRel (mkTVRel g0 (1))) := re_sim (simT_VRel Gg0.wh _) (marksTVRel.ids _ _) Gg0.nd
 have ho20_a : reL (phi (idsL (cVRel g0)) (cVRel (mkTVRel g0 (1)))) (cDb a) = some (cDb a) := re_same fun g hg h => by
  skip
  have h1 := Gg0.lo g (by simpa only [idsL_cS] using hg); have h2 := ua_a g h; omega
 have ho20_b : reL (phi (idsL (cVRel g0)) (cVRel (mkTVRel g0 (1)))) (cQuery b) = some (cQuery b) := re_same fun g hg h => by
  skip
  have h1 := Gg0.lo g (by simpa only [idsL_cS] using hg); have h2 := ua_b g h; omega
 have ho20_x : reL (phi (idsL (cVRel g0)) (cVRel (mkTVRel g0 (1)))) (cS cI x) = some (cS cI x) := re_same fun g hg h => by
  skip
  have h1 := Gg0.lo g (by simpa only [idsL_cS] using hg); have h2 := ua_x g h; omega
 have ho20_w0 : reL (phi (idsL (cVRel g0)) (cVRel (mkTVRel g0 (1)))) (cVRel w0) = some (cVRel w0) := re_same fun g hg h => by
  skip
  have h1 := Gg0.lo g (by simpa only [idsL_cS] using hg); have h2 := uw0 g h; omega
 have ho20_y5 : reL (phi (idsL (cVRel g0)) (cVRel (mkTVRel g0 (1)))) (cDb (mkTDb y5 (1))) = some (cDb (mkTDb y5 (1))) := re_same fun g hg h => by
  rw [marksTDb.ids] at h
  have h1 := Gg0.lo g (by simpa only [idsL_cS] using hg); have h2 := u5 g h; omega
 have ho20_y6 : reL (phi (idsL (cVRel g0)) (cVRel (mkTVRel g0 (1)))) (cQuery (mkTQuery y6 (1 + wtTDb y5))) = some (cQuery (mkTQuery y6 (1 + wtTDb y5))) := re_same fun g hg h => by
  rw [marksTQuery.ids] at h
  have h1 := Gg0.lo g (by simpa only [idsL_cS] using hg); have h2 := u6 g h; omega
 have ho20_y7 : reL (phi (idsL (cVRel g0)) (cVRel (mkTVRel g0 (1)))) (cS cI (mkS (mkI) (wtI) y7 (1 + wtTDb y5 + wtTQuery y6))) = some (cS cI (mkS (mkI) (wtI) y7 (1 + wtTDb y5 + wtTQuery y6))) := re_same fun g hg h => by
  rw [(marksS marksI).ids] at h
  have h1 := Gg0.lo g (by simpa only [idsL_cS] using hg); have h2 := u7 g h; omega
 replace hre20 := reVL_map hre20
 replace ho20_a := reVL_map ho20_a
 replace ho20_b := reVL_map ho20_b
 replace ho20_x := reVL_map ho20_x
 replace ho20_w0 := reVL_map ho20_w0
 replace ho20_y5 := reVL_map ho20_y5
 replace ho20_y6 := reVL_map ho20_y6
 replace ho20_y7 := reVL_map ho20_y7
 simp only [s3_17, s3_19, cDb, cI, cQuery, cReln, cS, cVRel, cI, cS, dInts, hd_x, List.cons_append, List.nil_append, List.map_cons, List.map_nil, reVL_cons, reVL_nil, List.cons.injEq, and_true, reV_int, reV_str, true_and, mkTAtom, mkTDb, mkTQuery, mkTReln, mkTTab, mkTVRel] at hre20 ho20_a ho20_b ho20_x ho20_w0 ho20_y5 ho20_y6 ho20_y7
 simp [hre20, ho20_a, ho20_b, ho20_x, ho20_w0, ho20_y5, ho20_y6, ho20_y7, s3_17, s3_19, cDb, cI, cQuery, cReln, cS, cVRel, cI, cS, dInts, hd_x, mkTAtom, mkTDb, mkTQuery, mkTReln, mkTTab, mkTVRel, show ¬ (1 + wtTVRel g0 : Int) < 0 by omega, show (0 : Int) <= 1 + wtTVRel g0 by omega]
 refine call_pure (w_laws_heldVarRelation (mkTVRel g0 (1)) (1) (by omega) (by rw [marksTVRel.wt]; omega) (ok_mkTVRel _ _ kg0)) rfl (by simp) rfl fun hs21 hh21 => ?_
 simp at hh21
 rw [marksTVRel.hl, marksTVRel.wt]
 simp [show ¬ (1 + wtTVRel g0 : Int) < 0 by omega]
 refine cutT (X := VRel) (fun h0 _ => plVRel h0 = ovR (brO (plDb a) (plQuery b) (plS plI x)) /\ okVRel h0) (fun h0 => [(8, .ptr 8 0 0), (13, .ptr 13 0 0), (18, .ptr 18 0 0), (9, .d (.bool (brO (plDb a) (plQuery b) (plS plI x)).isSome)), (14, .d (.bool (brO (plDb a) (plQuery b) (plS plI x)).isSome)), (19, .d (.bool (brO (plDb a) (plQuery b) (plS plI x)).isSome)), (16, .d (.int .i64 (1 + wtTVRel g0)))]) (fun h0 => [(8, some (.box ((cVRel w0).map V.d))), (13, some (.box ((cVRel (mkTVRel g0 (1))).map V.d))), (18, some (.box ((cVRel h0).map V.d)))]) ?_ ?_
 ·intro K hK
  simp [s3_37, cDb, cI, cQuery, cReln, cS, cVRel, cI, cS, hd_x]
  repeat' apply And.intro
  all_goals
   refine call_some (w_laws_toDatabase a k_a (by omega)) rfl (by simp) fun n22 hs22 r22 hn22 hm22 hp22 hr22 => ?_
   obtain ⟨y22, rfl, p22, k22, G22⟩ := hp22
   have u22 : ∀ g ∈ idsL (cDb y22), g < hs22 := fun g hg => hr22 g (by first | (rw [ids_agg]; exact hg) | (simpa only [V.ids, idsL_cS] using hg))
   simp at hn22
   have e22 : wtTDb y22 = wtTDb a := by rw [wtTDb_pl, wtTDb_pl, p22]
   simp [s3_17, s3_19, cDb, cI, cQuery, cReln, cS, cVRel, cI, cS, dInts, hd_x]
   repeat' apply And.intro
   all_goals
    refine call_some (w_laws_toQuery b k_b (by omega)) rfl (by simp) fun n23 hs23 r23 hn23 hm23 hp23 hr23 => ?_
    obtain ⟨y23, rfl, p23, k23, G23⟩ := hp23
    have u23 : ∀ g ∈ idsL (cQuery y23), g < hs23 := fun g hg => hr23 g (by first | (rw [ids_agg]; exact hg) | (simpa only [V.ids, idsL_cS] using hg))
    simp at hn23
    have e23 : wtTQuery y23 = wtTQuery b := by rw [wtTQuery_pl, wtTQuery_pl, p23]
    simp [s3_17, s3_19, cDb, cI, cQuery, cReln, cS, cVRel, cI, cS, dInts, hd_x]
    repeat' apply And.intro
    all_goals
     refine call_some (w_laws_toIntS x k_x (by omega)) rfl (by simp) fun n24 hs24 r24 hn24 hm24 hp24 hr24 => ?_
     obtain ⟨y24, rfl, p24, k24, G24⟩ := hp24
     have u24 : ∀ g ∈ idsL (cS cI y24), g < hs24 := fun g hg => hr24 g (by first | (rw [ids_agg]; exact hg) | (simpa only [V.ids, idsL_cS] using hg))
     simp at hn24
     have e24 : wtS wtI y24 = wtS wtI x := by rw [wt_S_I_pl, wt_S_I_pl, p24]
     simp [s3_17, s3_19, cDb, cI, cQuery, cReln, cS, cVRel, cI, cS, dInts, hd_x]
     repeat' apply And.intro
     all_goals
      refine call_some (t_impl_BagRelation y22 y23 y24 ) rfl (by simp) fun n25 hs25 r25 hn25 hm25 hp25 hr25 => ?_
      obtain ⟨h0, rfl, ph0, kh0, Gh0⟩ := hp25
      have uh0 : ∀ g ∈ idsL (cVRel h0), g < hs25 := fun g hg => hr25 g (by simp only [V.ids, idsVL, ids_agg, idsVL_map_d, idsL_cS, List.mem_append] at hg ⊢; simp [hg])
      have lh0 := Gh0.lo
      simp only [p22] at ph0
      simp only [p23] at ph0
      simp only [p24] at ph0
      simp at hn25
      simp [s3_17, s3_19, cDb, cI, cQuery, cReln, cS, cVRel, cI, cS, dInts, hd_x, p22, p23, p24]
      exact hK h0 _ ⟨ph0, kh0⟩ rfl rfl (by simp <;> omega) (by simp [cDb, cI, cQuery, cReln, cS, cVRel, cI, cS, hd_x, mkTAtom, mkTDb, mkTQuery, mkTReln, mkTTab, mkTVRel, p22, p23, p24]) (by simp [cDb, cI, cQuery, cReln, cS, cVRel, cI, cS, hd_x, mkTAtom, mkTDb, mkTQuery, mkTReln, mkTTab, mkTVRel])
 intro h0 hsh th mh hh hhh
 obtain ⟨ph0, kh0⟩ := hh
 simp [s3_17, s3_19, cDb, cI, cQuery, cReln, cS, cVRel, cI, cS, dInts, hd_x, mkTAtom, mkTDb, mkTQuery, mkTReln, mkTTab, mkTVRel]
 refine call_pure (w_laws_eqVarRelation h0 w0 kh0) rfl (by simp) rfl fun hs26 hh26 => ?_
 simp at hh26
 simp [s3_17, s3_19, cDb, cI, cQuery, cReln, cS, cVRel, cI, cS, dInts, hd_x, ph0, pw0]
 refine call_pure (w_laws_heldVarRelation (mkTVRel g0 (1)) (1) (by omega) (by rw [marksTVRel.wt]; omega) (ok_mkTVRel _ _ kg0)) rfl (by simp) rfl fun hs27 hh27 => ?_
 simp at hh27
 rw [marksTVRel.hl, marksTVRel.wt]
 simp [show ¬ (1 + wtTVRel g0 : Int) < 0 by omega]
end Go.Proofs.YtglilmkmkdkedaaGreatDoor
