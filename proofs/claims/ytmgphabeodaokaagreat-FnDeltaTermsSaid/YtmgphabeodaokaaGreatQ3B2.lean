/-
  Q3B2: a part of a proof of this seat: the value-level semantics of Go code without maps, its walk rules, the frame of a row, facts of types, schedules, walks, plain lemmas (S9 S10 S11 S12 S13 P5c P5d P5e E1 K1 K2 K3 K4 K5 K13 K14 K15 K16 K17 K18 K20 K19 K10 K11 W1 W2 W3 W4 W5 W6 W7 W8 W9). It holds of every program and state that its hypotheses name.
-/
import Derived.Test.YtmgphabeodaokaaGreatQ3B1
set_option linter.unusedSimpArgs false
set_option linter.unusedVariables false
set_option linter.unnecessarySimpa false
namespace Go.Proofs.YtmgphabeodaokaaGreat
open Go.Vs Go.Proofs Go
set_option maxRecDepth 100000
set_option maxHeartbeats 1000000
theorem t_impl_settled (a : Cnt) (ha : okCnt a) (hl1 : a.rows.xs.length <= 4294967296) (hl2 : a.cs.xs.length = a.rows.xs.length) : VC Tryz.prog 45 [.agg ((cCnt a).map V.d)]
   (fun n r => ∃ y : Cnt, r = .agg ((cCnt y).map V.d) /\ plCnt y = ⟨a.ar, (sttl (plCnt a).rows (plCnt a).cs).map Prod.fst, (sttl (plCnt a).rows (plCnt a).cs).map Prod.snd⟩ /\ okCnt y /\
     (∀ B, B <= n -> Good (cS (cS cI) a.rows) (whS (whS whI) a.rows) B -> Good (cCnt y) (whCnt y) B)) := by
  refine VC.of E s45 (by kernel_rfl) Tryz.func45 (by rfl) (by kernel_rfl) (by simp [Tryz.f45]) (by simp [Tryz.f45]) s45_ok fun B => ?_
  simp [Tryz.f45, s45_6, cCnt, cS, cI, dSl]
  obtain ⟨ar, ⟨rid, rT, l⟩, ⟨cid, cT, cs⟩⟩ := a
  simp only at hl1 hl2 ⊢
  refine loop_ruleL (X := Nat) (fun i _ => i <= cs.length) (fun i => [(1, .ptr 1 0 0), (2, .ptr 2 0 0), (3, .ptr 3 0 0), (10, .d (.sl cid cT (cs.map cI))), (11, .d (.int .i64 cs.length)), (12, .d (.int .i64 i))])
    (fun i => [(1, some (.box [.d (.int .i64 ar), .d (.sl rid rT (l.map (cS cI))), .d (.sl cid cT (cs.map cI))])), (2, some (.box [.d (.int .i64 0), .d (.sl none none []), .d (.sl none none [])])),
      (3, some (.box [.d (.int .i64 ar), .own 27 0 (sttl (l.take i) (cs.take i)).length, .own 33 0 (sttl (l.take i) (cs.take i)).length])),
      (27, some (.row 28 1 (((sttl (l.take i) (cs.take i)).map Prod.fst).map (cS cI)))), (33, some (.row 3 1 (((sttl (l.take i) (cs.take i)).map Prod.snd).map cI)))]) (fun i => cs.length - i) ?_ ?_
  · refine (lead_box 3 1 27 28 1 [.d (.int .i64 ar), .d (.sl none none []), .d (.sl none none [])] (by omega) (by omega) (by omega) (by simp) rfl).bind ?_
    rintro _ rfl
    refine (lead_box 3 2 33 3 1 [.d (.int .i64 ar), .own 27 0 0, .d (.sl none none [])] (by omega) (by omega) (by omega) (by simp) rfl).bind ?_
    rintro _ rfl
    exact Lead.of ⟨0, by simp, rfl, rfl, Nat.le_refl _, by simp, by simp [sttl, dSl]⟩
  · intro i hs t m hi hh
    by_cases hlt : i < cs.length
    · have hwi := wr1 (i := i) (by omega)
      have hil : i < l.length := by omega
      have hss := settle_step (rs := l) (cs := cs) hil hlt
      have hsl : (sttl (l.take i) (cs.take i)).length <= i := settle_len (by omega)
      refine anyQ2 fun Q => ?_
      by_cases h0 : cs[i] = 0
      · rw [if_pos h0, List.append_nil] at hss
        simp [hlt, hil, h0, hwi, s45_6, ]
        exact back2 (i + 1) (by omega) (by omega) rfl (by simp <;> omega) (by simp) (by simp [hss])
      · rw [if_neg h0] at hss
        have hLa : LenOk 24 ((sttl (l.take i) (cs.take i)).length + 1) := ⟨by omega, by simp only [maxLen]; omega⟩
        have hLb : LenOk 8 ((sttl (l.take i) (cs.take i)).length + 1) := ⟨by omega, by simp only [maxLen]; omega⟩
        simp [hlt, hil, h0, hwi, hLa, hLb, cS, dSl, s45_6, ]
        exact back2 (i + 1) (by omega) (by omega) rfl (by simp <;> omega) (by simp) (by simp [hss, cS, cI, dSl])
    · have hn : i = cs.length := by omega
      subst hn
      have hsl : (sttl l cs).length <= l.length := by
        have := settle_len (rs := l) (cs := cs) (Nat.le_refl l.length)
        rw [List.take_length, List.take_of_length_le (l := cs) (by omega)] at this
        exact this
      simp [List.take_of_length_le, hl2, s45_6, ]
      intro γ hs' h2 hg
      obtain ⟨q1, q2⟩ := gam_at hg (k := 27) (T := 28) (sz := 1) (es := (sttl l cs).map (cS cI ∘ Prod.fst)) (by simp)
      obtain ⟨q3, q4⟩ := gam_at hg (k := 33) (T := 3) (sz := 1) (es := (sttl l cs).map (cI ∘ Prod.snd)) (by simp)
      have r1 := gam_row hg (k := 27) (T := 28) (sz := 1) (es := (sttl l cs).map (cS cI ∘ Prod.fst)) (by simp)
      have r2 := gam_row2 hg (k := 33) (T := 3) (sz := 1) (es := (sttl l cs).map (cI ∘ Prod.snd)) (k2 := 27) (T2 := 28) (sz2 := 1) (es2 := (sttl l cs).map (cS cI ∘ Prod.fst)) (by simp) (by simp)
      have r3 : ∀ g, γ 27 = some g -> γ 33 = some g -> False := fun g h h' => by
        have := hg.ne 27 33 (.row 28 1 ((sttl l cs).map (cS cI ∘ Prod.fst))) (.row 3 1 ((sttl l cs).map (cI ∘ Prod.snd))) g (by simp) (by simp) h h'
        omega
      clear hg
      have em : (sttl l cs).map (cS cI ∘ Prod.fst) = ((sttl l cs).map Prod.fst).map (cS cI) := by simp
      rw [em] at r1 r2
      have hp1 : hpLL ((sttl l cs).map (cS cI ∘ Prod.fst)) = false := hpLL_map (fun a => by simp) _
      have hp2 : hpLL ((sttl l cs).map (cI ∘ Prod.snd)) = false := hpLL_map (fun a => by simp) _
      simp [hp1, hp2, List.take_of_length_le]
      have hsub := sttl_sub l cs
      refine ⟨⟨ar, ⟨γ 27, some (28, 1), (sttl l cs).map Prod.fst⟩, ⟨γ 33, some (3, 1), (sttl l cs).map Prod.snd⟩⟩, by simp [hp1, hp2, cCnt, cS, cI, dSl, List.take_of_length_le], ?_, ⟨trivial, ⟨by simp only [maxLen, List.length_map]; omega, fun r hr => ha.2.1.2 r (hsub.subset hr)⟩, ⟨by simp only [maxLen, List.length_map]; omega, fun _ _ => trivial⟩⟩, ?_⟩
      · simp only [plCnt, plS, map_plI, PCnt.mk.injEq]
        exact ⟨rfl, sttl_fst _ _ _, sttl_snd _ _ _⟩
      · intro B' hB' G
        have G : Good (cS (cS cI) ⟨rid, rT, l⟩) (whS (whS whI) ⟨rid, rT, l⟩) B' := G
        have hG := G.nd
        rw [idsL_cS] at hG
        have hG2 := (sl_nd hG).1
        have hlo : ∀ g ∈ idsLL (((sttl l cs).map Prod.fst).map (cS cI)), B' <= g := fun g hg => G.lo g (by
          rw [idsL_cS]
          exact mem_sl_ids.2 (.inr ((ids_sub hsub).subset hg)))
        have := good_Cnt2 (ar := ar) (T1 := (28, 1)) (T2 := (3, 1)) (hG2.sublist (ids_sub hsub)) hlo (fun r hr => G.wh.2 r (hsub.subset hr)) (fun g h => ⟨Nat.le_trans hB' (q1 g h).1, r1 g h⟩) (by simpa using q2) (fun g h => ⟨Nat.le_trans hB' (q3 g h).1, r2 g h⟩) (cs := (sttl l cs).map Prod.snd) (by simpa using q4) r3
        exact this
theorem w_impl_copyIntsT (a : Ints) (ha : okS okI a) (hb : a.xs.length <= 4294967296) :
   VC Tryz.prog 92 [.d (dSl cI a)] (fun n r => ∃ y : Sl Int, r = .d (dSl cI y) /\ plS plI y = plS plI a /\ okS okI y /\ Good (cS cI y) (whS whI y) n /\ y.T = some (3, 1)) := by
  refine VC.of E s92 (by kernel_rfl) Tryz.func92 (by rfl) (by kernel_rfl) (by simp [Tryz.f92]) (by simp [Tryz.f92]) s92_ok fun B => ?_
  have hL : LenOk 8 a.xs.length := ⟨by omega, by simp only [maxLen]; omega⟩
  simp [Tryz.f92, dSl, hL, cI]
  intro γ hs' h1 hg
  obtain ⟨q1, q2⟩ := gam_at hg (k := 3) (T := 3) (sz := 1) (es := a.xs.map cI) (by simp [cI])
  have q3 := gam_row hg (k := 3) (T := 3) (sz := 1) (es := a.xs.map cI) (by simp [cI])
  clear hg
  refine ⟨⟨γ 3, some (3, 1), a.xs⟩, ⟨⟨rfl, rfl, by simp [List.take_of_length_le]⟩, rfl, ha, good_row (fun g hg => (q1 g hg).1) (by simpa using q2) q3 ⟨by simp, by simp⟩ (by simp [whI]), rfl⟩⟩
theorem t_impl_tally (c : Cnt) (row : Sl Int) (n : Int) (hc : okCnt c) (hr : okS okI row) (hw : whS whI c.cs) (hnd : (idsL (cCnt c)).Nodup) (hb : c.rows.xs.length <= 1000000) (hl2 : c.cs.xs.length = c.rows.xs.length) (hlr : row.xs.length <= 4294967296)
   (hn : -1000000 <= n /\ n <= 1000000) (hv : ∀ v ∈ c.cs.xs, -1000000000000 <= v /\ v <= 1000000000000) :
   VX Tryz.prog 43 (dSl cI c.cs).ids [.ptr 1000 0 0, .d (dSl cI row), .d (.int .i64 n)] (some ((cCnt c).map V.d))
    (fun m r bx' ws => r = .tup [] /\ ∃ y : Cnt, bx' = (cCnt y).map V.d /\ plCnt y = ⟨c.ar, insR (plCnt c).rows row.xs, insC (plCnt c).rows c.cs.xs row.xs n⟩ /\ okCnt y /\ (∃ d, ws = [d]) /\
      (∀ B, B <= m -> Good (cCnt c) (whCnt c) B -> (∀ g ∈ idsL (cCnt c), g < m) -> Good (cCnt y) (whCnt y) B)) := by
  refine VX.of E s43 (by kernel_rfl) Tryz.func43 (by rfl) (by kernel_rfl) (by simp [Tryz.f43]) (by simp [Tryz.f43]) s43_ok ?_ ?_ fun B hB => ?_
  · intro g hg; right; show g ∈ idsVL ((cCnt c).map V.d); rw [idsVL_map_d, cCnt, idsL_app, idsL_app, idsL_cS, idsL_cS]; simp [hg]
  · intro bs h; obtain rfl := Option.some.inj h; rfl
  obtain ⟨ar, ⟨rid, rT, l⟩, ⟨cid, cT, cs⟩⟩ := c
  simp only at hw hb hl2 hv ⊢
  have hnd2 : ∀ g, cid = some g -> g ∉ (dSl (cS cI) ⟨rid, rT, l⟩).ids := fun g hg hm => by
    rw [cCnt, idsL_app, idsL_app, idsL_cS, idsL_cS] at hnd
    exact (List.nodup_append.1 hnd).2.2 g (by simp [hm]) g (mem_sl_ids.2 (.inl hg)) rfl
  simp [Tryz.f43, s43_3, s43_4, cCnt, cS, cI, dSl]
  have hlr2 : row.xs.length <= maxLen := hr.1
  refine call_f (w_impl_place (plS (plS plI) ⟨rid, rT, l⟩) row.xs (by simpa [plS] using (by omega : l.length <= 4294967296))) (by simp [pS, plS, er_cS, erLL_map er_cI, erLL_map (er_cS er_cI), map_plI]) rfl fun hs1 hh1 => ?_
  simp at hh1
  obtain ⟨L, hL⟩ : ∃ L, L = l.map (plS plI) := ⟨_, rfl⟩
  have hLl : L.length = l.length := by rw [hL, List.length_map]
  have hpl : plS (plS plI) (⟨rid, rT, l⟩ : Sl (Sl Int)) = L := by rw [hL]; rfl
  have hk := placeK_le L row.xs
  simp only [hpl]
  obtain ⟨k, hkk⟩ : ∃ k, k = placeK L row.xs := ⟨_, rfl⟩
  simp only [<- hkk] at hk ⊢
  cases hb1 : placeB L row.xs
  · have e0 : LenOk 24 k := ⟨by omega, by simp only [maxLen]; omega⟩
    have e1 : LenOk 24 (k + 1) := ⟨by omega, by simp only [maxLen]; omega⟩
    have e2 : LenOk 24 (k + 1 + (l.length - k)) := ⟨by omega, by simp only [maxLen]; omega⟩
    have hkl : k <= l.length := by omega
    have hmn : min k l.length = k := by omega
    simp [cS, cI, dSl, hkl, hmn, e0, <- List.map_take, s43_3, s43_4, ]
    refine call_some (w_impl_copyInts row hr hlr) (by simp [dSl, cI]) (by simp) fun n1 hs2 r1 hn1 hm1 hp1 hr1 => ?_
    obtain ⟨w, rfl, pw, kw, Gw⟩ := hp1
    simp at hn1
    simp [cS, cI, dSl, hkl, hmn, e0, e1, e2, <- List.map_take, <- List.map_drop, List.take_of_length_le, s43_3, s43_4, ]
    have hkc : k <= cs.length := by omega
    refine ⟨hkc, ?_⟩
    generalize (if cid.isSome = true then none else cT) = T0
    have hC := w_impl_copyIntsT ⟨cid, T0, cs.take k⟩ ⟨by simp only [maxLen, List.length_take]; omega, fun _ _ => trivial⟩ (by simp; omega)
    simp only [dSl] at hC
    repeat' apply And.intro
    all_goals
      refine call_some hC rfl (by simp) fun n2 hs3 r2 hn2 hm2 hp2 hr2 => ?_
      obtain ⟨⟨zid, zT, zx⟩, rfl, pz, kz, Gz, hzT⟩ := hp2
      simp only at hzT
      subst hzT
      have hzx : zx = cs.take k := by simpa [plS, map_plI] using pz
      simp at hn2
      have f1 : LenOk 8 (k + 1) := ⟨by omega, by simp only [maxLen]; omega⟩
      have f2 : LenOk 8 (k + 1 + (cs.length - k)) := ⟨by omega, by simp only [maxLen]; omega⟩
      have hmc : min k cs.length = k := by omega
      cases zid with
      | none =>
        have hz0 : zx = [] := Gz.wh.1.nil rfl
        subst hz0
        have hk0 : k = 0 := by have := congrArg List.length hzx; simp at this; omega
        subst hk0
        have g1 : LenOk 8 1 := ⟨by omega, by simp only [maxLen]; omega⟩
        have g2 : LenOk 8 (1 + cs.length) := ⟨by omega, by simp only [maxLen]; omega⟩
        simp [cI, dSl, g1, g2, vendX, s43_3, s43_4, ]
        refine ⟨[54], fun γ hs' h1 hg => ?_⟩
        obtain ⟨q1, q2⟩ := gam_at hg (k := 29) (T := 28) (sz := 1) (es := (w :: l).map (cS cI)) (by simp [cS, dSl])
        obtain ⟨q3, q4⟩ := gam_at hg (k := 60) (T := 3) (sz := 1) (es := (n :: cs).map cI) (by simp [cI])
        have r1 := gam_row hg (k := 29) (T := 28) (sz := 1) (es := (w :: l).map (cS cI)) (by simp [cS, dSl])
        have r2 := gam_row2 hg (k := 60) (T := 3) (sz := 1) (es := (n :: cs).map cI) (k2 := 29) (T2 := 28) (sz2 := 1) (es2 := (w :: l).map (cS cI)) (by simp [cI]) (by simp [cS, dSl])
        have r3 : ∀ g, γ 29 = some g -> γ 60 = some g -> False := fun g h h' => by
          have := hg.ne 29 60 (.row 28 1 ((w :: l).map (cS cI))) (.row 3 1 ((n :: cs).map cI)) g (by simp [cS, dSl]) (by simp [cI]) h h'
          omega
        clear hg
        have hp1 : hpLL (l.map (cS cI)) = false := hpLL_map (fun a => by simp) _
        have hp2 : hpLL (cs.map cI) = false := hpLL_map (fun a => by simp) _
        have a1 : 1 + l.length = l.length + 1 := Nat.add_comm _ _
        have a2 : 1 + cs.length = cs.length + 1 := Nat.add_comm _ _
        simp [hp1, hp2, a1, a2, List.take_of_length_le]
        refine ⟨⟨ar, ⟨γ 29, some (28, 1), w :: l⟩, ⟨γ 60, some (3, 1), n :: cs⟩⟩, by simp [cS, dSl, cI], ?_, ⟨trivial, ⟨by simp only [maxLen, List.length_cons]; omega, fun r hr => by
          rcases List.mem_cons.1 hr with h | h
          · subst h; exact kw
          · exact hc.2.1.2 r h⟩, ⟨by simp only [maxLen, List.length_cons]; omega, fun _ _ => trivial⟩⟩, ?_⟩
        · have pw' : w.xs = row.xs := by simpa [plS, map_plI] using pw
          simp only [plCnt, insR, insC, hb1, <- hkk, Bool.false_eq_true, if_false, PCnt.mk.injEq]
          refine ⟨rfl, ?_, ?_⟩
          · rw [hL]; simp [plS, map_plI, pw']
          · simp [plS, map_plI]
        · intro B' hB' G hlt
          have := tally_good (k := 0) (T1 := (28, 1)) (T2 := (3, 1)) (cs' := n :: cs) hB' G hlt (by omega) Gw (fun g h => (q1 g h).1) r1 (q2 (by simp)) (fun g h => (q3 g h).1) r2 (q4 (by simp)) r3
          exact this
      | some zg =>
        have hzlo : n2 <= zg := Gz.lo zg (by rw [idsL_cS]; exact mem_sl_ids.2 (.inl rfl))
        have hcB : ∀ g ∈ idsL (cCnt ⟨ar, ⟨rid, rT, l⟩, ⟨cid, cT, cs⟩⟩), g < B := fun g hg => hB g (.inr (by rw [Option.getD_some, idsVL_map_d]; exact hg))
        have hlB : ∀ g ∈ (dSl (cS cI) ⟨rid, rT, l⟩).ids, g < B := fun g hg => hcB g (by rw [cCnt, idsL_app, idsL_app, idsL_cS, idsL_cS]; simp [hg])
        have hkB : ∀ g ∈ (dSl cI ⟨cid, cT, cs⟩).ids, g < B := fun g hg => hcB g (by rw [cCnt, idsL_app, idsL_app, idsL_cS, idsL_cS]; simp [hg])
        have kg : ∀ i, i < n2 -> kphi (some zg) i = none := fun i hi => by simp only [kphi]; rw [if_neg (by simp; omega)]
        have eC : reV (kphi (some zg)) (.d (.sl cid cT (cs.map cI))) = .d (.sl cid cT (cs.map cI)) := reV_id (.d (dSl cI ⟨cid, cT, cs⟩)) fun g hg => kg g (by have := hkB g hg; omega)
        have eD : ∀ xs : List Int, reV (kphi (some zg)) (.d (.sl cid T0 (xs.map cI))) = .d (.sl cid T0 (xs.map cI)) := fun xs => reV_id (.d (dSl cI ⟨cid, T0, xs⟩)) fun g hg => kg g (by
          have := hkB g (by
            rcases mem_sl_ids.1 hg with h | h
            · exact mem_sl_ids.2 (.inl h)
            · simp at h)
          omega)
        have eR : reLL (kphi (some zg)) ((l.take k).map (cS cI) ++ [D.sl w.id w.T (w.xs.map cI)] :: (l.drop k).map (cS cI)) = some ((l.take k).map (cS cI) ++ [D.sl w.id w.T (w.xs.map cI)] :: (l.drop k).map (cS cI)) := by
          have e : (l.take k).map (cS cI) ++ [D.sl w.id w.T (w.xs.map cI)] :: (l.drop k).map (cS cI) = (l.take k ++ w :: l.drop k).map (cS cI) := by simp [cS, dSl]
          rw [e]
          refine reLL_id _ (ht := tkLL_map _ (by simp)) fun g hg => kg g ?_
          rw [List.map_append, idsLL_append, List.map_cons] at hg
          simp only [idsLL, List.mem_append] at hg
          rcases hg with h | h | h
          · have := hlB g (mem_sl_ids.2 (.inr ((ids_sub (List.take_sublist k l)).subset h))); omega
          · have := hr1 g (by rw [idsL_cS] at h; exact h); omega
          · have := hlB g (mem_sl_ids.2 (.inr ((ids_sub (List.drop_sublist k l)).subset h))); omega
        have f3 : LenOk 8 (zx.length + 1) := ⟨by rw [hzx]; simp; omega, by rw [hzx]; simp only [maxLen, List.length_take]; omega⟩
        have f4 : LenOk 8 (zx.length + 1 + (cs.length - k)) := ⟨by rw [hzx]; simp; omega, by rw [hzx]; simp only [maxLen, List.length_take]; omega⟩
        have hzB : B <= zg := by omega
        simp [cI, dSl, hkc, hmc, f1, f2, f3, f4, hzB, St.kill, eC, eD, eR, <- List.map_take, <- List.map_drop, List.take_of_length_le, s43_3, s43_4, ]
        rw [hzx]
        refine ⟨by simp [idsLL, idsL, D.ids], ?_⟩
        simp [vendX]
        refine ⟨[54], fun γ hs' h1 hg => ?_⟩
        obtain ⟨q1, q2⟩ := gam_at hg (k := 29) (T := 28) (sz := 1) (es := (l.take k ++ w :: l.drop k).map (cS cI)) (by simp [cS, dSl])
        obtain ⟨q3, q4⟩ := gam_at hg (k := 60) (T := 3) (sz := 1) (es := (cs.take k ++ n :: cs.drop k).map cI) (by simp [cI])
        have r1 := gam_row hg (k := 29) (T := 28) (sz := 1) (es := (l.take k ++ w :: l.drop k).map (cS cI)) (by simp [cS, dSl])
        have r2 := gam_row2 hg (k := 60) (T := 3) (sz := 1) (es := (cs.take k ++ n :: cs.drop k).map cI) (k2 := 29) (T2 := 28) (sz2 := 1) (es2 := (l.take k ++ w :: l.drop k).map (cS cI)) (by simp [cI]) (by simp [cS, dSl])
        have r3 : ∀ g, γ 29 = some g -> γ 60 = some g -> False := fun g h h' => by
          have := hg.ne 29 60 (.row 28 1 ((l.take k ++ w :: l.drop k).map (cS cI))) (.row 3 1 ((cs.take k ++ n :: cs.drop k).map cI)) g (by simp [cS, dSl]) (by simp [cI]) h h'
          omega
        clear hg
        have hp1 : ∀ l : List Ints, hpLL (l.map (cS cI)) = false := fun l => hpLL_map (fun a => by simp) _
        have hp2 : ∀ l : List Int, hpLL (l.map cI) = false := fun l => hpLL_map (fun a => by simp) _
        have a1 : k + 1 + (l.length - k) = k + (l.length - k + 1) := by omega
        have a2 : k + 1 + (cs.length - k) = k + (cs.length - k + 1) := by omega
        have p1 : hpLL (List.take k (List.map (cS cI) l)) = false := by rw [<- List.map_take]; exact hp1 _
        have p2 : hpLL (List.drop k (List.map (cS cI) l)) = false := by rw [<- List.map_drop]; exact hp1 _
        have p3 : hpLL (List.take k (List.map cI cs)) = false := by rw [<- List.map_take]; exact hp2 _
        have p4 : hpLL (List.drop k (List.map cI cs)) = false := by rw [<- List.map_drop]; exact hp2 _
        simp [p1, p2, p3, p4, hmn, hmc, a1, a2, List.take_of_length_le]
        refine ⟨⟨ar, ⟨γ 29, some (28, 1), l.take k ++ w :: l.drop k⟩, ⟨γ 60, some (3, 1), cs.take k ++ n :: cs.drop k⟩⟩, by simp [cS, dSl, cI], ?_, ⟨trivial, ⟨by simp only [maxLen, List.length_append, List.length_take, List.length_cons, List.length_drop]; omega, fun r hr => by
          rcases List.mem_append.1 hr with h | h
          · exact hc.2.1.2 r (List.mem_of_mem_take h)
          rcases List.mem_cons.1 h with h | h
          · subst h; exact kw
          · exact hc.2.1.2 r (List.mem_of_mem_drop h)⟩, ⟨by simp only [maxLen, List.length_append, List.length_take, List.length_cons, List.length_drop]; omega, fun _ _ => trivial⟩⟩, ?_⟩
        · have pw' : w.xs = row.xs := by simpa [plS, map_plI] using pw
          simp only [plCnt, insR, insC, hb1, <- hkk, Bool.false_eq_true, if_false, PCnt.mk.injEq]
          refine ⟨rfl, ?_, ?_⟩
          · rw [hL]; simp [plS, map_plI, pw']
          · simp [plS, map_plI]
        · intro B' hB' G hlt
          have := tally_good (k := k) (T1 := (28, 1)) (T2 := (3, 1)) (cs' := cs.take k ++ n :: cs.drop k) hB' G hlt (by omega) Gw (fun g h => (q1 g h).1) r1 (q2 (by simp)) (fun g h => (q3 g h).1) r2 (q4 (by simp)) r3
          exact this
  · obtain ⟨hk1, hkx⟩ := placeB_at hb1
    rw [<- hkk] at hk1
    have hkc : k < cs.length := by omega
    obtain ⟨g, hg, T', hT⟩ := hw.1.id hkc
    simp only at hg hT
    subst hg hT
    have hvk := hv cs[k] (List.getElem_mem hkc)
    have hw1 : IntKind.i64.wrap (cs[k] + n) = cs[k] + n := wrap64_of (by omega) (by omega)
    simp [hkc, hw1, cI, s43_3, s43_4, ]
    have e2 := re_oneSet (g := g) (T := T') (es := List.map cI cs) (i := k) (e' := [D.int IntKind.i64 (cs[k] + n)]) (fun e he => by
      rw [List.getElem?_map] at he
      simp [hkc] at he
      rw [<- he]; rfl)
    have e3 : reV (one g (.sl (some g) (some T') ((List.map cI cs).set k [D.int IntKind.i64 (cs[k] + n)]))) (.d (.sl rid rT (l.map (cS cI)))) = .d (.sl rid rT (l.map (cS cI))) := reV_id (.d (dSl (cS cI) ⟨rid, rT, l⟩)) (fun g' hg' => by
      simp only [one]
      split
      · rename_i h; subst h; exact absurd hg' (hnd2 _ rfl)
      · rfl)
    simp [e2, e3, vendX]
    refine ⟨[21], fun γ hs' h1 h2 => ?_⟩
    simp
    refine ⟨⟨ar, ⟨rid, rT, l⟩, ⟨some g, some T', cs.set k (cs[k] + n)⟩⟩, by simp [List.map_set, cI], ?_, ⟨trivial, hc.2.1, ⟨by have := hc.2.2.1; simpa using this, fun _ _ => trivial⟩⟩, ?_⟩
    · simp only [plCnt, insR, insC, hb1, if_true, <- hkk, getD_el _ hkc, hpl]
      simp [plS, map_plI, plI]
    · intro B' hB' G hlt
      have e : idsL (cCnt ⟨ar, ⟨rid, rT, l⟩, ⟨some g, some T', cs.set k (cs[k] + n)⟩⟩) = idsL (cCnt ⟨ar, ⟨rid, rT, l⟩, ⟨some g, some T', cs⟩⟩) := by
        have hi : ∀ xs : List Int, (dSl cI ⟨some g, some T', xs⟩).ids = [g] := fun xs => by simp [dSl, D.ids]
        simp only [cCnt, idsL_app, idsL_cS, hi]
      have G : Good (cCnt ⟨ar, ⟨rid, rT, l⟩, ⟨some g, some T', cs⟩⟩) (whCnt ⟨ar, ⟨rid, rT, l⟩, ⟨some g, some T', cs⟩⟩) B' := G
      have : Good (cCnt ⟨ar, ⟨rid, rT, l⟩, ⟨some g, some T', cs.set k (cs[k] + n)⟩⟩) (whCnt ⟨ar, ⟨rid, rT, l⟩, ⟨some g, some T', cs.set k (cs[k] + n)⟩⟩) B' :=
        ⟨e ▸ G.nd, e ▸ G.lo, ⟨trivial, G.wh.2.1, ⟨hw.1.of (by simp), fun _ _ => trivial⟩⟩⟩
      exact this
theorem t_impl_AddCounted (a b : Cnt) (ha : okCnt a) (hb : okCnt b) : VC Tryz.prog 56 [.agg ((cCnt a).map V.d), .agg ((cCnt b).map V.d)]
   (fun n r => ∃ y : Cnt, r = .tup [.agg ((cCnt y).map V.d), .d (.bool (addCB (plCnt a) (plCnt b)))] /\ plCnt y = addCP (plCnt a) (plCnt b) /\ okCnt y /\ Good (cCnt y) (whCnt y) n) := by
  refine VC.ofB E s56 (by kernel_rfl) Tryz.func56 (by rfl) (by kernel_rfl) (by simp [Tryz.f56]) (by simp [Tryz.f56]) s56_ok fun B hB => ?_
  have hbB : ∀ g ∈ idsL (cCnt b), g < B := fun g hg => hB g (by simp only [idsVL, V.ids, idsVL_map_d, List.mem_append]; simp [hg])
  have hno : ∀ hB0 : addCB (plCnt a) (plCnt b) = false, ∃ y : Cnt, V.tup [.agg ((cCnt ⟨0, nilS, nilS⟩).map V.d), .d (.bool false)] = .tup [.agg ((cCnt y).map V.d), .d (.bool (addCB (plCnt a) (plCnt b)))] /\ plCnt y = addCP (plCnt a) (plCnt b) /\ okCnt y /\ Good (cCnt y) (whCnt y) B := fun hB0 =>
    ⟨⟨0, nilS, nilS⟩, by rw [hB0], by simp only [addCP, hB0]; rfl, ⟨trivial, ok_nilS, ok_nilS⟩, good_Cnt0 B⟩
  simp only [cCnt, cS, cI, nilS, dSl] at hno
  simp at hno
  simp [Tryz.f56, cCnt, cS, cI, dSl]
  refine call_f (w_impl_IsValidCounted (plCnt a)) (by simp [eCnt, er_SI, er_I, plCnt, pS, plS, erLL_map er_cI, erLL_map (er_cS er_cI), map_plI]) rfl fun hs0 hh0 => ?_
  simp at hh0
  cases h1 : cntsOk (plCnt a)
  · have hB0 : addCB (plCnt a) (plCnt b) = false := by simp [addCB, h1]
    simp
    exact hno hB0
  simp [dSl]
  refine call_f (w_impl_IsValidCounted (plCnt b)) (by simp [eCnt, er_SI, er_I, plCnt, pS, plS, erLL_map er_cI, erLL_map (er_cS er_cI), map_plI]) rfl fun hs1 hh1 => ?_
  simp at hh1
  cases h2 : cntsOk (plCnt b)
  · have hB0 : addCB (plCnt a) (plCnt b) = false := by simp [addCB, h2]
    simp
    exact hno hB0
  by_cases h3 : a.ar = b.ar
  case neg =>
    have hB0 : addCB (plCnt a) (plCnt b) = false := by simp [addCB, plCnt, plI, h3]
    simp [h3]
    exact hno hB0
  simp [h3, dSl]
  have ea : (⟨b.ar, a.rows, a.cs⟩ : Cnt) = a := by rw [<- h3]
  have hlen := rowsOk_len (cntsOk_rows h1)
  have hrow := rowsOk_row (cntsOk_rows h1)
  have hcl := cntsOk_len h1
  have hlenb := rowsOk_len (cntsOk_rows h2)
  have hrowb := rowsOk_row (cntsOk_rows h2)
  have hclb := cntsOk_len h2
  have hcsa := cntsOk_cs h1
  have hcsb := cntsOk_cs h2
  have hsrt := rowsOk_srt (cntsOk_rows h1)
  have hrl : (plCnt b).rows.length = b.rows.xs.length := by simp [plCnt, plS]
  have hcs : (plCnt b).cs = b.cs.xs := by simp [plCnt, plS, map_plI]
  have hclb2 : b.cs.xs.length = b.rows.xs.length := by rw [<- hrl, <- hcs]; omega
  have hl1 : a.rows.xs.length <= 4000 := by simpa [plS] using hlen
  have hl3 : a.cs.xs.length <= 4000 := by have : a.rows.xs.length = a.cs.xs.length := by simpa [plS] using hcl
                                          omega
  have hl2 : ∀ r ∈ a.rows.xs, r.xs.length <= 4294967296 := fun r hr => by
    have := hrow (plS plI r) (List.mem_map_of_mem hr)
    simp [plS] at this; omega
  refine call_some (w_impl_copyCounted ⟨b.ar, a.rows, a.cs⟩ ⟨trivial, ha.2⟩ (by show a.rows.xs.length <= _; omega) hl2 (by show a.cs.xs.length <= _; omega)) (by simp [cCnt, cS, cI, dSl]) (by simp) fun n2 hs2 r2 hn2 hm2 hp2 hr2 => ?_
  obtain ⟨y0, rfl, p0, k0, G0⟩ := hp2
  rw [ea] at p0
  have u0 : ∀ g ∈ idsL (cCnt y0), g < hs2 := fun g hg => hr2 g (by rw [ids_agg]; exact hg)
  simp at hn2
  clear hr2
  simp [cCnt, cS, cI, dSl]
  refine loop_ruleL (X := Nat × Cnt) (TalI (plCnt a) (plCnt b) B) (fun p => [(3, .ptr 3 0 0), (4, .ptr 4 0 0), (6, .ptr 6 0 0), (29, .d (.sl b.rows.id b.rows.T (b.rows.xs.map (cS cI)))), (30, .d (.int .i64 b.rows.xs.length)), (31, .d (.int .i64 p.1))])
    (fun p => [(3, some (.box [.d (.int .i64 b.ar), .d (.sl b.rows.id b.rows.T (b.rows.xs.map (cS cI))), .d (.sl b.cs.id b.cs.T (b.cs.xs.map cI))])), (4, some (.box [.d (.int .i64 0), .d (.sl none none []), .d (.sl none none [])])),
      (6, some (.box [.d (.int .i64 p.2.ar), .d (.sl p.2.rows.id p.2.rows.T (p.2.rows.xs.map (cS cI))), .d (.sl p.2.cs.id p.2.cs.T (p.2.cs.xs.map cI))]))]) (fun p => b.rows.xs.length - p.1) ?_ ?_
  · refine Lead.of ⟨(0, y0), ⟨by simp, ?_, ?_, ?_, k0, G0.le (by omega), u0⟩, rfl, rfl, Nat.le_refl _, by simp, by simp⟩
    · exact congrArg PCnt.ar p0
    · simp only [List.take_zero, List.foldl_nil]; exact congrArg PCnt.rows p0
    · simp only [List.take_zero, talC]; exact congrArg PCnt.cs p0
  rintro ⟨i, y⟩ hs t m hI hh
  have hi := hI.le
  simp only [hrl] at hi
  obtain ⟨b1, b2, b3⟩ := hI.bd hsrt (by omega) (by omega) hlen hlenb hcsa hcsb
  simp only at b1 b2 b3
  by_cases hlt : i < b.rows.xs.length
  · have hltc : i < b.cs.xs.length := by omega
    have hwi := wr1 (i := i) (by omega)
    have hbr : ∀ g ∈ (dSl (cS cI) b.rows).ids, g < B := fun g hg => hbB g (by rw [cCnt, idsL_app, idsL_app, idsL_cS, idsL_cS]; simp [hg])
    have hbc : ∀ g ∈ (dSl cI b.cs).ids, g < B := fun g hg => hbB g (by rw [cCnt, idsL_app, idsL_app, idsL_cS, idsL_cS]; simp [hg])
    have hyc : ∀ g ∈ (dSl cI y.cs).ids, B <= g := fun g hg => hI.good.lo g (by rw [cCnt, idsL_app, idsL_app, idsL_cS, idsL_cS]; simp [hg])
    have hcb := hcsb b.cs.xs[i] (by rw [hcs]; exact List.getElem_mem hltc)
    have hT := t_impl_tally y b.rows.xs[i] b.cs.xs[i] hI.ok (hb.2.1.2 _ (List.getElem_mem hlt)) hI.good.wh.2.2 hI.good.nd (by omega) b2 (by
      have := hrowb (plS plI b.rows.xs[i]) (List.mem_map_of_mem (List.getElem_mem hlt))
      simp [plS] at this; omega) hcb b3
    obtain ⟨W, hW⟩ : ∃ W, W = (dSl cI y.cs).ids := ⟨_, rfl⟩
    rw [<- hW] at hT hyc
    have eW : ∀ (ws : List D) g, g < B -> phi W ws g = none := fun ws g hg => by
      simp only [phi]; rw [if_neg]; intro h; have := hyc g h; omega
    have e1 : ∀ ws, reV (phi W ws) (.d (.sl b.rows.id b.rows.T (b.rows.xs.map (cS cI)))) = .d (.sl b.rows.id b.rows.T (b.rows.xs.map (cS cI))) := fun ws => reV_id (.d (dSl (cS cI) b.rows)) fun g hg => eW ws g (hbr g hg)
    have e2 : ∀ ws, reV (phi W ws) (.d (.sl b.cs.id b.cs.T (b.cs.xs.map cI))) = .d (.sl b.cs.id b.cs.T (b.cs.xs.map cI)) := fun ws => reV_id (.d (dSl cI b.cs)) fun g hg => eW ws g (hbc g hg)
    refine anyQ2 fun Q => ?_
    simp [hlt, hltc, cS, cI, dSl]
    refine call_b (k := 6) (E43) (by simp [dSl]) (by simp [cCnt, cS, cI, dSl]) (by simp) (by simp [cCnt, cS, cI, dSl]) (by simp) (by simp [cCnt, cS, cI, dSl]) (fun g hg => .inl (hyc g hg)) hT fun n3 hs3 r3 cs3 ws3 hn3 hm3 hp3 hr3 hv3 hw3 => ?_
    obtain ⟨rfl, z, rfl, pz, kz, _, Gz⟩ := hp3
    simp at hn3
    have u3 : ∀ g ∈ idsL (cCnt z), g < hs3 := fun g hg => hv3 g (by rw [idsVL_map_d]; exact hg)
    simp [cCnt, cS, cI, dSl, hwi, e1, e2]
    refine back2 (i + 1, z) (hI.step (m := n3) (by omega) (by omega) (by rw [hcs]; omega) ?_ kz (by omega) (by omega) Gz u3) (by simp only; omega) rfl (by simp <;> omega) (by simp) (by simp [e1, e2])
    rw [pz]
    simp [plCnt, plS, map_plI]
  · obtain ⟨f1, f2⟩ := hI.fin (by omega) hsrt (by omega) (by omega)
    have har : y.ar = a.ar := hI.ar
    have Gr : Good (cS (cS cI) y.rows) (whS (whS whI) y.rows) B := by
      have h1 := hI.good.nd
      rw [cCnt, idsL_app, idsL_app] at h1
      exact ⟨(List.nodup_append.1 (List.nodup_append.1 h1).1).2.1, fun g hg => hI.good.lo g (by rw [cCnt, idsL_app, idsL_app]; simp [hg]), hI.good.wh.2.1⟩
    simp [hlt, cS, cI, dSl]
    refine call_some (t_impl_settled y hI.ok (by omega) b2) (by simp [cCnt, cS, cI, dSl]) (by simp) fun n4 hs4 r4 hn4 hm4 hp4 hr4 => ?_
    obtain ⟨z, rfl, pz, kz, Gz⟩ := hp4
    simp at hn4
    clear hr4
    have pz' : plCnt z = sumOf (plCnt a).ar ((plCnt a).rows ++ (plCnt b).rows) ((plCnt a).cs ++ (plCnt b).cs) := by
      rw [pz, f1, f2, sumOf, har]; rfl
    have hyl : (srtU ((plCnt a).rows ++ (plCnt b).rows)).length = y.rows.xs.length := by rw [<- f1]; simp [plCnt, plS]
    have hadd : addCB (plCnt a) (plCnt b) = (decide (y.rows.xs.length <= 4000) && cntsOk (plCnt z)) := by
      have h3' : (plCnt a).ar = (plCnt b).ar := h3
      rw [pz', addCB, h1, h2, sumB, hyl, decide_eq_true h3']; simp only [Bool.true_and]
    by_cases h4 : (y.rows.xs.length : Int) <= 4000
    case neg =>
      have hB0 : addCB (plCnt a) (plCnt b) = false := by rw [hadd]; simp; intro h; omega
      have h4' : (4000 : Int) < y.rows.xs.length := by omega
      simp [cCnt, cS, cI, dSl, h4, h4']
      exact hno hB0
    have h4' : ¬ (4000 : Int) < y.rows.xs.length := by omega
    simp [cCnt, cS, cI, dSl, h4, h4']
    refine call_f (w_impl_IsValidCounted (plCnt z)) (by simp [eCnt, er_SI, er_I, plCnt, pS, plS, erLL_map er_cI, erLL_map (er_cS er_cI), map_plI]) rfl fun hs5 hh5 => ?_
    simp at hh5
    cases h5 : cntsOk (plCnt z)
    · have hB0 : addCB (plCnt a) (plCnt b) = false := by rw [hadd, h5, Bool.and_false]
      simp
      exact hno hB0
    have hB1 : addCB (plCnt a) (plCnt b) = true := by rw [hadd, h5, Bool.and_true]; simp; omega
    simp
    refine ⟨z, by simp [cCnt, cS, cI, dSl, hB1], by rw [pz', addCP, hB1]; rfl, kz, Gz B (by omega) Gr⟩
theorem w_impl_columnsFit (ar : Int) (cols : List Int) : VC Tryz.prog 93 [.d (.int .i64 ar), .d (pS cI cols)] (fun _ v => v = .d (.bool (colsOk ar cols))) := by
  refine VC.ofL EP s93 (by kernel_rfl) Tryz.func93 (by rfl) (by kernel_rfl) (by simp [Tryz.f93]) (by simp [Tryz.f93]) s93_ok fun B hl => ?_
  by_cases h5 : cols.length <= 5
  case neg => simp [Tryz.f93, colsOk, h5, show (5 : Int) < cols.length by omega]
  simp [Tryz.f93, show ¬ (5 : Int) < cols.length by omega]
  refine loop_rule (X := Nat) (fun i => i <= cols.length /\ AllTo (fun c => inR c 0 (IntKind.i64.wrap (ar - 1))) cols i) (fun i => [(0, .d (.int .i64 ar)), (10, .d (.pl (cols.map cI))), (11, .d (.int .i64 cols.length)), (12, .d (.int .i64 i))])
    (fun _ => []) (fun i => cols.length - i) 0 ⟨by simp, allTo_zero⟩ (by simp) (by simp) ?_
  intro i hs t m hi hh
  by_cases hlt : i < cols.length
  · have hwi := wr1 (i := i) (by omega)
    simp [hlt, cI, ]
    refine call_f (w_impl_within cols[i] 0 (IntKind.i64.wrap (ar - 1))) (by simp) rfl fun hs1 hh1 => ?_
    simp at hh1
    cases hv : inR cols[i] 0 (IntKind.i64.wrap (ar - 1))
    · have hbad := all_bad (p := fun c => inR c 0 (IntKind.i64.wrap (ar - 1))) hlt hv
      simp [colsOk, hbad]
    · simp [hwi]
      exact back (i + 1) ⟨by omega, allTo_step hi.2 hlt hv⟩ (by omega) rfl (by simp <;> omega) (by simp) (by simp)
  have hd := allTo_done hi.2 (by omega)
  simp [hlt, colsOk, hd, h5]
theorem t_impl_pick (row cols : Ints) (hb : cols.xs.length <= 4294967296) (hc : ∀ c ∈ cols.xs, 0 <= c /\ c < row.xs.length) : VC Tryz.prog 44 [.d (dSl cI row), .d (dSl cI cols)]
   (fun n r => ∃ y : Ints, r = .d (dSl cI y) /\ y.xs = pickR cols.xs row.xs /\ okS okI y /\ Good (cS cI y) (whS whI y) n) := by
  refine VC.of E s44 (by kernel_rfl) Tryz.func44 (by rfl) (by kernel_rfl) (by simp [Tryz.f44]) (by simp [Tryz.f44]) s44_ok fun B => ?_
  simp [Tryz.f44, dSl]
  refine loop_rule (X := Nat) (fun i => i <= cols.xs.length) (fun i => [(0, .d (.sl row.id row.T (row.xs.map cI))), (5, .own 8 0 i), (9, .d (.sl cols.id cols.T (cols.xs.map cI))), (10, .d (.int .i64 cols.xs.length)), (11, .d (.int .i64 i))])
    (fun i => [(8, some (.row 3 1 ((pickR (cols.xs.take i) row.xs).map cI)))]) (fun i => cols.xs.length - i) 0 (by simp) (by simp) (by simp [pickR]) ?_
  intro i hs t m hi hh
  by_cases hlt : i < cols.xs.length
  · have hwi := wr1 (i := i) (by omega)
    have h1 := hc _ (List.getElem_mem hlt)
    have hst := pickR_step hlt hc
    obtain ⟨k, hk⟩ : ∃ k : Nat, cols.xs[i] = (k : Int) := ⟨cols.xs[i].toNat, by omega⟩
    have hkl : k < row.xs.length := by omega
    have hL : LenOk 8 (i + 1) := ⟨by omega, by simp only [maxLen]; omega⟩
    have hpl : (pickR (cols.xs.take i) row.xs).length = i := by rw [pickR_len, List.length_take]; omega
    simp only [hk, Int.toNat_natCast] at hst
    simp [hlt, hk, hkl, hL, hwi, hpl, cI, ]
    exact back (i + 1) (by omega) (by omega) rfl (by simp <;> omega) (by simp) (by simp [hst, cI])
  · have hn : i = cols.xs.length := by omega
    subst hn
    simp [List.take_of_length_le, pickR_len]
    intro γ hs' h2 hg
    obtain ⟨q1, q2⟩ := gam_at hg (k := 8) (T := 3) (sz := 1) (es := (pickR cols.xs row.xs).map cI) (by simp)
    have r1 := gam_row hg (k := 8) (T := 3) (sz := 1) (es := (pickR cols.xs row.xs).map cI) (by simp)
    clear hg
    refine ⟨⟨γ 8, some (3, 1), pickR cols.xs row.xs⟩, by simp [List.take_of_length_le, pickR_len], rfl, ⟨by simp only [maxLen, pickR_len]; omega, fun _ _ => trivial⟩, good_row (fun g hg => (q1 g hg).1) (by simpa using q2) r1 ⟨by simp, by simp⟩ (by simp [whI])⟩
theorem t_impl_ProjectCounted0 (a : Cnt) (c : Ints) (ha : okCnt a) (hc : okS okI c) : VC Tryz.prog 71 [.agg ((cCnt a).map V.d), .d (dSl cI c)]
   (fun n r => ∃ y : Cnt, r = .tup [.agg ((cCnt y).map V.d), .d (.bool (projB (plCnt a) c.xs))] /\ plCnt y = projP (plCnt a) c.xs /\ okCnt y /\ Good (cCnt y) (whCnt y) n) := by
  refine VC.ofB E s71 (by kernel_rfl) Tryz.func71 (by rfl) (by kernel_rfl) (by simp [Tryz.f71]) (by simp [Tryz.f71]) s71_ok fun B hB => ?_
  have haB : ∀ g ∈ idsL (cCnt a), g < B := fun g hg => hB g (by simp only [idsVL, V.ids, idsVL_map_d, List.mem_append]; simp [hg])
  have hcB : ∀ g ∈ (dSl cI c).ids, g < B := fun g hg => hB g (by simp only [idsVL, V.ids, List.mem_append]; simp [hg])
  have hno : ∀ hB0 : projB (plCnt a) c.xs = false, ∃ y : Cnt, V.tup [.agg ((cCnt ⟨0, nilS, nilS⟩).map V.d), .d (.bool false)] = .tup [.agg ((cCnt y).map V.d), .d (.bool (projB (plCnt a) c.xs))] /\ plCnt y = projP (plCnt a) c.xs /\ okCnt y /\ Good (cCnt y) (whCnt y) B := fun hB0 =>
    ⟨⟨0, nilS, nilS⟩, by rw [hB0], by simp only [projP, hB0]; rfl, ⟨trivial, ok_nilS, ok_nilS⟩, good_Cnt0 B⟩
  simp only [cCnt, cS, cI, nilS, dSl] at hno
  simp at hno
  simp [Tryz.f71, s71_7, cCnt, cS, cI, dSl]
  refine call_f (w_impl_IsValidCounted (plCnt a)) (by simp [eCnt, er_SI, er_I, plCnt, pS, plS, erLL_map er_cI, erLL_map (er_cS er_cI), map_plI]) rfl fun hs0 hh0 => ?_
  simp at hh0
  cases h1 : cntsOk (plCnt a)
  · have hB0 : projB (plCnt a) c.xs = false := by simp [projB, h1]
    simp
    exact hno hB0
  simp [dSl]
  refine call_f (w_impl_columnsFit a.ar c.xs) (by simp [erLL_map er_cI, pS]) rfl fun hs1 hh1 => ?_
  simp at hh1
  cases h2 : colsOk a.ar c.xs
  · have hB0 : projB (plCnt a) c.xs = false := by simp [projB, plCnt, plI, h2]
    simp
    exact hno hB0
  have hlen := rowsOk_len (cntsOk_rows h1)
  have hrow := rowsOk_row (cntsOk_rows h1)
  have hcl := cntsOk_len h1
  have hcsa := cntsOk_cs h1
  have har := rowsOk_inR (cntsOk_rows h1)
  have h2' := h2
  simp only [colsOk, Bool.and_eq_true, decide_eq_true_eq] at h2'
  obtain ⟨hc5, hd⟩ := h2'
  simp only [inR, Bool.and_eq_true, decide_eq_true_eq] at har
  have hrl : (plCnt a).rows.length = a.rows.xs.length := by simp [plCnt, plS]
  have hcs : (plCnt a).cs = a.cs.xs := by simp [plCnt, plS, map_plI]
  have hcl2 : a.cs.xs.length = a.rows.xs.length := by rw [<- hrl, <- hcs]; omega
  have hfit : ∀ r ∈ a.rows.xs, ∀ x ∈ c.xs, 0 <= x /\ x < r.xs.length := fun r hrm x hx => by
    have h2 := (rowsOk_mem (cntsOk_rows h1) (List.mem_map_of_mem (f := plS plI) hrm)).1
    have h3 := (List.all_eq_true.1 hd) x hx
    have har' : 0 <= a.ar /\ a.ar <= 5 := har
    rw [wrap64_of (by omega) (by omega)] at h3
    simp only [inR, Bool.and_eq_true, decide_eq_true_eq] at h3
    simp only [plS, List.length_map, plCnt, plI] at h2
    omega
  obtain ⟨b, hb⟩ : ∃ b : PCnt, b = ⟨c.xs.length, (plCnt a).rows.map (pickR c.xs), (plCnt a).cs⟩ := ⟨_, rfl⟩
  have hbl : b.rows.length = a.rows.xs.length := by rw [hb]; simp [plCnt, plS]
  have hbc : b.cs = a.cs.xs := by rw [hb]; exact hcs
  have hba : ∀ i (h : i < a.rows.xs.length), b.rows[i]'(by omega) = pickR c.xs a.rows.xs[i].xs := fun i h => by
    subst hb
    simp [plCnt, plS, map_plI]
  simp [s71_7, dSl]
  refine loop_ruleL (X := Nat × Cnt) (TalI ⟨c.xs.length, [], []⟩ b B) (fun p => [(1, .d (.sl c.id c.T (c.xs.map cI))), (2, .ptr 2 0 0), (4, .ptr 4 0 0), (6, .ptr 6 0 0), (25, .d (.sl a.rows.id a.rows.T (a.rows.xs.map (cS cI)))), (26, .d (.int .i64 a.rows.xs.length)), (27, .d (.int .i64 p.1))])
    (fun p => [(2, some (.box [.d (.int .i64 a.ar), .d (.sl a.rows.id a.rows.T (a.rows.xs.map (cS cI))), .d (.sl a.cs.id a.cs.T (a.cs.xs.map cI))])), (4, some (.box [.d (.int .i64 0), .d (.sl none none []), .d (.sl none none [])])),
      (6, some (.box [.d (.int .i64 p.2.ar), .d (.sl p.2.rows.id p.2.rows.T (p.2.rows.xs.map (cS cI))), .d (.sl p.2.cs.id p.2.cs.T (p.2.cs.xs.map cI))]))]) (fun p => a.rows.xs.length - p.1) ?_ ?_
  · refine Lead.of ⟨(0, ⟨c.xs.length, nilS, nilS⟩), ⟨by simp, rfl, rfl, rfl, ⟨trivial, ok_nilS, ok_nilS⟩, ⟨by simp [cCnt, nilS, cS, cI, dSl, idsL, idsLL, D.ids], by simp [cCnt, nilS, cS, cI, dSl, idsL, idsLL, D.ids], (good_Cnt0 B).wh⟩, by simp [cCnt, nilS, cS, cI, dSl, idsL, idsLL, D.ids]⟩, rfl, rfl, Nat.le_refl _, by simp [dSl], by simp [nilS, dSl]⟩
  rintro ⟨i, y⟩ hs t m hI hh
  have hi := hI.le
  simp only [hbl] at hi
  obtain ⟨b1, b2, b3⟩ := hI.bd .nil rfl (by rw [hbc, hbl]; omega) (by simp) (by rw [hbl]; omega) (by simp) (by rw [hbc]; exact hcs ▸ hcsa)
  simp only at b1 b2 b3
  by_cases hlt : i < a.rows.xs.length
  · have hltc : i < a.cs.xs.length := by omega
    have hwi := wr1 (i := i) (by omega)
    have hbr : ∀ g ∈ (dSl (cS cI) a.rows).ids, g < B := fun g hg => haB g (by rw [cCnt, idsL_app, idsL_app, idsL_cS, idsL_cS]; simp [hg])
    have hbk : ∀ g ∈ (dSl cI a.cs).ids, g < B := fun g hg => haB g (by rw [cCnt, idsL_app, idsL_app, idsL_cS, idsL_cS]; simp [hg])
    have hyc : ∀ g ∈ (dSl cI y.cs).ids, B <= g := fun g hg => hI.good.lo g (by rw [cCnt, idsL_app, idsL_app, idsL_cS, idsL_cS]; simp [hg])
    have hcb := hcsa a.cs.xs[i] (by rw [hcs]; exact List.getElem_mem hltc)
    obtain ⟨W, hW⟩ : ∃ W, W = (dSl cI y.cs).ids := ⟨_, rfl⟩
    rw [<- hW] at hyc
    have eW : ∀ (ws : List D) g, g < B -> phi W ws g = none := fun ws g hg => by
      simp only [phi]; rw [if_neg]; intro h; have := hyc g h; omega
    have e1 : ∀ ws, reV (phi W ws) (.d (.sl a.rows.id a.rows.T (a.rows.xs.map (cS cI)))) = .d (.sl a.rows.id a.rows.T (a.rows.xs.map (cS cI))) := fun ws => reV_id (.d (dSl (cS cI) a.rows)) fun g hg => eW ws g (hbr g hg)
    have e2 : ∀ ws, reV (phi W ws) (.d (.sl a.cs.id a.cs.T (a.cs.xs.map cI))) = .d (.sl a.cs.id a.cs.T (a.cs.xs.map cI)) := fun ws => reV_id (.d (dSl cI a.cs)) fun g hg => eW ws g (hbk g hg)
    have e3 : ∀ ws, reV (phi W ws) (.d (.sl c.id c.T (c.xs.map cI))) = .d (.sl c.id c.T (c.xs.map cI)) := fun ws => reV_id (.d (dSl cI c)) fun g hg => eW ws g (hcB g hg)
    refine anyQ2 fun Q => ?_
    simp [hlt, hltc, cS, cI, dSl, s71_7, ]
    refine call_some (t_impl_pick a.rows.xs[i] c (by omega) (hfit _ (List.getElem_mem hlt))) (by simp [dSl]) (by simp) fun n2 hs2 r2 hn2 hm2 hp2 hr2 => ?_
    obtain ⟨w, rfl, pw, kw, Gw⟩ := hp2
    simp at hn2
    have hT := t_impl_tally y w a.cs.xs[i] hI.ok kw hI.good.wh.2.2 hI.good.nd (by omega) b2 (by
      rw [pw, pickR_len]; omega) hcb b3
    rw [<- hW] at hT
    simp [hlt, hltc, cS, cI, dSl, s71_7, ]
    refine call_b (k := 6) (E43) (by simp [dSl]) (by simp [cCnt, cS, cI, dSl]) (by simp) (by simp [cCnt, cS, cI, dSl]) (by simp) (by simp [cCnt, cS, cI, dSl]) (fun g hg => .inl (hyc g hg)) hT fun n3 hs3 r3 cs3 ws3 hn3 hm3 hp3 hr3 hv3 hw3 => ?_
    obtain ⟨rfl, z, rfl, pz, kz, _, Gz⟩ := hp3
    simp at hn3
    have u3 : ∀ g ∈ idsL (cCnt z), g < hs3 := fun g hg => hv3 g (by rw [idsVL_map_d]; exact hg)
    simp [cCnt, cS, cI, dSl, hwi, e1, e2, e3, s71_7, ]
    refine back2 (i + 1, z) (hI.step (m := n3) (by rw [hbc, hbl]; omega) (by omega) (by rw [hbc]; omega) ?_ kz (by omega) (by omega) Gz u3) (by simp only; omega) rfl (by simp <;> omega) (by simp [e1, e3]) (by simp [e1, e2])
    rw [pz, hba i hlt, pw]
    simp [hbc]
  · obtain ⟨f1, f2⟩ := hI.fin (by omega) .nil rfl (by rw [hbc, hbl]; omega)
    have har : y.ar = (c.xs.length : Int) := hI.ar
    have Gr : Good (cS (cS cI) y.rows) (whS (whS whI) y.rows) B := by
      have h1 := hI.good.nd
      rw [cCnt, idsL_app, idsL_app] at h1
      exact ⟨(List.nodup_append.1 (List.nodup_append.1 h1).1).2.1, fun g hg => hI.good.lo g (by rw [cCnt, idsL_app, idsL_app]; simp [hg]), hI.good.wh.2.1⟩
    simp [hlt, cS, cI, dSl, s71_7, ]
    refine call_some (t_impl_settled y hI.ok (by omega) b2) (by simp [cCnt, cS, cI, dSl]) (by simp) fun n4 hs4 r4 hn4 hm4 hp4 hr4 => ?_
    obtain ⟨z, rfl, pz, kz, Gz⟩ := hp4
    simp at hn4
    clear hr4
    have pz' : plCnt z = sumOf c.xs.length b.rows b.cs := by
      rw [pz, f1, f2, sumOf, har]; rfl
    have hsl : (srtU b.rows).length <= 4000 := by have := srtU_len b.rows; omega
    have hprj : projB (plCnt a) c.xs = cntsOk (plCnt z) := by
      have h2' : colsOk (plCnt a).ar c.xs = true := h2
      rw [pz', projB, h1, h2', sumB]
      rw [hb] at hsl ⊢
      simp only [Bool.true_and, hsl, decide_true]
    simp [cCnt, cS, cI, dSl, s71_7, ]
    refine call_f (w_impl_IsValidCounted (plCnt z)) (by simp [eCnt, er_SI, er_I, plCnt, pS, plS, erLL_map er_cI, erLL_map (er_cS er_cI), map_plI]) rfl fun hs5 hh5 => ?_
    simp at hh5
    cases h5 : cntsOk (plCnt z)
    · have hB0 : projB (plCnt a) c.xs = false := by rw [hprj, h5]
      simp
      exact hno hB0
    have hB1 : projB (plCnt a) c.xs = true := by rw [hprj, h5]
    simp
    refine ⟨z, by simp [cCnt, cS, cI, dSl, hB1], by rw [pz', projP, hB1, hb]; rfl, kz, Gz B (by omega) Gr⟩
theorem t_impl_ProjectCounted (a : Cnt) (c : Ints) (ha : okCnt a) (hc : okS okI c) : VC Tryz.prog 71 [.agg ((cCnt a).map V.d), .d (dSl cI c)]
   (fun n r => ∃ y : Cnt, r = .tup [.agg ((cCnt y).map V.d), .d (.bool (projB (plCnt a) (plS plI c)))] /\ plCnt y = projP (plCnt a) (plS plI c) /\ okCnt y /\ Good (cCnt y) (whCnt y) n) := by
  have e : plS plI c = c.xs := by simp [plS, map_plI]
  rw [e]; exact t_impl_ProjectCounted0 a c ha hc
theorem w_spec_l27Sum (ar : Int) (l : List (List Int)) (cs : List Int) (hr : inR ar 0 5 = true) (hm : ∀ x ∈ l, (x.length : Int) = ar /\ valsOk x = true) (hlc : cs.length = l.length) (hb : l.length <= 2000000) (hc : ∀ c ∈ cs, -1000000 <= c /\ c <= 1000000) :
   VC Tryz.prog 54 [.d (.int .i64 ar), .d (pS (cP cI) l), .d (pS cI cs)] (fun _ v => v = .tup [.agg ((eCnt (sumP ar l cs)).map .d), .d (.bool (sumB ar l cs))]) := by
  have hx5 : ∀ x ∈ l, x.length <= 5 := fun x hx => by
    have h1 := (hm x hx).1
    simp only [inR, Bool.and_eq_true, decide_eq_true_eq] at hr
    omega
  have hnB := newB_of hr hm
  have hRs := srtU_srt l
  have hRl := srtU_len l
  refine VC.ofL EP s54 (by kernel_rfl) Tryz.func54 (by rfl) (by kernel_rfl) (by simp [Tryz.f54]) (by simp [Tryz.f54]) s54_ok fun B hl => ?_
  simp [Tryz.f54, s54_8, s54_9, s54_15, s54_16, s54_8, s54_9, s54_15, s54_16, ]
  refine call_p (w_spec_NewRelation ar l (by omega) (fun x hx => by have := hx5 x hx; omega)) (by simp) fun hs1 hh1 _ => ?_
  simp at hh1
  by_cases h4 : (srtU l).length <= 4000
  case neg => simp [newR, hnB, h4, sumP, sumB, eReln, eCnt]
  have hmR : ∀ x, x ∈ l -> x ∈ srtU l := fun x hx => (srtU_mem l x).2 hx
  have hRe : newR ar l = ⟨ar, srtU l⟩ := by simp [newR, hnB, h4]
  have hsum : sumsOf l cs = (srtU l).map (lkC l cs) := rfl
  simp [hRe, hnB, h4, eReln]
  obtain ⟨R, hRR⟩ : ∃ R, R = srtU l := ⟨_, rfl⟩
  simp only [<- hRR] at hRs hRl h4 hmR hsum ⊢
  have hL0 : LenOk 8 R.length := ⟨by omega, by simp only [maxLen]; omega⟩
  simp [hL0]
  refine loop_rule (X := Nat) (fun i => i <= l.length) (fun i => [(0, .d (.int .i64 ar)), (1, .d (.pl (l.map (cP cI)))), (2, .d (.pl (cs.map cI))), (6, .ptr 6 0 0), (8, .ptr 8 0 0), (10, .own 28 0 R.length), (11, .d (.int .i64 i))])
    (fun i => [(6, some (.box [.d (.int .i64 0), .d (.sl none none []), .d (.sl none none [])])), (8, some (.box [.d (.int .i64 ar), .d (.pl (R.map (cP cI)))])), (28, some (.row 3 1 ((sumsTo R l cs i).map cI)))]) (fun i => l.length - i) 0 (by simp) (by simp) (by simp [sumsTo_zero]) ?_
  · intro i hs t m hi hh
    by_cases hlt : i < l.length
    · have hwi := wr1 (i := i) (by omega)
      have hic : i < cs.length := by omega
      obtain ⟨hk, hkx⟩ := placeB_at ((placeB_iff hRs).2 (hmR _ (List.getElem_mem hlt)))
      simp [hlt, cP, s54_8, s54_9, s54_15, s54_16, ]
      refine call_f (w_spec_l5Place ⟨ar, R⟩ l[i] (by simp; omega)) (by simp [eReln]) rfl fun hs1 hh1 => ?_
      simp at hh1
      obtain ⟨k, hkk⟩ : ∃ k, k = placeK R l[i] := ⟨_, rfl⟩
      simp only [<- hkk] at hk ⊢
      have hst := sumsTo_step (cs := cs) hRs hlt hic (hmR _ (List.getElem_mem hlt)) hkk hk
      have hbd := sumsTo_bd (l := l) (cs := cs) (i := i) hk hi hc
      have hbc := hc cs[i] (List.getElem_mem hic)
      have hw : IntKind.i64.wrap ((sumsTo R l cs i)[k]'(by simpa using hk) + cs[i]) = (sumsTo R l cs i)[k]'(by simpa using hk) + cs[i] := wrap64_of (by omega) (by omega)
      simp [hk, hic, hw, hwi, s54_8, s54_9, s54_15, s54_16, ]
      exact back (i + 1) (by omega) (by omega) rfl (by simp <;> omega) (by simp) (by simp [<- hst, List.map_set, cI])
    · have hn : i = l.length := by omega
      subst hn
      have hall : sumsTo R l cs l.length = sumsOf l cs := hRR ▸ sumsTo_all hlc
      obtain ⟨S, hS⟩ : ∃ S, S = sumsOf l cs := ⟨_, rfl⟩
      have hSl : S.length = R.length := by rw [hS, <- hall, sumsTo_length]
      rw [hall, <- hS]
      simp [s54_8, s54_9, s54_15, s54_16, ]
      refine loop_ruleL (X := Nat) (fun i _ => i <= R.length) (fun i => [(6, .ptr 6 0 0), (8, .ptr 8 0 0), (10, .own 28 0 R.length), (14, .ptr 14 0 0), (15, .d (.int .i64 i))])
        (fun i => [(6, some (.box [.d (.int .i64 0), .d (.sl none none []), .d (.sl none none [])])), (8, some (.box [.d (.int .i64 ar), .d (.pl (R.map (cP cI)))])), (14, some (.box [.d (.int .i64 ar), .own 78 0 (sttl (R.take i) (S.take i)).length, .own 87 0 (sttl (R.take i) (S.take i)).length])),
          (28, some (.row 3 1 (S.map cI))), (78, some (.row 28 1 (((sttl (R.take i) (S.take i)).map Prod.fst).map (cP cI)))), (87, some (.row 3 1 (((sttl (R.take i) (S.take i)).map Prod.snd).map cI)))]) (fun i => R.length - i) ?_ ?_
      · refine (lead_box 14 1 78 28 1 [.d (.int .i64 ar), .d (.sl none none []), .d (.sl none none [])] (by omega) (by omega) (by omega) (by simp) rfl).bind ?_
        rintro _ rfl
        refine (lead_box 14 2 87 3 1 [.d (.int .i64 ar), .own 78 0 0, .d (.sl none none [])] (by omega) (by omega) (by omega) (by simp) rfl).bind ?_
        rintro _ rfl
        exact Lead.of ⟨0, by simp, rfl, rfl, Nat.le_refl _, by simp, by simp [sttl]⟩
      · intro i hs2 t2 m2 hi2 hh2
        by_cases hlt2 : i < R.length
        · have hwi := wr1 (i := i) (by omega)
          have hiS : i < S.length := by omega
          have hss := settle_step (rs := R) (cs := S) hlt2 hiS
          have hsl : (sttl (R.take i) (S.take i)).length <= i := settle_len hi2
          refine anyQ2 fun Q => ?_
          by_cases h0 : S[i] = 0
          · rw [if_pos h0, List.append_nil] at hss
            simp [hlt2, hiS, h0, hwi, show R.length <= S.length by omega, s54_8, s54_9, s54_15, s54_16, ]
            exact back2 (i + 1) (by omega) (by omega) rfl (by simp <;> omega) (by simp [hss]) (by simp [hss])
          · rw [if_neg h0] at hss
            have hLa : LenOk 24 ((sttl (R.take i) (S.take i)).length + 1) := ⟨by omega, by simp only [maxLen]; omega⟩
            have hLb : LenOk 8 ((sttl (R.take i) (S.take i)).length + 1) := ⟨by omega, by simp only [maxLen]; omega⟩
            simp [hlt2, hiS, h0, hwi, hLa, hLb, show R.length <= S.length by omega, s54_8, s54_9, s54_15, s54_16, ]
            exact back2 (i + 1) (by omega) (by omega) rfl (by simp <;> omega) (by simp [hss]) (by simp [hss])
        · have hn : i = R.length := by omega
          subst hn
          simp [List.take_of_length_le, hSl, s54_8, s54_9, s54_15, s54_16, ]
          have hsl : (sttl R S).length <= R.length := by
            have := settle_len (rs := R) (cs := S) (Nat.le_refl R.length)
            rw [List.take_length, List.take_of_length_le (l := S) (by omega)] at this
            exact this
          have hso : sumOf ar l cs = ⟨ar, (sttl R S).map Prod.fst, (sttl R S).map Prod.snd⟩ := by simp only [sumOf, <- hRR, <- hS]
          refine call_f (w_spec_IsValidCounted (sumOf ar l cs)) (by simp [eCnt, hso, List.take_of_length_le]) rfl fun hs3 hh3 => ?_
          simp at hh3
          cases hv : cntsOk (sumOf ar l cs)
          · simp [sumP, sumB, hv, eCnt]
          · have hB : sumB ar l cs = true := by simp [sumB, hv, <- hRR, h4]
            simp [sumP, hB, hso, eCnt, List.take_of_length_le]
theorem w_spec_AddCounted (a b : PCnt) : VC Tryz.prog 12 [.agg ((eCnt a).map .d), .agg ((eCnt b).map .d)] (fun _ v => v = .tup [.agg ((eCnt (addCP a b)).map .d), .d (.bool (addCB a b))]) := by
  refine VC.ofL EP s12 (by kernel_rfl) Tryz.func12 (by rfl) (by kernel_rfl) (by simp [Tryz.f12]) (by simp [Tryz.f12]) s12_ok fun B hl => ?_
  simp [Tryz.f12, s12_3, eCnt, s12_3, ]
  refine call_f (w_spec_IsValidCounted a) (by simp [eCnt]) rfl fun hs1 hh1 => ?_
  simp at hh1
  cases h1 : cntsOk a
  · simp [addCP, addCB, h1, eCnt]
  simp
  refine call_f (w_spec_IsValidCounted b) (by simp [eCnt]) rfl fun hs2 hh2 => ?_
  simp at hh2
  cases h2 : cntsOk b
  · simp [addCP, addCB, h1, h2, eCnt]
  by_cases har : a.ar = b.ar
  case neg => simp [addCP, addCB, h1, h2, har, eCnt]
  have ra := cntsOk_rows h1
  have rb := cntsOk_rows h2
  have la := rowsOk_len ra
  have lb := rowsOk_len rb
  have ca := cntsOk_len h1
  have cb := cntsOk_len h2
  have e1 : LenOk 24 a.rows.length := ⟨by omega, by simp only [maxLen]; omega⟩
  have e2 : LenOk 24 (a.rows.length + b.rows.length) := ⟨by omega, by simp only [maxLen]; omega⟩
  have e3 : LenOk 8 a.cs.length := ⟨by omega, by simp only [maxLen]; omega⟩
  have e4 : LenOk 8 (a.cs.length + b.cs.length) := ⟨by omega, by simp only [maxLen]; omega⟩
  have hC := w_spec_l27Sum a.ar (a.rows ++ b.rows) (a.cs ++ b.cs) (rowsOk_inR ra) (fun x hx => by
    rcases List.mem_append.1 hx with hx | hx
    · exact rowsOk_mem ra hx
    · rw [har]; exact rowsOk_mem rb hx) (by simp; omega) (by simp; omega) (fun c hc => by
    rcases List.mem_append.1 hc with hc | hc
    · exact cntsOk_cs h1 c hc
    · exact cntsOk_cs h2 c hc)
  simp [har, e1, e2, e3, e4, cP, s12_3, ]
  rw [har] at hC
  repeat' apply And.intro
  all_goals
    refine call_p hC (by simp [List.take_of_length_le]) fun hs3 hh3 _ => ?_
    simp at hh3
    cases hB : sumB b.ar (a.rows ++ b.rows) (a.cs ++ b.cs)
    · simp [addCP, addCB, h1, h2, har, hB, sumP, eCnt]
    · simp [addCP, addCB, h1, h2, har, hB, sumP, eCnt]
theorem w_spec_l5Cols (row cols : List Int) (hb : cols.length <= 4294967296) (hc : ∀ c ∈ cols, 0 <= c /\ c < row.length) : VC Tryz.prog 53 [.d (pS cI row), .d (pS cI cols)] (fun _ v => v = .d (pS cI (pickR cols row))) := by
  refine VC.ofL EP s53 (by kernel_rfl) Tryz.func53 (by rfl) (by kernel_rfl) (by simp [Tryz.f53]) (by simp [Tryz.f53]) s53_ok fun B hl => ?_
  simp [Tryz.f53, ]
  refine loop_rule (X := Nat) (fun i => i <= cols.length) (fun i => [(0, .d (.pl (row.map cI))), (1, .d (.pl (cols.map cI))), (5, .own 7 0 i), (6, .d (.int .i64 i))])
    (fun i => [(7, some (.row 3 1 ((pickR (cols.take i) row).map cI)))]) (fun i => cols.length - i) 0 (by simp) (by simp) (by simp [pickR]) ?_
  intro i hs t m hi hh
  by_cases hlt : i < cols.length
  · have hwi := wr1 (i := i) (by omega)
    have h1 := hc _ (List.getElem_mem hlt)
    have hst := pickR_step hlt hc
    obtain ⟨k, hk⟩ : ∃ k : Nat, cols[i] = (k : Int) := ⟨cols[i].toNat, by omega⟩
    have hkl : k < row.length := by omega
    have hL : LenOk 8 (i + 1) := ⟨by omega, by simp only [maxLen]; omega⟩
    have hpl : (pickR (cols.take i) row).length = i := by rw [pickR_len, List.length_take]; omega
    simp only [hk, Int.toNat_natCast] at hst
    simp [hlt, hk, hkl, hL, hwi, hpl, cI, ]
    exact back (i + 1) (by omega) (by omega) rfl (by simp <;> omega) (by simp) (by simp [hst, cI])
  · have hn : i = cols.length := by omega
    subst hn
    simp [List.take_of_length_le, pickR_len]
end Go.Proofs.YtmgphabeodaokaaGreat
namespace Go.Proofs.YtmgphabeodaokaaGreat
open Go.Vs Go.Proofs Go
set_option maxRecDepth 100000
set_option maxHeartbeats 1000000
section
attribute [local simp] plI_id plStr_id map_plI map_plStr pS cP cI cStr cU8 cB eReln eTab eDb eHist
theorem w_spec_EqualRelations (a b : PReln) : VC Tryz.prog 22 [.agg ((eReln a).map V.d), .agg ((eReln b).map V.d)] (fun _ r => r = .d (.bool (decide (a = b)))) := by
  refine VC.ofL EP s22 (by kernel_rfl) Tryz.func22 (by rfl) (by kernel_rfl) (by simp [Tryz.f22]) (by simp [Tryz.f22]) s22_ok fun B hl => ?_
  simp [pS, maxLen, eHist, eDb, eReln] at hl
  obtain ⟨ah, a⟩ := a
  obtain ⟨bh, b⟩ := b
  simp only at hl
  by_cases h : ah = bh
  case neg => simp [Tryz.f22, s22_6, h]
  subst h
  by_cases hle : a.length = b.length
  case neg => simp [Tryz.f22, s22_6, hle, eqt_len hle]
  simp [Tryz.f22, s22_6, hle]
  refine loop_rule (X := Nat) (EqTo a b) (fun i => [(2, .ptr 2 0 0), (3, .ptr 3 0 0), (5, .d (.int .i64 i))]) (fun i => [(2, some (.box [.d (.int .i64 ah), .d (.pl (a.map (cP cI)))])), (3, some (.box [.d (.int .i64 ah), .d (.pl (b.map (cP cI)))]))]) (fun i => a.length - i) 0 .zero (by simp [hle]) (by simp) ?_
  intro i hs t m hi hh
  have hia := hi.le
  by_cases hlt : i < a.length
  · have hlb : i < b.length := by omega
    have hwi := wr1 (i := i) (by omega)
    simp [hlt, hlb, s22_6, ]
    refine call_f (w_spec_CompareRows a[i] b[i]) (by simp) rfl fun hs1 hh1 => ?_
    simp at hh1
    by_cases he : a[i] = b[i]
    case neg => simp [he, eqt_bad hlt hlb he, cmpL_zero]
    simp [he, hwi, cmpL_self, s22_6, ]
    exact back (i + 1) ⟨by omega, eqt_step hi.eq hlt hlb he⟩ (by omega) rfl (by simp <;> omega) (by simp) (by simp)
  · have hd := eqt_done hi.eq (by omega) hle
    simp [show ¬ i < b.length by omega, hlt, hd]
end
end Go.Proofs.YtmgphabeodaokaaGreat
namespace Go.Proofs.YtmgphabeodaokaaGreat
open Go.Vs Go.Proofs Go
set_option maxRecDepth 100000
set_option maxHeartbeats 1000000
def cW (n : Int) : List D := [.int .u8 n]
def curD (b : Sl Int) (c : Nat × Int) : List D := [dSl cW b, .int .i64 c.1, .int .i64 c.2]
def curO (b : Sl Int) (c : Nat × Int) : Prop := c.1 <= b.xs.length
def andZ (k : IntKind) (a b : Int) : Int := k.wrap (BitVec.ofInt k.bits a &&& BitVec.ofInt k.bits b).toNat
def xorZ (k : IntKind) (a b : Int) : Int := k.wrap (BitVec.ofInt k.bits a ^^^ BitVec.ofInt k.bits b).toNat
def shrZ (k : IntKind) (a b : Int) : Int := a.fdiv (2 ^ (min b.toNat k.bits))
theorem bD_add (k k' : IntKind) (a b : Int) : binD .add (.d (.int k a)) (.d (.int k' b)) = .int k (k.wrap (a + b)) := id rfl
theorem bD_sub (k k' : IntKind) (a b : Int) : binD .sub (.d (.int k a)) (.d (.int k' b)) = .int k (k.wrap (a - b)) := id rfl
theorem bD_mul (k k' : IntKind) (a b : Int) : binD .mul (.d (.int k a)) (.d (.int k' b)) = .int k (k.wrap (a * b)) := id rfl
theorem bD_rem (k k' : IntKind) (a b : Int) : binD .rem (.d (.int k a)) (.d (.int k' b)) = .int k (a.tmod b) := id rfl
theorem bD_and (k k' : IntKind) (a b : Int) : binD .and (.d (.int k a)) (.d (.int k' b)) = .int k (andZ k a b) := id rfl
theorem bD_xor (k k' : IntKind) (a b : Int) : binD .xor (.d (.int k a)) (.d (.int k' b)) = .int k (xorZ k a b) := id rfl
theorem bD_shr (k k' : IntKind) (a b : Int) : binD .shr (.d (.int k a)) (.d (.int k' b)) = .int k (shrZ k a b) := id rfl
theorem bD_lss (k k' : IntKind) (a b : Int) : binD .lss (.d (.int k a)) (.d (.int k' b)) = .bool (decide (a < b)) := id rfl
theorem bD_leq (k k' : IntKind) (a b : Int) : binD .leq (.d (.int k a)) (.d (.int k' b)) = .bool (decide (a <= b)) := id rfl
theorem bD_gtr (k k' : IntKind) (a b : Int) : binD .gtr (.d (.int k a)) (.d (.int k' b)) = .bool (decide (b < a)) := id rfl
theorem bD_eql (k k' : IntKind) (a b : Int) : binD .eql (.d (.int k a)) (.d (.int k' b)) = .bool (a == b) := id rfl
theorem and255 (a : Int) : 0 <= andZ .i64 a 255 /\ andZ .i64 a 255 < 256 := by
  have h : (BitVec.ofInt 64 a &&& BitVec.ofInt 64 255).toNat <= 255 := by
    rw [BitVec.toNat_and]
    exact Nat.and_le_right
  have e : andZ .i64 a 255 = ((BitVec.ofInt 64 a &&& BitVec.ofInt 64 255).toNat : Int) := by
    show IntKind.i64.wrap ((BitVec.ofInt 64 a &&& BitVec.ofInt 64 255).toNat : Int) = _
    exact wrap64_of (by omega) (by omega)
  rw [e]; omega
theorem forgetT {P : Program} {E : Md} {ops : Array Oper} {tr : Tr} {K : St -> Prop} {B hs : Nat} {W : List Nat} {t0 : Nat -> V} {m0 : Nat -> Option Blk} (S : List (Nat × V)) (M : List (Nat × Option Blk))
    (hS : ∀ p ∈ S, t0 p.1 = p.2) (hM : ∀ p ∈ M, m0 p.1 = p.2) (h : ∀ t m, vtr P E ops K tr ⟨B, hs, W, updL t S, updL m M⟩) : vtr P E ops K tr ⟨B, hs, W, t0, m0⟩ := by
  have := h t0 m0
  rwa [updL_has hS, updL_has hM] at this
theorem forgetG {G : St -> Prop} {B hs : Nat} {W : List Nat} {t0 : Nat -> V} {m0 : Nat -> Option Blk} (S : List (Nat × V)) (M : List (Nat × Option Blk))
    (hS : ∀ p ∈ S, t0 p.1 = p.2) (hM : ∀ p ∈ M, m0 p.1 = p.2) (h : ∀ t m, G ⟨B, hs, W, updL t S, updL m M⟩) : G ⟨B, hs, W, t0, m0⟩ := by
  have := h t0 m0
  rwa [updL_has hS, updL_has hM] at this
structure CurP (b : Sl Int) (q : V -> Prop) (r : V) (cs : List V) : Prop where
  ex : ∃ c', q r /\ cs = (curD b c').map V.d /\ curO b c'
def byteQ (v : V) : Prop := ∃ x, v = .d (.int .i64 x) /\ 0 <= x /\ x < 256
def belQ (n : Int) (v : V) : Prop := ∃ x, v = .d (.int .i64 x) /\ 0 <= x /\ (0 < n -> x < n) /\ (n <= 0 -> x = 0)
def boolQ (v : V) : Prop := ∃ x, v = .d (.bool x)
def inQ (l : List Int) (v : V) : Prop := ∃ x, v = .d (.int .i64 x) /\ x ∈ l
def strQ (l : List (List UInt8)) (v : V) : Prop := ∃ x, v = .d (.str x) /\ x ∈ l
theorem call_cur {P : Program} {E : Md} {args : List Operand} {f : FuncId} {rest As : List V} {k : Nat} {dst : Option Tmp} {K : St -> Prop} {σ : St} {b : Sl Int} {q : V -> Prop} (c : Nat × Int) (hE : E f = true)
    (hc : VX P f [] (.ptr 1000 0 0 :: As) (some ((curD b c).map V.d)) (fun _ r cs _ => CurP b q r cs)) (hvs : args.map σ.ev = .ptr k 0 0 :: rest) (hm : σ.m k = some (.box ((curD b c).map V.d)))
    (hr : rpL σ.m rest = some As) (hk : keysVL rest = [])
    (hK : ∀ r c' hs', σ.hs <= hs' -> q r -> r.ln -> curO b c' -> K ({ σ with hs := hs', m := upd σ.m k (some (.box ((curD b c').map V.d))) }.put dst r)) : vcallA P E f args (.ptr k 0 0 :: rest) dst K σ := by
  refine call_xt hE hvs hm hr (by simp [curD, dSl]) hc fun r cs' ws n hs' h1 h2 h3 h4 h5 => ?_
  obtain ⟨c', hq, rfl, ho⟩ := h3.ex
  have : keysVL rest ++ keysVL ((curD b c).map V.d) = [] := by rw [hk]; simp [curD]
  rw [this]
  exact hK r c' hs' (Nat.le_trans h1 h2) hq h4 ho
theorem byte_fin {b : Sl Int} {i : Nat} {H x : Int} (h : i + 1 <= b.xs.length) (hx : 0 <= x /\ x < 256) : CurP b byteQ (.d (.int .i64 x)) [.d (.sl b.id b.T (b.xs.map cW)), .d (.int .i64 ((i : Int) + 1)), .d (.int .i64 H)] :=
  ⟨⟨(i + 1, H), ⟨_, rfl, hx.1, hx.2⟩, by simp [curD, dSl], h⟩⟩
theorem byte_fin0 {b : Sl Int} {i : Nat} {H x : Int} (h : i <= b.xs.length) (hx : 0 <= x /\ x < 256) : CurP b byteQ (.d (.int .i64 x)) [.d (.sl b.id b.T (b.xs.map cW)), .d (.int .i64 (i : Int)), .d (.int .i64 H)] :=
  ⟨⟨(i, H), ⟨_, rfl, hx.1, hx.2⟩, by simp [curD, dSl], h⟩⟩
section
attribute [local simp] pS dSl cP cI cW bD_add bD_sub bD_mul bD_rem bD_and bD_xor bD_shr bD_lss bD_leq bD_gtr bD_eql vendX vretX
attribute [-simp] binD
theorem w_spec_l1New (b : Sl Int) (hb : b.xs.length <= 1048576) : VN Tryz.prog 30 [.d (dSl cW b)] (fun _ ds => ∃ c, ds = curD b c /\ curO b c) := by
  refine VN.of EP s30 (by kernel_rfl) Tryz.func30 (by rfl) (by kernel_rfl) (by simp [Tryz.f30]) (by simp [Tryz.f30]) s30_ok fun B => ?_
  simp [Tryz.f30, ]
  refine loop_rule (X := Nat × Int) (fun p => p.1 <= b.xs.length) (fun p => [(0, .d (.sl b.id b.T (b.xs.map cW))), (3, .d (.int .i64 p.2)), (4, .d (.int .i64 p.1))]) (fun _ => []) (fun p => b.xs.length - p.1) (0, IntKind.i64.wrap (10101 + b.xs.length)) (by simp) (by simp) (by simp) ?_
  rintro ⟨i, h⟩ hs t m hi hh
  simp only at hi
  by_cases hlt : i < b.xs.length
  · have hwi := wr1 (i := i) (by omega)
    by_cases h4 : (i : Int) < 4000
    · simp [hlt, h4, hwi, ]
      exact back (i + 1, _) (by simp only; omega) (by simp only; omega) rfl (by simp <;> omega) (by simp; rfl) (by simp)
    · simp [hlt, h4, ]
      exact ⟨curD b (0, h), .inr (by simp [curD]), 0, h, rfl, by simp [curO]⟩
  · simp [hlt, ]
    exact ⟨curD b (0, h), .inr (by simp [curD]), 0, h, rfl, by simp [curO]⟩
theorem w_spec_l1Byte (b : Sl Int) (c : Nat × Int) (hb : b.xs.length <= 1048576) (hc : curO b c) : VX Tryz.prog 82 [] [.ptr 1000 0 0] (some ((curD b c).map V.d)) (fun _ r cs _ => CurP b byteQ r cs) := by
  refine VX.of EP s82 (by kernel_rfl) Tryz.func82 (by rfl) (by kernel_rfl) (by simp [Tryz.f82]) (by simp [Tryz.f82]) s82_ok ?_ ?_ fun B hB => ?_
  · simp
  · rintro cs h
    cases h
    simp [curD]
  obtain ⟨i, h⟩ := c
  simp only [curO] at hc
  simp [Tryz.f82, curD]
  generalize IntKind.i64.wrap (IntKind.i64.wrap (h * 6364136223846793005) + 1442695040888963407) = h'
  simp [s82_2, ]
  generalize xorZ IntKind.i64 (shrZ IntKind.i64 h' 33) (shrZ IntKind.i64 h' 45) = x'
  have hy := and255 x'
  generalize andZ IntKind.i64 x' 255 = y at hy ⊢
  refine forgetT [(0, .ptr 1000 0 0), (3, .d (.int .i64 y))] [(1000, some (.box [.d (.sl b.id b.T (b.xs.map cW)), .d (.int .i64 i), .d (.int .i64 h')]))] (by simp) (by simp) fun t m => ?_
  by_cases hlt : i < b.xs.length
  · have hwi := wr1 (i := i) (by omega)
    simp [s82_3, hlt]
    simp [-w_region, s82_4, hlt, hwi]
    have hz := and255 (IntKind.i64.wrap (y + IntKind.i64.wrap b.xs[i]))
    generalize andZ IntKind.i64 (IntKind.i64.wrap (y + IntKind.i64.wrap b.xs[i])) 255 = z at hz ⊢
    refine forgetG [(0, .ptr 1000 0 0), (3, .d (.int .i64 z))] [(1000, some (.box [.d (.sl b.id b.T (b.xs.map cW)), .d (.int .i64 i), .d (.int .i64 h')]))] (by simp) (by simp) fun t m => ?_
    simp [hwi]
    exact .inr <| byte_fin (b := b) (by omega) hz
  · simp [s82_3, hlt]
    exact .inr <| byte_fin0 hc hy
theorem w_spec_l1Below (b : Sl Int) (c : Nat × Int) (n : Int) (hb : b.xs.length <= 1048576) (hc : curO b c) (hn : n <= 1000000000) : VX Tryz.prog 32 [] [.ptr 1000 0 0, .d (.int .i64 n)] (some ((curD b c).map V.d)) (fun _ r cs _ => CurP b (belQ n) r cs) := by
  refine VX.of EP s32 (by kernel_rfl) Tryz.func32 (by rfl) (by kernel_rfl) (by simp [Tryz.f32]) (by simp [Tryz.f32]) s32_ok ?_ ?_ fun B hB => ?_
  · simp
  · rintro cs h
    cases h
    simp [curD]
  by_cases h0 : n <= 0
  · simp [Tryz.f32, curD, h0]
    exact .inr ⟨⟨c, ⟨0, rfl, by omega, fun h => absurd h (by omega), fun _ => rfl⟩, by simp [curD], hc⟩⟩
  have tm : ∀ x : Int, 0 <= x -> 0 <= x.tmod n /\ x.tmod n < n := fun x hx => by
    rw [Int.tmod_eq_emod_of_nonneg hx]
    exact ⟨Int.emod_nonneg _ (by omega), Int.emod_lt_of_pos _ (by omega)⟩
  have hn0 : ¬ n = 0 := by omega
  by_cases h1 : n <= 256
  · simp [Tryz.f32, curD, h0, h1]
    refine call_cur c E82 (w_spec_l1Byte b c hb hc) (by simp) (by simp [curD]) (by simp) (by simp) fun r1 c1 hs1 hh1 hq1 hl1 o1 => ?_
    obtain ⟨x1, rfl, a1, b1⟩ := hq1
    simp [curD, hn0]
    exact .inr ⟨⟨c1, ⟨_, rfl, (tm x1 a1).1, fun _ => (tm x1 a1).2, fun h => absurd h h0⟩, by simp [curD], o1⟩⟩
  simp [Tryz.f32, curD, h0, h1]
  refine call_cur c E82 (w_spec_l1Byte b c hb hc) (by simp) (by simp [curD]) (by simp) (by simp) fun r1 c1 hs1 hh1 hq1 hl1 o1 => ?_
  obtain ⟨x1, rfl, a1, b1⟩ := hq1
  simp [curD]
  refine call_cur c1 E82 (w_spec_l1Byte b c1 hb o1) (by simp) (by simp [curD]) (by simp) (by simp) fun r2 c2 hs2 hh2 hq2 hl2 o2 => ?_
  obtain ⟨x2, rfl, a2, b2⟩ := hq2
  simp [curD]
  refine call_cur c2 E82 (w_spec_l1Byte b c2 hb o2) (by simp) (by simp [curD]) (by simp) (by simp) fun r3 c3 hs3 hh3 hq3 hl3 o3 => ?_
  obtain ⟨x3, rfl, a3, b3⟩ := hq3
  simp [curD]
  refine call_cur c3 E82 (w_spec_l1Byte b c3 hb o3) (by simp) (by simp [curD]) (by simp) (by simp) fun r4 c4 hs4 hh4 hq4 hl4 o4 => ?_
  obtain ⟨x4, rfl, a4, b4⟩ := hq4
  have w1 : IntKind.i64.wrap (x1 * 16777216) = x1 * 16777216 := wrap64_of (by omega) (by omega)
  have w2 : IntKind.i64.wrap (x2 * 65536) = x2 * 65536 := wrap64_of (by omega) (by omega)
  have w3 : IntKind.i64.wrap (x3 * 256) = x3 * 256 := wrap64_of (by omega) (by omega)
  have w4 : IntKind.i64.wrap (x1 * 16777216 + x2 * 65536) = x1 * 16777216 + x2 * 65536 := wrap64_of (by omega) (by omega)
  have w5 : IntKind.i64.wrap (x1 * 16777216 + x2 * 65536 + x3 * 256) = x1 * 16777216 + x2 * 65536 + x3 * 256 := wrap64_of (by omega) (by omega)
  have w6 : IntKind.i64.wrap (x1 * 16777216 + x2 * 65536 + x3 * 256 + x4) = x1 * 16777216 + x2 * 65536 + x3 * 256 + x4 := wrap64_of (by omega) (by omega)
  simp [curD, hn0, w1, w2, w3, w4, w5, w6]
  exact .inr ⟨⟨c4, ⟨_, rfl, (tm _ (by omega)).1, fun _ => (tm _ (by omega)).2, fun h => absurd h h0⟩, by simp [curD], o4⟩⟩
theorem w_spec_l1Once (b : Sl Int) (c : Nat × Int) (n : Int) (hb : b.xs.length <= 1048576) (hc : curO b c) (hn : n <= 1000000000) : VX Tryz.prog 106 [] [.ptr 1000 0 0, .d (.int .i64 n)] (some ((curD b c).map V.d)) (fun _ r cs _ => CurP b boolQ r cs) := by
  refine VX.of EP s106 (by kernel_rfl) Tryz.func106 (by rfl) (by kernel_rfl) (by simp [Tryz.f106]) (by simp [Tryz.f106]) s106_ok ?_ ?_ fun B hB => ?_
  · simp
  · rintro cs h
    cases h
    simp [curD]
  simp [Tryz.f106, curD]
  refine call_cur c E32 (w_spec_l1Below b c n hb hc hn) (by simp) (by simp [curD]) (by simp) (by simp) fun r1 c1 hs1 hh1 hq1 hl1 o1 => ?_
  obtain ⟨x1, rfl, a1, b1, d1⟩ := hq1
  simp [curD]
  exact .inr ⟨⟨c1, ⟨_, rfl⟩, by simp [curD], o1⟩⟩
theorem w_spec_l1PickInt (b : Sl Int) (c : Nat × Int) (l : List Int) (hb : b.xs.length <= 1048576) (hc : curO b c) (hl0 : l ≠ []) (hll : l.length <= 1000) : VX Tryz.prog 135 [] [.ptr 1000 0 0, .d (pS cI l)] (some ((curD b c).map V.d)) (fun _ r cs _ => CurP b (inQ l) r cs) := by
  refine VX.of EP s135 (by kernel_rfl) Tryz.func135 (by rfl) (by kernel_rfl) (by simp [Tryz.f135]) (by simp [Tryz.f135]) s135_ok ?_ ?_ fun B hB => ?_
  · simp
  · rintro cs h
    cases h
    simp [curD]
  have hp := List.length_pos_iff.2 hl0
  simp [Tryz.f135, curD]
  refine call_cur c E32 (w_spec_l1Below b c l.length hb hc (by omega)) (by simp) (by simp [curD]) (by simp) (by simp) fun r1 c1 hs1 hh1 hq1 hl1 o1 => ?_
  obtain ⟨x1, rfl, a1, b1, d1⟩ := hq1
  have b1' := b1 (by omega)
  obtain ⟨k, rfl⟩ : ∃ k : Nat, x1 = k := ⟨x1.toNat, by omega⟩
  have hk : k < l.length := by omega
  simp [curD, hk]
  exact .inr ⟨⟨c1, ⟨_, rfl, List.getElem_mem hk⟩, by simp [curD], o1⟩⟩
theorem w_spec_l1Pick (b : Sl Int) (c : Nat × Int) (l : List (List UInt8)) (hb : b.xs.length <= 1048576) (hc : curO b c) (hl0 : l ≠ []) (hll : l.length <= 1000) : VX Tryz.prog 122 [] [.ptr 1000 0 0, .d (pS cStr l)] (some ((curD b c).map V.d)) (fun _ r cs _ => CurP b (strQ l) r cs) := by
  refine VX.of EP s122 (by kernel_rfl) Tryz.func122 (by rfl) (by kernel_rfl) (by simp [Tryz.f122]) (by simp [Tryz.f122]) s122_ok ?_ ?_ fun B hB => ?_
  · simp
  · rintro cs h
    cases h
    simp [curD]
  have hp := List.length_pos_iff.2 hl0
  simp [Tryz.f122, curD]
  refine call_cur c E32 (w_spec_l1Below b c l.length hb hc (by omega)) (by simp) (by simp [curD]) (by simp) (by simp) fun r1 c1 hs1 hh1 hq1 hl1 o1 => ?_
  obtain ⟨x1, rfl, a1, b1, d1⟩ := hq1
  have b1' := b1 (by omega)
  obtain ⟨k, rfl⟩ : ∃ k : Nat, x1 = k := ⟨x1.toNat, by omega⟩
  have hk : k < l.length := by omega
  simp [curD, hk, cStr]
  exact .inr ⟨⟨c1, ⟨_, rfl, List.getElem_mem hk⟩, by simp [curD], o1⟩⟩
end
end Go.Proofs.YtmgphabeodaokaaGreat
namespace Go.Proofs.YtmgphabeodaokaaGreat
open Go.Vs Go.Proofs Go
set_option maxRecDepth 100000
set_option maxHeartbeats 1000000
def inV (most x : Int) : Prop := 0 <= x /\ (0 < most -> x < most)
def rowQ (n most : Int) (v : V) : Prop := ∃ l : List Int, v = .d (.pl (l.map cI)) /\ (l.length : Int) <= max n 0 /\ ∀ x ∈ l, inV most x
section
attribute [local simp] pS dSl cP cI cW
theorem w_spec_l4Row (b : Sl Int) (c : Nat × Int) (n most : Int) (hb : b.xs.length <= 1048576) (hc : curO b c) (hn : n <= 1000) (hm : most <= 1000000000) : VX Tryz.prog 137 [] [.ptr 1000 0 0, .d (.int .i64 n), .d (.int .i64 most)] (some ((curD b c).map V.d)) (fun _ r cs _ => CurP b (rowQ n most) r cs) := by
  refine VX.of EP s137 (by kernel_rfl) Tryz.func137 (by rfl) (by kernel_rfl) (by simp [Tryz.f137]) (by simp [Tryz.f137]) s137_ok ?_ ?_ fun B hB => ?_
  · simp
  · rintro cs h
    cases h
    simp [curD]
  simp [Tryz.f137, curD]
  refine loop_rule (X := (Nat × Int) × List Int) (fun p => curO b p.1 /\ (p.2.length : Int) <= max n 0 /\ ∀ x ∈ p.2, inV most x) (fun p => [(0, .ptr 1000 0 0), (1, .d (.int .i64 n)), (2, .d (.int .i64 most)), (7, .own 8 0 p.2.length)]) (fun p => [(1000, some (.box ((curD b p.1).map V.d))), (8, some (.row 3 1 (p.2.map cI)))]) (fun p => 1000 - p.2.length) (c, []) ⟨hc, by simp; omega, by simp⟩ (by simp) (by simp [curD]) ?_
  rintro ⟨c1, l⟩ hs t m ⟨ho, hl, hlv⟩ hh
  simp only at ho hl hlv
  by_cases hlt : (l.length : Int) < n
  · have hL : LenOk 8 (l.length + 1) := ⟨by omega, by simp only [maxLen]; omega⟩
    simp [hlt, curD, ]
    refine call_cur c1 E32 (w_spec_l1Below b c1 most hb ho hm) (by simp) (by simp [curD]) (by simp) (by simp) fun r1 c2 hs1 hh1 hq1 hl1 o1 => ?_
    obtain ⟨x, rfl, x0, x1, _⟩ := hq1
    simp [hlt, hL, curD, ]
    exact back (c2, l ++ [x]) ⟨o1, by simp; omega, fun y hy => (List.mem_append.1 hy).elim (hlv y) fun h => by rw [List.mem_singleton.1 h]; exact ⟨x0, x1⟩⟩ (by simp; omega) rfl (by simp <;> omega) (by simp) (by simp [curD])
  · simp [hlt, curD, vendX, ]
    exact .inr ⟨⟨c1, ⟨l, by simp [List.take_of_length_le], hl, hlv⟩, by simp [curD], ho⟩⟩
end
end Go.Proofs.YtmgphabeodaokaaGreat
namespace Go.Proofs.YtmgphabeodaokaaGreat
open Go.Vs Go.Proofs Go
set_option maxRecDepth 100000
set_option maxHeartbeats 1000000
section
attribute [local simp] plI_id plStr_id map_plI map_plStr
theorem e_spec_l5Copy (r : PReln) (hb : r.rows.length <= 4294967296) (hb2 : ∀ x ∈ r.rows, x.length <= 4294967296) :
   VC Tryz.prog 100 [.agg ((eReln r).map V.d)] (fun n v => ∃ y : Reln, v = .agg ((cReln y).map V.d) /\ plReln y = r /\ okReln y /\ (∀ g, y.rows.id = some g -> y.rows.T = some (28, 1)) /\ Good (cReln y) (whReln y) n) := by
  obtain ⟨ar, l⟩ := r
  simp only at hb hb2
  refine VC.of E s100 (by kernel_rfl) Tryz.func100 (by rfl) (by kernel_rfl) (by simp [Tryz.f100]) (by simp [Tryz.f100]) s100_ok fun B => ?_
  simp [Tryz.f100, s100_5, eReln, pS, cI]
  refine loop_ruleL (X := Nat × List Ints) (CopI (cS cI) (whS whI) (okS okI) (plS plI) l B) (fun p => [(1, .ptr 1 0 0), (2, .ptr 2 0 0), (3, .ptr 3 0 0), (4, .d (.int .i64 p.1))])
    (fun p => [(1, some (.box [.d (.int .i64 ar), .d (.pl (l.map (cP cI)))])), (2, some (.box [.d (.int .i64 0), .d (.sl none none [])])), (3, some (.box [.d (.int .i64 ar), .own 25 0 p.2.length])), (25, some (.row 28 1 (p.2.map (cS cI))))]) (fun p => l.length - p.1) ?_ ?_
  · refine (lead_box 3 1 25 28 1 [.d (.int .i64 ar), .d (.sl none none [])] (by omega) (by omega) (by omega) (by simp) rfl).bind ?_
    rintro _ rfl
    exact Lead.of ⟨(0, []), .zero, rfl, rfl, Nat.le_refl _, by simp, by simp⟩
  rintro ⟨i, ys⟩ hs t m hI hh
  have hle := hI.le
  have hyl := hI.len
  simp only at hle
  by_cases hlt : i < l.length
  · have hwi := wr1 (i := i) (by omega)
    have hL : LenOk 24 (i + 1) := ⟨by omega, by simp only [maxLen]; omega⟩
    have hx := hb2 _ (List.getElem_mem hlt)
    obtain ⟨row, hrow⟩ : ∃ row, row = l[i] := ⟨_, rfl⟩
    rw [<- hrow] at hx
    have hL2 : LenOk 8 row.length := ⟨by omega, by simp only [maxLen]; omega⟩
    refine anyQ2 fun Q => ?_
    simp [hlt, <- hrow, cP, pS, hL2, hyl, List.take_of_length_le, s100_5, ]
    rw [w_bs1 (k' := 17) (ks := []) _ _ _ (by simp) (by simp)]
    intro γ hs' h1 hg
    simp only at h1
    obtain ⟨q1, q2⟩ := gam_at hg (k := 17) (T := 3) (sz := 1) (es := row.map cI) (by simp)
    have q3 := gam_row2 hg (k := 17) (T := 3) (sz := 1) (es := row.map cI) (k2 := 25) (T2 := 28) (sz2 := 1) (es2 := ys.map (cS cI)) (by simp) (by simp)
    clear hg
    have hp : hpLL (row.map cI) = false := hpLL_mapI _
    simp [vpre, vnext, veff, vval, isPure, St.frzs, St.frz, Vs.frz, hp, hL, hwi, hyl, List.take_of_length_le]
    have hid : ∀ L : List Int, idsLL (L.map cI) = [] := fun L => by simp
    have hy : ∀ g, g ∈ idsL (cS cI (⟨γ 17, some (3, 1), row⟩ : Ints)) -> γ 17 = some g := fun g hg => by
      rw [idsL_cS] at hg
      rcases mem_sl_ids.1 hg with h | h
      · exact h
      · simp only at h; rw [hid] at h; simp at h
    have hG : Good (cS cI (⟨γ 17, some (3, 1), row⟩ : Ints)) (whS whI ⟨γ 17, some (3, 1), row⟩) B :=
      good_row (fun g hg => (q1 g hg).1) (by simpa using q2) (fun g _ => by rw [hid]; simp) ⟨by rw [hid]; simp, by rw [hid]; simp⟩ (by simp [whI])
    refine back2 (i + 1, ys ++ [⟨γ 17, some (3, 1), row⟩]) ⟨by simp only; omega, ?_, ?_, GoodL.snoc2 hI.good h1 hG (fun g hg => q3 g (hy g hg)) (fun g hg => (q1 g (hy g hg)).2)⟩ (by simp only; omega) rfl (by simp <;> omega) (by simp) (by simp [hyl, cS, dSl])
    · have := hI.pl
      simp only at this
      simp only [List.map_append, List.map_cons, List.map_nil]
      rw [this, List.take_succ_eq_append_getElem hlt, <- hrow]
      simp [plS]
    · intro z hz
      rcases List.mem_append.1 hz with hz | hz
      · exact hI.ok z hz
      · rw [List.mem_singleton.1 hz]
        exact ⟨by simp only [maxLen]; omega, fun _ _ => trivial⟩
  · have hall := hI.all (by omega)
    simp [hlt, hyl, s100_5, ]
    intro γ hs' h1 hg
    obtain ⟨q1, q2⟩ := gam_at hg (k := 25) (T := 28) (sz := 1) (es := ys.map (cS cI)) (by simp)
    have q3 := gam_row hg (k := 25) (T := 28) (sz := 1) (es := ys.map (cS cI)) (by simp)
    clear hg
    have hp : hpLL (ys.map (cS cI)) = false := hpLL_mapS ys
    simp [hp, hyl, List.take_of_length_le]
    refine ⟨⟨ar, ⟨γ 25, some (28, 1), ys⟩⟩, by simp [cReln, cI, cS, dSl, hyl, List.take_of_length_le], by simp [plReln, plS, hall], ⟨trivial, ⟨by simp only [maxLen]; show ys.length <= _; omega, hI.ok⟩⟩, fun _ _ => rfl, good_Reln (good_row (fun g hg => (q1 g hg).1) (by simpa using q2) q3 ⟨hI.good.nd, hI.good.lo⟩ hI.good.wh) (Nat.le_refl _)⟩
end
end Go.Proofs.YtmgphabeodaokaaGreat
namespace Go.Proofs.YtmgphabeodaokaaGreat
open Go.Vs Go.Proofs Go
set_option maxRecDepth 100000
set_option maxHeartbeats 1000000
theorem e_spec_NewRelation (ar : Int) (l : List (List Int)) (hb : l.length <= 4294967296) (hn : ∀ x ∈ l, x.length <= 4294967296) : VC Tryz.prog 102 [.d (.int .i64 ar), .d (pS (cP cI) l)]
   (fun n v => ∃ y : Reln, v = .tup [.agg ((cReln y).map V.d), .d (.bool (newB ar l))] /\ plReln y = newR ar l /\ okReln y /\ (∀ g, y.rows.id = some g -> y.rows.T = some (28, 1)) /\ Good (cReln y) (whReln y) n) := by
  refine VC.of E s102 (by kernel_rfl) Tryz.func102 (by rfl) (by kernel_rfl) (by simp [Tryz.f102]) (by simp [Tryz.f102]) s102_ok fun B => ?_
  have fail : newB ar l = false -> ∃ y : Reln, V.tup [V.agg [V.d (D.int IntKind.i64 0), V.d (D.sl none none [])], V.d (D.bool false)] = .tup [.agg ((cReln y).map V.d), .d (.bool (newB ar l))] /\ plReln y = newR ar l /\ okReln y /\ (∀ g, y.rows.id = some g -> y.rows.T = some (28, 1)) /\ Good (cReln y) (whReln y) B := fun h =>
    ⟨⟨0, nilS⟩, by rw [h]; simp [cReln, cI, cS, dSl, nilS], by simp [newR, h, plReln, plI, nilS, plS], ⟨trivial, ok_nilS⟩, fun g hg => (by cases hg), good_Reln0 B⟩
  simp [Tryz.f102, pS]
  refine loop_rule (X := Nat) (fun i => i <= l.length /\ AllTo (fun r : List Int => decide ((r.length : Int) = ar) && valsOk r) l i) (fun i => [(0, .d (.int .i64 ar)), (1, .d (.pl (l.map (cP cI)))), (4, .ptr 4 0 0), (6, .d (.int .i64 i))])
    (fun i => [(4, some (.box [.d (.int .i64 0), .d (.sl none none [])]))]) (fun i => l.length - i) 0 ⟨by simp, allTo_zero⟩ (by simp) (by simp) ?_
  intro i hs t m hi hh
  by_cases hlt : i < l.length
  · have hwi := wr1 (i := i) (by omega)
    by_cases hln : (l[i].length : Int) = ar
    · simp [hlt, hln, cP, pS, ]
      refine call_f (w_spec_AreValidValues l[i]) (by simp [pS]) rfl fun hs1 hh1 => ?_
      simp at hh1
      cases hv : valsOk l[i]
      · have hbad := all_bad (p := fun r : List Int => decide ((r.length : Int) = ar) && valsOk r) hlt (by simp [hv])
        simp []
        simpa using fail (by simp [newB, hbad])
      · simp [hwi]
        exact back (i + 1) ⟨by omega, allTo_step hi.2 hlt (by simp [hv, hln])⟩ (by omega) rfl (by simp <;> omega) (by simp [cP, pS]) (by simp)
    · have hbad := all_bad (p := fun r : List Int => decide ((r.length : Int) = ar) && valsOk r) hlt (by simp [hln])
      simp [hlt, hln, cP, pS, ]
      simpa using fail (by simp [newB, hbad])
  · have hd := allTo_done hi.2 (by omega)
    have hsl := srtU_len l
    simp [hlt, ]
    refine call_p (w_spec_l5Sort _ l (Nat.le_refl _) hb) (by simp [pS]) fun hs1 hh1 _ => ?_
    simp at hh1
    simp []
    refine call_some (e_spec_l5Copy ⟨ar, srtU l⟩ (by simp; omega) (fun x hx => hn x ((srtU_mem l x).1 hx))) (by simp [eReln, pS, cI, cP]) (by simp [eReln, pS, cI, cP]) fun n2 hs2 r2 hn2 hm2 hp2 hr2 => ?_
    obtain ⟨⟨ya, ⟨yid, yT, ys⟩⟩, rfl, p2, k2, T2, G2⟩ := hp2
    simp at hn2
    have hya : ya = ar /\ ys.map (plS plI) = srtU l := by
      simp only [plReln, plS, plI, PReln.mk.injEq] at p2
      exact p2
    simp [cReln, cI, cS, dSl, ]
    refine call_f (w_spec_IsValidRelation ⟨ar, srtU l⟩) (by simp [eReln, cP, pS, cI, hya.1, <- hya.2, erLL_map (er_cS er_cI)]) rfl fun hs3 hh3 => ?_
    simp at hh3
    cases h1 : rowsOk ar (srtU l)
    · have hB : newB ar l = false := by simp [newB, h1]
      obtain ⟨y, e1, e2⟩ := fail hB
      simp []
      exact ⟨y, by simpa [cReln, cI, cS, dSl] using e1, e2⟩
    · have hB : newB ar l = true := by simp [newB, h1, hd]
      simp []
      exact ⟨⟨ya, ⟨yid, yT, ys⟩⟩, by simp [cReln, cI, cS, dSl, hB], by rw [p2, newR, if_pos hB], k2, T2, G2.le (by omega)⟩
end Go.Proofs.YtmgphabeodaokaaGreat
namespace Go.Proofs.YtmgphabeodaokaaGreat
open Go.Vs Go.Proofs Go
set_option maxRecDepth 100000
set_option maxHeartbeats 1000000
def dmB (most val : Int) (y : Reln) : Prop := (y.rows.xs.length : Int) <= most /\ ∀ r ∈ y.rows.xs, ∀ v ∈ r.xs, inV val v
structure RelC (t1 : Nat) (most val : Int) (b : Sl Int) (n : Nat) (r : V) (cs : List V) : Prop where
  ex : ∃ (c' : Nat × Int) (y : Reln), r = .agg ((cReln y).map V.d) /\ rowsOk (plReln y).ar (plReln y).rows = true /\ ((y.rows.xs.length <= 1000 /\ y.ar <= 1000) /\ dmB most val y) /\ okReln y /\ (∀ g, y.rows.id = some g -> y.rows.T = some (t1, 1)) /\ Good (cReln y) (whReln y) n /\ cs = (curD b c').map V.d /\ curO b c'
theorem newR_ok (ar : Int) (l : List (List Int)) : rowsOk (newR ar l).ar (newR ar l).rows = true := by
  unfold newR
  split
  · rename_i h
    simp only [newB, Bool.and_eq_true] at h
    exact h.2
  · decide
theorem newR_ar (ar : Int) (l : List (List Int)) (h : ar <= 1000) : (newR ar l).ar <= 1000 := by
  unfold newR
  split
  · exact h
  · simp
theorem newR_len (ar : Int) (l : List (List Int)) : (newR ar l).rows.length <= l.length := by
  unfold newR
  split
  · exact srtU_len l
  · simp
theorem newR_mem {ar : Int} {l : List (List Int)} {x : List Int} (h : x ∈ (newR ar l).rows) : x ∈ l := by
  unfold newR at h
  split at h
  · exact (srtU_mem l x).1 h
  · simp at h
@[simp] theorem startX4b (a b c d : V) (W : List Nat) (cs : List V) (B : Nat) : St.startX [a, b, c, d] W (some cs) B = ⟨B, B, W, upd (upd (upd (upd (fun _ => .tup []) 3 d) 2 c) 1 b) 0 a, upd (fun _ => none) 1000 (some (.box cs))⟩ := by
  simp only [St.startX, St.mk.injEq, true_and]
  refine ⟨?_, startX_box cs⟩
  funext i; match i with | 0 => rfl | 1 => rfl | 2 => rfl | 3 => rfl | _ + 4 => rfl
section
attribute [local simp] pS dSl cP cI cW
theorem w_spec_l5Rel (b : Sl Int) (c : Nat × Int) (ar most val : Int) (hb : b.xs.length <= 1048576) (hc : curO b c) (har : ar <= 1000) (hm : 0 <= most /\ most <= 1000) (hv : val <= 1000000000) : VX Tryz.prog 120 [] [.ptr 1000 0 0, .d (.int .i64 ar), .d (.int .i64 most), .d (.int .i64 val)] (some ((curD b c).map V.d)) (fun n r cs _ => RelC 28 most val b n r cs) := by
  refine VX.of E s120 (by kernel_rfl) Tryz.func120 (by rfl) (by kernel_rfl) (by simp [Tryz.f120]) (by simp [Tryz.f120]) s120_ok ?_ ?_ fun B hB => ?_
  · simp
  · rintro cs h
    cases h
    simp [curD]
  have hw : IntKind.i64.wrap (most + 1) = most + 1 := wrap64_of (by omega) (by omega)
  simp [Tryz.f120, curD, hw]
  refine call_cur c E32 (w_spec_l1Below b c (most + 1) hb hc (by omega)) (by simp) (by simp [curD]) (by simp) (by simp) fun r1 c1 hs1 hh1 hq1 hl1 o1 => ?_
  have hB1 : B <= hs1 := hh1
  obtain ⟨x, rfl, x0, x1, _⟩ := hq1
  have x1' := x1 (by omega)
  obtain ⟨N, rfl⟩ : ∃ N : Nat, x = N := ⟨x.toNat, by omega⟩
  simp [curD]
  refine loop_rule (X := (Nat × Int) × List (List Int) × Nat) (fun p => curO b p.1 /\ p.2.1.length + p.2.2 <= N /\ ∀ x ∈ p.2.1, x.length <= 1000 /\ ∀ v ∈ x, inV val v) (fun p => [(0, .ptr 1000 0 0), (1, .d (.int .i64 ar)), (3, .d (.int .i64 val)), (8, .ptr 8 0 0), (9, .own 13 0 p.2.1.length), (10, .d (.int .i64 p.2.2))]) (fun p => [(1000, some (.box ((curD b p.1).map V.d))), (8, some (.box [.d (.int .i64 0), .d (.sl none none [])])), (13, some (.row 28 1 (p.2.1.map (cP cI))))]) (fun p => p.2.2) (c1, [], N) ⟨o1, by simp, by simp⟩ (by simp) (by simp [curD]) ?_
  rintro ⟨c2, l, k⟩ hs t m ⟨ho, hl, hlm⟩ hh
  simp only at ho hl hlm
  cases k with
  | zero =>
    simp [curD, ]
    refine call_pq (e_spec_NewRelation ar l (by omega) (fun x hx => by have := (hlm x hx).1; omega)) (by simp [List.take_of_length_le]) fun n4 hs4 r4 hn4 hm4 hp4 hl4 => ?_
    obtain ⟨⟨ya, ⟨yid, yT, ys⟩⟩, rfl, p4, k4, T4, G4⟩ := hp4
    simp at hn4
    simp [cReln, cS, dSl, vendX, ]
    intro γ hs' h1 hg
    clear hg
    refine ⟨⟨c2, ⟨ya, ⟨yid, yT, ys⟩⟩, by simp [cReln, cS, dSl], by rw [p4]; exact newR_ok ar l, ⟨⟨by have := newR_len ar l; rw [<- p4] at this; simp [plReln, plS] at this; simp only; omega, by have := newR_ar ar l har; rw [<- p4] at this; exact this⟩, by have := newR_len ar l; rw [<- p4] at this; simp [plReln, plS] at this; simp only; omega, fun r hr v hv => by
      have h5 : plS plI r ∈ (newR ar l).rows := by rw [<- p4]; simp only [plReln, plS]; exact List.mem_map.2 ⟨r, hr, rfl⟩
      refine (hlm _ (newR_mem h5)).2 v ?_
      simpa [plS, map_plI] using hv⟩, k4, T4, G4.le (by omega), by simp [curD], ho⟩⟩
  | succ k =>
  obtain ⟨u, hu⟩ : ∃ u : Nat, u = k + 1 := ⟨_, rfl⟩
  have hup : 0 < u := by omega
  have hwm : IntKind.i64.wrap ((u : Int) - 1) = k := by rw [wrap64_of (by omega) (by omega)]; omega
  have hL : LenOk 24 (l.length + 1) := ⟨by omega, by simp only [maxLen]; omega⟩
  rw [<- hu] at hl ⊢
  simp [hup, curD, ]
  refine call_cur c2 E137 (w_spec_l4Row b c2 ar val hb ho har hv) (by simp) (by simp [curD]) (by simp) (by simp) fun r3 c3 hs3 hh3 hq3 hl3 o3 => ?_
  obtain ⟨row, rfl, hrow, hrv⟩ := hq3
  simp [hL, hwm, curD, List.take_of_length_le, ]
  refine back (c3, l ++ [row], k) ⟨o3, by simp; omega, fun x hx => ?_⟩ (by simp only; omega) rfl (by simp <;> omega) (by simp) (by simp [curD])
  rcases List.mem_append.1 hx with hx | hx
  · exact hlm x hx
  · rw [List.mem_singleton.1 hx]; exact ⟨by omega, hrv⟩
end
theorem call_curK {P : Program} {E : Md} {args : List Operand} {f : FuncId} {rest As : List V} {k : Nat} {dst : Option Tmp} {K : St -> Prop} {σ : St} {b : Sl Int} {q : V -> Prop} (c : Nat × Int) (hE : E f = true)
    (hc : VX P f [] (.ptr 1000 0 0 :: As) (some ((curD b c).map V.d)) (fun _ r cs _ => CurP b q r cs)) (hvs : args.map σ.ev = .ptr k 0 0 :: rest) (hm : σ.m k = some (.box ((curD b c).map V.d)))
    (hr : rpL σ.m rest = some As)
    (hK : ∀ r c' hs', σ.hs <= hs' -> q r -> r.ln -> curO b c' -> K ({ (σ.frps (keysVL rest)) with hs := hs', m := upd (σ.frps (keysVL rest)).m k (some (.box ((curD b c').map V.d))) }.put dst r)) : vcallA P E f args (.ptr k 0 0 :: rest) dst K σ := by
  refine call_xt hE hvs hm hr (by simp [curD, dSl]) hc fun r cs' ws n hs' h1 h2 h3 h4 h5 => ?_
  obtain ⟨c', hq, rfl, ho⟩ := h3.ex
  have : keysVL rest ++ keysVL ((curD b c).map V.d) = keysVL rest := by simp [curD]
  rw [this]
  exact hK r c' hs' (Nat.le_trans h1 h2) hq h4 ho
theorem call_rel {P : Program} {t1 : Nat} {most val : Int} {E : Md} {args : List Operand} {f : FuncId} {rest As : List V} {k : Nat} {dst : Option Tmp} {K : St -> Prop} {σ : St} {b : Sl Int} (c : Nat × Int) (hE : E f = true)
    (hc : VX P f [] (.ptr 1000 0 0 :: As) (some ((curD b c).map V.d)) (fun n r cs _ => RelC t1 most val b n r cs)) (hvs : args.map σ.ev = .ptr k 0 0 :: rest) (hm : σ.m k = some (.box ((curD b c).map V.d)))
    (hr : rpL σ.m rest = some As) (hk : keysVL rest = [])
    (hK : ∀ (y : Reln) c' n hs', σ.hs <= n -> n <= hs' -> rowsOk (plReln y).ar (plReln y).rows = true -> ((y.rows.xs.length <= 1000 /\ y.ar <= 1000) /\ dmB most val y) -> okReln y -> (∀ g, y.rows.id = some g -> y.rows.T = some (t1, 1)) -> Good (cReln y) (whReln y) n -> (∀ g ∈ idsL (cReln y), g < hs') -> curO b c' -> K ({ σ with hs := hs', m := upd σ.m k (some (.box ((curD b c').map V.d))) }.put dst (.agg ((cReln y).map V.d)))) : vcallA P E f args (.ptr k 0 0 :: rest) dst K σ := by
  refine call_xi hE hvs hm hr (by simp [curD, dSl]) hc fun r cs' ws n hs' h1 h2 h3 h4 h5 h9 => ?_
  obtain ⟨c', y, rfl, h6, hln, h7, hT, h8, rfl, ho⟩ := h3.ex
  have : keysVL rest ++ keysVL ((curD b c).map V.d) = [] := by rw [hk]; simp [curD]
  rw [this]
  exact hK y c' n hs' h1 h2 h6 hln h7 hT h8 (fun g hg => h9 g (by rw [ids_agg]; exact hg)) ho
theorem tkLL_mapW (l : List Int) : tkLL (l.map cW) = true := by
  induction l with
  | nil => rfl
  | cons x r ih => simp only [List.map_cons, tkLL, ih, cW]; simp [tkL, D.tk]
end Go.Proofs.YtmgphabeodaokaaGreat
namespace Go.Proofs.YtmgphabeodaokaaGreat
open Go.Vs Go.Proofs Go
set_option maxRecDepth 100000
set_option maxHeartbeats 1000000
structure RowC (b : Sl Int) (k most : Int) (n : Nat) (r : V) (cs : List V) : Prop where
  ex : ∃ (c' : Nat × Int) (s : Sl Int), r = .d (dSl cI s) /\ ((s.xs.length : Int) <= max k 0 /\ ∀ x ∈ s.xs, inV most x) /\ (∀ g, s.id = some g -> n <= g) /\ cs = (curD b c').map V.d /\ curO b c'
theorem call_row {P : Program} {E : Md} {args : List Operand} {f : FuncId} {rest As : List V} {k : Nat} {dst : Option Tmp} {K : St -> Prop} {σ : St} {b : Sl Int} {m most : Int} (c : Nat × Int) (hE : E f = true)
    (hc : VX P f [] (.ptr 1000 0 0 :: As) (some ((curD b c).map V.d)) (fun n r cs _ => RowC b m most n r cs)) (hvs : args.map σ.ev = .ptr k 0 0 :: rest) (hm : σ.m k = some (.box ((curD b c).map V.d)))
    (hr : rpL σ.m rest = some As) (hk : keysVL rest = [])
    (hK : ∀ (s : Sl Int) c' n hs', σ.hs <= n -> n <= hs' -> ((s.xs.length : Int) <= max m 0 /\ ∀ x ∈ s.xs, inV most x) -> (∀ g, s.id = some g -> n <= g /\ g < hs') -> curO b c' -> K ({ σ with hs := hs', m := upd σ.m k (some (.box ((curD b c').map V.d))) }.put dst (.d (dSl cI s)))) : vcallA P E f args (.ptr k 0 0 :: rest) dst K σ := by
  refine call_xi hE hvs hm hr (by simp [curD, dSl]) hc fun r cs' ws n hs' h1 h2 h3 h4 h5 h9 => ?_
  obtain ⟨c', s, rfl, h6, h7, rfl, ho⟩ := h3.ex
  have : keysVL rest ++ keysVL ((curD b c).map V.d) = [] := by rw [hk]; simp [curD]
  rw [this]
  exact hK s c' n hs' h1 h2 h6 (fun g hg => ⟨h7 g hg, h9 g (mem_sl_ids.2 (.inl hg))⟩) ho
def insOk (r : PReln) (row : List Int) : Bool := rowsOk r.ar r.rows && decide ((row.length : Int) = r.ar) && valsOk row && !placeB r.rows row && !decide (r.rows.length = 4000)
def insP (r : PReln) (row : List Int) : PReln := if insOk r row then ⟨r.ar, r.rows.take (placeK r.rows row) ++ row :: r.rows.drop (placeK r.rows row)⟩ else r
section
attribute [local simp] pS dSl cP cI cW
theorem t_spec_l4Row (b : Sl Int) (c : Nat × Int) (n most : Int) (hb : b.xs.length <= 1048576) (hc : curO b c) (hn : n <= 1000) (hm : most <= 1000000000) : VX Tryz.prog 137 [] [.ptr 1000 0 0, .d (.int .i64 n), .d (.int .i64 most)] (some ((curD b c).map V.d)) (fun m r cs _ => RowC b n most m r cs) := by
  refine VX.of E s137 (by kernel_rfl) Tryz.func137 (by rfl) (by kernel_rfl) (by simp [Tryz.f137]) (by simp [Tryz.f137]) s137_ok ?_ ?_ fun B hB => ?_
  · simp
  · rintro cs h
    cases h
    simp [curD]
  simp [Tryz.f137, curD]
  refine loop_rule (X := (Nat × Int) × List Int) (fun p => curO b p.1 /\ (p.2.length : Int) <= max n 0 /\ ∀ x ∈ p.2, inV most x) (fun p => [(0, .ptr 1000 0 0), (1, .d (.int .i64 n)), (2, .d (.int .i64 most)), (7, .own 8 0 p.2.length)]) (fun p => [(1000, some (.box ((curD b p.1).map V.d))), (8, some (.row 3 1 (p.2.map cI)))]) (fun p => 1000 - p.2.length) (c, []) ⟨hc, by simp; omega, by simp⟩ (by simp) (by simp [curD]) ?_
  rintro ⟨c1, l⟩ hs t m ⟨ho, hl, hlv⟩ hh
  simp only at ho hl hlv
  by_cases hlt : (l.length : Int) < n
  · have hL : LenOk 8 (l.length + 1) := ⟨by omega, by simp only [maxLen]; omega⟩
    simp [hlt, curD, ]
    refine call_cur c1 E32 (w_spec_l1Below b c1 most hb ho hm) (by simp) (by simp [curD]) (by simp) (by simp) fun r1 c2 hs1 hh1 hq1 hl1 o1 => ?_
    obtain ⟨x, rfl, x0, x1, _⟩ := hq1
    simp [hlt, hL, curD, ]
    exact back (c2, l ++ [x]) ⟨o1, by simp; omega, fun y hy => (List.mem_append.1 hy).elim (hlv y) fun h => by rw [List.mem_singleton.1 h]; exact ⟨x0, x1⟩⟩ (by simp; omega) rfl (by simp <;> omega) (by simp) (by simp [curD])
  · simp [hlt, curD, vendX, ]
    intro γ hs' h1 hg
    obtain ⟨q1, q2⟩ := gam_at hg (k := 8) (T := 3) (sz := 1) (es := l.map cI) (by simp)
    clear hg
    exact ⟨⟨c1, ⟨γ 8, some (3, 1), l⟩, by simp [List.take_of_length_le], ⟨hl, hlv⟩, fun g hg => (q1 g hg).1, by simp [curD], ho⟩⟩
theorem w_spec_InsertRow (r : PReln) (row : List Int) (hb : r.rows.length <= 4294967296) (hb2 : ∀ x ∈ r.rows, x.length <= 4294967296) (hb3 : row.length <= 4294967296) : VC Tryz.prog 121 [.agg ((eReln r).map V.d), .d (pS cI row)] (fun _ v => v = .tup [.agg ((eReln (insP r row)).map V.d), .d (.bool (insOk r row))]) := by
  obtain ⟨ar, l⟩ := r
  simp only at hb hb2
  refine VC.ofL EP s121 (by kernel_rfl) Tryz.func121 (by rfl) (by kernel_rfl) (by simp [Tryz.f121]) (by simp [Tryz.f121]) s121_ok fun B hl => ?_
  simp [Tryz.f121, s121_7, s121_7, eReln]
  refine call_p (w_spec_l5Copy ⟨ar, l⟩ hb hb2) (by simp [eReln]) fun hs1 hh1 hl1 => ?_
  simp at hh1
  simp [eReln, s121_7, ]
  refine call_f (w_spec_IsValidRelation ⟨ar, l⟩) (by simp [eReln]) rfl fun hs2 hh2 => ?_
  simp at hh2
  have hno : insOk ⟨ar, l⟩ row = false -> insP ⟨ar, l⟩ row = ⟨ar, l⟩ := fun h => by rw [insP, h]; rfl
  cases h1 : rowsOk ar l
  · have h0 : insOk ⟨ar, l⟩ row = false := by simp [insOk, h1]
    simp [hno h0, h0, eReln, s121_7, ]
  by_cases h2 : (row.length : Int) = ar
  case neg =>
    have h0 : insOk ⟨ar, l⟩ row = false := by simp [insOk, h2]
    simp [hno h0, h0, h2, eReln, s121_7, ]
  simp [h2, eReln, s121_7, ]
  refine call_f (w_spec_AreValidValues row) (by simp) rfl fun hs3 hh3 => ?_
  simp at hh3
  cases h3 : valsOk row
  · have h0 : insOk ⟨ar, l⟩ row = false := by simp [insOk, h3]
    simp [hno h0, h0, h2, eReln, s121_7, ]
  simp [h2, eReln, s121_7, ]
  refine call_f (w_spec_l5Place ⟨ar, l⟩ row hb) (by simp [eReln]) rfl fun hs4 hh4 => ?_
  simp at hh4
  have hll := rowsOk_len h1
  have hk := placeK_le l row
  cases h4 : placeB l row
  case true =>
    have h0 : insOk ⟨ar, l⟩ row = false := by simp [insOk, h4]
    simp [hno h0, h0, eReln, s121_7, ]
  by_cases h5 : l.length = 4000
  · have h0 : insOk ⟨ar, l⟩ row = false := by simp [insOk, h5]
    simp [hno h0, h0, h5, eReln, s121_7, ]
  have h5' : ¬ (l.length : Int) = 4000 := by omega
  have h0 : insOk ⟨ar, l⟩ row = true := by simp [insOk, h1, h2, h3, h4, h5]
  obtain ⟨k, hkk⟩ : ∃ k, k = placeK l row := ⟨_, rfl⟩
  rw [<- hkk] at hk
  have L0 : LenOk 8 row.length := ⟨by omega, by simp only [maxLen]; omega⟩
  have L1 : LenOk 24 (1 + (l.length - k)) := ⟨by omega, by simp only [maxLen]; omega⟩
  have L2 : LenOk 24 k := ⟨by omega, by simp only [maxLen]; omega⟩
  have L3 : LenOk 24 (k + (1 + (l.length - k))) := ⟨by omega, by simp only [maxLen]; omega⟩
  have hmn : min k l.length = k := by omega
  have a2 : 1 + (l.length - k) = l.length - k + 1 := by omega
  have hP : insP ⟨ar, l⟩ row = ⟨ar, l.take k ++ row :: l.drop k⟩ := by rw [insP, if_pos h0, <- hkk]
  rw [a2] at L1 L3
  simp [h5', a2, hP, h0, <- hkk, hk, L0, L1, L2, L3, hmn, eReln, <- List.map_take, <- List.map_drop, List.take_of_length_le, s121_7, ]
end
end Go.Proofs.YtmgphabeodaokaaGreat
namespace Go.Proofs.YtmgphabeodaokaaGreat
open Go.Vs Go.Proofs Go
set_option maxRecDepth 100000
set_option maxHeartbeats 1000000
def bdR (y : Reln) : Prop := y.rows.xs.length <= 5000 /\ (∀ r ∈ y.rows.xs, r.xs.length <= 2000) /\ y.ar <= 1001
def goodV (v : Int) : Prop := (0 <= v /\ v <= 5) \/ v < 0 \/ 99 <= v
def dmA (y : Reln) : Prop := y.rows.xs.length <= 9 /\ ∀ r ∈ y.rows.xs, ∀ v ∈ r.xs, goodV v
theorem dmA_of {most val : Int} {y : Reln} (h : dmB most val y) (h1 : most <= 9) (h2 : 0 < val /\ val <= 6) : dmA y := by
  refine ⟨by have := h.1; omega, fun r hr v hv => .inl ?_⟩
  have := h.2 r hr v hv
  exact ⟨this.1, by have := this.2 h2.1; omega⟩
structure RelA (b : Sl Int) (n : Nat) (r : V) (cs : List V) : Prop where
  ex : ∃ (c' : Nat × Int) (y : Reln), r = .agg ((cReln y).map V.d) /\ ((bdR y /\ dmA y) /\ ∀ g ∈ idsL (cReln y), n <= g) /\ okReln y /\ cs = (curD b c').map V.d /\ curO b c'
theorem call_relA {P : Program} {E : Md} {args : List Operand} {f : FuncId} {rest As : List V} {k : Nat} {dst : Option Tmp} {K : St -> Prop} {σ : St} {b : Sl Int} (c : Nat × Int) (hE : E f = true)
    (hc : VX P f [] (.ptr 1000 0 0 :: As) (some ((curD b c).map V.d)) (fun n r cs _ => RelA b n r cs)) (hvs : args.map σ.ev = .ptr k 0 0 :: rest) (hm : σ.m k = some (.box ((curD b c).map V.d)))
    (hr : rpL σ.m rest = some As) (hk : keysVL rest = [])
    (hK : ∀ (y : Reln) c' n hs', σ.hs <= n -> n <= hs' -> (bdR y /\ dmA y) -> (∀ g ∈ idsL (cReln y), n <= g) -> okReln y -> curO b c' -> K ({ σ with hs := hs', m := upd σ.m k (some (.box ((curD b c').map V.d))) }.put dst (.agg ((cReln y).map V.d)))) : vcallA P E f args (.ptr k 0 0 :: rest) dst K σ := by
  refine call_xt hE hvs hm hr (by simp [curD, dSl]) hc fun r cs' ws n hs' h1 h2 h3 h4 h5 => ?_
  obtain ⟨c', y, rfl, h6, h7, rfl, ho⟩ := h3.ex
  have : keysVL rest ++ keysVL ((curD b c).map V.d) = [] := by rw [hk]; simp [curD]
  rw [this]
  exact hK y c' n hs' h1 h2 h6.1 h6.2 h7 ho
theorem ids_rel {y : Reln} {g : Nat} : g ∈ idsL (cReln y) ↔ y.rows.id = some g \/ g ∈ idsLL (y.rows.xs.map (cS cI)) := by
  rw [cReln, idsL_app, List.mem_append, idsL_cS, mem_sl_ids]
  constructor
  · rintro (h | h)
    · simp [cI, idsL, D.ids] at h
    · exact h
  · exact .inr
section
attribute [local simp] pS dSl cP cI cW
theorem w_spec_l5Any (b : Sl Int) (c : Nat × Int) (hb : b.xs.length <= 1048576) (hc : curO b c) : VX Tryz.prog 123 [] [.ptr 1000 0 0] (some ((curD b c).map V.d)) (fun n r cs _ => RelA b n r cs) := by
  refine VX.of E s123 (by kernel_rfl) Tryz.func123 (by rfl) (by kernel_rfl) (by simp [Tryz.f123]) (by simp [Tryz.f123]) s123_ok ?_ ?_ fun B hB => ?_
  · simp
  · rintro cs h
    cases h
    simp [curD]
  simp [Tryz.f123, s123_6, s123_9, s123_6, s123_9, curD]
  refine call_cur c E32 (w_spec_l1Below b c 4 hb hc (by omega)) (by simp) (by simp [curD]) (by simp) (by simp) fun r0 c0 hs0 hh0 hq0 hl0 o0 => ?_
  obtain ⟨x, rfl, x0, x1, _⟩ := hq0
  have x1 := x1 (by omega)
  simp [s123_6, s123_9, curD]
  refine call_rel c0 E120 (w_spec_l5Rel b c0 x 6 4 hb o0 (by omega) (by omega) (by omega)) (by simp) (by simp [curD]) (by simp) (by simp) fun y c1 n1 hs1 hn1 hm1 hy1 ly1 ky1 Ty1 Gy1 Iy1 o1 => ?_
  obtain ⟨ya, ⟨rid, rT, rx⟩⟩ := y
  have hB1 : B <= n1 := by simp at hn1 hh0; omega
  have hrow := rowsOk_row hy1
  have hmem := fun (r : Ints) (hr : r ∈ rx) => rowsOk_mem hy1 (x := plS plI r) (by simp only [plReln, plS]; exact List.mem_map.2 ⟨r, hr, rfl⟩)
  have har : 0 <= ya /\ ya <= 5 := by
    have := rowsOk_inR hy1
    simp only [inR, Bool.and_eq_true, decide_eq_true_eq] at this
    exact this
  have hr5 : ∀ r ∈ rx, (r.xs.length : Int) = ya := fun r hr => by
    have := (hmem r hr).1
    simpa [plReln, plS] using this
  simp only at ly1
  refine forgetG [(0, .ptr 1000 0 0), (2, .ptr 2 0 0), (7, .agg ((cReln ⟨ya, ⟨rid, rT, rx⟩⟩).map V.d))] [(1000, some (.box ((curD b c1).map V.d))), (2, some (.box [.d (.int .i64 0), .d (.sl none none [])]))] (by simp) (by simp [curD]) fun t m => ?_
  simp [cReln, curD, cS, s123_6, s123_9, ]
  refine call_cur c1 E32 (w_spec_l1Below b c1 14 hb o1 (by omega)) (by simp) (by simp [curD]) (by simp) (by simp) fun r2 c2 hs2 hh2 hq2 hl2 o2 => ?_
  obtain ⟨u, rfl, u0, u1, _⟩ := hq2
  have hB2 : n1 <= hs2 := by simp at hh2; omega
  refine forgetG [(0, .ptr 1000 0 0), (2, .ptr 2 0 0), (3, .ptr 3 0 0), (9, .d (.int .i64 u))] [(1000, some (.box ((curD b c2).map V.d))), (2, some (.box [.d (.int .i64 0), .d (.sl none none [])])), (3, some (.box ((cReln ⟨ya, ⟨rid, rT, rx⟩⟩).map V.d)))] (by simp) (by simp [curD, cReln, cS]) fun t m => ?_
  have dm6 : rx.length <= 6 /\ ∀ r ∈ rx, ∀ v ∈ r.xs, goodV v := ⟨by have := ly1.2.1; simp only at this; omega, (dmA_of ly1.2 (by omega) (by omega)).2⟩
  have fin : bdR ⟨ya, ⟨rid, rT, rx⟩⟩ /\ dmA ⟨ya, ⟨rid, rT, rx⟩⟩ := ⟨⟨by simp only; omega, fun r hr => by have := hr5 r hr; omega, by simp only; omega⟩, by have := dm6.1; simp only; omega, dm6.2⟩
  have hlo : ∀ (v : Int), ∀ g ∈ idsL (cReln ⟨v, ⟨rid, rT, rx⟩⟩), B <= g := fun v g hg => by
    have := Gy1.lo g (ids_rel.2 (ids_rel.1 hg : rid = some g \/ g ∈ idsLL (rx.map (cS cI))))
    omega
  by_cases e0 : u = 0
  · subst e0
    have hw : IntKind.i64.wrap (ya + 1) = ya + 1 := wrap64_of (by omega) (by omega)
    simp [cReln, curD, cS, hw, s123_6, s123_9, ]
    refine call_curK c2 E135 (w_spec_l1PickInt b c2 [-1, 6, ya + 1] hb o2 (by simp) (by simp)) (by simp) (by simp [curD]) (by simp) fun r3 c3 hs3 hh3 hq3 hl3 o3 => ?_
    obtain ⟨v, rfl, hv⟩ := hq3
    simp only [List.mem_cons, List.not_mem_nil, or_false] at hv
    simp [cReln, curD, cS, vendX, s123_6, s123_9, ]
    intro γ hs' h1 hg
    clear hg
    exact ⟨⟨c3, ⟨v, ⟨rid, rT, rx⟩⟩, by simp [cReln, cS], ⟨⟨⟨fin.1.1, fin.1.2.1, by simp only; omega⟩, fin.2.1, fin.2.2⟩, hlo v⟩, ⟨trivial, ky1.2⟩, by simp [curD], o3⟩⟩
  by_cases e1 : u = 1
  · subst e1
    have hmx : (if 0 < ya then ya else 0) = ya := by split <;> omega
    simp [cReln, curD, cS, hmx, s123_6, s123_9, ]
    repeat' apply And.intro
    all_goals
      refine call_row c2 E137 (t_spec_l4Row b c2 ya 4 hb o2 (by omega) (by omega)) (by simp) (by simp [curD]) (by simp) (by simp) fun row c3 n3 hs3 hn3 hm3 hrow hrid o3 => ?_
      have hn3 : hs2 <= n3 := hn3
      obtain ⟨wid, wT, wx⟩ := row
      obtain ⟨hrow, hrv⟩ := hrow
      simp only at hrow hrid hrv
      have hrg : ∀ v ∈ wx, goodV v := fun v hv => .inl ⟨(hrv v hv).1, by have := (hrv v hv).2 (by omega); omega⟩
      have L0 : LenOk 24 1 := ⟨by omega, by simp only [maxLen]; omega⟩
      cases rid with
      | none =>
        have h0 : rx = [] := Gy1.wh.2.1.nil rfl
        subst h0
        cases rT
        all_goals
          simp [cReln, curD, cS, L0, vendX, s123_6, s123_9, ]
          intro γ hs' h1 hg
          obtain ⟨q1, q2⟩ := gam_at hg (k := 29) (T := 28) (sz := 1) (es := [[D.sl wid wT (wx.map cI)]]) (by simp)
          clear hg
          exact ⟨⟨c3, ⟨ya, ⟨γ 29, some (28, 1), [(⟨wid, wT, wx⟩ : Sl Int)]⟩⟩, by simp [cReln, cS], ⟨⟨⟨by simp, fun r hr => by rw [List.mem_singleton.1 hr]; simp only; omega, by simp only; omega⟩, by simp, fun r hr => by rw [List.mem_singleton.1 hr]; exact hrg⟩, fun g hg => by
            rcases ids_rel.1 hg with h | h
            · exact (q1 g h).1
            · rcases mem_sl_ids.1 (show g ∈ (dSl cI (⟨wid, wT, wx⟩ : Sl Int)).ids by simpa [idsLL, idsL_cS] using h) with h | h
              · have := (hrid g h).1; omega
              · simp at h⟩, ⟨trivial, ⟨by simp [maxLen], fun r hr => by rw [List.mem_singleton.1 hr]; exact ⟨by simp only [maxLen]; omega, fun _ _ => trivial⟩⟩⟩, by simp [curD], o3⟩⟩
      | some gr =>
        obtain rfl : rT = some (28, 1) := Ty1 gr rfl
        have G0 := Gy1.nd
        simp only [cReln, idsL_app, idsL_cS] at G0
        have hrB : B <= gr := by
          have := Gy1.lo gr (by simp only [cReln, idsL_app, idsL_cS, List.mem_append]; exact .inr (mem_slids (s := (⟨some gr, some (28, 1), rx⟩ : Sl Ints)) rfl))
          omega
        have hrs : gr < hs1 := Iy1 gr (by simp only [cReln, idsL_app, idsL_cS, List.mem_append]; exact .inr (mem_slids (s := (⟨some gr, some (28, 1), rx⟩ : Sl Ints)) rfl))
        have hs12 : hs1 <= hs2 := by simpa using hh2
        have f1 : gr ∉ idsLL (rx.map (cS cI)) := by
          have := (List.nodup_append.1 G0).2.1
          simp only [dSl, D.ids, Option.toList] at this
          exact (List.nodup_cons.1 this).1
        have hw0 : gr ∉ (D.sl wid wT (wx.map cI)).ids := fun h => by
          rcases mem_sl_ids.1 (show gr ∈ (dSl cI (⟨wid, wT, wx⟩ : Sl Int)).ids from h) with h | h
          · have := (hrid gr h).1; omega
          · simp at h
        have f0 : gr ∉ idsLL [[D.sl wid wT (wx.map cI)]] := fun h => hw0 (by simpa [idsLL, idsL] using h)
        have kr : ∀ i, i ≠ gr -> kphi (some gr) i = none := fun i hi => by simp only [kphi]; rw [if_neg (by simpa using Ne.symm hi)]
        have c1' : reV (kphi (some gr)) (.d (.sl b.id b.T (b.xs.map cW))) = .d (.sl b.id b.T (b.xs.map cW)) := reV_id _ (fun j hj => kr j fun e => by
          have := hB j (.inr (by simpa [curD] using hj))
          omega) (by simp [tkLL_mapW])
        have eR : reLL (kphi (some gr)) (rx.map (cS cI) ++ [[D.sl wid wT (wx.map cI)]]) = some (rx.map (cS cI) ++ [[D.sl wid wT (wx.map cI)]]) := by
          have e : rx.map (cS cI) ++ [[D.sl wid wT (wx.map cI)]] = (rx ++ [(⟨wid, wT, wx⟩ : Sl Int)]).map (cS cI) := by simp [cS, dSl]
          rw [e]
          refine reLL_id _ (ht := tkLL_map _ (by simp)) fun k hk => kr k fun e => ?_
          rw [List.map_append, idsLL_append] at hk
          rcases List.mem_append.1 hk with h | h
          · exact f1 (e ▸ h)
          · exact f0 (e ▸ h)
        have L1 : LenOk 24 (rx.length + 1) := ⟨by omega, by simp only [maxLen]; omega⟩
        simp [cReln, curD, cS, St.kill, hrB, f0, f1, L1, eR, c1', vendX, List.take_of_length_le, s123_6, s123_9, ]
        intro γ hs' h1 hg
        obtain ⟨q1, q2⟩ := gam_at hg (k := 29) (T := 28) (sz := 1) (es := rx.map (cS cI) ++ [[D.sl wid wT (wx.map cI)]]) (by simp)
        clear hg
        exact ⟨⟨c3, ⟨ya, ⟨γ 29, some (28, 1), rx ++ [(⟨wid, wT, wx⟩ : Sl Int)]⟩⟩, by simp [cReln, cS, List.take_of_length_le], ⟨⟨⟨by simp; omega, fun r hr => by
          rcases List.mem_append.1 hr with hr | hr
          · have := hr5 r hr; omega
          · rw [List.mem_singleton.1 hr]; simp only; omega, by simp only; omega⟩, by have := dm6.1; simp; omega, fun r hr => by
          rcases List.mem_append.1 hr with hr | hr
          · exact dm6.2 r hr
          · rw [List.mem_singleton.1 hr]; exact hrg⟩, fun g hg => by
          rcases ids_rel.1 hg with h | h
          · exact (q1 g h).1
          · simp only [List.map_append, idsLL_append] at h
            rcases List.mem_append.1 h with h | h
            · exact hlo ya g (ids_rel.2 (.inr h))
            · rcases mem_sl_ids.1 (show g ∈ (dSl cI (⟨wid, wT, wx⟩ : Sl Int)).ids by simpa [idsLL, idsL_cS] using h) with h | h
              · have := (hrid g h).1; omega
              · simp at h⟩, ⟨trivial, ⟨by simp only [maxLen, List.length_append, List.length_cons, List.length_nil]; omega, fun r hr => by
          rcases List.mem_append.1 hr with hr | hr
          · exact ky1.2.2 r hr
          · rw [List.mem_singleton.1 hr]; exact ⟨by simp only [maxLen]; omega, fun _ _ => trivial⟩⟩⟩, by simp [curD], o3⟩⟩
  by_cases e2 : u = 2
  · subst e2
    by_cases hrx : rx = []
    · subst hrx
      simp [cReln, curD, cS, vendX, s123_6, s123_9, ]
      intro γ hs' h1 hg
      clear hg
      exact ⟨⟨c2, ⟨ya, ⟨rid, rT, []⟩⟩, by simp [cReln, cS], ⟨fin, hlo ya⟩, ky1, by simp [curD], o2⟩⟩
    obtain ⟨w0, rx', rfl⟩ := List.exists_cons_of_ne_nil hrx
    by_cases hya : 0 < ya
    · obtain ⟨wid, wT, wx⟩ := w0
      have hwl : (wx.length : Int) = ya := hr5 (⟨wid, wT, wx⟩ : Sl Int) (by simp)
      have hw0 : 0 < wx.length := by omega
      obtain ⟨g0, hg0, T', hT'⟩ := (Sl.wh.id (s := (⟨wid, wT, wx⟩ : Sl Int)) (Gy1.wh.2.2 (⟨wid, wT, wx⟩ : Sl Int) (by simp)).1 hw0)
      simp only at hg0 hT'
      subst hg0 hT'
      have G0 := Gy1.nd
      simp only [cReln, idsL_app, idsL_cS] at G0
      have hin : g0 ∈ idsLL (((⟨some g0, some T', wx⟩ : Sl Int) :: rx').map (cS cI)) := by
        simp only [List.map_cons, idsLL, idsL_cS, List.mem_append]
        exact .inl (mem_slids (s := (⟨some g0, some T', wx⟩ : Sl Int)) rfl)
      have hgB : B <= g0 := by
        have := Gy1.lo g0 (by simp only [cReln, idsL_app, idsL_cS, dSl, D.ids, List.mem_append]; exact .inr (.inr hin))
        omega
      have G1 := (List.nodup_append.1 G0).2.1
      simp only [dSl, D.ids] at G1
      have hout : ∀ g, rid = some g -> g ≠ g0 := fun g h e => by
        subst h e
        exact (List.nodup_cons.1 G1).1 hin
      have G2 := (List.nodup_append.1 G1).2.1
      have hrest : g0 ∉ idsLL (rx'.map (cS cI)) := fun h => by
        simp only [List.map_cons, idsLL, idsL_cS] at G2
        exact (List.nodup_append.1 G2).2.2 g0 (mem_slids (s := (⟨some g0, some T', wx⟩ : Sl Int)) rfl) g0 h rfl
      have e3 : ∀ d, reV (one g0 d) (.d (.sl b.id b.T (b.xs.map cW))) = .d (.sl b.id b.T (b.xs.map cW)) := fun d => reV_id _ (fun j hj => one_out fun e => by
        have := hB j (.inr (by simpa [curD] using hj))
        omega) (by simp [tkLL_mapW])
      have eLL : ∀ d, reLL (one g0 d) (rx'.map (cS cI)) = some (rx'.map (cS cI)) := fun d => reLL_id _ (ht := tkLL_map _ (by simp)) fun j hj => one_out fun e => hrest (e ▸ hj)
      have e4 : ∀ v, reV (one g0 (.sl (some g0) (some T') ((wx.map cI).set 0 [.int .i64 v]))) (.d (.sl rid rT ([.sl (some g0) (some T') (wx.map cI)] :: rx'.map (cS cI)))) = .d (.sl rid rT ([.sl (some g0) (some T') ((wx.map cI).set 0 [.int .i64 v])] :: rx'.map (cS cI))) := fun v => by
        have h1 : reD (one g0 (.sl (some g0) (some T') ((wx.map cI).set 0 [.int .i64 v]))) (.sl (some g0) (some T') (wx.map cI)) = some (.sl (some g0) (some T') ((wx.map cI).set 0 [.int .i64 v])) := by
          simp only [reD, one, if_true]
          rw [if_pos]
          refine ⟨trivial, rfl, trivial, ?_⟩
          refine List.ext_getElem (by simp) fun n h1 h2 => ?_
          simp only [List.getElem_map]
          by_cases hn : 0 = n
          · subst hn; simp
          · rw [List.getElem_set_ne hn, List.getElem_map]
        have h2 : reLL (one g0 (.sl (some g0) (some T') ((wx.map cI).set 0 [.int .i64 v]))) ([.sl (some g0) (some T') (wx.map cI)] :: rx'.map (cS cI)) = some ([.sl (some g0) (some T') ((wx.map cI).set 0 [.int .i64 v])] :: rx'.map (cS cI)) := by
          simp only [reLL, reL, h1, eLL]
        cases rid with
        | none => simp only [reV, reD, h2, Option.map_some]
        | some gr => simp only [reV, reD, one_out (hout gr rfl), h2, Option.map_some]
      simp [cReln, curD, cS, hya, s123_6, s123_9, ]
      repeat' apply And.intro
      all_goals
        refine call_curK c2 E135 (w_spec_l1PickInt b c2 [-1, 100, 99] hb o2 (by simp) (by simp)) (by simp) (by simp [curD]) (by simp) fun r3 c3 hs3 hh3 hq3 hl3 o3 => ?_
        obtain ⟨v, rfl, hv⟩ := hq3
        simp [cReln, curD, cS, hya, hw0, s123_6, s123_9, ]
        refine ⟨hgB, ?_⟩
        simp [-List.map_set, cS, e3, e4, vendX]
        intro γ hs' h1 hg
        clear hg
        have hidI : ∀ L : List Int, idsLL (L.map cI) = [] := fun L => by simp
        have e5 : (List.map cI wx).set 0 [D.int .i64 v] = List.map cI (wx.set 0 v) := by rw [<- set_map]; rfl
        exact ⟨⟨c3, ⟨ya, ⟨rid, rT, (⟨some g0, some T', wx.set 0 v⟩ : Sl Int) :: rx'⟩⟩, by rw [e5]; simp [cReln, cS], ⟨⟨⟨fin.1.1, fun r hr => by
          rcases List.mem_cons.1 hr with hr | hr
          · rw [hr]; simp; omega
          · exact fin.1.2.1 r (List.mem_cons_of_mem _ hr), fin.1.2.2⟩, fin.2.1, fun r hr => by
          rcases List.mem_cons.1 hr with hr | hr
          · rw [hr]; exact fun u hu => (List.mem_or_eq_of_mem_set hu).elim (dm6.2 (⟨some g0, some T', wx⟩ : Sl Int) (by simp) u) fun e => by
              rw [e]
              simp only [List.mem_cons, List.not_mem_nil, or_false] at hv
              simp only [goodV]; omega
          · exact dm6.2 r (List.mem_cons_of_mem _ hr)⟩, fun g hg => hlo ya g (by
          refine ids_rel.2 ?_
          have h := ids_rel.1 hg
          simp only [List.map_cons, idsLL, idsL_cS, List.mem_append, mem_sl_ids] at h ⊢
          rcases h with h | (h | h) | h
          · exact .inl h
          · exact .inr (.inl (.inl h))
          · rw [hidI] at h; simp at h
          · exact .inr (.inr h))⟩, ⟨trivial, ⟨ky1.2.1, fun r hr => by
          rcases List.mem_cons.1 hr with hr | hr
          · rw [hr]; exact ⟨by simp [maxLen]; omega, fun _ _ => trivial⟩
          · exact ky1.2.2 r (List.mem_cons_of_mem _ hr)⟩⟩, by simp [curD], o3⟩⟩
    · simp [cReln, curD, cS, hya, vendX, s123_6, s123_9, ]
      intro γ hs' h1 hg
      clear hg
      exact ⟨⟨c2, ⟨ya, ⟨rid, rT, w0 :: rx'⟩⟩, by simp [cReln, cS], ⟨fin, hlo ya⟩, ky1, by simp [curD], o2⟩⟩
  simp [cReln, curD, cS, vendX, e0, e1, e2, s123_6, s123_9, ]
  intro γ hs' h1 hg
  clear hg
  exact ⟨⟨c2, ⟨ya, ⟨rid, rT, rx⟩⟩, by simp [cReln, cS], ⟨fin, hlo ya⟩, ky1, by simp [curD], o2⟩⟩
end
end Go.Proofs.YtmgphabeodaokaaGreat
namespace Go.Proofs.YtmgphabeodaokaaGreat
open Go.Vs Go.Proofs Go
set_option maxRecDepth 100000
set_option maxHeartbeats 1000000
def bdT (y : Tab) : Prop := y.name.length <= 10 /\ bdR y.rel /\ dmA y.rel
def bdD (z : Db) : Prop := z.tabs.xs.length <= 10 /\ ∀ t ∈ z.tabs.xs, bdT t
structure DbC (t1 : Nat) (b : Sl Int) (n : Nat) (r : V) (cs : List V) : Prop where
  ex : ∃ (c' : Nat × Int) (z : Db), r = .agg ((cDb z).map V.d) /\ bdD z /\ okDb z /\ (z.tabs.xs.length = 5 /\ ∃ g, z.tabs.id = some g /\ n <= g /\ z.tabs.T = some (t1, 3) /\ g ∉ idsLL (z.tabs.xs.map cTab)) /\ cs = (curD b c').map V.d /\ curO b c'
theorem call_db {P : Program} {t1 : Nat} {E : Md} {args : List Operand} {f : FuncId} {rest As : List V} {k : Nat} {dst : Option Tmp} {K : St -> Prop} {σ : St} {b : Sl Int} (c : Nat × Int) (hE : E f = true)
    (hc : VX P f [] (.ptr 1000 0 0 :: As) (some ((curD b c).map V.d)) (fun n r cs _ => DbC t1 b n r cs)) (hvs : args.map σ.ev = .ptr k 0 0 :: rest) (hm : σ.m k = some (.box ((curD b c).map V.d)))
    (hr : rpL σ.m rest = some As) (hk : keysVL rest = [])
    (hK : ∀ (xs : List Tab) (g : Nat) c' n hs', σ.hs <= n -> n <= hs' -> bdD ⟨⟨some g, some (t1, 3), xs⟩⟩ -> okDb ⟨⟨some g, some (t1, 3), xs⟩⟩ -> xs.length = 5 -> n <= g -> g < hs' -> g ∉ idsLL (xs.map cTab) -> curO b c' -> K ({ σ with hs := hs', m := upd σ.m k (some (.box ((curD b c').map V.d))) }.put dst (.agg ((cDb ⟨⟨some g, some (t1, 3), xs⟩⟩).map V.d)))) : vcallA P E f args (.ptr k 0 0 :: rest) dst K σ := by
  refine call_xi hE hvs hm hr (by simp [curD, dSl]) hc fun r cs' ws n hs' h1 h2 h3 h4 h5 h9 => ?_
  obtain ⟨c', ⟨⟨id, T, xs⟩⟩, rfl, h6, h7, ⟨hl, g, rfl, hg1, rfl, hg2⟩, rfl, ho⟩ := h3.ex
  have : keysVL rest ++ keysVL ((curD b c).map V.d) = [] := by rw [hk]; simp [curD]
  rw [this]
  exact hK xs g c' n hs' h1 h2 h6 h7 hl hg1 (h9 g (by rw [ids_agg, cDb, idsL_cS]; exact mem_slids (s := (⟨some g, some (t1, 3), xs⟩ : Sl Tab)) rfl)) hg2 ho
def nms : List (List UInt8) := [[114], [115], [116], [117], [118]]
theorem nms_len : nms.length = 5 := rfl
theorem nms_one : ∀ s ∈ nms, s.length <= 10 := by decide
section
attribute [local simp] pS dSl cP cI cW
theorem w_spec_l6Db (b : Sl Int) (c : Nat × Int) (hb : b.xs.length <= 1048576) (hc : curO b c) : VX Tryz.prog 114 [] [.ptr 1000 0 0] (some ((curD b c).map V.d)) (fun n r cs _ => DbC 128 b n r cs) := by
  refine VX.of E s114 (by kernel_rfl) Tryz.func114 (by rfl) (by kernel_rfl) (by simp [Tryz.f114]) (by simp [Tryz.f114]) s114_ok ?_ ?_ fun B hB => ?_
  · simp
  · rintro cs h
    cases h
    simp [curD]
  simp [Tryz.f114, s114_13, s114_13, curD]
  refine call_curK c E135 (w_spec_l1PickInt b c [2, 3, 4, 6] hb hc (by simp) (by simp)) (by simp) (by simp [curD]) (by simp) fun r0 c0 hs0 hh0 hq0 hl0 o0 => ?_
  obtain ⟨vv, rfl, hvv⟩ := hq0
  simp only [List.mem_cons, List.not_mem_nil, or_false] at hvv
  simp [s114_13, curD]
  refine loop_ruleL (X := Nat × (Nat × Int) × List Tab) (fun p _ => p.1 <= 5 /\ p.2.2.length = p.1 /\ curO b p.2.1 /\ ∀ y ∈ p.2.2, okTab y /\ bdT y) (fun p => [(0, .ptr 1000 0 0), (2, .ptr 2 0 0), (3, .d (.int .i64 vv)), (4, .ptr 4 0 0), (13, .own 13 0 5), (14, .d (.int .i64 5)), (15, .d (.int .i64 p.1))])
    (fun p => [(1000, some (.box ((curD b p.2.1).map V.d))), (2, some (.box [.d (.sl none none [])])), (4, some (.box [.own 34 0 p.2.2.length])), (13, some (.row 9 1 (nms.map cStr))), (34, some (.row 128 3 (p.2.2.map cTab)))]) (fun p => 5 - p.1) ?_ ?_
  · refine (lead_box 4 0 34 128 3 [.d (.sl none none [])] (by omega) (by omega) (by omega) (by simp) rfl).bind ?_
    rintro _ rfl
    exact Lead.of ⟨(0, c0, []), ⟨by omega, rfl, o0, by simp⟩, rfl, rfl, Nat.le_refl _, by simp, by simp [curD, nms, cStr]⟩
  rintro ⟨i, c1, ys⟩ hs t m ⟨hi, hyl, ho, hy⟩ hh
  simp only at hi hyl ho hy
  by_cases hlt : i < 5
  · have hwi := wr1 (i := i) (by omega)
    have hin : i < nms.length := by rw [nms_len]; exact hlt
    obtain ⟨nm, hnm⟩ : ∃ nm, nm = nms[i] := ⟨_, rfl⟩
    have hnl := nms_one _ (List.getElem_mem hin)
    rw [<- hnm] at hnl
    have hL : LenOk 48 (ys.length + 1) := ⟨by omega, by simp only [maxLen]; omega⟩
    refine anyQ2 fun Q => ?_
    have hlz : (i : Int) < 5 := by omega
    by_cases hv : nm = [118]
    · simp [hlt, hlz, hin, <- hnm, hv, curD, cStr, nms_len, s114_13, ]
      refine call_curK c1 E135 (w_spec_l1PickInt b c1 [3, 6, 9] hb ho (by simp) (by simp)) (by simp) (by simp [curD]) (by simp) fun r1 c2 hs1 hh1 hq1 hl1 o1 => ?_
      obtain ⟨w, rfl, hw⟩ := hq1
      simp only [List.mem_cons, List.not_mem_nil, or_false] at hw
      have hh1' : hs <= hs1 := hh1
      simp [curD, cStr, s114_13, ]
      refine call_rel c2 E120 (w_spec_l5Rel b c2 3 w vv hb o1 (by omega) (by omega) (by omega)) (by simp) (by simp [curD]) (by simp) (by simp) fun y c3 n3 hs3 hn3 hm3 hy3 ly3 ky3 Ty3 Gy3 Iy3 o3 => ?_
      obtain ⟨ya, ⟨rid, rT, rx⟩⟩ := y
      have hn3' : hs1 <= n3 := hn3
      have hrow := rowsOk_row hy3
      have hr5 : ∀ r ∈ rx, r.xs.length <= 2000 := fun r hr => by
        have := hrow (plS plI r) (by simp only [plReln, plS]; exact List.mem_map.2 ⟨r, hr, rfl⟩)
        simp only [plS, List.length_map] at this; omega
      simp only at ly3
      have fin : bdR ⟨ya, ⟨rid, rT, rx⟩⟩ := ⟨by simp only; omega, hr5, by simp only; omega⟩
      simp [hL, hwi, cReln, cTab, cS, curD, cStr, List.take_of_length_le, s114_13, ]
      refine back2 (i + 1, c3, ys ++ [(⟨nm, ⟨ya, ⟨rid, rT, rx⟩⟩⟩ : Tab)]) ⟨by simp only; omega, by simp [hyl], o3, fun z hz => ?_⟩ (by simp only; omega) rfl (by simp <;> omega) (by simp) (by simp [curD, cTab, cStr, cReln, cS, hv])
      rcases List.mem_append.1 hz with hz | hz
      · exact hy z hz
      · rw [List.mem_singleton.1 hz]
        exact ⟨⟨show nm.length <= maxLen by simp only [maxLen]; omega, ky3⟩, hnl, fin, dmA_of ly3.2 (by omega) (by omega)⟩
    · simp [hlt, hlz, hin, <- hnm, hv, curD, cStr, nms_len, s114_13, ]
      refine call_curK c1 E135 (w_spec_l1PickInt b c1 [3, 6, 9] hb ho (by simp) (by simp)) (by simp) (by simp [curD]) (by simp) fun r1 c2 hs1 hh1 hq1 hl1 o1 => ?_
      obtain ⟨w, rfl, hw⟩ := hq1
      simp only [List.mem_cons, List.not_mem_nil, or_false] at hw
      have hh1' : hs <= hs1 := hh1
      simp [curD, cStr, s114_13, ]
      refine call_rel c2 E120 (w_spec_l5Rel b c2 2 w vv hb o1 (by omega) (by omega) (by omega)) (by simp) (by simp [curD]) (by simp) (by simp) fun y c3 n3 hs3 hn3 hm3 hy3 ly3 ky3 Ty3 Gy3 Iy3 o3 => ?_
      obtain ⟨ya, ⟨rid, rT, rx⟩⟩ := y
      have hn3' : hs1 <= n3 := hn3
      have hrow := rowsOk_row hy3
      have hr5 : ∀ r ∈ rx, r.xs.length <= 2000 := fun r hr => by
        have := hrow (plS plI r) (by simp only [plReln, plS]; exact List.mem_map.2 ⟨r, hr, rfl⟩)
        simp only [plS, List.length_map] at this; omega
      simp only at ly3
      have fin : bdR ⟨ya, ⟨rid, rT, rx⟩⟩ := ⟨by simp only; omega, hr5, by simp only; omega⟩
      simp [hL, hwi, cReln, cTab, cS, curD, cStr, List.take_of_length_le, s114_13, ]
      refine back2 (i + 1, c3, ys ++ [(⟨nm, ⟨ya, ⟨rid, rT, rx⟩⟩⟩ : Tab)]) ⟨by simp only; omega, by simp [hyl], o3, fun z hz => ?_⟩ (by simp only; omega) rfl (by simp <;> omega) (by simp) (by simp [curD, cTab, cStr, cReln, cS, hv])
      rcases List.mem_append.1 hz with hz | hz
      · exact hy z hz
      · rw [List.mem_singleton.1 hz]
        exact ⟨⟨show nm.length <= maxLen by simp only [maxLen]; omega, ky3⟩, hnl, fin, dmA_of ly3.2 (by omega) (by omega)⟩
  · have hlz : ¬ (i : Int) < 5 := by omega
    have hlz' : (5 : Int) <= i := by omega
    simp [hlt, hlz, hlz', curD, s114_13, ]
    refine call_cur c1 E106 (w_spec_l1Once b c1 8 hb ho (by omega)) (by simp) (by simp [curD]) (by simp) (by simp) fun r4 c4 hs4 hh4 hq4 hl4 o4 => ?_
    obtain ⟨u, rfl⟩ := hq4
    have hp : hpLL (ys.map cTab) = false := hpLL_map (fun a => by simp) ys
    have hy5 : ys.length = 5 := by omega
    have hyn : ys ≠ [] := fun h => by rw [h] at hy5; simp at hy5
    cases u
    · simp [curD, vendX, hp, List.take_of_length_le, s114_13, ]
      intro γ hs' h1 hg
      obtain ⟨q1, q2⟩ := gam_at hg (k := 34) (T := 128) (sz := 3) (es := ys.map cTab) (by simp)
      have q3 := gam_row hg (k := 34) (T := 128) (sz := 3) (es := ys.map cTab) (by simp)
      clear hg
      obtain ⟨g, hg⟩ := Option.ne_none_iff_exists'.1 (q2 (by simpa using hyn))
      exact ⟨⟨c4, ⟨⟨γ 34, some (128, 3), ys⟩⟩, by simp [cDb, cS, List.take_of_length_le], ⟨by simp only; omega, fun t ht => (hy t ht).2⟩, ⟨by simp only [maxLen]; show ys.length <= _; omega, fun t ht => (hy t ht).1⟩, ⟨hy5, g, hg, (q1 g hg).1, rfl, q3 g hg⟩, by simp [curD], o4⟩⟩
    · simp [curD, s114_13, ]
      repeat' apply And.intro
      all_goals
        refine call_cur c4 E32 (w_spec_l1Below b c4 5 hb o4 (by omega)) (by simp) (by simp [curD]) (by simp) (by simp) fun r5 c5 hs5 hh5 hq5 hl5 o5 => ?_
        obtain ⟨x, rfl, x0, x1, _⟩ := hq5
        have x1 := x1 (by omega)
        obtain ⟨k, rfl⟩ : ∃ k : Nat, x = k := ⟨x.toNat, by omega⟩
        have hk : k < ys.length := by omega
        obtain ⟨tk, htk⟩ : ∃ tk, tk = ys[k] := ⟨_, rfl⟩
        obtain ⟨nm, ⟨ta, tr⟩⟩ := tk
        have hl3 : (cTab ys[k]).length = 3 := by rw [<- htk]; simp [cTab, cStr, cReln, cS]
        have eSet : (ys.map cTab).set k ((cTab ys[k]).take 2 ++ D.sl none none [] :: (cTab ys[k]).drop 3) = (ys.set k (⟨nm, ⟨ta, nilS⟩⟩ : Tab)).map cTab := by
          rw [List.map_set]
          congr 1
          rw [<- htk]
          simp [cTab, cStr, cReln, cS, nilS]
        obtain ⟨zs, hzs⟩ : ∃ zs, zs = ys.set k (⟨nm, ⟨ta, nilS⟩⟩ : Tab) := ⟨_, rfl⟩
        rw [<- hzs] at eSet
        have hp' : hpLL (zs.map cTab) = false := hpLL_map (fun a => by simp) zs
        have hz5 : zs.length = ys.length := by rw [hzs]; simp
        have hzn : zs ≠ [] := fun h => by rw [h] at hz5; simp at hz5; omega
        have hyk := hy ys[k] (List.getElem_mem hk)
        have hz : ∀ z ∈ zs, okTab z /\ bdT z := fun z hz => by
          rw [hzs] at hz
          rcases List.mem_or_eq_of_mem_set hz with hz | hz
          · exact hy z hz
          · rw [hz]
            rw [<- htk] at hyk
            exact ⟨⟨hyk.1.1, ⟨trivial, ok_nilS⟩⟩, hyk.2.1, ⟨by simp [nilS], by simp [nilS], hyk.2.2.1.2.2⟩, by simp [nilS], by simp [nilS]⟩
        simp [-List.map_set, curD, hk, hl3, eSet, hp', hz5, vendX, List.take_of_length_le, s114_13, ]
        intro γ hs' h1 hg
        obtain ⟨q1, q2⟩ := gam_at hg (k := 34) (T := 128) (sz := 3) (es := zs.map cTab) (by simp)
        have q3 := gam_row hg (k := 34) (T := 128) (sz := 3) (es := zs.map cTab) (by simp)
        clear hg
        obtain ⟨g, hg⟩ := Option.ne_none_iff_exists'.1 (q2 (by simpa using hzn))
        exact ⟨⟨c5, ⟨⟨γ 34, some (128, 3), zs⟩⟩, by simp [cDb, cS, List.take_of_length_le, hz5], ⟨by simp only; omega, fun t ht => (hz t ht).2⟩, ⟨by simp only [maxLen]; show zs.length <= _; omega, fun t ht => (hz t ht).1⟩, ⟨by simp only; omega, g, hg, (q1 g hg).1, rfl, q3 g hg⟩, by simp [curD], o5⟩⟩
end
end Go.Proofs.YtmgphabeodaokaaGreat
namespace Go.Proofs.YtmgphabeodaokaaGreat
open Go.Vs Go.Proofs Go
set_option maxRecDepth 100000
set_option maxHeartbeats 1000000
structure DbA (b : Sl Int) (r : V) (cs : List V) : Prop where
  ex : ∃ (c' : Nat × Int) (z : Db), r = .agg ((cDb z).map V.d) /\ bdD z /\ okDb z /\ cs = (curD b c').map V.d /\ curO b c'
theorem call_dbA {P : Program} {E : Md} {args : List Operand} {f : FuncId} {rest As : List V} {k : Nat} {dst : Option Tmp} {K : St -> Prop} {σ : St} {b : Sl Int} (c : Nat × Int) (hE : E f = true)
    (hc : VX P f [] (.ptr 1000 0 0 :: As) (some ((curD b c).map V.d)) (fun _ r cs _ => DbA b r cs)) (hvs : args.map σ.ev = .ptr k 0 0 :: rest) (hm : σ.m k = some (.box ((curD b c).map V.d)))
    (hr : rpL σ.m rest = some As) (hk : keysVL rest = [])
    (hK : ∀ (z : Db) c' hs', σ.hs <= hs' -> bdD z -> okDb z -> curO b c' -> K ({ σ with hs := hs', m := upd σ.m k (some (.box ((curD b c').map V.d))) }.put dst (.agg ((cDb z).map V.d)))) : vcallA P E f args (.ptr k 0 0 :: rest) dst K σ := by
  refine call_xt hE hvs hm hr (by simp [curD, dSl]) hc fun r cs' ws n hs' h1 h2 h3 h4 h5 => ?_
  obtain ⟨c', y, rfl, h6, h7, rfl, ho⟩ := h3.ex
  have : keysVL rest ++ keysVL ((curD b c).map V.d) = [] := by rw [hk]; simp [curD]
  rw [this]
  exact hK y c' hs' (Nat.le_trans h1 h2) h6 h7 ho
theorem cTab_len (t : Tab) : (cTab t).length = 3 := by simp [cTab, cStr, cReln, cS, cI]
theorem re_tabs {g : Nat} {T : TypeId × Nat} {xs ys : List Tab} (h : ys.length = xs.length) : reV (one g (.sl (some g) (some T) (ys.map cTab))) (.d (.sl (some g) (some T) (xs.map cTab))) = .d (.sl (some g) (some T) (ys.map cTab)) := by
  have h1 : reD (one g (.sl (some g) (some T) (ys.map cTab))) (.sl (some g) (some T) (xs.map cTab)) = some (.sl (some g) (some T) (ys.map cTab)) := by
    simp only [reD, one, if_true]
    rw [if_pos]
    refine ⟨trivial, rfl, trivial, ?_⟩
    refine List.ext_getElem (by simp [h]) fun n h1 h2 => ?_
    simp only [List.getElem_map, cTab_len]
  simp only [reV, h1]
section
attribute [local simp] pS dSl cP cI cW
theorem w_spec_l6Any (b : Sl Int) (c : Nat × Int) (hb : b.xs.length <= 1048576) (hc : curO b c) : VX Tryz.prog 116 [] [.ptr 1000 0 0] (some ((curD b c).map V.d)) (fun _ r cs _ => DbA b r cs) := by
  refine VX.of E s116 (by kernel_rfl) Tryz.func116 (by rfl) (by kernel_rfl) (by simp [Tryz.f116]) (by simp [Tryz.f116]) s116_ok ?_ ?_ fun B hB => ?_
  · simp
  · rintro cs h
    cases h
    simp [curD]
  simp [Tryz.f116, s116_5, s116_7, s116_9, s116_5, s116_7, s116_9, curD]
  refine call_db c E114 (w_spec_l6Db b c hb hc) (by simp) (by simp [curD]) (by simp) (by simp) fun xs g c0 n0 hs0 hn0 hm0 bd0 ok0 len0 hgn hgs hgx o0 => ?_
  have hgB : B <= g := by simp at hn0; omega
  have e3 : ∀ d, reV (one g d) (.d (.sl b.id b.T (b.xs.map cW))) = .d (.sl b.id b.T (b.xs.map cW)) := fun d => reV_id _ (fun j hj => one_out fun e => by
    have := hB j (.inr (by simpa [curD] using hj))
    omega) (by simp [tkLL_mapW])
  have c1' : reV (kphi (some g)) (.d (.sl b.id b.T (b.xs.map cW))) = .d (.sl b.id b.T (b.xs.map cW)) := reV_id _ (fun j hj => by
    have := hB j (.inr (by simpa [curD] using hj))
    simp only [kphi]; rw [if_neg (by simp; omega)]) (by simp [tkLL_mapW])
  simp [cDb, cS, curD, s116_5, s116_7, s116_9, ]
  refine call_cur c0 E32 (w_spec_l1Below b c0 5 hb o0 (by omega)) (by simp) (by simp [curD]) (by simp) (by simp) fun r1 c1 hs1 hh1 hq1 hl1 o1 => ?_
  obtain ⟨x, rfl, x0, x1, _⟩ := hq1
  have x1 := x1 (by omega)
  obtain ⟨k, rfl⟩ : ∃ k : Nat, x = k := ⟨x.toNat, by omega⟩
  have hk : k < xs.length := by omega
  simp [cDb, cS, curD, s116_5, s116_7, s116_9, ]
  refine call_cur c1 E32 (w_spec_l1Below b c1 14 hb o1 (by omega)) (by simp) (by simp [curD]) (by simp) (by simp) fun r2 c2 hs2 hh2 hq2 hl2 o2 => ?_
  obtain ⟨u, rfl, u0, u1, _⟩ := hq2
  refine forgetG [(0, .ptr 1000 0 0), (2, .ptr 2 0 0), (3, .ptr 3 0 0), (4, .d (.int .i64 k)), (10, .d (.int .i64 u))] [(1000, some (.box ((curD b c2).map V.d))), (2, some (.box [.d (.sl none none [])])), (3, some (.box ((cDb ⟨⟨some g, some (128, 3), xs⟩⟩).map V.d)))] (by simp) (by simp [curD, cDb, cS]) fun t m => ?_
  obtain ⟨tk, htk⟩ : ∃ tk, tk = xs[k] := ⟨_, rfl⟩
  obtain ⟨nm, ⟨ta, tr⟩⟩ := tk
  have hc3 : (cTab xs[k]).length = 3 := by rw [<- htk]; simp [cTab, cStr, cReln, cS]
  have bdk := bd0.2 xs[k] (List.getElem_mem hk)
  have okk := ok0.2 xs[k] (List.getElem_mem hk)
  rw [<- htk] at bdk okk
  have wit : ∀ (t' : Tab), (cTab t').length = 3 := fun t' => by simp [cTab, cStr, cReln, cS]
  have fin : ∀ (t' : Tab) , okTab t' -> bdT t' -> bdD ⟨⟨some g, some (128, 3), xs.set k t'⟩⟩ /\ okDb ⟨⟨some g, some (128, 3), xs.set k t'⟩⟩ := fun t' h1 h2 => by
    refine ⟨⟨by simp only [List.length_set]; omega, fun t ht => ?_⟩, ⟨by simp only [List.length_set, maxLen]; omega, fun t ht => ?_⟩⟩
    · rcases List.mem_or_eq_of_mem_set ht with ht | ht
      · exact bd0.2 t ht
      · rw [ht]; exact h2
    · rcases List.mem_or_eq_of_mem_set ht with ht | ht
      · exact ok0.2 t ht
      · rw [ht]; exact h1
  have eS : ∀ t' : Tab, (xs.map cTab).set k (cTab t') = (xs.set k t').map cTab := fun t' => by rw [List.map_set]
  by_cases e0 : u = 0
  · subst e0
    simp [cDb, cS, curD, hk, s116_5, s116_7, s116_9, ]
    repeat' apply And.intro
    all_goals
      refine call_curK c2 E122 (w_spec_l1Pick b c2 [[], [82], [97, 98, 99, 100, 101], [97], [122]] hb o2 (by simp) (by simp)) (by simp) (by simp [curD]) (by simp [cStr]) fun r3 c3 hs3 hh3 hq3 hl3 o3 => ?_
      obtain ⟨v, rfl, hv⟩ := hq3
      have hvl : v.length <= 10 := by
        have : ∀ x ∈ ([[], [82], [97, 98, 99, 100, 101], [97], [122]] : List (List UInt8)), x.length <= 10 := by decide
        exact this v hv
      have eT : D.str v :: (cTab xs[k]).tail = cTab ⟨v, ⟨ta, tr⟩⟩ := by rw [<- htk]; simp [cTab, cStr]
      have eR := re_tabs (g := g) (T := (128, 3)) (xs := xs) (ys := xs.set k ⟨v, ⟨ta, tr⟩⟩) (by simp)
      simp [-List.map_set, cDb, cS, curD, hk, hc3, hgB, hgx, eT, eS, eR, e3, vendX, s116_5, s116_7, s116_9, ]
      intro γ hs' h1 hg
      clear hg
      have hf := fin ⟨v, ⟨ta, tr⟩⟩ ⟨show v.length <= maxLen by simp only [maxLen]; omega, okk.2⟩ ⟨hvl, bdk.2⟩
      exact ⟨⟨c3, ⟨⟨some g, some (128, 3), xs.set k ⟨v, ⟨ta, tr⟩⟩⟩⟩, by simp [-List.map_set, cDb, cS], hf.1, hf.2, by simp [curD], o3⟩⟩
  by_cases e1 : u = 1
  · subst e1
    simp [cDb, cS, curD, hk, s116_5, s116_7, s116_9, ]
    repeat' apply And.intro
    all_goals
      refine call_relA c2 E123 (w_spec_l5Any b c2 hb o2) (by simp) (by simp [curD]) (by simp) (by simp) fun y c3 n3 hs3 hn3 hm3 bdy idy oky o3 => ?_
      obtain ⟨ya, yr⟩ := y
      have hsn : hs2 <= n3 := hn3
      have hgs2 : g < n3 := by
        have h1 : hs0 <= hs1 := by simpa using hh1
        have h2 : hs1 <= hs2 := by simpa using hh2
        omega
      have hgy1 : ¬ yr.id = some g := fun h => by have := idy g (ids_rel.2 (.inl h)); omega
      have hgy2 : g ∉ idsLL (yr.xs.map (cS cI)) := fun h => by have := idy g (ids_rel.2 (.inr h)); omega
      have eT : (cTab xs[k]).take 1 ++ D.int .i64 ya :: D.sl yr.id yr.T (yr.xs.map (cS cI)) :: (cTab xs[k]).drop 3 = cTab ⟨nm, ⟨ya, yr⟩⟩ := by rw [<- htk]; simp [cTab, cStr, cReln, cS]
      have eR := re_tabs (g := g) (T := (128, 3)) (xs := xs) (ys := xs.set k ⟨nm, ⟨ya, yr⟩⟩) (by simp)
      simp [-List.map_set, cReln, cDb, cS, curD, hk, hc3, hgB, hgx, hgy1, hgy2, eT, eS, eR, e3, vendX, s116_5, s116_7, s116_9, ]
      intro γ hs' h1 hg
      clear hg
      have hf := fin ⟨nm, ⟨ya, yr⟩⟩ ⟨okk.1, oky⟩ ⟨bdk.1, bdy⟩
      exact ⟨⟨c3, ⟨⟨some g, some (128, 3), xs.set k ⟨nm, ⟨ya, yr⟩⟩⟩⟩, by simp [-List.map_set, cDb, cS], hf.1, hf.2, by simp [curD], o3⟩⟩
  by_cases e2 : u = 2
  · subst e2
    have L1 : LenOk 48 (xs.length + 1) := ⟨by omega, by simp only [maxLen]; omega⟩
    have hxk : xs[k] = ⟨nm, ⟨ta, tr⟩⟩ := htk.symm
    have hsub : ∀ j, j ∈ idsL (cTab xs[k]) -> j ∈ idsLL (xs.map cTab) := fun j hj => by
      have e : xs = xs.take k ++ xs[k] :: xs.drop (k + 1) := by rw [<- List.drop_eq_getElem_cons hk, List.take_append_drop]
      rw [e, List.map_append, idsLL_append, List.map_cons]
      simp only [idsLL, List.mem_append]
      exact .inr (.inl hj)
    have f0 : g ∉ idsLL [cTab xs[k]] := fun h => hgx (hsub g (by simpa only [idsLL, List.append_nil] using h))
    rw [hxk] at f0
    have hp0 : hpLL (xs.map cTab) = false := hpLL_map (fun a => by simp) xs
    have eR : reLL (kphi (some g)) (xs.map cTab ++ [cTab ⟨nm, ⟨ta, tr⟩⟩]) = some (xs.map cTab ++ [cTab ⟨nm, ⟨ta, tr⟩⟩]) := by
      have e : xs.map cTab ++ [cTab ⟨nm, ⟨ta, tr⟩⟩] = (xs ++ [(⟨nm, ⟨ta, tr⟩⟩ : Tab)]).map cTab := by simp
      rw [e]
      refine reLL_id _ (ht := tkLL_map _ (by simp)) fun j hj => ?_
      have hne : j ≠ g := fun e => by
        rw [List.map_append, idsLL_append] at hj
        rcases List.mem_append.1 hj with h | h
        · exact hgx (e ▸ h)
        · exact f0 (e ▸ h)
      simp only [kphi]; rw [if_neg (by simpa using Ne.symm hne)]
    have hcT : cTab ⟨nm, ⟨ta, tr⟩⟩ = [.str nm, .int .i64 ta, .sl tr.id tr.T (tr.xs.map (cS cI))] := by simp [cTab, cStr, cReln, cS]
    rw [hcT] at f0 eR
    simp [cDb, cS, curD, hk, hxk, hcT, St.kill, hgB, hgx, f0, L1, eR, c1', vendX, List.take_of_length_le, s116_5, s116_7, s116_9, ]
    refine ⟨fun a _ => cTab_len a, fun γ hs' h1 hg => ?_⟩
    clear hg
    exact ⟨⟨c2, ⟨⟨γ 40, some (128, 3), xs ++ [(⟨nm, ⟨ta, tr⟩⟩ : Tab)]⟩⟩, by simp [cDb, cS, hcT], ⟨by simp; omega, fun t ht => by
      rcases List.mem_append.1 ht with ht | ht
      · exact bd0.2 t ht
      · rw [List.mem_singleton.1 ht]; exact bdk⟩, ⟨by simp [maxLen]; omega, fun t ht => by
      rcases List.mem_append.1 ht with ht | ht
      · exact ok0.2 t ht
      · rw [List.mem_singleton.1 ht]; exact okk⟩, by simp [curD], o2⟩⟩
  by_cases e3' : u = 3
  · subst e3'
    simp [cDb, cS, curD, hk, vendX, s116_5, s116_7, s116_9, ]
    refine ⟨⟨by omega, fun a _ => cTab_len a⟩, fun γ hs' h1 hg => ?_⟩
    clear hg
    exact ⟨⟨c2, ⟨⟨some g, none, xs.take k⟩⟩, by simp [cDb, cS, List.map_take], ⟨by simp; omega, fun t ht => bd0.2 t (List.mem_of_mem_take ht)⟩, ⟨by simp [maxLen]; omega, fun t ht => ok0.2 t (List.mem_of_mem_take ht)⟩, by simp [curD], o2⟩⟩
  simp [cDb, curD, cS, vendX, e0, e1, e2, e3', s116_5, s116_7, s116_9, ]
  intro γ hs' h1 hg
  clear hg
  exact ⟨⟨c2, ⟨⟨some g, some (128, 3), xs⟩⟩, by simp [cDb, cS], bd0, ok0, by simp [curD], o2⟩⟩
end
end Go.Proofs.YtmgphabeodaokaaGreat
namespace Go.Proofs.YtmgphabeodaokaaGreat
open Go.Vs Go.Proofs Go
set_option maxRecDepth 100000
set_option maxHeartbeats 1000000
def bdX (x : Delta) : Prop := x.name.length <= 10 /\ bdR x.ins /\ bdR x.del /\ dmA x.ins
def bdPd (d : PDb) : Prop := d.tabs.length <= 10 /\ ∀ t ∈ d.tabs, t.name.length <= 10 /\ t.rel.rows.length <= 5000 /\ (∀ r ∈ t.rel.rows, r.length <= 2000) /\ t.rel.ar <= 1001
theorem bdPd_of {z : Db} (h : bdD z) : bdPd (plDb z) := by
  refine ⟨by simpa [plDb, plS] using h.1, fun t ht => ?_⟩
  simp only [plDb, plS] at ht
  obtain ⟨u, hu, rfl⟩ := List.mem_map.1 ht
  have hb := h.2 u hu
  refine ⟨hb.1, by simpa [plTab, plReln, plS] using hb.2.1.1, fun r hr => ?_, hb.2.1.2.2⟩
  simp only [plTab, plReln, plS] at hr
  obtain ⟨v, hv, rfl⟩ := List.mem_map.1 hr
  have := hb.2.1.2.1 v hv
  have e : (plS plI v).length = v.xs.length := by simp only [plS, List.length_map]
  omega
theorem ok_of_pl {y : Reln} {P : PReln} (h : plReln y = P) (h1 : P.rows.length <= 5000) (h2 : ∀ x ∈ P.rows, x.length <= 2000) (h3 : P.ar <= 1001) : bdR y /\ okReln y := by
  subst h
  have e1 : y.rows.xs.length <= 5000 := by simpa [plReln, plS] using h1
  have e2 : ∀ r ∈ y.rows.xs, r.xs.length <= 2000 := fun r hr => by
    have := h2 (plS plI r) (by simp only [plReln, plS]; exact List.mem_map.2 ⟨r, hr, rfl⟩)
    have e : (plS plI r).length = r.xs.length := by simp only [plS, List.length_map]
    omega
  exact ⟨⟨e1, e2, h3⟩, trivial, by simp only [maxLen]; omega, fun r hr => ⟨by have := e2 r hr; simp only [maxLen]; omega, fun _ _ => trivial⟩⟩
theorem insP_bd {r : PReln} {row : List Int} (h1 : r.rows.length <= 5000) (h2 : ∀ x ∈ r.rows, x.length <= 2000) (h3 : row.length <= 2000) : (insP r row).rows.length <= 5000 /\ (∀ x ∈ (insP r row).rows, x.length <= 2000) /\ (insP r row).ar = r.ar := by
  rw [insP]
  split
  · rename_i h
    simp only [insOk, Bool.and_eq_true, Bool.not_eq_true', decide_eq_false_iff_not, decide_eq_true_eq] at h
    have hl := rowsOk_len h.1.1.1.1
    have hne := h.2
    refine ⟨?_, fun x hx => ?_, rfl⟩
    · simp only [List.length_append, List.length_take, List.length_cons, List.length_drop]; omega
    · rcases List.mem_append.1 hx with hx | hx
      · exact h2 x (List.mem_of_mem_take hx)
      · rcases List.mem_cons.1 hx with hx | hx
        · rw [hx]; exact h3
        · exact h2 x (List.mem_of_mem_drop hx)
  · exact ⟨h1, h2, rfl⟩
structure DelA (b : Sl Int) (r : V) (cs : List V) : Prop where
  ex : ∃ (c' : Nat × Int) (z : Delta), r = .agg ((cDelta z).map V.d) /\ bdX z /\ okDelta z /\ cs = (curD b c').map V.d /\ curO b c'
theorem call_del {P : Program} {E : Md} {args : List Operand} {f : FuncId} {rest As : List V} {k : Nat} {dst : Option Tmp} {K : St -> Prop} {σ : St} {b : Sl Int} (c : Nat × Int) (hE : E f = true)
    (hc : VX P f [] (.ptr 1000 0 0 :: As) (some ((curD b c).map V.d)) (fun _ r cs _ => DelA b r cs)) (hvs : args.map σ.ev = .ptr k 0 0 :: rest) (hm : σ.m k = some (.box ((curD b c).map V.d)))
    (hr : rpL σ.m rest = some As) (hk : keysVL rest = [])
    (hK : ∀ (z : Delta) c' hs', σ.hs <= hs' -> bdX z -> okDelta z -> curO b c' -> K ({ σ with hs := hs', m := upd σ.m k (some (.box ((curD b c').map V.d))) }.put dst (.agg ((cDelta z).map V.d)))) : vcallA P E f args (.ptr k 0 0 :: rest) dst K σ := by
  refine call_xt hE hvs hm hr (by simp [curD, dSl]) hc fun r cs' ws n hs' h1 h2 h3 h4 h5 => ?_
  obtain ⟨c', y, rfl, h6, h7, rfl, ho⟩ := h3.ex
  have : keysVL rest ++ keysVL ((curD b c).map V.d) = [] := by rw [hk]; simp [curD]
  rw [this]
  exact hK y c' hs' (Nat.le_trans h1 h2) h6 h7 ho
section
attribute [local simp] pS dSl cP cI cW
theorem w_spec_l26Delta (b : Sl Int) (c : Nat × Int) (d : PDb) (hb : b.xs.length <= 1048576) (hc : curO b c) (hd : bdPd d) : VX Tryz.prog 81 [] [.ptr 1000 0 0, .agg ((eDb d).map V.d)] (some ((curD b c).map V.d)) (fun _ r cs _ => DelA b r cs) := by
  obtain ⟨l⟩ := d
  obtain ⟨hd1, hd2⟩ := hd
  simp only at hd1 hd2
  refine VX.of E s81 (by kernel_rfl) Tryz.func81 (by rfl) (by kernel_rfl) (by simp [Tryz.f81]) (by simp [Tryz.f81]) s81_ok ?_ ?_ fun B hB => ?_
  · simp
  · rintro cs h
    cases h
    simp [curD]
  by_cases hl0 : l = []
  · subst hl0
    simp [Tryz.f81, s81_3, s81_5, s81_10, s81_3, s81_5, s81_10, curD, eDb, vendX]
    intro γ hs' h1 hg
    clear hg
    exact ⟨⟨c, ⟨[114], ⟨0, nilS⟩, ⟨0, nilS⟩⟩, by simp [cDelta, cStr, cReln, cS, nilS], ⟨by simp, ⟨by simp [nilS], by simp [nilS], by simp⟩, ⟨by simp [nilS], by simp [nilS], by simp⟩, by simp [nilS], by simp [nilS]⟩, ⟨by simp [okStr, maxLen], ⟨trivial, ok_nilS⟩, ⟨trivial, ok_nilS⟩⟩, by simp [curD], hc⟩⟩
  have hlp : 0 < l.length := List.length_pos_iff.2 hl0
  have hl0' : ¬ (l.length : Int) = 0 := by omega
  simp [Tryz.f81, s81_10, s81_10, curD, eDb, hl0, hl0']
  refine cutT (X := (Nat × Int) × PTab) (fun p _ => curO b p.1 /\ p.2 ∈ l) (fun p => [(0, .ptr 1000 0 0), (4, .ptr 4 0 0), (5, .ptr 5 0 0)]) (fun p => [(1000, some (.box ((curD b p.1).map V.d))), (4, some (.box [.d (.str []), .d (.int .i64 0), .d (.sl none none []), .d (.int .i64 0), .d (.sl none none [])])), (5, some (.box ((eTab p.2).map V.d)))]) ?_ ?_
  · intro K hK
    simp [curD, eDb, s81_3, ]
    repeat' apply And.intro
    all_goals
      refine call_cur c E32 (w_spec_l1Below b c l.length hb hc (by omega)) (by simp) (by simp [curD]) (by simp) (by simp) fun r1 c1 hs1 hh1 hq1 hl1 o1 => ?_
      obtain ⟨x, rfl, x0, x1, _⟩ := hq1
      have x1 := x1 (by omega)
      obtain ⟨k, rfl⟩ : ∃ k : Nat, x = k := ⟨x.toNat, by omega⟩
      have hk : k < l.length := by omega
      have hm := List.getElem_mem hk
      obtain ⟨tn, ta, tr, hT⟩ : ∃ tn ta tr, l[k] = ⟨tn, ⟨ta, tr⟩⟩ := ⟨_, _, _, rfl⟩
      rw [hT] at hm
      simp [curD, eDb, hk, hT, eTab, eReln, cStr, s81_3, ]
      repeat' apply And.intro
      all_goals exact hK (c1, ⟨tn, ⟨ta, tr⟩⟩) _ ⟨o1, hm⟩ rfl rfl (by simpa using hh1) (by simp) (by simp [curD, eTab, eReln, cStr])
  rintro ⟨c1, ⟨tn, ⟨ta, tr⟩⟩⟩ hs1 t m ⟨o1, hm⟩ hh1
  obtain ⟨tb1, tb2, tb3, tb4⟩ := hd2 _ hm
  simp only at o1 tb1 tb2 tb3 tb4
  obtain ⟨N, hN⟩ : ∃ N : Int, N = (if 0 < if ta < 5 then ta else 5 then if ta < 5 then ta else 5 else 0) := ⟨_, rfl⟩
  have hN5 : N <= 5 := by rw [hN]; (repeat' split) <;> omega
  simp [curD, eTab, eReln, cStr, <- hN, s81_10, ]
  refine cutT (X := (Nat × Int) × Reln × Reln) (fun p _ => curO b p.1 /\ ((bdR p.2.1 /\ dmA p.2.1) /\ okReln p.2.1) /\ bdR p.2.2 /\ okReln p.2.2) (fun p => [(0, .ptr 1000 0 0), (4, .ptr 4 0 0), (5, .ptr 5 0 0), (6, .d (.int .i64 N)), (7, .ptr 7 0 0)]) (fun p => [(1000, some (.box ((curD b p.1).map V.d))), (4, some (.box [.d (.str []), .d (.int .i64 0), .d (.sl none none []), .d (.int .i64 0), .d (.sl none none [])])), (5, some (.box ((eTab ⟨tn, ⟨ta, tr⟩⟩).map V.d))), (7, some (.box ((cDelta ⟨tn, p.2.1, p.2.2⟩).map V.d)))]) ?_ ?_
  · intro K hK
    have bdc : ∀ (y : Reln), rowsOk (plReln y).ar (plReln y).rows = true -> (y.rows.xs.length <= 1000 /\ y.ar <= 1000) -> bdR y := fun y h1 h2 => by
      have hrow := rowsOk_row h1
      refine ⟨by omega, fun r hr => ?_, by omega⟩
      have := hrow (plS plI r) (by simp only [plReln, plS]; exact List.mem_map.2 ⟨r, hr, rfl⟩)
      simp only [plS, List.length_map] at this; omega
    simp [curD, eTab, eReln, cStr, s81_5, ]
    repeat' apply And.intro
    all_goals
      refine call_rel c1 E120 (w_spec_l5Rel b c1 N 3 4 hb o1 (by omega) (by omega) (by omega)) (by simp) (by simp [curD]) (by simp) (by simp) fun y c2 n2 hs2 hn2 hm2 hy2 ly2 ky2 Ty2 Gy2 Iy2 o2 => ?_
      have by2 : bdR y /\ dmA y := ⟨bdc y hy2 ly2.1, dmA_of ly2.2 (by omega) (by omega)⟩
      have hn2' : hs1 <= n2 := hn2
      obtain ⟨ya, yr⟩ := y
      simp [cReln, cS, curD, eTab, eReln, cStr, s81_5, ]
      repeat' apply And.intro
      all_goals
        refine call_rel c2 E120 (w_spec_l5Rel b c2 N 2 4 hb o2 (by omega) (by omega) (by omega)) (by simp) (by simp [curD]) (by simp) (by simp) fun z c3 n3 hs3 hn3 hm3 hy3 ly3 ky3 Ty3 Gy3 Iy3 o3 => ?_
        have by3 := bdc z hy3 ly3.1
        have hn3' : hs2 <= n3 := hn3
        obtain ⟨za, zr⟩ := z
        simp [cReln, cS, curD, eTab, eReln, cStr, s81_5, ]
        repeat' apply And.intro
        all_goals exact hK (c3, ⟨ya, yr⟩, ⟨za, zr⟩) _ ⟨o3, ⟨by2, ky2⟩, by3, ky3⟩ rfl rfl (by simp <;> omega) (by simp) (by simp [curD, eTab, eReln, cStr, cDelta, cReln, cS])
  rintro ⟨c2, ⟨ya, yr⟩, ⟨za, zr⟩⟩ hs2 t m ⟨o2, ⟨by2, ky2⟩, by3, ky3⟩ hh2
  simp only at o2 by2 ky2 by3 ky3
  simp [curD, eTab, eReln, cStr, cDelta, cReln, cS, s81_10, ]
  refine loop_rule (X := Nat × (Nat × Int) × Reln) (fun p => p.1 <= tr.length /\ curO b p.2.1 /\ bdR p.2.2 /\ okReln p.2.2) (fun p => [(0, .ptr 1000 0 0), (4, .ptr 4 0 0), (5, .ptr 5 0 0), (6, .d (.int .i64 N)), (7, .ptr 7 0 0), (8, .d (.int .i64 p.1))]) (fun p => [(1000, some (.box ((curD b p.2.1).map V.d))), (4, some (.box [.d (.str []), .d (.int .i64 0), .d (.sl none none []), .d (.int .i64 0), .d (.sl none none [])])), (5, some (.box ((eTab ⟨tn, ⟨ta, tr⟩⟩).map V.d))), (7, some (.box ((cDelta ⟨tn, ⟨ya, yr⟩, p.2.2⟩).map V.d)))]) (fun p => tr.length - p.1) (0, c2, ⟨za, zr⟩) ⟨by simp, o2, by3, ky3⟩ (by simp) (by simp [curD, eTab, eReln, cStr, cDelta, cReln, cS]) ?_
  rintro ⟨i, c3, ⟨za, zr⟩⟩ hs t m ⟨hi, o3, bz, kz⟩ hh
  simp only at hi o3 bz kz
  by_cases hlt : i < tr.length
  · have hwi := wr1 (i := i) (by omega)
    have hri := tb3 _ (List.getElem_mem hlt)
    refine anyQ fun Q => ?_
    simp [hlt, curD, eTab, eReln, cStr, cDelta, cReln, cS, s81_10, ]
    refine call_cur c3 E106 (w_spec_l1Once b c3 3 hb o3 (by omega)) (by simp) (by simp [curD]) (by simp) (by simp) fun r4 c4 hs4 hh4 hq4 hl4 o4 => ?_
    obtain ⟨u, rfl⟩ := hq4
    have hh4' : hs <= hs4 := hh4
    have fin : ∀ (hs' : Nat) (t : Nat -> V) (m : Nat -> Option Blk), True := fun _ _ _ => trivial
    cases u
    · simp [hlt, hwi, curD, s81_10, ]
      exact back (i + 1, c4, ⟨za, zr⟩) ⟨by simp only; omega, o4, bz, kz⟩ (by simp only; omega) rfl (by simp <;> omega) (by simp) (by simp [curD, eTab, eReln, cStr, cDelta, cReln, cS])
    by_cases hrn : (tr[i].length : Int) = N
    case neg =>
      simp [hlt, hrn, hwi, curD, s81_10, ]
      exact back (i + 1, c4, ⟨za, zr⟩) ⟨by simp only; omega, o4, bz, kz⟩ (by simp only; omega) rfl (by simp <;> omega) (by simp) (by simp [curD, eTab, eReln, cStr, cDelta, cReln, cS])
    simp [hlt, hrn, hwi, curD, s81_10, ]
    have bP1 : (plReln ⟨za, zr⟩).rows.length <= 5000 := by
      have e : (plReln ⟨za, zr⟩).rows.length = zr.xs.length := by simp only [plReln, plS, List.length_map]
      have := bz.1; simp only at this; omega
    have bP2 : ∀ x ∈ (plReln ⟨za, zr⟩).rows, x.length <= 2000 := fun x hx => by
      simp only [plReln, plS] at hx
      obtain ⟨v, hv, rfl⟩ := List.mem_map.1 hx
      have := bz.2.1 v hv
      have e : (plS plI v).length = v.xs.length := by simp only [plS, List.length_map]
      have e' : (List.map plI v.xs).length = v.xs.length := List.length_map ..
      first | omega | (simp only [plS] at *; omega)
    have hib := insP_bd bP1 bP2 hri
    refine call_some (VC.track (w_spec_InsertRow (plReln ⟨za, zr⟩) tr[i] (by omega) (fun x hx => by have := bP2 x hx; omega) (by omega)) (by simp [eReln, plReln, plS, plI_id, map_plI, erLL_map (er_cS er_cI)]) (by simp [V.pn, pnVL, eReln])) (by simp) (by simp) fun n5 hs5 r5 hn5 hm5 hp5 hr5 => ?_
    obtain ⟨hq5, ht5⟩ := hp5
    obtain ⟨w0, w1, rfl, q0, q1, t0, t1⟩ := rp_tup2 hq5 ht5
    obtain ⟨y5, rfl, py5⟩ := rp_agg tk_Reln q0 t0
    obtain rfl := rp_flat q1 rfl
    obtain ⟨by5, ky5⟩ := ok_of_pl py5 hib.1 hib.2.1 (by rw [hib.2.2]; exact bz.2.2)
    obtain ⟨wa, wr⟩ := y5
    have hn5' : hs4 <= n5 := hn5
    simp [hlt, hwi, cReln, cS, curD, s81_10, ]
    exact back (i + 1, c4, ⟨wa, wr⟩) ⟨by simp only; omega, o4, by5, ky5⟩ (by simp only; omega) rfl (by simp <;> omega) (by simp) (by simp [curD, eTab, eReln, cStr, cDelta, cReln, cS])
  · simp [hlt, curD, eTab, eReln, cStr, cDelta, cReln, cS, s81_10, ]
    refine call_cur c3 E32 (w_spec_l1Below b c3 14 hb o3 (by omega)) (by simp) (by simp [curD]) (by simp) (by simp) fun r4 c4 hs4 hh4 hq4 hl4 o4 => ?_
    obtain ⟨u, rfl, u0, u1, _⟩ := hq4
    refine forgetG [(0, .ptr 1000 0 0), (4, .ptr 4 0 0), (7, .ptr 7 0 0), (72, .d (.int .i64 u))] [(1000, some (.box ((curD b c4).map V.d))), (4, some (.box [.d (.str []), .d (.int .i64 0), .d (.sl none none []), .d (.int .i64 0), .d (.sl none none [])])), (7, some (.box ((cDelta ⟨tn, ⟨ya, yr⟩, ⟨za, zr⟩⟩).map V.d)))] (by simp) (by simp [curD, cDelta, cReln, cS, cStr]) fun t m => ?_
    have okn : ∀ s : List UInt8, s.length <= 10 -> okStr s := fun s hs => by show s.length <= maxLen; simp only [maxLen]; omega
    by_cases e0 : u = 0
    · subst e0
      simp [curD, cDelta, cReln, cS, cStr, s81_10, ]
      refine call_curK c4 E122 (w_spec_l1Pick b c4 [[], [119], [115]] hb o4 (by simp) (by simp)) (by simp) (by simp [curD]) (by simp [cStr]) fun r5 c5 hs5 hh5 hq5 hl5 o5 => ?_
      obtain ⟨v, rfl, hv⟩ := hq5
      have hvl : v.length <= 10 := by
        have : ∀ x ∈ ([[], [119], [115]] : List (List UInt8)), x.length <= 10 := by decide
        exact this v hv
      simp [curD, cDelta, cReln, cS, cStr, vendX, s81_10, ]
      intro γ hs' h1 hg
      clear hg
      exact ⟨⟨c5, ⟨v, ⟨ya, yr⟩, ⟨za, zr⟩⟩, by simp [cDelta, cReln, cS, cStr], ⟨hvl, by2.1, bz, by2.2⟩, ⟨okn v hvl, ky2, kz⟩, by simp [curD], o5⟩⟩
    by_cases e1 : u = 1
    · subst e1
      simp [curD, cDelta, cReln, cS, cStr, s81_10, ]
      refine call_relA c4 E123 (w_spec_l5Any b c4 hb o4) (by simp) (by simp [curD]) (by simp) (by simp) fun y c5 n5 hs5 hn5 hm5 bdy idy oky o5 => ?_
      obtain ⟨wa, wr⟩ := y
      simp [curD, cDelta, cReln, cS, cStr, vendX, s81_10, ]
      intro γ hs' h1 hg
      clear hg
      exact ⟨⟨c5, ⟨tn, ⟨wa, wr⟩, ⟨za, zr⟩⟩, by simp [cDelta, cReln, cS, cStr], ⟨tb1, bdy.1, bz, bdy.2⟩, ⟨okn tn tb1, oky, kz⟩, by simp [curD], o5⟩⟩
    simp [curD, cDelta, cReln, cS, cStr, vendX, e0, e1, s81_10, ]
    intro γ hs' h1 hg
    clear hg
    exact ⟨⟨c4, ⟨tn, ⟨ya, yr⟩, ⟨za, zr⟩⟩, by simp [cDelta, cReln, cS, cStr], ⟨tb1, by2.1, bz, by2.2⟩, ⟨okn tn tb1, ky2, kz⟩, by simp [curD], o4⟩⟩
end
end Go.Proofs.YtmgphabeodaokaaGreat
namespace Go.Proofs.YtmgphabeodaokaaGreat
open Go.Vs Go.Proofs Go
set_option maxRecDepth 100000
set_option maxHeartbeats 1000000
section
attribute [local simp] pS dSl cP cI cW
theorem er_tabs (l : List Tab) : erLL (l.map cTab) = (l.map plTab).map eTab := erLL_map er_cTab l
end
end Go.Proofs.YtmgphabeodaokaaGreat
namespace Go.Proofs.YtmgphabeodaokaaGreat
open Go.Vs Go.Proofs Go
set_option maxRecDepth 100000
set_option maxHeartbeats 1000000
section
attribute [local simp] pS cP cI
end
end Go.Proofs.YtmgphabeodaokaaGreat
namespace Go.Proofs.YtmgphabeodaokaaGreat
open Go.Vs Go.Proofs Go
set_option maxRecDepth 100000
set_option maxHeartbeats 1000000
section
attribute [local simp] pS dSl cP cI cW
theorem call_cp {P : Program} {E : Md} {args : List Operand} {f : FuncId} {rest As : List V} {k : Nat} {dst : Option Tmp} {K : St -> Prop} {σ : St} {b : Sl Int} {post : V -> List V -> Prop} (c : Nat × Int) (hE : E f = true)
    (hc : VX P f [] (.ptr 1000 0 0 :: As) (some ((curD b c).map V.d)) (fun _ r cs _ => post r cs)) (hvs : args.map σ.ev = .ptr k 0 0 :: rest) (hm : σ.m k = some (.box ((curD b c).map V.d)))
    (hr : rpL σ.m rest = some As) (hk : keysVL rest = [])
    (hK : ∀ r cs hs', σ.hs <= hs' -> post r cs -> K ({ σ with hs := hs', m := upd σ.m k (some (.box cs)) }.put dst r)) : vcallA P E f args (.ptr k 0 0 :: rest) dst K σ := by
  refine call_xt hE hvs hm hr (by simp [curD, dSl]) hc fun r cs' ws n hs' h1 h2 h3 h4 h5 => ?_
  have : keysVL rest ++ keysVL ((curD b c).map V.d) = [] := by rw [hk]; simp [curD]
  rw [this]
  exact hK r cs' hs' (Nat.le_trans h1 h2) h3
theorem szDb_bd {z : Db} (h : bdD z) : szDb (plDb z) := by
  have hb := bdPd_of h
  exact ⟨by have := hb.1; omega, fun t ht => ⟨by have := (hb.2 t ht).2.1; omega, fun x hx => by have := (hb.2 t ht).2.2.1 x hx; omega⟩⟩
end
end Go.Proofs.YtmgphabeodaokaaGreat
namespace Go.Proofs.YtmgphabeodaokaaGreat
open Go.Vs Go.Proofs Go
set_option maxRecDepth 100000
set_option maxHeartbeats 1000000
def neg64 (n : Int) : Int := IntKind.i64.wrap (-n)
def negAt (l : List Int) (i : Nat) : List Int := (l.take i).map neg64 ++ l.drop i
@[simp] theorem negAt_zero (l : List Int) : negAt l 0 = l := by simp [negAt]
@[simp] theorem negAt_length (l : List Int) (i : Nat) : (negAt l i).length = l.length := by simp [negAt]; omega
theorem negAt_all {l : List Int} {i : Nat} (h : i = l.length) : negAt l i = l.map neg64 := by subst h; simp [negAt]
theorem negAt_succ {l : List Int} {i : Nat} (h : i < l.length) : (negAt l i).set i (neg64 l[i]) = negAt l (i + 1) := by
  simp only [negAt]
  rw [List.take_succ_eq_append_getElem h, List.map_append, List.set_append_right _ _ (by simp; omega)]
  have e : l.drop i = l[i] :: l.drop (i + 1) := List.drop_eq_getElem_cons h
  have e0 : i - (List.map neg64 (l.take i)).length = 0 := by simp; omega
  rw [e0, e]
  simp only [List.set_cons_zero, List.map_cons, List.map_nil, List.append_assoc, List.cons_append, List.nil_append]
theorem negAt_get {l : List Int} {i : Nat} (h : i < l.length) : (negAt l i)[i]? = some l[i] := by
  simp only [negAt]
  rw [List.getElem?_append_right (by simp; omega)]
  have : i - (List.map neg64 (l.take i)).length = 0 := by simp; omega
  rw [this]
  simp [h]
theorem negAt_at {l : List Int} {i : Nat} (h : i < l.length) (h' : i < (negAt l i).length) : (negAt l i)[i] = l[i] := by
  have := negAt_get h
  rw [List.getElem?_eq_getElem h'] at this
  exact Option.some.inj this
def negW (z : PCnt) : PCnt := ⟨z.ar, z.rows, z.cs.map neg64⟩
section
attribute [local simp] plI_id plStr_id map_plI map_plStr
theorem t_impl_NegateCounted (a : Cnt) (ha : okCnt a) (hb : a.rows.xs.length <= 4294967296) (hb2 : ∀ r ∈ a.rows.xs, r.xs.length <= 4294967296) (hb3 : a.cs.xs.length <= 4294967296) :
   VC Tryz.prog 57 [.agg ((cCnt a).map V.d)] (fun n r => ∃ y : Cnt, r = .agg ((cCnt y).map V.d) /\ plCnt y = negW (plCnt a) /\ okCnt y /\ Good (cCnt y) (whCnt y) n) := by
  refine VC.of E s57 (by kernel_rfl) Tryz.func57 (by rfl) (by kernel_rfl) (by simp [Tryz.f57]) (by simp [Tryz.f57]) s57_ok fun B => ?_
  simp [Tryz.f57, s57_5, cCnt, cS, cI]
  refine call_some (w_impl_copyCounted a ha hb hb2 hb3) rfl (by simp) fun n1 hs1 r1 hn1 hm1 hp1 hr1 => ?_
  obtain ⟨y, rfl, p1, k1, G1⟩ := hp1
  simp at hn1
  have hpl : y.cs.xs = a.cs.xs := by
    have := congrArg (fun c : PCnt => c.cs) p1
    simpa [plCnt, plS] using this
  have hlen : y.cs.xs.length = a.cs.xs.length := by rw [hpl]
  obtain ⟨ar, rows, ⟨id, T, cs⟩⟩ := y
  simp only at hpl hlen
  have hnd := G1.nd
  simp only [cCnt, idsL_app, idsL_cS] at hnd
  simp [cCnt, cS, cI, dSl]
  refine loop_rule (X := Nat) (fun i => i <= cs.length) (fun i => [(3, .ptr 3 0 0), (2, .ptr 2 0 0), (9, .d (.int .i64 cs.length)), (10, .d (.int .i64 i))])
    (fun i => [(2, some (.box [.d (.int .i64 0), .d (.sl none none []), .d (.sl none none [])])), (3, some (.box [.d (.int .i64 ar), .d (dSl (cS cI) rows), .d (.sl id T ((negAt cs i).map cI))]))]) (fun i => cs.length - i) 0 (by simp) (by simp) (by simp [dSl]) ?_
  intro i hs t m hi hh
  by_cases hlt : i < cs.length
  · obtain ⟨g, hg, T', hT⟩ := (Sl.wh.id (s := (⟨id, T, cs⟩ : Sl Int)) G1.wh.2.2.1 hlt)
    simp only at hg hT
    subst hg hT
    have hwi := wr1 (i := i) (by omega)
    have hgB : B <= g := by
      have := G1.lo g (by simp only [cCnt, idsL_app, idsL_cS, List.mem_append]; exact .inr (mem_slids (s := (⟨some g, some T', cs⟩ : Sl Int)) rfl))
      omega
    have hgr : g ∉ (dSl (cS cI) rows).ids := fun h => nd_disj hnd g (List.mem_append_right _ h) (mem_slids (s := (⟨some g, some T', cs⟩ : Sl Int)) rfl)
    simp [cI, hlt, hwi, negAt_get hlt, s57_5, ]
    have e1 : (List.map cI (negAt cs i)).set i [D.int .i64 (IntKind.i64.wrap (-cs[i]))] = List.map cI (negAt cs (i + 1)) := by
      rw [<- negAt_succ hlt, <- set_map]; rfl
    have e2 : ∀ d, reV (one g d) (.d (dSl (cS cI) rows)) = .d (dSl (cS cI) rows) := fun d => reV_id _ fun j hj => one_out fun e => hgr (e ▸ hj)
    refine ⟨hgB, back (i + 1) (by omega) (by omega) rfl (by simp <;> omega) (by simp) ?_⟩
    simp [-List.map_set, negAt_at hlt, e1, e2]
  · have hn : i = cs.length := by omega
    subst hn
    simp
    refine ⟨⟨ar, rows, ⟨id, T, cs.map neg64⟩⟩, ?_⟩
    refine ⟨by simp [negAt_all, cS, cI, dSl, cCnt], ?_, ⟨trivial, k1.2.1, ⟨by simpa using k1.2.2.1, fun _ _ => trivial⟩⟩, ?_⟩
    · have q1 := congrArg PCnt.ar p1
      have q2 := congrArg PCnt.rows p1
      simp only [plCnt] at q1 q2
      simp only [plCnt, negW]
      rw [q1, q2]
      simp [plS, hpl]
    · have e0 : ∀ l : List Int, (dSl cI (⟨id, T, l⟩ : Sl Int)).ids = id.toList := fun l => by simp [dSl, D.ids]
      have e : idsL (cCnt ⟨ar, rows, ⟨id, T, cs.map neg64⟩⟩) = idsL (cCnt ⟨ar, rows, ⟨id, T, cs⟩⟩) := by simp only [cCnt, idsL_app, idsL_cS, e0]
      show Good (cCnt ⟨ar, rows, ⟨id, T, cs.map neg64⟩⟩) (whCnt ⟨ar, rows, ⟨id, T, cs.map neg64⟩⟩) B
      exact ⟨by rw [e]; exact G1.nd, fun g hg => by rw [e] at hg; have := G1.lo g hg; omega, G1.wh.1, G1.wh.2.1, G1.wh.2.2.1.of (by simp), fun _ _ => trivial⟩
end
end Go.Proofs.YtmgphabeodaokaaGreat
namespace Go.Proofs.YtmgphabeodaokaaGreat
open Go.Vs Go.Proofs Go
set_option maxRecDepth 100000
set_option maxHeartbeats 1000000
section
attribute [local simp] plI_id plStr_id map_plI map_plStr pS cP cI cStr cU8 cB eReln eCnt
theorem w_spec_EqualCounted (a b : PCnt) : VC Tryz.prog 10 [.agg ((eCnt a).map V.d), .agg ((eCnt b).map V.d)] (fun _ r => r = .d (.bool (decide (a = b)))) := by
  refine VC.ofL EP s10 (by kernel_rfl) Tryz.func10 (by rfl) (by kernel_rfl) (by simp [Tryz.f10]) (by simp [Tryz.f10]) s10_ok fun B hl => ?_
  obtain ⟨aa, ar, ac⟩ := a
  obtain ⟨ba, br, bc⟩ := b
  by_cases h : aa = ba
  case neg => simp [Tryz.f10, h]
  subst h
  simp [Tryz.f10]
  refine call_f (w_spec_EqualRelations ⟨0, ar⟩ ⟨0, br⟩) (by simp) rfl fun hs1 hh1 => ?_
  simp at hh1
  by_cases h2 : ar = br
  case neg => simp [h2]
  subst h2
  simp
  refine call_f (w_spec_CompareRows ac bc) (by simp) rfl fun hs1 hh1 => ?_
  simp
  have := cmpL_zero ac bc
  by_cases h3 : ac = bc <;> simp [h3, this, cmpL_self]
theorem w_laws_big (b : Sl Int) : VC Tryz.prog 6 [.d (dSl cW b)] (fun _ r => r = .d (.bool (decide (1048576 < (b.xs.length : Int))))) := by
  refine VC.of E s6 (by kernel_rfl) Tryz.func6 (by rfl) (by kernel_rfl) (by simp [Tryz.f6]) (by simp [Tryz.f6]) s6_ok fun B => ?_
  simp [Tryz.f6, dSl]
end
theorem cnt_bd {z : PCnt} (h : cntsOk z = true) : ∀ n ∈ z.cs, -1000000 <= n /\ n <= 1000000 := fun n hn => by
  simp only [cntsOk, Bool.and_eq_true, decide_eq_true_eq, List.all_eq_true] at h
  have := h.2 n hn
  simp only [cntOk, inR, Bool.and_eq_true, Bool.not_eq_true', beq_eq_false_iff_ne, decide_eq_true_eq] at this
  omega
theorem negW_eq {z : PCnt} (h : cntsOk z = true) : negW z = negP z := by
  have hb := cnt_bd h
  have : z.cs.map neg64 = z.cs.map fun n => -n := List.map_congr_left fun n hn => by
    have := hb n hn
    exact wrap64_of (by omega) (by omega)
  simp only [negW, negP, this]
end Go.Proofs.YtmgphabeodaokaaGreat
namespace Go.Proofs.YtmgphabeodaokaaGreat
open Go.Vs Go.Proofs Go
set_option maxRecDepth 100000
set_option maxHeartbeats 1000000
theorem erI (l : List Int) : erLL (l.map cI) = l.map cI := by
  have := erLL_map er_cI l
  simpa [plI_id, map_plI] using this
@[simp] theorem start5 (a b c d e : V) (B : Nat) : St.start [a, b, c, d, e] B = ⟨B, B, [], upd (upd (upd (upd (upd (fun _ => .tup []) 4 e) 3 d) 2 c) 1 b) 0 a, fun _ => none⟩ := by
  simp only [St.start, St.mk.injEq, true_and, and_true]
  funext i; match i with | 0 => rfl | 1 => rfl | 2 => rfl | 3 => rfl | 4 => rfl | _ + 5 => rfl
section
attribute [local simp] plI_id plStr_id map_plI map_plStr pS cP cI
theorem e_copyIntsT (l : List Int) (hb : l.length <= 4294967296) :
   VC Tryz.prog 92 [.d (pS cI l)] (fun n r => ∃ g : Option Nat, r = .d (.sl g (some (3, 1)) (l.map cI)) /\ (l = [] -> True) /\ (∀ k, g = some k -> n <= k) /\ (g = none -> l = [])) := by
  refine VC.of E s92 (by kernel_rfl) Tryz.func92 (by rfl) (by kernel_rfl) (by simp [Tryz.f92]) (by simp [Tryz.f92]) s92_ok fun B => ?_
  have hL : LenOk 8 l.length := ⟨by omega, by simp only [maxLen]; omega⟩
  have hp : hpLL (l.map cI) = false := hpLL_mapI l
  simp [Tryz.f92, hL, hp, List.take_of_length_le]
  intro γ hs' h1 hg
  obtain ⟨q1, q2⟩ := gam_at hg (k := 3) (T := 3) (sz := 1) (es := l.map cI) (by simp)
  clear hg
  refine ⟨fun k hk => (q1 k hk).1, fun h => ?_⟩
  exact Classical.byContradiction fun hl => q2 (by simpa using hl) h
def avI (vs : List Int) (i : Nat) : List Int := (rangeI i).filter fun v => vs.contains v
theorem avI_zero (vs : List Int) : avI vs 0 = [] := rfl
theorem w_impl_AtomVariables (a : PAtom) : VC Tryz.prog 40 [.agg ((eAtom a).map V.d)] (fun _ r => r = .d (pS cI (aVars a.vars))) := by
  obtain ⟨nm, vs⟩ := a
  refine VC.ofL EP s40 (by kernel_rfl) Tryz.func40 (by rfl) (by kernel_rfl) (by simp [Tryz.f40]) (by simp [Tryz.f40]) s40_ok fun B hl => ?_
  simp [Tryz.f40, eAtom, cStr]
  refine loop_ruleL (X := Nat) (fun i _ => i <= 5) (fun i => [(1, .ptr 1 0 0), (3, .own 15 0 (avI vs i).length), (4, .d (.int .i64 i))]) (fun i => [(1, some (.box [.d (.str nm), .d (.pl (vs.map cI))])), (15, some (.row 3 1 ((avI vs i).map cI)))]) (fun i => 5 - i) ?_ ?_
  · refine (lead_slot 3 15 3 1 (by omega) (by omega) (by simp)).bind ?_
    rintro _ rfl
    exact Lead.of ⟨0, by omega, rfl, rfl, Nat.le_refl _, by simp [avI_zero], by simp [avI_zero]⟩
  intro i hs t m hi hh
  by_cases hlt : i < 5
  · have hwi := wr1 (i := i) (by omega)
    have hlz : (i : Int) < 5 := by omega
    have hlen : (avI vs i).length <= i := by
      have := List.length_filter_le (fun v => vs.contains v) (rangeI i)
      rw [rangeI_len] at this
      exact this
    have hL : LenOk 8 ((avI vs i).length + 1) := ⟨by omega, by simp only [maxLen]; omega⟩
    have hs' : avI vs (i + 1) = avI vs i ++ if vs.contains (i : Int) then [(i : Int)] else [] := by
      rw [avI, avI, rangeI_succ, List.filter_append]
      cases h : vs.contains (i : Int) <;> simp only [List.filter_cons, List.filter_nil, h] <;> rfl
    obtain ⟨L, hLd⟩ : ∃ L, L = avI vs i := ⟨_, rfl⟩
    rw [<- hLd] at hL hs' hlen ⊢
    refine anyQ2 fun Q => ?_
    simp [hlz, ]
    refine call_f (w_impl_ContainsVariable ⟨nm, vs⟩ i) (by simp [eAtom, cStr]) rfl fun hs1 hh1 => ?_
    simp at hh1
    cases hc : vs.contains (i : Int)
    · rw [hc] at hs'
      simp only [Bool.false_eq_true, if_false, List.append_nil] at hs'
      simp [hwi, ]
      refine back2 (i + 1) (by omega) (by omega) rfl (by simp <;> omega) ?_ ?_
      · rw [hs']; simp
      · rw [hs']; simp
    · rw [hc] at hs'
      simp only [if_true] at hs'
      simp [hwi, hL, List.take_of_length_le, ]
      refine back2 (i + 1) (by omega) (by omega) rfl (by simp <;> omega) ?_ ?_
      · rw [hs']; simp
      · rw [hs']; simp
  · have hn : i = 5 := by omega
    subst hn
    have e : avI vs 5 = aVars vs := rfl
    rw [e]
    simp [List.take_of_length_le, ]
theorem w_impl_glue (u a r b s : List Int) (hu : u.length <= 1000) (hua : ∀ v ∈ u, v ∈ a \/ v ∈ b) (hr : r.length = a.length) (hs : s.length = b.length) :
   VC Tryz.prog 41 [.d (pS cI u), .d (pS cI a), .d (pS cI r), .d (pS cI b), .d (pS cI s)] (fun _ v => v = .tup [.d (pS cI (if glB u a r b s then glR u a r b s else [])), .d (.bool (glB u a r b s))]) := by
  refine VC.ofL EP s41 (by kernel_rfl) Tryz.func41 (by rfl) (by kernel_rfl) (by simp [Tryz.f41]) (by simp [Tryz.f41]) s41_ok fun B hl => ?_
  simp [Tryz.f41, s41_7]
  refine loop_rule (X := Nat) (fun i => i <= u.length /\ AllTo (glV a r b s) u i) (fun i => [(1, .d (.pl (a.map cI))), (2, .d (.pl (r.map cI))), (3, .d (.pl (b.map cI))), (4, .d (.pl (s.map cI))), (12, .own 17 0 i), (18, .d (.pl (u.map cI))), (19, .d (.int .i64 u.length)), (20, .d (.int .i64 i))]) (fun i => [(17, some (.row 3 1 ((glR (u.take i) a r b s).map cI)))]) (fun i => u.length - i) 0 ⟨by simp, allTo_zero⟩ (by simp) (by simp [glR]) ?_
  rintro i hs0 t m ⟨hi, hal⟩ hh
  by_cases hlt : i < u.length
  · have hwi := wr1 (i := i) (by omega)
    have hL : LenOk 8 (i + 1) := ⟨by omega, by simp only [maxLen]; omega⟩
    have hgl : (glR (u.take i) a r b s).length = i := by simp [glR]; omega
    have hst : glR (u.take (i + 1)) a r b s = glR (u.take i) a r b s ++ [if a.contains u[i] then lookV a r u[i] else lookV b s u[i]] := by
      rw [List.take_succ_eq_append_getElem hlt]; simp only [glR, List.map_append, List.map_cons, List.map_nil]
    obtain ⟨G, hG⟩ : ∃ G, G = glR (u.take i) a r b s := ⟨_, rfl⟩
    rw [<- hG] at hst hgl ⊢
    have hm := hua _ (List.getElem_mem hlt)
    obtain ⟨v, hv⟩ : ∃ v, v = u[i] := ⟨_, rfl⟩
    rw [<- hv] at hm hst
    have key : ∀ (x y : List Int), y.length = x.length -> v ∈ x -> ∃ p : Nat, idxL x v = p /\ ∃ h : p < y.length, lookV x y v = y[p] := fun x y hl hx => by
      have h1 := (idxL_mem hx).1
      have h0 : 0 <= idxL x v := by rw [idxL, if_pos hx]; omega
      exact ⟨(idxL x v).toNat, (Int.toNat_of_nonneg h0).symm, by omega, by rw [lookV, getD_el _ (by omega)]⟩
    have kno : ∀ x : List Int, v ∉ x -> idxL x v = -1 := fun x hx => by rw [idxL, if_neg hx]
    simp [hlt, <- hv, s41_7, ]
    refine call_f (w_impl_indexOf a v) (by simp) rfl fun hs1 hh1 => ?_
    simp at hh1
    simp [s41_7, ]
    refine call_f (w_impl_indexOf b v) (by simp) rfl fun hs2 hh2 => ?_
    simp at hh2
    by_cases hva : v ∈ a
    · obtain ⟨p, hpa, hp, hpr⟩ := key a r hr hva
      have hca : a.contains v = true := List.contains_iff_mem.2 hva
      rw [hca, if_pos rfl, hpr] at hst
      by_cases hvb : v ∈ b
      · obtain ⟨q, hqb, hq, hqr⟩ := key b s hs hvb
        have hcb : b.contains v = true := List.contains_iff_mem.2 hvb
        have hgv : glV a r b s v = decide (r[p] = s[q]) := by rw [glV, hca, hcb, hpr, hqr]; simp
        by_cases he : r[p] = s[q]
        · simp [hpa, hqb, hp, hq, he, hwi, hL, hgl, List.take_of_length_le, s41_7, ]
          exact back (i + 1) ⟨by omega, allTo_step hal hlt (by rw [<- hv, hgv]; simp [he])⟩ (by omega) rfl (by simp <;> omega) (by simp) (by simp [hst, he])
        · have hbad := all_bad (p := glV a r b s) hlt (by rw [<- hv, hgv]; simp [he])
          have hg : glB u a r b s = false := hbad
          simp [hpa, hqb, hp, hq, he, hg, s41_7, ]
      · have hqb := kno b hvb
        have hcb : b.contains v = false := by simpa using hvb
        have hgv : glV a r b s v = true := by rw [glV, hcb]; simp
        simp [hpa, hqb, hp, hwi, hL, hgl, List.take_of_length_le, s41_7, ]
        exact back (i + 1) ⟨by omega, allTo_step hal hlt (by rw [<- hv, hgv])⟩ (by omega) rfl (by simp <;> omega) (by simp) (by simp [hst])
    · have hpa := kno a hva
      have hca : a.contains v = false := by simpa using hva
      have hvb := hm.resolve_left hva
      obtain ⟨q, hqb, hq, hqr⟩ := key b s hs hvb
      rw [hca, hqr] at hst
      simp only [Bool.false_eq_true, if_false] at hst
      have hgv : glV a r b s v = true := by rw [glV, hca]; simp
      simp [hpa, hqb, hq, hwi, hL, hgl, List.take_of_length_le, s41_7, ]
      exact back (i + 1) ⟨by omega, allTo_step hal hlt (by rw [<- hv, hgv])⟩ (by omega) rfl (by simp <;> omega) (by simp) (by simp [hst])
  · have hd := allTo_done hal (by omega)
    have hg : glB u a r b s = true := hd
    have hn : i = u.length := by omega
    subst hn
    simp [hg, List.take_of_length_le, glR, s41_7, ]
end
section
attribute [local simp] plI_id plStr_id map_plI map_plStr pS cP cI dSl
theorem uniL_snoc {a b : List Int} {i : Nat} (h : i < b.length) : uniL a (b.take (i + 1)) = insI (uniL a (b.take i)) b[i] := by
  rw [List.take_succ_eq_append_getElem h, uniL, List.foldl_append]; rfl
theorem insI_len (l : List Int) (n : Int) : (insI l n).length <= l.length + 1 := by
  rw [insI]
  split
  · omega
  · simp only [List.length_append, List.length_take, List.length_cons, List.length_drop]; omega
theorem uniL_len (a : List Int) : ∀ (b : List Int), (uniL a b).length <= a.length + b.length := by
  intro b
  induction b generalizing a with
  | nil => simp [uniL]
  | cons x r ih =>
    have h1 := ih (insI a x)
    have h2 := insI_len a x
    have : uniL a (x :: r) = uniL (insI a x) r := rfl
    rw [this, List.length_cons]; omega
theorem t_impl_unite (a b : Ints) (hl : a.xs.length + b.xs.length <= 1000) : VC Tryz.prog 39 [.d (dSl cI a), .d (dSl cI b)] (fun n r => ∃ y : Ints, r = .d (dSl cI y) /\ y.xs = uniL a.xs b.xs /\ okS okI y /\ Good (cS cI y) (whS whI y) n) := by
  refine VC.ofB E s39 (by kernel_rfl) Tryz.func39 (by rfl) (by kernel_rfl) (by simp [Tryz.f39]) (by simp [Tryz.f39]) s39_ok fun B hB => ?_
  obtain ⟨aid, aT, al⟩ := a
  obtain ⟨bid, bT, bl⟩ := b
  simp only at hl
  have hbB : ∀ g, bid = some g -> g < B := fun g h => hB g (by simp [idsVL, V.ids, D.ids, h])
  simp [Tryz.f39, s39_9]
  refine call_some ((e_copyIntsT al (by omega)).er (As := [.d (dSl cI ⟨aid, aT, al⟩)]) (by simp [erI])) (by simp) (by simp) fun n1 hs1 r1 hn1 hm1 hp1 hr1 => ?_
  obtain ⟨g1, rfl, _, hg1, hg1n⟩ := hp1
  have hi1 : ∀ k, g1 = some k -> k < hs1 := fun k hk => hr1 k (by simp [V.ids, D.ids, hk])
  simp at hn1
  simp [s39_9, ]
  refine loop_ruleL (X := Nat × Option Nat) (fun p h => p.1 <= bl.length /\ (∀ g, p.2 = some g -> B <= g /\ g < h) /\ (p.2 = none -> uniL al (bl.take p.1) = [])) (fun p => [(5, .d (.sl p.2 (some (3, 1)) ((uniL al (bl.take p.1)).map cI))), (11, .d (.sl bid bT (bl.map cI))), (12, .d (.int .i64 bl.length)), (13, .d (.int .i64 p.1))]) (fun _ => []) (fun p => bl.length - p.1) ?_ ?_
  · exact Lead.of ⟨(0, g1), ⟨by simp, fun g hg => ⟨by have := hg1 g hg; omega, hi1 g hg⟩, fun h => by simpa [uniL] using hg1n h⟩, rfl, rfl, Nat.le_refl _, by simp [uniL], by simp⟩
  rintro ⟨i, id⟩ hs t m ⟨hi, hid, hnone⟩ hh
  simp only at hi hid hnone
  by_cases hlt : i < bl.length
  · have hwi := wr1 (i := i) (by omega)
    have hst := uniL_snoc (a := al) hlt
    have hul := uniL_len al (bl.take i)
    rw [List.length_take] at hul
    obtain ⟨l, hld⟩ : ∃ l, l = uniL al (bl.take i) := ⟨_, rfl⟩
    obtain ⟨n, hn⟩ : ∃ n, n = bl[i] := ⟨_, rfl⟩
    rw [<- hld, <- hn] at hst
    rw [<- hld] at hul hnone ⊢
    refine anyQ2 fun Q => ?_
    simp [hlt, <- hn, s39_9, ]
    refine loop_rule (X := Nat) (fun k => k <= l.length /\ AllTo (fun x => decide (x < n)) l k) (fun k => [(5, .d (.sl id (some (3, 1)) (l.map cI))), (7, .d (.int .i64 n)), (8, .d (.int .i64 k)), (11, .d (.sl bid bT (bl.map cI))), (12, .d (.int .i64 bl.length)), (13, .d (.int .i64 i))]) (fun _ => []) (fun k => l.length - k) 0 ⟨by simp, allTo_zero⟩ (by simp) (by simp) ?_
    rintro k hs2 t2 m2 ⟨hk, hal⟩ hh2
    by_cases hkl : k < l.length
    · by_cases hless : l[k] < n
      · have hwk := wr1 (i := k) (by omega)
        refine anyQ fun Q => ?_
        simp [hkl, hless, hwk, s39_9, ]
        exact back (k + 1) ⟨by omega, allTo_step hal hkl (by simp [hless])⟩ (by omega) rfl (by simp <;> omega) (by simp) (by simp)
      have hK : (l.takeWhile fun x => decide (x < n)).length = k := takeWhile_at hal hk fun h => by simp [hless]
      by_cases heq : l[k] = n
      · have hins : insI l n = l := by rw [insI, hK, getD_el _ hkl, if_pos heq]
        simp [hkl, hless, heq, hwi, show ¬ (k : Int) = l.length by omega, s39_9, ]
        refine back2 (i + 1, id) ⟨by simp only; omega, fun g hg => ?_, fun h => ?_⟩ (by simp only; omega) rfl (by simp <;> omega) (by simp [hst, hins]) (by simp)
        · have := hid g hg; exact ⟨this.1, by simp; omega⟩
        · rw [hst, hins]; exact hnone h
      · have hins : insI l n = l.take k ++ n :: l.drop k := by rw [insI, hK, getD_el _ hkl, if_neg heq]
        simp [hkl, hless, heq, hwi, show ¬ (k : Int) = l.length by omega, show k <= l.length by omega, s39_9, ]
        have hki : k <= l.length := hk
        have L1 : LenOk 8 (k + 1) := ⟨by omega, by simp only [maxLen]; omega⟩
        have L1' : LenOk 8 1 := ⟨by omega, by simp only [maxLen]; omega⟩
        have L2 : LenOk 8 (k + 1 + (l.length - k)) := ⟨by omega, by simp only [maxLen]; omega⟩
        have L2' : LenOk 8 (1 + l.length) := ⟨by omega, by simp only [maxLen]; omega⟩
        have hmn : min k l.length = k := by omega
        have hpl : ∀ L : List Int, hpLL (L.map cI) = false := fun L => hpLL_mapI L
        repeat' apply And.intro
        all_goals
          refine call_some ((e_copyIntsT (l.take k) (by simp; omega)).er (by simp only [<- List.map_take]; simp [-List.map_take, erI])) (by simp) (by simp) fun n2 hs3 r2 hn2 hm2 hp2 hr2 => ?_
          obtain ⟨g2, rfl, _, hg2, hg2n⟩ := hp2
          have hn2' : hs2 <= n2 := hn2
          have hins2 : l.take k ++ n :: l.drop k = insI l n := hins.symm
          cases g2 with
          | none =>
            have hk0 : k = 0 := by
              have := congrArg List.length (hg2n rfl)
              simp only [List.length_take, List.length_nil] at this
              by_cases h : l.length = 0
              · omega
              · omega
            subst hk0
            have hins3 : insI l n = n :: l := by simpa using hins
            simp [L1', L2', hwi, List.take_of_length_le, s39_9, ]
            refine Back2.lead (lead_frz 49 (T := 3) (sz := 1) (es := (n :: l).map cI) (by simp)) ?_
            rintro _ ⟨γ, hs', h2, hg, rfl⟩
            obtain ⟨q1, q2⟩ := gam_at hg (k := 49) (T := 3) (sz := 1) (es := (n :: l).map cI) (by simp)
            clear hg
            simp only at h2 q1
            have hp0 := hpl (n :: l)
            have hp1 := hpl l
            refine back2 (i + 1, γ 49) ⟨by simp only; omega, fun g hg => ?_, fun h => absurd h (q2 (by simp))⟩ (by simp only; omega) rfl (by simp <;> omega) (by simp [hst, hins3, hp0, hp1, Vs.frz, St.frz, Nat.add_comm 1, List.take_of_length_le]) (by simp)
            exact ⟨(q1 g hg).1, by simpa using (q1 g hg).2⟩
          | some g =>
            have hgn := hg2 g rfl
            have kg : ∀ j, j < n2 -> kphi (some g) j = none := fun j hj => by simp only [kphi]; rw [if_neg (by simp; omega)]
            have e5 : reV (kphi (some g)) (.d (.sl id (some (3, 1)) (l.map cI))) = .d (.sl id (some (3, 1)) (l.map cI)) := reV_id (.d (dSl cI ⟨id, some (3, 1), l⟩)) fun j hj => kg j (by
              rcases mem_sl_ids.1 hj with h | h
              · have := (hid j h).2; omega
              · simp at h)
            have eD : ∀ (T0 : Option (TypeId × Nat)) (L : List Int), reV (kphi (some g)) (.d (.sl id T0 (L.map cI))) = .d (.sl id T0 (L.map cI)) := fun T0 L => reV_id (.d (dSl cI ⟨id, T0, L⟩)) fun j hj => kg j (by
              rcases mem_sl_ids.1 hj with h | h
              · have := (hid j h).2; omega
              · simp at h)
            have e11 : reV (kphi (some g)) (.d (.sl bid bT (bl.map cI))) = .d (.sl bid bT (bl.map cI)) := reV_id (.d (dSl cI ⟨bid, bT, bl⟩)) fun j hj => kg j (by
              rcases mem_sl_ids.1 hj with h | h
              · have := hbB j h; omega
              · simp at h)
            have hgB : B <= g := by omega
            have hids : ∀ L : List Int, g ∉ idsLL (L.map cI) := fun L => by simp
            simp [hgB, L1, L2, hmn, hwi, St.kill, e5, e11, eD, <- List.map_take, <- List.map_drop, List.take_of_length_le, s39_9, ]
            refine ⟨by simp [idsLL, idsL, D.ids], ?_⟩
            have a1 : k + 1 + (l.length - k) = l.length + 1 := by omega
            have hil : (insI l n).length = l.length + 1 := by rw [hins]; simp; omega
            refine Back2.lead (lead_frz 49 (T := 3) (sz := 1) (es := (insI l n).map cI) (by rw [hins]; simp [List.map_take, List.map_drop])) ?_
            rintro _ ⟨γ, hs', h2, hg, rfl⟩
            obtain ⟨q1, q2⟩ := gam_at hg (k := 49) (T := 3) (sz := 1) (es := (insI l n).map cI) (by rw [hins]; simp [List.map_take, List.map_drop])
            clear hg
            simp only at h2 q1
            have hp0 := hpl (insI l n)
            refine back2 (i + 1, γ 49) ⟨by simp only; omega, fun g hg => ?_, fun h => absurd h (q2 (by rw [hins]; simp))⟩ (by simp only; omega) rfl (by simp <;> omega) ?_ (by simp)
            · exact ⟨(q1 g hg).1, by simpa using (q1 g hg).2⟩
            · simp [hst, hp0, hil, a1, Vs.frz, St.frz, List.take_of_length_le]
    · have hkn : k = l.length := by omega
      subst hkn
      have hK : (l.takeWhile fun x => decide (x < n)).length = l.length := takeWhile_at hal hk fun h => absurd h hkl
      have hins : insI l n = l ++ [n] := by
        have h0 : l.getD l.length (n + 1) ≠ n := by simp [List.getD]; omega
        rw [insI, hK, if_neg h0]; simp
      simp [hwi, s39_9, ]
      have L1 : LenOk 8 (l.length + 1) := ⟨by omega, by simp only [maxLen]; omega⟩
      have L1' : LenOk 8 1 := ⟨by omega, by simp only [maxLen]; omega⟩
      have hpl : ∀ L : List Int, hpLL (L.map cI) = false := fun L => hpLL_mapI L
      repeat' apply And.intro
      all_goals
        refine call_some ((e_copyIntsT l (by omega)).er (by simp [erI, List.take_of_length_le])) (by simp) (by simp) fun n2 hs3 r2 hn2 hm2 hp2 hr2 => ?_
        obtain ⟨g2, rfl, _, hg2, hg2n⟩ := hp2
        have hn2' : hs2 <= n2 := hn2
        cases g2 with
        | none =>
          have hl0 : l = [] := hg2n rfl
          subst hl0
          have hins3 : insI [] n = [n] := by simpa using hins
          simp [L1', hwi, List.take_of_length_le, s39_9, ]
          refine Back2.lead (lead_frz 49 (T := 3) (sz := 1) (es := [n].map cI) (by simp)) ?_
          rintro _ ⟨γ, hs', h2, hg, rfl⟩
          obtain ⟨q1, q2⟩ := gam_at hg (k := 49) (T := 3) (sz := 1) (es := [n].map cI) (by simp)
          clear hg
          simp only at h2 q1
          have hp0 := hpl [n]
          refine back2 (i + 1, γ 49) ⟨by simp only; omega, fun g hg => ?_, fun h => absurd h (q2 (by simp))⟩ (by simp only; omega) rfl (by simp <;> omega) (by simp [hst, hins3, hp0, Vs.frz, St.frz, List.take_of_length_le]) (by simp)
          exact ⟨(q1 g hg).1, by simpa using (q1 g hg).2⟩
        | some g =>
          have hgn := hg2 g rfl
          have kg : ∀ j, j < n2 -> kphi (some g) j = none := fun j hj => by simp only [kphi]; rw [if_neg (by simp; omega)]
          have eD : ∀ (T0 : Option (TypeId × Nat)) (L : List Int), reV (kphi (some g)) (.d (.sl id T0 (L.map cI))) = .d (.sl id T0 (L.map cI)) := fun T0 L => reV_id (.d (dSl cI ⟨id, T0, L⟩)) fun j hj => kg j (by
            rcases mem_sl_ids.1 hj with h | h
            · have := (hid j h).2; omega
            · simp at h)
          have e11 : reV (kphi (some g)) (.d (.sl bid bT (bl.map cI))) = .d (.sl bid bT (bl.map cI)) := reV_id (.d (dSl cI ⟨bid, bT, bl⟩)) fun j hj => kg j (by
            rcases mem_sl_ids.1 hj with h | h
            · have := hbB j h; omega
            · simp at h)
          have eD0 : ∀ (T0 : Option (TypeId × Nat)), reV (kphi (some g)) (.d (.sl id T0 [])) = .d (.sl id T0 []) := fun T0 => eD T0 []
          have hgB : B <= g := by omega
          simp [hgB, L1, hwi, St.kill, eD, eD0, e11, List.take_of_length_le, s39_9, ]
          refine ⟨by simp [idsLL, idsL, D.ids], ?_⟩
          refine Back2.lead (lead_frz 49 (T := 3) (sz := 1) (es := (insI l n).map cI) (by rw [hins]; simp)) ?_
          rintro _ ⟨γ, hs', h2, hg, rfl⟩
          obtain ⟨q1, q2⟩ := gam_at hg (k := 49) (T := 3) (sz := 1) (es := (insI l n).map cI) (by rw [hins]; simp)
          clear hg
          simp only at h2 q1
          have hp0 := hpl (insI l n)
          have hil : (insI l n).length = l.length + 1 := by rw [hins]; simp
          refine back2 (i + 1, γ 49) ⟨by simp only; omega, fun g hg => ?_, fun h => absurd h (q2 (by rw [hins]; simp))⟩ (by simp only; omega) rfl (by simp <;> omega) ?_ (by simp)
          · exact ⟨(q1 g hg).1, by simpa using (q1 g hg).2⟩
          · simp [hst, hp0, hil, Vs.frz, St.frz, List.take_of_length_le]
  · have hn : i = bl.length := by omega
    subst hn
    simp [hlt, List.take_of_length_le, s39_9, ]
    have hul := uniL_len al bl
    exact ⟨⟨id, some (3, 1), uniL al bl⟩, ⟨rfl, rfl, rfl⟩, rfl, ⟨by simp only [maxLen]; omega, by simp [okI]⟩, good_ints (fun g hg => (hid g hg).1) (fun h hn => h (by simpa using hnone hn))⟩
end
end Go.Proofs.YtmgphabeodaokaaGreat
namespace Go.Proofs.YtmgphabeodaokaaGreat
open Go.Vs Go.Proofs Go
set_option maxRecDepth 100000
set_option maxHeartbeats 1000000
section
attribute [local simp] plI_id plStr_id map_plI map_plStr pS cP cI
theorem p_impl_pick (row cols : List Int) (hb : cols.length <= 4294967296) (hc : ∀ c ∈ cols, 0 <= c /\ c < row.length) : VC Tryz.prog 44 [.d (pS cI row), .d (pS cI cols)] (fun _ r => r = .d (pS cI (pickR cols row))) := by
  refine VC.ofL EP s44 (by kernel_rfl) Tryz.func44 (by rfl) (by kernel_rfl) (by simp [Tryz.f44]) (by simp [Tryz.f44]) s44_ok fun B hl => ?_
  simp [Tryz.f44]
  refine loop_rule (X := Nat) (fun i => i <= cols.length) (fun i => [(0, .d (.pl (row.map cI))), (5, .own 8 0 i), (9, .d (.pl (cols.map cI))), (10, .d (.int .i64 cols.length)), (11, .d (.int .i64 i))])
    (fun i => [(8, some (.row 3 1 ((pickR (cols.take i) row).map cI)))]) (fun i => cols.length - i) 0 (by simp) (by simp) (by simp [pickR]) ?_
  intro i hs t m hi hh
  by_cases hlt : i < cols.length
  · have hwi := wr1 (i := i) (by omega)
    have h1 := hc _ (List.getElem_mem hlt)
    have hst := pickR_step hlt hc
    obtain ⟨k, hk⟩ : ∃ k : Nat, cols[i] = (k : Int) := ⟨cols[i].toNat, by omega⟩
    have hkl : k < row.length := by omega
    have hL : LenOk 8 (i + 1) := ⟨by omega, by simp only [maxLen]; omega⟩
    have hpl : (pickR (cols.take i) row).length = i := by rw [pickR_len, List.length_take]; omega
    simp only [hk, Int.toNat_natCast] at hst
    simp [hlt, hk, hkl, hL, hwi, hpl, ]
    exact back (i + 1) (by omega) (by omega) rfl (by simp <;> omega) (by simp) (by simp [hst])
  · have hn : i = cols.length := by omega
    subst hn
    simp [List.take_of_length_le, pickR_len]
theorem w_impl_sorted (l : List (List Int)) (h1 : l.length <= 4294967296) (h2 : ∀ r ∈ l, r.length <= 4294967296) : VC Tryz.prog 95 [.d (pS (cP cI) l)] (fun _ r => r = .d (pS (cP cI) (srtU l))) :=
  VC.plain (e_impl_sorted _ l (Nat.le_refl _) h1 h2) (fun n r h => by
    obtain ⟨y, rfl, hp, _, _⟩ := h
    have e := er_cS (c := cS cI) (e := cP cI) (pl := plS plI) (fun s => er_cS er_cI s) y
    rw [hp] at e
    simp only [cS, cP, erL, List.cons.injEq, and_true] at e
    simp only [rp, e, pS]) (by rw [pS]; rfl)
theorem w_impl_AtomBindings (d : PDb) (a : PAtom) (hlk : lkB d a.rel = true) (har : (lkR d a.rel).ar = a.vars.length) (hv5 : a.vars.length <= 5) (hv : ∀ v ∈ a.vars, 0 <= v /\ v < 5) :
   VC Tryz.prog 37 [.agg ((eDb d).map V.d), .agg ((eAtom a).map V.d)] (fun _ r => r = .agg ((eReln ⟨(aVars a.vars).length, abR d a⟩).map V.d)) := by
  have hr := lk_ok hlk
  have hr16 := lk_rows hlk
  obtain ⟨dl, hdl⟩ : ∃ dl, dl = d.tabs := ⟨_, rfl⟩
  have hde : (eDb d).map V.d = [V.d (.pl (dl.map eTab))] := by rw [hdl]; simp [eDb]
  obtain ⟨nm, vs⟩ := a
  simp only at hlk har hv5 hv hr hr16
  have hav : (aVars vs).length <= 5 := by
    have := List.length_filter_le (fun v => vs.contains v) (rangeI 5)
    rw [rangeI_len] at this
    exact this
  have hAVm : ∀ c ∈ aVars vs, 0 <= c /\ c < ((5 : Nat) : Int) := fun c hc => by
    have := (List.mem_filter.1 hc).1
    have := rangeI_mem.1 this
    omega
  have hrl := fun (t : List Int) (ht : t ∈ (lkR d nm).rows) => (rowsOk_mem hr ht).1
  refine VC.ofL EP s37 (by kernel_rfl) Tryz.func37 (by rfl) (by kernel_rfl) (by simp [Tryz.f37]) (by simp [Tryz.f37]) s37_ok fun B hl => ?_
  simp [Tryz.f37, s37_16, eAtom, cStr, hde]
  refine call_p (w_impl_AtomVariables ⟨nm, vs⟩) (by simp [eAtom, cStr]) fun hs1 hh1 hl1 => ?_
  simp at hh1
  obtain ⟨AV, hAV⟩ : ∃ AV, AV = aVars vs := ⟨_, rfl⟩
  rw [<- hAV] at hl1 hav hAVm ⊢
  simp [s37_16, ]
  refine call_p (w_impl_LookupRelation d nm) (by simp [hde]) fun hs2 hh2 hl2 => ?_
  simp at hh2
  obtain ⟨R, hR⟩ : ∃ R, R = lkR d nm := ⟨_, rfl⟩
  have hab : abR d ⟨nm, vs⟩ = srtU (abL vs R.rows) := by rw [hR]; rfl
  rw [<- hR] at hl2 har hr16 hrl ⊢
  rw [hab, hlk]
  obtain ⟨ra, rl⟩ := R
  simp only at har hr16 hrl
  subst har
  have hco : colsOk 5 vs = true := by
    simp only [colsOk, Bool.and_eq_true, decide_eq_true_eq, List.all_eq_true, inR]
    refine ⟨hv5, fun v hm => ?_⟩
    have := hv v hm
    have hw : IntKind.i64.wrap (5 - 1) = 4 := by decide
    rw [hw]; omega
  simp [eReln, s37_16, ]
  refine call_f (w_impl_columnsFit 5 vs) (by simp) rfl fun hs3 hh3 => ?_
  simp at hh3
  rw [hco]
  simp [s37_16, ]
  refine loop_ruleL (X := Nat) (fun i _ => i <= rl.length) (fun i => [(3, .ptr 3 0 0), (4, .ptr 4 0 0), (5, .d (.pl (AV.map cI))), (6, .ptr 6 0 0), (9, .own 92 0 (abL vs (rl.take i)).length), (47, .d (.pl (rl.map (cP cI)))), (48, .d (.int .i64 rl.length)), (49, .d (.int .i64 i))])
    (fun i => [(3, some (.box [.d (.str nm), .d (.pl (vs.map cI))])), (4, some (.box [.d (.int .i64 0), .d (.sl none none [])])), (6, some (.box [.d (.int .i64 AV.length), .d (.sl none none [])])), (92, some (.row 28 1 ((abL vs (rl.take i)).map (cP cI))))]) (fun i => rl.length - i) ?_ ?_
  · refine (lead_slot 9 92 28 1 (by omega) (by omega) (by simp)).bind ?_
    rintro _ rfl
    exact Lead.of ⟨0, by omega, rfl, rfl, Nat.le_refl _, by simp [abL], by simp [abL]⟩
  intro i hs t m hi hh
  by_cases hlt : i < rl.length
  · have hwi := wr1 (i := i) (by omega)
    have hst := abL_succ (vs := vs) hlt
    have hal := abL_len vs (rl.take i)
    rw [List.length_take] at hal
    obtain ⟨row, hrow⟩ : ∃ row, row = rl[i] := ⟨_, rfl⟩
    have hrvl : row.length = vs.length := by
      have := hrl _ (List.getElem_mem hlt)
      rw [<- hrow] at this; omega
    rw [<- hrow] at hst
    obtain ⟨AL, hAL⟩ : ∃ AL, AL = abL vs (rl.take i) := ⟨_, rfl⟩
    rw [<- hAL] at hst hal ⊢
    have hL : LenOk 24 (AL.length + 1) := ⟨by omega, by simp only [maxLen]; omega⟩
    have L5 : LenOk 8 5 := ⟨by omega, by simp only [maxLen]; omega⟩
    refine anyQ2 fun Q => ?_
    simp [hlt, <- hrow, L5, s37_16, ]
    refine loop_rule (X := Nat) (fun j => j <= vs.length) (fun j => [(3, .ptr 3 0 0), (4, .ptr 4 0 0), (5, .d (.pl (AV.map cI))), (6, .ptr 6 0 0), (9, .own 92 0 AL.length), (11, .d (.pl (row.map cI))), (12, .own 53 0 5), (13, .d (.bool (fitJ vs row j))), (47, .d (.pl (rl.map (cP cI)))), (48, .d (.int .i64 rl.length)), (49, .d (.int .i64 i)), (55, .d (.pl (vs.map cI))), (56, .d (.int .i64 vs.length)), (57, .d (.int .i64 j))])
      (fun j => [(3, some (.box [.d (.str nm), .d (.pl (vs.map cI))])), (4, some (.box [.d (.int .i64 0), .d (.sl none none [])])), (6, some (.box [.d (.int .i64 AV.length), .d (.sl none none [])])), (53, some (.row 3 1 ((valJ vs row j).map cI))), (92, some (.row 28 1 (AL.map (cP cI))))]) (fun j => vs.length - j) 0 (by simp) (by simp [fitJ_zero]) (by simp [valJ_zero]) ?_
    intro j hs4 t m hj hh4
    by_cases hjl : j < vs.length
    · have hwj := wr1 (i := j) (by omega)
      have hjr : j < row.length := by omega
      have hvj := hv _ (List.getElem_mem hjl)
      obtain ⟨v, hve⟩ : ∃ v : Nat, vs[j] = (v : Int) := ⟨vs[j].toNat, by omega⟩
      have hv5' : v < 5 := by omega
      have hix := (idxL_mem (List.getElem_mem hjl)).1
      obtain ⟨p, hp⟩ : ∃ p : Nat, idxL vs (v : Int) = (p : Int) := by
        rw [<- hve]
        have := idxL_ge vs vs[j]
        have h2 : vs.contains vs[j] = true := by simp
        rw [h2] at this
        exact ⟨(idxL vs vs[j]).toNat, by have := of_decide_eq_true this; omega⟩
      have hpr : p < row.length := by rw [hve, hp] at hix; omega
      have hf := fitJ_succ vs row j
      have hvs := valJ_succ (vs := vs) (row := row) hjl hjr
      have hvl := valJ_len vs row j
      rw [getD_el _ hjl, getD_el _ hjr, lookV, hve, hp, Int.toNat_natCast, getD_el _ hpr] at hf
      rw [hve, Int.toNat_natCast] at hvs
      simp [hjl, hve, s37_16, ]
      refine call_f (w_impl_indexOf vs v) (by simp) rfl fun hs5 hh5 => ?_
      simp at hh5
      rw [hp]
      cases hfj : fitJ vs row j
      · rw [hfj] at hf
        simp [hwj, hjr, hpr, hv5', hvl, -List.map_set, s37_16, ]
        exact back (j + 1) (by omega) (by omega) rfl (by simp <;> omega) (by simp [hf]) (by rw [hvs]; simp)
      · rw [hfj] at hf
        simp [hwj, hjr, hpr, hv5', hvl, -List.map_set, s37_16, ]
        exact back (j + 1) (by omega) (by omega) rfl (by simp <;> omega) (by simp [hf]) (by rw [hvs]; simp)
    · have hn : j = vs.length := by omega
      subst hn
      have hvl5 := valJ_len vs row vs.length
      rw [valJ_all hrvl] at hvl5
      rw [fitJ_all hrvl, valJ_all hrvl]
      cases hfr : fitR vs row
      · simp [hwi, s37_16, ]
        refine back2 (i + 1) (by omega) (by omega) rfl (by simp <;> omega) ?_ ?_
        · rw [hst, hfr]; simp
        · rw [hst, hfr]; simp
      · simp [hwi, s37_16, ]
        refine call_p (p_impl_pick (valL vs row) AV (by omega) (fun c hc => by rw [hvl5]; exact hAVm c hc)) (by simp [List.take_of_length_le, hvl5]) fun hs5 hh5 hl5 => ?_
        simp at hh5
        simp [hwi, hL, List.take_of_length_le, s37_16, ]
        refine back2 (i + 1) (by omega) (by omega) rfl (by simp <;> omega) ?_ ?_
        · rw [hst, hfr]; simp [hAV]
        · rw [hst, hfr]; simp [hAV]
  · have hn : i = rl.length := by omega
    subst hn
    simp [s37_16, ]
    refine call_p (w_impl_sorted (abL vs rl) (by have := abL_len vs rl; omega) (fun r hr => by have := abL_el r hr; omega)) (by simp [List.take_of_length_le]) fun hs5 hh5 hl5 => ?_
    simp at hh5
    simp [s37_16, ]
end
end Go.Proofs.YtmgphabeodaokaaGreat
namespace Go.Proofs.YtmgphabeodaokaaGreat
open Go.Vs Go.Proofs Go
set_option maxRecDepth 100000
set_option maxHeartbeats 1000000
section
attribute [local simp] plI_id plStr_id map_plI map_plStr pS cP cI
theorem e_impl_unite (a b : List Int) (hl : a.length + b.length <= 1000) : VC Tryz.prog 39 [.d (pS cI a), .d (pS cI b)] (fun n r => ∃ y : Ints, r = .d (dSl cI y) /\ y.xs = uniL a b /\ okS okI y /\ Good (cS cI y) (whS whI y) n) := by
  refine VC.untrack (t_impl_unite ⟨none, none, []⟩ ⟨none, none, []⟩ (by simp)) (by simp [pnVL, V.pn, D.pn]) fun As h1 h2 h3 => ?_
  obtain ⟨x, y, rfl, ⟨hx, tx, _⟩, hy, ty, _⟩ := rp_args2 h1 h2 h3
  obtain ⟨s, rfl, e1⟩ := rp_sl tk_I hx tx
  obtain ⟨t, rfl, e2⟩ := rp_sl tk_I hy ty
  simp [plS] at e1 e2
  have := t_impl_unite s t (by rw [e1, e2]; exact hl)
  rw [e1, e2] at this
  exact this
theorem p_impl_unite (a b : List Int) (hl : a.length + b.length <= 1000) : VC Tryz.prog 39 [.d (pS cI a), .d (pS cI b)] (fun _ r => r = .d (pS cI (uniL a b))) := by
  refine VC.plain (e_impl_unite a b hl) (fun n r h => ?_) (by rw [pS]; rfl)
  obtain ⟨y, rfl, e1, _, _⟩ := h
  have e := er_cS (c := cI) (e := cI) (pl := plI) er_cI y
  simp [plS, e1, cS, erL] at e
  simp only [rp, e, pS]
theorem w_impl_AtomRelation (d : PDb) (a : PAtom) (hlk : lkB d a.rel = true) (har : (lkR d a.rel).ar = a.vars.length) (hv5 : a.vars.length <= 5) (hv : ∀ v ∈ a.vars, 0 <= v /\ v < 5) :
   VC Tryz.prog 110 [.agg ((eDb d).map V.d), .agg ((eAtom a).map V.d)] (fun _ r => r = .agg ((eVRel ⟨aVars a.vars, ⟨(aVars a.vars).length, abR d a⟩⟩).map V.d)) := by
  obtain ⟨dl, hdl⟩ : ∃ dl, dl = d.tabs := ⟨_, rfl⟩
  have hde : (eDb d).map V.d = [V.d (.pl (dl.map eTab))] := by rw [hdl]; simp [eDb]
  obtain ⟨nm, vs⟩ := a
  refine VC.ofL EP s110 (by kernel_rfl) Tryz.func110 (by rfl) (by kernel_rfl) (by simp [Tryz.f110]) (by simp [Tryz.f110]) s110_ok fun B hl => ?_
  simp [Tryz.f110, s110_1, eAtom, cStr, hde]
  refine call_p (w_impl_AtomVariables ⟨nm, vs⟩) (by simp [eAtom, cStr]) fun hs1 hh1 hl1 => ?_
  simp at hh1
  simp [s110_1, ]
  refine call_p (w_impl_AtomBindings d ⟨nm, vs⟩ hlk har hv5 hv) (by simp [eAtom, cStr, hde]) fun hs2 hh2 hl2 => ?_
  simp at hh2
  simp [eReln, eVRel, s110_1, ]
theorem w_impl_IsQueryFor (d : PDb) (q : PQuery) : VC Tryz.prog 34 [.agg ((eDb d).map V.d), .agg ((eQuery q).map V.d)] (fun _ r => r = .d (.bool (qryFor d q))) := by
  obtain ⟨dl, hdl⟩ : ∃ dl, dl = d.tabs := ⟨_, rfl⟩
  have hde : (eDb d).map V.d = [V.d (.pl (dl.map eTab))] := by rw [hdl]; simp [eDb]
  have hqe : (eQuery q).map V.d = [V.d (.int .i64 q.n), V.d (.pl (q.atoms.map eAtom)), V.d (.pl (q.out.map cI))] := by simp [eQuery]
  refine VC.ofL EP s34 (by kernel_rfl) Tryz.func34 (by rfl) (by kernel_rfl) (by simp [Tryz.f34]) (by simp [Tryz.f34]) s34_ok fun B hl => ?_
  simp [Tryz.f34, hde, hqe]
  refine call_f (w_impl_IsValidQuery q) (by simp [hqe]) rfl fun hs1 hh1 => ?_
  simp at hh1
  cases hq : queryOk q
  · simp [qryFor, hq, ]
  simp []
  refine call_f (w_impl_IsValidDatabase d) (by simp [hde]) rfl fun hs2 hh2 => ?_
  simp at hh2
  cases hd : dbOk d
  · simp [qryFor, hq, hd, ]
  simp []
  have hb : ∀ b, qryFor d q = b ↔ (q.atoms.all fun a => lkB d a.rel && decide ((lkR d a.rel).ar = a.vars.length)) = b := fun b => by simp only [qryFor, hq, hd, Bool.true_and]
  refine loop_rule (X := Nat) (fun i => i <= q.atoms.length /\ AllTo (fun a => lkB d a.rel && decide ((lkR d a.rel).ar = a.vars.length)) q.atoms i) (fun i => [(2, .ptr 2 0 0), (3, .ptr 3 0 0), (18, .d (.pl (q.atoms.map eAtom))), (19, .d (.int .i64 q.atoms.length)), (20, .d (.int .i64 i))])
    (fun i => [(2, some (.box [.d (.pl (dl.map eTab))])), (3, some (.box [.d (.int .i64 q.n), .d (.pl (q.atoms.map eAtom)), .d (.pl (q.out.map cI))]))]) (fun i => q.atoms.length - i) 0 ⟨by simp, allTo_zero⟩ (by simp) (by simp) ?_
  rintro i hs t m ⟨hi, hat⟩ hh
  have hal : q.atoms.length <= 4 := queryOk_a4 hq
  by_cases hlt : i < q.atoms.length
  · have hwi := wr1 (i := i) (by omega)
    obtain ⟨⟨nm, vs⟩, ha⟩ : ∃ a, a = q.atoms[i] := ⟨_, rfl⟩
    have hnot := fun h => all_bad (l := q.atoms) (p := fun a => lkB d a.rel && decide ((lkR d a.rel).ar = a.vars.length)) hlt h
    have hst := allTo_step hat hlt
    rw [<- ha] at hnot hst
    simp [hlt, <- ha, eAtom, cStr]
    refine call_p (w_impl_LookupRelation d nm) (by simp [hde]) fun hs3 hh3 hl3 => ?_
    simp at hh3
    cases hlk : lkB d nm
    · have := hnot (by simp [hlk])
      simp [this, hb, eReln, ]
    by_cases har : (lkR d nm).ar = vs.length
    · simp [hwi, har, eReln, ]
      exact back (i + 1) ⟨by omega, hst (by simp [hlk, har])⟩ (by omega) rfl (by simp <;> omega) (by simp) (by simp)
    · have := hnot (by simp [hlk, har])
      simp [this, har, hb, eReln, ]
  · have := allTo_done hat (by omega)
    simp [hlt, this, hb, ]
theorem w_impl_bindings (d : PDb) (q : PQuery) : VC Tryz.prog 69 [.agg ((eDb d).map V.d), .agg ((eQuery q).map V.d)] (fun _ r => r = .tup [.agg ((eReln (bdP d q)).map V.d), .d (.bool (bdB d q))]) := by
  obtain ⟨dl, hdl⟩ : ∃ dl, dl = d.tabs := ⟨_, rfl⟩
  have hde : (eDb d).map V.d = [V.d (.pl (dl.map eTab))] := by rw [hdl]; simp [eDb]
  have hqe : (eQuery q).map V.d = [V.d (.int .i64 q.n), V.d (.pl (q.atoms.map eAtom)), V.d (.pl (q.out.map cI))] := by simp [eQuery]
  refine VC.ofL EP s69 (by kernel_rfl) Tryz.func69 (by rfl) (by kernel_rfl) (by simp [Tryz.f69]) (by simp [Tryz.f69]) s69_ok fun B hl => ?_
  simp [Tryz.f69, s69_25, hde, hqe]
  refine call_f (w_impl_IsQueryFor d q) (by simp [hde, hqe]) rfl fun hs1 hh1 => ?_
  simp at hh1
  cases hqf : qryFor d q
  · simp [bdB, bdP, hqf, eReln, s69_25, ]
  have f := qf_of hqf
  simp [s69_25, ]
  have ha4 := f.a4
  refine loop_ruleL (X := Nat) (fun i _ => i <= q.atoms.length) (fun i => [(2, .ptr 2 0 0), (3, .ptr 3 0 0), (4, .ptr 4 0 0), (6, .d (.pl ((binds d (q.atoms.take i)).2.map (cP cI)))), (7, .d (.pl ((binds d (q.atoms.take i)).1.map cI))), (29, .d (.pl (q.atoms.map eAtom))), (30, .d (.int .i64 q.atoms.length)), (31, .d (.int .i64 i))])
    (fun i => [(2, some (.box [.d (.pl (dl.map eTab))])), (3, some (.box [.d (.int .i64 q.n), .d (.pl (q.atoms.map eAtom)), .d (.pl (q.out.map cI))])), (4, some (.box [.d (.int .i64 0), .d (.sl none none [])]))]) (fun i => q.atoms.length - i) ?_ ?_
  · refine (lead_frp 26 (T := 28) (sz := 1) (es := [[.pl []]]) (by simp)).bind ?_
    rintro _ rfl
    refine (lead_frp 27 (T := 3) (sz := 1) (es := []) (by simp)).bind ?_
    rintro _ rfl
    exact Lead.of ⟨0, by omega, rfl, rfl, Nat.le_refl _, by simp [binds], by simp⟩
  intro i hs t m hi hh
  by_cases hlt : i < q.atoms.length
  · have hwi := wr1 (i := i) (by omega)
    have hmem := List.getElem_mem hlt
    obtain ⟨⟨nm, vs⟩, ha⟩ : ∃ a, a = q.atoms[i] := ⟨_, rfl⟩
    have hsc := binds_succ d hlt
    have hl5 := binds_len5 f i
    have hle := binds_le f (i := i) (by omega)
    have hjn := binds_jn_take f i
    rw [<- ha] at hmem hsc
    have hlk := f.lk _ hmem
    have har := f.ar _ hmem
    have hvl := f.vlen _ hmem
    have hvi : ∀ v ∈ vs, 0 <= v /\ v < 5 := fun v hv => by have := f.vin _ hmem v hv; have := f.n5; omega
    have hab := abR_size f hmem
    have hav := aVars_len5 vs
    have hul := jn_len5 f (hjn.step (a := ⟨nm, vs⟩) hvi) (fun b hb => by
      rcases List.mem_append.1 hb with h | h
      · exact List.mem_of_mem_take h
      · rw [List.mem_singleton] at h; rw [h]; exact hmem)
    have huv := uniL_pw (aVars vs) hjn.pw
    have hal : ∀ s ∈ abR d ⟨nm, vs⟩, s.length = (aVars vs).length := ab_len
    have hrl := hjn.len
    simp only at hlk har hvl
    obtain ⟨⟨A, R⟩, hAR⟩ : ∃ p, p = binds d (q.atoms.take i) := ⟨_, rfl⟩
    obtain ⟨BV, hBV⟩ : ∃ b, b = aVars vs := ⟨_, rfl⟩
    obtain ⟨L, hL⟩ : ∃ l, l = abR d ⟨nm, vs⟩ := ⟨_, rfl⟩
    obtain ⟨U, hU⟩ : ∃ u, u = uniL A BV := ⟨_, rfl⟩
    simp only [joinS, <- hAR, <- hBV, <- hL, <- hU] at hsc hl5 hle hab hav hul huv hal hrl ⊢
    refine anyQ2 fun Q => ?_
    simp [hlt, <- ha, s69_25, eAtom, cStr]
    refine call_p (w_impl_AtomRelation d ⟨nm, vs⟩ hlk har hvl.2 hvi) (by simp [hde, eAtom, cStr]) fun hs2 hh2 hl2 => ?_
    simp at hh2
    rw [<- hBV, <- hL]
    simp [s69_25, eVRel, eReln]
    refine call_p (p_impl_unite A BV (by omega)) (by simp) fun hs3 hh3 hl3 => ?_
    simp at hh3
    rw [<- hU]
    simp [s69_25, ]
    refine loop_ruleL (X := Nat) (fun k _ => k <= R.length) (fun k => [(2, .ptr 2 0 0), (3, .ptr 3 0 0), (4, .ptr 4 0 0), (7, .d (.pl (A.map cI))), (10, .ptr 10 0 0), (11, .own 70 0 (joinL U A (R.take k) BV L).length), (12, .d (.pl (U.map cI))), (29, .d (.pl (q.atoms.map eAtom))), (30, .d (.int .i64 q.atoms.length)), (31, .d (.int .i64 i)), (42, .d (.pl (R.map (cP cI)))), (43, .d (.int .i64 R.length)), (44, .d (.int .i64 k))])
      (fun k => [(2, some (.box [.d (.pl (dl.map eTab))])), (3, some (.box [.d (.int .i64 q.n), .d (.pl (q.atoms.map eAtom)), .d (.pl (q.out.map cI))])), (4, some (.box [.d (.int .i64 0), .d (.sl none none [])])), (10, some (.box [.d (.pl (BV.map cI)), .d (.int .i64 BV.length), .d (.pl (L.map (cP cI)))])), (70, some (.row 28 1 ((joinL U A (R.take k) BV L).map (cP cI))))]) (fun k => R.length - k) ?_ ?_
    · refine (lead_slot 11 70 28 1 (by omega) (by omega) (by simp)).bind ?_
      rintro _ rfl
      exact Lead.of ⟨0, by omega, rfl, rfl, Nat.le_refl _, by simp [joinL_nil], by simp [joinL_nil]⟩
    intro k hs4 t m hk hh4
    by_cases hkl : k < R.length
    · have hwk := wr1 (i := k) (by omega)
      have hrk := hrl _ (List.getElem_mem hkl)
      obtain ⟨r, hr⟩ : ∃ r, r = R[k] := ⟨_, rfl⟩
      have hgd : R.getD k [] = r := by rw [hr, List.getD_eq_getElem?_getD, List.getElem?_eq_getElem hkl]; rfl
      have hz := jnI_zero U A R BV L k
      have hA := jnI_all (u := U) (a := A) (b := BV) (list := L) hkl
      rw [<- hr] at hrk
      refine anyQ2 fun Q2 => ?_
      simp [hkl, <- hr, s69_25, ]
      refine loop_rule (X := Nat) (fun j => j <= L.length) (fun j => [(2, .ptr 2 0 0), (3, .ptr 3 0 0), (4, .ptr 4 0 0), (7, .d (.pl (A.map cI))), (10, .ptr 10 0 0), (11, .own 70 0 (jnI U A R BV L k j).length), (12, .d (.pl (U.map cI))), (14, .d (.pl (r.map cI))), (29, .d (.pl (q.atoms.map eAtom))), (30, .d (.int .i64 q.atoms.length)), (31, .d (.int .i64 i)), (42, .d (.pl (R.map (cP cI)))), (43, .d (.int .i64 R.length)), (44, .d (.int .i64 k)), (50, .d (.pl (L.map (cP cI)))), (51, .d (.int .i64 L.length)), (52, .d (.int .i64 j))])
        (fun j => [(2, some (.box [.d (.pl (dl.map eTab))])), (3, some (.box [.d (.int .i64 q.n), .d (.pl (q.atoms.map eAtom)), .d (.pl (q.out.map cI))])), (4, some (.box [.d (.int .i64 0), .d (.sl none none [])])), (10, some (.box [.d (.pl (BV.map cI)), .d (.int .i64 BV.length), .d (.pl (L.map (cP cI)))])), (70, some (.row 28 1 ((jnI U A R BV L k j).map (cP cI))))]) (fun j => L.length - j) 0 (by simp) (by simp [hz]) (by simp [hz]) ?_
      intro j hs5 t m hj hh5
      by_cases hjl : j < L.length
      · have hwj := wr1 (i := j) (by omega)
        have hsl := hal _ (List.getElem_mem hjl)
        obtain ⟨s, hs'⟩ : ∃ s, s = L[j] := ⟨_, rfl⟩
        have hsu := jnI_succ (u := U) (a := A) (rows := R) (b := BV) (k := k) hjl
        have hjle := jnI_len (u := U) (a := A) (rows := R) (b := BV) (list := L) (k := k) (j := j) (by omega) hab
        rw [<- hs'] at hsl hsu
        rw [hgd] at hsu
        obtain ⟨X, hX⟩ : ∃ x, x = jnI U A R BV L k j := ⟨_, rfl⟩
        rw [<- hX] at hsu hjle ⊢
        have hLo : LenOk 24 (X.length + 1) := ⟨by omega, by simp only [maxLen]; omega⟩
        simp [hjl, <- hs', s69_25, ]
        refine call_p (w_impl_glue U A r BV s (by omega) (fun v hv => (huv.2 v).1 hv) hrk hsl) (by simp) fun hs6 hh6 hl6 => ?_
        simp at hh6
        cases hg : glB U A r BV s
        · rw [hg] at hsu
          simp [hwj, s69_25, ]
          exact back (j + 1) (by omega) (by omega) rfl (by simp <;> omega) (by simp [hsu]) (by simp [hsu])
        · rw [hg] at hsu
          simp [hwj, hLo, List.take_of_length_le, s69_25, ]
          exact back (j + 1) (by omega) (by omega) rfl (by simp <;> omega) (by simp [hsu]) (by simp [hsu])
      · have hn : j = L.length := by omega
        subst hn
        simp [hwk, s69_25, ]
        exact back2 (k + 1) (by omega) (by omega) rfl (by simp <;> omega) (by simp [hA]) (by simp [hA])
    · have hn : k = R.length := by omega
      subst hn
      rw [List.take_of_length_le (Nat.le_refl _)]
      simp [hwi, s69_25, ]
      refine Back2.lead (lead_frp 70 (T := 28) (sz := 1) (es := (joinL U A R BV L).map (cP cI)) (by simp)) ?_
      rintro _ rfl
      exact back2 (i + 1) (by omega) (by omega) rfl (by simp <;> omega) (by simp [hsc, List.take_of_length_le]) (by simp)
  · have hn : i = q.atoms.length := by omega
    subst hn
    simp [s69_25, ]
    have hle := binds_le f (i := q.atoms.length) (by omega)
    have hjn := binds_jn f
    have hv5 := binds_len5 f q.atoms.length
    rw [List.take_of_length_le (Nat.le_refl _)] at hle hv5
    refine ⟨?_, ?_⟩
    all_goals
      refine call_p (w_impl_sorted (binds d q.atoms).2 (by omega) (fun r hr => by have := hjn.len r hr; omega)) (by simp) fun hs2 hh2 hl2 => ?_
      simp at hh2
      simp [s69_25, ]
      refine call_f (w_impl_IsValidRelation ⟨q.n, srtU (binds d q.atoms).2⟩) (by simp [eReln]) rfl fun hs3 hh3 => ?_
      simp at hh3
      cases hv : rowsOk q.n (srtU (binds d q.atoms).2)
      · simp [bdB, bdP, hqf, hv, eReln, s69_25, ]
      · simp [bdB, bdP, hqf, hv, eReln, s69_25, ]
end
end Go.Proofs.YtmgphabeodaokaaGreat
namespace Go.Proofs.YtmgphabeodaokaaGreat
open Go.Vs Go.Proofs Go
set_option maxRecDepth 100000
set_option maxHeartbeats 1000000
section
attribute [local simp] plI_id plStr_id map_plI map_plStr pS cP cI
theorem w_spec_IsQueryFor (d : PDb) (q : PQuery) (hst : ∀ t ∈ d.tabs, t.name.length <= maxLen) (hsq : ∀ a ∈ q.atoms, a.rel.length <= maxLen) : VC Tryz.prog 47 [.agg ((eDb d).map V.d), .agg ((eQuery q).map V.d)] (fun _ r => r = .d (.bool (qryFor d q))) := by
  obtain ⟨dl, hdl⟩ : ∃ dl, dl = d.tabs := ⟨_, rfl⟩
  have hde : (eDb d).map V.d = [V.d (.pl (dl.map eTab))] := by rw [hdl]; simp [eDb]
  have hqe : (eQuery q).map V.d = [V.d (.int .i64 q.n), V.d (.pl (q.atoms.map eAtom)), V.d (.pl (q.out.map cI))] := by simp [eQuery]
  refine VC.ofL EP s47 (by kernel_rfl) Tryz.func47 (by rfl) (by kernel_rfl) (by simp [Tryz.f47]) (by simp [Tryz.f47]) s47_ok fun B hl => ?_
  simp [hde, hqe, lnVL, V.ln, D.ln, maxLen] at hl
  simp [Tryz.f47, s47_4, s47_5, hde, hqe]
  refine loop_rule (X := Nat) (fun i => i <= q.atoms.length /\ AllTo (fun a => lkB d a.rel && decide ((lkR d a.rel).ar = a.vars.length)) q.atoms i) (fun i => [(2, .ptr 2 0 0), (3, .ptr 3 0 0), (5, .d (.int .i64 i))])
    (fun i => [(2, some (.box [.d (.pl (dl.map eTab))])), (3, some (.box [.d (.int .i64 q.n), .d (.pl (q.atoms.map eAtom)), .d (.pl (q.out.map cI))]))]) (fun i => q.atoms.length - i) 0 ⟨by simp, allTo_zero⟩ (by simp) (by simp) ?_
  rintro i hs t m ⟨hi, hat⟩ hh
  by_cases hlt : i < q.atoms.length
  · have hwi := wr1 (i := i) (by omega)
    obtain ⟨⟨nm, vs⟩, ha⟩ : ∃ a, a = q.atoms[i] := ⟨_, rfl⟩
    have hnot := fun h => all_bad (l := q.atoms) (p := fun a => lkB d a.rel && decide ((lkR d a.rel).ar = a.vars.length)) hlt h
    have hst' := allTo_step hat hlt
    have hb : (q.atoms.all fun a => lkB d a.rel && decide ((lkR d a.rel).ar = a.vars.length)) = false -> qryFor d q = false := fun h => by simp only [qryFor, h, Bool.and_false]
    rw [<- ha] at hnot hst'
    simp [hlt, <- ha, s47_5, eAtom, cStr]
    refine cutT (X := Unit) (fun _ _ => True) (fun _ => [(2, .ptr 2 0 0), (3, .ptr 3 0 0), (5, .d (.int .i64 i)), (6, .ptr 6 0 0), (7, .d (.bool (lkB d nm)))])
      (fun _ => [(2, some (.box [.d (.pl (dl.map eTab))])), (3, some (.box [.d (.int .i64 q.n), .d (.pl (q.atoms.map eAtom)), .d (.pl (q.out.map cI))])), (6, some (.box ((eReln (lkR d nm)).map V.d)))]) ?_ ?_
    · intro K hK
      simp [hlt, <- ha, eAtom, cStr, s47_4, ]
      repeat' apply And.intro
      all_goals
        refine call_p (w_spec_LookupRelation d nm hst) (by simp [hde]) fun hs3 hh3 hl3 => ?_
        simp at hh3
        simp [eReln, s47_4, ]
        exact hK () _ trivial rfl rfl (by simp <;> omega) (by simp) (by simp [eReln])
    rintro ⟨⟩ hs3 t m - hh3
    cases hlk : lkB d nm
    · have := hb (hnot (by simp [hlk]))
      simp [this, eReln, s47_4, s47_5, ]
    by_cases har : (lkR d nm).ar = vs.length
    · simp [hwi, har, hlt, <- ha, eAtom, cStr, eReln, s47_4, s47_5, ]
      exact back (i + 1) ⟨by omega, hst' (by simp [hlk, har])⟩ (by omega) rfl (by simp <;> omega) (by simp) (by simp)
    · have := hb (hnot (by simp [hlk, har]))
      simp [this, har, hlt, <- ha, eAtom, cStr, eReln, s47_4, s47_5, ]
  · have := allTo_done hat (by omega)
    simp [hlt, s47_4, s47_5, ]
    refine call_f (w_spec_IsValidQuery q hsq) (by simp [hqe]) rfl fun hs1 hh1 => ?_
    simp at hh1
    cases hq : queryOk q
    · simp [qryFor, hq, s47_4, s47_5, ]
    simp [s47_4, s47_5, ]
    refine call_f (w_spec_IsValidDatabase d hst) (by simp [hde]) rfl fun hs2 hh2 => ?_
    simp at hh2
    simp [qryFor, hq, this, s47_4, s47_5, ]
end
end Go.Proofs.YtmgphabeodaokaaGreat
namespace Go.Proofs.YtmgphabeodaokaaGreat
open Go.Vs Go.Proofs Go
set_option maxRecDepth 100000
set_option maxHeartbeats 1000000
section
attribute [local simp] plI_id plStr_id map_plI map_plStr
theorem e_impl_copyQuery (q : PQuery) (h1 : q.atoms.length <= 1000) (h2 : ∀ a ∈ q.atoms, a.vars.length <= 1000) (h3 : q.out.length <= 1000) (hst : ∀ a ∈ q.atoms, a.rel.length <= maxLen) : VC Tryz.prog 60 [.agg ((eQuery q).map V.d)]
   (fun n v => ∃ y : Query, v = .agg ((cQuery y).map V.d) /\ plQuery y = q /\ okQuery y /\ Good (cQuery y) (whQuery y) n) := by
  refine VC.of E s60 (by kernel_rfl) Tryz.func60 (by rfl) (by kernel_rfl) (by simp [Tryz.f60]) (by simp [Tryz.f60]) s60_ok fun B => ?_
  obtain ⟨qn, l, qo⟩ := q
  simp only at h1 h2 h3 hst
  simp [Tryz.f60, s60_5, s60_5, eQuery, pS, cI, cP]
  refine cutT (X := Ints) (fun y0 hs => plS plI y0 = qo /\ okS okI y0 /\ Good (cS cI y0) (whS whI y0) B /\ ∀ g ∈ idsL (cS cI y0), g < hs) (fun _ => [(1, .ptr 1 0 0), (2, .ptr 2 0 0), (3, .ptr 3 0 0)])
    (fun y0 => [(1, some (.box [.d (.int .i64 qn), .d (.pl (l.map eAtom)), .d (.pl (qo.map cI))])), (2, some (.box [.d (.int .i64 0), .d (.sl none none []), .d (.sl none none [])])), (3, some (.box [.d (.int .i64 qn), .d (.sl none none []), .d (dSl cI y0)]))]) ?_ ?_
  · intro K hK
    simp [s60_1, ]
    repeat' apply And.intro
    all_goals
      refine call_some (e_impl_copyInts qo (by omega)) (by simp [pS, cI]) (by simp) fun n1 hs1 r1 hn1 hm1 hp1 hr1 => ?_
      obtain ⟨y0, rfl, p0, k0, G0⟩ := hp1
      simp at hn1
      have u0 : ∀ g ∈ idsL (cS cI y0), g < hs1 := fun g hg => hr1 g (by rw [idsL_cS] at hg; exact hg)
      simp [s60_1, ]
      exact hK y0 _ ⟨p0, k0, G0.le (by omega), u0⟩ rfl rfl (by simp <;> omega) (by simp) (by simp)
  rintro y0 hs0 t m ⟨p0, k0, G0, u0⟩ hh0
  simp [s60_1, s60_5, ]
  refine loop_ruleL (X := Nat × List Atom) (CopI cAtom whAtom okAtom plAtom l hs0) (fun p => [(1, .ptr 1 0 0), (2, .ptr 2 0 0), (3, .ptr 3 0 0), (13, .d (.pl (l.map eAtom))), (14, .d (.int .i64 l.length)), (15, .d (.int .i64 p.1))]) (fun p => [(2, some (.box [.d (.int .i64 0), .d (.sl none none []), .d (.sl none none [])])), (3, some (.box [.d (.int .i64 qn), .own 28 0 p.2.length, .d (dSl cI y0)])), (28, some (.row 78 2 (p.2.map cAtom)))]) (fun p => l.length - p.1) ?_ ?_
  · refine (lead_box 3 1 28 78 2 [.d (.int .i64 qn), .d (.sl none none []), .d (dSl cI y0)] (by omega) (by omega) (by omega) (by simp) rfl).bind ?_
    rintro _ rfl
    exact Lead.of ⟨(0, []), .zero, rfl, rfl, Nat.le_refl _, by simp, by simp⟩
  rintro ⟨i, ys⟩ hs t m hI hh
  have hle := hI.le
  have hyl := hI.len
  simp only at hle
  by_cases hlt : i < l.length
  · have hwi := wr1 (i := i) (by omega)
    have hL : LenOk 40 (ys.length + 1) := ⟨by omega, by simp only [maxLen]; omega⟩
    have hr := h2 _ (List.getElem_mem hlt)
    have hn := hst _ (List.getElem_mem hlt)
    obtain ⟨nm, vs, hT⟩ : ∃ nm vs, l[i] = ⟨nm, vs⟩ := ⟨_, _, rfl⟩
    rw [hT] at hr hn
    simp only at hr hn
    refine anyQ2 fun Q => ?_
    simp [hlt, hT, s60_1, s60_5, eAtom, cStr, cI, cP, pS]
    repeat' apply And.intro
    all_goals
      refine call_some (e_impl_copyInts vs (by omega)) (by simp [pS, cI]) (by simp) fun n1 hs1 r1 hn1 hm1 hp1 hr1 => ?_
      obtain ⟨y, rfl, p1, k1, G1⟩ := hp1
      simp at hn1
      have u1 : ∀ g ∈ idsL (cAtom ⟨nm, y⟩), g < hs1 := fun g hg => hr1 g (by
        rw [cAtom, idsL_app] at hg
        have := (List.mem_append.1 hg).resolve_left (by simp [cStr, idsL, D.ids])
        rw [idsL_cS] at this; exact this)
      have Ga : Good (cAtom ⟨nm, y⟩) (whAtom ⟨nm, y⟩) n1 := Good.app (good_Str n1 nm) G1 fun g h h' => by simp [cStr, idsL, D.ids] at h
      simp [hL, hwi, s60_1, s60_5, ]
      exact back2 (i + 1, ys ++ [⟨nm, y⟩]) (hI.snoc hlt (by rw [hT]; simp only [plAtom, p1]; rfl) (show okAtom (⟨nm, y⟩ : Atom) from ⟨hn, k1⟩) (by omega) hm1 Ga u1) (by simp only; omega) rfl (by simp <;> omega) (by simp) (by simp [cAtom, cStr, cS])
  · have hall := hI.all (by omega)
    simp [hlt, s60_1, s60_5, ]
    intro γ hs' h1' hg
    obtain ⟨q1, q2⟩ := gam_at hg (k := 28) (T := 78) (sz := 2) (es := ys.map cAtom) (by simp)
    have q3 := gam_row hg (k := 28) (T := 78) (sz := 2) (es := ys.map cAtom) (by simp)
    have qf : ∀ g, γ 28 = some g -> g ∉ (dSl cI y0).ids := fun g hγ => by
      have hb := (hg.fr 28 78 2 _ g (by simp; rfl) hγ).1.box 3 [.d (.int .i64 qn), .own 28 0 ys.length, .d (dSl cI y0)] (by simp)
      simpa [V.ids, idsVL, D.ids, idsLL] using hb
    clear hg
    have hG := hI.good
    have K2 : Good (cS cAtom ⟨γ 28, some (78, 2), ys⟩) (whS whAtom ⟨γ 28, some (78, 2), ys⟩) B := good_row (fun g hg => (q1 g hg).1) (by simpa using q2) q3 ⟨hG.nd, fun g hg => Nat.le_trans hh0 (hG.lo g hg)⟩ hG.wh
    refine ⟨⟨qn, ⟨γ 28, some (78, 2), ys⟩, y0⟩, by simp [cQuery, cS, cI, dSl, List.take_of_length_le], ?_, ⟨trivial, ⟨by simp only [maxLen]; show ys.length <= _; omega, hI.ok⟩, k0⟩, ?_⟩
    · simp only [plQuery, plS, hall]
      have := p0; simp only [plS] at this; rw [this, plI_id]
    · have K1 := Good.app (good_I B qn) K2 (fun g h h' => by simp [cI, idsL, D.ids] at h)
      have K := Good.app K1 G0 (fun g h h' => by
        have h0 := u0 g h'
        rw [idsL_app] at h
        rcases List.mem_append.1 h with h | h
        · simp [cI, idsL, D.ids] at h
        · rw [idsL_cS] at h h'
          simp only [dSl, D.ids, List.mem_append] at h
          rcases h with h | h
          · exact qf g (by cases hk : γ 28 with
              | none => rw [hk] at h; simp at h
              | some z => rw [hk] at h; simp at h; rw [h]) h'
          · have := hG.lo g h; omega)
      exact ⟨K.nd, K.lo, K.wh.1.1, K.wh.1.2, K.wh.2⟩
theorem good_View0 (B : Nat) : Good (cView ⟨⟨0, nilS, nilS⟩, ⟨0, nilS, nilS⟩⟩) (whView ⟨⟨0, nilS, nilS⟩, ⟨0, nilS, nilS⟩⟩) B :=
  ⟨by simp [cView, cQuery, cCnt, nilS, cS, cI, dSl, idsL, D.ids, idsLL], by simp [cView, cQuery, cCnt, nilS, cS, cI, dSl, idsL, D.ids, idsLL], ⟨⟨trivial, ⟨⟨by simp [nilS], by simp [nilS]⟩, by simp [nilS]⟩, ⟨⟨by simp [nilS], by simp [nilS]⟩, by simp [nilS]⟩⟩, trivial, ⟨⟨by simp [nilS], by simp [nilS]⟩, by simp [nilS]⟩, ⟨⟨by simp [nilS], by simp [nilS]⟩, by simp [nilS]⟩⟩⟩
theorem e_impl_CountedFromRelation (a : PReln) : VC Tryz.prog 70 [.agg ((eReln a).map V.d)]
   (fun n r => ∃ y : Cnt, r = .tup [.agg ((cCnt y).map V.d), .d (.bool (rowsOk a.ar a.rows))] /\ plCnt y = cntOf a /\ okCnt y /\ Good (cCnt y) (whCnt y) n) := by
  refine VC.untrack (t_impl_CountedFromRelation ⟨0, nilS⟩ ⟨trivial, ok_nilS⟩) (pn_agg (pn_eReln a)) fun As h1 h2 h3 => ?_
  obtain ⟨x, rfl, hx, tx, lx⟩ := rp_args1 h1 h2 h3
  obtain ⟨s, rfl, e1⟩ := rp_agg tk_Reln hx tx
  have := t_impl_CountedFromRelation s (okReln_ln (lnVL_d _ (by simpa only [V.ln] using lx)))
  rw [e1] at this
  exact this
theorem e_impl_ProjectCounted (a : PCnt) (c : List Int) : VC Tryz.prog 71 [.agg ((eCnt a).map V.d), .d (pS cI c)]
   (fun n r => ∃ y : Cnt, r = .tup [.agg ((cCnt y).map V.d), .d (.bool (projB a c))] /\ plCnt y = projP a c /\ okCnt y /\ Good (cCnt y) (whCnt y) n) := by
  refine VC.untrack (t_impl_ProjectCounted ⟨0, nilS, nilS⟩ nilS ⟨trivial, ok_nilS, ok_nilS⟩ ok_nilS) (by have := pn_agg (pn_eCnt a); simp only [pnVL, Bool.and_true] at this ⊢; rw [this]; simp [pS, V.pn, D.pn]) fun As h1 h2 h3 => ?_
  obtain ⟨x, y, rfl, ⟨hx, tx, lx⟩, hy, ty, ly⟩ := rp_args2 h1 h2 h3
  obtain ⟨s, rfl, e1⟩ := rp_agg tk_Cnt hx tx
  obtain ⟨t, rfl, e2⟩ := rp_sl tk_I hy ty
  have := t_impl_ProjectCounted s t (okCnt_ln (lnVL_d _ (by simpa only [V.ln] using lx))) (ok_ln (c := cI) ok_lnI (by simpa [V.ln, cS, lnL] using ly))
  rw [e1, e2] at this
  exact this
theorem e_impl_NewView (d : PDb) (q : PQuery) (hst : ∀ a ∈ q.atoms, a.rel.length <= maxLen) : VC Tryz.prog 19 [.agg ((eDb d).map V.d), .agg ((eQuery q).map V.d)]
   (fun n v => ∃ y : View, v = .tup [.agg ((cView y).map V.d), .d (.bool (nvB d q))] /\ plView y = nvP d q /\ okView y /\ Good (cView y) (whView y) n) := by
  obtain ⟨dl, hdl⟩ : ∃ dl, dl = d.tabs := ⟨_, rfl⟩
  have hde : (eDb d).map V.d = [V.d (.pl (dl.map eTab))] := by rw [hdl]; simp [eDb, pS, cP]
  have hqe : (eQuery q).map V.d = [V.d (.int .i64 q.n), V.d (.pl (q.atoms.map eAtom)), V.d (.pl (q.out.map cI))] := by simp [eQuery, cI, cP, pS]
  refine VC.of E s19 (by kernel_rfl) Tryz.func19 (by rfl) (by kernel_rfl) (by simp [Tryz.f19]) (by simp [Tryz.f19]) s19_ok fun B => ?_
  simp [Tryz.f19, s19_8, hde, hqe]
  refine call_p (w_impl_bindings d q) (by simp [hde, hqe]) fun hs1 hh1 hl1 => ?_
  simp at hh1
  cases hb : bdB d q
  · simp [eReln, cI, cP, pS, s19_8, ]
    have hn : nvB d q = false := by simp only [nvB, hb, Bool.false_and]
    exact ⟨⟨⟨0, nilS, nilS⟩, ⟨0, nilS, nilS⟩⟩, ⟨by simp [cView, cQuery, cCnt, nilS, cS, cI, dSl], hn⟩, by simp only [nvP, hn]; rfl, ⟨⟨trivial, ok_nilS, ok_nilS⟩, trivial, ok_nilS, ok_nilS⟩, good_View0 B⟩
  simp [eReln, cI, cP, pS, s19_8, ]
  refine call_some ((e_impl_CountedFromRelation (bdP d q)).er (by simp [eReln, cI, cP, pS])) (by simp) (by simp) fun n1 hs2 r1 hn1 hm1 hp1 hr1 => ?_
  obtain ⟨⟨xa, xr, xc⟩, rfl, p1, k1, G1⟩ := hp1
  simp at hn1
  simp [cCnt, cS, cI, dSl, s19_8, ]
  refine call_some ((e_impl_ProjectCounted (cntOf (bdP d q)) q.out).er (by rw [<- p1]; simp [eCnt, plCnt, er_SI, er_I, cS, cP, pS, erLL_map (er_cS er_cI), erLL_map er_cI, plS])) (by simp) (by simp) fun n2 hs3 r2 hn2 hm2 hp2 hr2 => ?_
  obtain ⟨⟨ya, yr, yc⟩, rfl, p2, k2, G2⟩ := hp2
  simp at hn2
  have u2 : ∀ g ∈ idsL (cCnt ⟨ya, yr, yc⟩), g < hs3 := fun g hg => hr2 g (by rw [<- ids_agg] at hg; simp [V.ids, idsVL] at hg ⊢; exact hg)
  cases hj : projB (cntOf (bdP d q)) q.out
  · simp [cCnt, cS, cI, dSl, s19_8, ]
    have hn : nvB d q = false := by simp only [nvB, hj, Bool.and_false]
    exact ⟨⟨⟨0, nilS, nilS⟩, ⟨0, nilS, nilS⟩⟩, ⟨by simp [cView, cQuery, cCnt, nilS, cS, cI, dSl], hn⟩, by simp only [nvP, hn]; rfl, ⟨⟨trivial, ok_nilS, ok_nilS⟩, trivial, ok_nilS, ok_nilS⟩, good_View0 B⟩
  have hn : nvB d q = true := by simp only [nvB, hb, hj, Bool.and_true]
  simp [cCnt, cS, cI, dSl, s19_8, ]
  have f : Qf d q := qf_of (by cases h : qryFor d q with | true => rfl | false => simp [bdB, h] at hb)
  have ho : q.out.length <= 1000 := by have := f.out5; omega
  repeat' apply And.intro
  all_goals
    refine call_some ((e_impl_copyQuery q (by have := f.a4; omega) (fun a h => by have := f.vlen a h; omega) ho hst).er (by simp [hqe])) (by simp) (by simp) fun n3 hs4 r3 hn3 hm3 hp3 hr3 => ?_
    obtain ⟨⟨za, zr, zc⟩, rfl, p3, k3, G3⟩ := hp3
    simp at hn3
    simp [cQuery, cS, cI, dSl, s19_8, ]
    refine ⟨⟨⟨za, zr, zc⟩, ⟨ya, yr, yc⟩⟩, ⟨by simp [cView, cQuery, cCnt, cS, cI, dSl], hn⟩, by simp only [nvP, nvR, hn, if_true, plView, p2, p3], ⟨k3, k2⟩, ?_⟩
    exact Good.app (G3.le (by omega)) (G2.le (by omega)) fun g h h' => by
      have := u2 g h'; have := G3.lo g h; omega
end
end Go.Proofs.YtmgphabeodaokaaGreat
namespace Go.Proofs.YtmgphabeodaokaaGreat
open Go.Vs Go.Proofs Go
set_option maxRecDepth 100000
set_option maxHeartbeats 1000000
section
attribute [local simp] plI_id plStr_id map_plI map_plStr
def ivB (d : PDb) (v : PView) : Bool := nvB d v.q && decide (nvR d v.q = v.r)
theorem p_impl_NewView (d : PDb) (q : PQuery) (hst : ∀ a ∈ q.atoms, a.rel.length <= maxLen) : VC Tryz.prog 19 [.agg ((eDb d).map V.d), .agg ((eQuery q).map V.d)]
   (fun _ v => v = .tup [.agg ((eView (nvP d q)).map V.d), .d (.bool (nvB d q))]) :=
  VC.plain2 er_cView (e_impl_NewView d q hst)
end
end Go.Proofs.YtmgphabeodaokaaGreat
namespace Go.Proofs.YtmgphabeodaokaaGreat
open Go.Vs Go.Proofs Go
set_option maxRecDepth 100000
set_option maxHeartbeats 1000000
section
attribute [local simp] plI_id plStr_id map_plI map_plStr pS cP cI
theorem w_spec_NegateCounted (z : PCnt) (h1 : z.rows.length <= 4294967296) (h2 : ∀ r ∈ z.rows, r.length <= 4294967296) (h3 : z.cs.length <= 4294967296) : VC Tryz.prog 51 [.agg ((eCnt z).map V.d)] (fun _ v => v = .agg ((eCnt (negW z)).map V.d)) := by
  obtain ⟨za, zr, zc⟩ := z
  simp only at h1 h2 h3
  refine VC.ofL EP s51 (by kernel_rfl) Tryz.func51 (by rfl) (by kernel_rfl) (by simp [Tryz.f51]) (by simp [Tryz.f51]) s51_ok fun B hl => ?_
  simp [Tryz.f51, s51_6, s51_6, eCnt]
  refine call_p (w_spec_l5Copy ⟨0, zr⟩ h1 h2) (by simp [eReln]) fun hs1 hh1 hl1 => ?_
  simp at hh1
  simp [eReln, s51_6, ]
  refine loop_ruleL (X := Nat) (fun i _ => i <= zc.length) (fun i => [(1, .ptr 1 0 0), (2, .ptr 2 0 0), (4, .ptr 4 0 0), (5, .d (.int .i64 i))])
    (fun i => [(1, some (.box [.d (.int .i64 za), .d (.pl (zr.map (cP cI))), .d (.pl (zc.map cI))])), (2, some (.box [.d (.int .i64 0), .d (.sl none none []), .d (.sl none none [])])),
      (4, some (.box [.d (.int .i64 za), .d (.pl (zr.map (cP cI))), .own 31 0 i])), (31, some (.row 3 1 (((zc.take i).map neg64).map cI)))]) (fun i => zc.length - i) ?_ ?_
  · refine (lead_box 4 2 31 3 1 [.d (.int .i64 za), .d (.pl (zr.map (cP cI))), .d (.sl none none [])] (by omega) (by omega) (by omega) (by simp) rfl).bind ?_
    rintro _ rfl
    exact Lead.of ⟨0, by simp, rfl, rfl, Nat.le_refl _, by simp, by simp⟩
  · intro i hs t m hi hh
    by_cases hlt : i < zc.length
    · have hwi := wr1 (i := i) (by omega)
      have hL : LenOk 8 (i + 1) := ⟨by omega, by simp only [maxLen]; omega⟩
      have hmin : min i zc.length = i := by omega
      simp [hlt, hwi, hL, hmin, s51_6, ]
      refine back2 (i + 1) (by omega) (by omega) rfl (by simp) (by simp) ?_
      have e1 : List.take (i + 1) (List.map (cI ∘ neg64) zc) = List.take i (List.map (cI ∘ neg64) zc) ++ [cI (neg64 zc[i])] := by
        rw [List.take_succ_eq_append_getElem (by simpa using hlt)]; simp
      simp
      rw [e1]; simp [neg64]
    · have hn : i = zc.length := by omega
      subst hn
      simp [negW, List.take_of_length_le]
def vdG (d : PDb) (q : PQuery) (x : PDelta) : Bool := appB d x && nvB d q && nvB (appP d x) q
def vdR (d : PDb) (q : PQuery) (x : PDelta) : PCnt := if vdG d q x then addCP (nvR (appP d x) q) (negW (nvR d q)) else ⟨0, [], []⟩
def vdB (d : PDb) (q : PQuery) (x : PDelta) : Bool := vdG d q x && addCB (nvR (appP d x) q) (negW (nvR d q))
end
end Go.Proofs.YtmgphabeodaokaaGreat
namespace Go.Proofs.YtmgphabeodaokaaGreat
open Go.Vs Go.Proofs Go
set_option maxRecDepth 100000
set_option maxHeartbeats 1000000
section
attribute [local simp] plI_id plStr_id map_plI map_plStr
theorem p_impl_ApplyDelta (d : PDb) (x : PDelta) (hz : szDb d) (hst : ∀ t ∈ d.tabs, t.name.length <= maxLen) (hnm : x.name.length <= maxLen) :
   VC Tryz.prog 33 [.agg ((eDb d).map V.d), .agg ((eDelta x).map V.d)] (fun _ v => v = .tup [.agg ((eDb (appP d x)).map V.d), .d (.bool (appB d x))]) := by
  refine VC.untrack (t_impl_ApplyDelta ⟨nilS⟩ ⟨[], ⟨0, nilS⟩, ⟨0, nilS⟩⟩ ok_nilS ⟨by simp [okStr, maxLen], ⟨trivial, ok_nilS⟩, ⟨trivial, ok_nilS⟩⟩ ⟨by simp [plDb, plS, nilS], by simp [plDb, plS, nilS]⟩)
    (by have h1 := pn_agg (pn_eDb d); have h2 := pn_agg (pn_eDelta x); simp only [pnVL, Bool.and_true] at h1 h2 ⊢; rw [h1, h2]; rfl) fun As h1 h2 h3 => ?_
  obtain ⟨a, b, rfl, ⟨ha, ta, la⟩, hb, tb, lb⟩ := rp_args2 h1 h2 h3
  obtain ⟨s, rfl, e1⟩ := rp_agg tk_Db ha ta
  obtain ⟨t, rfl, e2⟩ := rp_agg tk_Delta hb tb
  have := VC.plain2 er_cDb (t_impl_ApplyDelta s t (okDb_ln (lnVL_d _ (by simpa only [V.ln] using la)) (by rw [e1]; exact hst)) (okDelta_ln (lnVL_d _ (by simpa only [V.ln] using lb)) (by rw [e2]; exact hnm)) (by rw [e1]; exact hz))
  rw [e1, e2] at this
  exact this
theorem p_impl_NegateCounted (z : PCnt) (h1 : z.rows.length <= 4294967296) (h2 : ∀ r ∈ z.rows, r.length <= 4294967296) (h3 : z.cs.length <= 4294967296) : VC Tryz.prog 57 [.agg ((eCnt z).map V.d)] (fun _ v => v = .agg ((eCnt (negW z)).map V.d)) := by
  refine VC.untrack (t_impl_NegateCounted ⟨0, nilS, nilS⟩ ⟨trivial, ok_nilS, ok_nilS⟩ (by simp [nilS]) (by simp [nilS]) (by simp [nilS])) (pn_agg (pn_eCnt z)) fun As k1 k2 k3 => ?_
  obtain ⟨x, rfl, hx, tx, lx⟩ := rp_args1 k1 k2 k3
  obtain ⟨s, rfl, e1⟩ := rp_agg tk_Cnt hx tx
  have q1 := congrArg PCnt.rows e1
  have q3 := congrArg PCnt.cs e1
  simp only [plCnt, plS] at q1 q3
  have := VC.plain1 er_cCnt (t_impl_NegateCounted s (okCnt_ln (lnVL_d _ (by simpa only [V.ln] using lx))) (by rw [<- q1] at h1; simpa using h1) (fun r hr => by
    have := h2 (plS plI r) (by rw [<- q1]; exact List.mem_map_of_mem hr)
    simpa [plS] using this) (by rw [<- q3] at h3; simpa using h3))
  rw [e1] at this
  exact this
theorem e_impl_AddCounted (a b : PCnt) : VC Tryz.prog 56 [.agg ((eCnt a).map V.d), .agg ((eCnt b).map V.d)]
   (fun n r => ∃ y : Cnt, r = .tup [.agg ((cCnt y).map V.d), .d (.bool (addCB a b))] /\ plCnt y = addCP a b /\ okCnt y /\ Good (cCnt y) (whCnt y) n) := by
  refine VC.untrack (t_impl_AddCounted ⟨0, nilS, nilS⟩ ⟨0, nilS, nilS⟩ ⟨trivial, ok_nilS, ok_nilS⟩ ⟨trivial, ok_nilS, ok_nilS⟩)
    (by have h1 := pn_agg (pn_eCnt a); have h2 := pn_agg (pn_eCnt b); simp only [pnVL, Bool.and_true] at h1 h2 ⊢; rw [h1, h2]; rfl) fun As h1 h2 h3 => ?_
  obtain ⟨x, y, rfl, ⟨ha, ta, la⟩, hb, tb, lb⟩ := rp_args2 h1 h2 h3
  obtain ⟨s, rfl, e1⟩ := rp_agg tk_Cnt ha ta
  obtain ⟨t, rfl, e2⟩ := rp_agg tk_Cnt hb tb
  have := t_impl_AddCounted s t (okCnt_ln (lnVL_d _ (by simpa only [V.ln] using la))) (okCnt_ln (lnVL_d _ (by simpa only [V.ln] using lb)))
  rw [e1, e2] at this
  exact this
theorem e_impl_ViewDelta (d : PDb) (q : PQuery) (x : PDelta) (hz : szDb d) (hst : ∀ t ∈ d.tabs, t.name.length <= maxLen) (hsq : ∀ a ∈ q.atoms, a.rel.length <= maxLen) (hnm : x.name.length <= maxLen) :
   VC Tryz.prog 11 [.agg ((eDb d).map V.d), .agg ((eQuery q).map V.d), .agg ((eDelta x).map V.d)]
   (fun n r => ∃ y : Cnt, r = .tup [.agg ((cCnt y).map V.d), .d (.bool (vdB d q x))] /\ plCnt y = vdR d q x /\ okCnt y /\ Good (cCnt y) (whCnt y) n) := by
  obtain ⟨dl, hdl⟩ : ∃ dl, dl = d.tabs := ⟨_, rfl⟩
  have hde : (eDb d).map V.d = [V.d (.pl (dl.map eTab))] := by rw [hdl]; simp [eDb, pS, cP]
  have hqe : (eQuery q).map V.d = [V.d (.int .i64 q.n), V.d (.pl (q.atoms.map eAtom)), V.d (.pl (q.out.map cI))] := by simp [eQuery, pS, cP, cI]
  have hxe : (eDelta x).map V.d = [V.d (.str x.name), V.d (.int .i64 x.ins.ar), V.d (.pl (x.ins.rows.map (cP cI))), V.d (.int .i64 x.del.ar), V.d (.pl (x.del.rows.map (cP cI)))] := by simp [eDelta, eReln, cStr, pS, cP, cI]
  obtain ⟨el, hel⟩ : ∃ el, el = (appP d x).tabs := ⟨_, rfl⟩
  have hee : (eDb (appP d x)).map V.d = [V.d (.pl (el.map eTab))] := by rw [hel]; simp [eDb, pS, cP]
  have hv : ∀ q : PQuery, ∀ d : PDb, nvB d q = true -> (nvP d q).r = nvR d q := fun q d h => by simp [nvP, h]
  refine VC.of E s11 (by kernel_rfl) Tryz.func11 (by rfl) (by kernel_rfl) (by simp [Tryz.f11]) (by simp [Tryz.f11]) s11_ok fun B => ?_
  simp [Tryz.f11, s11_6, hde, hqe, hxe]
  refine call_p (p_impl_ApplyDelta d x hz hst hnm) (by simp [hde, hxe]) fun hs1 hh1 hl1 => ?_
  simp at hh1
  simp [hee, s11_6, ]
  refine call_p (p_impl_NewView (appP d x) q hsq) (by simp [hee, hqe]) fun hs2 hh2 hl2 => ?_
  simp at hh2
  simp [eView, eQuery, eCnt, cI, cP, pS, s11_6, ]
  refine call_p (p_impl_NewView d q hsq) (by simp [hde, hqe]) fun hs3 hh3 hl3 => ?_
  simp at hh3
  cases h1 : appB d x <;> cases h2 : nvB d q <;> cases h3 : nvB (appP d x) q
  case true.true.true =>
    obtain ⟨s1, s2, s3⟩ := nvR_small h2
    have hG : vdG d q x = true := by simp only [vdG, h1, h2, h3, Bool.and_self]
    simp [eView, eQuery, eCnt, cI, cP, pS, s11_6, ]
    rw [hv _ _ h2, hv _ _ h3]
    repeat' apply And.intro
    all_goals
      refine call_p (p_impl_NegateCounted (nvR d q) s1 s2 s3) (by simp [eCnt, cI, cP, pS]) fun hs4 hh4 hl4 => ?_
      simp at hh4
      simp [eCnt, cI, cP, pS, s11_6, ]
      refine call_some ((e_impl_AddCounted (nvR (appP d x) q) (negW (nvR d q))).er (by simp [eCnt, cI, cP, pS])) (by simp) (by simp) fun n5 hs5 r5 hn5 hm5 hp5 hr5 => ?_
      obtain ⟨⟨ya, yr, yc⟩, rfl, p5, k5, G5⟩ := hp5
      simp at hn5
      simp [cCnt, cS, cI, dSl, s11_6, ]
      exact ⟨⟨ya, yr, yc⟩, ⟨by simp [cCnt, cS, cI, dSl], by simp [vdB, hG]⟩, by simp only [vdR, hG, if_true, p5], k5, G5.le (by omega)⟩
  all_goals
    have hG : vdG d q x = false := by simp only [vdG, h1, h2, h3, Bool.and_false, Bool.false_and]
    simp [vdR, vdB, hG, eView, eQuery, eCnt, cI, cP, pS, s11_6, ]
    exact ⟨⟨0, nilS, nilS⟩, by simp [cCnt, nilS, cS, cI, dSl], by rfl, ⟨trivial, ok_nilS, ok_nilS⟩, good_Cnt0 B⟩
end
end Go.Proofs.YtmgphabeodaokaaGreat
namespace Go.Proofs.YtmgphabeodaokaaGreat
open Go.Vs Go.Proofs Go
set_option maxRecDepth 100000
set_option maxHeartbeats 1000000
section
attribute [local simp] plI_id plStr_id map_plI map_plStr
def avG (d : PDb) (v : PView) (x : PDelta) : Bool := ivB d v && vdB d v.q x
def avB (d : PDb) (v : PView) (x : PDelta) : Bool := avG d v x && addCB v.r (vdR d v.q x)
def avP (d : PDb) (v : PView) (x : PDelta) : PView := if avB d v x then ⟨v.q, addCP v.r (vdR d v.q x)⟩ else ⟨⟨0, [], []⟩, ⟨0, [], []⟩⟩
theorem ivB_nv {d : PDb} {v : PView} (h : ivB d v = true) : nvB d v.q = true /\ nvR d v.q = v.r := by
  simpa only [ivB, Bool.and_eq_true, decide_eq_true_eq] using h
theorem p_impl_ViewDelta (d : PDb) (q : PQuery) (x : PDelta) (hz : szDb d) (hst : ∀ t ∈ d.tabs, t.name.length <= maxLen) (hsq : ∀ a ∈ q.atoms, a.rel.length <= maxLen) (hnm : x.name.length <= maxLen) :
   VC Tryz.prog 11 [.agg ((eDb d).map V.d), .agg ((eQuery q).map V.d), .agg ((eDelta x).map V.d)]
   (fun _ r => r = .tup [.agg ((eCnt (vdR d q x)).map V.d), .d (.bool (vdB d q x))]) := VC.plain2 er_cCnt (e_impl_ViewDelta d q x hz hst hsq hnm)
end
end Go.Proofs.YtmgphabeodaokaaGreat
